/- The tree, plainly: counted places, what always holds of the nodes. -/
import Derived.Test.YtcbjcmigecocgaaGreatDoorTwD1
set_option linter.unusedVariables false
set_option linter.unusedSimpArgs false
namespace Go.Proofs.YtcbjcmigecocgaaGreatDoor.HBT
open Go Go.Proofs.YtcbjcmigecocgaaGreatDoor.HB Go.RowKit
set_option maxRecDepth 8000

theorem join_flat : ∀ l : List (List UInt8), l ≠ [] → 47 :: Lib.join l [47] = (l.map fun x => 47 :: x).flatten
  | [], h => absurd rfl h
  | [x], _ => by rw [Lib.join_one]; simp
  | x :: y :: l, _ => by
    have e : Lib.join (x :: y :: l) [47] = x ++ ([47] ++ Lib.join (y :: l) [47]) := by simp [Lib.join, List.intercalate, List.intersperse]
    have ih := join_flat (y :: l) (by simp)
    rw [e, List.map_cons, List.flatten_cons, ← ih]
    simp
theorem placed_flat {l : List ByteArray} (h : l ≠ []) : (placedB l).data.toList = (l.map fun x => 47 :: x.data.toList).flatten := by
  rw [placed_data]
  unfold joinB
  rw [join_flat _ (by simpa using h), List.map_map]
  rfl
theorem placed_nil : placedB [] = slash := (placed_slash ⟨by simp, by simp⟩).2 rfl
theorem parse_slash : parseE slash = 0 := by unfold parseE; rw [if_neg (by decide), if_pos rfl]
theorem names_slash : namesOf slash = [] := by unfold namesOf; rw [if_pos rfl]
theorem placed_longer (l : List ByteArray) (x : ByteArray) (t : ByteArray) : placedB (l ++ [x ++ t]) = placedB (l ++ [x]) ++ t := by
  apply bytes_inj
  rw [placed_flat (by simp)]
  have : (placedB (l ++ [x]) ++ t).data.toList = (placedB (l ++ [x])).data.toList ++ t.data.toList := by simp [ByteArray.data_append]
  rw [this, placed_flat (by simp)]
  simp [ByteArray.data_append]
theorem place_split {p : ByteArray} (h : parseE p = 0) (hn : namesOf p ≠ []) : ∃ l x, namesOf p = l ++ [x] ∧ okNames (l ++ [x]) ∧ p = placedB (l ++ [x]) ∧ parentB p = placedB l ∧ parentE p = 0 ∧ okNames l := by
  obtain ⟨h1, h2⟩ := place_names h
  obtain ⟨l, x, e⟩ : ∃ l x, namesOf p = l ++ [x] := ⟨(namesOf p).dropLast, (namesOf p).getLast hn, (List.dropLast_concat_getLast hn).symm⟩
  rw [e] at h1 h2
  have h3 := parent_placed h1
  rw [← h2] at h3
  refine ⟨l, x, e, h1, h2, ?_, ?_, ?_⟩
  · rw [h3.2 (by simp)]; simp
  · rw [h3.1, if_neg (by simp)]
  · have := h1.take l.length
    simpa using this
theorem names_iff {p : ByteArray} (h : parseE p = 0) : namesOf p = [] ↔ p = slash := by
  obtain ⟨h1, h2⟩ := place_names h
  constructor
  · intro e; rw [e] at h2; rw [h2, placed_nil]
  · intro e; rw [e]; exact names_slash
theorem parentE_zero {p : ByteArray} (h : parentE p = 0) : parseE p = 0 ∧ p ≠ slash := by
  unfold parentE at h
  split at h
  · omega
  · rename_i h1
    have h1 : parseE p = 0 := Classical.not_not.1 h1
    split at h
    · cases h
    · rename_i h2
      exact ⟨h1, fun e => h2 ((names_iff h1).2 e)⟩
theorem parentE_of {p : ByteArray} (h : parseE p = 0) (hn : p ≠ slash) : parentE p = 0 := by
  unfold parentE
  rw [if_neg (by omega), if_neg fun e => hn ((names_iff h).1 e)]
theorem parse_not47 (p : ByteArray) : parseE p ≠ 47 := by
  unfold parseE
  repeat' split
  all_goals decide
theorem parentE_47 {p : ByteArray} : parentE p = 47 ↔ p = slash := by
  constructor
  · intro h
    unfold parentE at h
    split at h
    · exact absurd h (parse_not47 p)
    · rename_i h1
      split at h
      · rename_i h2; exact (names_iff (Classical.not_not.1 h1)).1 h2
      · cases h
  · intro h
    subst h
    unfold parentE
    rw [if_neg (by rw [parse_slash]; decide), if_pos names_slash]
theorem place_size {p : ByteArray} (h : parseE p = 0) : p.size ≤ 102 := by
  unfold parseE at h
  split at h
  · cases h
  · omega

/-! ### Counted places -/
theorem digs_length (n : Nat) : (digs n).length = 5 := rfl
theorem digs_name (n : Nat) : ∀ b ∈ digs n, nameByte b.toNat = true := by
  intro b hb
  unfold digs at hb
  obtain ⟨d, hd, rfl⟩ := List.mem_map.1 hb
  have hd10 : d < 10 := by
    simp only [List.mem_cons, List.mem_nil_iff, or_false] at hd
    rcases hd with rfl | rfl | rfl | rfl | rfl <;> exact Nat.mod_lt _ (by decide)
  have : (UInt8.ofNat (48 + d)).toNat = 48 + d := by
    rw [UInt8.toNat_ofNat']
    omega
  rw [this]
  unfold nameByte
  have h1 : decide (48 ≤ 48 + d) = true := by simp
  have h2 : decide (48 + d ≤ 57) = true := by simp; omega
  rw [h1, h2]
  simp
theorem size_list (s : ByteArray) : s.size = s.data.toList.length := by rw [Array.length_toList]; rfl
theorem counted_name {x : ByteArray} (h : isNameB x = true) (h11 : x.size ≤ 11) (k : Int) : isNameB (x ++ ⟨(digs k.toNat).toArray⟩) = true := by
  have hd : (x ++ (⟨(digs k.toNat).toArray⟩ : ByteArray)).data.toList = x.data.toList ++ digs k.toNat := by simp [ByteArray.data_append]
  have hs : (x ++ (⟨(digs k.toNat).toArray⟩ : ByteArray)).size = x.size + 5 := by rw [size_list, hd, List.length_append, digs_length, size_list]
  unfold isNameB at h ⊢
  simp only [Bool.and_eq_true, decide_eq_true_eq] at h ⊢
  refine ⟨⟨⟨⟨fun e => ?_, by omega⟩, fun e => ?_⟩, fun e => ?_⟩, ?_⟩
  · rw [e] at hs; have : (⟨#[]⟩ : ByteArray).size = 0 := rfl; omega
  · rw [e] at hs; have : (⟨#[46]⟩ : ByteArray).size = 1 := rfl; omega
  · rw [e] at hs; have : (⟨#[46, 46]⟩ : ByteArray).size = 2 := rfl; omega
  · rw [hd, List.all_append, Bool.and_eq_true]
    exact ⟨h.2, List.all_eq_true.2 fun b hb => digs_name _ b hb⟩
theorem counted_place {p : ByteArray} (h : parentE p = 0) (hl : longB p = false) (k : Int) : parentE (countedB p k) = 0 ∧ parseE (countedB p k) = 0 ∧ parentB (countedB p k) = parentB p := by
  obtain ⟨h1, h2⟩ := parentE_zero h
  obtain ⟨l, x, e1, e2, e3, e4, _, e6⟩ := place_split h1 fun e => h2 ((names_iff h1).1 e)
  have h11 : x.size ≤ 11 := by
    unfold longB at hl
    rw [e1, List.getLast?_concat] at hl
    simp at hl
    exact hl
  have hn := counted_name (e2.2 x (by simp)) h11 k
  have hok : okNames (l ++ [x ++ ⟨(digs k.toNat).toArray⟩]) := by
    refine ⟨by have := e2.1; simpa using this, fun y hy => ?_⟩
    rcases List.mem_append.1 hy with hy | hy
    · exact e6.2 y hy
    · simp at hy; subst hy; exact hn
  have e : countedB p k = placedB (l ++ [x ++ ⟨(digs k.toNat).toArray⟩]) := by rw [placed_longer, ← e3]; rfl
  have h3 := parent_placed hok
  rw [← e] at h3
  refine ⟨by rw [h3.1, if_neg (by simp)], by rw [e]; exact (names_placed hok).1, ?_⟩
  rw [h3.2 (by simp), e4]
  simp

/-! ### What always holds -/
def okX (x : Fu) : Prop := parseE x.p = 0 ∧ x.d.size ≤ 64 ∧ (0 ≤ x.v ∧ x.v ≤ 2147483647) ∧ (0 ≤ x.m ∧ x.m ≤ 2147483647) ∧ (0 ≤ x.c ∧ x.c ≤ 2147483647) ∧ (0 ≤ x.o ∧ x.o ≤ 2147483647) ∧ (0 ≤ x.k ∧ x.k ≤ 100000) ∧ (x.o = 0 ∨ x.k = 0)
structure TInv (l : List Fu) : Prop where
  sorted : Sorted l
  len : l.length ≤ 64
  root : ∃ r ∈ l, r.p = slash ∧ r.o = 0
  ok : ∀ x ∈ l, okX x
  up : ∀ x ∈ l, x.p ≠ slash → ∃ a ∈ l, a.p = parentB x.p ∧ a.o = 0

def rootF : Fu := ⟨slash, eS, 0, 0, 0, 0, 0⟩
theorem TInv.new : TInv [rootF] where
  sorted := List.pairwise_singleton _ _
  len := by simp
  root := ⟨rootF, by simp, rfl, rfl⟩
  ok := fun x hx => by
    simp at hx; subst hx
    refine ⟨parse_slash, by decide, ?_⟩
    decide
  up := fun x hx h => by simp at hx; subst hx; exact absurd rfl h

theorem upd_mem {l : List Fu} {a x : Fu} (h : x ∈ upd l a) : x = a ∨ x ∈ l := by
  unfold upd at h
  obtain ⟨y, hy, e⟩ := List.mem_map.1 h
  split at e
  · exact .inl e.symm
  · exact .inr (e ▸ hy)
theorem upd_of {l : List Fu} {a y : Fu} (h : y ∈ l) : ∃ z ∈ upd l a, z.p = y.p ∧ (z = y ∨ z = a) := by
  unfold upd
  by_cases e : y.p = a.p
  · exact ⟨a, List.mem_map.2 ⟨y, h, by rw [if_pos e]⟩, e.symm, .inr rfl⟩
  · exact ⟨y, List.mem_map.2 ⟨y, h, by rw [if_neg e]⟩, rfl, .inl rfl⟩
theorem upd_len (l : List Fu) (a : Fu) : (upd l a).length = l.length := by unfold upd; rw [List.length_map]

theorem TInv.upd {l : List Fu} (h : TInv l) {a a' : Fu} (ha : a ∈ l) (hp : a'.p = a.p) (ho : a'.o = a.o) (hok : okX a') : TInv (HBT.upd l a') where
  sorted := upd_sorted h.sorted
  len := by rw [upd_len]; exact h.len
  root := by
    obtain ⟨r, hr, e1, e2⟩ := h.root
    obtain ⟨z, hz, e3, e4⟩ := upd_of (a := a') hr
    refine ⟨z, hz, e3.trans e1, ?_⟩
    rcases e4 with rfl | rfl
    · exact e2
    · have := mem_uniq h.sorted.nodup hr ha (by rw [← e3, hp])
      rw [ho, ← this]; exact e2
  ok := fun x hx => (upd_mem hx).elim (fun e => e ▸ hok) (h.ok x)
  up := fun x hx hn => by
    have : ∃ y ∈ l, y.p = x.p := by
      rcases upd_mem hx with rfl | hx
      · exact ⟨a, ha, hp.symm⟩
      · exact ⟨x, hx, rfl⟩
    obtain ⟨y, hy, e⟩ := this
    obtain ⟨b, hb, e1, e2⟩ := h.up y hy (by rw [e]; exact hn)
    obtain ⟨z, hz, e3, e4⟩ := upd_of (a := a') hb
    refine ⟨z, hz, by rw [e3, e1, e], ?_⟩
    rcases e4 with rfl | rfl
    · exact e2
    · have := mem_uniq h.sorted.nodup hb ha (by rw [← e3, hp])
      rw [ho, ← this]; exact e2

theorem TInv.ins {l : List Fu} (h : TInv l) {x a : Fu} (hne : ∀ y ∈ l, y.p ≠ x.p) (hl : l.length < 64) (hok : okX x) (ha : a ∈ l) (hp : a.p = parentB x.p) (ho : a.o = 0) : TInv (HBT.ins x l) where
  sorted := ins_sorted h.sorted hne
  len := by rw [(ins_perm x l).length_eq, List.length_cons]; omega
  root := by
    obtain ⟨r, hr, e⟩ := h.root
    exact ⟨r, (ins_perm x l).mem_iff.2 (.tail _ hr), e⟩
  ok := fun y hy => by
    rcases List.mem_cons.1 ((ins_perm x l).mem_iff.1 hy) with rfl | hy
    · exact hok
    · exact h.ok y hy
  up := fun y hy hn => by
    rcases List.mem_cons.1 ((ins_perm x l).mem_iff.1 hy) with rfl | hy
    · exact ⟨a, (ins_perm _ l).mem_iff.2 (.tail _ ha), hp, ho⟩
    · obtain ⟨b, hb, e⟩ := h.up y hy hn
      exact ⟨b, (ins_perm x l).mem_iff.2 (.tail _ hb), e⟩

theorem TInv.filter {l : List Fu} (h : TInv l) (f : Fu → Bool) (hr : ∀ x ∈ l, f x = false → x.p ≠ slash) (hk : ∀ x ∈ l, f x = false → ∀ y ∈ l, f y = true → childB y.p x.p → x.o ≠ 0) : TInv (l.filter f) where
  sorted := h.sorted.filter _
  len := Nat.le_trans (List.length_filter_le _ _) h.len
  root := by
    obtain ⟨r, hm, e1, e2⟩ := h.root
    refine ⟨r, List.mem_filter.2 ⟨hm, ?_⟩, e1, e2⟩
    cases hf : f r with
    | true => rfl
    | false => exact absurd e1 (hr r hm hf)
  ok := fun x hx => h.ok x (List.mem_filter.1 hx).1
  up := fun x hx hn => by
    obtain ⟨hx1, hx2⟩ := List.mem_filter.1 hx
    obtain ⟨a, ha, e1, e2⟩ := h.up x hx1 hn
    refine ⟨a, List.mem_filter.2 ⟨ha, ?_⟩, e1, e2⟩
    cases hf : f a with
    | true => rfl
    | false => exact absurd e2 (hk a ha hf x hx1 hx2 ⟨parentE_of (h.ok x hx1).1 hn, e1.symm⟩)

theorem makeF_inv {l l' : List Fu} {s st : Int} {o : Opp} {r : Res} {cs : List Chg} (h : TInv l) (hs : 0 ≤ s ∧ s ≤ 2147483647) (ht : 1 ≤ st ∧ st ≤ 2147483647) (hp : makeF l s st o = .ok (l', r, cs)) : TInv l' := by
  unfold makeF at hp
  split at hp
  · cases hp
  rename_i hfl
  split at hp
  · cases hp
  rename_i h47
  split at hp
  · cases hp
  rename_i h10
  split at hp
  · cases hp
  rename_i h44
  split at hp
  · cases hp
  rename_i h45
  split at hp
  · cases hp
  rename_i a hfa
  split at hp
  · cases hp
  rename_i hao
  have hao : a.o = 0 := Classical.not_not.1 hao
  split at hp
  · cases hp
  rename_i h46
  split at hp
  · cases hp
  rename_i h41
  split at hp
  · cases hp
  rename_i h64
  have hp0 : parentE o.p = 0 := Classical.not_not.1 fun e => h10 (.inl e)
  obtain ⟨ham, hap⟩ := findF_some hfa
  have hx : parseE (madeX s st a o).p = 0 ∧ parentB (madeX s st a o).p = parentB o.p := by
    unfold madeX
    by_cases hc : isCnt o.f = true
    · have hlong : longB o.p = false := by
        cases e : longB o.p with
        | false => rfl
        | true => exact absurd (.inr ⟨hc, e⟩) h10
      have := counted_place hp0 hlong a.k
      simp only [hc, if_true]
      exact this.2
    · have hc : isCnt o.f = false := by simpa using hc
      simp only [hc]
      exact ⟨(parentE_zero hp0).1, rfl⟩
  have hne : ∀ y ∈ l, y.p ≠ (madeX s st a o).p := by
    cases e : findF l (madeX s st a o).p with
    | none => exact findF_none e
    | some y => rw [e] at h41; exact absurd rfl h41
  have hokx : okX (madeX s st a o) := by
    refine ⟨hx.1, by show o.d.size ≤ 64; omega, ⟨by show (0 : Int) ≤ 0; omega, by show (0 : Int) ≤ _; omega⟩, ⟨by show 0 ≤ st; omega, ht.2⟩, ⟨by show 0 ≤ st; omega, ht.2⟩, ?_, ⟨by show (0 : Int) ≤ 0; omega, by show (0 : Int) ≤ _; omega⟩, .inr rfl⟩
    show 0 ≤ (if isBrf o.f then s else 0) ∧ (if isBrf o.f then s else 0) ≤ 2147483647
    split
    · exact hs
    · omega
  have hins := h.ins hne (by omega) hokx ham (by rw [hx.2]; exact hap) hao
  have ham' : a ∈ ins (madeX s st a o) l := (ins_perm _ _).mem_iff.2 (.tail _ ham)
  cases hp
  have hka := h.ok a ham
  refine hins.upd ham' ?_ ?_ ?_
  · unfold madeA; split <;> rfl
  · unfold madeA; split <;> rfl
  · unfold madeA
    split
    · rename_i hc
      have : ¬ 99999 < a.k := fun e => h46 ⟨hc, e⟩
      obtain ⟨a1, a2, a3, a4, a5, a6, a7, a8⟩ := hka
      exact ⟨a1, a2, a3, a4, a5, a6, ⟨by show 0 ≤ a.k + 1; omega, by show a.k + 1 ≤ 100000; omega⟩, .inl hao⟩
    · exact hka

theorem playF_inv {l l' : List Fu} {s st : Int} {o : Opp} {r : Res} {cs : List Chg} (h : TInv l) (hs : 0 ≤ s ∧ s ≤ 2147483647) (ht : 1 ≤ st ∧ st ≤ 2147483647) (hp : playF l s st o = .ok (l', r, cs)) : TInv l' := by
  unfold playF at hp
  by_cases c1 : o.k < 1 ∨ 7 < o.k
  · rw [if_pos c1] at hp; cases hp
  rw [if_neg c1] at hp
  by_cases c2 : o.k = 1
  · rw [if_pos c2] at hp; exact makeF_inv h hs ht hp
  rw [if_neg c2] at hp
  by_cases c3 : parseE o.p ≠ 0
  · rw [if_pos c3] at hp; cases hp
  rw [if_neg c3] at hp
  by_cases hroot : o.k = 3 ∧ o.p = slash
  · rw [if_pos hroot] at hp; cases hp
  rw [if_neg hroot] at hp
  by_cases hlarge : o.k = 2 ∧ 64 < o.d.size
  · rw [if_pos hlarge] at hp; cases hp
  rw [if_neg hlarge] at hp
  cases hfx : findF l o.p with
  | none => rw [hfx] at hp; cases hp
  | some x =>
  rw [hfx] at hp
  dsimp only at hp
  obtain ⟨hxm, hxp⟩ := findF_some hfx
  by_cases c4 : o.k ≤ 4 ∧ o.v ≠ -1 ∧ o.v ≠ x.v
  · rw [if_pos c4] at hp; cases hp
  rw [if_neg c4] at hp
  by_cases h2 : o.k = 2
  · rw [if_pos h2] at hp
    by_cases hv : 2147483647 ≤ x.v
    · rw [if_pos hv] at hp; cases hp
    rw [if_neg hv] at hp
    cases hp
    obtain ⟨a1, a2, a3, a4, a5, a6, a7, a8⟩ := h.ok x hxm
    refine h.upd hxm rfl rfl ⟨a1, ?_, ⟨by show 0 ≤ x.v + 1; omega, by show x.v + 1 ≤ _; omega⟩, a4, ⟨by show 0 ≤ st; omega, ht.2⟩, a6, a7, a8⟩
    show o.d.size ≤ 64
    have : ¬ 64 < o.d.size := fun e => hlarge ⟨h2, e⟩
    omega
  rw [if_neg h2] at hp
  by_cases h3 : o.k = 3
  · rw [if_pos h3] at hp
    by_cases hk : kidsF l x.p ≠ []
    · rw [if_pos hk] at hp; cases hp
    rw [if_neg hk] at hp
    have hk : kidsF l x.p = [] := Classical.not_not.1 hk
    cases hp
    refine h.filter _ (fun y hy hf => ?_) fun y hy hf z hz hfz hch => ?_
    · have : y.p = x.p := by simpa using hf
      rw [this, hxp]
      exact fun e => hroot ⟨h3, e⟩
    · have e : y.p = x.p := by simpa using hf
      rw [e] at hch
      have : z ∈ kidsF l x.p := List.mem_filter.2 ⟨hz, by simpa using hch⟩
      rw [hk] at this
      cases this
  rw [if_neg h3] at hp
  by_cases h5 : o.k = 5
  · rw [if_pos h5] at hp; cases hp; exact h
  rw [if_neg h5] at hp
  by_cases h7 : o.k = 7
  · rw [if_pos h7] at hp; cases hp; exact h
  · rw [if_neg h7] at hp; cases hp; exact h

theorem goF_inv {s st : Int} (hs : 0 ≤ s ∧ s ≤ 2147483647) (ht : 1 ≤ st ∧ st ≤ 2147483647) : ∀ {os : List Opp} {l l' : List Fu} {rs rs' : List Res} {cs cs' : List Chg} {i : Nat}, TInv l → goF s st l rs cs i os = .ok (l', rs', cs') → TInv l'
  | [], _, _, _, _, _, _, _, h, e => by unfold goF at e; cases e; exact h
  | o :: os, l, l', rs, rs', cs, cs', i, h, e => by
    unfold goF at e
    split at e
    · cases e
    · rename_i l2 r c e2
      exact goF_inv hs ht (playF_inv h hs ht e2) e
theorem playR_inv {l : List Fu} {s st : Int} {ops : List Opp} (h : TInv l) : TInv (playR l s st ops).1 := by
  unfold playR
  split
  · exact h
  split
  · exact h
  rename_i hn
  split
  · exact h
  split
  · exact h
  · rename_i l' rs cs e
    exact goF_inv (by omega) (by omega) h e
theorem endF_inv {l : List Fu} {s : Int} (h : TInv l) : TInv (endF l s).1 := by
  unfold endF
  split
  · exact h
  rename_i hs
  refine h.filter _ (fun x hx hf e => ?_) fun x hx hf y hy _ hch => ?_
  · have hf : x.o = s := by simpa using hf
    obtain ⟨r, hr, e1, e2⟩ := h.root
    have := mem_uniq h.sorted.nodup hx hr (e.trans e1.symm)
    rw [this] at hf
    omega
  · have hf : x.o = s := by simpa using hf
    omega
end Go.Proofs.YtcbjcmigecocgaaGreatDoor.HBT
/- The tree's small texts: New, none, told, gone, needs; how a tree lies. -/
namespace Go.Proofs.YtcbjcmigecocgaaGreatDoor.HBT
open Go Go.Proofs.YtcbjcmigecocgaaGreatDoor.HB Go.RowKit
set_option maxRecDepth 8000

abbrev encX (x : Fu) : AV := .agg [.str x.p, .str x.d, .int .i64 x.v, .int .i64 x.m, .int .i64 x.c, .int .i64 x.o, .int .i64 x.k]
abbrev encO (o : Opp) : AV := .agg [.int .i64 o.k, .str o.p, .str o.d, .int .i64 o.v, .int .i64 o.f]
abbrev encC (c : Chg) : AV := .agg [.int .i64 c.k, .str c.p, .str c.d, .int .i64 c.v]
abbrev kidsA (l : List ByteArray) : AV := .ro 1 (l.map .str) l.length
abbrev encR (r : Res) : AV := .agg [.str r.p, .str r.d, .int .i64 r.v, .int .i64 r.m, .int .i64 r.c, .int .i64 r.o, kidsA r.kids]
abbrev tX : TypeId := 63
abbrev tC : TypeId := 72
abbrev tR : TypeId := 82
abbrev tO : TypeId := 79
abbrev tT : TypeId := 66
abbrev tW : TypeId := 77
def LN {α : Type} (e : α → AV) (t : TypeId) (sz : Nat) (k : Nat) (l : List α) (v : AV) (g : Nat) (o : AObj) : Prop := (l = [] ∧ v = .nils ∧ o = .dead) ∨ (∃ Cp, v = .sl k g Cp l.length ∧ o = .row t sz Cp (l.map e))
abbrev LX := LN encX tX 7
abbrev LC := LN encC tC 4
abbrev LR := LN encR tR 7
theorem LN.snoc {α : Type} {e : α → AV} {t : TypeId} {sz k : Nat} {l : List α} {x : α} {g Cp : Nat} : LN e t sz k (l ++ [x]) (.sl k g Cp ((l.map e).length + 1)) g (.row t sz Cp (l.map e ++ [e x])) := .inr ⟨Cp, by simp, by simp⟩
theorem LN.one {α : Type} {e : α → AV} {t : TypeId} {sz k : Nat} {l : List α} {x : α} {g Cp : Nat} (h : l = []) : LN e t sz k (l ++ [x]) (.sl k g Cp 1) g (.row t sz Cp [e x]) := .inr ⟨Cp, by subst h; rfl, by subst h; rfl⟩
def keyX (x : Fu) : Value := .string x.p
def valX (x : Fu) : Value := .agg #[.string x.p, .string x.d, .int .i64 x.v, .int .i64 x.m, .int .i64 x.c, .int .i64 x.o, .int .i64 x.k]
abbrev MX := MapOk keyX valX

def TreeL (gt gm : Nat) (es : Array MapEntry) (cl : Nat) : AHeap := [(gt, .cells tT [.any (.map (some gm))]), (gm, .obj (.map es cl))]
structure TM (l : List Fu) (es : Array MapEntry) (cl : Nat) : Prop where
  map : ∃ M : List Fu, M.Perm l ∧ MX M es cl

theorem none_spec (gt : Nat) (m : Option Nat) : FnSpec C 21 [.ptr 0 gt 0] [(gt, .cells tT [.any (.map m)])] (fun r L' => r = .bool m.isNone ∧ L' = [(gt, .cells tT [.any (.map m)])]) := by
  refine FnSpec.start C_ok Tryz.func21 rfl rfl Tryz.ntmps21 ?_
  repeat(first|refine Sc ?_|refine fun(_:Nat)=>?_)
  exact ⟨_, _, FinOk.keep _ [0] (Sub.refl _) (by decide) rfl, rfl, rfl⟩
abbrev encRk (r : Res) (kv : AV) : AV := .agg [.str r.p, .str r.d, .int .i64 r.v, .int .i64 r.m, .int .i64 r.c, .int .i64 r.o, kv]
theorem Sub.nilsRo (sz : Nat) : Sub .nils (.ro sz [] 0) := fun imm w v h => by
  cases h
  exact .ro sz [] 0 _ _ [] (by simp) (by simp) (by simp) rfl (by simp) (by simp) (by simp)
theorem told_spec (x : Fu) : FnSpec C 40 [encX x] [] (fun r L' => r = encRk (told x) .nils ∧ L' = []) := by
  refine FnSpec.start C_ok Tryz.func40 rfl rfl Tryz.ntmps40 ?_
  repeat(first|refine Sc ?_|refine fun(_:Nat)=>?_)
  exact ⟨_, [], FinOk.drop _ _, rfl, rfl⟩
theorem gone_spec (x : Fu) : FnSpec C 23 [encX x] [] (fun r L' => r = encC (goneC x) ∧ L' = []) := by
  refine FnSpec.start C_ok Tryz.func23 rfl rfl Tryz.ntmps23 ?_
  repeat(first|refine Sc ?_|refine fun(_:Nat)=>?_)
  exact ⟨_, [], FinOk.drop _ _, rfl, rfl⟩
theorem needs_spec (k : Int) : FnSpec C 37 [.int .i64 k] [] (fun r L' => r = .agg [.bool (decide (k = 1 ∨ k = 3)), .bool (decide (k = 1 ∨ k = 2)), .bool (decide (k = 2 ∨ k = 3 ∨ k = 4))] ∧ L' = []) := by
  refine FnSpec.start C_ok Tryz.func37 rfl rfl Tryz.ntmps37 ?_
  repeat(first|refine Sc ?_|refine fun(_:Nat)=>?_)
  refine ⟨fun h => ?_, fun h => ?_⟩
  · obtain rfl : k = 1 := h
    repeat(first|refine Sc ?_|refine fun(_:Nat)=>?_)
    exact ⟨_, [], FinOk.drop _ _, rfl, rfl⟩
  have h1 : ¬ k = 1 := h
  repeat(first|refine Sc ?_|refine fun(_:Nat)=>?_)
  refine ⟨fun h => ?_, fun h => ?_⟩
  · obtain rfl : k = 2 := h
    repeat(first|refine Sc ?_|refine fun(_:Nat)=>?_)
    exact ⟨_, [], FinOk.drop _ _, rfl, rfl⟩
  have h2 : ¬ k = 2 := h
  repeat(first|refine Sc ?_|refine fun(_:Nat)=>?_)
  refine ⟨fun h => ?_, fun h => ?_⟩
  · obtain rfl : k = 3 := h
    repeat(first|refine Sc ?_|refine fun(_:Nat)=>?_)
    exact ⟨_, [], FinOk.drop _ _, rfl, rfl⟩
  have h3 : ¬ k = 3 := h
  repeat(first|refine Sc ?_|refine fun(_:Nat)=>?_)
  refine ⟨fun h => ?_, fun h => ?_⟩
  · obtain rfl : k = 4 := h
    repeat(first|refine Sc ?_|refine fun(_:Nat)=>?_)
    exact ⟨_, [], FinOk.drop _ _, rfl, rfl⟩
  have h4 : ¬ k = 4 := h
  repeat(first|refine Sc ?_|refine fun(_:Nat)=>?_)
  exact ⟨_, [], FinOk.drop _ _, by simp [h1, h2, h3, h4, aret], rfl⟩
theorem new_spec : FnSpec C 7 [] [] (fun r L' => ∃ gt gm es cl, TM [rootF] es cl ∧ r = .ptr 0 gt 0 ∧ L' = TreeL gt gm es cl) := by
  refine FnSpec.start C_ok Tryz.func7 rfl rfl Tryz.ntmps7 ?_
  repeat(first|refine Sc ?_|refine fun(_:Nat)=>?_)
  rename_i gm
  refine ⟨0, #[], 0, none, rfl, rfl, ?_⟩
  repeat(first|refine Sc ?_|refine fun(_:Nat)=>?_)
  rename_i gt
  refine ⟨.ptr 0 gt 0, TreeL gt gm _ 1, FinOk.keep _ [1, 0] (Sub.ptr _ _ _ _) (by decide) rfl, gt, gm, _, 1, ⟨[rootF], .refl _, ?_⟩, rfl, rfl⟩
  exact MapOk.push (y := rootF) MapOk.nil (by simp)
end Go.Proofs.YtcbjcmigecocgaaGreatDoor.HBT
