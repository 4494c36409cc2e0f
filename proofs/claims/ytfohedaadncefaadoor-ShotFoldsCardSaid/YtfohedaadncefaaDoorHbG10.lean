/- Plain laws: a change played by searching is a change played as the document says. -/
import Derived.Test.YtfohedaadncefaaDoorHbG7
import Derived.Test.YtfohedaadncefaaDoorHbG4
import Derived.Test.YtfohedaadncefaaDoorHbD8
namespace Go.Proofs.YtfohedaadncefaaDoor.HBT
open Go Go.Proofs.YtfohedaadncefaaDoor.HB Go.RowKit
set_option maxRecDepth 8000

abbrev Lt (x y : Sn) : Prop := orderB x.p y.p < 0
theorem sorted_pw {l : List Sn} : Sorted l l.length ↔ l.Pairwise Lt := by
  rw [List.pairwise_iff_getElem]
  constructor
  · intro h i j hi hj hij
    exact h i j _ _ hij hj (List.getElem?_eq_getElem hi) (List.getElem?_eq_getElem hj)
  · intro h j k x y hjk hk ex ey
    obtain ⟨hj', e1⟩ := List.getElem?_eq_some_iff.1 ex
    obtain ⟨hk', e2⟩ := List.getElem?_eq_some_iff.1 ey
    rw [← e1, ← e2]
    exact h j k hj' hk' hjk

/-- A list of nodes that may be a shot's. -/
structure Good (l : List Sn) : Prop where
  pw : l.Pairwise Lt
  pl : ∀ x ∈ l, parseE x.p = 0
  le : l.length ≤ 64

theorem split_at {l : List Sn} {q : Nat} {x : Sn} (h : l[q]? = some x) : l = l.take q ++ x :: l.drop (q + 1) := by
  obtain ⟨hq, e⟩ := List.getElem?_eq_some_iff.1 h
  rw [← e, ← List.drop_eq_getElem_cons hq, List.take_append_drop]

theorem Found.split {l : List Sn} {p : ByteArray} {i : Nat} {b : Bool} (hf : Found l l.length p i b) (hs : l.Pairwise Lt) :
    (∀ x ∈ l.take i, orderB x.p p < 0) ∧ (∀ x ∈ l.drop i, ¬ orderB x.p p < 0) ∧ (b = true ↔ inL l p) ∧ (b = true → ∃ x : Sn, l[i]? = some x ∧ x.p = p) := by
  have hS := sorted_pw.2 hs
  have hfi := found_iff hf hS
  obtain ⟨h0, h1, h2, h3⟩ := hf
  refine ⟨fun x hx => ?_, fun x hx => ?_, ?_, fun hb => ?_⟩
  · obtain ⟨j, hj⟩ := List.getElem?_of_mem hx
    rw [List.getElem?_take] at hj
    split at hj
    · rename_i hji
      rcases h1 with h1 | ⟨y, ey, hy⟩
      · omega
      · by_cases e : j = i - 1
        · subst e; rw [hj] at ey; cases ey; exact hy
        · exact orderB_trans (hS j (i - 1) x y (by omega) (by omega) hj ey) hy
    · cases hj
  · obtain ⟨j, hj⟩ := List.getElem?_of_mem hx
    rw [List.getElem?_drop] at hj
    have hlt := (List.getElem?_eq_some_iff.1 hj).1
    rcases h2 with h2 | ⟨y, ey, hy⟩
    · omega
    · by_cases e : j = 0
      · subst e; rw [Nat.add_zero, ey] at hj; cases hj; exact hy
      · intro h4
        exact hy (orderB_trans (hS i (i + j) y x (by omega) (by omega) ey hj) h4)
  · rw [hfi]
    constructor
    · rintro ⟨k, x, _, ex, hx⟩
      exact ⟨x, List.mem_of_getElem? ex, hx⟩
    · rintro ⟨x, hx, e⟩
      obtain ⟨k, hk⟩ := List.getElem?_of_mem hx
      exact ⟨k, x, (List.getElem?_eq_some_iff.1 hk).1, hk, e⟩
  · obtain ⟨_, x, ex, hx⟩ := h3.1 hb
    exact ⟨x, ex, orderB_eq.1 hx⟩

theorem putL_app {n : Sn} : ∀ {A : List Sn} (_ : ∀ x ∈ A, ¬ orderB n.p x.p < 0) (B : List Sn), putL n (A ++ B) = A ++ putL n B
  | [], _, _ => rfl
  | a :: A, h, B => by
    rw [List.cons_append, putL_cons, if_neg (h a (by simp)), putL_app (fun x hx => h x (by simp [hx])) B]
    rfl
theorem putL_head {n : Sn} {B : List Sn} (h : ∀ x ∈ B, orderB n.p x.p < 0) : putL n B = n :: B := by
  cases B with
  | nil => rfl
  | cons b B => rw [putL_cons, if_pos (h b (by simp))]
theorem putL_mem {n x : Sn} : ∀ {l : List Sn}, x ∈ putL n l ↔ x = n ∨ x ∈ l
  | [] => by simp [putL]
  | y :: l => by
    rw [putL_cons]
    split
    · simp
    · rw [List.mem_cons, @putL_mem n x l, List.mem_cons]
      constructor
      · rintro (h | h | h)
        · exact .inr (.inl h)
        · exact .inl h
        · exact .inr (.inr h)
      · rintro (h | h | h)
        · exact .inr (.inl h)
        · exact .inl h
        · exact .inr (.inr h)
theorem lt_of_not {p q : ByteArray} (h : ¬ orderB p q < 0) (hne : q ≠ p) : orderB q p < 0 := by
  have h1 := orderB_swap p q
  rcases Int.lt_trichotomy (orderB q p) 0 with h2 | h2 | h2
  · exact h2
  · exact absurd (orderB_eq.1 h2) hne
  · omega
theorem not_lt_of {p q : ByteArray} (h : orderB p q < 0) : ¬ orderB q p < 0 := by
  have h1 := orderB_swap p q
  omega
theorem putL_pw {n : Sn} : ∀ {l : List Sn}, l.Pairwise Lt → (∀ x ∈ l, x.p ≠ n.p) → (putL n l).Pairwise Lt
  | [], _, _ => by simp [putL]
  | y :: l, h, hne => by
    rw [List.pairwise_cons] at h
    rw [putL_cons]
    split
    · rename_i hlt
      refine List.pairwise_cons.2 ⟨fun x hx => ?_, List.pairwise_cons.2 h⟩
      rcases List.mem_cons.1 hx with rfl | hx
      · exact hlt
      · exact orderB_trans hlt (h.1 x hx)
    · rename_i hlt
      refine List.pairwise_cons.2 ⟨fun x hx => ?_, putL_pw h.2 (fun x hx => hne x (by simp [hx]))⟩
      rcases putL_mem.1 hx with rfl | hx
      · exact lt_of_not hlt (hne y (by simp))
      · exact h.1 x hx

theorem pw_split {l : List Sn} (h : l.Pairwise Lt) {q : Nat} {x : Sn} (ex : l[q]? = some x) : (∀ y ∈ l.take q, orderB y.p x.p < 0) ∧ (∀ y ∈ l.drop (q + 1), orderB x.p y.p < 0) := by
  have e := split_at ex
  rw [e, List.pairwise_append, List.pairwise_cons] at h
  exact ⟨fun y hy => h.2.2 y hy x (by simp), h.2.1.1⟩
theorem pw_inj {l : List Sn} (h : l.Pairwise Lt) {q i : Nat} {x y : Sn} (ex : l[q]? = some x) (ey : l[i]? = some y) (e : x.p = y.p) : q = i := by
  have hS := sorted_pw.2 h
  have hq := (List.getElem?_eq_some_iff.1 ex).1
  have hi := (List.getElem?_eq_some_iff.1 ey).1
  rcases Nat.lt_trichotomy q i with h1 | h1 | h1
  · have := hS q i x y h1 hi ex ey
    rw [e, orderB_self] at this
    exact absurd this (by decide)
  · exact h1
  · have := hS i q y x h1 hq ey ex
    rw [e, orderB_self] at this
    exact absurd this (by decide)

theorem covers_ref (kd : Int) (pl : ByteArray) (k : Int) (p : ByteArray) : coversP kd pl k p ↔ coversR kd pl k p := by
  have bt : beginsP (namesOf p) (namesOf pl) ↔ (namesOf pl).length ≤ (namesOf p).length ∧ (namesOf p).take (namesOf pl).length = namesOf pl := by
    unfold beginsP
    refine and_congr_right fun hl => ⟨fun h => ?_, fun h i hi => ?_⟩
    · apply List.ext_getElem?
      intro i
      rw [List.getElem?_take]
      split
      · rename_i hi; exact h i hi
      · rename_i hi; rw [List.getElem?_eq_none (by omega)]
    · rw [← h, List.getElem?_take, if_pos hi]
  unfold coversP coversR
  constructor
  · rintro ⟨h1, h2, h3, h4, hb, hk⟩
    obtain ⟨hl, ht⟩ := bt.1 hb
    obtain ⟨okw, ew⟩ := place_names h1
    obtain ⟨okc, ec⟩ := place_names h2
    have heq : p = pl ↔ (namesOf p).length = (namesOf pl).length := by
      constructor
      · rintro rfl; rfl
      · intro h
        rw [ec, ew, ← ht, ← h, List.take_length]
    refine ⟨⟨h1, h2⟩, ⟨h3, h4⟩, ?_, ?_⟩
    · rcases hk with ⟨h, _⟩ | ⟨h, _⟩ | h <;> omega
    by_cases he : p = pl
    · refine .inl ⟨he, ?_⟩
      rcases hk with ⟨h, _⟩ | ⟨h, h5, _⟩ | h
      · exact .inl (by omega)
      · exact .inr h5
      · exact .inl (by omega)
    · have hne : (namesOf p).length ≠ (namesOf pl).length := fun h => he (heq.2 h)
      have hbelow : belowR p pl := by
        unfold belowR namesR
        rw [if_pos h1, if_pos h2]
        exact ⟨by omega, ht⟩
      refine .inr ⟨he, hbelow, ?_, ?_⟩
      · rcases hk with ⟨_, h⟩ | ⟨h, _⟩ | h
        · exact absurd h hne
        · omega
        · omega
      · rcases hk with ⟨_, h⟩ | ⟨h, h5, h6⟩ | h
        · exact absurd h hne
        · refine .inr ⟨h5, ?_⟩
          have hn : namesOf p ≠ [] := fun e => by rw [e] at hl hne; simp at hl hne; rw [hl] at hne; simp at hne
          have := (parent_placed okc).2 hn
          rw [← ec] at this
          rw [this, show (namesOf p).length - 1 = (namesOf pl).length by omega, ht]
          exact ew.symm
        · exact .inl h
  · rintro ⟨⟨h1, h2⟩, ⟨h3, h4⟩, h5, h6⟩
    obtain ⟨okw, ew⟩ := place_names h1
    obtain ⟨okc, ec⟩ := place_names h2
    rcases h6 with ⟨rfl, h6⟩ | ⟨hne, hbelow, h7, h8⟩
    · refine ⟨h1, h2, h3, h4, ⟨Nat.le_refl _, fun _ _ => rfl⟩, ?_⟩
      by_cases k1 : kd = 1
      · exact .inl ⟨k1, rfl⟩
      · by_cases k2 : kd = 2
        · exact .inr (.inl ⟨k2, h6.resolve_left (fun h => h k2), by omega⟩)
        · exact .inr (.inr (by omega))
    · unfold belowR namesR at hbelow
      rw [if_pos h1, if_pos h2] at hbelow
      refine ⟨h1, h2, h3, h4, bt.2 ⟨by omega, hbelow.2⟩, ?_⟩
      rcases h8 with h8 | ⟨h8, h9⟩
      · exact .inr (.inr h8)
      · by_cases k3 : kd = 3
        · exact .inr (.inr k3)
        · refine .inr (.inl ⟨by omega, h8, ?_⟩)
          have hn : namesOf p ≠ [] := fun e => by rw [e] at hbelow; simp at hbelow
          have h10 := (parent_placed okc).2 hn
          rw [← ec, h9, ew] at h10
          have h11 := placed_inj okw (okc.take _) h10
          rw [h11, List.length_take]
          have := hbelow.1
          omega
end Go.Proofs.YtfohedaadncefaaDoor.HBT
/- Plain laws: the step of a fold, said once for the shot's text and for the document's. -/
namespace Go.Proofs.YtfohedaadncefaaDoor.HBT
open Go Go.Proofs.YtfohedaadncefaaDoor.HB Go.RowKit
set_option maxRecDepth 8000

theorem between : ∀ {C Z R : List UInt8}, orderL C Z < 0 → ¬ orderL (C ++ 47 :: R) Z < 0 → ∃ t, Z = C ++ 47 :: t
  | [], [], _, h, _ => by simp [orderL] at h
  | [], z :: Z, R, _, k => by
    rw [List.nil_append] at k
    simp only [orderL] at k
    have h47 : rank 47 = -1 := by decide
    by_cases h1 : rank 47 < rank z
    · rw [if_pos h1] at k; exact absurd (by decide) k
    · have hz : z = 47 := by
        refine rank_inj ?_
        rw [h47] at h1 ⊢
        have : -1 ≤ rank z := by unfold rank; split <;> omega
        omega
      exact ⟨Z, by rw [hz]; rfl⟩
  | c :: C, [], _, h, _ => by simp [orderL] at h
  | c :: C, z :: Z, R, h, k => by
    rw [List.cons_append] at k
    simp only [orderL] at h k
    by_cases h1 : rank c < rank z
    · rw [if_pos h1] at k; exact absurd (by decide) k
    · rw [if_neg h1] at h k
      by_cases h2 : rank z < rank c
      · rw [if_pos h2] at h; exact absurd h (by decide)
      · rw [if_neg h2] at h k
        have : z = c := rank_inj (by omega)
        obtain ⟨t, ht⟩ := between h k
        exact ⟨t, by rw [this, ht]; rfl⟩

theorem cut_append : ∀ (a b : List UInt8), cut (a ++ 47 :: b) = cut a ++ cut b
  | [], b => by simp [cut]
  | c :: a, b => by
    have ih := cut_append a b
    rw [List.cons_append]
    by_cases hc : c = 47
    · simp only [cut, if_pos hc, ih, List.cons_append]
    · simp only [cut, if_neg hc, ih]
      cases e : cut a with
      | nil => exact absurd e (cut_ne_nil a)
      | cons p ps => simp

theorem join_cons (x y : List UInt8) (l : List (List UInt8)) : Lib.join (x :: y :: l) [47] = x ++ 47 :: Lib.join (y :: l) [47] := by
  simp [Lib.join, List.intercalate]
theorem join_append : ∀ (a b : List (List UInt8)), a ≠ [] → b ≠ [] → Lib.join (a ++ b) [47] = Lib.join a [47] ++ 47 :: Lib.join b [47]
  | [], _, h, _ => absurd rfl h
  | [x], y :: b, _, _ => by
    rw [List.cons_append, List.nil_append, join_cons]
    simp [Lib.join, List.intercalate]
  | x :: x' :: a, b, _, hb => by
    have ih := join_append (x' :: a) b (by simp) hb
    rw [List.cons_append] at ih
    rw [List.cons_append, List.cons_append, join_cons, join_cons, ih]
    simp

/-- What lies between a place and one below it, lies below it. -/
theorem below_between {c z y : ByteArray} (hc : parseE c = 0) (hz : parseE z = 0) (hy : parseE y = 0) (hs : c ≠ slash) (h1 : orderB c z < 0) (h2 : ¬ orderB y z < 0) (hb : belowR y c) : belowR z c := by
  obtain ⟨okc, ec⟩ := place_names hc
  obtain ⟨okz, ez⟩ := place_names hz
  obtain ⟨oky, ey⟩ := place_names hy
  unfold belowR namesR at hb ⊢
  rw [if_pos hc, if_pos hy] at hb
  rw [if_pos hc, if_pos hz]
  obtain ⟨hl, ht⟩ := hb
  have hne : namesOf c ≠ [] := fun e => hs (by rw [ec]; exact (placed_slash okc).2 e)
  have hsp : namesOf y = namesOf c ++ (namesOf y).drop (namesOf c).length := by
    have := List.take_append_drop (namesOf c).length (namesOf y)
    rw [ht] at this
    exact this.symm
  have hdr : (namesOf y).drop (namesOf c).length ≠ [] := fun e => by
    have := congrArg List.length e
    rw [List.length_drop] at this
    simp at this
    omega
  have dc : c.data.toList = 47 :: joinB (namesOf c) := by rw [congrArg (fun q : ByteArray => q.data.toList) ec, placed_data]
  have dz : z.data.toList = 47 :: joinB (namesOf z) := by rw [congrArg (fun q : ByteArray => q.data.toList) ez, placed_data]
  have dy : y.data.toList = 47 :: (joinB (namesOf c) ++ 47 :: joinB ((namesOf y).drop (namesOf c).length)) := by
    rw [congrArg (fun q : ByteArray => q.data.toList) ey, placed_data]
    congr 1
    conv => lhs; rw [hsp]
    unfold joinB
    rw [List.map_append]
    exact join_append _ _ (by simpa using hne) (by simpa using hdr)
  unfold orderB at h1 h2
  rw [dc, dz] at h1
  rw [dy, dz] at h2
  simp only [orderL, Int.lt_irrefl, if_false] at h1 h2
  obtain ⟨t, ht2⟩ := between h1 h2
  have hcz : (namesOf z).map (·.data.toList) = (namesOf c).map (·.data.toList) ++ cut t := by
    have g1 : cut (joinB (namesOf z)) = (namesOf z).map (·.data.toList) := by
      have hnz : namesOf z ≠ [] := fun e => by
        rw [e] at ht2
        have : joinB [] = [] := rfl
        rw [this] at ht2
        simp at ht2
      exact cut_join _ (by simpa using hnz) (fun x hx => by
        obtain ⟨w, hw, rfl⟩ := List.mem_map.1 hx
        exact name_no_slash (okz.2 w hw))
    have g2 : cut (joinB (namesOf c)) = (namesOf c).map (·.data.toList) := cut_join _ (by simpa using hne) (fun x hx => by
      obtain ⟨w, hw, rfl⟩ := List.mem_map.1 hx
      exact name_no_slash (okc.2 w hw))
    rw [← g1, ht2, cut_append, g2]
  have hlen := congrArg List.length hcz
  rw [List.length_append, List.length_map, List.length_map] at hlen
  have hcl := List.length_pos_iff.2 (cut_ne_nil t)
  refine ⟨by omega, ?_⟩
  apply map_bytes_inj
  rw [List.map_take, hcz, List.take_left' (by rw [List.length_map])]

theorem place_small {s : ByteArray} (h : parseE s = 0) : s.size ≤ 102 := by
  unfold parseE at h
  split at h
  · cases h
  · omega

/-- The step, q being where the place stands, if it does: whatever q. -/
theorem stepR_q {kd : Int} {pl : ByteArray} {l : List Sn} (hg : Good l) {c : Ch} {q q' : Nat} (hq : inL l c.p → ∃ x : Sn, l[q]? = some x ∧ x.p = c.p) (hq' : inL l c.p → ∃ x : Sn, l[q']? = some x ∧ x.p = c.p) : stepR kd pl l c q = stepR kd pl l c q' := by
  by_cases h : inL l c.p
  · obtain ⟨x, ex, hx⟩ := hq h
    obtain ⟨y, ey, hy⟩ := hq' h
    rw [pw_inj hg.pw ex ey (hx.trans hy.symm)]
  · unfold stepR
    split
    · rfl
    split
    · rfl
    split
    · rfl
    split
    · rw [if_pos (.inl h), if_pos (.inl h)]
    · rw [if_pos (.inl h), if_pos (.inl h)]

/-- The step of the shot's text is the document's. -/
theorem stepP_R {kd : Int} {pl : ByteArray} {l : List Sn} (hg : Good l) {c : Ch} (hk1 : 1 ≤ c.k) (hk3 : c.k ≤ 3) (hp : parseE c.p = 0) (hcov : coversR kd pl c.k c.p) {i j q : Nat} {b rb : Bool}
    (hf : Found l l.length c.p i b) (hf2 : Found l l.length (parentB c.p) j rb) (hq : inL l c.p → ∃ x : Sn, l[q]? = some x ∧ x.p = c.p) : stepP kd pl l c i b rb = stepR kd pl l c q := by
  obtain ⟨f1, f2, f3, f4⟩ := hf.split hg.pw
  obtain ⟨_, _, g3, _⟩ := hf2.split hg.pw
  have hle := hg.le
  unfold stepP stepR
  rw [if_neg (show ¬ (c.k < 1 ∨ 3 < c.k ∨ parseE c.p ≠ 0) by rintro (h | h | h); omega; omega; exact h hp), if_neg (show ¬ ¬ coversR kd pl c.k c.p from fun h => h hcov)]
  have hnp : (nodeC kd c).p = c.p := by unfold nodeC; split <;> rfl
  split
  · -- made
    rename_i hk
    by_cases hc : b = true ∨ (c.p ≠ pl ∧ rb = false) ∨ ¬ fitC c ∨ l.length = 64
    · rw [if_pos hc, if_pos]
      rcases hc with h | h | h | h
      · exact .inl (f3.1 h)
      · exact .inr (.inl ⟨h.1, fun h2 => by rw [g3.2 h2] at h; exact absurd h.2 (by decide)⟩)
      · exact .inr (.inr (.inl h))
      · exact .inr (.inr (.inr (by omega)))
    · have hnb : ¬ inL l c.p := fun h => hc (.inl (f3.2 h))
      rw [if_neg hc, if_neg]
      · congr 1
        have e := List.take_append_drop i l
        conv => rhs; rw [← e]
        rw [putL_app (fun x hx => by rw [hnp]; exact not_lt_of (f1 x hx)), putL_head (fun x hx => by
          rw [hnp]
          exact lt_of_not (f2 x hx) (fun e2 => hnb ⟨x, List.mem_of_mem_drop hx, e2.symm⟩))]
      · rintro (h | h | h | h)
        · exact hnb h
        · refine hc (.inr (.inl ⟨h.1, ?_⟩))
          cases rb
          · rfl
          · exact absurd (g3.1 rfl) h.2
        · exact hc (.inr (.inr (.inl h)))
        · exact hc (.inr (.inr (.inr (by omega))))
  split
  · -- set
    rename_i hk
    by_cases hc : b = false ∨ ¬ fitC c
    · rw [if_pos hc, if_pos]
      rcases hc with h | h
      · exact .inl (fun h2 => by rw [f3.2 h2] at h; cases h)
      · exact .inr h
    · have hb : b = true := by cases b; exact absurd (.inl rfl) hc; rfl
      have hin := f3.1 hb
      rw [if_neg hc, if_neg (by rintro (h | h); exact h hin; exact hc (.inr h))]
      congr 1
      obtain ⟨x, ex, hx⟩ := f4 hb
      obtain ⟨y, ey, hy⟩ := hq hin
      have hqi : q = i := pw_inj hg.pw ey ex (hy.trans hx.symm)
      subst hqi
      have hn : nodeC kd c = ⟨c.p, c.d, c.v⟩ := by
        unfold nodeC
        rw [if_neg]
        intro h2
        rcases hcov.2.2.2 with ⟨_, h | h⟩ | ⟨_, _, _, h | h⟩
        · exact h h2
        · exact h hk
        · omega
        · exact h.1 hk
      obtain ⟨p1, p2⟩ := pw_split hg.pw ex
      rw [hn, List.eraseIdx_eq_take_drop_succ, putL_app (fun z hz => by have := p1 z hz; rw [hx] at this; exact not_lt_of this), putL_head (fun z hz => by have := p2 z hz; rw [hx] at this; exact this)]
      have hil := (List.getElem?_eq_some_iff.1 ex).1
      rw [List.set_eq_take_append_cons_drop, if_pos hil]
  · -- gone
    rename_i hk1' hk2'
    by_cases hc : b = false ∨ c.p = slash
    · rw [if_pos hc, if_pos]
      rcases hc with h | h
      · exact .inl (fun h2 => by rw [f3.2 h2] at h; cases h)
      · exact .inr h
    · have hb : b = true := by cases b; exact absurd (.inl rfl) hc; rfl
      have hs : c.p ≠ slash := fun h => hc (.inr h)
      have hin := f3.1 hb
      have hR : ¬ (¬ inL l c.p ∨ c.p = slash) := by rintro (h | h); exact h hin; exact hs h
      rw [if_neg hc, if_neg hR]
      obtain ⟨x, ex, hx⟩ := f4 hb
      obtain ⟨y, ey, hy⟩ := hq hin
      have hqi : q = i := pw_inj hg.pw ey ex (hy.trans hx.symm)
      subst hqi
      have hS := sorted_pw.2 hg.pw
      have hiff : ((match l[q + 1]? with | some y => decide (belowB y.p c.p) | none => false) = true) ↔ ∃ y ∈ l, belowR y.p c.p := by
        constructor
        · intro h
          cases e : l[q + 1]? with
          | none => rw [e] at h; cases h
          | some z =>
            rw [e] at h
            have hz := hg.pl z (List.mem_of_getElem? e)
            exact ⟨z, List.mem_of_getElem? e, (below_places hz hp).2 (of_decide_eq_true h)⟩
        · rintro ⟨z, hz, hbl⟩
          obtain ⟨k, hk⟩ := List.getElem?_of_mem hz
          have hkl := (List.getElem?_eq_some_iff.1 hk).1
          have hzp := hg.pl z hz
          have hcz : orderB c.p z.p < 0 := by
            obtain ⟨okc, ec⟩ := place_names hp
            obtain ⟨okz, ez⟩ := place_names hzp
            have hb2 := hbl
            unfold belowR namesR at hb2
            rw [if_pos hp, if_pos hzp] at hb2
            obtain ⟨t, ht, e⟩ := join_take ((namesOf z.p).map (·.data.toList)) (namesOf c.p).length (by simp; exact hb2.1) (fun w hw => by
              obtain ⟨u, hu, rfl⟩ := List.mem_map.1 hw
              exact name_ne_nil (okz.2 u hu))
            unfold orderB
            rw [congrArg (fun q : ByteArray => q.data.toList) ec, congrArg (fun q : ByteArray => q.data.toList) ez, placed_data, placed_data]
            have e2 : joinB (namesOf z.p) = joinB (namesOf c.p) ++ t := by
              unfold joinB
              rw [e, ← List.map_take, hb2.2]
            rw [e2, ← List.cons_append]
            exact orderL_prefix _ _ ht
          have hqk : q < k := by
            rcases Nat.lt_trichotomy q k with h | h | h
            · exact h
            · subst h
              rw [ex] at hk; cases hk
              rw [hx, orderB_self] at hcz
              exact absurd hcz (by decide)
            · have := hS k q z x h (List.getElem?_eq_some_iff.1 ex).1 hk ex
              rw [hx] at this
              exact absurd this (not_lt_of hcz)
          obtain ⟨w, ew⟩ : ∃ w, l[q + 1]? = some w := ⟨l[q + 1]'(by omega), List.getElem?_eq_getElem (by omega)⟩
          have hwp := hg.pl w (List.mem_of_getElem? ew)
          have hcw : orderB c.p w.p < 0 := by
            have := hS q (q + 1) x w (by omega) (by omega) ex ew
            rwa [hx] at this
          have hzw : ¬ orderB z.p w.p < 0 := by
            by_cases e : k = q + 1
            · subst e
              rw [ew] at hk; cases hk
              rw [orderB_self]; decide
            · exact not_lt_of (hS (q + 1) k w z (by omega) hkl ew hk)
          rw [ew]
          exact decide_eq_true ((below_places hwp hp).1 (below_between hp hwp hzp hs hcw hzw hbl))
      cases e : l[q + 1]? with
      | none =>
        have hn : ¬ ∃ y ∈ l, belowR y.p c.p := fun hb => by have := hiff.2 hb; rw [e] at this; cases this
        rw [if_neg hn, if_neg (by simp), List.eraseIdx_eq_take_drop_succ]
      | some z =>
        by_cases hz : belowB z.p c.p
        · have hb : ∃ y ∈ l, belowR y.p c.p := hiff.1 (by rw [e]; exact decide_eq_true hz)
          rw [if_pos hb, if_pos (by simpa using hz)]
        · have hn : ¬ ∃ y ∈ l, belowR y.p c.p := fun hb => by have := hiff.2 hb; rw [e] at this; exact hz (of_decide_eq_true this)
          rw [if_neg hn, if_neg (by simpa using hz), List.eraseIdx_eq_take_drop_succ]

/-- Where a place stands. -/
def atL (l : List Sn) (p : ByteArray) : Nat := l.findIdx fun x => decide (x.p = p)
theorem atL_spec {l : List Sn} {p : ByteArray} (h : inL l p) : ∃ x : Sn, l[atL l p]? = some x ∧ x.p = p := by
  obtain ⟨x, hx, e⟩ := h
  have hlt : atL l p < l.length := List.findIdx_lt_length_of_exists ⟨x, hx, by simpa using e⟩
  have := List.findIdx_getElem (w := hlt)
  exact ⟨_, List.getElem?_eq_getElem hlt, of_decide_eq_true this⟩
/-- One change played. -/
noncomputable def stepD (kd : Int) (pl : ByteArray) (l : List Sn) (c : Ch) : Option (List Sn) := stepR kd pl l c (atL l c.p)
theorem stepD_of {kd : Int} {pl : ByteArray} {l : List Sn} (hg : Good l) {c : Ch} {q : Nat} (hq : inL l c.p → ∃ x : Sn, l[q]? = some x ∧ x.p = c.p) : stepR kd pl l c q = stepD kd pl l c := stepR_q hg hq atL_spec

theorem stepD_good {kd : Int} {pl : ByteArray} {l l' : List Sn} (hg : Good l) {c : Ch} (h : stepD kd pl l c = some l') : Good l' := by
  have hle := hg.le
  unfold stepD stepR at h
  split at h
  · cases h
  rename_i hbad
  have hp : parseE c.p = 0 := Classical.byContradiction fun h2 => hbad (.inr (.inr h2))
  have hnp : (nodeC kd c).p = c.p := by unfold nodeC; split <;> rfl
  split at h
  · cases h; exact hg
  split at h
  · split at h
    · cases h
    · rename_i hc
      cases h
      refine ⟨putL_pw hg.pw (fun x hx e => hc (.inl ⟨x, hx, e.trans hnp⟩)), fun x hx => ?_, ?_⟩
      · rcases putL_mem.1 hx with rfl | hx
        · rw [hnp]; exact hp
        · exact hg.pl x hx
      · rw [putL_len]
        have : ¬ 64 ≤ l.length := fun h => hc (.inr (.inr (.inr h)))
        omega
  split at h
  · split at h
    · cases h
    · rename_i hc
      cases h
      have hin : inL l c.p := Classical.byContradiction fun h2 => hc (.inl h2)
      obtain ⟨x, ex, hx⟩ := atL_spec hin
      obtain ⟨p1, p2⟩ := pw_split hg.pw ex
      have hil := (List.getElem?_eq_some_iff.1 ex).1
      refine ⟨putL_pw (hg.pw.sublist (List.eraseIdx_sublist l _)) (fun y hy e => ?_), fun y hy => ?_, ?_⟩
      · rw [List.eraseIdx_eq_take_drop_succ] at hy
        have e : y.p = c.p := e
        rcases List.mem_append.1 hy with hy | hy
        · have := p1 y hy
          rw [hx, e, orderB_self] at this
          exact absurd this (by decide)
        · have := p2 y hy
          rw [hx, e, orderB_self] at this
          exact absurd this (by decide)
      · rcases putL_mem.1 hy with rfl | hy
        · exact hp
        · exact hg.pl y ((List.eraseIdx_sublist l _).mem hy)
      · rw [putL_len, List.length_eraseIdx, if_pos hil]
        omega
  split at h
  · cases h
  split at h
  · cases h
  · cases h
    exact ⟨hg.pw.sublist (List.eraseIdx_sublist l _), fun y hy => hg.pl y ((List.eraseIdx_sublist l _).mem hy), Nat.le_trans (List.Sublist.length_le (List.eraseIdx_sublist l _)) hle⟩

/-- Changes played, one behind the other. -/
noncomputable def foldD (kd : Int) (pl : ByteArray) : List Sn → List Ch → Option (List Sn)
  | l, [] => some l
  | l, c :: cs => match stepD kd pl l c with
    | some l' => foldD kd pl l' cs
    | none => none
end Go.Proofs.YtfohedaadncefaaDoor.HBT
