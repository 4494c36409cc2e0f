/- The order of a walk; a trie whose watches could all be added, in any order. -/
import Derived.Test.YtgpbppkmmlclfaaDoorTtKd
import Derived.Test.YtgpbppkmmlclfaaDoorTtKn
set_option linter.unusedVariables false
set_option linter.unusedSimpArgs false
namespace Go.Proofs.YtgpbppkmmlclfaaDoor.HBT
open Go Go.Proofs.YtgpbppkmmlclfaaDoor.HB Go.RowKit Go.Shelf Go.Sort
set_option maxRecDepth 8000

theorem ordB_eq {a b : ByteArray} : orderB a b = 0 ↔ a = b := ⟨fun h => ByteArray.ext (Array.toList_inj.mp (orderL_eq.1 h)), fun h => by subst h; exact orderL_eq.2 rfl⟩
theorem ordB_swap (a b : ByteArray) : orderB b a = - orderB a b := orderL_swap _ _
theorem ordB_trans {a b c : ByteArray} (h : orderB a b < 0) (k : orderB b c < 0) : orderB a c < 0 := orderL_trans h k
def walkLt (x y : On) : Prop := orderB x.w.p y.w.p < 0 ∨ (x.w.p = y.w.p ∧ (x.s < y.s ∨ (x.s = y.s ∧ x.w.id < y.w.id)))
theorem heldC_neg {x y : On} : heldC x y < 0 ↔ walkLt x y := by
  unfold heldC walkLt
  by_cases h : orderB x.w.p y.w.p = 0
  · rw [if_pos h]
    have h1 := ordB_eq.1 h
    have h2 : tagC x.s x.w.id y.s y.w.id < 0 ↔ _ := cfT_neg (x := (x.s, x.w.id)) (y := (y.s, y.w.id))
    rw [h2]
    constructor
    · intro h3; exact .inr ⟨h1, h3⟩
    · rintro (h3 | h3)
      · omega
      · exact h3.2
  · rw [if_neg h]
    constructor
    · intro h3; exact .inl h3
    · rintro (h3 | h3)
      · exact h3
      · exact absurd (ordB_eq.2 h3.1) h
theorem walkLt_irrefl (x : On) : ¬ walkLt x x := by
  unfold walkLt
  have := (ordB_eq (a := x.w.p)).2 rfl
  omega
theorem walkLt_trans {x y z : On} (h : walkLt x y) (k : walkLt y z) : walkLt x z := by
  unfold walkLt at h k ⊢
  rcases h with h | ⟨e, h⟩
  · rcases k with k | ⟨e2, k⟩
    · exact .inl (ordB_trans h k)
    · exact .inl (e2 ▸ h)
  · rcases k with k | ⟨e2, k⟩
    · exact .inl (by rw [e]; exact k)
    · exact .inr ⟨e.trans e2, by omega⟩
theorem walkLt_total {x y : On} (h : ¬ walkLt x y) : walkLt y x ∨ (x.w.p = y.w.p ∧ x.s = y.s ∧ x.w.id = y.w.id) := by
  unfold walkLt at h ⊢
  have h1 := ordB_swap x.w.p y.w.p
  by_cases e : orderB x.w.p y.w.p = 0
  · have e2 := ordB_eq.1 e
    by_cases h2 : y.s < x.s ∨ (y.s = x.s ∧ y.w.id < x.w.id)
    · exact .inl (.inr ⟨e2.symm, h2⟩)
    · refine .inr ⟨e2, ?_⟩
      have h3 : ¬ (x.s < y.s ∨ (x.s = y.s ∧ x.w.id < y.w.id)) := fun h4 => h (.inr ⟨e2, h4⟩)
      omega
  · left; left
    have : ¬ orderB x.w.p y.w.p < 0 := fun h4 => h (.inl h4)
    omega
theorem swoH : SWO (ltOf heldC) where
  irrefl := fun x => decide_eq_false (by rw [heldC_neg]; exact walkLt_irrefl x)
  trans := fun x y z h1 h2 => by
    have h1 := heldC_neg.1 (of_decide_eq_true h1)
    have h2 := heldC_neg.1 (of_decide_eq_true h2)
    exact decide_eq_true (heldC_neg.2 (walkLt_trans h1 h2))
  ntrans := fun x y z h1 h2 => by
    have h1 := of_decide_eq_false h1
    have h2 := of_decide_eq_false h2
    rw [heldC_neg] at h1 h2
    refine decide_eq_false ?_
    rw [heldC_neg]
    intro h3
    rcases walkLt_total h2 with h4 | ⟨e1, e2, e3⟩
    · exact h1 (walkLt_trans h3 h4)
    · refine h1 ?_
      unfold walkLt at h3 ⊢
      rw [e1, e2, e3]; exact h3
def Walked (ys : List On) : Prop := ys.Pairwise fun a b => ¬ walkLt b a
theorem tg_inj {ons : List On} (hn : (ons.map tgO).Nodup) {a b : On} (ha : a ∈ ons) (hb : b ∈ ons) (h : tgO a = tgO b) : a = b := by
  obtain ⟨i, hi⟩ := List.mem_iff_getElem?.1 ha
  obtain ⟨j, hj⟩ := List.mem_iff_getElem?.1 hb
  have e2 : (ons.map tgO)[i]? = (ons.map tgO)[j]? := by rw [List.getElem?_map, List.getElem?_map, hi, hj]; exact congrArg some h
  have hil := (List.getElem?_eq_some_iff.1 hi).1
  have := (List.getElem?_inj (by simpa using hil) hn).1 e2
  subst this
  rw [hi] at hj
  exact Option.some.inj hj
theorem walked_one {xs ys : List On} (hn : (xs.map tgO).Nodup) (hp : xs.Perm ys) (hx : Walked xs) (hy : Walked ys) : xs = ys := by
  refine List.Perm.eq_of_pairwise (le := fun a b : On => ¬ walkLt b a) (fun a b ha hb h1 h2 => ?_) hx hy hp
  rcases walkLt_total h2 with h3 | ⟨_, e2, e3⟩
  · exact absurd h3 h1
  · exact tg_inj hn ha (hp.mem_iff.2 hb) (Prod.ext e2 e3)
theorem walked_strict {ys : List On} (hn : (ys.map tgO).Nodup) (hy : Walked ys) : ys.Pairwise walkLt := by
  have h2 : ys.Pairwise fun a b => tgO a ≠ tgO b := List.pairwise_map.1 hn
  refine (hy.and h2).imp ?_
  rintro a b ⟨h, hne⟩
  rcases walkLt_total h with h3 | ⟨_, e2, e3⟩
  · exact h3
  · exact absurd (Prod.ext e2.symm e3.symm) hne

structure OkO (ons : List On) : Prop where
  good : ∀ o ∈ ons, (numB o.s 1 && numB o.w.id 1 && numB o.w.f 0) = true ∧ parseE o.w.p = 0 ∧ ¬ (o.w.k < 1 ∨ 3 < o.w.k)
  nodup : (ons.map tgO).Nodup
  few : ∀ s, (listO ons s).length ≤ 4
theorem OkO.nil : OkO [] := ⟨fun o h => (by cases h), (by simp), fun s => (by simp [listO])⟩
theorem listO_perm {a b : List On} (h : a.Perm b) (s : Int) : (listO a s).Perm (listO b s) := (h.filter _).map _
theorem OkO.perm {a b : List On} (h : OkO a) (p : a.Perm b) : OkO b :=
  ⟨fun o ho => h.good o (p.mem_iff.2 ho), (p.map tgO).nodup_iff.1 h.nodup, fun s => by rw [← (listO_perm p s).length_eq]; exact h.few s⟩
theorem listO_sub {a b : List On} (h : List.Sublist a b) (s : Int) : List.Sublist (listO a s) (listO b s) := (h.filter _).map _
theorem OkO.sub {a b : List On} (h : OkO b) (p : List.Sublist a b) : OkO a :=
  ⟨fun o ho => h.good o (p.subset ho), List.Nodup.sublist (p.map tgO) h.nodup, fun s => Nat.le_trans (listO_sub p s).length_le (h.few s)⟩
theorem OkO.added {ons : List On} (h : OkO ons) (s : Int) (w : Wt) : OkO (addedO ons s w) := by
  unfold addedO
  split
  · rename_i h0
    obtain ⟨h1, h2, h3, h4, h5⟩ := addE_zero h0
    refine ⟨fun o ho => ?_, ?_, fun s' => ?_⟩
    · rcases List.mem_append.1 ho with ho | ho
      · exact h.good o ho
      · rw [List.mem_singleton.1 ho]; exact ⟨h1, h2, h3⟩
    · have := added_nodup h.nodup s w
      unfold addedO at this
      rwa [if_pos h0] at this
    · rw [listO_snoc, List.length_append]
      have := h.few s'
      by_cases e : s = s'
      · subst e; rw [if_pos rfl]; simp; omega
      · rw [if_neg e]; simpa using this
  · exact h
theorem OkO.lay (xs : List On) : OkO (layO xs) := by
  have : ∀ (xs a : List On), OkO a → OkO (xs.foldl (fun ons x => addedO ons x.s x.w) a) := by
    intro xs
    induction xs with
    | nil => intro a h; exact h
    | cons x xs ih => intro a h; exact ih _ (h.added x.s x.w)
  exact this xs [] .nil
theorem OkO.next {ons : List On} {o : On} (h : OkO (ons ++ [o])) : addO ons o.s o.w = 0 := by
  obtain ⟨h1, h2, h3⟩ := h.good o (by simp)
  refine addE_0 h1 h2 h3 ?_ ?_
  · rintro ⟨x, hx, e⟩
    have hm : (⟨o.s, x⟩ : On) ∈ ons := listO_mem.1 hx
    have hn := h.nodup
    rw [List.map_append, List.nodup_append] at hn
    exact hn.2.2 (tgO ⟨o.s, x⟩) (List.mem_map.2 ⟨_, hm, rfl⟩) (tgO o) (by simp) (Prod.ext rfl e)
  · have := h.few o.s
    rw [listO_snoc, if_pos rfl, List.length_append, List.length_singleton] at this
    unfold listO at this ⊢
    omega
theorem OkO.take {ons : List On} (h : OkO ons) {i : Nat} {o : On} (ho : ons[i]? = some o) : addO (ons.take i) o.s o.w = 0 ∧ addedO (ons.take i) o.s o.w = ons.take (i + 1) := by
  have e : ons.take (i + 1) = ons.take i ++ [o] := by rw [List.take_add_one, ho]; rfl
  have h0 : addO (ons.take i) o.s o.w = 0 := OkO.next (by rw [← e]; exact h.sub (List.take_sublist _ _))
  refine ⟨h0, ?_⟩
  unfold addedO
  rw [if_pos h0, e]
theorem OkO.layO {ons : List On} (h : OkO ons) : HBT.layO ons = ons := by
  have : ∀ k, k ≤ ons.length → HBT.layO (ons.take k) = ons.take k := by
    intro k
    induction k with
    | zero => intro _; simp [HBT.layO]
    | succ k ih =>
      intro hk
      obtain ⟨o, ho⟩ : ∃ o, ons[k]? = some o := ⟨_, List.getElem?_eq_getElem (by omega)⟩
      have e : ons.take (k + 1) = ons.take k ++ [o] := by rw [List.take_add_one, ho]; rfl
      rw [e, lay_snoc, ih (by omega), (h.take ho).2, e]
  have := this ons.length (Nat.le_refl _)
  rwa [List.take_length] at this
theorem add_drop {ons : List On} {s : Int} {w : Wt} (h : addO ons s w = 0) : dropE (ons ++ [⟨s, w⟩]) s w.id = 0 ∧ dropO (ons ++ [⟨s, w⟩]) s w.id = ons := by
  obtain ⟨_, _, _, hx, _⟩ := addE_zero h
  constructor
  · unfold dropE
    rw [if_pos]
    exact ⟨w, listO_mem.2 (by simp), rfl⟩
  · have h1 := dropO_none (i := w.id) hx
    unfold dropO at h1 ⊢
    rw [List.filter_append, h1, List.filter_cons_of_neg (by simp [isT])]
    simp
end Go.Proofs.YtgpbppkmmlclfaaDoor.HBT
