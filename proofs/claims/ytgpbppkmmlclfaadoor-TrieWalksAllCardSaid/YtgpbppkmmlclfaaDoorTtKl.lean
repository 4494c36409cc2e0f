/- A watch is taken out of the trie, plainly. -/
import Derived.Test.YtgpbppkmmlclfaaDoorTtK8
set_option linter.unusedVariables false
set_option linter.unusedSimpArgs false
namespace Go.Proofs.YtgpbppkmmlclfaaDoor.HBT
open Go Go.Proofs.YtgpbppkmmlclfaaDoor.HB Go.RowKit
set_option maxRecDepth 8000

def dropO (ons : List On) (s i : Int) : List On := ons.filter fun o => !isT s i o
theorem listO_drop (s i s' : Int) : ∀ ons : List On, listO (dropO ons s i) s' = if s' = s then (listO ons s').filter (fun w => !decide (w.id = i)) else listO ons s'
  | [] => by simp [listO, dropO]
  | o :: ons => by
    have ih := listO_drop s i s' ons
    have hc : ∀ (l : List On), listO (o :: l) s' = (if o.s = s' then [o.w] else []) ++ listO l s' := fun l => by
      unfold listO
      by_cases h : o.s = s' <;> simp [h]
    by_cases h : isT s i o = true
    · have h2 : o.s = s ∧ o.w.id = i := by simpa [isT] using h
      have e : dropO (o :: ons) s i = dropO ons s i := List.filter_cons_of_neg (by simp [h])
      rw [e, ih, hc]
      by_cases e1 : s' = s
      · rw [if_pos e1, if_pos e1, if_pos (h2.1.trans e1.symm), List.singleton_append, List.filter_cons_of_neg (by simp [h2.2])]
      · rw [if_neg e1, if_neg e1, if_neg (fun e => e1 (e.symm.trans h2.1)), List.nil_append]
    · have e : dropO (o :: ons) s i = o :: dropO ons s i := List.filter_cons_of_pos (by simp [h])
      rw [e, hc, ih, hc]
      by_cases e1 : s' = s
      · rw [if_pos e1, if_pos e1]
        by_cases e2 : o.s = s'
        · have h3 : ¬ o.w.id = i := fun e => h (by simp [isT, e2.trans e1, e])
          rw [if_pos e2, List.singleton_append, List.singleton_append, List.filter_cons_of_pos (by simp [h3])]
        · rw [if_neg e2, List.nil_append, List.nil_append]
      · rw [if_neg e1, if_neg e1]
theorem erase_id {l : List Wt} (hs : SortedW l) {k : Nat} {w : Wt} (hk : l[k]? = some w) : l.take k ++ l.drop (k + 1) = l.filter fun x => !decide (x.id = w.id) := by
  induction l generalizing k with
  | nil => simp at hk
  | cons y l ih =>
    have hp := List.pairwise_cons.1 hs
    cases k with
    | zero =>
      simp at hk; subst hk
      rw [List.take_zero, List.nil_append, List.drop_succ_cons, List.drop_zero, List.filter_cons_of_neg (by simp)]
      exact (List.filter_eq_self.2 fun z hz => by have := hp.1 z hz; simp; omega).symm
    | succ k =>
      have hk : l[k]? = some w := by simpa using hk
      have := hp.1 w (List.mem_of_getElem? hk)
      rw [List.take_succ_cons, List.drop_succ_cons, List.filter_cons_of_pos (by simp; omega), List.cons_append, ih hp.2 hk]
theorem nlO_drop {ns : List ByteArray} {s i : Int} : ∀ {ons : List On}, (∀ o ∈ ons, isT s i o = true → namesOf o.w.p = ns) → drp ns s i (nlO ons) = nlO (dropO ons s i)
  | [], _ => rfl
  | o :: ons, h => by
    have ih := nlO_drop (ons := ons) fun o' ho => h o' (List.mem_cons_of_mem _ ho)
    have e0 : nlO (o :: ons) = (namesOf o.w.p, o) :: nlO ons := rfl
    rw [e0]
    by_cases hi : isT s i o = true
    · have e : dropO (o :: ons) s i = dropO ons s i := List.filter_cons_of_neg (by simp [hi])
      have hg : gone ns s i (namesOf o.w.p, o) = true := by simp [gone, h o (List.mem_cons_self ..) hi, hi]
      rw [e, drp_gone _ hg, ih]
    · have e : dropO (o :: ons) s i = o :: dropO ons s i := List.filter_cons_of_pos (by simp [hi])
      have hg : gone ns s i (namesOf o.w.p, o) = false := by simp [gone, hi]
      rw [e, drp_keep _ hg, ih]; rfl
end Go.Proofs.YtgpbppkmmlclfaaDoor.HBT
