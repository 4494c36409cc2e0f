/- Answers hang on the watches alone; a list turned round; watches of one session. -/
import Derived.Test.YtgpbppkmmlclfaaDoorTtKp
set_option linter.unusedVariables false
set_option linter.unusedSimpArgs false
namespace Go.Proofs.YtgpbppkmmlclfaaDoor.HBT
open Go Go.Proofs.YtgpbppkmmlclfaaDoor.HB Go.RowKit
set_option maxRecDepth 8000

theorem tags_one {a b : List Tg} (h : a.Perm b) (ha : a.Pairwise (fun a b => ¬ cfT b a < 0)) (hb : b.Pairwise (fun a b => ¬ cfT b a < 0)) : a = b := by
  refine List.Perm.eq_of_pairwise (le := fun a b : Tg => ¬ cfT b a < 0) (fun x y _ _ h1 h2 => ?_) ha hb h
  rw [cfT_neg] at h1 h2
  exact Prod.ext (by omega) (by omega)
theorem watches_one {a b : List Wt} (h : a.Perm b) (ha : SortedW a) (hb : SortedW b) : a = b := by
  refine List.Perm.eq_of_pairwise (le := fun a b : Wt => a.id < b.id) (fun x y _ _ h1 h2 => ?_) ha hb h
  exact absurd h1 (by omega)
theorem nlO_perm {a b : List On} (h : a.Perm b) : (nlO a).Perm (nlO b) := h.map _
def turnO (l : List On) (k j : Nat) : List On := ((List.range' j (l.length - j)).reverse).filterMap fun i => l[(i + k) % l.length]?
theorem turnO_start (l : List On) (k : Nat) : turnO l k l.length = [] := by unfold turnO; simp
theorem turnO_step (l : List On) (k j : Nat) (hj : j < l.length) {o : On} (ho : l[(j + k) % l.length]? = some o) : turnO l k j = turnO l k (j + 1) ++ [o] := by
  unfold turnO
  have e : l.length - j = (l.length - (j + 1)) + 1 := by omega
  rw [e, List.range'_succ, List.reverse_cons, List.filterMap_append]
  congr 1
  rw [List.filterMap_cons, ho]; rfl
theorem getAll (l : List On) : (List.range l.length).filterMap (fun i => l[i]?) = l := by
  have : ∀ (l m : List On), (List.range' m.length l.length).filterMap (fun i => (m ++ l)[i]?) = l := by
    intro l
    induction l with
    | nil => intro m; rfl
    | cons x l ih =>
      intro m
      have h1 := ih (m ++ [x])
      rw [List.length_append, List.length_singleton, List.append_assoc, List.singleton_append] at h1
      rw [List.length_cons, List.range'_succ, List.filterMap_cons, List.getElem?_append_right (Nat.le_refl _), Nat.sub_self]
      rw [h1]; rfl
  have h2 := this l []
  rw [List.range_eq_range']
  simpa using h2
theorem turn_idx (n k : Nat) : ((List.range n).map fun i => (i + k) % n).Perm (List.range n) := by
  refine (List.perm_ext_iff_of_nodup ?_ List.nodup_range).2 fun a => ?_
  · rw [List.nodup_iff_pairwise_ne, List.pairwise_map]
    refine List.Pairwise.imp_of_mem ?_ (List.pairwise_lt_range (n := n))
    intro a b ha hb h e
    have ha := List.mem_range.1 ha
    have hb := List.mem_range.1 hb
    have h1 : (b + k) % n = (a + k + (b - a)) % n := by congr 1; omega
    have h2 : (a + k + (b - a)) % n = ((a + k) % n + (b - a)) % n := by rw [Nat.mod_add_mod]
    rw [h1, h2] at e
    have hlt : (a + k) % n < n := Nat.mod_lt _ (by omega)
    by_cases hc : (a + k) % n + (b - a) < n
    · rw [Nat.mod_eq_of_lt hc] at e; omega
    · have h3 : ((a + k) % n + (b - a)) % n = (a + k) % n + (b - a) - n := by
        rw [Nat.mod_eq_sub_mod (by omega), Nat.mod_eq_of_lt (by omega)]
      omega
  · rw [List.mem_map, List.mem_range]
    constructor
    · rintro ⟨i, hi, rfl⟩
      exact Nat.mod_lt _ (by have := List.mem_range.1 hi; omega)
    · intro ha
      refine ⟨(a + (n - k % n)) % n, List.mem_range.2 (Nat.mod_lt _ (by omega)), ?_⟩
      rw [Nat.mod_add_mod, ← Nat.add_mod_mod]
      have hk : k % n < n := Nat.mod_lt _ (by omega)
      have e : a + (n - k % n) + k % n = a + n := by omega
      rw [e, Nat.add_mod_right, Nat.mod_eq_of_lt ha]
theorem turnO_perm (l : List On) (k : Nat) : (turnO l k 0).Perm l := by
  unfold turnO
  rw [Nat.sub_zero, ← List.range_eq_range']
  refine ((List.reverse_perm _).filterMap _).trans ?_
  have h := (turn_idx l.length k).filterMap fun i => l[i]?
  rw [List.filterMap_map, getAll] at h
  exact h
def forgO (ons : List On) (s : Int) : List On := ons.filter fun o => !decide (o.s = s)
def partO (ons : List On) (s : Int) (ws : List Wt) : List On := ws.foldl (fun ons w => dropO ons s w.id) ons
theorem partO_snoc (ons : List On) (s : Int) (ws : List Wt) (w : Wt) : partO ons s (ws ++ [w]) = dropO (partO ons s ws) s w.id := by unfold partO; rw [List.foldl_append]; rfl
theorem partO_filter (s : Int) : ∀ (ws : List Wt) (ons : List On), partO ons s ws = ons.filter fun o => !(decide (o.s = s) && ws.any fun w => decide (w.id = o.w.id))
  | [], ons => by
    unfold partO
    rw [List.foldl_nil]
    exact (List.filter_eq_self.2 (by simp)).symm
  | w :: ws, ons => by
    have ih := partO_filter s ws (dropO ons s w.id)
    unfold partO at ih ⊢
    rw [List.foldl_cons, ih]
    unfold dropO
    rw [List.filter_filter]
    congr 1
    funext o
    unfold isT
    simp only [List.any_cons]
    by_cases h1 : o.s = s <;> by_cases h2 : w.id = o.w.id <;> simp [h1, h2, eq_comm]
    all_goals (intro h; exact absurd h.symm h2)
theorem partO_all {ons : List On} {s : Int} {ws : List Wt} (h : ws.Perm (listO ons s)) : partO ons s ws = forgO ons s := by
  rw [partO_filter]
  unfold forgO
  refine List.filter_congr fun o ho => ?_
  by_cases h1 : o.s = s
  · have h2 : (ws.any fun w => decide (w.id = o.w.id)) = true := List.any_eq_true.2 ⟨o.w, h.mem_iff.2 (listO_mem.2 (by rw [← h1]; exact ho)), by simp⟩
    simp [h1, h2]
  · simp [h1]
theorem partO_len (ons : List On) (s : Int) (ws : List Wt) : (partO ons s ws).length ≤ ons.length := by rw [partO_filter]; exact List.length_filter_le _ _
theorem forgO_len (ons : List On) (s : Int) : (forgO ons s).length + (listO ons s).length = ons.length := by
  unfold forgO listO
  rw [List.length_map]
  induction ons with
  | nil => rfl
  | cons o ons ih =>
    by_cases h : o.s = s
    · rw [List.filter_cons_of_neg (by simp [h]), List.filter_cons_of_pos (by simp [h]), List.length_cons, List.length_cons]; omega
    · rw [List.filter_cons_of_pos (by simp [h]), List.filter_cons_of_neg (by simp [h]), List.length_cons, List.length_cons]; omega
end Go.Proofs.YtgpbppkmmlclfaaDoor.HBT
