/- TrieWalksAll: what is asked of one session alone, plainly. -/
import Derived.Test.YtgpbppkmmlclfaaDoorTtKv
set_option linter.unusedVariables false
set_option linter.unusedSimpArgs false
namespace Go.Proofs.YtgpbppkmmlclfaaDoor.HBT
open Go Go.Proofs.YtgpbppkmmlclfaaDoor.HB Go.RowKit
set_option maxRecDepth 8000

def onsW (s : Int) (ws : List Wt) : List On := ws.map fun w => ⟨s, w⟩
theorem onsW_listO (ons : List On) (s : Int) : onsW s (listO ons s) = ons.filter fun o => decide (o.s = s) := by
  unfold onsW listO
  rw [List.map_map]
  induction ons with
  | nil => rfl
  | cons o ons ih =>
    by_cases h : o.s = s
    · rw [List.filter_cons_of_pos (by simpa using h), List.map_cons, ih]
      congr 1
      subst h; rfl
    · rw [List.filter_cons_of_neg (by simpa using h), ih]
theorem onsW_ok {ons : List On} (h : OkO ons) {s : Int} {ws : List Wt} (hp : ws.Perm (listO ons s)) : OkO (onsW s ws) := by
  have h1 : (onsW s ws).Perm (ons.filter fun o => decide (o.s = s)) := by
    rw [← onsW_listO]; exact hp.map _
  exact (h.sub List.filter_sublist).perm h1.symm
theorem onsW_take (s : Int) (ws : List Wt) (k : Nat) : onsW s (ws.take k) = (onsW s ws).take k := by unfold onsW; rw [List.map_take]
theorem onsW_add {ons : List On} (h : OkO ons) {s : Int} {ws : List Wt} (hp : ws.Perm (listO ons s)) {k : Nat} {w : Wt} (ew : ws[k]? = some w) : addO (onsW s (ws.take k)) s w = 0 ∧ addedO (onsW s (ws.take k)) s w = onsW s (ws.take (k + 1)) := by
  have := (onsW_ok h hp).take (i := k) (o := ⟨s, w⟩) (by unfold onsW; rw [List.getElem?_map, ew]; rfl)
  rw [onsW_take, onsW_take]
  exact this
def partT (s : Int) (ys : List Tg) : List Tg := ys.filter fun y => decide (y.1 = s)
theorem partT_tagged (s st k : Int) (p : ByteArray) (ons : List On) : partT s (tagged ons st k p) = tagged (ons.filter fun o => decide (o.s = s)) st k p := by
  unfold partT tagged
  rw [List.filter_map, List.filter_filter, List.filter_filter]
  congr 2
  funext o
  rw [Bool.and_comm]; rfl
theorem part_one {ons : List On} {s st k : Int} {p : ByteArray} {ws : List Wt} {ys zs : List Tg} (hp : ws.Perm (listO ons s)) (hy : ys.Perm (tagged ons st k p)) (hys : ys.Pairwise (fun a b => ¬ cfT b a < 0)) (hz : zs.Perm (tagged (onsW s ws) st k p)) (hzs : zs.Pairwise (fun a b => ¬ cfT b a < 0)) : zs = partT s ys := by
  have h1 : (onsW s ws).Perm (ons.filter fun o => decide (o.s = s)) := by
    rw [← onsW_listO]; exact hp.map _
  refine tags_one ?_ hzs (hys.sublist List.filter_sublist)
  refine (hz.trans (tagged_perm h1 st k p)).trans ?_
  rw [← partT_tagged]
  exact (hy.filter _).symm
theorem partT_more {s : Int} {ys : List Tg} {j : Nat} {y : Tg} (ey : ys[j]? = some y) : partT s (ys.take (j + 1)) = partT s (ys.take j) ++ if y.1 = s then [y] else [] := by
  rw [List.take_add_one, ey]
  unfold partT
  rw [List.filter_append]
  congr 1
  by_cases h : y.1 = s <;> simp [h]
theorem wt_ext {a b : Wt} (h1 : a.id = b.id) (h2 : a.p = b.p) (h3 : a.k = b.k) (h4 : a.f = b.f) : a = b := by
  cases a; cases b
  simp at h1 h2 h3 h4
  subst h1 h2 h3 h4
  rfl
end Go.Proofs.YtgpbppkmmlclfaaDoor.HBT
