/- More ways to end a function: some objects kept, said otherwise. -/
import Derived.Test.YtfohedaadncefaaDoorHbN
namespace Go.Proofs.YtfohedaadncefaaDoor.HB
open Go

theorem FinOk.trans {r r' r'' : AV} {L L' L'' : AHeap} (h : FinOk r L r' L') (k : FinOk r' L' r'' L'') : FinOk r L r'' L'' := fun own0 imm0 w0 imm w v hs hv ht => by
  obtain ⟨imm1, a, b, c⟩ := h own0 imm0 w0 imm w v hs hv ht
  exact k own0 imm0 w0 imm1 w v a b c
theorem FinOk.sub (r : AV) {L L' : AHeap} (h : SubL L L') : FinOk r L r L' := fun own0 imm0 w0 imm w v hs hv ht =>
  ⟨imm, h.sat hs, hv, by rw [h.own]; exact ht⟩
/-- Some objects are kept, in a new order, and said otherwise. -/
theorem FinOk.keepS (r : AV) {r' : AV} {L L' L'' : AHeap} (ks : List Nat) (hr : Sub r r') (hnd : ks.Nodup) (hL : L' = ks.map fun k => L.getD k (0, .dead)) (hS : SubL L' L'') : FinOk r L r' L'' :=
  (FinOk.keep r ks hr hnd hL).trans (FinOk.sub r' hS)

theorem SubO.refl (o : AObj) : SubO o o := by
  cases o with
  | dead => trivial
  | cells t cs => exact SubO.cells (Subs.refl cs)
  | row e sz Cp xs => exact SubO.rowR e sz Cp xs
theorem SubL.refl : ∀ L : AHeap, SubL L L
  | [] => trivial
  | (_, o) :: L => ⟨rfl, SubO.refl o, SubL.refl L⟩
theorem Lends.four {L : AHeap} {x x' y y' z z' u u' : AV} (h : Lend L x x') (k : Lend L y y') (l : Lend L z z') (m : Lend L u u') : Lends L [x, y, z, u] [x', y', z', u'] := ⟨h, k, l, m, trivial⟩
end Go.Proofs.YtfohedaadncefaaDoor.HB
