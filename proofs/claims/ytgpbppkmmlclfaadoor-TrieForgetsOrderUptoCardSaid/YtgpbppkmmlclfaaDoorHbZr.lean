/- A number's negative. -/
import Derived.Test.YtgpbppkmmlclfaaDoorHbZq
namespace Go.Proofs.YtgpbppkmmlclfaaDoor.HB
open Go

/-! ### A number's negative -/
def aopNeg (C : Cx) : OpRule := fun o env L K KP => match o.op with
  | .unOp .neg _ x => match aeval env x with
    | .int k n => ∀ r, r = k.wrap (0 - n) → K (.int k r) L
    | _ => False
  | _ => aopC C o env L K KP
theorem aopNeg_sound {C : Cx} (hC : C.Ok) : (aopNeg C).Sound C := by
  intro o env L K KP h imm w a hG hs he next Q hn hp
  unfold aopNeg at h
  split at h
  · rename_i t x ho
    have hx := aeval_VR he x
    split at h
    case h_2 => exact h.elim
    rename_i k n ex
    rw [ex] at hx
    generalize hxx : a.eval x = u at hx
    cases hx
    refine wp_value (v := .int k (k.wrap (0 - n))) (w' := w) ?_ (hn _ _ imm _ _ (h _ rfl) hs (.int _ _) (Tr.refl _ _ _))
    simp [execOp, ho, hxx, Op.unary, Op.intArith]
  · exact aopC_sound hC _ _ _ _ _ h _ _ _ hG hs he _ _ hn hp
end Go.Proofs.YtgpbppkmmlclfaaDoor.HB
