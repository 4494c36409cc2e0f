/- Proved: the law ShotSames returns true for every input, and each argument reads behind the call as it read before. Conditions: none. -/
import Derived.Test.YtfohedaadncefaaHbS5
import Derived.Test.YtfohedaadncefaaHbP
import Derived.Test.YtfohedaadncefaaRows
namespace Go.Proofs.Ytfohedaadncefaa.HBT
open Go Go.Proofs.Ytfohedaadncefaa.HB Go.Proofs.Ytfohedaadncefaa Go.ChangeShapes Go.WideShapes Go.ChangeAt Go.RowKit
set_option maxRecDepth 8000

theorem seen_arg {ys : List AV} (h : CellsOk Try.prog 30 ys) : ∃ s : Sn, wrapC true ys = enc s := by
  obtain ⟨yss, hf, rfl⟩ := h.struct_inv Try.underlying30
  obtain ⟨y0, yss, rfl, h0, hf⟩ := hf.cons_inv
  obtain ⟨y1, yss, rfl, h1, hf⟩ := hf.cons_inv
  obtain ⟨y2, yss, rfl, h2, hf⟩ := hf.cons_inv
  obtain rfl := hf.nil_inv
  obtain ⟨p, _, rfl⟩ := h0.str_inv Try.underlying9
  obtain ⟨q, _, rfl⟩ := h1.str_inv Try.underlying9
  obtain ⟨n, _, rfl⟩ := h2.int_inv Try.underlying3
  exact ⟨⟨p, q, n⟩, rfl⟩

theorem shot_arg {x : AV} (h : ArgOk Try.prog 24 x) : ∃ st pl kd xs n, n ≤ xs.length ∧ x = shot st pl kd (rdo xs n) := by
  obtain ⟨ys, h, rfl⟩ := h
  obtain ⟨yss, hf, rfl⟩ := h.struct_inv Try.underlying24
  obtain ⟨y0, yss, rfl, h0, hf⟩ := hf.cons_inv
  obtain ⟨y1, yss, rfl, h1, hf⟩ := hf.cons_inv
  obtain ⟨y2, yss, rfl, h2, hf⟩ := hf.cons_inv
  obtain ⟨y3, yss, rfl, h3, hf⟩ := hf.cons_inv
  obtain rfl := hf.nil_inv
  obtain ⟨st, _, rfl⟩ := h0.int_inv Try.underlying3
  obtain ⟨pl, _, rfl⟩ := h1.str_inv Try.underlying9
  obtain ⟨kd, _, rfl⟩ := h2.int_inv Try.underlying3
  obtain ⟨xss, n, hn, _, hx, rfl⟩ := h3.slice_inv Try.underlying22
  have ha : aggT Try.prog 30 = true := by kernel_rfl
  have hc : Try.prog.cellsOf 30 = 3 := by kernel_rfl
  have ha2 : aggT Try.prog 24 = true := by kernel_rfl
  obtain ⟨l, hl, hm⟩ := map_told (f := wrapC true) (g := enc) (fun c hc => seen_arg (hx c hc))
  refine ⟨st, pl, kd, l, n, by omega, ?_⟩
  rw [ha, hc, ha2, hm]
  rfl

theorem own : ownKnob Try.prog.godebug = none := by kernel_rfl
theorem laidOut : laidOutB Try.prog = true := by kernel_rfl

set_option maxRecDepth 100000 in
theorem law_lifted (os : Os) (started : os.Started) (H : Type) (enc : TypeId × Value → H) :
    ReturnsInHanded {} Try.checked os 3 .any (Rows.shotSamesSpec.pre6 enc Try.prog Try.f3 Rows.shotSamesRow.domain false) (Rows.shotSamesSpec.post enc Try.prog Try.f3 false true false false) := by
  refine returnsInHanded_of_change (C := Try.checked) own started (by kernel_rfl) Try.func3
    (ChangeSpec.witness6 (enc := enc) (C := Try.checked) false ⟨#[], #[.agg #[.int .i64 0, .string ⟨#[]⟩, .int .i64 0, .slice none 0 0], .agg #[.int .i64 0, .string ⟨#[]⟩, .int .i64 0, .slice none 0 0]], []⟩ 8 (by kernel_rfl) (by kernel_rfl) (by kernel_rfl) (by kernel_rfl)) ?_
  intro W base args ds gs before hval hW _ _
  refine law_contract (C := C) (tb := 4) 5 laidOut (by kernel_rfl) (by kernel_rfl) (by kernel_rfl) Try.underlying4 ?_ ?_ ?_ trivial hval hW
  · intro W W' gs q _ h
    cases gs with
    | nil => exact h
    | cons => exact h.elim
  · intro ds gs hd hg
    match ds, gs, hd, hg with
    | [d1, d2], [], _, _ => exact ⟨rfl, rfl, rfl⟩
  · intro xs hxs
    have hxs : ArgsOk Try.prog [24, 24] xs := hxs
    cases hxs with
    | cons h1 h =>
      cases h with
      | cons h2 h =>
        cases h
        obtain ⟨st, pl, kd, xs, n, hn, rfl⟩ := shot_arg h1
        obtain ⟨st', pl', kd', ys, m, hm, rfl⟩ := shot_arg h2
        exact law_spec st st' pl pl' kd kd' xs ys n m hn hm

theorem law_holds : Rows.ShotSamesSaid :=
  OpenClaim.holds_of_wide 3 Try.f3 rfl rfl rfl rfl rfl rfl rfl ⟨rfl, rfl, rfl, rfl, rfl⟩ rfl rfl rfl rfl rfl (by kernel_rfl) Try.func3 (by kernel_rfl)
    (of_decide_eq_true (by kernel_rfl)) (by unfold Func.isWrapper; rw [if_neg (by decide +kernel)]; exact ⟨rfl, rfl⟩)
    (fun os started H enc _ => law_lifted os started H enc)

end Go.Proofs.Ytfohedaadncefaa.HBT

