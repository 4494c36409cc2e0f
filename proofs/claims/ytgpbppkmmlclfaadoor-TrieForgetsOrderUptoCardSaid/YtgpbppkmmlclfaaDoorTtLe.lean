/- Proved: the law TrieForgetsOrder returns true for every input of the bulk that its row names (the proof does not use that bound), and its arguments read behind the call as they read before; what the row lists is tied to the program's text. Conditions: none beside the card's own. -/
import Derived.Test.YtgpbppkmmlclfaaDoorTtKd
import Derived.Test.YtgpbppkmmlclfaaDoorTtLa
import Derived.Test.YtgpbppkmmlclfaaDoorCards
import Derived.Test.YtgpbppkmmlclfaaDoorTie
import Derived.SevenTiedAt
import Derived.Deep.DeepHandedRow
set_option linter.unusedVariables false
set_option linter.unusedSimpArgs false
namespace Go.Proofs.YtgpbppkmmlclfaaDoor.HBT
open Go Go.Proofs.YtgpbppkmmlclfaaDoor.HB Go.Proofs.YtgpbppkmmlclfaaDoor Go.ChangeShapes Go.WideShapes Go.ChangeAt Go.RowKit Go.Lib
set_option maxRecDepth 8000

theorem intW_arg {Z : Prop} {x : AV} (h : ArgOkZ Z Tryd.prog 3 x) : ∃ n : Int, (-9223372036854775808 ≤ n ∧ n ≤ 9223372036854775807) ∧ x = .int .i64 n := by
  obtain ⟨ys, h, rfl⟩ := h
  obtain ⟨n, hw, rfl⟩ := h.int_inv Tryd.underlying3
  have ha : aggT Tryd.prog 3 = false := by kernel_rfl
  have hr : -9223372036854775808 ≤ n ∧ n ≤ 9223372036854775807 := by simpa [Lit.wf, IntKind.min, IntKind.max, IntKind.signed, IntKind.bits] using hw
  exact ⟨n, hr, by rw [ha]; rfl⟩
theorem seatsL_arg {Z : Prop} {x : AV} (h : ArgOkZ Z Tryd.prog 22 x) : ∃ xs n, n ≤ xs.length ∧ xs.length ≤ maxLen ∧ x = rdS xs n := by
  obtain ⟨ys, h, rfl⟩ := h
  obtain ⟨xss, n, hn, hm', hx, rfl⟩ := h.slice_inv Tryd.underlying22
  have ha : aggT Tryd.prog 34 = true := by kernel_rfl
  have hc : Tryd.prog.cellsOf 34 = 5 := by kernel_rfl
  have ha2 : aggT Tryd.prog 22 = false := by kernel_rfl
  obtain ⟨l, hl, hm⟩ := map_told (f := wrapC true) (g := encH) (fun c hc => seat_arg (hx c hc))
  refine ⟨l, n, by omega, by omega, ?_⟩
  rw [ha, hc, ha2, hm]
  rfl
theorem strs_arg {Z : Prop} {x : AV} (h : ArgOkZ Z Tryd.prog 51 x) : ∃ ps n, n ≤ ps.length ∧ x = rdP ps n := by
  obtain ⟨ys, h, rfl⟩ := h
  obtain ⟨xss, n, hn, _, hx, rfl⟩ := h.slice_inv Tryd.underlying51
  have ha : aggT Tryd.prog 9 = false := by kernel_rfl
  have hc : Tryd.prog.cellsOf 9 = 1 := by kernel_rfl
  have ha2 : aggT Tryd.prog 51 = false := by kernel_rfl
  obtain ⟨l, hl, hm⟩ := map_told (f := wrapC false) (g := AV.str) (fun c hc => by
    obtain ⟨s, _, rfl⟩ := (hx c hc).str_inv Tryd.underlying9
    exact ⟨s, rfl⟩)
  refine ⟨l, n, by omega, ?_⟩
  rw [ha, hc, ha2, hm]
  rfl
theorem forgets_met (os : Os) (args : Array Value) : laidMet Tryd.prog laid ((World.laidAll Tryd.prog os laid).forCall (fun _ _ => 0) ⟨#[], args, []⟩).memory := laidMet_laidAll _ (by kernel_rfl) (by kernel_rfl)
abbrev forgetsArgs : Array Value := #[.slice none 0 0, .slice none 0 0, .int .i64 0, .int .i64 0, .slice none 0 0]
theorem forgets_reads (os : Os) {H : Type} (enc : TypeId × Value → H) : ∃ places, DataW.whole enc Tryd.prog ((World.laidAll Tryd.prog os laid).forCall (fun _ _ => 0) ⟨#[], forgetsArgs, []⟩).memory Tryd.f5.params.toList Rows.trieForgetsOrderSpec.vars false forgetsArgs.toList 8 = some ([.nil, .nil, .lit (.int .i64 0), .lit (.int .i64 0), .nil], [], places) :=
  ⟨[], by kernel_rfl⟩
set_option maxRecDepth 100000 in
theorem forgets_lifted (os : Os) (started : os.Started) (H : Type) (enc : TypeId × Value → H) (F : Stop.Interp) :
    ReturnsInHanded {} Tryd.checked os 5 .any ((Rows.OpenSpec.upto Rows.trieForgetsOrderSpec).preRow enc Tryd.prog Tryd.f5 Rows.trieForgetsOrderUptoRow.domain false Rows.trieForgetsOrderUptoRow.laid) (((Rows.OpenSpec.upto Rows.trieForgetsOrderSpec).at F).post enc Tryd.prog Tryd.f5 false true false false) := by
  obtain ⟨places, hx⟩ := forgets_reads os enc
  refine returnsInHanded_of_row (C := Tryd.checked) (s := Rows.OpenSpec.upto Rows.trieForgetsOrderSpec) own started (by kernel_rfl) Tryd.func5
    (witness_row_at (enc := enc) (C := Tryd.checked) false (World.laidAll Tryd.prog os laid) forgetsArgs (World.laidAll_os _ _ _) (by kernel_rfl) (by kernel_rfl) (by kernel_rfl)
      (OpenSpec.preRow_of_cond 8 hx (by kernel_rfl) (fun k hk => by cases hk; kernel_rfl) (by kernel_rfl) (forgets_met os _))) ?_
  intro W base args ds gs before hval hW _ _ _ hL hs _
  refine law_contract (C := C) (s := Rows.trieForgetsOrderSpec) (tb := 4) 8 laidOut (by kernel_rfl) (by kernel_rfl) (by kernel_rfl) Tryd.underlying4 ?_ ?_ ?_ (G_of hL hs) hval hW
  · intro W W' gs q _ h
    cases gs with
    | nil => exact h
    | cons => exact h.elim
  · intro ds gs hd hg
    match ds, gs, hd, hg with
    | [d1, d2, d3, d4, d5], [], _, _ => exact ⟨rfl, rfl, rfl⟩
  · intro xs hxs
    have hxs : ArgsOk Tryd.prog [22, 22, 3, 3, 51] xs := hxs
    cases hxs with
    | cons h1 h =>
      cases h with
      | cons h2 h =>
        cases h with
        | cons h3 h =>
          cases h with
          | cons h4 h =>
            cases h with
            | cons h5 h =>
              cases h
              obtain ⟨xs, n, hn, rfl⟩ := seats_arg h1
              obtain ⟨os, no, hno, hml, rfl⟩ := seatsL_arg h2
              obtain ⟨k, hk, rfl⟩ := intW_arg h3
              obtain ⟨st, rfl⟩ := int_arg h4
              obtain ⟨ps, np, hps, rfl⟩ := strs_arg h5
              have hmx : maxLen ≤ 9223372036854775807 := by decide
              exact forgets_law xs os n no hn hno (by omega) k st hk ps np hps

theorem forgets_row : Rows.TrieForgetsOrderUptoSaid :=
  OpenClaim.holds_of_cond 5 Tryd.f5 rfl rfl rfl rfl rfl rfl rfl ⟨rfl, rfl, rfl, rfl, rfl⟩ rfl rfl rfl rfl rfl (by kernel_rfl) Tryd.func5 (by kernel_rfl)
    (of_decide_eq_true (by kernel_rfl)) (by unfold Func.isWrapper; rw [if_neg (by decide +kernel)]; exact ⟨rfl, rfl⟩)
    (fun os started H enc _ F => by rw [OpenClaim.pre_eq_preRow]; exact forgets_lifted os started H enc F)
theorem forgets_plain (f : FuncId) (fn : Func) (hf : Tryd.pinned.checked.prog.funcNamed "herald/heraldlaw9.TrieForgetsOrder" = some f) (hfn : Tryd.pinned.checked.prog.funcs[f]? = some fn) :
    false = Tryd.pinned.checked.prog.looks [] ∧ ∀ (j : Nat) t, fn.params[j]? = some t → Tryd.pinned.checked.prog.wantsStandIn t = false := by
  obtain rfl : f = 5 := Option.some.inj ((show Tryd.prog.funcNamed "herald/heraldlaw9.TrieForgetsOrder" = some 5 by kernel_rfl).symm.trans hf) |>.symm
  obtain rfl : fn = Tryd.f5 := (Option.some.inj (Tryd.func5.symm.trans hfn)).symm
  refine ⟨by kernel_rfl, fun j t ht => ?_⟩
  rw [Tryd.params5] at ht
  have hm : t ∈ [22, 22, 3, 3, 51] := by simpa using Array.mem_of_getElem? ht
  have hall : ([22, 22, 3, 3, 51].all fun u => !Tryd.prog.wantsStandIn u) = true := by kernel_rfl
  exact (show Tryd.prog.wantsStandIn t = false by simpa using List.all_eq_true.1 hall t hm)
theorem forgets_holds : Rows.TrieForgetsOrderUptoCardSaid :=
  Claim7.holds_tied_plain_at .later [] _ _ _ _ forgets_row (fun _ h => by cases h) (by kernel_rfl) (fun _ h => by cases h) trieForgetsOrderUpto_row_tie rfl ⟨rfl, rfl⟩ (by kernel_rfl) rfl forgets_plain (by kernel_rfl)

end Go.Proofs.YtgpbppkmmlclfaaDoor.HBT
