/- The law ShotTakes, walked. -/
import Derived.Test.YtcbjcmigecocgaaGreatDoorTwS2
import Derived.Test.YtcbjcmigecocgaaGreatDoorTwT10
import Derived.Test.YtcbjcmigecocgaaGreatDoorCards
import Derived.Test.YtcbjcmigecocgaaGreatDoorTie
import Derived.SevenTiedAt
set_option linter.unusedVariables false
set_option linter.unusedSimpArgs false
namespace Go.Proofs.YtcbjcmigecocgaaGreatDoor.HBT
open Go Go.Proofs.YtcbjcmigecocgaaGreatDoor.HB Go.RowKit
set_option maxRecDepth 8000

theorem part_one : partF [rootF] slash 1 = [⟨slash, eS, 0⟩] := by
  have h : coversP 1 slash 1 rootF.p := (cov_iff parse_slash parse_slash (by decide)).2 (.inl rfl)
  unfold partF
  have e : [rootF].filter (fun x => decide (coversP 1 slash 1 x.p)) = [rootF] := by simp [h]
  rw [e]
  rfl
set_option maxHeartbeats 4000000 in
theorem lawTakes_spec (xs : List Trn) (n : Nat) (hn : n ≤ xs.length) (hok : ∀ x ∈ xs, x.no ≤ x.ops.length) (st : Int) (p : ByteArray) (kd : Int) : FnSpec C 3 [rdTn xs n, .int .i64 st, .str p, .int .i64 kd] [] (fun r L' => r = .bool true ∧ L' = []) := by
  have hnewE : takeE 3 slash 1 = 0 := by
    unfold takeE
    rw [parse_slash]; decide
  have hnew : takeA [rootF] 3 slash 1 = shA 3 slash 1 [⟨slash, eS, 0⟩] := by
    unfold takeA
    rw [hnewE, if_pos rfl, part_one]
  refine FnSpec.start C_ok Tryz.func3 rfl rfl Tryz.ntmps3 ?_
  repeat(first|refine Sc ?_|refine fun(_:Nat)=>?_)
  refine ACallT.ok (ACall.pure _ (grown_spec xs n hn hok) ?_)
  rintro r L' ⟨gt, gm, es, cl, l, hT, hI, rfl, rfl⟩
  refine ⟨_, Sub.refl _, ?_⟩
  obtain ⟨a, b, c, S, hA, hS⟩ := takeA_some l st p kd
  have hl := hI.len
  have h1 := take_spec gt gm hT hI st p kd
  have h2 := refTake_spec hI st p kd
  rw [hA] at h1 h2
  repeat(first|refine Sc ?_|refine fun(_:Nat)=>?_)
  rename_i g10
  refine ACallT.ok (ACall.sel [0, 1] (by decide) [.ptr 0 gt 0, .int .i64 st, .str p, .int .i64 kd] _ ⟨Sub.refl _, Sub.refl _, Sub.refl _, Sub.refl _, trivial⟩ h1 ?_)
  rintro r L' ⟨rfl, rfl⟩
  refine ⟨_, Sub.refl _, ?_⟩
  repeat(first|refine Sc ?_|refine fun(_:Nat)=>?_)
  rename_i g11
  refine ACallT.ok (ACall.ret h2 ?_)
  repeat(first|refine Sc ?_|refine fun(_:Nat)=>?_)
  rename_i g13
  refine ACallT.ok (ACall.ret (take_nil st p kd) ?_)
  repeat(first|refine Sc ?_|refine fun(_:Nat)=>?_)
  rename_i g15
  refine ACallT.ok (ACall.pure _ new_spec ?_)
  rintro r L' ⟨gt2, gm2, es2, cl2, hT2, rfl, rfl⟩
  refine ⟨.ptr 6 gt2 0, Sub.ptr _ _ _ _, ?_⟩
  have h3 := take_spec gt2 gm2 hT2 TInv.new 3 slash 1
  rw [hnew, hnewE] at h3
  repeat(first|refine Sc ?_|refine fun(_:Nat)=>?_)
  refine ACallT.ok (ACall.sel [6, 7] (by decide) [.ptr 0 gt2 0, .int .i64 3, .str slash, .int .i64 1] _ ⟨Sub.ptr _ _ _ _, Sub.refl _, Sub.refl _, Sub.refl _, trivial⟩ h3 ?_)
  rintro r L' ⟨rfl, rfl⟩
  refine ⟨_, Sub.refl _, ?_⟩
  repeat(first|refine Sc ?_|refine fun(_:Nat)=>?_)
  rename_i g17
  refine ACallT.ok (ACall.ret (num_spec (takeE st p kd)) ?_)
  repeat(first|refine Sc ?_|refine fun(_:Nat)=>?_)
  refine ⟨fun _ => ?_, fun h => absurd rfl h⟩
  repeat(first|refine Sc ?_|refine fun(_:Nat)=>?_)
  refine ACallT.ok (ACall.ret (alike_refl a b c S (by omega)) ?_)
  repeat(first|refine Sc ?_|refine fun(_:Nat)=>?_)
  refine ⟨fun _ => ?_, fun h => absurd rfl h⟩
  repeat(first|refine Sc ?_|refine fun(_:Nat)=>?_)
  refine ⟨fun _ => ?_, fun h => absurd rfl h⟩
  repeat(first|refine Sc ?_|refine fun(_:Nat)=>?_)
  refine ⟨fun _ => ?_, fun h => absurd rfl h⟩
  repeat(first|refine Sc ?_|refine fun(_:Nat)=>?_)
  exact ⟨_, [], FinOk.drop _ _, rfl, rfl⟩
end Go.Proofs.YtcbjcmigecocgaaGreatDoor.HBT
/- How the arguments of ShotTakes are read. -/
namespace Go.Proofs.YtcbjcmigecocgaaGreatDoor.HBT
open Go Go.Proofs.YtcbjcmigecocgaaGreatDoor.HB Go.Proofs.YtcbjcmigecocgaaGreatDoor Go.ChangeShapes Go.WideShapes Go.ChangeAt Go.RowKit Go.Lib
set_option maxRecDepth 8000

theorem turn_arg {ys : List AV} (h : CellsOk Tryz.prog 44 ys) : ∃ s : { s : Trn // s.no ≤ s.ops.length }, wrapC true ys = encTn s.1 := by
  obtain ⟨yss, hf, rfl⟩ := h.struct_inv Tryz.underlying44
  obtain ⟨y0, yss, rfl, h0, hf⟩ := hf.cons_inv
  obtain ⟨y1, yss, rfl, h1, hf⟩ := hf.cons_inv
  obtain ⟨y2, yss, rfl, h2, hf⟩ := hf.cons_inv
  obtain rfl := hf.nil_inv
  obtain ⟨s, _, rfl⟩ := h0.int_inv Tryz.underlying3
  obtain ⟨e, rfl⟩ := h1.bool_inv Tryz.underlying4
  obtain ⟨xss, n, hn, _, hx, rfl⟩ := h2.slice_inv Tryz.underlying42
  have ha : aggT Tryz.prog 79 = true := by kernel_rfl
  have hc : Tryz.prog.cellsOf 79 = 5 := by kernel_rfl
  obtain ⟨l, hl, hm⟩ := map_told (f := wrapC true) (g := fun s : Opp => encO s) (fun c hc => op_arg (hx c hc))
  refine ⟨⟨⟨s, e, l, n⟩, ?_⟩, ?_⟩
  · show n ≤ l.length
    omega
  · rw [ha, hc, hm]
    rfl
theorem turns_arg {x : AV} (h : ArgOk Tryz.prog 22 x) : ∃ xs n, n ≤ xs.length ∧ (∀ x ∈ xs, Trn.no x ≤ x.ops.length) ∧ x = rdTn xs n := by
  obtain ⟨ys, h, rfl⟩ := h
  obtain ⟨xss, n, hn, _, hx, rfl⟩ := h.slice_inv Tryz.underlying22
  have ha : aggT Tryz.prog 44 = true := by kernel_rfl
  have hc : Tryz.prog.cellsOf 44 = 3 := by kernel_rfl
  have ha2 : aggT Tryz.prog 22 = false := by kernel_rfl
  obtain ⟨l, hl, hm⟩ := map_told (f := wrapC true) (g := fun s : { s : Trn // s.no ≤ s.ops.length } => encTn s.1) (fun c hc => turn_arg (hx c hc))
  refine ⟨l.map (·.1), n, by simp; omega, ?_, ?_⟩
  · intro x hx
    obtain ⟨y, _, rfl⟩ := List.mem_map.1 hx
    exact y.2
  · have hm2 : l.map (fun s : { s : Trn // s.no ≤ s.ops.length } => encTn s.1) = (l.map (·.1)).map encTn := by rw [List.map_map]; rfl
    rw [ha, hc, ha2, hm, hm2]
    rfl
end Go.Proofs.YtcbjcmigecocgaaGreatDoor.HBT
/- Proved: the law ShotTakes returns true for every input, and its argument reads behind the call as it read before; what the row lists is tied to the program's text. Conditions: none beside the card's own. -/
namespace Go.Proofs.YtcbjcmigecocgaaGreatDoor.HBT
open Go Go.Proofs.YtcbjcmigecocgaaGreatDoor.HB Go.Proofs.YtcbjcmigecocgaaGreatDoor Go.ChangeShapes Go.WideShapes Go.ChangeAt Go.RowKit Go.Lib
set_option maxRecDepth 8000

set_option maxRecDepth 100000 in
theorem takes_lifted (os : Os) (started : os.Started) (H : Type) (enc : TypeId × Value → H) :
    ReturnsInHanded {} Tryz.checked os 3 .any (fun w args => (Rows.shotTakesSpec.pre enc Tryz.prog Tryz.f3 [] false w args ∧ laidMetH Tryz.prog laid w) ∧ sizedMet enc Tryz.prog Tryz.f3 (OpenSpec.ofChange Rows.shotTakesSpec) false w args)
      (Rows.shotTakesSpec.post enc Tryz.prog Tryz.f3 false true false false) := by
  refine returns_and_shaped (C := Tryz.checked) (X := fun w _ => laidMetH Tryz.prog laid w) (fun _ _ _ hh h => h.of_heap hh) own started (by kernel_rfl) Tryz.func3
    (ChangeSpec.witness_shaped (enc := enc) (C := Tryz.checked) (os := os) (X := fun w _ => laidMetH Tryz.prog laid w) false (World.laidAll Tryz.prog os laid) #[.slice none 0 0, .int .i64 0, .string ⟨#[]⟩, .int .i64 0] 8 (World.laidAll_os _ _ _)
      (door_shape os _) (by kernel_rfl) (by kernel_rfl) (by kernel_rfl) (door_met os _)) ?_
  intro W base args ds gs before hval hW hL hs
  refine law_contract (C := C) (tb := 4) 8 laidOut (by kernel_rfl) (by kernel_rfl) (by kernel_rfl) Tryz.underlying4 ?_ ?_ ?_ (G_of hL hs) hval hW
  · intro W W' gs q _ h
    cases gs with
    | nil => exact h
    | cons => exact h.elim
  · intro ds gs hd hg
    match ds, gs, hd, hg with
    | [d1, d2, d3, d4], [], _, _ => exact ⟨rfl, rfl, rfl⟩
  · intro xs hxs
    have hxs : ArgsOk Tryz.prog [22, 3, 9, 3] xs := hxs
    cases hxs with
    | cons h1 h =>
      cases h with
      | cons h2 h =>
        cases h with
        | cons h3 h =>
          cases h with
          | cons h4 h =>
            cases h
            obtain ⟨xs, n, hn, hok, rfl⟩ := turns_arg h1
            obtain ⟨st, rfl⟩ := int_arg h2
            obtain ⟨p, _, rfl⟩ := str_arg h3
            obtain ⟨kd, rfl⟩ := int_arg h4
            exact lawTakes_spec xs n hn hok st p kd

theorem takes_row : Rows.ShotTakesSaid :=
  OpenClaim.holds_of_wide 3 Tryz.f3 rfl rfl rfl rfl rfl rfl rfl ⟨rfl, rfl, rfl, rfl, rfl⟩ rfl rfl rfl rfl rfl (by kernel_rfl) Tryz.func3 (by kernel_rfl)
    (of_decide_eq_true (by kernel_rfl)) (by unfold Func.isWrapper; rw [if_neg (by decide +kernel)]; exact ⟨rfl, rfl⟩)
    (fun os started H enc _ => takes_lifted os started H enc)

theorem takes_holds : Rows.ShotTakesCardSaid :=
  Claim7.holds_tied_plain_at .later [] [.data, .data, .data, .data, .data, .pinned] true (true, "3d4453ce097f26706885064aedad629455c6e348a93b994e281686919b5b313c") true
    takes_row (fun _ h => by cases h) (by kernel_rfl) (fun _ h => by cases h) shotTakes_row_tie rfl ⟨rfl, rfl⟩ (by kernel_rfl) rfl
    (fun f fn hf hfn => by
      obtain rfl : f = 3 := Option.some.inj ((show Tryz.prog.funcNamed "herald/heraldlaw5.ShotTakes" = some 3 by kernel_rfl).symm.trans hf) |>.symm
      obtain rfl : fn = Tryz.f3 := (Option.some.inj (Tryz.func3.symm.trans hfn)).symm
      exact ⟨by kernel_rfl, fun j t ht => by
        rw [Tryz.params3] at ht
        have hm : t ∈ [22, 3, 9, 3] := by simpa using Array.mem_of_getElem? ht
        have hall : ([22, 3, 9, 3].all fun u => !Tryz.prog.wantsStandIn u) = true := by kernel_rfl
        exact (show Tryz.prog.wantsStandIn t = false by simpa using List.all_eq_true.1 hall t hm)⟩)
    (by kernel_rfl)

end Go.Proofs.YtcbjcmigecocgaaGreatDoor.HBT
