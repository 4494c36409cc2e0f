/- Proved: the law ShotDecodes returns true for every input, and its arguments read behind the call as they read before; what the row lists is tied to the program's text. Conditions: none beside the card's own. -/
import Derived.Test.YtfohedaadncefaaDoorHbD8
import Derived.Test.YtfohedaadncefaaDoorHbC7
import Derived.Test.YtfohedaadncefaaDoorCards
import Derived.Test.YtfohedaadncefaaDoorTie
import Derived.SevenTiedAt
namespace Go.Proofs.YtfohedaadncefaaDoor.HBT
open Go Go.Proofs.YtfohedaadncefaaDoor.HB Go.Proofs.YtfohedaadncefaaDoor Go.ChangeShapes Go.WideShapes Go.ChangeAt Go.RowKit Go.Lib
set_option maxRecDepth 8000

theorem int_arg {x : AV} (h : ArgOk Tryd.prog 3 x) : ∃ n, x = .int .i64 n := by
  obtain ⟨ys, h, rfl⟩ := h
  obtain ⟨n, _, rfl⟩ := h.int_inv Tryd.underlying3
  have ha : aggT Tryd.prog 3 = false := by kernel_rfl
  exact ⟨n, by rw [ha]; rfl⟩
theorem byte_arg {ys : List AV} (h : CellsOk Tryd.prog 5 ys) : ∃ b : { b : Int // 0 ≤ b ∧ b < 256 }, wrapC false ys = .int .u8 b.1 := by
  obtain ⟨n, hn, rfl⟩ := h.int_inv Tryd.underlying5
  have h : IntKind.u8.min ≤ n ∧ n ≤ IntKind.u8.max := by simpa [Lit.wf] using hn
  have e1 : IntKind.u8.min = 0 := by decide
  have e2 : IntKind.u8.max = 255 := by decide
  exact ⟨⟨n, by omega⟩, rfl⟩
theorem bytes_arg {x : AV} (h : ArgOk Tryd.prog 31 x) : ∃ d n, n ≤ d.length ∧ Bytes d ∧ x = rdb d n := by
  obtain ⟨ys, h, rfl⟩ := h
  obtain ⟨xss, n, hn, _, hx, rfl⟩ := h.slice_inv Tryd.underlying31
  have ha : aggT Tryd.prog 5 = false := by kernel_rfl
  have hc : Tryd.prog.cellsOf 5 = 1 := by kernel_rfl
  have ha2 : aggT Tryd.prog 31 = false := by kernel_rfl
  obtain ⟨l, hl, hm⟩ := map_told (f := wrapC false) (g := fun s : { b : Int // 0 ≤ b ∧ b < 256 } => AV.int .u8 s.1) (fun c hc => byte_arg (hx c hc))
  refine ⟨l.map (·.1), n, by simp; omega, ?_, ?_⟩
  · intro x hx
    obtain ⟨y, _, rfl⟩ := List.mem_map.1 hx
    exact y.2
  · have hm2 : l.map (fun s : { b : Int // 0 ≤ b ∧ b < 256 } => AV.int .u8 s.1) = u8s (l.map (·.1)) := by unfold u8s; rw [List.map_map]; rfl
    rw [ha, hc, ha2, hm, hm2]
    rfl

set_option maxRecDepth 100000 in
theorem decodes_lifted (os : Os) (started : os.Started) (H : Type) (enc : TypeId × Value → H) :
    ReturnsInHanded {} Tryd.checked os 6 .any (fun w args => (Rows.shotDecodesSpec.pre enc Tryd.prog Tryd.f6 [] false w args ∧ laidMetH Tryd.prog laid w) ∧ sizedMet enc Tryd.prog Tryd.f6 (OpenSpec.ofChange Rows.shotDecodesSpec) false w args)
      (Rows.shotDecodesSpec.post enc Tryd.prog Tryd.f6 false true false false) := by
  refine returns_and_shaped (C := Tryd.checked) (X := fun w _ => laidMetH Tryd.prog laid w) (fun _ _ _ hh h => h.of_heap hh) own started (by kernel_rfl) Tryd.func6
    (ChangeSpec.witness_shaped (enc := enc) (C := Tryd.checked) (os := os) (X := fun w _ => laidMetH Tryd.prog laid w) false (World.laidAll Tryd.prog os laid) #[.slice none 0 0, .int .i64 0] 8 (World.laidAll_os _ _ _)
      (door_shape os _) (by kernel_rfl) (by kernel_rfl) (by kernel_rfl) (door_met os _)) ?_
  intro W base args ds gs before hval hW hL hs
  refine law_contract (C := C) (tb := 4) 6 laidOut (by kernel_rfl) (by kernel_rfl) (by kernel_rfl) Tryd.underlying4 ?_ ?_ ?_ (G_of hL hs) hval hW
  · intro W W' gs q _ h
    cases gs with
    | nil => exact h
    | cons => exact h.elim
  · intro ds gs hd hg
    match ds, gs, hd, hg with
    | [d1, d2], [], _, _ => exact ⟨rfl, rfl, rfl⟩
  · intro xs hxs
    have hxs : ArgsOk Tryd.prog [31, 3] xs := hxs
    cases hxs with
    | cons h1 h =>
      cases h with
      | cons h2 h =>
        cases h
        obtain ⟨d, n, hn, hb, rfl⟩ := bytes_arg h1
        obtain ⟨long, rfl⟩ := int_arg h2
        exact lawDecodes_spec d n long hn hb

theorem decodes_row : Rows.ShotDecodesSaid :=
  OpenClaim.holds_of_wide 6 Tryd.f6 rfl rfl rfl rfl rfl rfl rfl ⟨rfl, rfl, rfl, rfl, rfl⟩ rfl rfl rfl rfl rfl (by kernel_rfl) Tryd.func6 (by kernel_rfl)
    (of_decide_eq_true (by kernel_rfl)) (by unfold Func.isWrapper; rw [if_neg (by decide +kernel)]; exact ⟨rfl, rfl⟩)
    (fun os started H enc _ => decodes_lifted os started H enc)

theorem decodes_holds : Rows.ShotDecodesCardSaid :=
  Claim7.holds_tied_plain_at .later [] [.data, .data, .pinned] true (true, "47b849953b1246cf538d066d11d37971339d33c3b464a27150887b44def3bd95") true
    decodes_row (fun _ h => by cases h) (by kernel_rfl) (fun _ h => by cases h) shotDecodes_row_tie rfl ⟨rfl, rfl⟩ (by kernel_rfl) rfl
    (fun f fn hf hfn => by
      obtain rfl : f = 6 := Option.some.inj ((show Tryd.prog.funcNamed "herald/heraldlaw5.ShotDecodes" = some 6 by kernel_rfl).symm.trans hf) |>.symm
      obtain rfl : fn = Tryd.f6 := (Option.some.inj (Tryd.func6.symm.trans hfn)).symm
      exact ⟨by kernel_rfl, fun j t ht => by
        rw [Tryd.params6] at ht
        have hm : t ∈ [31, 3] := by simpa using Array.mem_of_getElem? ht
        have hall : ([31, 3].all fun u => !Tryd.prog.wantsStandIn u) = true := by kernel_rfl
        exact (show Tryd.prog.wantsStandIn t = false by simpa using List.all_eq_true.1 hall t hm)⟩)
    (by kernel_rfl)

end Go.Proofs.YtfohedaadncefaaDoor.HBT
