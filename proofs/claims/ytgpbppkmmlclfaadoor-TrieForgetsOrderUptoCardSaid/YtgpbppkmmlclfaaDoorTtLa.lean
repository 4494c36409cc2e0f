/- TrieForgetsOrder. -/
import Derived.Test.YtgpbppkmmlclfaaDoorTtKy
import Derived.Test.YtgpbppkmmlclfaaDoorTtKz
import Derived.Test.YtgpbppkmmlclfaaDoorHbZr
set_option linter.unusedVariables false
set_option linter.unusedSimpArgs false
namespace Go.Proofs.YtgpbppkmmlclfaaDoor.HBT
open Go Go.Proofs.YtgpbppkmmlclfaaDoor.HB Go.RowKit
set_option maxRecDepth 8000

theorem turnR_spec (l : List On) (hl : l.length ≤ 1000) (kn : Nat) (hk : kn ≤ 1000) : FnSpec C 18 [rdS l l.length, .int .i64 kn] [] (fun r L' => r = rdS (turnO l kn 0) (turnO l kn 0).length ∧ L' = []) := by
  refine FnSpec.fin (turn_spec l hl kn hk) ?_
  rintro r L' ⟨gl, lo, hlv, rfl⟩
  rcases hlv with ⟨e0, rfl, rfl⟩ | ⟨Cp, rfl, rfl⟩
  · refine ⟨_, _, FinOk.lend (.nils 5), ?_, rfl⟩
    rw [e0]; rfl
  · exact ⟨_, _, FinOk.lend (.row 0 gl Cp _ tSe 5 _ rfl (by simp)), rfl, rfl⟩
set_option maxHeartbeats 8000000 in
theorem forgets_law (xs os : List On) (n no : Nat) (hn : n ≤ xs.length) (hno : no ≤ os.length) (hn63 : no ≤ 9223372036854775807) (k st : Int) (hk : -9223372036854775808 ≤ k ∧ k ≤ 9223372036854775807) (ps : List ByteArray) (np : Nat) (hps : np ≤ ps.length) :
    FnSpec C 5 [rdS xs n, rdS os no, .int .i64 k, .int .i64 st, rdP ps np] [] (fun r L' => r = .bool true ∧ L' = []) := by
  have hlen : (layO (xs.take (min n 60))).length ≤ 60 := by have := layO_len (xs.take (min n 60)); rw [List.length_take] at this; omega
  have hok := OkO.lay (xs.take (min n 60))
  refine FnSpec.start C_ok Tryd.func5 rfl rfl Tryd.ntmps5 ?_
  repeat(first|refine Sc ?_|refine fun(_:Nat)=>?_)
  refine ACallT.ok (ACall.ret begins9_spec ?_)
  repeat(first|refine Sc ?_|refine fun(_:Nat)=>?_)
  refine ACallT.ok (ACall.pure _ (laidR_spec xs n hn) ?_)
  generalize layO (xs.take (min n 60)) = ons at hlen hok
  rintro r L' ⟨gt, H, hT, rfl, rfl⟩
  refine ⟨_, Sub.refl _, ?_⟩
  repeat(first|refine Sc ?_|refine fun(_:Nat)=>?_)
  refine ⟨fun hk0 => ?_, fun hk0 => ?_⟩
  · have hk0 : k < 0 := hk0
    repeat(first|refine Za ?_|refine Zb ?_|refine Zy rfl ?_|refine Z2 rfl ?_|refine Z3 ?_|refine fun(_:Nat)=>?_|refine Run.goN rfl ?_|refine Zo rfl ?_)
    refine Run.textA C_ok (aopNeg_sound C_ok) ?_
    repeat(first|refine Za ?_|refine Zb ?_|refine Zy rfl ?_|refine Z2 rfl ?_|refine Z3 ?_|refine fun(_:Nat)=>?_|refine Run.goN rfl ?_|refine Zo rfl ?_)
    refine fun r hr => ?_
    obtain rfl : r = k + 1 := by rw [hr, IntKind.wrap_i64]; omega
    repeat(first|refine Za ?_|refine Zb ?_|refine Zy rfl ?_|refine Z2 rfl ?_|refine Z3 ?_|refine fun(_:Nat)=>?_|refine Run.goN rfl ?_|refine Zo rfl ?_)
    refine fun r hr => ?_
    obtain rfl : r = -(k + 1) := by rw [hr, IntKind.wrap_i64]; omega
    have hk0 : (0 : Int) ≤ -(k + 1) := by omega
    repeat(first|refine Sc ?_|refine fun(_:Nat)=>?_)
    refine ⟨by decide, ?_⟩
    repeat(first|refine Sc ?_|refine fun(_:Nat)=>?_)
    obtain ⟨kn, hkn, hk1⟩ : ∃ kn : Nat, kn ≤ 1000 ∧ (-(k + 1)).tmod 1000 = (kn : Int) := ⟨((-(k + 1)).tmod 1000).toNat, by have := Int.tmod_lt_of_pos (-(k + 1)) (show (0 : Int) < 1000 by decide); have := Int.tmod_nonneg (1000 : Int) hk0; omega, by have := Int.tmod_nonneg (1000 : Int) hk0; omega⟩
    refine fun r hr => ?_
    rw [hk1] at hr
    subst hr
    repeat(first|refine Sc ?_|refine fun(_:Nat)=>?_)
    refine ACallT.ok (ACall.ret (turnR_spec ons (by omega) kn hkn) ?_)
    repeat(first|refine Sc ?_|refine fun(_:Nat)=>?_)
    refine ACallT.ok (ACall.pure _ newTr_spec ?_)
    rintro r L' ⟨gu, Hu0, hTu0, rfl, rfl⟩
    have hpt := turnO_perm ons kn
    have hom := hok.perm hpt.symm
    have hml : (turnO ons kn 0).length ≤ 60 := by rw [hpt.length_eq]; exact hlen
    refine ⟨.ptr 1 gu 0, Sub.ptr _ _ _ _, ?_⟩
    repeat(first|refine Sc ?_|refine fun(_:Nat)=>?_)
    refine Run.loopW (fun m env L => ∃ (i : Nat) (Hu : AHeap), m = (turnO ons kn 0).length - i ∧ i ≤ (turnO ons kn 0).length ∧ IsTr ((turnO ons kn 0).take i) gu Hu ∧ env = [rdS xs n, rdS os no, .int .i64 (-(k + 1)), .int .i64 st, rdP ps np, .junk, .junk, .junk, .junk, .junk, .junk, .junk, .ptr 0 gt 0, rdS ons ons.length, rdS (turnO ons kn 0) (turnO ons kn 0).length, .ptr 1 gu 0, .int .i64 i, .junk, .junk, .junk, .junk, .junk, .junk, .junk, .junk, .junk, .junk, .junk, .junk, .junk, .junk, .junk, .junk, .junk, .junk, .junk, .junk, .junk, .junk, .junk, .junk, .junk, .junk, .junk, .junk, .junk, .junk, .junk, .junk, .junk, .junk, .junk, .junk, .junk, .junk, .junk, .junk, .junk, .junk, .junk, .junk, .junk, .junk, .junk, .junk, .junk, .junk, .junk, .junk, .junk, .junk, .junk, .junk, .junk, .junk, .junk, .junk, .junk, .junk, .junk, .junk, .junk, .junk, .junk, .junk, .junk, .junk, .junk, .junk, .junk, .junk, .junk, .junk, .junk, .junk, .junk, .junk, .junk, .junk, .junk, .junk, .junk] ∧ L = [(0, boxL H), (0, boxL Hu)]) (turnO ons kn 0).length
      [rdS xs n, rdS os no, .int .i64 (-(k + 1)), .int .i64 st, rdP ps np, .junk, .junk, .junk, .junk, .junk, .junk, .junk, .ptr 0 gt 0, rdS ons ons.length, rdS (turnO ons kn 0) (turnO ons kn 0).length, .ptr 1 gu 0, .int .i64 (0 : Nat), .junk, .junk, .junk, .junk, .junk, .junk, .junk, .junk, .junk, .junk, .junk, .junk, .junk, .junk, .junk, .junk, .junk, .junk, .junk, .junk, .junk, .junk, .junk, .junk, .junk, .junk, .junk, .junk, .junk, .junk, .junk, .junk, .junk, .junk, .junk, .junk, .junk, .junk, .junk, .junk, .junk, .junk, .junk, .junk, .junk, .junk, .junk, .junk, .junk, .junk, .junk, .junk, .junk, .junk, .junk, .junk, .junk, .junk, .junk, .junk, .junk, .junk, .junk, .junk, .junk, .junk, .junk, .junk, .junk, .junk, .junk, .junk, .junk, .junk, .junk, .junk, .junk, .junk, .junk, .junk, .junk, .junk, .junk, .junk, .junk] [(0, boxL H), (0, boxL Hu0)] (Weak.sel ?_ [0, 1] (by decide) ?_) ⟨0, Hu0, by omega, by omega, by rw [List.take_zero]; exact hTu0, rfl, rfl⟩ ?_
    · exact Ss
    · exact Sl
    rintro m env L ⟨i, Hu, rfl, hi, hTu, rfl, rfl⟩
    repeat(first|refine Sc ?_|refine fun(_:Nat)=>?_)
    refine ⟨fun h => ?_, fun h => ?_⟩
    · have h : (i : Int) < ((turnO ons kn 0).length : Int) := h
      obtain ⟨o, eo⟩ : ∃ o, (turnO ons kn 0)[i]? = some o := ⟨_, List.getElem?_eq_getElem (by omega)⟩
      have hadd := hom.take eo
      have htl : ((turnO ons kn 0).take i).length ≤ 60 := by rw [List.length_take]; omega
      repeat(first|refine Sc ?_|refine fun(_:Nat)=>?_)
      refine Run.loopW (fun m env L => ∃ (j : Nat) (Hu : AHeap), m = 6 - j ∧ j ≤ 5 ∧ j ≤ no ∧ IsTr ((turnO ons kn 0).take i) gu Hu ∧ env = [rdS xs n, rdS os no, .int .i64 (-(k + 1)), .int .i64 st, rdP ps np, .junk, .junk, .junk, .junk, .junk, .junk, .junk, .ptr 0 gt 0, rdS ons ons.length, rdS (turnO ons kn 0) (turnO ons kn 0).length, .ptr 1 gu 0, .int .i64 i, .int .i64 j, .junk, .junk, .junk, .junk, .junk, .junk, .junk, .junk, .junk, .junk, .junk, .junk, .junk, .junk, .junk, .junk, .junk, .junk, .junk, .junk, .junk, .junk, .junk, .junk, .junk, .junk, .junk, .junk, .junk, .junk, .junk, .junk, .junk, .junk, .junk, .junk, .junk, .junk, .junk, .junk, .junk, .junk, .junk, .junk, .junk, .junk, .junk, .junk, .junk, .junk, .junk, .junk, .junk, .junk, .junk, .junk, .junk, .junk, .junk, .junk, .junk, .junk, .junk, .junk, .junk, .junk, .junk, .junk, .junk, .junk, .junk, .junk, .junk, .junk, .junk, .junk, .junk, .junk, .junk, .junk, .junk, .junk, .junk, .junk] ∧ L = [(0, boxL H), (0, boxL Hu)]) 6
        [rdS xs n, rdS os no, .int .i64 (-(k + 1)), .int .i64 st, rdP ps np, .junk, .junk, .junk, .junk, .junk, .junk, .junk, .ptr 0 gt 0, rdS ons ons.length, rdS (turnO ons kn 0) (turnO ons kn 0).length, .ptr 1 gu 0, .int .i64 i, .int .i64 (0 : Nat), .junk, .junk, .junk, .junk, .junk, .junk, .junk, .junk, .junk, .junk, .junk, .junk, .junk, .junk, .junk, .junk, .junk, .junk, .junk, .junk, .junk, .junk, .junk, .junk, .junk, .junk, .junk, .junk, .junk, .junk, .junk, .junk, .junk, .junk, .junk, .junk, .junk, .junk, .junk, .junk, .junk, .junk, .junk, .junk, .junk, .junk, .junk, .junk, .junk, .junk, .junk, .junk, .junk, .junk, .junk, .junk, .junk, .junk, .junk, .junk, .junk, .junk, .junk, .junk, .junk, .junk, .junk, .junk, .junk, .junk, .junk, .junk, .junk, .junk, .junk, .junk, .junk, .junk, .junk, .junk, .junk, .junk, .junk, .junk] [(0, boxL H), (0, boxL Hu)] (Weak.sel ?_ [0, 1] (by decide) ?_) ⟨0, Hu, by omega, by omega, by omega, hTu, rfl, rfl⟩ ?_
      · exact Ss
      · exact Sl
      clear hTu Hu
      rintro m env L ⟨j, Hu, rfl, hj5, hjn, hTu, rfl, rfl⟩
      repeat(first|refine Sc ?_|refine fun(_:Nat)=>?_)
      have hout : True := trivial
      refine ⟨fun h2 => ?_, fun h2 => ?_⟩
      · have h2 : (j : Int) < (no : Int) := h2
        repeat(first|refine Sc ?_|refine fun(_:Nat)=>?_)
        refine ⟨fun h3 => ?_, fun h3 => ?_⟩
        · have h3 : (j : Int) < 5 := h3
          have hmod : (i + j) % no < no := Nat.mod_lt _ (by omega)
          obtain ⟨x, ex⟩ : ∃ x, os[(i + j) % no]? = some x := ⟨_, List.getElem?_eq_getElem (by omega)⟩
          repeat(first|refine Sc ?_|refine fun(_:Nat)=>?_)
          refine fun r hr => ?_
          obtain rfl : r = ((i + j : Nat) : Int) := by rw [hr, IntKind.wrap_i64]; omega
          repeat(first|refine Sc ?_|refine fun(_:Nat)=>?_)
          refine ⟨by omega, ?_⟩
          repeat(first|refine Sc ?_|refine fun(_:Nat)=>?_)
          refine fun r hr => ?_
          obtain rfl : r = (((i + j) % no : Nat) : Int) := by rw [hr]; exact (Int.ofNat_tmod _ _).symm
          repeat(first|refine Sc ?_|refine fun(_:Nat)=>?_)
          refine ⟨by omega, encH x, map_at encH ex, ?_⟩
          repeat(first|refine Sc ?_|refine fun(_:Nat)=>?_)
          refine ACallT.ok (ACall.sel [1] (by decide) [.ptr 0 gu 0, .int .i64 x.s, encW x.w] _ ⟨Sub.ptr _ _ _ _, Sub.refl _, Sub.refl _, trivial⟩ (addT_spec _ gu Hu hTu (by omega) x.s x.w) ?_)
          rintro r L' ⟨H1, rfl, hT1, rfl⟩
          refine ⟨_, Sub.refl _, ?_⟩
          repeat(first|refine Sc ?_|refine fun(_:Nat)=>?_)
          refine ⟨fun h4 => ?_, fun h4 => ?_⟩
          · have h4 : addO ((turnO ons kn 0).take i) x.s x.w = 0 := h4
            have hd := add_drop h4
            unfold addedO at hT1
            rw [if_pos h4] at hT1
            repeat(first|refine Sc ?_|refine fun(_:Nat)=>?_)
            refine ACallT.ok (ACall.sel [1] (by decide) [.ptr 0 gu 0, .int .i64 x.s, .int .i64 x.w.id] _ ⟨Sub.ptr _ _ _ _, Sub.refl _, Sub.refl _, trivial⟩ (dropT_spec _ gu H1 hT1 (by rw [List.length_append, List.length_singleton]; omega) x.s x.w.id) ?_)
            rw [hd.1, hd.2]
            rintro r L' ⟨H2, rfl, hT2, rfl⟩
            refine ⟨_, Sub.refl _, ?_⟩
            repeat(first|refine Sc ?_|refine fun(_:Nat)=>?_)
            refine ⟨fun h => absurd rfl h, fun _ => ?_⟩
            repeat(first|refine Sc ?_|refine fun(_:Nat)=>?_)
            refine fun r hr => ?_
            obtain rfl := add1 hr (by omega)
            repeat(first|refine Sc ?_|refine fun(_:Nat)=>?_)
            refine Cont.lpW ?_
            refine ⟨6 - (j + 1), _, _, by omega, Weak.sel ?_ [0, 1] (by decide) ?_, ⟨j + 1, H2, rfl, by omega, by omega, hT2, rfl, rfl⟩⟩
            · exact Ss
            · exact Sl
          · have h4 : ¬ addO ((turnO ons kn 0).take i) x.s x.w = 0 := h4
            unfold addedO at hT1
            rw [if_neg h4] at hT1
            repeat(first|refine Sc ?_|refine fun(_:Nat)=>?_)
            refine fun r hr => ?_
            obtain rfl := add1 hr (by omega)
            repeat(first|refine Sc ?_|refine fun(_:Nat)=>?_)
            refine Cont.lpW ?_
            refine ⟨6 - (j + 1), _, _, by omega, Weak.sel ?_ [0, 1] (by decide) ?_, ⟨j + 1, H1, rfl, by omega, by omega, hT1, rfl, rfl⟩⟩
            · exact Ss
            · exact Sl
        · repeat(first|refine Sc ?_|refine fun(_:Nat)=>?_)
          refine Run.drawnK C_ok (aopC_sound C_ok) [] [0, 1, 2, 3, 4, 5, 6, 7, 8, 9, 10, 11, 12] (by kernel_rfl) ?_
          repeat(first|refine Sc ?_|refine fun(_:Nat)=>?_)
          refine ⟨h, encH o, map_at encH eo, ?_⟩
          repeat(first|refine Sc ?_|refine fun(_:Nat)=>?_)
          refine ⟨h, encH o, map_at encH eo, ?_⟩
          repeat(first|refine Sc ?_|refine fun(_:Nat)=>?_)
          refine ACallT.ok (ACall.sel [1] (by decide) [.ptr 0 gu 0, .int .i64 o.s, encW o.w] _ ⟨Sub.ptr _ _ _ _, Sub.refl _, Sub.refl _, trivial⟩ (addT_spec _ gu Hu hTu (by omega) o.s o.w) ?_)
          rw [hadd.1, hadd.2]
          rintro r L' ⟨H1, rfl, hT1, rfl⟩
          refine ⟨_, Sub.refl _, ?_⟩
          repeat(first|refine Sc ?_|refine fun(_:Nat)=>?_)
          refine ⟨fun h => absurd rfl h, fun _ => ?_⟩
          repeat(first|refine Sc ?_|refine fun(_:Nat)=>?_)
          refine fun r hr => ?_
          obtain rfl := add1 hr (by omega)
          repeat(first|refine Sc ?_|refine fun(_:Nat)=>?_)
          refine Cont.lpW ?_
          refine ⟨(turnO ons kn 0).length - (i + 1), _, _, by omega, Weak.sel ?_ [0, 1] (by decide) ?_, ⟨i + 1, H1, rfl, by omega, hT1, rfl, rfl⟩⟩
          · exact Ss
          · exact Sl
      · repeat(first|refine Sc ?_|refine fun(_:Nat)=>?_)
        refine Run.drawnK C_ok (aopC_sound C_ok) [] [0, 1, 2, 3, 4, 5, 6, 7, 8, 9, 10, 11, 12] (by kernel_rfl) ?_
        repeat(first|refine Sc ?_|refine fun(_:Nat)=>?_)
        refine ⟨h, encH o, map_at encH eo, ?_⟩
        repeat(first|refine Sc ?_|refine fun(_:Nat)=>?_)
        refine ⟨h, encH o, map_at encH eo, ?_⟩
        repeat(first|refine Sc ?_|refine fun(_:Nat)=>?_)
        refine ACallT.ok (ACall.sel [1] (by decide) [.ptr 0 gu 0, .int .i64 o.s, encW o.w] _ ⟨Sub.ptr _ _ _ _, Sub.refl _, Sub.refl _, trivial⟩ (addT_spec _ gu Hu hTu (by omega) o.s o.w) ?_)
        rw [hadd.1, hadd.2]
        rintro r L' ⟨H1, rfl, hT1, rfl⟩
        refine ⟨_, Sub.refl _, ?_⟩
        repeat(first|refine Sc ?_|refine fun(_:Nat)=>?_)
        refine ⟨fun h => absurd rfl h, fun _ => ?_⟩
        repeat(first|refine Sc ?_|refine fun(_:Nat)=>?_)
        refine fun r hr => ?_
        obtain rfl := add1 hr (by omega)
        repeat(first|refine Sc ?_|refine fun(_:Nat)=>?_)
        refine Cont.lpW ?_
        refine ⟨(turnO ons kn 0).length - (i + 1), _, _, by omega, Weak.sel ?_ [0, 1] (by decide) ?_, ⟨i + 1, H1, rfl, by omega, hT1, rfl, rfl⟩⟩
        · exact Ss
        · exact Sl
    · have h : ¬ (i : Int) < ((turnO ons kn 0).length : Int) := h
      obtain rfl : i = (turnO ons kn 0).length := by omega
      rw [List.take_length] at hTu
      repeat(first|refine Sc ?_|refine fun(_:Nat)=>?_)
      refine ACallT.ok (ACall.sel [0, 1] (by decide) [.ptr 0 gt 0, .ptr 1 gu 0, rdS ons ons.length, .int .i64 st, rdP ps np] _ ⟨Sub.refl _, Sub.ptr _ _ _ _, Sub.refl _, Sub.refl _, Sub.refl _, trivial⟩ (alike_spec ons (turnO ons kn 0) gt gu H Hu hT hTu hpt.symm hok.nodup (by omega) ons (by omega) st ps np hps) ?_)
      rintro r L' ⟨rfl, rfl⟩
      refine ⟨_, Sub.refl _, ?_⟩
      repeat(first|refine Sc ?_|refine fun(_:Nat)=>?_)
      exact ⟨_, [], FinOk.drop _ _, rfl, rfl⟩
  · have hk0 : (0 : Int) ≤ k := by have hk0 : ¬ k < 0 := hk0; omega
    repeat(first|refine Sc ?_|refine fun(_:Nat)=>?_)
    refine ⟨by decide, ?_⟩
    repeat(first|refine Sc ?_|refine fun(_:Nat)=>?_)
    obtain ⟨kn, hkn, hk1⟩ : ∃ kn : Nat, kn ≤ 1000 ∧ (k).tmod 1000 = (kn : Int) := ⟨((k).tmod 1000).toNat, by have := Int.tmod_lt_of_pos (k) (show (0 : Int) < 1000 by decide); have := Int.tmod_nonneg (1000 : Int) hk0; omega, by have := Int.tmod_nonneg (1000 : Int) hk0; omega⟩
    refine fun r hr => ?_
    rw [hk1] at hr
    subst hr
    repeat(first|refine Sc ?_|refine fun(_:Nat)=>?_)
    refine ACallT.ok (ACall.ret (turnR_spec ons (by omega) kn hkn) ?_)
    repeat(first|refine Sc ?_|refine fun(_:Nat)=>?_)
    refine ACallT.ok (ACall.pure _ newTr_spec ?_)
    rintro r L' ⟨gu, Hu0, hTu0, rfl, rfl⟩
    have hpt := turnO_perm ons kn
    have hom := hok.perm hpt.symm
    have hml : (turnO ons kn 0).length ≤ 60 := by rw [hpt.length_eq]; exact hlen
    refine ⟨.ptr 1 gu 0, Sub.ptr _ _ _ _, ?_⟩
    repeat(first|refine Sc ?_|refine fun(_:Nat)=>?_)
    refine Run.loopW (fun m env L => ∃ (i : Nat) (Hu : AHeap), m = (turnO ons kn 0).length - i ∧ i ≤ (turnO ons kn 0).length ∧ IsTr ((turnO ons kn 0).take i) gu Hu ∧ env = [rdS xs n, rdS os no, .int .i64 k, .int .i64 st, rdP ps np, .junk, .junk, .junk, .junk, .junk, .junk, .junk, .ptr 0 gt 0, rdS ons ons.length, rdS (turnO ons kn 0) (turnO ons kn 0).length, .ptr 1 gu 0, .int .i64 i, .junk, .junk, .junk, .junk, .junk, .junk, .junk, .junk, .junk, .junk, .junk, .junk, .junk, .junk, .junk, .junk, .junk, .junk, .junk, .junk, .junk, .junk, .junk, .junk, .junk, .junk, .junk, .junk, .junk, .junk, .junk, .junk, .junk, .junk, .junk, .junk, .junk, .junk, .junk, .junk, .junk, .junk, .junk, .junk, .junk, .junk, .junk, .junk, .junk, .junk, .junk, .junk, .junk, .junk, .junk, .junk, .junk, .junk, .junk, .junk, .junk, .junk, .junk, .junk, .junk, .junk, .junk, .junk, .junk, .junk, .junk, .junk, .junk, .junk, .junk, .junk, .junk, .junk, .junk, .junk, .junk, .junk, .junk, .junk, .junk] ∧ L = [(0, boxL H), (0, boxL Hu)]) (turnO ons kn 0).length
      [rdS xs n, rdS os no, .int .i64 k, .int .i64 st, rdP ps np, .junk, .junk, .junk, .junk, .junk, .junk, .junk, .ptr 0 gt 0, rdS ons ons.length, rdS (turnO ons kn 0) (turnO ons kn 0).length, .ptr 1 gu 0, .int .i64 (0 : Nat), .junk, .junk, .junk, .junk, .junk, .junk, .junk, .junk, .junk, .junk, .junk, .junk, .junk, .junk, .junk, .junk, .junk, .junk, .junk, .junk, .junk, .junk, .junk, .junk, .junk, .junk, .junk, .junk, .junk, .junk, .junk, .junk, .junk, .junk, .junk, .junk, .junk, .junk, .junk, .junk, .junk, .junk, .junk, .junk, .junk, .junk, .junk, .junk, .junk, .junk, .junk, .junk, .junk, .junk, .junk, .junk, .junk, .junk, .junk, .junk, .junk, .junk, .junk, .junk, .junk, .junk, .junk, .junk, .junk, .junk, .junk, .junk, .junk, .junk, .junk, .junk, .junk, .junk, .junk, .junk, .junk, .junk, .junk, .junk, .junk] [(0, boxL H), (0, boxL Hu0)] (Weak.sel ?_ [0, 1] (by decide) ?_) ⟨0, Hu0, by omega, by omega, by rw [List.take_zero]; exact hTu0, rfl, rfl⟩ ?_
    · exact Ss
    · exact Sl
    rintro m env L ⟨i, Hu, rfl, hi, hTu, rfl, rfl⟩
    repeat(first|refine Sc ?_|refine fun(_:Nat)=>?_)
    refine ⟨fun h => ?_, fun h => ?_⟩
    · have h : (i : Int) < ((turnO ons kn 0).length : Int) := h
      obtain ⟨o, eo⟩ : ∃ o, (turnO ons kn 0)[i]? = some o := ⟨_, List.getElem?_eq_getElem (by omega)⟩
      have hadd := hom.take eo
      have htl : ((turnO ons kn 0).take i).length ≤ 60 := by rw [List.length_take]; omega
      repeat(first|refine Sc ?_|refine fun(_:Nat)=>?_)
      refine Run.loopW (fun m env L => ∃ (j : Nat) (Hu : AHeap), m = 6 - j ∧ j ≤ 5 ∧ j ≤ no ∧ IsTr ((turnO ons kn 0).take i) gu Hu ∧ env = [rdS xs n, rdS os no, .int .i64 k, .int .i64 st, rdP ps np, .junk, .junk, .junk, .junk, .junk, .junk, .junk, .ptr 0 gt 0, rdS ons ons.length, rdS (turnO ons kn 0) (turnO ons kn 0).length, .ptr 1 gu 0, .int .i64 i, .int .i64 j, .junk, .junk, .junk, .junk, .junk, .junk, .junk, .junk, .junk, .junk, .junk, .junk, .junk, .junk, .junk, .junk, .junk, .junk, .junk, .junk, .junk, .junk, .junk, .junk, .junk, .junk, .junk, .junk, .junk, .junk, .junk, .junk, .junk, .junk, .junk, .junk, .junk, .junk, .junk, .junk, .junk, .junk, .junk, .junk, .junk, .junk, .junk, .junk, .junk, .junk, .junk, .junk, .junk, .junk, .junk, .junk, .junk, .junk, .junk, .junk, .junk, .junk, .junk, .junk, .junk, .junk, .junk, .junk, .junk, .junk, .junk, .junk, .junk, .junk, .junk, .junk, .junk, .junk, .junk, .junk, .junk, .junk, .junk, .junk] ∧ L = [(0, boxL H), (0, boxL Hu)]) 6
        [rdS xs n, rdS os no, .int .i64 k, .int .i64 st, rdP ps np, .junk, .junk, .junk, .junk, .junk, .junk, .junk, .ptr 0 gt 0, rdS ons ons.length, rdS (turnO ons kn 0) (turnO ons kn 0).length, .ptr 1 gu 0, .int .i64 i, .int .i64 (0 : Nat), .junk, .junk, .junk, .junk, .junk, .junk, .junk, .junk, .junk, .junk, .junk, .junk, .junk, .junk, .junk, .junk, .junk, .junk, .junk, .junk, .junk, .junk, .junk, .junk, .junk, .junk, .junk, .junk, .junk, .junk, .junk, .junk, .junk, .junk, .junk, .junk, .junk, .junk, .junk, .junk, .junk, .junk, .junk, .junk, .junk, .junk, .junk, .junk, .junk, .junk, .junk, .junk, .junk, .junk, .junk, .junk, .junk, .junk, .junk, .junk, .junk, .junk, .junk, .junk, .junk, .junk, .junk, .junk, .junk, .junk, .junk, .junk, .junk, .junk, .junk, .junk, .junk, .junk, .junk, .junk, .junk, .junk, .junk, .junk] [(0, boxL H), (0, boxL Hu)] (Weak.sel ?_ [0, 1] (by decide) ?_) ⟨0, Hu, by omega, by omega, by omega, hTu, rfl, rfl⟩ ?_
      · exact Ss
      · exact Sl
      clear hTu Hu
      rintro m env L ⟨j, Hu, rfl, hj5, hjn, hTu, rfl, rfl⟩
      repeat(first|refine Sc ?_|refine fun(_:Nat)=>?_)
      have hout : True := trivial
      refine ⟨fun h2 => ?_, fun h2 => ?_⟩
      · have h2 : (j : Int) < (no : Int) := h2
        repeat(first|refine Sc ?_|refine fun(_:Nat)=>?_)
        refine ⟨fun h3 => ?_, fun h3 => ?_⟩
        · have h3 : (j : Int) < 5 := h3
          have hmod : (i + j) % no < no := Nat.mod_lt _ (by omega)
          obtain ⟨x, ex⟩ : ∃ x, os[(i + j) % no]? = some x := ⟨_, List.getElem?_eq_getElem (by omega)⟩
          repeat(first|refine Sc ?_|refine fun(_:Nat)=>?_)
          refine fun r hr => ?_
          obtain rfl : r = ((i + j : Nat) : Int) := by rw [hr, IntKind.wrap_i64]; omega
          repeat(first|refine Sc ?_|refine fun(_:Nat)=>?_)
          refine ⟨by omega, ?_⟩
          repeat(first|refine Sc ?_|refine fun(_:Nat)=>?_)
          refine fun r hr => ?_
          obtain rfl : r = (((i + j) % no : Nat) : Int) := by rw [hr]; exact (Int.ofNat_tmod _ _).symm
          repeat(first|refine Sc ?_|refine fun(_:Nat)=>?_)
          refine ⟨by omega, encH x, map_at encH ex, ?_⟩
          repeat(first|refine Sc ?_|refine fun(_:Nat)=>?_)
          refine ACallT.ok (ACall.sel [1] (by decide) [.ptr 0 gu 0, .int .i64 x.s, encW x.w] _ ⟨Sub.ptr _ _ _ _, Sub.refl _, Sub.refl _, trivial⟩ (addT_spec _ gu Hu hTu (by omega) x.s x.w) ?_)
          rintro r L' ⟨H1, rfl, hT1, rfl⟩
          refine ⟨_, Sub.refl _, ?_⟩
          repeat(first|refine Sc ?_|refine fun(_:Nat)=>?_)
          refine ⟨fun h4 => ?_, fun h4 => ?_⟩
          · have h4 : addO ((turnO ons kn 0).take i) x.s x.w = 0 := h4
            have hd := add_drop h4
            unfold addedO at hT1
            rw [if_pos h4] at hT1
            repeat(first|refine Sc ?_|refine fun(_:Nat)=>?_)
            refine ACallT.ok (ACall.sel [1] (by decide) [.ptr 0 gu 0, .int .i64 x.s, .int .i64 x.w.id] _ ⟨Sub.ptr _ _ _ _, Sub.refl _, Sub.refl _, trivial⟩ (dropT_spec _ gu H1 hT1 (by rw [List.length_append, List.length_singleton]; omega) x.s x.w.id) ?_)
            rw [hd.1, hd.2]
            rintro r L' ⟨H2, rfl, hT2, rfl⟩
            refine ⟨_, Sub.refl _, ?_⟩
            repeat(first|refine Sc ?_|refine fun(_:Nat)=>?_)
            refine ⟨fun h => absurd rfl h, fun _ => ?_⟩
            repeat(first|refine Sc ?_|refine fun(_:Nat)=>?_)
            refine fun r hr => ?_
            obtain rfl := add1 hr (by omega)
            repeat(first|refine Sc ?_|refine fun(_:Nat)=>?_)
            refine Cont.lpW ?_
            refine ⟨6 - (j + 1), _, _, by omega, Weak.sel ?_ [0, 1] (by decide) ?_, ⟨j + 1, H2, rfl, by omega, by omega, hT2, rfl, rfl⟩⟩
            · exact Ss
            · exact Sl
          · have h4 : ¬ addO ((turnO ons kn 0).take i) x.s x.w = 0 := h4
            unfold addedO at hT1
            rw [if_neg h4] at hT1
            repeat(first|refine Sc ?_|refine fun(_:Nat)=>?_)
            refine fun r hr => ?_
            obtain rfl := add1 hr (by omega)
            repeat(first|refine Sc ?_|refine fun(_:Nat)=>?_)
            refine Cont.lpW ?_
            refine ⟨6 - (j + 1), _, _, by omega, Weak.sel ?_ [0, 1] (by decide) ?_, ⟨j + 1, H1, rfl, by omega, by omega, hT1, rfl, rfl⟩⟩
            · exact Ss
            · exact Sl
        · repeat(first|refine Sc ?_|refine fun(_:Nat)=>?_)
          refine Run.drawnK C_ok (aopC_sound C_ok) [] [0, 1, 2, 3, 4, 5, 6, 7, 8, 9, 10, 11, 12] (by kernel_rfl) ?_
          repeat(first|refine Sc ?_|refine fun(_:Nat)=>?_)
          refine ⟨h, encH o, map_at encH eo, ?_⟩
          repeat(first|refine Sc ?_|refine fun(_:Nat)=>?_)
          refine ⟨h, encH o, map_at encH eo, ?_⟩
          repeat(first|refine Sc ?_|refine fun(_:Nat)=>?_)
          refine ACallT.ok (ACall.sel [1] (by decide) [.ptr 0 gu 0, .int .i64 o.s, encW o.w] _ ⟨Sub.ptr _ _ _ _, Sub.refl _, Sub.refl _, trivial⟩ (addT_spec _ gu Hu hTu (by omega) o.s o.w) ?_)
          rw [hadd.1, hadd.2]
          rintro r L' ⟨H1, rfl, hT1, rfl⟩
          refine ⟨_, Sub.refl _, ?_⟩
          repeat(first|refine Sc ?_|refine fun(_:Nat)=>?_)
          refine ⟨fun h => absurd rfl h, fun _ => ?_⟩
          repeat(first|refine Sc ?_|refine fun(_:Nat)=>?_)
          refine fun r hr => ?_
          obtain rfl := add1 hr (by omega)
          repeat(first|refine Sc ?_|refine fun(_:Nat)=>?_)
          refine Cont.lpW ?_
          refine ⟨(turnO ons kn 0).length - (i + 1), _, _, by omega, Weak.sel ?_ [0, 1] (by decide) ?_, ⟨i + 1, H1, rfl, by omega, hT1, rfl, rfl⟩⟩
          · exact Ss
          · exact Sl
      · repeat(first|refine Sc ?_|refine fun(_:Nat)=>?_)
        refine Run.drawnK C_ok (aopC_sound C_ok) [] [0, 1, 2, 3, 4, 5, 6, 7, 8, 9, 10, 11, 12] (by kernel_rfl) ?_
        repeat(first|refine Sc ?_|refine fun(_:Nat)=>?_)
        refine ⟨h, encH o, map_at encH eo, ?_⟩
        repeat(first|refine Sc ?_|refine fun(_:Nat)=>?_)
        refine ⟨h, encH o, map_at encH eo, ?_⟩
        repeat(first|refine Sc ?_|refine fun(_:Nat)=>?_)
        refine ACallT.ok (ACall.sel [1] (by decide) [.ptr 0 gu 0, .int .i64 o.s, encW o.w] _ ⟨Sub.ptr _ _ _ _, Sub.refl _, Sub.refl _, trivial⟩ (addT_spec _ gu Hu hTu (by omega) o.s o.w) ?_)
        rw [hadd.1, hadd.2]
        rintro r L' ⟨H1, rfl, hT1, rfl⟩
        refine ⟨_, Sub.refl _, ?_⟩
        repeat(first|refine Sc ?_|refine fun(_:Nat)=>?_)
        refine ⟨fun h => absurd rfl h, fun _ => ?_⟩
        repeat(first|refine Sc ?_|refine fun(_:Nat)=>?_)
        refine fun r hr => ?_
        obtain rfl := add1 hr (by omega)
        repeat(first|refine Sc ?_|refine fun(_:Nat)=>?_)
        refine Cont.lpW ?_
        refine ⟨(turnO ons kn 0).length - (i + 1), _, _, by omega, Weak.sel ?_ [0, 1] (by decide) ?_, ⟨i + 1, H1, rfl, by omega, hT1, rfl, rfl⟩⟩
        · exact Ss
        · exact Sl
    · have h : ¬ (i : Int) < ((turnO ons kn 0).length : Int) := h
      obtain rfl : i = (turnO ons kn 0).length := by omega
      rw [List.take_length] at hTu
      repeat(first|refine Sc ?_|refine fun(_:Nat)=>?_)
      refine ACallT.ok (ACall.sel [0, 1] (by decide) [.ptr 0 gt 0, .ptr 1 gu 0, rdS ons ons.length, .int .i64 st, rdP ps np] _ ⟨Sub.refl _, Sub.ptr _ _ _ _, Sub.refl _, Sub.refl _, Sub.refl _, trivial⟩ (alike_spec ons (turnO ons kn 0) gt gu H Hu hT hTu hpt.symm hok.nodup (by omega) ons (by omega) st ps np hps) ?_)
      rintro r L' ⟨rfl, rfl⟩
      refine ⟨_, Sub.refl _, ?_⟩
      repeat(first|refine Sc ?_|refine fun(_:Nat)=>?_)
      exact ⟨_, [], FinOk.drop _ _, rfl, rfl⟩
end Go.Proofs.YtgpbppkmmlclfaaDoor.HBT
