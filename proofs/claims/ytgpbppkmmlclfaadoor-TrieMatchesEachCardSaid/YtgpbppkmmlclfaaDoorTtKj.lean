/- TrieMatchesEach. -/
import Derived.Test.YtgpbppkmmlclfaaDoorTtKd
set_option linter.unusedVariables false
set_option linter.unusedSimpArgs false
namespace Go.Proofs.YtgpbppkmmlclfaaDoor.HBT
open Go Go.Proofs.YtgpbppkmmlclfaaDoor.HB Go.RowKit
set_option maxRecDepth 8000

set_option maxHeartbeats 8000000 in
theorem matches_law (xs : List On) (n : Nat) (hn : n ≤ xs.length) (st k : Int) (p d : ByteArray) (v : Int) :
    FnSpec C 3 [rdS xs n, .int .i64 st, chA k p d v] [] (fun r L' => r = .bool true ∧ L' = []) := by
  have hlen : (layO (xs.take (min n 60))).length ≤ 60 := by have := layO_len (xs.take (min n 60)); rw [List.length_take] at this; omega
  have hnd := layO_nodup (xs.take (min n 60))
  refine FnSpec.start C_ok Tryd.func3 rfl rfl Tryd.ntmps3 ?_
  repeat(first|refine Sc ?_|refine fun(_:Nat)=>?_)
  refine ACallT.ok (ACall.ret begins9_spec ?_)
  repeat(first|refine Sc ?_|refine fun(_:Nat)=>?_)
  refine ACallT.ok (ACall.pure _ (laidR_spec xs n hn) ?_)
  generalize layO (xs.take (min n 60)) = ons at hlen hnd
  rintro r L' ⟨gt, H, hT, rfl, rfl⟩
  refine ⟨.tuple [.ptr 1 gt 0, rdS ons ons.length], Sub.tuples ⟨Sub.ptr _ _ _ _, Sub.refl _, trivial⟩, ?_⟩
  repeat(first|refine Sc ?_|refine fun(_:Nat)=>?_)
  refine ACallT.ok (ACall.sel [1] (by decide) [.ptr 0 gt 0, .int .i64 st, chA k p d v] _ ⟨Sub.ptr _ _ _ _, Sub.refl _, Sub.refl _, trivial⟩ (matchR_spec ons gt H hT (by omega) st k p d v) ?_)
  rintro r L' ⟨ys, hys, hso, rfl, rfl⟩
  refine ⟨_, Sub.refl _, ?_⟩
  repeat(first|refine Sc ?_|refine fun(_:Nat)=>?_)
  rename_i gc
  have hyl : ys.length ≤ 60 := by rw [hys.length_eq]; have := tagged_len ons st k p; omega
  refine Run.loopW (fun m env L => ∃ i : Nat, m = ons.length - i ∧ i ≤ ons.length ∧ env = [rdS xs n, .int .i64 st, chA k p d v, .junk, .junk, .ptr 0 gc 0, .junk, .junk, .junk, rdS ons ons.length, rdG ys, .int .i64 ((tagged (ons.take i) st k p).length : Nat), .int .i64 i, .junk, .junk, .junk, .junk, .junk, .junk, .junk, .junk, .junk, .junk, .junk, .junk, .junk, .junk, .junk, .junk, .junk, .junk, .junk, .junk, .junk, .junk, .junk, .junk, .junk, .junk, .junk, .junk, .junk, .junk, .junk, .junk, .junk, .junk, .junk, .junk, .junk, .junk, .junk, .junk, .junk, .junk, .junk, .junk, .junk, .junk, .junk, .junk, .junk, .junk, .junk, .junk, .junk, .junk, .junk, .junk, .junk, .junk, .junk, .junk, .junk, .junk, .junk, .junk, .junk, .junk, .junk, .junk, .junk, .junk, .junk, .junk, .junk, .junk, .junk, .junk, .junk, .junk, .junk, .junk, .junk, .junk, .junk, .junk, .junk, .junk, .junk, .junk, .junk, .junk, .junk, .junk, .junk, .junk, .junk, .junk, .junk, .junk, .junk, .junk, .junk, .junk, .junk, .junk, .junk, .junk, .junk, .junk, .junk, .junk, .junk, .junk, .junk, .junk, .junk, .junk, .junk, .junk, .junk, .junk, .junk, .junk, .junk, .junk, .junk, .junk] ∧ L = [(gc, .cells 24 [.int .i64 k, .str p, .str d, .int .i64 v])]) ons.length
    [rdS xs n, .int .i64 st, chA k p d v, .junk, .junk, .ptr 0 gc 0, .junk, .junk, .junk, rdS ons ons.length, rdG ys, .int .i64 (0 : Nat), .int .i64 (0 : Nat), .junk, .junk, .junk, .junk, .junk, .junk, .junk, .junk, .junk, .junk, .junk, .junk, .junk, .junk, .junk, .junk, .junk, .junk, .junk, .junk, .junk, .junk, .junk, .junk, .junk, .junk, .junk, .junk, .junk, .junk, .junk, .junk, .junk, .junk, .junk, .junk, .junk, .junk, .junk, .junk, .junk, .junk, .junk, .junk, .junk, .junk, .junk, .junk, .junk, .junk, .junk, .junk, .junk, .junk, .junk, .junk, .junk, .junk, .junk, .junk, .junk, .junk, .junk, .junk, .junk, .junk, .junk, .junk, .junk, .junk, .junk, .junk, .junk, .junk, .junk, .junk, .junk, .junk, .junk, .junk, .junk, .junk, .junk, .junk, .junk, .junk, .junk, .junk, .junk, .junk, .junk, .junk, .junk, .junk, .junk, .junk, .junk, .junk, .junk, .junk, .junk, .junk, .junk, .junk, .junk, .junk, .junk, .junk, .junk, .junk, .junk, .junk, .junk, .junk, .junk, .junk, .junk, .junk, .junk, .junk, .junk, .junk, .junk, .junk, .junk, .junk] [(gc, .cells 24 [.int .i64 k, .str p, .str d, .int .i64 v])] (Weak.sel ?_ [0] (by decide) ?_) ⟨0, by omega, by omega, rfl, rfl⟩ ?_
  · exact Ss
  · exact Sl
  rintro m env L ⟨i, rfl, hi, rfl, rfl⟩
  repeat(first|refine Sc ?_|refine fun(_:Nat)=>?_)
  refine ⟨fun h => ?_, fun h => ?_⟩
  · have h : (i : Int) < (ons.length : Int) := h
    obtain ⟨x, ex⟩ : ∃ x, ons[i]? = some x := ⟨_, List.getElem?_eq_getElem (by omega)⟩
    have hx := List.mem_of_getElem? ex
    repeat(first|refine Sc ?_|refine fun(_:Nat)=>?_)
    refine ⟨h, encH x, map_at encH ex, ?_⟩
    repeat(first|refine Sc ?_|refine fun(_:Nat)=>?_)
    obtain ⟨cv, hcv⟩ : ∃ cv, @decide (coversP x.w.k x.w.p k p) (Classical.propDecidable _) = cv := ⟨_, rfl⟩
    refine ACallT.ok (ACall.ret (covers_is hcv) ?_)
    repeat(first|refine Sc ?_|refine fun(_:Nat)=>?_)
    rename_i gx
    refine Run.loopW (fun m env L => ∃ (j : Nat) (b : Bool), m = ys.length - j ∧ j ≤ ys.length ∧ b = decide (tgO x ∈ ys.take j) ∧ env = [rdS xs n, .int .i64 st, chA k p d v, .junk, .junk, .ptr 0 gc 0, .junk, .junk, .junk, rdS ons ons.length, rdG ys, .int .i64 ((tagged (ons.take i) st k p).length : Nat), .int .i64 i, .ptr 1 gx 0, .bool cv, .bool b, .int .i64 j, .junk, .junk, .junk, .junk, .junk, .junk, .junk, .junk, .junk, .junk, .junk, .junk, .junk, .junk, .junk, .junk, .junk, .junk, .junk, .junk, .junk, .junk, .junk, .junk, .junk, .junk, .junk, .junk, .junk, .junk, .junk, .junk, .junk, .junk, .junk, .junk, .junk, .junk, .junk, .junk, .junk, .junk, .junk, .junk, .junk, .junk, .junk, .junk, .junk, .junk, .junk, .junk, .junk, .junk, .junk, .junk, .junk, .junk, .junk, .junk, .junk, .junk, .junk, .junk, .junk, .junk, .junk, .junk, .junk, .junk, .junk, .junk, .junk, .junk, .junk, .junk, .junk, .junk, .junk, .junk, .junk, .junk, .junk, .junk, .junk, .junk, .junk, .junk, .junk, .junk, .junk, .junk, .junk, .junk, .junk, .junk, .junk, .junk, .junk, .junk, .junk, .junk, .junk, .junk, .junk, .junk, .junk, .junk, .junk, .junk, .junk, .junk, .junk, .junk, .junk, .junk, .junk, .junk, .junk, .junk, .junk, .junk] ∧ L = [(gc, .cells 24 [.int .i64 k, .str p, .str d, .int .i64 v]), (gx, .cells tW [.int .i64 x.w.id, .str x.w.p, .int .i64 x.w.k, .int .i64 x.w.f])]) ys.length
      [rdS xs n, .int .i64 st, chA k p d v, .junk, .junk, .ptr 0 gc 0, .junk, .junk, .junk, rdS ons ons.length, rdG ys, .int .i64 ((tagged (ons.take i) st k p).length : Nat), .int .i64 i, .ptr 1 gx 0, .bool cv, .bool false, .int .i64 (0 : Nat), .junk, .junk, .junk, .junk, .junk, .junk, .junk, .junk, .junk, .junk, .junk, .junk, .junk, .junk, .junk, .junk, .junk, .junk, .junk, .junk, .junk, .junk, .junk, .junk, .junk, .junk, .junk, .junk, .junk, .junk, .junk, .junk, .junk, .junk, .junk, .junk, .junk, .junk, .junk, .junk, .junk, .junk, .junk, .junk, .junk, .junk, .junk, .junk, .junk, .junk, .junk, .junk, .junk, .junk, .junk, .junk, .junk, .junk, .junk, .junk, .junk, .junk, .junk, .junk, .junk, .junk, .junk, .junk, .junk, .junk, .junk, .junk, .junk, .junk, .junk, .junk, .junk, .junk, .junk, .junk, .junk, .junk, .junk, .junk, .junk, .junk, .junk, .junk, .junk, .junk, .junk, .junk, .junk, .junk, .junk, .junk, .junk, .junk, .junk, .junk, .junk, .junk, .junk, .junk, .junk, .junk, .junk, .junk, .junk, .junk, .junk, .junk, .junk, .junk, .junk, .junk, .junk, .junk, .junk, .junk, .junk, .junk] [(gc, .cells 24 [.int .i64 k, .str p, .str d, .int .i64 v]), (gx, .cells tW [.int .i64 x.w.id, .str x.w.p, .int .i64 x.w.k, .int .i64 x.w.f])] (Weak.sel ?_ [0, 1] (by decide) ?_) ⟨0, false, by omega, by omega, by simp, rfl, rfl⟩ ?_
    · exact Ss
    · exact Sl
    rintro m env L ⟨j, b, rfl, hj, hb, rfl, rfl⟩
    repeat(first|refine Sc ?_|refine fun(_:Nat)=>?_)
    refine ⟨fun h2 => ?_, fun h2 => ?_⟩
    · have h2 : (j : Int) < (ys.length : Int) := h2
      obtain ⟨y, ey⟩ : ∃ y, ys[j]? = some y := ⟨_, List.getElem?_eq_getElem (by omega)⟩
      repeat(first|refine Sc ?_|refine fun(_:Nat)=>?_)
      have hmem : decide (tgO x ∈ ys.take (j + 1)) = decide (tgO x ∈ ys.take j ∨ tgO x = y) := by rw [List.take_add_one, ey]; simp
      refine Run.drawnK C_ok (aopC_sound C_ok) [1] [0, 1, 2, 3, 4, 5, 6, 7, 8, 9, 10, 11, 12, 13, 14, 15, 16, 17, 18, 19, 20] (by kernel_rfl) ?_
      repeat(first|refine Sc ?_|refine fun(_:Nat)=>?_)
      refine ⟨h2, encG y, map_at encG ey, ?_⟩
      repeat(first|refine Sc ?_|refine fun(_:Nat)=>?_)
      refine ⟨h, encH x, map_at encH ex, ?_⟩
      repeat(first|refine Sc ?_|refine fun(_:Nat)=>?_)
      refine ⟨fun h3 => ?_, fun h3 => ?_⟩
      · have h3 : y.1 = x.s := h3
        repeat(first|refine Sc ?_|refine fun(_:Nat)=>?_)
        refine ⟨h2, encG y, map_at encG ey, ?_⟩
        repeat(first|refine Sc ?_|refine fun(_:Nat)=>?_)
        refine ⟨fun h4 => ?_, fun h4 => ?_⟩
        · have h4 : y.2 = x.w.id := h4
          repeat(first|refine Sc ?_|refine fun(_:Nat)=>?_)
          refine fun r hr => ?_
          obtain rfl := add1 hr (by omega)
          repeat(first|refine Sc ?_|refine fun(_:Nat)=>?_)
          refine Cont.lpW ?_
          refine ⟨ys.length - (j + 1), _, _, by omega, Weak.sel ?_ [0, 1] (by decide) ?_, ⟨j + 1, true, rfl, by omega, by rw [hmem]; exact (decide_eq_true (Or.inr (Prod.ext h3.symm h4.symm))).symm, rfl, rfl⟩⟩
          · exact Ss
          · exact Sl
        · have h4 : ¬ y.2 = x.w.id := h4
          repeat(first|refine Sc ?_|refine fun(_:Nat)=>?_)
          refine fun r hr => ?_
          obtain rfl := add1 hr (by omega)
          repeat(first|refine Sc ?_|refine fun(_:Nat)=>?_)
          refine Cont.lpW ?_
          refine ⟨ys.length - (j + 1), _, _, by omega, Weak.sel ?_ [0, 1] (by decide) ?_, ⟨j + 1, b, rfl, by omega, by rw [hmem, decide_eq_decide.2 (or_iff_left (fun e => h4 (by rw [← e])))]; exact hb, rfl, rfl⟩⟩
          · exact Ss
          · exact Sl
      · have h3 : ¬ y.1 = x.s := h3
        repeat(first|refine Sc ?_|refine fun(_:Nat)=>?_)
        refine fun r hr => ?_
        obtain rfl := add1 hr (by omega)
        repeat(first|refine Sc ?_|refine fun(_:Nat)=>?_)
        refine Cont.lpW ?_
        refine ⟨ys.length - (j + 1), _, _, by omega, Weak.sel ?_ [0, 1] (by decide) ?_, ⟨j + 1, b, rfl, by omega, by rw [hmem, decide_eq_decide.2 (or_iff_left (fun e => h3 (by rw [← e])))]; exact hb, rfl, rfl⟩⟩
        · exact Ss
        · exact Sl
    · have h2 : ¬ (j : Int) < (ys.length : Int) := h2
      obtain rfl : j = ys.length := by omega
      rw [List.take_length] at hb
      have hin : tgO x ∈ ys ↔ coversO st k p x := by rw [hys.mem_iff]; exact tagged_mem hnd hx st k p
      have hti := tagged_len (ons.take i) st k p
      rw [List.length_take] at hti
      cases cv with
      | false =>
        have hno : ¬ coversO st k p x := fun e => of_decide_eq_false hcv e.2
        obtain rfl : b = false := by rw [hb]; exact decide_eq_false (fun e => hno (hin.1 e))
        repeat(first|refine Sc ?_|refine fun(_:Nat)=>?_)
        refine ⟨fun h => absurd rfl h, fun _ => ?_⟩
        repeat(first|refine Sc ?_|refine fun(_:Nat)=>?_)
        refine fun r hr => ?_
        obtain rfl := add1 hr (by omega)
        repeat(first|refine Sc ?_|refine fun(_:Nat)=>?_)
        refine Cont.lpW ?_
        refine ⟨ons.length - (i + 1), _, _, by omega, Weak.sel ?_ [0] (by decide) ?_, ⟨i + 1, rfl, by omega, by rw [tagged_no ex hno], rfl⟩⟩
        · exact Ss
        · exact Sl
      | true =>
        have hc : coversP x.w.k x.w.p k p := of_decide_eq_true hcv
        by_cases hf : x.w.f < st
        · obtain rfl : b = true := by rw [hb]; exact decide_eq_true (hin.2 ⟨hf, hc⟩)
          repeat(first|refine Sc ?_|refine fun(_:Nat)=>?_)
          refine ⟨fun _ => ?_, fun h => absurd hf h⟩
          repeat(first|refine Sc ?_|refine fun(_:Nat)=>?_)
          refine ⟨fun h => absurd rfl h, fun _ => ?_⟩
          repeat(first|refine Sc ?_|refine fun(_:Nat)=>?_)
          refine fun r hr => ?_
          obtain rfl := add1 hr (by omega)
          repeat(first|refine Sc ?_|refine fun(_:Nat)=>?_)
          refine fun r hr => ?_
          obtain rfl := add1 hr (by omega)
          repeat(first|refine Sc ?_|refine fun(_:Nat)=>?_)
          refine Cont.lpW ?_
          refine ⟨ons.length - (i + 1), _, _, by omega, Weak.sel ?_ [0] (by decide) ?_, ⟨i + 1, rfl, by omega, by rw [tagged_yes ex ⟨hf, hc⟩, List.length_append, List.length_singleton], rfl⟩⟩
          · exact Ss
          · exact Sl
        · obtain rfl : b = false := by rw [hb]; exact decide_eq_false (fun e => hf (hin.1 e).1)
          repeat(first|refine Sc ?_|refine fun(_:Nat)=>?_)
          refine ⟨fun h => absurd h hf, fun _ => ?_⟩
          repeat(first|refine Sc ?_|refine fun(_:Nat)=>?_)
          refine ⟨fun h => absurd rfl h, fun _ => ?_⟩
          repeat(first|refine Sc ?_|refine fun(_:Nat)=>?_)
          refine fun r hr => ?_
          obtain rfl := add1 hr (by omega)
          repeat(first|refine Sc ?_|refine fun(_:Nat)=>?_)
          refine Cont.lpW ?_
          refine ⟨ons.length - (i + 1), _, _, by omega, Weak.sel ?_ [0] (by decide) ?_, ⟨i + 1, rfl, by omega, by rw [tagged_no ex (fun e => hf e.1)], rfl⟩⟩
          · exact Ss
          · exact Sl
  · have h : ¬ (i : Int) < (ons.length : Int) := h
    obtain rfl : i = ons.length := by omega
    rw [List.take_length]
    repeat(first|refine Sc ?_|refine fun(_:Nat)=>?_)
    refine Run.loopW (fun m env L => ∃ j : Nat, m = ys.length + 1 - j ∧ 1 ≤ j ∧ j ≤ ys.length + 1 ∧ env = [rdS xs n, .int .i64 st, chA k p d v, .junk, .junk, .ptr 0 gc 0, .junk, .junk, .junk, rdS ons ons.length, rdG ys, .int .i64 ((tagged ons st k p).length : Nat), .junk, .junk, .junk, .junk, .junk, .int .i64 j, .junk, .junk, .junk, .junk, .junk, .junk, .junk, .junk, .junk, .junk, .junk, .junk, .junk, .junk, .junk, .junk, .junk, .junk, .junk, .junk, .junk, .junk, .junk, .junk, .junk, .junk, .junk, .junk, .junk, .junk, .junk, .junk, .junk, .junk, .junk, .junk, .junk, .junk, .junk, .junk, .junk, .junk, .junk, .junk, .junk, .junk, .junk, .junk, .junk, .junk, .junk, .junk, .junk, .junk, .junk, .junk, .junk, .junk, .junk, .junk, .junk, .junk, .junk, .junk, .junk, .junk, .junk, .junk, .junk, .junk, .junk, .junk, .junk, .junk, .junk, .junk, .junk, .junk, .junk, .junk, .junk, .junk, .junk, .junk, .junk, .junk, .junk, .junk, .junk, .junk, .junk, .junk, .junk, .junk, .junk, .junk, .junk, .junk, .junk, .junk, .junk, .junk, .junk, .junk, .junk, .junk, .junk, .junk, .junk, .junk, .junk, .junk, .junk, .junk, .junk, .junk, .junk, .junk, .junk, .junk, .junk] ∧ L = [(gc, .cells 24 [.int .i64 k, .str p, .str d, .int .i64 v])]) ys.length
      [rdS xs n, .int .i64 st, chA k p d v, .junk, .junk, .ptr 0 gc 0, .junk, .junk, .junk, rdS ons ons.length, rdG ys, .int .i64 ((tagged ons st k p).length : Nat), .junk, .junk, .junk, .junk, .junk, .int .i64 (1 : Nat), .junk, .junk, .junk, .junk, .junk, .junk, .junk, .junk, .junk, .junk, .junk, .junk, .junk, .junk, .junk, .junk, .junk, .junk, .junk, .junk, .junk, .junk, .junk, .junk, .junk, .junk, .junk, .junk, .junk, .junk, .junk, .junk, .junk, .junk, .junk, .junk, .junk, .junk, .junk, .junk, .junk, .junk, .junk, .junk, .junk, .junk, .junk, .junk, .junk, .junk, .junk, .junk, .junk, .junk, .junk, .junk, .junk, .junk, .junk, .junk, .junk, .junk, .junk, .junk, .junk, .junk, .junk, .junk, .junk, .junk, .junk, .junk, .junk, .junk, .junk, .junk, .junk, .junk, .junk, .junk, .junk, .junk, .junk, .junk, .junk, .junk, .junk, .junk, .junk, .junk, .junk, .junk, .junk, .junk, .junk, .junk, .junk, .junk, .junk, .junk, .junk, .junk, .junk, .junk, .junk, .junk, .junk, .junk, .junk, .junk, .junk, .junk, .junk, .junk, .junk, .junk, .junk, .junk, .junk, .junk, .junk] [(gc, .cells 24 [.int .i64 k, .str p, .str d, .int .i64 v])] (Weak.sel ?_ [0] (by decide) ?_) ⟨1, by omega, by omega, by omega, rfl, rfl⟩ ?_
    · exact Ss
    · exact Sl
    rintro m env L ⟨j, rfl, h1, hj, rfl, rfl⟩
    repeat(first|refine Sc ?_|refine fun(_:Nat)=>?_)
    refine ⟨fun h => ?_, fun h => ?_⟩
    · have h : (j : Int) < (ys.length : Int) := h
      obtain ⟨i, rfl⟩ : ∃ i, j = i + 1 := ⟨j - 1, by omega⟩
      obtain ⟨a, ea⟩ : ∃ a, ys[i]? = some a := ⟨_, List.getElem?_eq_getElem (by omega)⟩
      obtain ⟨b, eb⟩ : ∃ b, ys[i + 1]? = some b := ⟨_, List.getElem?_eq_getElem (by omega)⟩
      have hab := tags_strict (hys.nodup_iff.2 (tagged_nodup hnd st k p)) hso ea eb
      repeat(first|refine Sc ?_|refine fun(_:Nat)=>?_)
      refine Run.drawnK C_ok (aopC_sound C_ok) [] [0, 1, 2, 3, 4, 5, 6, 7, 8, 9, 10, 11, 12, 13, 14, 15, 16, 17, 18, 19, 20, 21, 22, 23, 24, 25, 26, 27, 28, 29, 30, 31, 32, 33, 34, 35, 36, 37, 38, 39] (by kernel_rfl) ?_
      repeat(first|refine Sc ?_|refine fun(_:Nat)=>?_)
      refine ⟨h, encG b, map_at encG eb, ?_⟩
      repeat(first|refine Sc ?_|refine fun(_:Nat)=>?_)
      refine fun r hr => ?_
      obtain rfl : r = ((i : Nat) : Int) := by rw [hr, IntKind.wrap_i64]; omega
      repeat(first|refine Sc ?_|refine fun(_:Nat)=>?_)
      refine ⟨by omega, encG a, map_at encG ea, ?_⟩
      repeat(first|refine Sc ?_|refine fun(_:Nat)=>?_)
      refine ⟨fun h => ?_, fun _ => ?_⟩
      · have h : b.1 < a.1 := h
        omega
      repeat(first|refine Sc ?_|refine fun(_:Nat)=>?_)
      refine ⟨h, encG b, map_at encG eb, ?_⟩
      repeat(first|refine Sc ?_|refine fun(_:Nat)=>?_)
      refine fun r hr => ?_
      obtain rfl : r = ((i : Nat) : Int) := by rw [hr, IntKind.wrap_i64]; omega
      repeat(first|refine Sc ?_|refine fun(_:Nat)=>?_)
      refine ⟨by omega, encG a, map_at encG ea, ?_⟩
      repeat(first|refine Sc ?_|refine fun(_:Nat)=>?_)
      refine ⟨fun h5 => ?_, fun h5 => ?_⟩
      · have h5 : b.1 = a.1 := h5
        repeat(first|refine Sc ?_|refine fun(_:Nat)=>?_)
        refine ⟨h, encG b, map_at encG eb, ?_⟩
        repeat(first|refine Sc ?_|refine fun(_:Nat)=>?_)
        refine fun r hr => ?_
        obtain rfl : r = ((i : Nat) : Int) := by rw [hr, IntKind.wrap_i64]; omega
        repeat(first|refine Sc ?_|refine fun(_:Nat)=>?_)
        refine ⟨by omega, encG a, map_at encG ea, ?_⟩
        repeat(first|refine Sc ?_|refine fun(_:Nat)=>?_)
        refine ⟨fun h => ?_, fun _ => ?_⟩
        · have h : b.2 ≤ a.2 := h
          omega
        repeat(first|refine Sc ?_|refine fun(_:Nat)=>?_)
        refine fun r hr => ?_
        obtain rfl := add1 hr (by omega)
        repeat(first|refine Sc ?_|refine fun(_:Nat)=>?_)
        refine Cont.lpW ?_
        refine ⟨ys.length + 1 - (i + 1 + 1), _, _, by omega, Weak.sel ?_ [0] (by decide) ?_, ⟨i + 1 + 1, rfl, by omega, by omega, rfl, rfl⟩⟩
        · exact Ss
        · exact Sl
      · repeat(first|refine Sc ?_|refine fun(_:Nat)=>?_)
        refine fun r hr => ?_
        obtain rfl := add1 hr (by omega)
        repeat(first|refine Sc ?_|refine fun(_:Nat)=>?_)
        refine Cont.lpW ?_
        refine ⟨ys.length + 1 - (i + 1 + 1), _, _, by omega, Weak.sel ?_ [0] (by decide) ?_, ⟨i + 1 + 1, rfl, by omega, by omega, rfl, rfl⟩⟩
        · exact Ss
        · exact Sl
    · have h : ¬ (j : Int) < (ys.length : Int) := h
      repeat(first|refine Sc ?_|refine fun(_:Nat)=>?_)
      refine ⟨fun _ => ?_, fun h => absurd (by rw [hys.length_eq]) h⟩
      repeat(first|refine Sc ?_|refine fun(_:Nat)=>?_)
      exact ⟨_, [], FinOk.drop _ _, rfl, rfl⟩
end Go.Proofs.YtgpbppkmmlclfaaDoor.HBT
