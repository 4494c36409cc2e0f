/- TrieWalksAll. -/
import Derived.Test.YtgpbppkmmlclfaaDoorTtKw
set_option linter.unusedVariables false
set_option linter.unusedSimpArgs false
namespace Go.Proofs.YtgpbppkmmlclfaaDoor.HBT
open Go Go.Proofs.YtgpbppkmmlclfaaDoor.HB Go.RowKit
set_option maxRecDepth 8000

set_option maxHeartbeats 16000000 in
theorem walks_law (xs : List On) (n : Nat) (hn : n ≤ xs.length) (st k : Int) (p d : ByteArray) (v : Int) :
    FnSpec C 4 [rdS xs n, .int .i64 st, chA k p d v] [] (fun r L' => r = .bool true ∧ L' = []) := by
  have hlen : (layO (xs.take (min n 60))).length ≤ 60 := by have := layO_len (xs.take (min n 60)); rw [List.length_take] at this; omega
  have hok := OkO.lay (xs.take (min n 60))
  refine FnSpec.start C_ok Tryd.func4 rfl rfl Tryd.ntmps4 ?_
  repeat(first|refine Sc ?_|refine fun(_:Nat)=>?_)
  rename_i gc
  refine ACallT.ok (ACall.ret begins9_spec ?_)
  repeat(first|refine Sc ?_|refine fun(_:Nat)=>?_)
  refine ACallT.ok (ACall.pure _ (laidR_spec xs n hn) ?_)
  generalize layO (xs.take (min n 60)) = ons at hlen hok
  rintro r L' ⟨gt, H, hT, rfl, rfl⟩
  refine ⟨.tuple [.ptr 1 gt 0, rdS ons ons.length], Sub.tuples ⟨Sub.ptr _ _ _ _, Sub.refl _, trivial⟩, ?_⟩
  repeat(first|refine Sc ?_|refine fun(_:Nat)=>?_)
  refine ACallT.ok (ACall.sel [1] (by decide) [.ptr 0 gt 0] _ ⟨Sub.ptr _ _ _ _, trivial⟩ (walkR_spec ons gt H hT (by omega)) ?_)
  rintro r L' ⟨ys, hys, hw, rfl, rfl⟩
  have hst := walked_strict ((hys.map tgO).nodup_iff.2 hok.nodup) hw
  have hyl := hys.length_eq
  have hpa : ∀ x ∈ ys, parseE x.w.p = 0 := fun x hx => (hok.good x (hys.mem_iff.1 hx)).2.1
  refine ⟨_, Sub.refl _, ?_⟩
  repeat(first|refine Sc ?_|refine fun(_:Nat)=>?_)
  refine ⟨fun h => absurd (show (ys.length : Int) = ons.length by omega) h, fun _ => ?_⟩
  repeat(first|refine Sc ?_|refine fun(_:Nat)=>?_)
  refine Run.loopW (fun m env L => ∃ j : Nat, m = ys.length + 1 - j ∧ 1 ≤ j ∧ j ≤ ys.length + 1 ∧ env = [rdS xs n, .int .i64 st, chA k p d v, .junk, .junk, .ptr 0 gc 0, .junk, .junk, .ptr 1 gt 0, rdS ons ons.length, rdX9 ys, .junk, .int .i64 j, .junk, .junk, .junk, .junk, .junk, .junk, .junk, .junk, .junk, .junk, .junk, .junk, .junk, .junk, .junk, .junk, .junk, .junk, .junk, .junk, .junk, .junk, .junk, .junk, .junk, .junk, .junk, .junk, .junk, .junk, .junk, .junk, .junk, .junk, .junk, .junk, .junk, .junk, .junk, .junk, .junk, .junk, .junk, .junk, .junk, .junk, .junk, .junk, .junk, .junk, .junk, .junk, .junk, .junk, .junk, .junk, .junk, .junk, .junk, .junk, .junk, .junk, .junk, .junk, .junk, .junk, .junk, .junk, .junk, .junk, .junk, .junk, .junk, .junk, .junk, .junk, .junk, .junk, .junk, .junk, .junk, .junk, .junk, .junk, .junk, .junk, .junk, .junk, .junk, .junk, .junk, .junk, .junk, .junk, .junk, .junk, .junk, .junk, .junk, .junk, .junk, .junk, .junk, .junk, .junk, .junk, .junk, .junk, .junk, .junk, .junk, .junk, .junk, .junk, .junk, .junk, .junk, .junk, .junk, .junk, .junk, .junk, .junk, .junk, .junk, .junk, .junk, .junk, .junk, .junk, .junk, .junk, .junk, .junk, .junk, .junk, .junk, .junk, .junk, .junk, .junk, .junk, .junk, .junk, .junk, .junk, .junk, .junk, .junk, .junk, .junk, .junk, .junk, .junk, .junk, .junk, .junk, .junk, .junk, .junk, .junk, .junk, .junk, .junk, .junk, .junk, .junk, .junk, .junk, .junk, .junk, .junk, .junk, .junk, .junk, .junk, .junk, .junk, .junk, .junk, .junk, .junk, .junk, .junk, .junk, .junk, .junk] ∧ L = [(gc, .cells 24 [.int .i64 k, .str p, .str d, .int .i64 v]), (0, boxL H)]) ys.length
    [rdS xs n, .int .i64 st, chA k p d v, .junk, .junk, .ptr 0 gc 0, .junk, .junk, .ptr 1 gt 0, rdS ons ons.length, rdX9 ys, .junk, .int .i64 (1 : Nat), .junk, .junk, .junk, .junk, .junk, .junk, .junk, .junk, .junk, .junk, .junk, .junk, .junk, .junk, .junk, .junk, .junk, .junk, .junk, .junk, .junk, .junk, .junk, .junk, .junk, .junk, .junk, .junk, .junk, .junk, .junk, .junk, .junk, .junk, .junk, .junk, .junk, .junk, .junk, .junk, .junk, .junk, .junk, .junk, .junk, .junk, .junk, .junk, .junk, .junk, .junk, .junk, .junk, .junk, .junk, .junk, .junk, .junk, .junk, .junk, .junk, .junk, .junk, .junk, .junk, .junk, .junk, .junk, .junk, .junk, .junk, .junk, .junk, .junk, .junk, .junk, .junk, .junk, .junk, .junk, .junk, .junk, .junk, .junk, .junk, .junk, .junk, .junk, .junk, .junk, .junk, .junk, .junk, .junk, .junk, .junk, .junk, .junk, .junk, .junk, .junk, .junk, .junk, .junk, .junk, .junk, .junk, .junk, .junk, .junk, .junk, .junk, .junk, .junk, .junk, .junk, .junk, .junk, .junk, .junk, .junk, .junk, .junk, .junk, .junk, .junk, .junk, .junk, .junk, .junk, .junk, .junk, .junk, .junk, .junk, .junk, .junk, .junk, .junk, .junk, .junk, .junk, .junk, .junk, .junk, .junk, .junk, .junk, .junk, .junk, .junk, .junk, .junk, .junk, .junk, .junk, .junk, .junk, .junk, .junk, .junk, .junk, .junk, .junk, .junk, .junk, .junk, .junk, .junk, .junk, .junk, .junk, .junk, .junk, .junk, .junk, .junk, .junk, .junk, .junk, .junk, .junk, .junk, .junk, .junk, .junk, .junk] [(gc, .cells 24 [.int .i64 k, .str p, .str d, .int .i64 v]), (0, boxL H)] (Weak.sel ?_ [0, 1] (by decide) ?_) ⟨1, by omega, by omega, by omega, rfl, rfl⟩ ?_
  · exact Ss
  · exact Sl
  rintro m env L ⟨j, rfl, h1, hj, rfl, rfl⟩
  repeat(first|refine Sc ?_|refine fun(_:Nat)=>?_)
  refine ⟨fun h => ?_, fun h => ?_⟩
  · have h : (j : Int) < (ys.length : Int) := h
    obtain ⟨i, rfl⟩ : ∃ i, j = i + 1 := ⟨j - 1, by omega⟩
    obtain ⟨a, ea⟩ : ∃ a, ys[i]? = some a := ⟨_, List.getElem?_eq_getElem (by omega)⟩
    obtain ⟨b, eb⟩ : ∃ b, ys[i + 1]? = some b := ⟨_, List.getElem?_eq_getElem (by omega)⟩
    have hab : walkLt a b := by
      obtain ⟨q1, e1⟩ := List.getElem?_eq_some_iff.1 ea
      obtain ⟨q2, e2⟩ := List.getElem?_eq_some_iff.1 eb
      have := List.pairwise_iff_getElem.1 hst i (i + 1) q1 q2 (by omega)
      rwa [e1, e2] at this
    have hsz := place_size9 (hpa a (List.mem_of_getElem? ea))
    repeat(first|refine Sc ?_|refine fun(_:Nat)=>?_)
    refine Run.drawnK C_ok (aopC_sound C_ok) [] [0, 1, 2, 3, 4, 5, 6, 7, 8, 9, 10, 11, 12] (by kernel_rfl) ?_
    repeat(first|refine Sc ?_|refine fun(_:Nat)=>?_)
    refine fun r hr => ?_
    obtain rfl : r = ((i : Nat) : Int) := by rw [hr, IntKind.wrap_i64]; omega
    repeat(first|refine Sc ?_|refine fun(_:Nat)=>?_)
    refine ⟨by omega, encS a, map_at encS ea, ?_⟩
    repeat(first|refine Sc ?_|refine fun(_:Nat)=>?_)
    refine ⟨h, encS b, map_at encS eb, ?_⟩
    repeat(first|refine Sc ?_|refine fun(_:Nat)=>?_)
    refine ACallT.ok (ACall.ret (order_spec a.w.p b.w.p hsz) ?_)
    repeat(first|refine Sc ?_|refine fun(_:Nat)=>?_)
    refine fun r hr => ?_
    obtain rfl : r = ((i : Nat) : Int) := by rw [hr, IntKind.wrap_i64]; omega
    repeat(first|refine Sc ?_|refine fun(_:Nat)=>?_)
    refine ⟨by omega, encS a, map_at encS ea, ?_⟩
    repeat(first|refine Sc ?_|refine fun(_:Nat)=>?_)
    refine ⟨h, encS b, map_at encS eb, ?_⟩
    repeat(first|refine Sc ?_|refine fun(_:Nat)=>?_)
    rcases hab with h2 | ⟨h2, h3⟩
    · refine ⟨fun h => absurd h (by show ¬ (0 : Int) < orderB a.w.p b.w.p; omega), fun _ => ?_⟩
      repeat(first|refine Sc ?_|refine fun(_:Nat)=>?_)
      refine ⟨fun h => absurd h (by show ¬ orderB a.w.p b.w.p = 0; omega), fun _ => ?_⟩
      repeat(first|refine Sc ?_|refine fun(_:Nat)=>?_)
      refine fun r hr => ?_
      obtain rfl := add1 hr (by omega)
      repeat(first|refine Sc ?_|refine fun(_:Nat)=>?_)
      refine Cont.lpW ?_
      refine ⟨ys.length + 1 - (i + 1 + 1), _, _, by omega, Weak.sel ?_ [0, 1] (by decide) ?_, ⟨i + 1 + 1, rfl, by omega, by omega, rfl, rfl⟩⟩
      · exact Ss
      · exact Sl
    · have h4 := ordB_eq.2 h2
      refine ⟨fun h => absurd h (by show ¬ (0 : Int) < orderB a.w.p b.w.p; omega), fun _ => ?_⟩
      repeat(first|refine Sc ?_|refine fun(_:Nat)=>?_)
      refine ⟨fun _ => ?_, fun h => absurd h4 h⟩
      repeat(first|refine Sc ?_|refine fun(_:Nat)=>?_)
      refine ⟨fun h => absurd h (by show ¬ b.s < a.s; omega), fun _ => ?_⟩
      repeat(first|refine Sc ?_|refine fun(_:Nat)=>?_)
      refine ⟨fun h => ?_, fun h => ?_⟩
      · have h5 : a.s = b.s := h
        repeat(first|refine Sc ?_|refine fun(_:Nat)=>?_)
        refine ⟨fun h => absurd h (by show ¬ b.w.id ≤ a.w.id; omega), fun _ => ?_⟩
        repeat(first|refine Sc ?_|refine fun(_:Nat)=>?_)
        refine fun r hr => ?_
        obtain rfl := add1 hr (by omega)
        repeat(first|refine Sc ?_|refine fun(_:Nat)=>?_)
        refine Cont.lpW ?_
        refine ⟨ys.length + 1 - (i + 1 + 1), _, _, by omega, Weak.sel ?_ [0, 1] (by decide) ?_, ⟨i + 1 + 1, rfl, by omega, by omega, rfl, rfl⟩⟩
        · exact Ss
        · exact Sl
      · have h5 : ¬ a.s = b.s := h
        repeat(first|refine Sc ?_|refine fun(_:Nat)=>?_)
        refine fun r hr => ?_
        obtain rfl := add1 hr (by omega)
        repeat(first|refine Sc ?_|refine fun(_:Nat)=>?_)
        refine Cont.lpW ?_
        refine ⟨ys.length + 1 - (i + 1 + 1), _, _, by omega, Weak.sel ?_ [0, 1] (by decide) ?_, ⟨i + 1 + 1, rfl, by omega, by omega, rfl, rfl⟩⟩
        · exact Ss
        · exact Sl
  have h : ¬ (j : Int) < (ys.length : Int) := h
  repeat(first|refine Sc ?_|refine fun(_:Nat)=>?_)
  refine ACallT.ok (ACall.sel [1] (by decide) [.ptr 0 gt 0, .int .i64 st, chA k p d v] _ ⟨Sub.ptr _ _ _ _, Sub.refl _, Sub.refl _, trivial⟩ (matchR_spec ons gt H hT (by omega) st k p d v) ?_)
  rintro r L' ⟨ts, hts, htso, rfl, rfl⟩
  have htl : ts.length ≤ 60 := by rw [hts.length_eq]; have := tagged_len ons st k p; omega
  refine ⟨_, Sub.refl _, ?_⟩
  repeat(first|refine Sc ?_|refine fun(_:Nat)=>?_)
  refine Run.loopW (fun m env L => ∃ i : Nat, m = ons.length - i ∧ i ≤ ons.length ∧ env = [rdS xs n, .int .i64 st, chA k p d v, .junk, .junk, .ptr 0 gc 0, .junk, .junk, .ptr 1 gt 0, rdS ons ons.length, .junk, .junk, .junk, .junk, .junk, .junk, rdG ts, .int .i64 i, .junk, .junk, .junk, .junk, .junk, .junk, .junk, .junk, .junk, .junk, .junk, .junk, .junk, .junk, .junk, .junk, .junk, .junk, .junk, .junk, .junk, .junk, .junk, .junk, .junk, .junk, .junk, .junk, .junk, .junk, .junk, .junk, .junk, .junk, .junk, .junk, .junk, .junk, .junk, .junk, .junk, .junk, .junk, .junk, .junk, .junk, .junk, .junk, .junk, .junk, .junk, .junk, .junk, .junk, .junk, .junk, .junk, .junk, .junk, .junk, .junk, .junk, .junk, .junk, .junk, .junk, .junk, .junk, .junk, .junk, .junk, .junk, .junk, .junk, .junk, .junk, .junk, .junk, .junk, .junk, .junk, .junk, .junk, .junk, .junk, .junk, .junk, .junk, .junk, .junk, .junk, .junk, .junk, .junk, .junk, .junk, .junk, .junk, .junk, .junk, .junk, .junk, .junk, .junk, .junk, .junk, .junk, .junk, .junk, .junk, .junk, .junk, .junk, .junk, .junk, .junk, .junk, .junk, .junk, .junk, .junk, .junk, .junk, .junk, .junk, .junk, .junk, .junk, .junk, .junk, .junk, .junk, .junk, .junk, .junk, .junk, .junk, .junk, .junk, .junk, .junk, .junk, .junk, .junk, .junk, .junk, .junk, .junk, .junk, .junk, .junk, .junk, .junk, .junk, .junk, .junk, .junk, .junk, .junk, .junk, .junk, .junk, .junk, .junk, .junk, .junk, .junk, .junk, .junk, .junk, .junk, .junk, .junk, .junk, .junk, .junk, .junk, .junk, .junk, .junk, .junk, .junk] ∧ L = [(gc, .cells 24 [.int .i64 k, .str p, .str d, .int .i64 v]), (0, boxL H)]) ons.length
    [rdS xs n, .int .i64 st, chA k p d v, .junk, .junk, .ptr 0 gc 0, .junk, .junk, .ptr 1 gt 0, rdS ons ons.length, .junk, .junk, .junk, .junk, .junk, .junk, rdG ts, .int .i64 (0 : Nat), .junk, .junk, .junk, .junk, .junk, .junk, .junk, .junk, .junk, .junk, .junk, .junk, .junk, .junk, .junk, .junk, .junk, .junk, .junk, .junk, .junk, .junk, .junk, .junk, .junk, .junk, .junk, .junk, .junk, .junk, .junk, .junk, .junk, .junk, .junk, .junk, .junk, .junk, .junk, .junk, .junk, .junk, .junk, .junk, .junk, .junk, .junk, .junk, .junk, .junk, .junk, .junk, .junk, .junk, .junk, .junk, .junk, .junk, .junk, .junk, .junk, .junk, .junk, .junk, .junk, .junk, .junk, .junk, .junk, .junk, .junk, .junk, .junk, .junk, .junk, .junk, .junk, .junk, .junk, .junk, .junk, .junk, .junk, .junk, .junk, .junk, .junk, .junk, .junk, .junk, .junk, .junk, .junk, .junk, .junk, .junk, .junk, .junk, .junk, .junk, .junk, .junk, .junk, .junk, .junk, .junk, .junk, .junk, .junk, .junk, .junk, .junk, .junk, .junk, .junk, .junk, .junk, .junk, .junk, .junk, .junk, .junk, .junk, .junk, .junk, .junk, .junk, .junk, .junk, .junk, .junk, .junk, .junk, .junk, .junk, .junk, .junk, .junk, .junk, .junk, .junk, .junk, .junk, .junk, .junk, .junk, .junk, .junk, .junk, .junk, .junk, .junk, .junk, .junk, .junk, .junk, .junk, .junk, .junk, .junk, .junk, .junk, .junk, .junk, .junk, .junk, .junk, .junk, .junk, .junk, .junk, .junk, .junk, .junk, .junk, .junk, .junk, .junk, .junk, .junk, .junk, .junk] [(gc, .cells 24 [.int .i64 k, .str p, .str d, .int .i64 v]), (0, boxL H)] (Weak.sel ?_ [0, 1] (by decide) ?_) ⟨0, by omega, by omega, rfl, rfl⟩ ?_
  · exact Ss
  · exact Sl
  rintro m env L ⟨i, rfl, hi, rfl, rfl⟩
  repeat(first|refine Sc ?_|refine fun(_:Nat)=>?_)
  refine ⟨fun h => ?_, fun h => ?_⟩
  rotate_left
  · repeat(first|refine Sc ?_|refine fun(_:Nat)=>?_)
    exact ⟨_, [], FinOk.drop _ _, rfl, rfl⟩
  have h : (i : Int) < (ons.length : Int) := h
  obtain ⟨x, ex⟩ : ∃ x, ons[i]? = some x := ⟨_, List.getElem?_eq_getElem (by omega)⟩
  have hx := List.mem_of_getElem? ex
  repeat(first|refine Sc ?_|refine fun(_:Nat)=>?_)
  refine ⟨h, encH x, map_at encH ex, ?_⟩
  repeat(first|refine Sc ?_|refine fun(_:Nat)=>?_)
  refine ACallT.ok (ACall.sel [1] (by decide) [.ptr 0 gt 0, .int .i64 x.s] _ ⟨Sub.ptr _ _ _ _, Sub.refl _, trivial⟩ (ofR_spec ons gt H hT x.s) ?_)
  rintro r L' ⟨ws, hws, hwso, hw4, rfl, rfl⟩
  refine ⟨_, Sub.refl _, ?_⟩
  repeat(first|refine Sc ?_|refine fun(_:Nat)=>?_)
  refine ACallT.ok (ACall.pure _ newTr_spec ?_)
  rintro r L' ⟨ga, Ha0, hTa0, rfl, rfl⟩
  refine ⟨.ptr 2 ga 0, Sub.ptr _ _ _ _, ?_⟩
  repeat(first|refine Sc ?_|refine fun(_:Nat)=>?_)
  refine Run.loopW (fun m env L => ∃ (q : Nat) (b : Bool) (Ha : AHeap), m = ws.length - q ∧ q ≤ ws.length ∧ b = decide (x.w ∈ ws.take q) ∧ IsTr (onsW x.s (ws.take q)) ga Ha ∧ env = [rdS xs n, .int .i64 st, chA k p d v, .junk, .junk, .ptr 0 gc 0, .junk, .junk, .ptr 1 gt 0, rdS ons ons.length, .junk, .junk, .junk, .junk, .junk, .junk, rdG ts, .int .i64 i, .int .i64 x.s, rdW ws, .ptr 2 ga 0, .bool b, .int .i64 q, .junk, .junk, .junk, .junk, .junk, .junk, .junk, .junk, .junk, .junk, .junk, .junk, .junk, .junk, .junk, .junk, .junk, .junk, .junk, .junk, .junk, .junk, .junk, .junk, .junk, .junk, .junk, .junk, .junk, .junk, .junk, .junk, .junk, .junk, .junk, .junk, .junk, .junk, .junk, .junk, .junk, .junk, .junk, .junk, .junk, .junk, .junk, .junk, .junk, .junk, .junk, .junk, .junk, .junk, .junk, .junk, .junk, .junk, .junk, .junk, .junk, .junk, .junk, .junk, .junk, .junk, .junk, .junk, .junk, .junk, .junk, .junk, .junk, .junk, .junk, .junk, .junk, .junk, .junk, .junk, .junk, .junk, .junk, .junk, .junk, .junk, .junk, .junk, .junk, .junk, .junk, .junk, .junk, .junk, .junk, .junk, .junk, .junk, .junk, .junk, .junk, .junk, .junk, .junk, .junk, .junk, .junk, .junk, .junk, .junk, .junk, .junk, .junk, .junk, .junk, .junk, .junk, .junk, .junk, .junk, .junk, .junk, .junk, .junk, .junk, .junk, .junk, .junk, .junk, .junk, .junk, .junk, .junk, .junk, .junk, .junk, .junk, .junk, .junk, .junk, .junk, .junk, .junk, .junk, .junk, .junk, .junk, .junk, .junk, .junk, .junk, .junk, .junk, .junk, .junk, .junk, .junk, .junk, .junk, .junk, .junk, .junk, .junk, .junk, .junk, .junk, .junk, .junk, .junk, .junk, .junk, .junk, .junk, .junk, .junk, .junk, .junk] ∧ L = [(gc, .cells 24 [.int .i64 k, .str p, .str d, .int .i64 v]), (0, boxL H), (0, boxL Ha)]) ws.length
    [rdS xs n, .int .i64 st, chA k p d v, .junk, .junk, .ptr 0 gc 0, .junk, .junk, .ptr 1 gt 0, rdS ons ons.length, .junk, .junk, .junk, .junk, .junk, .junk, rdG ts, .int .i64 i, .int .i64 x.s, rdW ws, .ptr 2 ga 0, .bool false, .int .i64 (0 : Nat), .junk, .junk, .junk, .junk, .junk, .junk, .junk, .junk, .junk, .junk, .junk, .junk, .junk, .junk, .junk, .junk, .junk, .junk, .junk, .junk, .junk, .junk, .junk, .junk, .junk, .junk, .junk, .junk, .junk, .junk, .junk, .junk, .junk, .junk, .junk, .junk, .junk, .junk, .junk, .junk, .junk, .junk, .junk, .junk, .junk, .junk, .junk, .junk, .junk, .junk, .junk, .junk, .junk, .junk, .junk, .junk, .junk, .junk, .junk, .junk, .junk, .junk, .junk, .junk, .junk, .junk, .junk, .junk, .junk, .junk, .junk, .junk, .junk, .junk, .junk, .junk, .junk, .junk, .junk, .junk, .junk, .junk, .junk, .junk, .junk, .junk, .junk, .junk, .junk, .junk, .junk, .junk, .junk, .junk, .junk, .junk, .junk, .junk, .junk, .junk, .junk, .junk, .junk, .junk, .junk, .junk, .junk, .junk, .junk, .junk, .junk, .junk, .junk, .junk, .junk, .junk, .junk, .junk, .junk, .junk, .junk, .junk, .junk, .junk, .junk, .junk, .junk, .junk, .junk, .junk, .junk, .junk, .junk, .junk, .junk, .junk, .junk, .junk, .junk, .junk, .junk, .junk, .junk, .junk, .junk, .junk, .junk, .junk, .junk, .junk, .junk, .junk, .junk, .junk, .junk, .junk, .junk, .junk, .junk, .junk, .junk, .junk, .junk, .junk, .junk, .junk, .junk, .junk, .junk, .junk, .junk, .junk, .junk, .junk, .junk, .junk, .junk] [(gc, .cells 24 [.int .i64 k, .str p, .str d, .int .i64 v]), (0, boxL H), (0, boxL Ha0)] (Weak.sel ?_ [0, 1, 2] (by decide) ?_) ⟨0, false, Ha0, by omega, by omega, by simp, hTa0, rfl, rfl⟩ ?_
  · exact Ss
  · exact Sl
  rintro m env L ⟨q, b, Ha, rfl, hq, hb, hTa, rfl, rfl⟩
  repeat(first|refine Sc ?_|refine fun(_:Nat)=>?_)
  refine ⟨fun h2 => ?_, fun h2 => ?_⟩
  · have h2 : (q : Int) < (ws.length : Int) := h2
    obtain ⟨w, ew⟩ : ∃ w, ws[q]? = some w := ⟨_, List.getElem?_eq_getElem (by omega)⟩
    have hadd := onsW_add hok hws ew
    have hmore : ws.take (q + 1) = ws.take q ++ [w] := by rw [List.take_add_one, ew]; rfl
    have hol : (onsW x.s (ws.take q)).length ≤ 200 := by unfold onsW; rw [List.length_map, List.length_take]; omega
    repeat(first|refine Sc ?_|refine fun(_:Nat)=>?_)
    refine ⟨h2, encW w, map_at encW ew, ?_⟩
    repeat(first|refine Sc ?_|refine fun(_:Nat)=>?_)
    refine ACallT.ok (ACall.sel [2] (by decide) [.ptr 0 ga 0, .int .i64 x.s, encW w] _ ⟨Sub.ptr _ _ _ _, Sub.refl _, Sub.refl _, trivial⟩ (addT_spec _ ga Ha hTa hol x.s w) ?_)
    rintro r L' ⟨H', rfl, hT', rfl⟩
    rw [hadd.1]
    refine ⟨_, Sub.refl _, ?_⟩
    repeat(first|refine Sc ?_|refine fun(_:Nat)=>?_)
    refine Run.drawnK C_ok (aopC_sound C_ok) [] [0, 1, 2, 3, 4, 5, 6, 7, 8, 9, 10, 11, 12, 13, 14, 15, 16, 17, 18, 19] (by kernel_rfl) ?_
    repeat(first|refine Sc ?_|refine fun(_:Nat)=>?_)
    refine ⟨fun h => absurd rfl h, fun _ => ?_⟩
    repeat(first|refine Sc ?_|refine fun(_:Nat)=>?_)
    refine ⟨fun h3 => ?_, fun h3 => ?_⟩
    · have h3 : (0 : Int) < (q : Int) := h3
      obtain ⟨q0, rfl⟩ : ∃ q0, q = q0 + 1 := ⟨q - 1, by omega⟩
      obtain ⟨w0, ew0⟩ : ∃ w0, ws[q0]? = some w0 := ⟨_, List.getElem?_eq_getElem (by omega)⟩
      have hlt := sortedW_at hwso ew0 ew (by omega)
      repeat(first|refine Sc ?_|refine fun(_:Nat)=>?_)
      refine ⟨h2, encW w, map_at encW ew, ?_⟩
      repeat(first|refine Sc ?_|refine fun(_:Nat)=>?_)
      refine fun r hr => ?_
      obtain rfl : r = ((q0 : Nat) : Int) := by rw [hr, IntKind.wrap_i64]; omega
      repeat(first|refine Sc ?_|refine fun(_:Nat)=>?_)
      refine ⟨by omega, encW w0, map_at encW ew0, ?_⟩
      repeat(first|refine Sc ?_|refine fun(_:Nat)=>?_)
      refine ⟨fun h => absurd h (by show ¬ w.id ≤ w0.id; omega), fun _ => ?_⟩
      repeat(first|refine Sc ?_|refine fun(_:Nat)=>?_)
      generalize hqq : q0 + 1 = q at *
      cases b with
      | true =>
        refine Run.drawnK C_ok (aopC_sound C_ok) [] [0, 1, 2, 3, 4, 5, 6, 7, 8, 9, 10, 11, 12, 13] (by kernel_rfl) ?_
        repeat(first|refine Sc ?_|refine fun(_:Nat)=>?_)
        refine fun r hr => ?_
        obtain rfl := add1 hr (by omega)
        repeat(first|refine Sc ?_|refine fun(_:Nat)=>?_)
        refine Cont.lpW ?_
        refine ⟨ws.length - (q + 1), _, _, by omega, Weak.sel ?_ [0, 1, 2] (by decide) ?_, ⟨q + 1, true, H', rfl, by omega, by rw [hmore]; exact (decide_eq_true (List.mem_append_left _ (of_decide_eq_true hb.symm))).symm, by rw [← hadd.2]; exact hT', rfl, rfl⟩⟩
        · exact Ss
        · exact Sl
      | false =>
      have hbn : ¬ x.w ∈ ws.take q := of_decide_eq_false hb.symm
      refine Run.drawnK C_ok (aopC_sound C_ok) [] [0, 1, 2, 3, 4, 5, 6, 7, 8, 9, 10, 11, 12, 13] (by kernel_rfl) ?_
      repeat(first|refine Sc ?_|refine fun(_:Nat)=>?_)
      refine ⟨h2, encW w, map_at encW ew, ?_⟩
      repeat(first|refine Sc ?_|refine fun(_:Nat)=>?_)
      refine ⟨h, encH x, map_at encH ex, ?_⟩
      repeat(first|refine Sc ?_|refine fun(_:Nat)=>?_)
      refine ⟨fun h => ?_, fun h => ?_⟩
      · have h : w.id = x.w.id ∧ w.p = x.w.p ∧ w.k = x.w.k ∧ w.f = x.w.f := by simpa [allEq, eq1] using h
        have hwx : w = x.w := wt_ext h.1 h.2.1 h.2.2.1 h.2.2.2
        repeat(first|refine Sc ?_|refine fun(_:Nat)=>?_)
        refine fun r hr => ?_
        obtain rfl := add1 hr (by omega)
        repeat(first|refine Sc ?_|refine fun(_:Nat)=>?_)
        refine Cont.lpW ?_
        refine ⟨ws.length - (q + 1), _, _, by omega, Weak.sel ?_ [0, 1, 2] (by decide) ?_, ⟨q + 1, true, H', rfl, by omega, by rw [hmore, ← hwx]; simp, by rw [← hadd.2]; exact hT', rfl, rfl⟩⟩
        · exact Ss
        · exact Sl
      · have h : ¬ (w.id = x.w.id ∧ w.p = x.w.p ∧ w.k = x.w.k ∧ w.f = x.w.f) := by simpa [allEq, eq1] using h
        have hwx : ¬ x.w = w := fun e => h (by rw [e]; exact ⟨rfl, rfl, rfl, rfl⟩)
        repeat(first|refine Sc ?_|refine fun(_:Nat)=>?_)
        refine fun r hr => ?_
        obtain rfl := add1 hr (by omega)
        repeat(first|refine Sc ?_|refine fun(_:Nat)=>?_)
        refine Cont.lpW ?_
        refine ⟨ws.length - (q + 1), _, _, by omega, Weak.sel ?_ [0, 1, 2] (by decide) ?_, ⟨q + 1, false, H', rfl, by omega, by rw [hmore]; exact (decide_eq_false (fun e => (List.mem_append.1 e).elim hbn fun e => hwx (List.mem_singleton.1 e))).symm, by rw [← hadd.2]; exact hT', rfl, rfl⟩⟩
        · exact Ss
        · exact Sl
    · repeat(first|refine Sc ?_|refine fun(_:Nat)=>?_)
      cases b with
      | true =>
        refine Run.drawnK C_ok (aopC_sound C_ok) [] [0, 1, 2, 3, 4, 5, 6, 7, 8, 9, 10, 11, 12, 13] (by kernel_rfl) ?_
        repeat(first|refine Sc ?_|refine fun(_:Nat)=>?_)
        refine fun r hr => ?_
        obtain rfl := add1 hr (by omega)
        repeat(first|refine Sc ?_|refine fun(_:Nat)=>?_)
        refine Cont.lpW ?_
        refine ⟨ws.length - (q + 1), _, _, by omega, Weak.sel ?_ [0, 1, 2] (by decide) ?_, ⟨q + 1, true, H', rfl, by omega, by rw [hmore]; exact (decide_eq_true (List.mem_append_left _ (of_decide_eq_true hb.symm))).symm, by rw [← hadd.2]; exact hT', rfl, rfl⟩⟩
        · exact Ss
        · exact Sl
      | false =>
      have hbn : ¬ x.w ∈ ws.take q := of_decide_eq_false hb.symm
      refine Run.drawnK C_ok (aopC_sound C_ok) [] [0, 1, 2, 3, 4, 5, 6, 7, 8, 9, 10, 11, 12, 13] (by kernel_rfl) ?_
      repeat(first|refine Sc ?_|refine fun(_:Nat)=>?_)
      refine ⟨h2, encW w, map_at encW ew, ?_⟩
      repeat(first|refine Sc ?_|refine fun(_:Nat)=>?_)
      refine ⟨h, encH x, map_at encH ex, ?_⟩
      repeat(first|refine Sc ?_|refine fun(_:Nat)=>?_)
      refine ⟨fun h => ?_, fun h => ?_⟩
      · have h : w.id = x.w.id ∧ w.p = x.w.p ∧ w.k = x.w.k ∧ w.f = x.w.f := by simpa [allEq, eq1] using h
        have hwx : w = x.w := wt_ext h.1 h.2.1 h.2.2.1 h.2.2.2
        repeat(first|refine Sc ?_|refine fun(_:Nat)=>?_)
        refine fun r hr => ?_
        obtain rfl := add1 hr (by omega)
        repeat(first|refine Sc ?_|refine fun(_:Nat)=>?_)
        refine Cont.lpW ?_
        refine ⟨ws.length - (q + 1), _, _, by omega, Weak.sel ?_ [0, 1, 2] (by decide) ?_, ⟨q + 1, true, H', rfl, by omega, by rw [hmore, ← hwx]; simp, by rw [← hadd.2]; exact hT', rfl, rfl⟩⟩
        · exact Ss
        · exact Sl
      · have h : ¬ (w.id = x.w.id ∧ w.p = x.w.p ∧ w.k = x.w.k ∧ w.f = x.w.f) := by simpa [allEq, eq1] using h
        have hwx : ¬ x.w = w := fun e => h (by rw [e]; exact ⟨rfl, rfl, rfl, rfl⟩)
        repeat(first|refine Sc ?_|refine fun(_:Nat)=>?_)
        refine fun r hr => ?_
        obtain rfl := add1 hr (by omega)
        repeat(first|refine Sc ?_|refine fun(_:Nat)=>?_)
        refine Cont.lpW ?_
        refine ⟨ws.length - (q + 1), _, _, by omega, Weak.sel ?_ [0, 1, 2] (by decide) ?_, ⟨q + 1, false, H', rfl, by omega, by rw [hmore]; exact (decide_eq_false (fun e => (List.mem_append.1 e).elim hbn fun e => hwx (List.mem_singleton.1 e))).symm, by rw [← hadd.2]; exact hT', rfl, rfl⟩⟩
        · exact Ss
        · exact Sl
  · have h2 : ¬ (q : Int) < (ws.length : Int) := h2
    obtain rfl : q = ws.length := by omega
    rw [List.take_length] at hb hTa
    have hin : x.w ∈ ws := hws.mem_iff.2 (listO_mem.2 hx)
    obtain rfl : b = true := by rw [hb]; exact decide_eq_true hin
    repeat(first|refine Sc ?_|refine fun(_:Nat)=>?_)
    have hol : (onsW x.s ws).length ≤ 200 := by unfold onsW; rw [List.length_map]; omega
    refine Run.loopW (fun m env L => ∃ (j : Nat) (pv : AV) (gp : Nat) (po : AObj), m = ts.length - j ∧ j ≤ ts.length ∧ LN encG tG 2 3 (partT x.s (ts.take j)) pv gp po ∧ env = [rdS xs n, .int .i64 st, chA k p d v, .junk, .junk, .ptr 0 gc 0, .junk, .junk, .ptr 1 gt 0, rdS ons ons.length, .junk, .junk, .junk, .junk, .junk, .junk, rdG ts, .int .i64 i, .int .i64 x.s, .junk, .ptr 2 ga 0, .bool true, .junk, .junk, pv, .int .i64 j, .junk, .junk, .junk, .junk, .junk, .junk, .junk, .junk, .junk, .junk, .junk, .junk, .junk, .junk, .junk, .junk, .junk, .junk, .junk, .junk, .junk, .junk, .junk, .junk, .junk, .junk, .junk, .junk, .junk, .junk, .junk, .junk, .junk, .junk, .junk, .junk, .junk, .junk, .junk, .junk, .junk, .junk, .junk, .junk, .junk, .junk, .junk, .junk, .junk, .junk, .junk, .junk, .junk, .junk, .junk, .junk, .junk, .junk, .junk, .junk, .junk, .junk, .junk, .junk, .junk, .junk, .junk, .junk, .junk, .junk, .junk, .junk, .junk, .junk, .junk, .junk, .junk, .junk, .junk, .junk, .junk, .junk, .junk, .junk, .junk, .junk, .junk, .junk, .junk, .junk, .junk, .junk, .junk, .junk, .junk, .junk, .junk, .junk, .junk, .junk, .junk, .junk, .junk, .junk, .junk, .junk, .junk, .junk, .junk, .junk, .junk, .junk, .junk, .junk, .junk, .junk, .junk, .junk, .junk, .junk, .junk, .junk, .junk, .junk, .junk, .junk, .junk, .junk, .junk, .junk, .junk, .junk, .junk, .junk, .junk, .junk, .junk, .junk, .junk, .junk, .junk, .junk, .junk, .junk, .junk, .junk, .junk, .junk, .junk, .junk, .junk, .junk, .junk, .junk, .junk, .junk, .junk, .junk, .junk, .junk, .junk, .junk, .junk, .junk, .junk, .junk, .junk, .junk, .junk, .junk, .junk, .junk, .junk, .junk] ∧ L = [(gc, .cells 24 [.int .i64 k, .str p, .str d, .int .i64 v]), (0, boxL H), (0, boxL Ha), (gp, po)]) ts.length
      [rdS xs n, .int .i64 st, chA k p d v, .junk, .junk, .ptr 0 gc 0, .junk, .junk, .ptr 1 gt 0, rdS ons ons.length, .junk, .junk, .junk, .junk, .junk, .junk, rdG ts, .int .i64 i, .int .i64 x.s, .junk, .ptr 2 ga 0, .bool true, .junk, .junk, .nils, .int .i64 (0 : Nat), .junk, .junk, .junk, .junk, .junk, .junk, .junk, .junk, .junk, .junk, .junk, .junk, .junk, .junk, .junk, .junk, .junk, .junk, .junk, .junk, .junk, .junk, .junk, .junk, .junk, .junk, .junk, .junk, .junk, .junk, .junk, .junk, .junk, .junk, .junk, .junk, .junk, .junk, .junk, .junk, .junk, .junk, .junk, .junk, .junk, .junk, .junk, .junk, .junk, .junk, .junk, .junk, .junk, .junk, .junk, .junk, .junk, .junk, .junk, .junk, .junk, .junk, .junk, .junk, .junk, .junk, .junk, .junk, .junk, .junk, .junk, .junk, .junk, .junk, .junk, .junk, .junk, .junk, .junk, .junk, .junk, .junk, .junk, .junk, .junk, .junk, .junk, .junk, .junk, .junk, .junk, .junk, .junk, .junk, .junk, .junk, .junk, .junk, .junk, .junk, .junk, .junk, .junk, .junk, .junk, .junk, .junk, .junk, .junk, .junk, .junk, .junk, .junk, .junk, .junk, .junk, .junk, .junk, .junk, .junk, .junk, .junk, .junk, .junk, .junk, .junk, .junk, .junk, .junk, .junk, .junk, .junk, .junk, .junk, .junk, .junk, .junk, .junk, .junk, .junk, .junk, .junk, .junk, .junk, .junk, .junk, .junk, .junk, .junk, .junk, .junk, .junk, .junk, .junk, .junk, .junk, .junk, .junk, .junk, .junk, .junk, .junk, .junk, .junk, .junk, .junk, .junk, .junk, .junk, .junk, .junk, .junk, .junk, .junk] [(gc, .cells 24 [.int .i64 k, .str p, .str d, .int .i64 v]), (0, boxL H), (0, boxL Ha), (0, .dead)] (Weak.sel ?_ [0, 1, 2, 99] (by decide) ?_) ⟨0, .nils, 0, .dead, by omega, by omega, .inl ⟨rfl, rfl, rfl⟩, rfl, rfl⟩ ?_
    · exact Ss
    · exact Sl
    rintro m env L ⟨j, pv, gp, po, rfl, hj, hpv, rfl, rfl⟩
    have hpl : (partT x.s (ts.take j)).length ≤ 60 := Nat.le_trans (List.length_filter_le _ _) (by rw [List.length_take]; omega)
    repeat(first|refine Sc ?_|refine fun(_:Nat)=>?_)
    refine ⟨fun h2 => ?_, fun h2 => ?_⟩
    · have h2 : (j : Int) < (ts.length : Int) := h2
      obtain ⟨y, ey⟩ : ∃ y, ts[j]? = some y := ⟨_, List.getElem?_eq_getElem (by omega)⟩
      have hmore := partT_more (s := x.s) ey
      repeat(first|refine Sc ?_|refine fun(_:Nat)=>?_)
      refine ⟨h2, encG y, map_at encG ey, ?_⟩
      repeat(first|refine Sc ?_|refine fun(_:Nat)=>?_)
      refine ⟨fun h3 => ?_, fun h3 => ?_⟩
      · have h3 : y.1 = x.s := h3
        repeat(first|refine Sc ?_|refine fun(_:Nat)=>?_)
        refine ⟨h2, encG y, map_at encG ey, ?_⟩
        repeat(first|refine Sc ?_|refine fun(_:Nat)=>?_)
        rcases hpv with ⟨e0, rfl, rfl⟩ | ⟨Cp, rfl, rfl⟩
        · repeat(first|refine Sc ?_|refine fun(_:Nat)=>?_)
          refine ⟨fun h => absurd h (List.cons_ne_nil _ _), fun _ => ?_⟩
          repeat(first|refine Sc ?_|refine fun(_:Nat)=>?_)
          rename_i g' Cp'
          repeat(first|refine Sc ?_|refine fun(_:Nat)=>?_)
          refine fun r hr => ?_
          obtain rfl := add1 hr (by omega)
          repeat(first|refine Sc ?_|refine fun(_:Nat)=>?_)
          refine Cont.lpW ?_
          refine ⟨ts.length - (j + 1), _, _, by omega, Weak.sel ?_ [0, 1, 2, 5] (by decide) ?_, ⟨j + 1, .sl 3 g' Cp' 1, g', _, rfl, by omega, by rw [hmore, if_pos h3]; exact LN1 _ e0, rfl, rfl⟩⟩
          · exact Ss
          · exact Sl
        · repeat(first|refine Sc ?_|refine fun(_:Nat)=>?_)
          refine ⟨by simp, ?_⟩
          repeat(first|refine Sc ?_|refine fun(_:Nat)=>?_)
          refine ⟨by show (_ + 1) * _ ≤ _; rw [List.length_map]; omega, ?_⟩
          repeat(first|refine Sc ?_|refine fun(_:Nat)=>?_)
          rename_i g' Cp'
          repeat(first|refine Sc ?_|refine fun(_:Nat)=>?_)
          refine fun r hr => ?_
          obtain rfl := add1 hr (by omega)
          repeat(first|refine Sc ?_|refine fun(_:Nat)=>?_)
          refine Cont.lpW ?_
          refine ⟨ts.length - (j + 1), _, _, by omega, Weak.sel ?_ [0, 1, 2, 3] (by decide) ?_, ⟨j + 1, .sl 3 g' Cp' (((partT x.s (ts.take j)).map encG).length + 1), g', _, rfl, by omega, by rw [hmore, if_pos h3]; exact LN2 _, rfl, rfl⟩⟩
          · exact Ss
          · exact Sl
      · have h3 : ¬ y.1 = x.s := h3
        repeat(first|refine Sc ?_|refine fun(_:Nat)=>?_)
        refine fun r hr => ?_
        obtain rfl := add1 hr (by omega)
        repeat(first|refine Sc ?_|refine fun(_:Nat)=>?_)
        refine Cont.lpW ?_
        refine ⟨ts.length - (j + 1), _, _, by omega, Weak.sel ?_ [0, 1, 2, 3] (by decide) ?_, ⟨j + 1, pv, gp, po, rfl, by omega, by rw [hmore, if_neg h3, List.append_nil]; exact hpv, rfl, rfl⟩⟩
        · exact Ss
        · exact Sl
    · have h2 : ¬ (j : Int) < (ts.length : Int) := h2
      obtain rfl : j = ts.length := by omega
      rw [List.take_length] at hpv hpl
      repeat(first|refine Sc ?_|refine fun(_:Nat)=>?_)
      refine ACallT.ok (ACall.sel [2] (by decide) [.ptr 0 ga 0, .int .i64 st, chA k p d v] _ ⟨Sub.ptr _ _ _ _, Sub.refl _, Sub.refl _, trivial⟩ (matchR_spec _ ga Ha hTa hol st k p d v) ?_)
      rintro r L' ⟨zs, hzs, hzso, rfl, rfl⟩
      obtain rfl := part_one hws hts htso hzs hzso
      refine ⟨_, Sub.refl _, ?_⟩
      repeat(first|refine Sc ?_|refine fun(_:Nat)=>?_)
      rcases hpv with ⟨e0, rfl, rfl⟩ | ⟨Cp, rfl, rfl⟩
      · refine ACallT.ok (ACall.ret_lend (args' := [rdG (partT x.s ts), rdG []]) (.two (.same _) (.nils 2)) (sameTags_spec (partT x.s ts) [] (by omega) (by decide)) rfl ?_)
        rw [decide_eq_true (p := partT x.s ts = []) e0]
        repeat(first|refine Sc ?_|refine fun(_:Nat)=>?_)
        refine fun r hr => ?_
        obtain rfl := add1 hr (by omega)
        repeat(first|refine Sc ?_|refine fun(_:Nat)=>?_)
        refine Cont.lpW ?_
        refine ⟨ons.length - (i + 1), _, _, by omega, Weak.sel ?_ [0, 1] (by decide) ?_, ⟨i + 1, rfl, by omega, rfl, rfl⟩⟩
        · exact Ss
        · exact Sl
      · refine ACallT.ok (ACall.ret_lend (args' := [rdG (partT x.s ts), rdG (partT x.s ts)]) (.two (.same _) (.row 3 _ _ _ tG 2 _ rfl (by simp))) (sameTags_spec (partT x.s ts) (partT x.s ts) (by omega) (by omega)) rfl ?_)
        rw [decide_eq_true (p := partT x.s ts = partT x.s ts) rfl]
        repeat(first|refine Sc ?_|refine fun(_:Nat)=>?_)
        refine fun r hr => ?_
        obtain rfl := add1 hr (by omega)
        repeat(first|refine Sc ?_|refine fun(_:Nat)=>?_)
        refine Cont.lpW ?_
        refine ⟨ons.length - (i + 1), _, _, by omega, Weak.sel ?_ [0, 1] (by decide) ?_, ⟨i + 1, rfl, by omega, rfl, rfl⟩⟩
        · exact Ss
        · exact Sl
end Go.Proofs.YtgpbppkmmlclfaaDoor.HBT
