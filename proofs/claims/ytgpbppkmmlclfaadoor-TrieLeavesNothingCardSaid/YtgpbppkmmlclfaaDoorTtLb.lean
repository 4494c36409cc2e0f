/- TrieLeavesNothing. -/
import Derived.Test.YtgpbppkmmlclfaaDoorTtKs
import Derived.Test.YtgpbppkmmlclfaaDoorTtKz
set_option linter.unusedVariables false
set_option linter.unusedSimpArgs false
namespace Go.Proofs.YtgpbppkmmlclfaaDoor.HBT
open Go Go.Proofs.YtgpbppkmmlclfaaDoor.HB Go.RowKit
set_option maxRecDepth 8000

def leftB (one : Bool) (ons : List On) (i : Nat) : List On := if one then ons.drop i else ons.filter fun o => !(ons.take i).any fun x => decide (x.s = o.s)
theorem leftB_len (one : Bool) (ons : List On) (i : Nat) : (leftB one ons i).length ≤ ons.length := by
  unfold leftB
  split
  · rw [List.length_drop]; omega
  · exact List.length_filter_le _ _
theorem leftB_zero (one : Bool) (ons : List On) : leftB one ons 0 = ons := by
  unfold leftB
  split
  · rfl
  · exact List.filter_eq_self.2 (by simp)
theorem leftB_all (one : Bool) (ons : List On) : leftB one ons ons.length = [] := by
  unfold leftB
  split
  · simp
  · rw [List.take_length]
    refine List.filter_eq_nil_iff.2 fun o ho => ?_
    have : (ons.any fun x => decide (x.s = o.s)) = true := List.any_eq_true.2 ⟨o, ho, by simp⟩
    simp [this]
theorem left_drop {ons : List On} (hok : OkO ons) {i : Nat} {o : On} (eo : ons[i]? = some o) : leftB true ons i = o :: leftB true ons (i + 1) ∧ dropE (leftB true ons i) o.s o.w.id = 0 ∧ dropO (leftB true ons i) o.s o.w.id = leftB true ons (i + 1) := by
  have e : leftB true ons i = o :: leftB true ons (i + 1) := by
    unfold leftB
    rw [if_pos rfl, if_pos rfl]
    obtain ⟨hi, rfl⟩ := List.getElem?_eq_some_iff.1 eo
    exact List.drop_eq_getElem_cons hi
  refine ⟨e, ?_, ?_⟩
  · unfold dropE
    rw [if_pos ⟨o.w, listO_mem.2 (by rw [e]; exact List.mem_cons_self ..), rfl⟩]
  · have hs : OkO (leftB true ons i) := hok.sub (by unfold leftB; rw [if_pos rfl]; exact List.drop_sublist _ _)
    rw [e]
    have h1 : dropO (o :: leftB true ons (i + 1)) o.s o.w.id = dropO (leftB true ons (i + 1)) o.s o.w.id := List.filter_cons_of_neg (by simp [isT])
    rw [h1]
    refine dropO_none ?_
    rintro ⟨w, hw, e2⟩
    have hn := hs.nodup
    rw [e, List.map_cons, List.nodup_cons] at hn
    exact hn.1 (List.mem_map.2 ⟨⟨o.s, w⟩, listO_mem.1 hw, Prod.ext rfl e2⟩)
theorem left_forg {ons : List On} {i : Nat} {o : On} (eo : ons[i]? = some o) : forgO (leftB false ons i) o.s = leftB false ons (i + 1) := by
  unfold leftB forgO
  rw [if_neg (by decide), if_neg (by decide), List.filter_filter]
  refine List.filter_congr fun x _ => ?_
  rw [List.take_add_one, eo, List.any_append]
  by_cases h : o.s = x.s
  · simp [h]
  · have h2 : ¬ x.s = o.s := fun e => h e.symm
    simp [h, h2]
theorem not_yet {ons : List On} (hok : OkO ons) {i : Nat} {o : On} (eo : ons[i]? = some o) : dropE (ons.take i) o.s o.w.id = 90 ∧ dropO (ons.take i) o.s o.w.id = ons.take i := by
  obtain ⟨_, _, _, hx, _⟩ := addE_zero (hok.take eo).1
  exact ⟨by unfold dropE; rw [if_neg hx], dropO_none hx⟩
theorem size_none : sizeD 7 (nlO []) = 1 := by simp [sizeD, heads, nlO]
set_option maxHeartbeats 8000000 in
theorem leaves_law (xs : List On) (n : Nat) (hn : n ≤ xs.length) (one : Bool) :
    FnSpec C 7 [rdS xs n, .bool one] [] (fun r L' => r = .bool true ∧ L' = []) := by
  have hlen : (layO (xs.take (min n 60))).length ≤ 60 := by have := layO_len (xs.take (min n 60)); rw [List.length_take] at this; omega
  have hok := OkO.lay (xs.take (min n 60))
  refine FnSpec.start C_ok Tryd.func7 rfl rfl Tryd.ntmps7 ?_
  repeat(first|refine Sc ?_|refine fun(_:Nat)=>?_)
  refine ACallT.ok (ACall.ret begins9_spec ?_)
  repeat(first|refine Sc ?_|refine fun(_:Nat)=>?_)
  refine ACallT.ok (ACall.pure _ (laidR_spec xs n hn) ?_)
  generalize layO (xs.take (min n 60)) = ons at hlen hok
  rintro r L' ⟨gt, H0, hT0, rfl, rfl⟩
  refine ⟨_, Sub.refl _, ?_⟩
  repeat(first|refine Sc ?_|refine fun(_:Nat)=>?_)
  refine Run.loopW (fun m env L => ∃ (i : Nat) (H : AHeap), m = ons.length - i ∧ i ≤ ons.length ∧ IsTr (leftB one ons i) gt H ∧ env = [rdS xs n, .bool one, .junk, .junk, .junk, .junk, .ptr 0 gt 0, rdS ons ons.length, .int .i64 (ons.length - (leftB one ons i).length : Nat), .int .i64 i, .junk, .junk, .junk, .junk, .junk, .junk, .junk, .junk, .junk, .junk, .junk, .junk, .junk, .junk, .junk, .junk, .junk, .junk, .junk, .junk, .junk, .junk, .junk, .junk, .junk, .junk, .junk, .junk, .junk, .junk, .junk, .junk, .junk, .junk, .junk, .junk, .junk, .junk, .junk, .junk, .junk, .junk, .junk, .junk, .junk, .junk, .junk, .junk, .junk, .junk, .junk, .junk, .junk, .junk, .junk, .junk, .junk, .junk, .junk, .junk, .junk, .junk, .junk, .junk, .junk, .junk, .junk, .junk, .junk, .junk, .junk, .junk, .junk, .junk, .junk, .junk, .junk, .junk, .junk, .junk, .junk, .junk, .junk, .junk, .junk, .junk, .junk, .junk, .junk, .junk, .junk, .junk, .junk, .junk, .junk, .junk, .junk, .junk, .junk, .junk, .junk, .junk, .junk, .junk, .junk, .junk, .junk, .junk, .junk, .junk, .junk, .junk, .junk, .junk, .junk, .junk, .junk, .junk, .junk, .junk, .junk, .junk, .junk, .junk, .junk, .junk] ∧ L = [(0, boxL H)]) ons.length
    [rdS xs n, .bool one, .junk, .junk, .junk, .junk, .ptr 0 gt 0, rdS ons ons.length, .int .i64 0, .int .i64 (0 : Nat), .junk, .junk, .junk, .junk, .junk, .junk, .junk, .junk, .junk, .junk, .junk, .junk, .junk, .junk, .junk, .junk, .junk, .junk, .junk, .junk, .junk, .junk, .junk, .junk, .junk, .junk, .junk, .junk, .junk, .junk, .junk, .junk, .junk, .junk, .junk, .junk, .junk, .junk, .junk, .junk, .junk, .junk, .junk, .junk, .junk, .junk, .junk, .junk, .junk, .junk, .junk, .junk, .junk, .junk, .junk, .junk, .junk, .junk, .junk, .junk, .junk, .junk, .junk, .junk, .junk, .junk, .junk, .junk, .junk, .junk, .junk, .junk, .junk, .junk, .junk, .junk, .junk, .junk, .junk, .junk, .junk, .junk, .junk, .junk, .junk, .junk, .junk, .junk, .junk, .junk, .junk, .junk, .junk, .junk, .junk, .junk, .junk, .junk, .junk, .junk, .junk, .junk, .junk, .junk, .junk, .junk, .junk, .junk, .junk, .junk, .junk, .junk, .junk, .junk, .junk, .junk, .junk, .junk, .junk, .junk, .junk, .junk, .junk, .junk, .junk, .junk] [(0, boxL H0)] (Weak.sel ?_ [0] (by decide) ?_) ⟨0, H0, by omega, by omega, by rw [leftB_zero]; exact hT0, by rw [leftB_zero, Nat.sub_self]; rfl, rfl⟩ ?_
  · exact Ss
  · exact Sl
  rintro m env L ⟨i, H, rfl, hi, hT, rfl, rfl⟩
  have hll := leftB_len one ons i
  repeat(first|refine Sc ?_|refine fun(_:Nat)=>?_)
  refine ⟨fun h => ?_, fun h => ?_⟩
  · have h : (i : Int) < (ons.length : Int) := h
    obtain ⟨x, ex⟩ : ∃ x, ons[i]? = some x := ⟨_, List.getElem?_eq_getElem (by omega)⟩
    cases one with
    | true =>
      have hd := left_drop hok ex
      have hlc : (leftB true ons i).length = (leftB true ons (i + 1)).length + 1 := by rw [hd.1]; rfl
      repeat(first|refine Sc ?_|refine fun(_:Nat)=>?_)
      refine Run.drawnK C_ok (aopC_sound C_ok) [] [0, 1, 2, 3, 4, 5, 6, 7, 8, 9, 10, 11, 12, 13] (by kernel_rfl) ?_
      repeat(first|refine Sc ?_|refine fun(_:Nat)=>?_)
      refine ⟨h, encH x, map_at encH ex, ?_⟩
      repeat(first|refine Sc ?_|refine fun(_:Nat)=>?_)
      refine ⟨h, encH x, map_at encH ex, ?_⟩
      repeat(first|refine Sc ?_|refine fun(_:Nat)=>?_)
      refine ACallT.ok (ACall.sel [0] (by decide) [.ptr 0 gt 0, .int .i64 x.s, .int .i64 x.w.id] _ ⟨Sub.refl _, Sub.refl _, Sub.refl _, trivial⟩ (dropT_spec _ gt H hT (by omega) x.s x.w.id) ?_)
      rw [hd.2.1, hd.2.2]
      rintro r L' ⟨H', rfl, hT', rfl⟩
      refine ⟨_, Sub.refl _, ?_⟩
      repeat(first|refine Sc ?_|refine fun(_:Nat)=>?_)
      refine ⟨fun h => absurd rfl h, fun _ => ?_⟩
      repeat(first|refine Sc ?_|refine fun(_:Nat)=>?_)
      refine fun r hr => ?_
      obtain rfl : r = ((ons.length - (leftB true ons (i + 1)).length : Nat) : Int) := by rw [hr, IntKind.wrap_i64]; omega
      repeat(first|refine Sc ?_|refine fun(_:Nat)=>?_)
      refine fun r hr => ?_
      obtain rfl := add1 hr (by omega)
      repeat(first|refine Sc ?_|refine fun(_:Nat)=>?_)
      refine Cont.lpW ?_
      refine ⟨ons.length - (i + 1), _, _, by omega, Weak.sel ?_ [0] (by decide) ?_, ⟨i + 1, H', rfl, by omega, hT', rfl, rfl⟩⟩
      · exact Ss
      · exact Sl
    | false =>
      have hf := left_forg ex
      have hfl := forgO_len (leftB false ons i) x.s
      rw [hf] at hfl
      repeat(first|refine Sc ?_|refine fun(_:Nat)=>?_)
      refine ⟨h, encH x, map_at encH ex, ?_⟩
      repeat(first|refine Sc ?_|refine fun(_:Nat)=>?_)
      refine ACallT.ok (ACall.sel [0] (by decide) [.ptr 0 gt 0, .int .i64 x.s] _ ⟨Sub.refl _, Sub.refl _, trivial⟩ (forget_spec _ gt H hT (by omega) x.s) ?_)
      rw [hf]
      rintro r L' ⟨H', rfl, hT', rfl⟩
      refine ⟨_, Sub.refl _, ?_⟩
      repeat(first|refine Sc ?_|refine fun(_:Nat)=>?_)
      refine fun r hr => ?_
      obtain rfl : r = ((ons.length - (leftB false ons (i + 1)).length : Nat) : Int) := by rw [hr, IntKind.wrap_i64]; omega
      repeat(first|refine Sc ?_|refine fun(_:Nat)=>?_)
      refine fun r hr => ?_
      obtain rfl := add1 hr (by omega)
      repeat(first|refine Sc ?_|refine fun(_:Nat)=>?_)
      refine Cont.lpW ?_
      refine ⟨ons.length - (i + 1), _, _, by omega, Weak.sel ?_ [0] (by decide) ?_, ⟨i + 1, H', rfl, by omega, hT', rfl, rfl⟩⟩
      · exact Ss
      · exact Sl
  have h : ¬ (i : Int) < (ons.length : Int) := h
  obtain rfl : i = ons.length := by omega
  rw [leftB_all] at hT ⊢
  clear hll
  repeat(first|refine Sc ?_|refine fun(_:Nat)=>?_)
  refine ACallT.ok (ACall.sel [0] (by decide) [.ptr 0 gt 0] _ ⟨Sub.refl _, trivial⟩ (walkR_spec [] gt H hT (by decide)) ?_)
  rintro r L' ⟨ys, hys, _, rfl, rfl⟩
  obtain rfl : ys = [] := hys.eq_nil
  refine ⟨_, Sub.refl _, ?_⟩
  repeat(first|refine Sc ?_|refine fun(_:Nat)=>?_)
  have hsz := sizeTr_spec [] gt H hT (by decide)
  rw [size_none] at hsz
  refine ⟨fun h => absurd rfl h, fun _ => ?_⟩
  repeat(first|refine Sc ?_|refine fun(_:Nat)=>?_)
  refine ACallT.ok (ACall.sel [0] (by decide) [.ptr 0 gt 0] _ ⟨Sub.refl _, trivial⟩ hsz ?_)
  rintro r L' ⟨rfl, rfl⟩
  refine ⟨_, Sub.refl _, ?_⟩
  repeat(first|refine Sc ?_|refine fun(_:Nat)=>?_)
  refine ⟨fun h => absurd rfl h, fun _ => ?_⟩
  repeat(first|refine Sc ?_|refine fun(_:Nat)=>?_)
  refine ⟨fun h => absurd rfl h, fun _ => ?_⟩
  repeat(first|refine Sc ?_|refine fun(_:Nat)=>?_)
  refine Run.loopW (fun m env L => ∃ (i : Nat) (H : AHeap), m = ons.length - i ∧ i ≤ ons.length ∧ IsTr (ons.take i) gt H ∧ env = [rdS xs n, .bool one, .junk, .junk, .junk, .junk, .ptr 0 gt 0, rdS ons ons.length, .junk, .junk, .junk, .junk, .junk, .int .i64 i, .junk, .junk, .junk, .junk, .junk, .junk, .junk, .junk, .junk, .junk, .junk, .junk, .junk, .junk, .junk, .junk, .junk, .junk, .junk, .junk, .junk, .junk, .junk, .junk, .junk, .junk, .junk, .junk, .junk, .junk, .junk, .junk, .junk, .junk, .junk, .junk, .junk, .junk, .junk, .junk, .junk, .junk, .junk, .junk, .junk, .junk, .junk, .junk, .junk, .junk, .junk, .junk, .junk, .junk, .junk, .junk, .junk, .junk, .junk, .junk, .junk, .junk, .junk, .junk, .junk, .junk, .junk, .junk, .junk, .junk, .junk, .junk, .junk, .junk, .junk, .junk, .junk, .junk, .junk, .junk, .junk, .junk, .junk, .junk, .junk, .junk, .junk, .junk, .junk, .junk, .junk, .junk, .junk, .junk, .junk, .junk, .junk, .junk, .junk, .junk, .junk, .junk, .junk, .junk, .junk, .junk, .junk, .junk, .junk, .junk, .junk, .junk, .junk, .junk, .junk, .junk, .junk, .junk, .junk, .junk, .junk, .junk] ∧ L = [(0, boxL H)]) ons.length
    [rdS xs n, .bool one, .junk, .junk, .junk, .junk, .ptr 0 gt 0, rdS ons ons.length, .junk, .junk, .junk, .junk, .junk, .int .i64 (0 : Nat), .junk, .junk, .junk, .junk, .junk, .junk, .junk, .junk, .junk, .junk, .junk, .junk, .junk, .junk, .junk, .junk, .junk, .junk, .junk, .junk, .junk, .junk, .junk, .junk, .junk, .junk, .junk, .junk, .junk, .junk, .junk, .junk, .junk, .junk, .junk, .junk, .junk, .junk, .junk, .junk, .junk, .junk, .junk, .junk, .junk, .junk, .junk, .junk, .junk, .junk, .junk, .junk, .junk, .junk, .junk, .junk, .junk, .junk, .junk, .junk, .junk, .junk, .junk, .junk, .junk, .junk, .junk, .junk, .junk, .junk, .junk, .junk, .junk, .junk, .junk, .junk, .junk, .junk, .junk, .junk, .junk, .junk, .junk, .junk, .junk, .junk, .junk, .junk, .junk, .junk, .junk, .junk, .junk, .junk, .junk, .junk, .junk, .junk, .junk, .junk, .junk, .junk, .junk, .junk, .junk, .junk, .junk, .junk, .junk, .junk, .junk, .junk, .junk, .junk, .junk, .junk, .junk, .junk, .junk, .junk, .junk, .junk] [(0, boxL H)] (Weak.sel ?_ [0] (by decide) ?_) ⟨0, H, by omega, by omega, by rw [List.take_zero]; exact hT, rfl, rfl⟩ ?_
  · exact Ss
  · exact Sl
  clear hsz hT hT0 H H0
  rintro m env L ⟨i, H, rfl, hi, hT, rfl, rfl⟩
  repeat(first|refine Sc ?_|refine fun(_:Nat)=>?_)
  refine ⟨fun h => ?_, fun h => ?_⟩
  · have h : (i : Int) < (ons.length : Int) := h
    obtain ⟨x, ex⟩ : ∃ x, ons[i]? = some x := ⟨_, List.getElem?_eq_getElem (by omega)⟩
    have hny := not_yet hok ex
    have hadd := hok.take ex
    have htl : (ons.take i).length ≤ 60 := by rw [List.length_take]; omega
    repeat(first|refine Sc ?_|refine fun(_:Nat)=>?_)
    refine Run.drawnK C_ok (aopC_sound C_ok) [] [0, 1, 2, 3, 4, 5, 6, 7, 8, 9, 10, 11, 12, 13] (by kernel_rfl) ?_
    repeat(first|refine Sc ?_|refine fun(_:Nat)=>?_)
    refine ⟨h, encH x, map_at encH ex, ?_⟩
    repeat(first|refine Sc ?_|refine fun(_:Nat)=>?_)
    refine ⟨h, encH x, map_at encH ex, ?_⟩
    repeat(first|refine Sc ?_|refine fun(_:Nat)=>?_)
    refine ACallT.ok (ACall.sel [0] (by decide) [.ptr 0 gt 0, .int .i64 x.s, .int .i64 x.w.id] _ ⟨Sub.refl _, Sub.refl _, Sub.refl _, trivial⟩ (dropT_spec _ gt H hT (by omega) x.s x.w.id) ?_)
    rw [hny.1, hny.2]
    rintro r L' ⟨H1, rfl, hT1, rfl⟩
    refine ⟨_, Sub.refl _, ?_⟩
    repeat(first|refine Sc ?_|refine fun(_:Nat)=>?_)
    refine Run.drawnK C_ok (aopC_sound C_ok) [] [0, 1, 2, 3, 4, 5, 6, 7, 8, 9, 10, 11, 12] (by kernel_rfl) ?_
    repeat(first|refine Sc ?_|refine fun(_:Nat)=>?_)
    refine ⟨h, encH x, map_at encH ex, ?_⟩
    repeat(first|refine Sc ?_|refine fun(_:Nat)=>?_)
    refine ⟨h, encH x, map_at encH ex, ?_⟩
    repeat(first|refine Sc ?_|refine fun(_:Nat)=>?_)
    refine ACallT.ok (ACall.sel [0] (by decide) [.ptr 0 gt 0, .int .i64 x.s, encW x.w] _ ⟨Sub.refl _, Sub.refl _, Sub.refl _, trivial⟩ (addT_spec _ gt H1 hT1 (by omega) x.s x.w) ?_)
    rw [hadd.1, hadd.2]
    rintro r L' ⟨H2, rfl, hT2, rfl⟩
    refine ⟨_, Sub.refl _, ?_⟩
    repeat(first|refine Sc ?_|refine fun(_:Nat)=>?_)
    refine ⟨fun h => absurd rfl h, fun _ => ?_⟩
    repeat(first|refine Sc ?_|refine fun(_:Nat)=>?_)
    refine ⟨fun h => absurd rfl h, fun _ => ?_⟩
    repeat(first|refine Sc ?_|refine fun(_:Nat)=>?_)
    refine fun r hr => ?_
    obtain rfl := add1 hr (by omega)
    repeat(first|refine Sc ?_|refine fun(_:Nat)=>?_)
    refine Cont.lpW ?_
    refine ⟨ons.length - (i + 1), _, _, by omega, Weak.sel ?_ [0] (by decide) ?_, ⟨i + 1, H2, rfl, by omega, hT2, rfl, rfl⟩⟩
    · exact Ss
    · exact Sl
  have h : ¬ (i : Int) < (ons.length : Int) := h
  obtain rfl : i = ons.length := by omega
  rw [List.take_length] at hT
  repeat(first|refine Sc ?_|refine fun(_:Nat)=>?_)
  have hlay : layO (ons.take (min ons.length 60)) = ons := by rw [Nat.min_eq_left hlen, List.take_length]; exact hok.layO
  have hlr := laidR_spec ons ons.length (Nat.le_refl _)
  rw [hlay] at hlr
  refine ACallT.ok (ACall.pure _ hlr ?_)
  rintro r L' ⟨gu, Hu, hU, rfl, rfl⟩
  refine ⟨.tuple [.ptr 1 gu 0, rdS ons ons.length], Sub.tuples ⟨Sub.ptr _ _ _ _, Sub.refl _, trivial⟩, ?_⟩
  repeat(first|refine Za ?_|refine Zb ?_|refine Zy rfl ?_|refine Z2 rfl ?_|refine Z3 ?_|refine fun(_:Nat)=>?_|refine Run.goN rfl ?_|refine Zo rfl ?_)
  refine Run.textA C_ok (aopZ_sound C_ok) ?_
  repeat(first|refine Sc ?_|refine fun(_:Nat)=>?_)
  refine ⟨fun _ => ?_, fun h => absurd rfl h⟩
  repeat(first|refine Sc ?_|refine fun(_:Nat)=>?_)
  rename_i gs
  refine CallZ.frz [2] [0, 1] (by kernel_rfl) [.ptr 0 gt 0, .ptr 1 gu 0, rdS ons ons.length, .int .i64 9, rdP [⟨#[47]⟩, ⟨#[47, 97]⟩, ⟨#[47, 97, 47, 98]⟩] 3] ⟨.same _, .same _, .same _, .same _, .row 2 gs 3 _ 9 1 _ rfl (by simp), trivial⟩ (ACall.sel [0, 1] (by decide) [.ptr 0 gt 0, .ptr 1 gu 0, rdS ons ons.length, .int .i64 9, rdP [⟨#[47]⟩, ⟨#[47, 97]⟩, ⟨#[47, 97, 47, 98]⟩] 3] _ ⟨Sub.refl _, Sub.refl _, Sub.refl _, Sub.refl _, Sub.refl _, trivial⟩ (alike_spec ons ons gt gu H Hu hT hU (List.Perm.refl _) hok.nodup (by omega) ons (by omega) 9 [⟨#[47]⟩, ⟨#[47, 97]⟩, ⟨#[47, 97, 47, 98]⟩] 3 (by decide)) ?_)
  rintro r L' ⟨rfl, rfl⟩
  refine ⟨_, Sub.refl _, ?_⟩
  repeat(first|refine Sc ?_|refine fun(_:Nat)=>?_)
  exact ⟨_, [], FinOk.drop _ _, rfl, rfl⟩
end Go.Proofs.YtgpbppkmmlclfaaDoor.HBT
