/- Two tries that hold the same watches answer alike. -/
import Derived.Test.YtgpbppkmmlclfaaDoorTtKv
set_option linter.unusedVariables false
set_option linter.unusedSimpArgs false
namespace Go.Proofs.YtgpbppkmmlclfaaDoor.HBT
open Go Go.Proofs.YtgpbppkmmlclfaaDoor.HB Go.RowKit
set_option maxRecDepth 8000

abbrev rdP (ps : List ByteArray) (n : Nat) : AV := .ro 1 (ps.map .str) n
set_option maxHeartbeats 8000000 in
theorem alike_spec (ons ons' : List On) (ga gb : Nat) (Ha Hb : AHeap) (hA : IsTr ons ga Ha) (hB : IsTr ons' gb Hb) (hp : ons.Perm ons') (hnd : (ons.map tgO).Nodup) (hn : ons.length ≤ 200) (l : List On) (hll : l.length ≤ 1000) (st : Int) (ps : List ByteArray) (n : Nat) (hps : n ≤ ps.length) :
    FnSpec C 20 [.ptr 0 ga 0, .ptr 1 gb 0, rdS l l.length, .int .i64 st, rdP ps n] [(0, boxL Ha), (0, boxL Hb)] (fun r L' => r = .bool true ∧ L' = [(0, boxL Ha), (0, boxL Hb)]) := by
  have hn' : ons'.length ≤ 200 := by rw [← hp.length_eq]; exact hn
  refine FnSpec.start C_ok Tryd.func20 rfl rfl Tryd.ntmps20 ?_
  repeat(first|refine Sc ?_|refine fun(_:Nat)=>?_)
  refine ACallT.ok (ACall.sel [0] (by decide) [.ptr 0 ga 0] _ ⟨Sub.refl _, trivial⟩ (walkR_spec ons ga Ha hA (by omega)) ?_)
  rintro r L' ⟨ys, hys, hyw, rfl, rfl⟩
  refine ⟨_, Sub.refl _, ?_⟩
  repeat(first|refine Sc ?_|refine fun(_:Nat)=>?_)
  refine ACallT.ok (ACall.sel [1] (by decide) [.ptr 0 gb 0] _ ⟨Sub.ptr _ _ _ _, trivial⟩ (walkR_spec ons' gb Hb hB (by omega)) ?_)
  rintro r L' ⟨zs, hzs, hzw, rfl, rfl⟩
  obtain rfl : ys = zs := walked_one ((hys.map tgO).nodup_iff.2 hnd) (hys.trans (hp.trans hzs.symm)) hyw hzw
  have hyl : ys.length ≤ 1000 := by rw [hys.length_eq]; omega
  refine ⟨_, Sub.refl _, ?_⟩
  repeat(first|refine Sc ?_|refine fun(_:Nat)=>?_)
  refine ACallT.ok (ACall.ret (sameSeats_spec ys ys hyl hyl) ?_)
  rw [decide_eq_true (p := ys.map seatS = ys.map seatS) rfl]
  repeat(first|refine Sc ?_|refine fun(_:Nat)=>?_)
  refine ACallT.ok (ACall.sel [0] (by decide) [.ptr 0 ga 0] _ ⟨Sub.refl _, trivial⟩ (sizeTr_spec ons ga Ha hA (by omega)) ?_)
  rintro r L' ⟨rfl, rfl⟩
  refine ⟨_, Sub.refl _, ?_⟩
  repeat(first|refine Sc ?_|refine fun(_:Nat)=>?_)
  refine ACallT.ok (ACall.sel [1] (by decide) [.ptr 0 gb 0] _ ⟨Sub.ptr _ _ _ _, trivial⟩ (sizeTr_spec ons' gb Hb hB (by omega)) ?_)
  rintro r L' ⟨rfl, rfl⟩
  refine ⟨_, Sub.refl _, ?_⟩
  repeat(first|refine Sc ?_|refine fun(_:Nat)=>?_)
  refine ⟨fun h => absurd (congrArg (fun n : Nat => (n : Int)) (sizeD_perm 7 (nlO_perm hp))) h, fun _ => ?_⟩
  repeat(first|refine Sc ?_|refine fun(_:Nat)=>?_)
  refine Run.loopW (fun m env L => ∃ i : Nat, m = l.length - i ∧ i ≤ l.length ∧ env = [.ptr 0 ga 0, .ptr 1 gb 0, rdS l l.length, .int .i64 st, rdP ps n, .junk, .junk, .junk, .junk, .junk, .junk, .junk, .junk, .junk, .junk, .int .i64 i, .junk, .junk, .junk, .junk, .junk, .junk, .junk, .junk, .junk, .junk, .junk, .junk, .junk, .junk, .junk, .junk, .junk, .junk, .junk, .junk, .junk, .junk, .junk, .junk, .junk, .junk, .junk, .junk, .junk, .junk, .junk, .junk, .junk, .junk, .junk, .junk, .junk, .junk, .junk, .junk, .junk, .junk, .junk, .junk, .junk, .junk, .junk, .junk, .junk, .junk, .junk, .junk, .junk, .junk, .junk, .junk, .junk, .junk, .junk, .junk, .junk, .junk, .junk, .junk, .junk, .junk, .junk, .junk, .junk, .junk, .junk, .junk, .junk, .junk, .junk, .junk, .junk, .junk, .junk, .junk, .junk, .junk, .junk, .junk, .junk, .junk, .junk, .junk] ∧ L = [(0, boxL Ha), (0, boxL Hb)]) l.length
    [.ptr 0 ga 0, .ptr 1 gb 0, rdS l l.length, .int .i64 st, rdP ps n, .junk, .junk, .junk, .junk, .junk, .junk, .junk, .junk, .junk, .junk, .int .i64 (0 : Nat), .junk, .junk, .junk, .junk, .junk, .junk, .junk, .junk, .junk, .junk, .junk, .junk, .junk, .junk, .junk, .junk, .junk, .junk, .junk, .junk, .junk, .junk, .junk, .junk, .junk, .junk, .junk, .junk, .junk, .junk, .junk, .junk, .junk, .junk, .junk, .junk, .junk, .junk, .junk, .junk, .junk, .junk, .junk, .junk, .junk, .junk, .junk, .junk, .junk, .junk, .junk, .junk, .junk, .junk, .junk, .junk, .junk, .junk, .junk, .junk, .junk, .junk, .junk, .junk, .junk, .junk, .junk, .junk, .junk, .junk, .junk, .junk, .junk, .junk, .junk, .junk, .junk, .junk, .junk, .junk, .junk, .junk, .junk, .junk, .junk, .junk, .junk, .junk] [(0, boxL Ha), (0, boxL Hb)] (Weak.sel ?_ [0, 1] (by decide) ?_) ⟨0, by omega, by omega, rfl, rfl⟩ ?_
  · exact Ss
  · exact Sl
  rintro m env L ⟨i, rfl, hi, rfl, rfl⟩
  repeat(first|refine Sc ?_|refine fun(_:Nat)=>?_)
  refine ⟨fun h => ?_, fun h => ?_⟩
  · have h : (i : Int) < (l.length : Int) := h
    obtain ⟨x, ex⟩ : ∃ x, l[i]? = some x := ⟨_, List.getElem?_eq_getElem (by omega)⟩
    repeat(first|refine Sc ?_|refine fun(_:Nat)=>?_)
    refine ⟨h, encH x, map_at encH ex, ?_⟩
    repeat(first|refine Sc ?_|refine fun(_:Nat)=>?_)
    refine ACallT.ok (ACall.sel [0] (by decide) [.ptr 0 ga 0, .int .i64 x.s] _ ⟨Sub.refl _, Sub.refl _, trivial⟩ (ofR_spec ons ga Ha hA x.s) ?_)
    rintro r L' ⟨ws, hws, hwso, hw4, rfl, rfl⟩
    refine ⟨_, Sub.refl _, ?_⟩
    repeat(first|refine Sc ?_|refine fun(_:Nat)=>?_)
    refine ⟨h, encH x, map_at encH ex, ?_⟩
    repeat(first|refine Sc ?_|refine fun(_:Nat)=>?_)
    refine ACallT.ok (ACall.sel [1] (by decide) [.ptr 0 gb 0, .int .i64 x.s] _ ⟨Sub.ptr _ _ _ _, Sub.refl _, trivial⟩ (ofR_spec ons' gb Hb hB x.s) ?_)
    rintro r L' ⟨vs, hvs, hvso, hv4, rfl, rfl⟩
    obtain rfl : ws = vs := watches_one (hws.trans ((listO_perm hp x.s).trans hvs.symm)) hwso hvso
    refine ⟨_, Sub.refl _, ?_⟩
    repeat(first|refine Sc ?_|refine fun(_:Nat)=>?_)
    refine ACallT.ok (ACall.ret (sameWatches_spec ws ws (by omega) (by omega)) ?_)
    rw [decide_eq_true (p := ws = ws) rfl]
    repeat(first|refine Sc ?_|refine fun(_:Nat)=>?_)
    refine fun r hr => ?_
    obtain rfl := add1 hr (by omega)
    repeat(first|refine Sc ?_|refine fun(_:Nat)=>?_)
    refine Cont.lpW ?_
    refine ⟨l.length - (i + 1), _, _, by omega, Weak.sel ?_ [0, 1] (by decide) ?_, ⟨i + 1, rfl, by omega, rfl, rfl⟩⟩
    · exact Ss
    · exact Sl
  have h : ¬ (i : Int) < (l.length : Int) := h
  repeat(first|refine Sc ?_|refine fun(_:Nat)=>?_)
  refine Run.loopW (fun m env L => ∃ i : Nat, m = 21 - i ∧ i ≤ 20 ∧ i ≤ n ∧ env = [.ptr 0 ga 0, .ptr 1 gb 0, rdS l l.length, .int .i64 st, rdP ps n, .junk, .junk, .junk, .junk, .junk, .junk, .junk, .junk, .junk, .junk, .junk, .junk, .int .i64 i, .junk, .junk, .junk, .junk, .junk, .junk, .junk, .junk, .junk, .junk, .junk, .junk, .junk, .junk, .junk, .junk, .junk, .junk, .junk, .junk, .junk, .junk, .junk, .junk, .junk, .junk, .junk, .junk, .junk, .junk, .junk, .junk, .junk, .junk, .junk, .junk, .junk, .junk, .junk, .junk, .junk, .junk, .junk, .junk, .junk, .junk, .junk, .junk, .junk, .junk, .junk, .junk, .junk, .junk, .junk, .junk, .junk, .junk, .junk, .junk, .junk, .junk, .junk, .junk, .junk, .junk, .junk, .junk, .junk, .junk, .junk, .junk, .junk, .junk, .junk, .junk, .junk, .junk, .junk, .junk, .junk, .junk, .junk, .junk, .junk, .junk] ∧ L = [(0, boxL Ha), (0, boxL Hb)]) 21
    [.ptr 0 ga 0, .ptr 1 gb 0, rdS l l.length, .int .i64 st, rdP ps n, .junk, .junk, .junk, .junk, .junk, .junk, .junk, .junk, .junk, .junk, .junk, .junk, .int .i64 (0 : Nat), .junk, .junk, .junk, .junk, .junk, .junk, .junk, .junk, .junk, .junk, .junk, .junk, .junk, .junk, .junk, .junk, .junk, .junk, .junk, .junk, .junk, .junk, .junk, .junk, .junk, .junk, .junk, .junk, .junk, .junk, .junk, .junk, .junk, .junk, .junk, .junk, .junk, .junk, .junk, .junk, .junk, .junk, .junk, .junk, .junk, .junk, .junk, .junk, .junk, .junk, .junk, .junk, .junk, .junk, .junk, .junk, .junk, .junk, .junk, .junk, .junk, .junk, .junk, .junk, .junk, .junk, .junk, .junk, .junk, .junk, .junk, .junk, .junk, .junk, .junk, .junk, .junk, .junk, .junk, .junk, .junk, .junk, .junk, .junk, .junk, .junk] [(0, boxL Ha), (0, boxL Hb)] (Weak.sel ?_ [0, 1] (by decide) ?_) ⟨0, by omega, by omega, by omega, rfl, rfl⟩ ?_
  · exact Ss
  · exact Sl


  rintro m env L ⟨i, rfl, h20, hin, rfl, rfl⟩
  repeat(first|refine Sc ?_|refine fun(_:Nat)=>?_)
  refine ⟨fun h => ?_, fun h => ?_⟩
  rotate_left
  · repeat(first|refine Sc ?_|refine fun(_:Nat)=>?_)
    exact ⟨_, _, FinOk.keep _ [0, 1] (Sub.refl _) (by decide) rfl, rfl, rfl⟩
  have h : (i : Int) < (n : Int) := h
  repeat(first|refine Sc ?_|refine fun(_:Nat)=>?_)
  refine ⟨fun h2 => ?_, fun h2 => ?_⟩
  rotate_left
  · repeat(first|refine Sc ?_|refine fun(_:Nat)=>?_)
    exact ⟨_, _, FinOk.keep _ [0, 1] (Sub.refl _) (by decide) rfl, rfl, rfl⟩
  have h2 : (i : Int) < 20 := h2
  obtain ⟨pl, epl⟩ : ∃ pl, ps[i]? = some pl := ⟨_, List.getElem?_eq_getElem (by omega)⟩
  repeat(first|refine Sc ?_|refine fun(_:Nat)=>?_)
  refine Run.loopW (fun m env L => ∃ q : Nat, m = 5 - q ∧ q ≤ 5 ∧ env = [.ptr 0 ga 0, .ptr 1 gb 0, rdS l l.length, .int .i64 st, rdP ps n, .junk, .junk, .junk, .junk, .junk, .junk, .junk, .junk, .junk, .junk, .junk, .junk, .int .i64 i, .int .i64 q, .junk, .junk, .junk, .junk, .junk, .junk, .junk, .junk, .junk, .junk, .junk, .junk, .junk, .junk, .junk, .junk, .junk, .junk, .junk, .junk, .junk, .junk, .junk, .junk, .junk, .junk, .junk, .junk, .junk, .junk, .junk, .junk, .junk, .junk, .junk, .junk, .junk, .junk, .junk, .junk, .junk, .junk, .junk, .junk, .junk, .junk, .junk, .junk, .junk, .junk, .junk, .junk, .junk, .junk, .junk, .junk, .junk, .junk, .junk, .junk, .junk, .junk, .junk, .junk, .junk, .junk, .junk, .junk, .junk, .junk, .junk, .junk, .junk, .junk, .junk, .junk, .junk, .junk, .junk, .junk, .junk, .junk, .junk, .junk, .junk] ∧ L = [(0, boxL Ha), (0, boxL Hb)]) 5
    [.ptr 0 ga 0, .ptr 1 gb 0, rdS l l.length, .int .i64 st, rdP ps n, .junk, .junk, .junk, .junk, .junk, .junk, .junk, .junk, .junk, .junk, .junk, .junk, .int .i64 i, .int .i64 (0 : Nat), .junk, .junk, .junk, .junk, .junk, .junk, .junk, .junk, .junk, .junk, .junk, .junk, .junk, .junk, .junk, .junk, .junk, .junk, .junk, .junk, .junk, .junk, .junk, .junk, .junk, .junk, .junk, .junk, .junk, .junk, .junk, .junk, .junk, .junk, .junk, .junk, .junk, .junk, .junk, .junk, .junk, .junk, .junk, .junk, .junk, .junk, .junk, .junk, .junk, .junk, .junk, .junk, .junk, .junk, .junk, .junk, .junk, .junk, .junk, .junk, .junk, .junk, .junk, .junk, .junk, .junk, .junk, .junk, .junk, .junk, .junk, .junk, .junk, .junk, .junk, .junk, .junk, .junk, .junk, .junk, .junk, .junk, .junk, .junk, .junk] [(0, boxL Ha), (0, boxL Hb)] (Weak.sel ?_ [0, 1] (by decide) ?_) ⟨0, by omega, by omega, rfl, rfl⟩ ?_
  · exact Ss
  · exact Sl
  rintro m env L ⟨q, rfl, hq, rfl, rfl⟩
  repeat(first|refine Sc ?_|refine fun(_:Nat)=>?_)
  refine ⟨fun h3 => ?_, fun h3 => ?_⟩
  · have h3 : (q : Int) < 5 := h3
    repeat(first|refine Sc ?_|refine fun(_:Nat)=>?_)
    refine ⟨h, .str pl, map_at AV.str epl, ?_⟩
    repeat(first|refine Sc ?_|refine fun(_:Nat)=>?_)
    refine ACallT.ok (ACall.sel [0] (by decide) [.ptr 0 ga 0, .int .i64 st, chA q pl ⟨#[]⟩ 0] _ ⟨Sub.refl _, Sub.refl _, Sub.refl _, trivial⟩ (matchR_spec ons ga Ha hA (by omega) st q pl ⟨#[]⟩ 0) ?_)
    rintro r L' ⟨ts, hts, htso, rfl, rfl⟩
    refine ⟨_, Sub.refl _, ?_⟩
    repeat(first|refine Sc ?_|refine fun(_:Nat)=>?_)
    refine ACallT.ok (ACall.sel [1] (by decide) [.ptr 0 gb 0, .int .i64 st, chA q pl ⟨#[]⟩ 0] _ ⟨Sub.ptr _ _ _ _, Sub.refl _, Sub.refl _, trivial⟩ (matchR_spec ons' gb Hb hB (by omega) st q pl ⟨#[]⟩ 0) ?_)
    rintro r L' ⟨us, hus, huso, rfl, rfl⟩
    obtain rfl : ts = us := tags_one (hts.trans ((tagged_perm hp st q pl).trans hus.symm)) htso huso
    have htl : ts.length ≤ 200 := by rw [hts.length_eq]; have := tagged_len ons st q pl; omega
    refine ⟨_, Sub.refl _, ?_⟩
    repeat(first|refine Sc ?_|refine fun(_:Nat)=>?_)
    refine ACallT.ok (ACall.ret (sameTags_spec ts ts (by omega) (by omega)) ?_)
    rw [decide_eq_true (p := ts = ts) rfl]
    repeat(first|refine Sc ?_|refine fun(_:Nat)=>?_)
    refine fun r hr => ?_
    obtain rfl := add1 hr (by omega)
    repeat(first|refine Sc ?_|refine fun(_:Nat)=>?_)
    refine Cont.lpW ?_
    refine ⟨5 - (q + 1), _, _, by omega, Weak.sel ?_ [0, 1] (by decide) ?_, ⟨q + 1, rfl, by omega, rfl, rfl⟩⟩
    · exact Ss
    · exact Sl
  · have h3 : ¬ (q : Int) < 5 := h3
    repeat(first|refine Sc ?_|refine fun(_:Nat)=>?_)
    refine fun r hr => ?_
    obtain rfl := add1 hr (by omega)
    repeat(first|refine Sc ?_|refine fun(_:Nat)=>?_)
    refine Cont.lpW ?_
    refine ⟨21 - (i + 1), _, _, by omega, Weak.sel ?_ [0, 1] (by decide) ?_, ⟨i + 1, rfl, by omega, by omega, rfl, rfl⟩⟩
    · exact Ss
    · exact Sl
end Go.Proofs.YtgpbppkmmlclfaaDoor.HBT
