/- Walks, watches are held against one another. -/
import Derived.Test.YtgpbppkmmlclfaaDoorTtKu
import Derived.Test.YtgpbppkmmlclfaaDoorTtKr
import Derived.Test.YtgpbppkmmlclfaaDoorHbZq
set_option linter.unusedVariables false
set_option linter.unusedSimpArgs false
namespace Go.Proofs.YtgpbppkmmlclfaaDoor.HBT
open Go Go.Proofs.YtgpbppkmmlclfaaDoor.HB Go.RowKit
set_option maxRecDepth 8000

abbrev rdX9 (xs : List On) : AV := .ro 3 (xs.map encS) xs.length
def seatS (o : On) : ByteArray × Int × Int := (o.w.p, o.s, o.w.id)
theorem sameSeats_spec (a b : List On) (ha : a.length ≤ 1000) (hb : b.length ≤ 1000) : FnSpec C 37 [rdX9 a, rdX9 b] [] (fun r L' => r = .bool (decide (a.map seatS = b.map seatS)) ∧ L' = []) := by
  refine FnSpec.start C_ok Tryd.func37 rfl rfl Tryd.ntmps37 ?_
  repeat(first|refine Za ?_|refine Zb ?_|refine Run.textA C_ok (aopX_sound C_ok E2_ok) ?_|refine Zy rfl ?_|refine Z2 rfl ?_|refine Z3 ?_|refine fun(_:Nat)=>?_|refine Zn rfl ?_|refine Zo rfl ?_|refine OrdE2.cons rfl ?_|refine OrdE2.nil ?_)
  refine ⟨fun h => ?_, fun h => ?_⟩
  · have h : ¬ (a.length : Int) = (b.length : Int) := h
    repeat(first|refine Za ?_|refine Zb ?_|refine Run.textA C_ok (aopX_sound C_ok E2_ok) ?_|refine Zy rfl ?_|refine Z2 rfl ?_|refine Z3 ?_|refine fun(_:Nat)=>?_|refine Zn rfl ?_|refine Zo rfl ?_|refine OrdE2.cons rfl ?_|refine OrdE2.nil ?_)
    exact ⟨_, [], FinOk.drop _ _, congrArg AV.bool (decide_eq_false (p := a.map seatS = b.map seatS) fun e => h (by have := congrArg List.length e; simp at this; omega)).symm, rfl⟩
  have h : (a.length : Int) = (b.length : Int) := Decidable.of_not_not h
  have hl : a.length = b.length := by omega
  repeat(first|refine Za ?_|refine Zb ?_|refine Run.textA C_ok (aopX_sound C_ok E2_ok) ?_|refine Zy rfl ?_|refine Z2 rfl ?_|refine Z3 ?_|refine fun(_:Nat)=>?_|refine Zn rfl ?_|refine Zo rfl ?_|refine OrdE2.cons rfl ?_|refine OrdE2.nil ?_)
  refine Run.loop (fun m env L => ∃ i : Nat, m = a.length - i ∧ i ≤ a.length ∧ (a.take i).map seatS = (b.take i).map seatS ∧ env = [rdX9 a, rdX9 b, .junk, .junk, .bool false, .int .i64 i, .junk, .junk, .junk, .junk, .junk, .junk, .junk, .junk, .junk, .junk, .junk, .junk, .junk, .junk, .junk, .junk, .junk, .junk, .junk, .junk] ∧ L = []) a.length
    [rdX9 a, rdX9 b, .junk, .junk, .bool false, .int .i64 (0 : Nat), .junk, .junk, .junk, .junk, .junk, .junk, .junk, .junk, .junk, .junk, .junk, .junk, .junk, .junk, .junk, .junk, .junk, .junk, .junk, .junk] ?_ ⟨0, by omega, by omega, rfl, rfl, rfl⟩ ?_
  · repeat(first|exact trivial|refine ⟨.inl rfl, ?_⟩|refine ⟨.inr rfl, ?_⟩)
  rintro m env L ⟨i, rfl, hi, hp, rfl, rfl⟩
  repeat(first|refine Za ?_|refine Zb ?_|refine Run.textA C_ok (aopX_sound C_ok E2_ok) ?_|refine Zy rfl ?_|refine Z2 rfl ?_|refine Z3 ?_|refine fun(_:Nat)=>?_|refine Zn rfl ?_|refine Zo rfl ?_|refine OrdE2.cons rfl ?_|refine OrdE2.nil ?_)
  refine ⟨fun h => ?_, fun h => ?_⟩
  · have h : (i : Int) < (a.length : Int) := h
    obtain ⟨x, ex⟩ : ∃ x, a[i]? = some x := ⟨_, List.getElem?_eq_getElem (by omega)⟩
    obtain ⟨y, ey⟩ : ∃ y, b[i]? = some y := ⟨_, List.getElem?_eq_getElem (by omega)⟩
    repeat(first|refine Za ?_|refine Zb ?_|refine Run.textA C_ok (aopX_sound C_ok E2_ok) ?_|refine Zy rfl ?_|refine Z2 rfl ?_|refine Z3 ?_|refine fun(_:Nat)=>?_|refine Zn rfl ?_|refine Zo rfl ?_|refine OrdE2.cons rfl ?_|refine OrdE2.nil ?_)
    refine Run.drawnE2 C_ok (aopZ_sound C_ok) E2_ok [] [0, 1, 2, 3, 4, 5, 6, 7, 8] (by kernel_rfl) ?_
    repeat(first|refine Za ?_|refine Zb ?_|refine Run.textA C_ok (aopX_sound C_ok E2_ok) ?_|refine Zy rfl ?_|refine Z2 rfl ?_|refine Z3 ?_|refine fun(_:Nat)=>?_|refine Zn rfl ?_|refine Zo rfl ?_|refine OrdE2.cons rfl ?_|refine OrdE2.nil ?_)
    refine ⟨h, encS x, map_at encS ex, ?_⟩
    repeat(first|refine Za ?_|refine Zb ?_|refine Run.textA C_ok (aopX_sound C_ok E2_ok) ?_|refine Zy rfl ?_|refine Z2 rfl ?_|refine Z3 ?_|refine fun(_:Nat)=>?_|refine Zn rfl ?_|refine Zo rfl ?_|refine OrdE2.cons rfl ?_|refine OrdE2.nil ?_)
    refine ⟨show (i : Int) < (b.length : Int) by omega, encS y, map_at encS ey, ?_⟩
    repeat(first|refine Za ?_|refine Zb ?_|refine Run.textA C_ok (aopX_sound C_ok E2_ok) ?_|refine Zy rfl ?_|refine Z2 rfl ?_|refine Z3 ?_|refine fun(_:Nat)=>?_|refine Zn rfl ?_|refine Zo rfl ?_|refine OrdE2.cons rfl ?_|refine OrdE2.nil ?_)
    refine ⟨fun h => ?_, fun h => ?_⟩
    · have h : ¬ (x.w.p = y.w.p ∧ x.s = y.s ∧ x.w.id = y.w.id) := by simpa [allEq, eq1] using h
      repeat(first|refine Za ?_|refine Zb ?_|refine Run.textA C_ok (aopX_sound C_ok E2_ok) ?_|refine Zy rfl ?_|refine Z2 rfl ?_|refine Z3 ?_|refine fun(_:Nat)=>?_|refine Zn rfl ?_|refine Zo rfl ?_|refine OrdE2.cons rfl ?_|refine OrdE2.nil ?_)
      refine ⟨_, [], FinOk.drop _ _, congrArg AV.bool (decide_eq_false (p := a.map seatS = b.map seatS) fun e => h ?_).symm, rfl⟩
      have e2 : (a.map seatS)[i]? = (b.map seatS)[i]? := by rw [e]
      rw [List.getElem?_map, List.getElem?_map, ex, ey] at e2
      have e3 := Option.some.inj e2
      exact ⟨congrArg (·.1) e3, congrArg (·.2.1) e3, congrArg (·.2.2) e3⟩
    · have h : x.w.p = y.w.p ∧ x.s = y.s ∧ x.w.id = y.w.id := by simpa [allEq, eq1] using h
      repeat(first|refine Za ?_|refine Zb ?_|refine Run.textA C_ok (aopX_sound C_ok E2_ok) ?_|refine Zy rfl ?_|refine Z2 rfl ?_|refine Z3 ?_|refine fun(_:Nat)=>?_|refine Zn rfl ?_|refine Zo rfl ?_|refine OrdE2.cons rfl ?_|refine OrdE2.nil ?_)
      refine fun r hr => ?_
      obtain rfl := add1 hr (by omega)
      repeat(first|refine Za ?_|refine Zb ?_|refine Run.textA C_ok (aopX_sound C_ok E2_ok) ?_|refine Zy rfl ?_|refine Z2 rfl ?_|refine Z3 ?_|refine fun(_:Nat)=>?_|refine Zn rfl ?_|refine Zo rfl ?_|refine OrdE2.cons rfl ?_|refine OrdE2.nil ?_)
      refine Cont.lp ?_
      refine ⟨a.length - (i + 1), [rdX9 a, rdX9 b, .junk, .junk, .bool false, .int .i64 (i + 1 : Nat), .junk, .junk, .junk, .junk, .junk, .junk, .junk, .junk, .junk, .junk, .junk, .junk, .junk, .junk, .junk, .junk, .junk, .junk, .junk, .junk], 99, by omega, ?_, ⟨i + 1, rfl, by omega, ?_, rfl, rfl⟩⟩
      · repeat(first|exact trivial|refine ⟨.inl rfl, ?_⟩|refine ⟨.inr rfl, ?_⟩)
      · rw [List.take_add_one, List.take_add_one, ex, ey, List.map_append, List.map_append, hp]
        congr 1
        simp only [Option.toList_some, List.map_cons, List.map_nil]
        unfold seatS
        rw [h.1, h.2.1, h.2.2]
  · have h : ¬ (i : Int) < (a.length : Int) := h
    obtain rfl : i = a.length := by omega
    repeat(first|refine Za ?_|refine Zb ?_|refine Run.textA C_ok (aopX_sound C_ok E2_ok) ?_|refine Zy rfl ?_|refine Z2 rfl ?_|refine Z3 ?_|refine fun(_:Nat)=>?_|refine Zn rfl ?_|refine Zo rfl ?_|refine OrdE2.cons rfl ?_|refine OrdE2.nil ?_)
    refine ⟨_, [], FinOk.drop _ _, congrArg AV.bool (decide_eq_true (p := a.map seatS = b.map seatS) ?_).symm, rfl⟩
    rw [List.take_length, hl, List.take_length] at hp
    exact hp
theorem sameWatches_spec (a b : List Wt) (ha : a.length ≤ 1000) (hb : b.length ≤ 1000) : FnSpec C 38 [rdW a, rdW b] [] (fun r L' => r = .bool (decide (a = b)) ∧ L' = []) := by
  refine FnSpec.start C_ok Tryd.func38 rfl rfl Tryd.ntmps38 ?_
  repeat(first|refine Sc ?_|refine fun(_:Nat)=>?_)
  refine ⟨fun h => ?_, fun h => ?_⟩
  · have h : ¬ (a.length : Int) = (b.length : Int) := h
    repeat(first|refine Sc ?_|refine fun(_:Nat)=>?_)
    exact ⟨_, [], FinOk.drop _ _, congrArg AV.bool (decide_eq_false (p := a = b) fun e => h (by rw [e])).symm, rfl⟩
  have h : (a.length : Int) = (b.length : Int) := Decidable.of_not_not h
  have hl : a.length = b.length := by omega
  repeat(first|refine Sc ?_|refine fun(_:Nat)=>?_)
  refine Run.loop (fun m env L => ∃ i : Nat, m = a.length - i ∧ i ≤ a.length ∧ a.take i = b.take i ∧ env = [rdW a, rdW b, .junk, .junk, .bool false, .int .i64 i, .junk, .junk, .junk, .junk, .junk, .junk, .junk, .junk, .junk, .junk, .junk, .junk, .junk, .junk, .junk, .junk, .junk, .junk, .junk, .junk] ∧ L = []) a.length
    [rdW a, rdW b, .junk, .junk, .bool false, .int .i64 (0 : Nat), .junk, .junk, .junk, .junk, .junk, .junk, .junk, .junk, .junk, .junk, .junk, .junk, .junk, .junk, .junk, .junk, .junk, .junk, .junk, .junk] ?_ ⟨0, by omega, by omega, rfl, rfl, rfl⟩ ?_
  · repeat(first|exact trivial|refine ⟨.inl rfl, ?_⟩|refine ⟨.inr rfl, ?_⟩)
  rintro m env L ⟨i, rfl, hi, hp, rfl, rfl⟩
  repeat(first|refine Sc ?_|refine fun(_:Nat)=>?_)
  refine ⟨fun h => ?_, fun h => ?_⟩
  · have h : (i : Int) < (a.length : Int) := h
    obtain ⟨x, ex⟩ : ∃ x, a[i]? = some x := ⟨_, List.getElem?_eq_getElem (by omega)⟩
    obtain ⟨y, ey⟩ : ∃ y, b[i]? = some y := ⟨_, List.getElem?_eq_getElem (by omega)⟩
    repeat(first|refine Sc ?_|refine fun(_:Nat)=>?_)
    refine Run.drawnK C_ok (aopC_sound C_ok) [] [0, 1, 2, 3, 4, 5, 6, 7, 8] (by kernel_rfl) ?_
    repeat(first|refine Sc ?_|refine fun(_:Nat)=>?_)
    refine ⟨h, encW x, map_at encW ex, ?_⟩
    repeat(first|refine Sc ?_|refine fun(_:Nat)=>?_)
    refine ⟨show (i : Int) < (b.length : Int) by omega, encW y, map_at encW ey, ?_⟩
    repeat(first|refine Sc ?_|refine fun(_:Nat)=>?_)
    refine ⟨fun h => ?_, fun h => ?_⟩
    · have h : ¬ (x.id = y.id ∧ x.p = y.p ∧ x.k = y.k ∧ x.f = y.f) := by simpa [allEq, eq1] using h
      repeat(first|refine Sc ?_|refine fun(_:Nat)=>?_)
      refine ⟨_, [], FinOk.drop _ _, congrArg AV.bool (decide_eq_false (p := a = b) fun e => h ?_).symm, rfl⟩
      subst e
      rw [ex] at ey
      cases ey
      exact ⟨rfl, rfl, rfl, rfl⟩
    · have h : x.id = y.id ∧ x.p = y.p ∧ x.k = y.k ∧ x.f = y.f := by simpa [allEq, eq1] using h
      have hxy : x = y := by
        cases x; cases y
        obtain ⟨h1, h2, h3, h4⟩ := h
        simp at h1 h2 h3 h4
        subst h1 h2 h3 h4
        rfl
      repeat(first|refine Sc ?_|refine fun(_:Nat)=>?_)
      refine fun r hr => ?_
      obtain rfl := add1 hr (by omega)
      repeat(first|refine Sc ?_|refine fun(_:Nat)=>?_)
      refine Cont.lp ?_
      refine ⟨a.length - (i + 1), [rdW a, rdW b, .junk, .junk, .bool false, .int .i64 (i + 1 : Nat), .junk, .junk, .junk, .junk, .junk, .junk, .junk, .junk, .junk, .junk, .junk, .junk, .junk, .junk, .junk, .junk, .junk, .junk, .junk, .junk], 99, by omega, ?_, ⟨i + 1, rfl, by omega, ?_, rfl, rfl⟩⟩
      · repeat(first|exact trivial|refine ⟨.inl rfl, ?_⟩|refine ⟨.inr rfl, ?_⟩)
      · rw [List.take_add_one, List.take_add_one, ex, ey, hp, hxy]
  · have h : ¬ (i : Int) < (a.length : Int) := h
    obtain rfl : i = a.length := by omega
    repeat(first|refine Sc ?_|refine fun(_:Nat)=>?_)
    refine ⟨_, [], FinOk.drop _ _, congrArg AV.bool (decide_eq_true (p := a = b) ?_).symm, rfl⟩
    rw [List.take_length, hl, List.take_length] at hp
    exact hp
theorem walkR_spec (ons : List On) (gt : Nat) (H : AHeap) (hT : IsTr ons gt H) (hn : ons.length ≤ 1000) :
    FnSpec C 12 [.ptr 0 gt 0] [(0, boxL H)] (fun r L' => ∃ ys, ys.Perm ons ∧ Walked ys ∧ r = .tuple [rdX9 ys, .bool true] ∧ L' = [(0, boxL H)]) := by
  refine FnSpec.fin (walkL_spec ons gt H hT hn) ?_
  rintro r L' ⟨ys, v, gl, lo, hp, hw, hv, rfl, rfl⟩
  rcases hv with ⟨e0, rfl, rfl⟩ | ⟨Cp, rfl, rfl⟩
  · refine ⟨_, _, FinOk.keepLend [0] (by decide) (Lend.tuples (.two (.nils 3) (.same _))) (Sub.refl _), ys, hp, hw, ?_, rfl⟩
    rw [e0]; rfl
  · exact ⟨_, _, FinOk.keepLend [0] (by decide) (Lend.tuples (.two (.row 1 gl Cp _ tSt 3 _ rfl (by simp)) (.same _))) (Sub.refl _), ys, hp, hw, rfl, rfl⟩
end Go.Proofs.YtgpbppkmmlclfaaDoor.HBT
