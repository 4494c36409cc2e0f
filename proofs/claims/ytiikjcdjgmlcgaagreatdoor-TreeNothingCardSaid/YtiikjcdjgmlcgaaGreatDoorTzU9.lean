/- What the laws of whole scripts hand in: twin, untouched; what they look at: fulls. -/
import Derived.Test.YtiikjcdjgmlcgaaGreatDoorTzU7
import Derived.Test.YtiikjcdjgmlcgaaGreatDoorTzT50
import Derived.Test.YtiikjcdjgmlcgaaGreatDoorTzT10
set_option linter.unusedVariables false
set_option linter.unusedSimpArgs false
namespace Go.Proofs.YtiikjcdjgmlcgaaGreatDoor.HBT
open Go Go.Proofs.YtiikjcdjgmlcgaaGreatDoor.HB Go.RowKit
set_option maxRecDepth 8000

def Stp.fit (x : Stp) : Prop := x.no ≤ x.ops.length ∧ x.no * 56 ≤ 140737488351232
theorem fulls_same (l : List Fu) (hl : l.length ≤ 9000000000000000000) : FnSpec C 37 [rdX l, rdX l] [] (fun r L' => r = .bool true ∧ L' = []) := by
  refine FnSpec.start C_ok Tryz.func37 rfl rfl Tryz.ntmps37 ?_
  repeat(first|refine Sc ?_|refine fun(_:Nat)=>?_)
  refine ⟨fun h => absurd rfl h, fun _ => ?_⟩
  repeat(first|refine Sc ?_|refine fun(_:Nat)=>?_)
  refine Run.loop (fun k env L => ∃ i : Nat, k = l.length - i ∧ i ≤ l.length ∧ env = [rdX l, rdX l, .junk, .junk, .junk, .int .i64 i, .junk, .junk, .junk, .junk, .junk, .junk, .junk, .junk, .junk, .junk, .junk, .junk, .junk, .junk, .junk, .junk, .junk, .junk, .junk, .junk] ∧ L = []) l.length [rdX l, rdX l, .junk, .junk, .junk, .int .i64 (0 : Nat), .junk, .junk, .junk, .junk, .junk, .junk, .junk, .junk, .junk, .junk, .junk, .junk, .junk, .junk, .junk, .junk, .junk, .junk, .junk, .junk] ?_ ⟨0, by omega, by omega, rfl, rfl⟩ ?_
  · repeat(first|exact trivial|refine ⟨.inl rfl, ?_⟩|refine ⟨.inr rfl, ?_⟩)
  rintro k env L ⟨i, rfl, hi, rfl, rfl⟩
  repeat(first|refine Sc ?_|refine fun(_:Nat)=>?_)
  refine ⟨fun h => ?_, fun h => ?_⟩
  · have h : (i : Int) < (l.length : Int) := h
    obtain ⟨x, ex⟩ : ∃ x, l[i]? = some x := ⟨_, List.getElem?_eq_getElem (by omega)⟩
    repeat(first|refine Sc ?_|refine fun(_:Nat)=>?_)
    refine Run.drawnK C_ok (aopC_sound C_ok) [] [0, 1, 2, 3, 4, 5, 6, 7, 8] (by kernel_rfl) ?_
    repeat(first|refine Sc ?_|refine fun(_:Nat)=>?_)
    refine ⟨h, encX x, map_at encX ex, ?_⟩
    repeat(first|refine Sc ?_|refine fun(_:Nat)=>?_)
    refine ⟨h, encX x, map_at encX ex, ?_⟩
    repeat(first|refine Sc ?_|refine fun(_:Nat)=>?_)
    refine ⟨fun hne => absurd ((fx_eq x x).2 rfl) hne, fun _ => ?_⟩
    repeat(first|refine Sc ?_|refine fun(_:Nat)=>?_)
    refine fun r hr => ?_
    obtain rfl := add1 hr (by omega)
    repeat(first|refine Sc ?_|refine fun(_:Nat)=>?_)
    refine Cont.lp ?_
    refine ⟨l.length - (i + 1), _, 99, by omega, ?_, ⟨i + 1, rfl, by omega, rfl, rfl⟩⟩
    · repeat(first|exact trivial|refine ⟨.inl rfl, ?_⟩|refine ⟨.inr rfl, ?_⟩)
  · repeat(first|refine Sc ?_|refine fun(_:Nat)=>?_)
    exact ⟨_, [], FinOk.drop _ _, rfl, rfl⟩
abbrev room1 : Opp := ⟨77, ⟨#[114, 111, 111, 109]⟩, eS, 0, 0⟩
abbrev room2 : Opp := ⟨78, ⟨#[114, 111, 111, 109]⟩, eS, 0, 0⟩
theorem opp_refl (x : Opp) : allEq [.int .i64 x.k, .str x.p, .str x.d, .int .i64 x.v, .int .i64 x.f] [.int .i64 x.k, .str x.p, .str x.d, .int .i64 x.v, .int .i64 x.f] := by simp [allEq, eq1]
theorem untouched_spec (all : List Opp) (n : Nat) (hn : n ≤ all.length) (hb : n ≤ 140737488351232) : FnSpec C 64 [.ro 5 ((all.take n ++ [room1, room2]).map encO) (n + 2), .ro 5 (all.map encO) n] [] (fun r L' => r = .bool true ∧ L' = []) := by
  have hlen : (all.take n).length = n := by rw [List.length_take]; omega
  have e1 : (all.take n ++ [room1, room2])[n]? = some room1 := by rw [List.getElem?_append_right (by omega), hlen, Nat.sub_self]; rfl
  have e2 : (all.take n ++ [room1, room2])[n + 1]? = some room2 := by rw [List.getElem?_append_right (by omega), hlen, Nat.add_sub_cancel_left]; rfl
  refine FnSpec.start C_ok Tryz.func64 rfl rfl Tryz.ntmps64 ?_
  repeat(first|refine Sc ?_|refine fun(_:Nat)=>?_)
  refine Run.loop (fun k env L => ∃ i : Nat, k = n - i ∧ i ≤ n ∧ env = [.ro 5 ((all.take n ++ [room1, room2]).map encO) (n + 2), .ro 5 (all.map encO) n, .junk, .junk, .junk, .int .i64 n, .int .i64 i, .junk, .junk, .junk, .junk, .junk, .junk, .junk, .junk, .junk, .junk, .junk, .junk, .junk, .junk, .junk, .junk, .junk, .junk, .junk, .junk, .junk, .junk, .junk, .junk, .junk, .junk, .junk, .junk, .junk, .junk, .junk] ∧ L = []) n [.ro 5 ((all.take n ++ [room1, room2]).map encO) (n + 2), .ro 5 (all.map encO) n, .junk, .junk, .junk, .int .i64 n, .int .i64 (0 : Nat), .junk, .junk, .junk, .junk, .junk, .junk, .junk, .junk, .junk, .junk, .junk, .junk, .junk, .junk, .junk, .junk, .junk, .junk, .junk, .junk, .junk, .junk, .junk, .junk, .junk, .junk, .junk, .junk, .junk, .junk, .junk] ?_ ⟨0, by omega, by omega, rfl, rfl⟩ ?_
  · repeat(first|exact trivial|refine ⟨.inl rfl, ?_⟩|refine ⟨.inr rfl, ?_⟩)
  rintro k env L ⟨i, rfl, hi, rfl, rfl⟩
  repeat(first|refine Sc ?_|refine fun(_:Nat)=>?_)
  refine ⟨fun h => ?_, fun h => ?_⟩
  · have h : (i : Int) < (n : Int) := h
    obtain ⟨x, ex⟩ : ∃ x, all[i]? = some x := ⟨_, List.getElem?_eq_getElem (by omega)⟩
    have ex2 : (all.take n ++ [room1, room2])[i]? = some x := by rw [List.getElem?_append_left (by omega), List.getElem?_take_of_lt (by omega)]; exact ex
    repeat(first|refine Sc ?_|refine fun(_:Nat)=>?_)
    refine Run.drawnK C_ok (aopC_sound C_ok) [] [0, 1, 2, 3, 4, 5, 6, 7, 8] (by kernel_rfl) ?_
    repeat(first|refine Sc ?_|refine fun(_:Nat)=>?_)
    refine ⟨show (i : Int) < ((n + 2 : Nat) : Int) by omega, encO x, map_at encO ex2, ?_⟩
    repeat(first|refine Sc ?_|refine fun(_:Nat)=>?_)
    refine ⟨h, encO x, map_at encO ex, ?_⟩
    repeat(first|refine Sc ?_|refine fun(_:Nat)=>?_)
    refine ⟨fun hne => absurd (opp_refl x) hne, fun _ => ?_⟩
    repeat(first|refine Sc ?_|refine fun(_:Nat)=>?_)
    refine fun r hr => ?_
    obtain rfl := add1 hr (by omega)
    repeat(first|refine Sc ?_|refine fun(_:Nat)=>?_)
    refine Cont.lp ?_
    refine ⟨n - (i + 1), _, 99, by omega, ?_, ⟨i + 1, rfl, by omega, rfl, rfl⟩⟩
    · repeat(first|exact trivial|refine ⟨.inl rfl, ?_⟩|refine ⟨.inr rfl, ?_⟩)
  · repeat(first|refine Sc ?_|refine fun(_:Nat)=>?_)
    refine ⟨show (n : Int) < ((n + 2 : Nat) : Int) by omega, encO room1, map_at encO e1, ?_⟩
    repeat(first|refine Sc ?_|refine fun(_:Nat)=>?_)
    refine ⟨fun _ => ?_, fun h => absurd (opp_refl room1) h⟩
    repeat(first|refine Sc ?_|refine fun(_:Nat)=>?_)
    refine fun r hr => ?_
    obtain rfl := add1 hr (by omega)
    repeat(first|refine Sc ?_|refine fun(_:Nat)=>?_)
    refine ⟨show ((n + 1 : Nat) : Int) < ((n + 2 : Nat) : Int) by omega, encO room2, map_at encO e2, ?_⟩
    repeat(first|refine Sc ?_|refine fun(_:Nat)=>?_)
    refine ⟨fun _ => ?_, fun h => absurd (opp_refl room2) h⟩
    repeat(first|refine Sc ?_|refine fun(_:Nat)=>?_)
    exact ⟨_, [], FinOk.drop _ _, rfl, rfl⟩
abbrev tD : TypeId := 75
abbrev LO := LN encO tO 5
def TwinQ (gd : Nat) (all : List Opp) (n : Nat) : AV → AHeap → Prop := fun r L' => ∃ g' Cp, r = .sl 1 g' Cp (n + 2) ∧ L' = [(gd, .cells tD [.sl 1 g' Cp (n + 2)]), (g', .row tO 5 Cp ((all.take n ++ [room1, room2]).map encO))]
set_option maxHeartbeats 2000000 in
theorem twin_spec (gd : Nat) (v : AV) (g : Nat) (o : AObj) (xs : List Opp) (hv : LO 1 xs v g o) (all : List Opp) (n : Nat) (hn : n ≤ all.length) (hb : n * 56 ≤ 140737488351232) :
    FnSpec C 63 [.ptr 0 gd 0, .ro 5 (all.map encO) n] [(gd, .cells tD [v]), (g, o)] (TwinQ gd all n) := by
  have hlen : (all.take n).length = n := by rw [List.length_take]; omega
  rcases hv with ⟨rfl, rfl, rfl⟩ | ⟨C0, rfl, rfl⟩
  · refine FnSpec.start C_ok Tryz.func63 rfl rfl Tryz.ntmps63 ?_
    repeat(first|refine Sc ?_|refine fun(_:Nat)=>?_)
    refine Run.loopW (fun k env L => ∃ (i : Nat) (v : AV) (gk : Nat) (o : AObj), k = n - i ∧ i ≤ n ∧ LO 1 (all.take i) v gk o ∧ env = [.ptr 0 gd 0, .ro 5 (all.map encO) n, .junk, .junk, .junk, v, .int .i64 i, .junk, .junk, .junk, .junk, .junk, .junk, .junk, .junk, .junk, .junk, .junk, .junk, .junk, .junk, .junk, .junk, .junk, .junk, .junk, .junk, .junk, .junk, .junk, .junk, .junk, .junk, .junk, .junk] ∧ L = [(gd, .cells tD [.junk]), (gk, o)]) n
      [.ptr 0 gd 0, .ro 5 (all.map encO) n, .junk, .junk, .junk, .nils, .int .i64 (0 : Nat), .junk, .junk, .junk, .junk, .junk, .junk, .junk, .junk, .junk, .junk, .junk, .junk, .junk, .junk, .junk, .junk, .junk, .junk, .junk, .junk, .junk, .junk, .junk, .junk, .junk, .junk, .junk, .junk] [(gd, .cells tD [.junk]), (g, .dead)] (Weak.sel ?_ [0, 1] (by decide) ?_) ⟨0, .nils, g, .dead, by omega, by omega, .inl ⟨rfl, rfl, rfl⟩, rfl, rfl⟩ ?_
    · exact Ss
    · exact ⟨rfl, SubO.cells ⟨Sub.junk _, trivial⟩, rfl, trivial, trivial⟩
    rintro k env L ⟨i, v, gk, o, rfl, hi, hv, rfl, rfl⟩
    repeat(first|refine Sc ?_|refine fun(_:Nat)=>?_)
    refine ⟨fun h => ?_, fun h => ?_⟩
    · have h : (i : Int) < (n : Int) := h
      obtain ⟨x, ex⟩ : ∃ x, all[i]? = some x := ⟨_, List.getElem?_eq_getElem (by omega)⟩
      have hm := take_more ex
      have hlt : (all.take i).length = i := by rw [List.length_take]; omega
      generalize all.take i = ns at hv hm hlt
      repeat(first|refine Sc ?_|refine fun(_:Nat)=>?_)
      rcases hv with ⟨e0, rfl, rfl⟩ | ⟨Cp, rfl, rfl⟩
      · repeat(first|refine Sc ?_|refine fun(_:Nat)=>?_)
        refine ⟨h, encO x, map_at encO ex, ?_⟩
        repeat(first|refine Sc ?_|refine fun(_:Nat)=>?_)
        refine ⟨fun h => absurd h (List.cons_ne_nil _ _), fun _ => ?_⟩
        repeat(first|refine Sc ?_|refine fun(_:Nat)=>?_)
        rename_i g' Cp'
        refine fun r hr => ?_
        obtain rfl := add1 hr (by omega)
        repeat(first|refine Sc ?_|refine fun(_:Nat)=>?_)
        refine Cont.lpW ?_
        refine ⟨n - (i + 1), _, _, by omega, Weak.sel ?_ [0, 3] (by decide) ?_, ⟨i + 1, .sl 1 g' Cp' 1, g', _, rfl, by omega, hm.symm ▸ LN.one e0, rfl, rfl⟩⟩
        · exact Ss
        · exact Sl
      · repeat(first|refine Sc ?_|refine fun(_:Nat)=>?_)
        refine ⟨h, encO x, map_at encO ex, ?_⟩
        repeat(first|refine Sc ?_|refine fun(_:Nat)=>?_)
        refine ⟨by simp, ?_⟩
        repeat(first|refine Sc ?_|refine fun(_:Nat)=>?_)
        refine ⟨by simp; omega, ?_⟩
        repeat(first|refine Sc ?_|refine fun(_:Nat)=>?_)
        rename_i g' Cp'
        refine fun r hr => ?_
        obtain rfl := add1 hr (by omega)
        repeat(first|refine Sc ?_|refine fun(_:Nat)=>?_)
        refine Cont.lpW ?_
        refine ⟨n - (i + 1), _, _, by omega, Weak.sel ?_ [0, 1] (by decide) ?_, ⟨i + 1, .sl 1 g' Cp' ((ns.map encO).length + 1), g', _, rfl, by omega, hm.symm ▸ LN.snoc, rfl, rfl⟩⟩
        · exact Ss
        · exact Sl
    · have h : ¬ (i : Int) < (n : Int) := h
      have ei : i = n := by omega
      subst ei
      repeat(first|refine Sc ?_|refine fun(_:Nat)=>?_)
      rcases hv with ⟨e0, rfl, rfl⟩ | ⟨Cp, rfl, rfl⟩
      · have hn0 : i = 0 := by rw [e0] at hlen; simpa using hlen.symm
        subst hn0
        repeat(first|refine Sc ?_|refine fun(_:Nat)=>?_)
        refine ⟨fun h => absurd h (List.cons_ne_nil _ _), fun _ => ?_⟩
        repeat(first|refine Sc ?_|refine fun(_:Nat)=>?_)
        rename_i g' Cp'
        exact ⟨.sl 1 g' Cp' 2, [(gd, .cells tD [.sl 1 g' Cp' 2]), (g', .row tO 5 Cp' [encO room1, encO room2])], FinOk.keepS _ [0, 3] (Sub.sl _ _ _ _ _) (by decide) rfl ⟨rfl, SubO.cells ⟨Sub.sl _ _ _ _ _, trivial⟩, rfl, SubO.refl _, trivial⟩, g', Cp', rfl, rfl⟩
      · repeat(first|refine Sc ?_|refine fun(_:Nat)=>?_)
        refine ⟨by simp, ?_⟩
        repeat(first|refine Sc ?_|refine fun(_:Nat)=>?_)
        refine ⟨show (((all.take i).map encO).length + 2) * 56 ≤ 140737488355328 by rw [List.length_map, hlen]; omega, ?_⟩
        repeat(first|refine Sc ?_|refine fun(_:Nat)=>?_)
        rename_i g' Cp'
        exact ⟨.sl 1 g' Cp' (((all.take i).map encO).length + 2), [(gd, .cells tD [.sl 1 g' Cp' (((all.take i).map encO).length + 2)]), (g', .row tO 5 Cp' ((all.take i).map encO ++ [encO room1, encO room2]))], FinOk.keep _ [0, 1] (Sub.refl _) (by decide) rfl, g', Cp', by rw [List.length_map, hlen], by rw [List.length_map, hlen, List.map_append]; rfl⟩
  · refine FnSpec.start C_ok Tryz.func63 rfl rfl Tryz.ntmps63 ?_
    repeat(first|refine Sc ?_|refine fun(_:Nat)=>?_)
    refine Run.loopW (fun k env L => ∃ (i : Nat) (v : AV) (gk : Nat) (o : AObj), k = n - i ∧ i ≤ n ∧ LO 1 (all.take i) v gk o ∧ env = [.ptr 0 gd 0, .ro 5 (all.map encO) n, .junk, .junk, .junk, v, .int .i64 i, .junk, .junk, .junk, .junk, .junk, .junk, .junk, .junk, .junk, .junk, .junk, .junk, .junk, .junk, .junk, .junk, .junk, .junk, .junk, .junk, .junk, .junk, .junk, .junk, .junk, .junk, .junk, .junk] ∧ L = [(gd, .cells tD [.junk]), (gk, o)]) n
      [.ptr 0 gd 0, .ro 5 (all.map encO) n, .junk, .junk, .junk, .sl 1 g C0 0, .int .i64 (0 : Nat), .junk, .junk, .junk, .junk, .junk, .junk, .junk, .junk, .junk, .junk, .junk, .junk, .junk, .junk, .junk, .junk, .junk, .junk, .junk, .junk, .junk, .junk, .junk, .junk, .junk, .junk, .junk, .junk] [(gd, .cells tD [.junk]), (g, .row tO 5 C0 [])] (Weak.sel ?_ [0, 1] (by decide) ?_) ⟨0, .sl 1 g C0 0, g, .row tO 5 C0 [], by omega, by omega, .inr ⟨C0, rfl, rfl⟩, rfl, rfl⟩ ?_
    · exact Ss
    · exact ⟨rfl, SubO.cells ⟨Sub.junk _, trivial⟩, rfl, SubO.rowT _ _ _ _ 0, trivial⟩
    rintro k env L ⟨i, v, gk, o, rfl, hi, hv, rfl, rfl⟩
    repeat(first|refine Sc ?_|refine fun(_:Nat)=>?_)
    refine ⟨fun h => ?_, fun h => ?_⟩
    · have h : (i : Int) < (n : Int) := h
      obtain ⟨x, ex⟩ : ∃ x, all[i]? = some x := ⟨_, List.getElem?_eq_getElem (by omega)⟩
      have hm := take_more ex
      have hlt : (all.take i).length = i := by rw [List.length_take]; omega
      generalize all.take i = ns at hv hm hlt
      repeat(first|refine Sc ?_|refine fun(_:Nat)=>?_)
      rcases hv with ⟨e0, rfl, rfl⟩ | ⟨Cp, rfl, rfl⟩
      · repeat(first|refine Sc ?_|refine fun(_:Nat)=>?_)
        refine ⟨h, encO x, map_at encO ex, ?_⟩
        repeat(first|refine Sc ?_|refine fun(_:Nat)=>?_)
        refine ⟨fun h => absurd h (List.cons_ne_nil _ _), fun _ => ?_⟩
        repeat(first|refine Sc ?_|refine fun(_:Nat)=>?_)
        rename_i g' Cp'
        refine fun r hr => ?_
        obtain rfl := add1 hr (by omega)
        repeat(first|refine Sc ?_|refine fun(_:Nat)=>?_)
        refine Cont.lpW ?_
        refine ⟨n - (i + 1), _, _, by omega, Weak.sel ?_ [0, 3] (by decide) ?_, ⟨i + 1, .sl 1 g' Cp' 1, g', _, rfl, by omega, hm.symm ▸ LN.one e0, rfl, rfl⟩⟩
        · exact Ss
        · exact Sl
      · repeat(first|refine Sc ?_|refine fun(_:Nat)=>?_)
        refine ⟨h, encO x, map_at encO ex, ?_⟩
        repeat(first|refine Sc ?_|refine fun(_:Nat)=>?_)
        refine ⟨by simp, ?_⟩
        repeat(first|refine Sc ?_|refine fun(_:Nat)=>?_)
        refine ⟨by simp; omega, ?_⟩
        repeat(first|refine Sc ?_|refine fun(_:Nat)=>?_)
        rename_i g' Cp'
        refine fun r hr => ?_
        obtain rfl := add1 hr (by omega)
        repeat(first|refine Sc ?_|refine fun(_:Nat)=>?_)
        refine Cont.lpW ?_
        refine ⟨n - (i + 1), _, _, by omega, Weak.sel ?_ [0, 1] (by decide) ?_, ⟨i + 1, .sl 1 g' Cp' ((ns.map encO).length + 1), g', _, rfl, by omega, hm.symm ▸ LN.snoc, rfl, rfl⟩⟩
        · exact Ss
        · exact Sl
    · have h : ¬ (i : Int) < (n : Int) := h
      have ei : i = n := by omega
      subst ei
      repeat(first|refine Sc ?_|refine fun(_:Nat)=>?_)
      rcases hv with ⟨e0, rfl, rfl⟩ | ⟨Cp, rfl, rfl⟩
      · have hn0 : i = 0 := by rw [e0] at hlen; simpa using hlen.symm
        subst hn0
        repeat(first|refine Sc ?_|refine fun(_:Nat)=>?_)
        refine ⟨fun h => absurd h (List.cons_ne_nil _ _), fun _ => ?_⟩
        repeat(first|refine Sc ?_|refine fun(_:Nat)=>?_)
        rename_i g' Cp'
        exact ⟨.sl 1 g' Cp' 2, [(gd, .cells tD [.sl 1 g' Cp' 2]), (g', .row tO 5 Cp' [encO room1, encO room2])], FinOk.keepS _ [0, 3] (Sub.sl _ _ _ _ _) (by decide) rfl ⟨rfl, SubO.cells ⟨Sub.sl _ _ _ _ _, trivial⟩, rfl, SubO.refl _, trivial⟩, g', Cp', rfl, rfl⟩
      · repeat(first|refine Sc ?_|refine fun(_:Nat)=>?_)
        refine ⟨by simp, ?_⟩
        repeat(first|refine Sc ?_|refine fun(_:Nat)=>?_)
        refine ⟨show (((all.take i).map encO).length + 2) * 56 ≤ 140737488355328 by rw [List.length_map, hlen]; omega, ?_⟩
        repeat(first|refine Sc ?_|refine fun(_:Nat)=>?_)
        rename_i g' Cp'
        exact ⟨.sl 1 g' Cp' (((all.take i).map encO).length + 2), [(gd, .cells tD [.sl 1 g' Cp' (((all.take i).map encO).length + 2)]), (g', .row tO 5 Cp' ((all.take i).map encO ++ [encO room1, encO room2]))], FinOk.keep _ [0, 1] (Sub.refl _) (by decide) rfl, g', Cp', by rw [List.length_map, hlen], by rw [List.length_map, hlen, List.map_append]; rfl⟩
end Go.Proofs.YtiikjcdjgmlcgaaGreatDoor.HBT
/- What the laws of whole scripts share: arguments within the platform's reach. -/
namespace Go.Proofs.YtiikjcdjgmlcgaaGreatDoor.HBT
open Go Go.Proofs.YtiikjcdjgmlcgaaGreatDoor.HB Go.Proofs.YtiikjcdjgmlcgaaGreatDoor Go.ChangeShapes Go.WideShapes Go.ChangeAt Go.RowKit Go.Lib
set_option maxRecDepth 8000

theorem step_fit {ys : List AV} (h : CellsOkZ True Tryz.prog 33 ys) : ∃ s : { s : Stp // s.fit }, wrapC true ys = encS s.1 := by
  obtain ⟨yss, hf, rfl⟩ := h.struct_inv Tryz.underlying33
  obtain ⟨y0, yss, rfl, h0, hf⟩ := hf.cons_inv
  obtain ⟨y1, yss, rfl, h1, hf⟩ := hf.cons_inv
  obtain ⟨y2, yss, rfl, h2, hf⟩ := hf.cons_inv
  obtain ⟨y3, yss, rfl, h3, hf⟩ := hf.cons_inv
  obtain ⟨y4, yss, rfl, h4, hf⟩ := hf.cons_inv
  obtain ⟨y5, yss, rfl, h5, hf⟩ := hf.cons_inv
  obtain rfl := hf.nil_inv
  obtain ⟨k, _, rfl⟩ := h0.int_inv Tryz.underlying3
  obtain ⟨s, _, rfl⟩ := h1.int_inv Tryz.underlying3
  obtain ⟨st, _, rfl⟩ := h2.int_inv Tryz.underlying3
  obtain ⟨xss, n, hn, hz, hx, rfl⟩ := h3.slice_sized Tryz.underlying31 trivial
  obtain ⟨p, _, rfl⟩ := h4.str_inv Tryz.underlying9
  obtain ⟨m, _, rfl⟩ := h5.int_inv Tryz.underlying3
  have ha : aggT Tryz.prog 93 = true := by kernel_rfl
  have hc : Tryz.prog.cellsOf 93 = 5 := by kernel_rfl
  have hb : Tryz.prog.bytesOf 93 = 56 := by kernel_rfl
  rw [hb] at hz
  obtain ⟨l, hl, hm⟩ := map_told (f := wrapC true) (g := fun s : Opp => encO s) (fun c hc => op_arg (hx c hc))
  refine ⟨⟨⟨k, s, st, l, n, p, m⟩, ?_, ?_⟩, ?_⟩
  · show n ≤ l.length
    omega
  · show n * 56 ≤ 140737488351232
    have : reachBytes = 140737488351232 := rfl
    omega
  · rw [ha, hc, hm]
    rfl
theorem steps_fit {x : AV} (h : ArgOkZ True Tryz.prog 22 x) : ∃ xs n, n ≤ xs.length ∧ (∀ x ∈ xs, Stp.fit x) ∧ x = rdS xs n := by
  obtain ⟨ys, h, rfl⟩ := h
  obtain ⟨xss, n, hn, _, hx, rfl⟩ := h.slice_inv Tryz.underlying22
  have ha : aggT Tryz.prog 33 = true := by kernel_rfl
  have hc : Tryz.prog.cellsOf 33 = 6 := by kernel_rfl
  have ha2 : aggT Tryz.prog 22 = false := by kernel_rfl
  obtain ⟨l, hl, hm⟩ := map_told (f := wrapC true) (g := fun s : { s : Stp // s.fit } => encS s.1) (fun c hc => step_fit (hx c hc))
  refine ⟨l.map (·.1), n, by simp; omega, ?_, ?_⟩
  · intro x hx
    obtain ⟨y, _, rfl⟩ := List.mem_map.1 hx
    exact y.2
  · have hm2 : l.map (fun s : { s : Stp // s.fit } => encS s.1) = (l.map (·.1)).map encS := by rw [List.map_map]; rfl
    rw [ha, hc, ha2, hm, hm2]
    rfl
end Go.Proofs.YtiikjcdjgmlcgaaGreatDoor.HBT
