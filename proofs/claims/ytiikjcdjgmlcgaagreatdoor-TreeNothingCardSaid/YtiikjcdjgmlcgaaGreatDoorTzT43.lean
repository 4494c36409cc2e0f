/- Loading: may, Load. -/
import Derived.Test.YtiikjcdjgmlcgaaGreatDoorTzT10
set_option linter.unusedVariables false
set_option linter.unusedSimpArgs false
namespace Go.Proofs.YtiikjcdjgmlcgaaGreatDoor.HBT
open Go Go.Proofs.YtiikjcdjgmlcgaaGreatDoor.HB Go.RowKit
set_option maxRecDepth 8000

set_option maxHeartbeats 2000000 in
theorem may_spec (x : Fu) : FnSpec C 44 [encX x] [] (fun r L' => r = .bool (decide (mayP x)) ∧ L' = []) := by
  have hno : ¬ mayP x → FinOk (.bool false) [] (.bool (decide (mayP x))) [] := fun h => by rw [decide_eq_false h]; exact FinOk.drop _ _
  refine FnSpec.start C_ok Tryz.func44 rfl rfl Tryz.ntmps44 ?_
  repeat(first|refine Sc ?_|refine fun(_:Nat)=>?_)
  rename_i g1 gs
  refine Run.loopW (fun k env L => ∃ j : Nat, k = 4 - j ∧ j ≤ 4 ∧ (∀ i < j, ∀ y, [x.v, x.m, x.c, x.o][i]? = some y → 0 ≤ y ∧ y ≤ 2147483647) ∧ env = [.junk, .ptr 0 g1 0, .junk, .junk, .junk, .junk, .junk, .junk, .junk, .junk, .junk, .junk, .junk, .sl 1 gs 4 4, .int .i64 4, .int .i64 j, .junk, .junk, .junk, .junk, .junk, .junk, .junk, .junk, .junk, .junk, .junk, .junk, .junk, .junk, .junk, .junk, .junk, .junk, .junk, .junk, .junk, .junk, .junk, .junk, .junk, .junk, .junk, .junk, .junk, .junk, .junk, .junk, .junk, .junk] ∧ L = [(g1, .cells tX [.str x.p, .str x.d, .int .i64 x.v, .int .i64 x.m, .int .i64 x.c, .int .i64 x.o, .int .i64 x.k]), (gs, .row 3 1 4 ([x.v, x.m, x.c, x.o].map (AV.int .i64)))]) 4
    [.junk, .ptr 0 g1 0, .junk, .junk, .junk, .junk, .junk, .junk, .junk, .junk, .junk, .junk, .junk, .sl 1 gs 4 4, .int .i64 4, .int .i64 (0 : Nat), .junk, .junk, .junk, .junk, .junk, .junk, .junk, .junk, .junk, .junk, .junk, .junk, .junk, .junk, .junk, .junk, .junk, .junk, .junk, .junk, .junk, .junk, .junk, .junk, .junk, .junk, .junk, .junk, .junk, .junk, .junk, .junk, .junk, .junk] [(g1, .cells tX [.str x.p, .str x.d, .int .i64 x.v, .int .i64 x.m, .int .i64 x.c, .int .i64 x.o, .int .i64 x.k]), (gs, .row 3 1 4 ([x.v, x.m, x.c, x.o].map (AV.int .i64)))] (Weak.sel ?_ [0, 1] (by decide) ?_) ⟨0, by omega, by omega, fun i hi => absurd hi (Nat.not_lt_zero i), rfl, rfl⟩ ?_
  · exact Ss
  · exact Sl
  rintro k env L ⟨j, rfl, hj, hall, rfl, rfl⟩
  repeat(first|refine Sc ?_|refine fun(_:Nat)=>?_)
  refine ⟨fun h => ?_, fun h => ?_⟩
  · have h : (j : Int) < 4 := h
    obtain ⟨y, ey⟩ : ∃ y, [x.v, x.m, x.c, x.o][j]? = some y := ⟨_, List.getElem?_eq_getElem (by show j < 4; omega)⟩
    have hbad : ¬ (0 ≤ y ∧ y ≤ 2147483647) → ¬ mayP x := fun hn hm => by
      obtain ⟨m1, m2, m3, m4, _⟩ := hm
      match j, ey with
      | 0, ey => cases ey; exact hn m1
      | 1, ey => cases ey; exact hn m2
      | 2, ey => cases ey; exact hn m3
      | 3, ey => cases ey; exact hn m4
    repeat(first|refine Sc ?_|refine fun(_:Nat)=>?_)
    refine ⟨h, ?_⟩
    repeat(first|refine Sc ?_|refine fun(_:Nat)=>?_)
    refine ⟨.int .i64 y, map_at (AV.int .i64) ey, ?_⟩
    repeat(first|refine Sc ?_|refine fun(_:Nat)=>?_)
    refine ⟨fun h2 => ?_, fun h2 => ?_⟩
    · have h2 : y < 0 := h2
      repeat(first|refine Sc ?_|refine fun(_:Nat)=>?_)
      exact ⟨_, [], FinOk.drop _ _, congrArg AV.bool (decide_eq_false (hbad (by omega))).symm, rfl⟩
    have h2 : ¬ y < 0 := h2
    repeat(first|refine Sc ?_|refine fun(_:Nat)=>?_)
    refine ⟨fun h3 => ?_, fun h3 => ?_⟩
    · have h3 : 2147483647 < y := h3
      repeat(first|refine Sc ?_|refine fun(_:Nat)=>?_)
      exact ⟨_, [], FinOk.drop _ _, congrArg AV.bool (decide_eq_false (hbad (by omega))).symm, rfl⟩
    have h3 : ¬ 2147483647 < y := h3
    repeat(first|refine Sc ?_|refine fun(_:Nat)=>?_)
    refine fun r hr => ?_
    obtain rfl := add1 hr (by omega)
    repeat(first|refine Sc ?_|refine fun(_:Nat)=>?_)
    refine Cont.lpW ?_
    refine ⟨4 - (j + 1), _, _, by omega, Weak.sel ?_ [0, 1] (by decide) ?_, ⟨j + 1, rfl, by omega, fun i hi z hz => ?_, rfl, rfl⟩⟩
    · exact Ss
    · exact Sl
    · by_cases e : i = j
      · subst e; rw [ey] at hz; cases hz; omega
      · exact hall i (by omega) z hz
  · have h : ¬ (j : Int) < 4 := h
    have m1 := hall 0 (by omega) x.v rfl
    have m2 := hall 1 (by omega) x.m rfl
    have m3 := hall 2 (by omega) x.c rfl
    have m4 := hall 3 (by omega) x.o rfl
    repeat(first|refine Sc ?_|refine fun(_:Nat)=>?_)
    refine ⟨fun h1 => ?_, fun h1 => ?_⟩
    rotate_left
    · have h1 : ¬ (x.d.size : Int) ≤ 64 := h1
      repeat(first|refine Sc ?_|refine fun(_:Nat)=>?_)
      exact ⟨_, [], FinOk.drop _ _, congrArg AV.bool (decide_eq_false fun e : mayP x => h1 (by have := e.2.2.2.2.1; omega)).symm, rfl⟩
    have h1 : (x.d.size : Int) ≤ 64 := h1
    repeat(first|refine Sc ?_|refine fun(_:Nat)=>?_)
    refine ⟨fun h2 => ?_, fun h2 => ?_⟩
    rotate_left
    · have h2 : ¬ x.k ≥ 0 := h2
      repeat(first|refine Sc ?_|refine fun(_:Nat)=>?_)
      exact ⟨_, [], FinOk.drop _ _, congrArg AV.bool (decide_eq_false fun e : mayP x => h2 e.2.2.2.2.2.1).symm, rfl⟩
    have h2 : x.k ≥ 0 := h2
    repeat(first|refine Sc ?_|refine fun(_:Nat)=>?_)
    refine ⟨fun h3 => ?_, fun h3 => ?_⟩
    rotate_left
    · have h3 : ¬ x.k ≤ 100000 := h3
      repeat(first|refine Sc ?_|refine fun(_:Nat)=>?_)
      exact ⟨_, [], FinOk.drop _ _, congrArg AV.bool (decide_eq_false fun e : mayP x => h3 e.2.2.2.2.2.2.1).symm, rfl⟩
    have h3 : x.k ≤ 100000 := h3
    repeat(first|refine Sc ?_|refine fun(_:Nat)=>?_)
    refine ⟨fun h4 => ?_, fun h4 => ?_⟩
    · have h4 : x.o = 0 := h4
      repeat(first|refine Sc ?_|refine fun(_:Nat)=>?_)
      exact ⟨_, [], FinOk.drop _ _, congrArg AV.bool (decide_eq_true (show mayP x from ⟨m1, m2, m3, m4, by omega, h2, h3, .inl h4⟩)).symm, rfl⟩
    have h4 : ¬ x.o = 0 := h4
    repeat(first|refine Sc ?_|refine fun(_:Nat)=>?_)
    refine ⟨fun h5 => ?_, fun h5 => ?_⟩
    · have h5 : x.k = 0 := h5
      repeat(first|refine Sc ?_|refine fun(_:Nat)=>?_)
      exact ⟨_, [], FinOk.drop _ _, congrArg AV.bool (decide_eq_true (show mayP x from ⟨m1, m2, m3, m4, by omega, h2, h3, .inr h5⟩)).symm, rfl⟩
    · have h5 : ¬ x.k = 0 := h5
      repeat(first|refine Sc ?_|refine fun(_:Nat)=>?_)
      exact ⟨_, [], FinOk.drop _ _, congrArg AV.bool (decide_eq_false fun e : mayP x => e.2.2.2.2.2.2.2.elim h4 h5).symm, rfl⟩

open Classical in
theorem loadB_bad {done l : List Fu} {x : Fu} (h : ¬ (standsP done x ∧ mayP x)) : loadB done (x :: l) = false := by
  unfold loadB
  rw [decide_eq_false h]; rfl
open Classical in
theorem loadB_good {done l : List Fu} {x : Fu} (h : standsP done x ∧ mayP x) : loadB done (x :: l) = loadB (done ++ [x]) l := by
  conv => lhs; unfold loadB
  rw [decide_eq_true h]; rfl
def LoadQ (l : List Fu) : AV → AHeap → Prop := fun r L' =>
  (loadE l = 0 ∧ TInv l ∧ ∃ gt gm es cl, TM l es cl ∧ r = .tuple [.ptr 0 gt 0, .int .i64 0] ∧ L' = TreeL gt gm es cl) ∨ (loadE l ≠ 0 ∧ r = .tuple [.nilp, .int .i64 (loadE l)] ∧ L' = [])
set_option maxHeartbeats 2000000 in
theorem load_spec (all : List Fu) (n : Nat) (hn : n ≤ all.length) : FnSpec C 16 [.ro 7 (all.map encX) n] [] (LoadQ (all.take n)) := by
  have hlen : (all.take n).length = n := by rw [List.length_take]; omega
  have bad : ∀ e, loadE (all.take n) = e → e ≠ 0 → LoadQ (all.take n) (.tuple [.nilp, .int .i64 e]) [] := fun e h h0 => by subst h; exact .inr ⟨h0, rfl, rfl⟩
  refine FnSpec.start C_ok Tryz.func16 rfl rfl Tryz.ntmps16 ?_
  repeat(first|refine Sc ?_|refine fun(_:Nat)=>?_)
  refine ⟨fun h => ?_, fun h => ?_⟩
  · have h : (64 : Int) < (n : Int) := h
    repeat(first|refine Sc ?_|refine fun(_:Nat)=>?_)
    exact ⟨_, [], FinOk.drop _ _, bad 2 (by unfold loadE; rw [if_pos (by omega)]) (by decide)⟩
  have h64 : ¬ (64 : Int) < (n : Int) := h
  repeat(first|refine Sc ?_|refine fun(_:Nat)=>?_)
  refine ⟨fun h => ?_, fun h => ?_⟩
  · have h : (n : Int) = 0 := h
    repeat(first|refine Sc ?_|refine fun(_:Nat)=>?_)
    exact ⟨_, [], FinOk.drop _ _, bad 1 (by unfold loadE; rw [if_neg (by omega), if_pos (List.eq_nil_of_length_eq_zero (by omega))]) (by decide)⟩
  have h0 : ¬ (n : Int) = 0 := h
  have hne : all.take n ≠ [] := fun e => by rw [e] at hlen; simp at hlen; omega
  have no : loadB [] (all.take n) = false → LoadQ (all.take n) (.tuple [.nilp, .int .i64 1]) [] := fun hb => bad 1 (by unfold loadE; rw [if_neg (by omega), if_neg hne, hb]; rfl) (by decide)
  obtain ⟨x0, e0⟩ : ∃ x, all[0]? = some x := ⟨_, List.getElem?_eq_getElem (by omega)⟩
  have et : all.take n = x0 :: (all.take n).drop 1 := by
    have e : (all.take n)[0]? = some x0 := by rw [List.getElem?_take_of_lt (by omega)]; exact e0
    have := drop_at e
    rwa [List.drop_zero] at this
  repeat(first|refine Sc ?_|refine fun(_:Nat)=>?_)
  refine ⟨by omega, encX x0, map_at encX e0, ?_⟩
  repeat(first|refine Sc ?_|refine fun(_:Nat)=>?_)
  refine ⟨fun h1 => ?_, fun h1 => ?_⟩
  · have h1 : ¬ x0.p = slash := h1
    repeat(first|refine Sc ?_|refine fun(_:Nat)=>?_)
    exact ⟨_, [], FinOk.drop _ _, no (by rw [et, loadB_bad]; rintro ⟨(⟨_, e, _⟩ | ⟨y, e, _⟩), _⟩; exact h1 e; cases e)⟩
  have h1 : x0.p = slash := Classical.not_not.1 h1
  repeat(first|refine Sc ?_|refine fun(_:Nat)=>?_)
  refine ⟨by omega, encX x0, map_at encX e0, ?_⟩
  repeat(first|refine Sc ?_|refine fun(_:Nat)=>?_)
  refine ⟨fun h2 => ?_, fun h2 => ?_⟩
  · have h2 : ¬ x0.o = 0 := h2
    repeat(first|refine Sc ?_|refine fun(_:Nat)=>?_)
    exact ⟨_, [], FinOk.drop _ _, no (by rw [et, loadB_bad]; rintro ⟨(⟨_, _, e⟩ | ⟨y, e, _⟩), _⟩; exact h2 e; cases e)⟩
  have h2 : x0.o = 0 := Classical.not_not.1 h2
  repeat(first|refine Sc ?_|refine fun(_:Nat)=>?_)
  rename_i gm gt
  refine Run.loopW (fun k env L => ∃ (i : Nat) (es : Array MapEntry) (cl : Nat), k = n - i ∧ i ≤ n ∧ TM (all.take i) es cl ∧ (all.take i = [] ∨ TInv (all.take i)) ∧ loadB [] (all.take n) = loadB (all.take i) ((all.take n).drop i) ∧ env = [.ro 7 (all.map encX) n, .junk, .junk, .junk, .ptr 1 gt 0, .junk, .junk, .junk, .junk, .junk, .junk, .junk, .junk, .junk, .junk, .junk, .junk, .junk, .junk, .junk, .junk, .junk, .junk, .junk, .junk, .junk, .junk, .junk, .junk, .junk, .junk, .junk, .junk, .junk, .ro 7 (all.map encX) n, .int .i64 n, .int .i64 i, .junk, .junk, .junk, .junk, .junk, .junk, .junk, .junk, .junk, .junk, .junk, .junk, .junk, .junk, .junk, .junk, .junk, .junk, .junk, .junk, .junk, .junk, .junk, .junk, .junk, .junk, .junk, .junk, .junk, .junk, .junk, .junk, .junk, .junk, .junk, .junk, .junk, .junk, .junk, .junk, .junk, .junk, .junk, .junk, .junk, .junk, .junk, .junk, .junk, .junk, .junk, .junk, .junk, .junk, .junk, .junk] ∧ L = [(gm, .obj (.map es cl)), (gt, .cells tT [.any (.map (some gm))])]) n
    [.ro 7 (all.map encX) n, .junk, .junk, .junk, .ptr 1 gt 0, .junk, .junk, .junk, .junk, .junk, .junk, .junk, .junk, .junk, .junk, .junk, .junk, .junk, .junk, .junk, .junk, .junk, .junk, .junk, .junk, .junk, .junk, .junk, .junk, .junk, .junk, .junk, .junk, .junk, .ro 7 (all.map encX) n, .int .i64 n, .int .i64 (0 : Nat), .junk, .junk, .junk, .junk, .junk, .junk, .junk, .junk, .junk, .junk, .junk, .junk, .junk, .junk, .junk, .junk, .junk, .junk, .junk, .junk, .junk, .junk, .junk, .junk, .junk, .junk, .junk, .junk, .junk, .junk, .junk, .junk, .junk, .junk, .junk, .junk, .junk, .junk, .junk, .junk, .junk, .junk, .junk, .junk, .junk, .junk, .junk, .junk, .junk, .junk, .junk, .junk, .junk, .junk, .junk, .junk] [(gm, .obj (.map #[] 0)), (gt, .cells tT [.any (.map (some gm))])] (Weak.sel ?_ [0, 1] (by decide) ?_) ⟨0, #[], 0, by omega, by omega, ⟨[], .refl _, MapOk.nil⟩, .inl rfl, rfl, rfl, rfl⟩ ?_
  · exact Ss
  · exact Sl
  rintro k env L ⟨i, es, cl, rfl, hi, hT, hI, hB, rfl, rfl⟩
  repeat(first|refine Sc ?_|refine fun(_:Nat)=>?_)
  refine ⟨fun h => ?_, fun h => ?_⟩
  · have h : (i : Int) < (n : Int) := h
    obtain ⟨x, ex⟩ : ∃ x, all[i]? = some x := ⟨_, List.getElem?_eq_getElem (by omega)⟩
    have exn : (all.take n)[i]? = some x := by rw [List.getElem?_take_of_lt (by omega)]; exact ex
    have e1 : all.take (i + 1) = all.take i ++ [x] := by
      obtain ⟨h1, e1⟩ := List.getElem?_eq_some_iff.1 ex
      rw [List.take_succ_eq_append_getElem h1, e1]
    have hlt : (all.take i).length = i := by rw [List.length_take]; omega
    rw [drop_at exn] at hB
    have bad1 : ¬ (standsP (all.take i) x ∧ mayP x) → LoadQ (all.take n) (.tuple [.nilp, .int .i64 1]) [] := fun hn => no (by rw [hB, loadB_bad hn])
    repeat(first|refine Sc ?_|refine fun(_:Nat)=>?_)
    refine ⟨h, encX x, map_at encX ex, ?_⟩
    repeat(first|refine Sc ?_|refine fun(_:Nat)=>?_)
    refine ACallT.ok (ACall.ret (parent_spec x.p) ?_)
    repeat(first|refine Sc ?_|refine fun(_:Nat)=>?_)
    refine ⟨fun hp => ?_, fun hp => ?_⟩
    · have hp : 0 < (i : Int) := hp
      have hI : TInv (all.take i) := hI.resolve_left fun e => by rw [e] at hlt; simp at hlt; omega
      obtain ⟨y, ey⟩ : ∃ y, (all.take i).getLast? = some y := ⟨_, List.getLast?_eq_some_getLast fun e => by rw [e] at hlt; simp at hlt; omega⟩
      have eyi : all[i - 1]? = some y := by
        rw [List.getLast?_eq_getElem?, hlt, List.getElem?_take_of_lt (by omega)] at ey
        exact ey
      have nost : (¬ (parentE x.p = 0 ∧ orderB y.p x.p < 0 ∧ ∃ a ∈ all.take i, a.p = parentB x.p ∧ a.o = 0)) → LoadQ (all.take n) (.tuple [.nilp, .int .i64 1]) [] := fun hn => bad1 fun e => by
        rcases e.1 with ⟨e0, _⟩ | ⟨z, ez, e2⟩
        · rw [e0] at ey; cases ey
        · rw [ey] at ez; cases ez; exact hn e2
      have hys : y.p.size ≤ 9223372036854775807 := Nat.le_trans (place_size (hI.ok y (List.mem_of_getLast? ey)).1) (by decide)
      repeat(first|refine Sc ?_|refine fun(_:Nat)=>?_)
      cases hfa : findF (all.take i) (parentB x.p) with
      | none =>
        have hnost := nost fun e => by obtain ⟨_, _, a, ha, ea, _⟩ := e; exact findF_none hfa a ha ea
        refine ⟨0, es, cl, none, trivial, rfl, hT.miss (findF_none hfa), ?_⟩
        repeat(first|refine Sc ?_|refine fun(_:Nat)=>?_)
        by_cases hpe : parentE x.p = 0
        · refine Run.drawnK C_ok (aopC_sound C_ok) [2, 3] [0, 1, 2, 3, 4, 5, 6, 7, 8, 9, 10, 11, 12, 13, 14, 15, 16, 17, 18, 19, 20, 21, 22] (by kernel_rfl) ?_
          repeat(first|refine Sc ?_|refine fun(_:Nat)=>?_)
          refine ⟨fun h => absurd hpe h, fun _ => ?_⟩
          repeat(first|refine Sc ?_|refine fun(_:Nat)=>?_)
          exact ⟨_, [], FinOk.drop _ _, hnost⟩
        · refine Run.drawnK C_ok (aopC_sound C_ok) [2, 3] [0, 1, 2, 3, 4, 5, 6, 7, 8, 9, 10, 11, 12, 13, 14, 15, 16, 17, 18, 19, 20, 21, 22] (by kernel_rfl) ?_
          repeat(first|refine Sc ?_|refine fun(_:Nat)=>?_)
          refine ⟨fun _ => ?_, fun h => absurd hpe h⟩
          repeat(first|refine Sc ?_|refine fun(_:Nat)=>?_)
          exact ⟨_, [], FinOk.drop _ _, nost fun e => hpe e.1⟩
      | some a =>
        obtain ⟨ham, hap⟩ := findF_some hfa
        obtain ⟨ai, g1, g2, g3, g4⟩ := hT.hit2 hI.sorted ham
        rw [hap] at g1
        refine ⟨0, es, cl, some (ai, valX a), trivial, rfl, g1, encX a, rfl, ?_⟩
        repeat(first|refine Sc ?_|refine fun(_:Nat)=>?_)
        by_cases hpe : parentE x.p = 0
        · refine Run.drawnK C_ok (aopC_sound C_ok) [2, 3] [0, 1, 2, 3, 4, 5, 6, 7, 8, 9, 10, 11, 12, 13, 14, 15, 16, 17, 18, 19, 20, 21, 22] (by kernel_rfl) ?_
          repeat(first|refine Sc ?_|refine fun(_:Nat)=>?_)
          refine ⟨fun h => absurd hpe h, fun _ => ?_⟩
          repeat(first|refine Sc ?_|refine fun(_:Nat)=>?_)
          refine ⟨fun ho => ?_, fun ho => ?_⟩
          · have ho : a.o ≠ 0 := ho
            repeat(first|refine Sc ?_|refine fun(_:Nat)=>?_)
            exact ⟨_, [], FinOk.drop _ _, nost fun e => by obtain ⟨_, _, b, hb, eb, e0⟩ := e; rw [mem_uniq hI.sorted.nodup hb ham (by rw [eb, hap])] at e0; exact ho e0⟩
          have ho : ¬ a.o ≠ 0 := ho
          repeat(first|refine Sc ?_|refine fun(_:Nat)=>?_)
          refine fun r hr => ?_
          obtain rfl : r = ((i - 1 : Nat) : Int) := by rw [hr, IntKind.wrap_i64]; omega
          repeat(first|refine Sc ?_|refine fun(_:Nat)=>?_)
          refine ⟨by omega, encX y, map_at encX eyi, ?_⟩
          repeat(first|refine Sc ?_|refine fun(_:Nat)=>?_)
          refine ACallT.ok (ACall.ret (order_spec y.p x.p hys) ?_)
          repeat(first|refine Sc ?_|refine fun(_:Nat)=>?_)
          refine ⟨fun hge => ?_, fun hge => ?_⟩
          · have hge : orderB y.p x.p ≥ 0 := hge
            repeat(first|refine Sc ?_|refine fun(_:Nat)=>?_)
            exact ⟨_, [], FinOk.drop _ _, nost fun e => by have := e.2.1; omega⟩
          have hge : ¬ orderB y.p x.p ≥ 0 := hge
          have hst : standsP (all.take i) x := .inr ⟨y, ey, hpe, by omega, a, ham, hap, Classical.not_not.1 ho⟩
          have hfar : ∀ z ∈ all.take i, z.p ≠ x.p := fun z hz e => by
            obtain ⟨ys, eys⟩ := List.getLast?_eq_some_iff.1 ey
            rw [eys] at hz
            have hs := hI.sorted
            rw [eys] at hs
            have hzy : z = y ∨ orderB z.p y.p < 0 := by
              rcases List.mem_append.1 hz with hz | hz
              · exact .inr ((List.pairwise_append.1 hs).2.2 z hz y (by simp))
              · simp only [List.mem_singleton] at hz; exact .inl hz
            rcases hzy with rfl | hzy
            · rw [e] at hge; exact hge (by have : orderB x.p x.p = 0 := orderB_eq.2 rfl; omega)
            · have := orderB_trans hzy (by omega : orderB y.p x.p < 0)
              rw [e] at this; exact orderB_irrefl _ this
          repeat(first|refine Sc ?_|refine fun(_:Nat)=>?_)
          refine ACallT.ok (ACall.ret (may_spec x) ?_)
          by_cases hm : mayP x
          · rw [decide_eq_true hm]
            repeat(first|refine Sc ?_|refine fun(_:Nat)=>?_)
            refine Run.drawnA C_ok (aopC_sound C_ok) [1, 2] [7] [0, 1, 2, 4, 3, 5, 6] (by kernel_rfl) (by kernel_rfl) ?_
            repeat(first|refine Sc ?_|refine fun(_:Nat)=>?_)
            refine ⟨0, es, cl, none, rfl, hT.miss hfar, ?_⟩
            repeat(first|refine Sc ?_|refine fun(_:Nat)=>?_)
            refine fun r hr => ?_
            obtain rfl := add1 hr (by omega)
            repeat(first|refine Sc ?_|refine fun(_:Nat)=>?_)
            refine Cont.lpW ?_
            refine ⟨n - (i + 1), _, _, by omega, Weak.sel ?_ [0, 1] (by decide) ?_, ⟨i + 1, _, cl + 1, rfl, by omega, by rw [e1]; exact hT.push hfar List.perm_append_comm, .inr (by rw [e1]; exact stands_inv (.inr hI) (by omega) hst hm), by rw [hB, loadB_good ⟨hst, hm⟩, e1], rfl, rfl⟩⟩
            · exact Ss
            · exact Sl
          · rw [decide_eq_false hm]
            repeat(first|refine Sc ?_|refine fun(_:Nat)=>?_)
            exact ⟨_, [], FinOk.drop _ _, bad1 fun e => hm e.2⟩
        · refine Run.drawnK C_ok (aopC_sound C_ok) [2, 3] [0, 1, 2, 3, 4, 5, 6, 7, 8, 9, 10, 11, 12, 13, 14, 15, 16, 17, 18, 19, 20, 21, 22] (by kernel_rfl) ?_
          repeat(first|refine Sc ?_|refine fun(_:Nat)=>?_)
          refine ⟨fun _ => ?_, fun h => absurd hpe h⟩
          repeat(first|refine Sc ?_|refine fun(_:Nat)=>?_)
          exact ⟨_, [], FinOk.drop _ _, nost fun e => hpe e.1⟩
    · have hp : ¬ 0 < (i : Int) := hp
      have hi0 : i = 0 := by omega
      subst hi0
      obtain rfl : x0 = x := Option.some.inj (e0.symm.trans ex)
      have hst : standsP (all.take 0) x0 := .inl ⟨rfl, h1, h2⟩
      repeat(first|refine Sc ?_|refine fun(_:Nat)=>?_)
      refine ACallT.ok (ACall.ret (may_spec x0) ?_)
      by_cases hm : mayP x0
      · rw [decide_eq_true hm]
        have hfar : ∀ y ∈ all.take 0, y.p ≠ x0.p := fun y hy => by cases hy
        repeat(first|refine Sc ?_|refine fun(_:Nat)=>?_)
        refine Run.drawnA C_ok (aopC_sound C_ok) [1, 2] [7] [0, 1, 2, 4, 3, 5, 6] (by kernel_rfl) (by kernel_rfl) ?_
        repeat(first|refine Sc ?_|refine fun(_:Nat)=>?_)
        refine ⟨0, es, cl, none, rfl, hT.miss hfar, ?_⟩
        repeat(first|refine Sc ?_|refine fun(_:Nat)=>?_)
        refine fun r hr => ?_
        obtain rfl := add1 hr (by omega)
        repeat(first|refine Sc ?_|refine fun(_:Nat)=>?_)
        refine Cont.lpW ?_
        refine ⟨n - (0 + 1), _, _, by omega, Weak.sel ?_ [0, 1] (by decide) ?_, ⟨0 + 1, _, cl + 1, rfl, by omega, by rw [e1]; exact hT.push hfar List.perm_append_comm, .inr (by rw [e1]; exact stands_inv hI (by omega) hst hm), by rw [hB, loadB_good ⟨hst, hm⟩, e1], rfl, rfl⟩⟩
        · exact Ss
        · exact Sl
      · rw [decide_eq_false hm]
        repeat(first|refine Sc ?_|refine fun(_:Nat)=>?_)
        exact ⟨_, [], FinOk.drop _ _, bad1 fun e => hm e.2⟩
  · have h : ¬ (i : Int) < (n : Int) := h
    have ei : i = n := by omega
    subst ei
    rw [List.drop_of_length_le (by omega)] at hB
    have hB : loadB [] (all.take i) = true := hB
    have hI : TInv (all.take i) := hI.resolve_left hne
    repeat(first|refine Sc ?_|refine fun(_:Nat)=>?_)
    exact ⟨.tuple [.ptr 0 gt 0, .int .i64 0], TreeL gt gm es cl, FinOk.keep _ [1, 0] (Sub.tuples ⟨Sub.ptr _ _ _ _, Sub.refl _, trivial⟩) (by decide) rfl, .inl ⟨hI.loadE, hI, gt, gm, es, cl, hT, rfl, rfl⟩⟩
end Go.Proofs.YtiikjcdjgmlcgaaGreatDoor.HBT
