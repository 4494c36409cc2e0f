/- The document's in, fits, Load, New. -/
import Derived.Test.YtiikjcdjgmlcgaaGreatDoorTzU7
import Derived.Test.YtiikjcdjgmlcgaaGreatDoorTzT43
set_option linter.unusedVariables false
set_option linter.unusedSimpArgs false
namespace Go.Proofs.YtiikjcdjgmlcgaaGreatDoor.HBT
open Go Go.Proofs.YtiikjcdjgmlcgaaGreatDoor.HB Go.RowKit
set_option maxRecDepth 8000

theorem refIn_spec (v m : Int) : FnSpec C 84 [.int .i64 v, .int .i64 m] [] (fun r L' => r = .bool (decide (0 ≤ v ∧ v ≤ m)) ∧ L' = []) := by
  refine FnSpec.start C_ok Tryz.func84 rfl rfl Tryz.ntmps84 ?_
  repeat(first|refine Sc ?_|refine fun(_:Nat)=>?_)
  refine ⟨fun h => ?_, fun h => ?_⟩
  · have h : v ≥ 0 := h
    repeat(first|refine Sc ?_|refine fun(_:Nat)=>?_)
    refine ⟨fun h2 => ?_, fun h2 => ?_⟩
    · have h2 : v ≤ m := h2
      repeat(first|refine Sc ?_|refine fun(_:Nat)=>?_)
      exact ⟨_, [], FinOk.drop _ _, congrArg AV.bool (decide_eq_true (show 0 ≤ v ∧ v ≤ m from ⟨h, h2⟩)).symm, rfl⟩
    · have h2 : ¬ v ≤ m := h2
      repeat(first|refine Sc ?_|refine fun(_:Nat)=>?_)
      exact ⟨_, [], FinOk.drop _ _, congrArg AV.bool (decide_eq_false (show ¬ (0 ≤ v ∧ v ≤ m) from fun e => h2 e.2)).symm, rfl⟩
  · have h : ¬ v ≥ 0 := h
    repeat(first|refine Sc ?_|refine fun(_:Nat)=>?_)
    exact ⟨_, [], FinOk.drop _ _, congrArg AV.bool (decide_eq_false (show ¬ (0 ≤ v ∧ v ≤ m) from fun e => h e.1)).symm, rfl⟩
theorem refNew_spec : FnSpec C 41 [] [] (fun r L' => r = .agg [rdX [rootF]] ∧ L' = []) := by
  refine FnSpec.start C_ok Tryz.func41 rfl rfl Tryz.ntmps41 ?_
  repeat(first|refine Sc ?_|refine fun(_:Nat)=>?_)
  rename_i g0 g2
  exact ⟨.agg [rdX [rootF]], [], FinOk.lend (Lend.aggs ⟨.row 1 g2 1 1 tY 7 _ rfl (Nat.le_refl _), trivial⟩), rfl, rfl⟩
open Classical in
set_option maxHeartbeats 2000000 in
theorem refFits_spec (done : List Fu) (x : Fu) (hI : done = [] ∨ TInv done) : FnSpec C 61 [rdX done, encX x] [] (fun r L' => r = .bool (decide (standsP done x ∧ mayP x)) ∧ L' = []) := by
  have no : ¬ (standsP done x ∧ mayP x) → AV.bool false = AV.bool (decide (standsP done x ∧ mayP x)) := fun h => congrArg AV.bool (decide_eq_false h).symm
  have yes : (standsP done x ∧ mayP x) → AV.bool true = AV.bool (decide (standsP done x ∧ mayP x)) := fun h => congrArg AV.bool (decide_eq_true h).symm
  have hdl : done.length ≤ 64 := by rcases hI with rfl | hI; exact Nat.zero_le _; exact hI.len
  refine FnSpec.start C_ok Tryz.func61 rfl rfl Tryz.ntmps61 ?_
  repeat(first|refine Sc ?_|refine fun(_:Nat)=>?_)
  rename_i g3
  refine ACallT.ok (ACall.ret (refIs_spec x.p) ?_)
  by_cases hp : parseE x.p = 0
  rotate_left
  · rw [decide_eq_false hp]
    repeat(first|refine Sc ?_|refine fun(_:Nat)=>?_)
    exact ⟨_, [], FinOk.drop _ _, no (by
      rintro ⟨(⟨_, e, _⟩ | ⟨_, _, e, _⟩), _⟩
      · exact hp (e ▸ parse_slash)
      · exact hp (parentE_zero e).1), rfl⟩
  rw [decide_eq_true hp]
  repeat(first|refine Sc ?_|refine fun(_:Nat)=>?_)
  refine ⟨fun hd => ?_, fun hd => ?_⟩
  · have hd : (x.d.size : Int) > 64 := hd
    repeat(first|refine Sc ?_|refine fun(_:Nat)=>?_)
    exact ⟨_, [], FinOk.drop _ _, no (fun e => by have := e.2.2.2.2.2.1; omega), rfl⟩
  have hd : ¬ (x.d.size : Int) > 64 := hd
  repeat(first|refine Sc ?_|refine fun(_:Nat)=>?_)
  refine ACallT.ok (ACall.ret (refIn_spec x.v 2147483647) ?_)
  by_cases hv : 0 ≤ x.v ∧ x.v ≤ 2147483647
  rotate_left
  · rw [decide_eq_false hv]
    repeat(first|refine Sc ?_|refine fun(_:Nat)=>?_)
    exact ⟨_, [], FinOk.drop _ _, no (fun e => by obtain ⟨_, m1, m2, m3, m4, m5, m6, m7, m8⟩ := e; exact hv m1), rfl⟩
  rw [decide_eq_true hv]
  repeat(first|refine Sc ?_|refine fun(_:Nat)=>?_)
  refine ACallT.ok (ACall.ret (refIn_spec x.m 2147483647) ?_)
  by_cases hm : 0 ≤ x.m ∧ x.m ≤ 2147483647
  rotate_left
  · rw [decide_eq_false hm]
    repeat(first|refine Sc ?_|refine fun(_:Nat)=>?_)
    exact ⟨_, [], FinOk.drop _ _, no (fun e => by obtain ⟨_, m1, m2, m3, m4, m5, m6, m7, m8⟩ := e; exact hm m2), rfl⟩
  rw [decide_eq_true hm]
  repeat(first|refine Sc ?_|refine fun(_:Nat)=>?_)
  refine ACallT.ok (ACall.ret (refIn_spec x.c 2147483647) ?_)
  by_cases hc : 0 ≤ x.c ∧ x.c ≤ 2147483647
  rotate_left
  · rw [decide_eq_false hc]
    repeat(first|refine Sc ?_|refine fun(_:Nat)=>?_)
    exact ⟨_, [], FinOk.drop _ _, no (fun e => by obtain ⟨_, m1, m2, m3, m4, m5, m6, m7, m8⟩ := e; exact hc m3), rfl⟩
  rw [decide_eq_true hc]
  repeat(first|refine Sc ?_|refine fun(_:Nat)=>?_)
  refine ACallT.ok (ACall.ret (refIn_spec x.o 2147483647) ?_)
  by_cases ho : 0 ≤ x.o ∧ x.o ≤ 2147483647
  rotate_left
  · rw [decide_eq_false ho]
    repeat(first|refine Sc ?_|refine fun(_:Nat)=>?_)
    exact ⟨_, [], FinOk.drop _ _, no (fun e => by obtain ⟨_, m1, m2, m3, m4, m5, m6, m7, m8⟩ := e; exact ho m4), rfl⟩
  rw [decide_eq_true ho]
  repeat(first|refine Sc ?_|refine fun(_:Nat)=>?_)
  refine ACallT.ok (ACall.ret (refIn_spec x.k 100000) ?_)
  by_cases hk : 0 ≤ x.k ∧ x.k ≤ 100000
  rotate_left
  · rw [decide_eq_false hk]
    repeat(first|refine Sc ?_|refine fun(_:Nat)=>?_)
    exact ⟨_, [], FinOk.drop _ _, no (fun e => by obtain ⟨_, m1, m2, m3, m4, m5, m6, m7, m8⟩ := e; exact hk ⟨m6, m7⟩), rfl⟩
  rw [decide_eq_true hk]
  repeat(first|refine Sc ?_|refine fun(_:Nat)=>?_)
  refine ⟨fun ho2 => ?_, fun ho2 => ?_⟩
  · have ho2 : x.o > 0 := ho2
    repeat(first|refine Sc ?_|refine fun(_:Nat)=>?_)
    refine ⟨fun hk2 => ?_, fun hk2 => ?_⟩
    · have hk2 : x.k > 0 := hk2
      repeat(first|refine Sc ?_|refine fun(_:Nat)=>?_)
      exact ⟨_, [], FinOk.drop _ _, no (fun e => by obtain ⟨_, m1, m2, m3, m4, m5, m6, m7, m8⟩ := e; rcases m8 with m8 | m8 <;> omega), rfl⟩
    have hk2 : ¬ x.k > 0 := hk2
    have hmay : mayP x := ⟨hv, hm, hc, ho, by omega, hk.1, hk.2, .inr (by omega)⟩
    repeat(first|refine Sc ?_|refine fun(_:Nat)=>?_)
    refine ⟨fun h0 => ?_, fun h0 => ?_⟩
    · have h0 : (done.length : Int) = 0 := h0
      obtain rfl : done = [] := List.eq_nil_of_length_eq_zero (by omega)
      repeat(first|refine Sc ?_|refine fun(_:Nat)=>?_)
      refine ⟨fun hs => ?_, fun hs => ?_⟩
      · have hs : x.p = slash := hs
        repeat(first|refine Sc ?_|refine fun(_:Nat)=>?_)
        refine ⟨fun hx => ?_, fun hx => ?_⟩
        · have hx : x.o = 0 := hx
          repeat(first|refine Sc ?_|refine fun(_:Nat)=>?_)
          exact ⟨_, [], FinOk.drop _ _, yes ⟨.inl ⟨rfl, hs, hx⟩, hmay⟩, rfl⟩
        · have hx : ¬ x.o = 0 := hx
          repeat(first|refine Sc ?_|refine fun(_:Nat)=>?_)
          exact ⟨_, [], FinOk.drop _ _, no (by rintro ⟨(⟨_, _, e⟩ | ⟨_, e, _⟩), _⟩; exact hx e; cases e), rfl⟩
      · have hs : ¬ x.p = slash := hs
        repeat(first|refine Sc ?_|refine fun(_:Nat)=>?_)
        exact ⟨_, [], FinOk.drop _ _, no (by rintro ⟨(⟨_, e, _⟩ | ⟨_, e, _⟩), _⟩; exact hs e; cases e), rfl⟩
    have h0 : ¬ (done.length : Int) = 0 := h0
    have hI : TInv done := hI.resolve_left fun e => by rw [e] at h0; exact h0 rfl
    obtain ⟨y, ey⟩ : ∃ y, done.getLast? = some y := ⟨_, List.getLast?_eq_some_getLast fun e => by rw [e] at h0; exact h0 rfl⟩
    have eyi : done[done.length - 1]? = some y := by rw [← List.getLast?_eq_getElem?]; exact ey
    have nost : (¬ (parentE x.p = 0 ∧ orderB y.p x.p < 0 ∧ ∃ a ∈ done, a.p = parentB x.p ∧ a.o = 0)) → AV.bool false = AV.bool (decide (standsP done x ∧ mayP x)) := fun hn => no fun e => by
      rcases e.1 with ⟨e0, _⟩ | ⟨z, ez, e2⟩
      · rw [e0] at ey; cases ey
      · rw [ey] at ez; cases ez; exact hn e2
    have hys : y.p.size ≤ 9223372036854775807 := Nat.le_trans (place_size (hI.ok y (List.mem_of_getLast? ey)).1) (by decide)
    repeat(first|refine Sc ?_|refine fun(_:Nat)=>?_)
    refine ACallT.ok (ACall.ret (refParent_spec x.p) ?_)
    repeat(first|refine Sc ?_|refine fun(_:Nat)=>?_)
    refine Run.drawnK C_ok (aopC_sound C_ok) [0] [0, 1, 2, 3, 4, 5, 6, 7, 8, 9, 10] (by kernel_rfl) ?_
    repeat(first|refine Sc ?_|refine fun(_:Nat)=>?_)
    refine fun r hr => ?_
    obtain rfl : r = ((done.length - 1 : Nat) : Int) := by rw [hr, IntKind.wrap_i64]; omega
    repeat(first|refine Sc ?_|refine fun(_:Nat)=>?_)
    refine ⟨by omega, encX y, map_at encX eyi, ?_⟩
    repeat(first|refine Sc ?_|refine fun(_:Nat)=>?_)
    refine ACallT.ok (ACall.ret (refOrder_spec y.p x.p hys) ?_)
    repeat(first|refine Sc ?_|refine fun(_:Nat)=>?_)
    refine ⟨fun hpe => ?_, fun hpe => ?_⟩
    · have hpe : parentE x.p ≠ 0 := hpe
      repeat(first|refine Sc ?_|refine fun(_:Nat)=>?_)
      exact ⟨_, [], FinOk.drop _ _, nost (fun e => hpe e.1), rfl⟩
    have hpe : ¬ parentE x.p ≠ 0 := hpe
    repeat(first|refine Sc ?_|refine fun(_:Nat)=>?_)
    refine ⟨fun hge => ?_, fun hge => ?_⟩
    · have hge : orderB y.p x.p ≥ 0 := hge
      repeat(first|refine Sc ?_|refine fun(_:Nat)=>?_)
      exact ⟨_, [], FinOk.drop _ _, nost (fun e => by have := e.2.1; omega), rfl⟩
    have hge : ¬ orderB y.p x.p ≥ 0 := hge
    repeat(first|refine Sc ?_|refine fun(_:Nat)=>?_)
    refine ACallT.ok (ACall.ret (refFind_spec done (parentB x.p) (by omega)) ?_)
    rcases idxF_cases done (parentB x.p) 0 with ⟨hf, hidx⟩ | ⟨j, a, hf, ej, hidx⟩
    · rw [hidx]
      repeat(first|refine Sc ?_|refine fun(_:Nat)=>?_)
      refine ⟨fun h => absurd h (by decide), fun _ => ?_⟩
      repeat(first|refine Sc ?_|refine fun(_:Nat)=>?_)
      exact ⟨_, [], FinOk.drop _ _, nost (fun e => by obtain ⟨_, _, a, ha, ea, _⟩ := e; exact findF_none hf a ha ea), rfl⟩
    rw [hidx]
    obtain ⟨ham, hap⟩ := findF_some hf
    have hjl : j < done.length := (List.getElem?_eq_some_iff.1 ej).1
    repeat(first|refine Sc ?_|refine fun(_:Nat)=>?_)
    refine ⟨fun _ => ?_, fun h => absurd (show ((0 + j : Nat) : Int) ≥ 0 by omega) h⟩
    repeat(first|refine Sc ?_|refine fun(_:Nat)=>?_)
    refine ⟨show ((0 + j : Nat) : Int) < (done.length : Int) by omega, encX a, map_at encX (show done[(((0 + j : Nat) : Int)).toNat]? = some a by rw [show (((0 + j : Nat) : Int)).toNat = j by omega]; exact ej), ?_⟩
    repeat(first|refine Sc ?_|refine fun(_:Nat)=>?_)
    refine ⟨fun hao => ?_, fun hao => ?_⟩
    · have hao : a.o = 0 := hao
      repeat(first|refine Sc ?_|refine fun(_:Nat)=>?_)
      exact ⟨_, [], FinOk.drop _ _, yes ⟨.inr ⟨y, ey, Classical.not_not.1 hpe, by omega, a, ham, hap, hao⟩, hmay⟩, rfl⟩
    · have hao : ¬ a.o = 0 := hao
      repeat(first|refine Sc ?_|refine fun(_:Nat)=>?_)
      exact ⟨_, [], FinOk.drop _ _, nost (fun e => by obtain ⟨_, _, b, hb, eb, e0⟩ := e; rw [mem_uniq hI.sorted.nodup hb ham (by rw [eb, hap])] at e0; exact hao e0), rfl⟩
  have ho2 : ¬ x.o > 0 := ho2
  have hmay : mayP x := ⟨hv, hm, hc, ho, by omega, hk.1, hk.2, .inl (by omega)⟩
  repeat(first|refine Sc ?_|refine fun(_:Nat)=>?_)
  refine ⟨fun h0 => ?_, fun h0 => ?_⟩
  · have h0 : (done.length : Int) = 0 := h0
    obtain rfl : done = [] := List.eq_nil_of_length_eq_zero (by omega)
    repeat(first|refine Sc ?_|refine fun(_:Nat)=>?_)
    refine ⟨fun hs => ?_, fun hs => ?_⟩
    · have hs : x.p = slash := hs
      repeat(first|refine Sc ?_|refine fun(_:Nat)=>?_)
      refine ⟨fun hx => ?_, fun hx => ?_⟩
      · have hx : x.o = 0 := hx
        repeat(first|refine Sc ?_|refine fun(_:Nat)=>?_)
        exact ⟨_, [], FinOk.drop _ _, yes ⟨.inl ⟨rfl, hs, hx⟩, hmay⟩, rfl⟩
      · have hx : ¬ x.o = 0 := hx
        repeat(first|refine Sc ?_|refine fun(_:Nat)=>?_)
        exact ⟨_, [], FinOk.drop _ _, no (by rintro ⟨(⟨_, _, e⟩ | ⟨_, e, _⟩), _⟩; exact hx e; cases e), rfl⟩
    · have hs : ¬ x.p = slash := hs
      repeat(first|refine Sc ?_|refine fun(_:Nat)=>?_)
      exact ⟨_, [], FinOk.drop _ _, no (by rintro ⟨(⟨_, e, _⟩ | ⟨_, e, _⟩), _⟩; exact hs e; cases e), rfl⟩
  have h0 : ¬ (done.length : Int) = 0 := h0
  have hI : TInv done := hI.resolve_left fun e => by rw [e] at h0; exact h0 rfl
  obtain ⟨y, ey⟩ : ∃ y, done.getLast? = some y := ⟨_, List.getLast?_eq_some_getLast fun e => by rw [e] at h0; exact h0 rfl⟩
  have eyi : done[done.length - 1]? = some y := by rw [← List.getLast?_eq_getElem?]; exact ey
  have nost : (¬ (parentE x.p = 0 ∧ orderB y.p x.p < 0 ∧ ∃ a ∈ done, a.p = parentB x.p ∧ a.o = 0)) → AV.bool false = AV.bool (decide (standsP done x ∧ mayP x)) := fun hn => no fun e => by
    rcases e.1 with ⟨e0, _⟩ | ⟨z, ez, e2⟩
    · rw [e0] at ey; cases ey
    · rw [ey] at ez; cases ez; exact hn e2
  have hys : y.p.size ≤ 9223372036854775807 := Nat.le_trans (place_size (hI.ok y (List.mem_of_getLast? ey)).1) (by decide)
  repeat(first|refine Sc ?_|refine fun(_:Nat)=>?_)
  refine ACallT.ok (ACall.ret (refParent_spec x.p) ?_)
  repeat(first|refine Sc ?_|refine fun(_:Nat)=>?_)
  refine Run.drawnK C_ok (aopC_sound C_ok) [0] [0, 1, 2, 3, 4, 5, 6, 7, 8, 9, 10] (by kernel_rfl) ?_
  repeat(first|refine Sc ?_|refine fun(_:Nat)=>?_)
  refine fun r hr => ?_
  obtain rfl : r = ((done.length - 1 : Nat) : Int) := by rw [hr, IntKind.wrap_i64]; omega
  repeat(first|refine Sc ?_|refine fun(_:Nat)=>?_)
  refine ⟨by omega, encX y, map_at encX eyi, ?_⟩
  repeat(first|refine Sc ?_|refine fun(_:Nat)=>?_)
  refine ACallT.ok (ACall.ret (refOrder_spec y.p x.p hys) ?_)
  repeat(first|refine Sc ?_|refine fun(_:Nat)=>?_)
  refine ⟨fun hpe => ?_, fun hpe => ?_⟩
  · have hpe : parentE x.p ≠ 0 := hpe
    repeat(first|refine Sc ?_|refine fun(_:Nat)=>?_)
    exact ⟨_, [], FinOk.drop _ _, nost (fun e => hpe e.1), rfl⟩
  have hpe : ¬ parentE x.p ≠ 0 := hpe
  repeat(first|refine Sc ?_|refine fun(_:Nat)=>?_)
  refine ⟨fun hge => ?_, fun hge => ?_⟩
  · have hge : orderB y.p x.p ≥ 0 := hge
    repeat(first|refine Sc ?_|refine fun(_:Nat)=>?_)
    exact ⟨_, [], FinOk.drop _ _, nost (fun e => by have := e.2.1; omega), rfl⟩
  have hge : ¬ orderB y.p x.p ≥ 0 := hge
  repeat(first|refine Sc ?_|refine fun(_:Nat)=>?_)
  refine ACallT.ok (ACall.ret (refFind_spec done (parentB x.p) (by omega)) ?_)
  rcases idxF_cases done (parentB x.p) 0 with ⟨hf, hidx⟩ | ⟨j, a, hf, ej, hidx⟩
  · rw [hidx]
    repeat(first|refine Sc ?_|refine fun(_:Nat)=>?_)
    refine ⟨fun h => absurd h (by decide), fun _ => ?_⟩
    repeat(first|refine Sc ?_|refine fun(_:Nat)=>?_)
    exact ⟨_, [], FinOk.drop _ _, nost (fun e => by obtain ⟨_, _, a, ha, ea, _⟩ := e; exact findF_none hf a ha ea), rfl⟩
  rw [hidx]
  obtain ⟨ham, hap⟩ := findF_some hf
  have hjl : j < done.length := (List.getElem?_eq_some_iff.1 ej).1
  repeat(first|refine Sc ?_|refine fun(_:Nat)=>?_)
  refine ⟨fun _ => ?_, fun h => absurd (show ((0 + j : Nat) : Int) ≥ 0 by omega) h⟩
  repeat(first|refine Sc ?_|refine fun(_:Nat)=>?_)
  refine ⟨show ((0 + j : Nat) : Int) < (done.length : Int) by omega, encX a, map_at encX (show done[(((0 + j : Nat) : Int)).toNat]? = some a by rw [show (((0 + j : Nat) : Int)).toNat = j by omega]; exact ej), ?_⟩
  repeat(first|refine Sc ?_|refine fun(_:Nat)=>?_)
  refine ⟨fun hao => ?_, fun hao => ?_⟩
  · have hao : a.o = 0 := hao
    repeat(first|refine Sc ?_|refine fun(_:Nat)=>?_)
    exact ⟨_, [], FinOk.drop _ _, yes ⟨.inr ⟨y, ey, Classical.not_not.1 hpe, by omega, a, ham, hap, hao⟩, hmay⟩, rfl⟩
  · have hao : ¬ a.o = 0 := hao
    repeat(first|refine Sc ?_|refine fun(_:Nat)=>?_)
    exact ⟨_, [], FinOk.drop _ _, nost (fun e => by obtain ⟨_, _, b, hb, eb, e0⟩ := e; rw [mem_uniq hI.sorted.nodup hb ham (by rw [eb, hap])] at e0; exact hao e0), rfl⟩
open Classical in
set_option maxHeartbeats 2000000 in
theorem refLoad_spec (all : List Fu) (n : Nat) (hn : n ≤ all.length) : FnSpec C 36 [.ro 7 (all.map encX) n] [] (fun r L' => r = .tuple [.agg [rdX (if loadE (all.take n) = 0 then all.take n else [])], .int .i64 (loadE (all.take n))] ∧ L' = []) := by
  have hlen : (all.take n).length = n := by rw [List.length_take]; omega
  have bad : ∀ e, loadE (all.take n) = e → e ≠ 0 → (AV.tuple [.agg [rdX []], .int .i64 e]) = .tuple [.agg [rdX (if loadE (all.take n) = 0 then all.take n else [])], .int .i64 (loadE (all.take n))] := fun e h h0 => by rw [h, if_neg h0]
  have hs : ∀ e : Int, Sub (.tuple [.agg [.nils], .int .i64 e]) (.tuple [.agg [rdX []], .int .i64 e]) := fun e => Sub.tuples ⟨Sub.aggs ⟨Sub.nilsRo 7, trivial⟩, Sub.refl _, trivial⟩
  refine FnSpec.start C_ok Tryz.func36 rfl rfl Tryz.ntmps36 ?_
  repeat(first|refine Sc ?_|refine fun(_:Nat)=>?_)
  rename_i g2
  refine ⟨fun h => ?_, fun h => ?_⟩
  · have h : (64 : Int) < (n : Int) := h
    repeat(first|refine Sc ?_|refine fun(_:Nat)=>?_)
    exact ⟨.tuple [.agg [rdX []], .int .i64 2], [], FinOk.keep _ [] (hs 2) (by decide) rfl, bad 2 (by unfold loadE; rw [if_pos (by omega)]) (by decide), rfl⟩
  have h64 : ¬ (64 : Int) < (n : Int) := h
  repeat(first|refine Sc ?_|refine fun(_:Nat)=>?_)
  refine Run.loopW (fun k env L => ∃ (i : Nat) (v : AV) (gk : Nat) (o : AObj), k = n - i ∧ i ≤ n ∧ LY 1 (all.take i) v gk o ∧ (all.take i = [] ∨ TInv (all.take i)) ∧ loadB [] (all.take n) = loadB (all.take i) ((all.take n).drop i) ∧ env = [.ro 7 (all.map encX) n, .junk, .ptr 0 g2 0, .junk, v, .int .i64 i, .junk, .junk, .junk, .junk, .junk, .junk, .junk, .junk, .junk, .junk, .junk, .junk, .junk, .junk, .junk, .junk, .junk, .junk, .junk, .junk, .junk, .junk, .junk, .junk, .junk, .junk, .junk, .junk, .junk, .junk, .junk, .junk, .junk] ∧ L = [(g2, .cells tV [.nils]), (gk, o)]) n
    [.ro 7 (all.map encX) n, .junk, .ptr 0 g2 0, .junk, .nils, .int .i64 (0 : Nat), .junk, .junk, .junk, .junk, .junk, .junk, .junk, .junk, .junk, .junk, .junk, .junk, .junk, .junk, .junk, .junk, .junk, .junk, .junk, .junk, .junk, .junk, .junk, .junk, .junk, .junk, .junk, .junk, .junk, .junk, .junk, .junk, .junk] [(g2, .cells tV [.nils]), (0, .dead)] (Weak.sel ?_ [0, 9] (by decide) ?_) ⟨0, .nils, 0, .dead, by omega, by omega, .inl ⟨rfl, rfl, rfl⟩, .inl rfl, rfl, rfl, rfl⟩ ?_
  · exact Ss
  · exact Sl
  rintro k env L ⟨i, v, gk, o, rfl, hi, hv, hI, hB, rfl, rfl⟩
  repeat(first|refine Sc ?_|refine fun(_:Nat)=>?_)
  refine ⟨fun h => ?_, fun h => ?_⟩
  · have h : (i : Int) < (n : Int) := h
    obtain ⟨x, ex⟩ : ∃ x, all[i]? = some x := ⟨_, List.getElem?_eq_getElem (by omega)⟩
    have exn : (all.take n)[i]? = some x := by rw [List.getElem?_take_of_lt (by omega)]; exact ex
    have e1 := take_more ex
    have hlt : (all.take i).length ≤ 63 := by rw [List.length_take]; omega
    have hne : all.take n ≠ [] := fun e => by rw [e] at exn; cases exn
    rw [drop_at exn] at hB
    have hf := refFits_spec (all.take i) x hI
    have bad1 : ¬ (standsP (all.take i) x ∧ mayP x) → (AV.tuple [.agg [rdX []], .int .i64 1]) = .tuple [.agg [rdX (if loadE (all.take n) = 0 then all.take n else [])], .int .i64 (loadE (all.take n))] := fun hn => bad 1 (by unfold loadE; rw [if_neg (by omega), if_neg hne, hB, loadB_bad hn]; rfl) (by decide)
    have good1 : standsP (all.take i) x ∧ mayP x → (all.take (i + 1) = [] ∨ TInv (all.take (i + 1))) ∧ loadB [] (all.take n) = loadB (all.take (i + 1)) ((all.take n).drop (i + 1)) := fun hs => ⟨.inr (by rw [e1]; exact stands_inv hI (by omega) hs.1 hs.2), by rw [hB, loadB_good hs, e1]⟩
    generalize hns : all.take i = ns at hv e1 hlt hf bad1 good1 hI
    clear hB hI
    repeat(first|refine Sc ?_|refine fun(_:Nat)=>?_)
    rcases hv with ⟨e0, rfl, rfl⟩ | ⟨Cp, rfl, rfl⟩
    · subst e0
      repeat(first|refine Sc ?_|refine fun(_:Nat)=>?_)
      refine ⟨h, encX x, map_at encX ex, ?_⟩
      repeat(first|refine Sc ?_|refine fun(_:Nat)=>?_)
      refine ACallT.ok (ACall.sel [] (by decide) [rdX [], encX x] _ (.two (Sub.nilsRo 7) (Sub.refl _)) hf ?_)
      rintro r L' ⟨rfl, rfl⟩
      by_cases hs1 : standsP [] x ∧ mayP x
      · rw [decide_eq_true hs1]
        obtain ⟨q1, q2⟩ := good1 hs1
        refine ⟨.bool true, Sub.refl _, ?_⟩
        repeat(first|refine Sc ?_|refine fun(_:Nat)=>?_)
        refine ⟨h, encX x, map_at encX ex, ?_⟩
        repeat(first|refine Sc ?_|refine fun(_:Nat)=>?_)
        refine ⟨fun h => absurd h (List.cons_ne_nil _ _), fun _ => ?_⟩
        repeat(first|refine Sc ?_|refine fun(_:Nat)=>?_)
        rename_i g' Cp'
        refine fun r hr => ?_
        obtain rfl := add1 hr (by omega)
        repeat(first|refine Sc ?_|refine fun(_:Nat)=>?_)
        refine Cont.lpW ?_
        refine ⟨n - (i + 1), _, _, by omega, Weak.sel ?_ [0, 3] (by decide) ?_, ⟨i + 1, .sl 1 g' Cp' 1, g', _, rfl, by omega, e1.symm ▸ LN.one rfl, q1, q2, rfl, rfl⟩⟩
        · exact Ss
        · exact Sl
      · rw [decide_eq_false hs1]
        refine ⟨.bool false, Sub.refl _, ?_⟩
        repeat(first|refine Sc ?_|refine fun(_:Nat)=>?_)
        exact ⟨.tuple [.agg [rdX []], .int .i64 1], [], FinOk.keep _ [] (hs 1) (by decide) rfl, bad1 hs1, rfl⟩
    · repeat(first|refine Sc ?_|refine fun(_:Nat)=>?_)
      refine ⟨h, encX x, map_at encX ex, ?_⟩
      repeat(first|refine Sc ?_|refine fun(_:Nat)=>?_)
      refine ACallT.ok (ACall.ret_lend (.two (.row 1 gk Cp _ tY 7 _ rfl (by simp)) (.same _)) hf rfl ?_)
      by_cases hs1 : standsP ns x ∧ mayP x
      · rw [decide_eq_true hs1]
        obtain ⟨q1, q2⟩ := good1 hs1
        repeat(first|refine Sc ?_|refine fun(_:Nat)=>?_)
        refine ⟨h, encX x, map_at encX ex, ?_⟩
        repeat(first|refine Sc ?_|refine fun(_:Nat)=>?_)
        refine ⟨by simp, ?_⟩
        repeat(first|refine Sc ?_|refine fun(_:Nat)=>?_)
        refine ⟨by simp; omega, ?_⟩
        repeat(first|refine Sc ?_|refine fun(_:Nat)=>?_)
        rename_i g' Cp'
        refine fun r hr => ?_
        obtain rfl := add1 hr (by omega)
        repeat(first|refine Sc ?_|refine fun(_:Nat)=>?_)
        refine Cont.lpW ?_
        refine ⟨n - (i + 1), _, _, by omega, Weak.sel ?_ [0, 1] (by decide) ?_, ⟨i + 1, .sl 1 g' Cp' ((ns.map encX).length + 1), g', _, rfl, by omega, e1.symm ▸ LN.snoc, q1, q2, rfl, rfl⟩⟩
        · exact Ss
        · exact Sl
      · rw [decide_eq_false hs1]
        repeat(first|refine Sc ?_|refine fun(_:Nat)=>?_)
        exact ⟨.tuple [.agg [rdX []], .int .i64 1], [], FinOk.keep _ [] (hs 1) (by decide) rfl, bad1 hs1, rfl⟩
  · have h : ¬ (i : Int) < (n : Int) := h
    have ei : i = n := by omega
    subst ei
    rw [List.drop_of_length_le (by omega)] at hB
    have hB : loadB [] (all.take i) = true := hB
    repeat(first|refine Sc ?_|refine fun(_:Nat)=>?_)
    rcases hv with ⟨e0, rfl, rfl⟩ | ⟨Cp, rfl, rfl⟩
    · repeat(first|refine Sc ?_|refine fun(_:Nat)=>?_)
      refine ⟨fun _ => ?_, fun h => absurd rfl h⟩
      repeat(first|refine Sc ?_|refine fun(_:Nat)=>?_)
      exact ⟨.tuple [.agg [rdX []], .int .i64 1], [], FinOk.keep _ [] (hs 1) (by decide) rfl, bad 1 (by unfold loadE; rw [if_neg (by omega), if_pos e0]) (by decide), rfl⟩
    · repeat(first|refine Sc ?_|refine fun(_:Nat)=>?_)
      refine ⟨fun h0 => ?_, fun h0 => ?_⟩
      · have h0 : ((all.take i).length : Int) = 0 := h0
        have e0 : all.take i = [] := List.eq_nil_of_length_eq_zero (by omega)
        repeat(first|refine Sc ?_|refine fun(_:Nat)=>?_)
        exact ⟨.tuple [.agg [rdX []], .int .i64 1], [], FinOk.keep _ [] (hs 1) (by decide) rfl, bad 1 (by unfold loadE; rw [if_neg (by omega), if_pos e0]) (by decide), rfl⟩
      have h0 : ¬ ((all.take i).length : Int) = 0 := h0
      have hE : loadE (all.take i) = 0 := by unfold loadE; rw [if_neg (by omega), if_neg (fun e => h0 (by rw [e]; rfl)), if_pos hB]
      repeat(first|refine Sc ?_|refine fun(_:Nat)=>?_)
      exact ⟨.tuple [.agg [rdX (all.take i)], .int .i64 0], [], FinOk.lend (Lend.tuples ⟨Lend.aggs ⟨.row 1 gk Cp _ tY 7 _ rfl (by simp), trivial⟩, .same _, trivial⟩), by rw [hE, if_pos rfl], rfl⟩
end Go.Proofs.YtiikjcdjgmlcgaaGreatDoor.HBT
