/- Take, on the tree and on the document's; two shots that are alike. -/
import Derived.Test.YtcbjcmigecocgaaGreatDoorTwU6
import Derived.Test.YtcbjcmigecocgaaGreatDoorTwU7
set_option linter.unusedVariables false
set_option linter.unusedSimpArgs false
namespace Go.Proofs.YtcbjcmigecocgaaGreatDoor.HBT
open Go Go.Proofs.YtcbjcmigecocgaaGreatDoor.HB Go.RowKit
set_option maxRecDepth 8000

theorem refNew_spec : FnSpec C 10 [] [] (fun r L' => r = .agg [rdX [rootF]] ∧ L' = []) := by
  refine FnSpec.start C_ok Tryz.func10 rfl rfl Tryz.ntmps10 ?_
  repeat(first|refine Sc ?_|refine fun(_:Nat)=>?_)
  rename_i g0 g2
  exact ⟨.agg [rdX [rootF]], [], FinOk.lend (Lend.aggs ⟨.row 1 g2 1 1 tY 7 _ rfl (Nat.le_refl _), trivial⟩), rfl, rfl⟩
theorem num_spec (k : Int) : FnSpec C 8 [.int .i64 k] [] (fun r L' => r = .int .i64 k ∧ L' = []) := by
  refine FnSpec.start C_ok Tryz.func8 rfl rfl Tryz.ntmps8 ?_
  repeat(first|refine Sc ?_|refine fun(_:Nat)=>?_)
  exact ⟨_, [], FinOk.drop _ _, rfl, rfl⟩
theorem isPlace_spec (p : ByteArray) : FnSpec C 15 [.str p] [] (fun r L' => r = .bool (decide (parseE p = 0)) ∧ L' = []) := by
  refine FnSpec.start C_ok Tryz.func15 rfl rfl Tryz.ntmps15 ?_
  repeat(first|refine Sc ?_|refine fun(_:Nat)=>?_)
  refine ACallT.ok (ACall.ret (parse_code p) ?_)
  repeat(first|refine Sc ?_|refine fun(_:Nat)=>?_)
  refine ⟨fun h => ?_, fun h => ?_⟩
  · have h : parseE p = 0 := h
    repeat(first|refine Sc ?_|refine fun(_:Nat)=>?_)
    exact ⟨_, [], FinOk.drop _ _, congrArg AV.bool (decide_eq_true h).symm, rfl⟩
  · have h : ¬ parseE p = 0 := h
    repeat(first|refine Sc ?_|refine fun(_:Nat)=>?_)
    exact ⟨_, [], FinOk.drop _ _, congrArg AV.bool (decide_eq_false h).symm, rfl⟩
theorem isKind_spec (k : Int) : FnSpec C 16 [.int .i64 k] [] (fun r L' => r = .bool (decide (k = 1 ∨ k = 2 ∨ k = 3)) ∧ L' = []) := by
  refine FnSpec.start C_ok Tryz.func16 rfl rfl Tryz.ntmps16 ?_
  repeat(first|refine Sc ?_|refine fun(_:Nat)=>?_)
  refine ⟨fun h => ?_, fun h => ?_⟩
  · have h : k = 1 := h
    repeat(first|refine Sc ?_|refine fun(_:Nat)=>?_)
    exact ⟨_, [], FinOk.drop _ _, congrArg AV.bool (decide_eq_true (Or.inl h)).symm, rfl⟩
  have h1 : ¬ k = 1 := h
  repeat(first|refine Sc ?_|refine fun(_:Nat)=>?_)
  refine ⟨fun h => ?_, fun h => ?_⟩
  · have h : k = 2 := h
    repeat(first|refine Sc ?_|refine fun(_:Nat)=>?_)
    exact ⟨_, [], FinOk.drop _ _, congrArg AV.bool (decide_eq_true (Or.inr (Or.inl h))).symm, rfl⟩
  have h2 : ¬ k = 2 := h
  repeat(first|refine Sc ?_|refine fun(_:Nat)=>?_)
  refine ⟨fun h => ?_, fun h => ?_⟩
  · have h : k = 3 := h
    repeat(first|refine Sc ?_|refine fun(_:Nat)=>?_)
    exact ⟨_, [], FinOk.drop _ _, congrArg AV.bool (decide_eq_true (Or.inr (Or.inr h))).symm, rfl⟩
  have h3 : ¬ k = 3 := h
  repeat(first|refine Sc ?_|refine fun(_:Nat)=>?_)
  exact ⟨_, [], FinOk.drop _ _, congrArg AV.bool (decide_eq_false (show ¬ (k = 1 ∨ k = 2 ∨ k = 3) by omega)).symm, rfl⟩
abbrev shA (st : Int) (p : ByteArray) (kd : Int) (S : List Sn) : AV := .agg [.int .i64 st, .str p, .int .i64 kd, encNs S]
def takeE (st : Int) (p : ByteArray) (kd : Int) : Int := if st < 0 ∨ 2147483647 < st then 1 else if parseE p ≠ 0 then 10 else if kd < 1 ∨ 3 < kd then 1 else 0
noncomputable def takeA (l : List Fu) (st : Int) (p : ByteArray) (kd : Int) : AV := if takeE st p kd = 0 then shA st p kd (partF l p kd) else shA 0 eS 0 []
theorem takeA_some (l : List Fu) (st : Int) (p : ByteArray) (kd : Int) : ∃ a b c S, takeA l st p kd = shA a b c S ∧ S.length ≤ l.length := by
  unfold takeA
  split
  · exact ⟨_, _, _, _, rfl, part_len _ _ _⟩
  · exact ⟨_, _, _, _, rfl, Nat.zero_le _⟩
theorem take_nil (st : Int) (p : ByteArray) (kd : Int) : FnSpec C 5 [.nilp, .int .i64 st, .str p, .int .i64 kd] [] (fun r L' => r = .tuple [shA 0 eS 0 [], .int .i64 1] ∧ L' = []) := by
  refine FnSpec.start C_ok Tryz.func5 rfl rfl Tryz.ntmps5 ?_
  repeat(first|refine Sc ?_|refine fun(_:Nat)=>?_)
  exact ⟨.tuple [shA 0 eS 0 [], .int .i64 1], [], FinOk.keep _ [] (Sub.tuples ⟨Sub.aggs ⟨Sub.refl _, Sub.refl _, Sub.refl _, Sub.nilsRo 3, trivial⟩, Sub.refl _, trivial⟩) (by decide) rfl, rfl, rfl⟩
theorem take_spec (gt gm : Nat) {l : List Fu} {es : Array MapEntry} {cl : Nat} (hT : TM l es cl) (hI : TInv l) (st : Int) (p : ByteArray) (kd : Int) :
    FnSpec C 5 [.ptr 0 gt 0, .int .i64 st, .str p, .int .i64 kd] (TreeL gt gm es cl) (fun r L' => r = .tuple [takeA l st p kd, .int .i64 (takeE st p kd)] ∧ L' = (TreeL gt gm es cl)) := by
  have hs : ∀ e : Int, Sub (.tuple [.agg [.int .i64 0, .str eS, .int .i64 0, .nils], .int .i64 e]) (.tuple [shA 0 eS 0 [], .int .i64 e]) := fun e => Sub.tuples ⟨Sub.aggs ⟨Sub.refl _, Sub.refl _, Sub.refl _, Sub.nilsRo 3, trivial⟩, Sub.refl _, trivial⟩
  have bad : ∀ e : Int, takeE st p kd = e → e ≠ 0 → (AV.tuple [shA 0 eS 0 [], .int .i64 e]) = .tuple [takeA l st p kd, .int .i64 (takeE st p kd)] := fun e h h0 => by unfold takeA; rw [h, if_neg h0]
  refine FnSpec.start C_ok Tryz.func5 rfl rfl Tryz.ntmps5 ?_
  repeat(first|refine Sc ?_|refine fun(_:Nat)=>?_)
  refine ⟨fun h => ?_, fun h => ?_⟩
  · have h : st < 0 := h
    repeat(first|refine Sc ?_|refine fun(_:Nat)=>?_)
    exact ⟨.tuple [shA 0 eS 0 [], .int .i64 1], _, FinOk.keep _ [0, 1] (hs 1) (by decide) rfl, bad 1 (by unfold takeE; rw [if_pos (.inl h)]) (by decide), rfl⟩
  have h0 : ¬ st < 0 := h
  repeat(first|refine Sc ?_|refine fun(_:Nat)=>?_)
  refine ⟨fun h => ?_, fun h => ?_⟩
  · have h : st > 2147483647 := h
    repeat(first|refine Sc ?_|refine fun(_:Nat)=>?_)
    exact ⟨.tuple [shA 0 eS 0 [], .int .i64 1], _, FinOk.keep _ [0, 1] (hs 1) (by decide) rfl, bad 1 (by unfold takeE; rw [if_pos (.inr h)]) (by decide), rfl⟩
  have h1 : ¬ st > 2147483647 := h
  have hst : ¬ (st < 0 ∨ 2147483647 < st) := by omega
  repeat(first|refine Sc ?_|refine fun(_:Nat)=>?_)
  refine ACallT.ok (ACall.ret (isPlace_spec p) ?_)
  by_cases hp : parseE p = 0
  rotate_left
  · rw [decide_eq_false hp]
    repeat(first|refine Sc ?_|refine fun(_:Nat)=>?_)
    exact ⟨.tuple [shA 0 eS 0 [], .int .i64 10], _, FinOk.keep _ [0, 1] (hs 10) (by decide) rfl, bad 10 (by unfold takeE; rw [if_neg hst, if_pos hp]) (by decide), rfl⟩
  rw [decide_eq_true hp]
  repeat(first|refine Sc ?_|refine fun(_:Nat)=>?_)
  refine ACallT.ok (ACall.ret (isKind_spec kd) ?_)
  by_cases hk : kd = 1 ∨ kd = 2 ∨ kd = 3
  rotate_left
  · rw [decide_eq_false hk]
    repeat(first|refine Sc ?_|refine fun(_:Nat)=>?_)
    exact ⟨.tuple [shA 0 eS 0 [], .int .i64 1], _, FinOk.keep _ [0, 1] (hs 1) (by decide) rfl, bad 1 (by unfold takeE; rw [if_neg hst, if_neg (fun e => e hp), if_pos (by omega)]) (by decide), rfl⟩
  rw [decide_eq_true hk]
  have hk2 : ¬ (kd < 1 ∨ 3 < kd) := by omega
  have hE : partE p kd = 0 := by unfold partE; rw [if_neg (fun e => e hp), if_neg hk2]
  have hTE : takeE st p kd = 0 := by unfold takeE; rw [if_neg hst, if_neg (fun e => e hp), if_neg hk2]
  have hps := part_spec gt gm hT hI p kd
  rw [hE, if_pos rfl] at hps
  repeat(first|refine Sc ?_|refine fun(_:Nat)=>?_)
  refine ACallT.ok (ACall.sel [0, 1] (by decide) [.ptr 0 gt 0, .str p, .int .i64 kd] _ ⟨Sub.refl _, Sub.refl _, Sub.refl _, trivial⟩ hps ?_)
  rintro r L' ⟨rfl, rfl⟩
  refine ⟨_, Sub.refl _, ?_⟩
  repeat(first|refine Sc ?_|refine fun(_:Nat)=>?_)
  refine ⟨fun h => absurd rfl h, fun _ => ?_⟩
  repeat(first|refine Sc ?_|refine fun(_:Nat)=>?_)
  exact ⟨.tuple [shA st p kd (partF l p kd), .int .i64 0], _, FinOk.keep _ [0, 1] (Sub.refl _) (by decide) rfl, by unfold takeA; rw [hTE, if_pos rfl], rfl⟩
theorem refTake_spec {l : List Fu} (hI : TInv l) (st : Int) (p : ByteArray) (kd : Int) :
    FnSpec C 6 [.agg [rdX l], .int .i64 st, .str p, .int .i64 kd] [] (fun r L' => r = .tuple [takeA l st p kd, .int .i64 (takeE st p kd)] ∧ L' = []) := by
  have hs : ∀ e : Int, Sub (.tuple [.agg [.int .i64 0, .str eS, .int .i64 0, .nils], .int .i64 e]) (.tuple [shA 0 eS 0 [], .int .i64 e]) := fun e => Sub.tuples ⟨Sub.aggs ⟨Sub.refl _, Sub.refl _, Sub.refl _, Sub.nilsRo 3, trivial⟩, Sub.refl _, trivial⟩
  have bad : ∀ e : Int, takeE st p kd = e → e ≠ 0 → (AV.tuple [shA 0 eS 0 [], .int .i64 e]) = .tuple [takeA l st p kd, .int .i64 (takeE st p kd)] := fun e h h0 => by unfold takeA; rw [h, if_neg h0]
  refine FnSpec.start C_ok Tryz.func6 rfl rfl Tryz.ntmps6 ?_
  repeat(first|refine Sc ?_|refine fun(_:Nat)=>?_)
  refine ⟨fun h => ?_, fun h => ?_⟩
  · have h : st < 0 := h
    repeat(first|refine Sc ?_|refine fun(_:Nat)=>?_)
    exact ⟨.tuple [shA 0 eS 0 [], .int .i64 1], _, FinOk.keep _ [] (hs 1) (by decide) rfl, bad 1 (by unfold takeE; rw [if_pos (.inl h)]) (by decide), rfl⟩
  have h0 : ¬ st < 0 := h
  repeat(first|refine Sc ?_|refine fun(_:Nat)=>?_)
  refine ⟨fun h => ?_, fun h => ?_⟩
  · have h : st > 2147483647 := h
    repeat(first|refine Sc ?_|refine fun(_:Nat)=>?_)
    exact ⟨.tuple [shA 0 eS 0 [], .int .i64 1], _, FinOk.keep _ [] (hs 1) (by decide) rfl, bad 1 (by unfold takeE; rw [if_pos (.inr h)]) (by decide), rfl⟩
  have h1 : ¬ st > 2147483647 := h
  have hst : ¬ (st < 0 ∨ 2147483647 < st) := by omega
  repeat(first|refine Sc ?_|refine fun(_:Nat)=>?_)
  refine ACallT.ok (ACall.ret (refIs_spec p) ?_)
  by_cases hp : parseE p = 0
  rotate_left
  · rw [decide_eq_false hp]
    repeat(first|refine Sc ?_|refine fun(_:Nat)=>?_)
    exact ⟨.tuple [shA 0 eS 0 [], .int .i64 10], _, FinOk.keep _ [] (hs 10) (by decide) rfl, bad 10 (by unfold takeE; rw [if_neg hst, if_pos hp]) (by decide), rfl⟩
  rw [decide_eq_true hp]
  repeat(first|refine Sc ?_|refine fun(_:Nat)=>?_)
  refine ⟨fun h => ?_, fun h => ?_⟩
  · have h : kd < 1 := h
    repeat(first|refine Sc ?_|refine fun(_:Nat)=>?_)
    exact ⟨.tuple [shA 0 eS 0 [], .int .i64 1], _, FinOk.keep _ [] (hs 1) (by decide) rfl, bad 1 (by unfold takeE; rw [if_neg hst, if_neg (fun e => e hp), if_pos (.inl h)]) (by decide), rfl⟩
  have h2 : ¬ kd < 1 := h
  repeat(first|refine Sc ?_|refine fun(_:Nat)=>?_)
  refine ⟨fun h => ?_, fun h => ?_⟩
  · have h : kd > 3 := h
    repeat(first|refine Sc ?_|refine fun(_:Nat)=>?_)
    exact ⟨.tuple [shA 0 eS 0 [], .int .i64 1], _, FinOk.keep _ [] (hs 1) (by decide) rfl, bad 1 (by unfold takeE; rw [if_neg hst, if_neg (fun e => e hp), if_pos (.inr h)]) (by decide), rfl⟩
  have h3 : ¬ kd > 3 := h
  have hk2 : ¬ (kd < 1 ∨ 3 < kd) := by omega
  have hE : partE p kd = 0 := by unfold partE; rw [if_neg (fun e => e hp), if_neg hk2]
  have hTE : takeE st p kd = 0 := by unfold takeE; rw [if_neg hst, if_neg (fun e => e hp), if_neg hk2]
  have hps := refPart_spec hI p kd
  rw [hE, if_pos rfl] at hps
  repeat(first|refine Sc ?_|refine fun(_:Nat)=>?_)
  refine ACallT.ok (ACall.ret hps ?_)
  repeat(first|refine Sc ?_|refine fun(_:Nat)=>?_)
  exact ⟨.tuple [shA st p kd (partF l p kd), .int .i64 0], _, FinOk.keep _ [] (Sub.refl _) (by decide) rfl, by unfold takeA; rw [hTE, if_pos rfl], rfl⟩
abbrev tH : TypeId := 31
theorem same_refl (a : Int) (b : ByteArray) (c : Int) (S : List Sn) (hS : S.length ≤ 1000) : FnSpec C 20 [shA a b c S, shA a b c S] [] (fun r L' => r = .bool true ∧ L' = []) := by
  refine FnSpec.start C_ok Tryz.func20 rfl rfl Tryz.ntmps20 ?_
  repeat(first|refine Sc ?_|refine fun(_:Nat)=>?_)
  rename_i g2 g3
  refine ⟨fun h => absurd rfl h, fun _ => ?_⟩
  repeat(first|refine Sc ?_|refine fun(_:Nat)=>?_)
  refine ⟨fun h => absurd rfl h, fun _ => ?_⟩
  repeat(first|refine Sc ?_|refine fun(_:Nat)=>?_)
  refine ⟨fun h => absurd rfl h, fun _ => ?_⟩
  repeat(first|refine Sc ?_|refine fun(_:Nat)=>?_)
  refine Run.loopW (fun k env L => ∃ i : Nat, k = S.length - i ∧ i ≤ S.length ∧ env = [.junk, .junk, .ptr 0 g2 0, .ptr 1 g3 0, .junk, .int .i64 i, .junk, .junk, .junk, .junk, .junk, .junk, .junk, .junk, .junk, .junk, .junk, .junk, .junk, .junk, .junk, .junk, .junk, .junk, .junk, .junk, .junk, .junk, .junk, .junk, .junk, .junk, .junk, .junk, .junk, .junk, .junk, .junk, .junk, .junk, .junk, .junk, .junk, .junk, .junk] ∧ L = [(g2, .cells tH [.int .i64 a, .str b, .int .i64 c, encNs S]), (g3, .cells tH [.int .i64 a, .str b, .int .i64 c, encNs S])]) S.length
    [.junk, .junk, .ptr 0 g2 0, .ptr 1 g3 0, .junk, .int .i64 (0 : Nat), .junk, .junk, .junk, .junk, .junk, .junk, .junk, .junk, .junk, .junk, .junk, .junk, .junk, .junk, .junk, .junk, .junk, .junk, .junk, .junk, .junk, .junk, .junk, .junk, .junk, .junk, .junk, .junk, .junk, .junk, .junk, .junk, .junk, .junk, .junk, .junk, .junk, .junk, .junk] [(g2, .cells tH [.int .i64 a, .str b, .int .i64 c, encNs S]), (g3, .cells tH [.int .i64 a, .str b, .int .i64 c, encNs S])] (Weak.sel ?_ [0, 1] (by decide) ?_) ⟨0, by omega, by omega, rfl, rfl⟩ ?_
  · exact Ss
  · exact Sl
  rintro k env L ⟨i, rfl, hi, rfl, rfl⟩
  repeat(first|refine Sc ?_|refine fun(_:Nat)=>?_)
  refine ⟨fun h => ?_, fun h => ?_⟩
  · have h : (i : Int) < (S.length : Int) := h
    obtain ⟨x, ex⟩ : ∃ x, S[i]? = some x := ⟨_, List.getElem?_eq_getElem (by omega)⟩
    repeat(first|refine Sc ?_|refine fun(_:Nat)=>?_)
    refine Run.drawnK C_ok (aopC_sound C_ok) [0, 1] [0, 1, 2, 3, 4, 5, 6, 7, 8, 9, 10] (by kernel_rfl) ?_
    repeat(first|refine Sc ?_|refine fun(_:Nat)=>?_)
    refine ⟨h, encN x, map_at encN ex, ?_⟩
    repeat(first|refine Sc ?_|refine fun(_:Nat)=>?_)
    refine ⟨h, encN x, map_at encN ex, ?_⟩
    repeat(first|refine Sc ?_|refine fun(_:Nat)=>?_)
    refine ⟨fun hne => absurd ((sn_eq x x).2 rfl) hne, fun _ => ?_⟩
    repeat(first|refine Sc ?_|refine fun(_:Nat)=>?_)
    refine fun r hr => ?_
    obtain rfl := add1 hr (by omega)
    repeat(first|refine Sc ?_|refine fun(_:Nat)=>?_)
    refine Cont.lpW ?_
    refine ⟨S.length - (i + 1), _, _, by omega, Weak.sel ?_ [0, 1] (by decide) ?_, ⟨i + 1, rfl, by omega, rfl, rfl⟩⟩
    · exact Ss
    · exact Sl
  · repeat(first|refine Sc ?_|refine fun(_:Nat)=>?_)
    exact ⟨_, [], FinOk.drop _ _, rfl, rfl⟩
theorem alike_refl (a : Int) (b : ByteArray) (c : Int) (S : List Sn) (hS : S.length ≤ 1000) : FnSpec C 9 [shA a b c S, shA a b c S] [] (fun r L' => r = .bool true ∧ L' = []) := by
  refine FnSpec.start C_ok Tryz.func9 rfl rfl Tryz.ntmps9 ?_
  repeat(first|refine Sc ?_|refine fun(_:Nat)=>?_)
  refine ⟨fun _ => ?_, fun h => absurd rfl h⟩
  repeat(first|refine Sc ?_|refine fun(_:Nat)=>?_)
  refine ACallT.ok (ACall.ret (same_refl a b c S hS) ?_)
  repeat(first|refine Sc ?_|refine fun(_:Nat)=>?_)
  exact ⟨_, [], FinOk.drop _ _, rfl, rfl⟩
end Go.Proofs.YtcbjcmigecocgaaGreatDoor.HBT
