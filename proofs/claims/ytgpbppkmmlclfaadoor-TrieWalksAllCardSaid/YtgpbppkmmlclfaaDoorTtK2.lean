/- The contracts of the library's Clone, Insert and Delete at lists of watches, DeleteFunc at watches with their sessions. -/
import Derived.Test.YtgpbppkmmlclfaaDoorTtG4
import Derived.Test.YtgpbppkmmlclfaaDoorHbP
set_option linter.unusedVariables false
set_option linter.unusedSimpArgs false
namespace Go.Proofs.YtgpbppkmmlclfaaDoor.HBT
open Go Go.Proofs.YtgpbppkmmlclfaaDoor.HB Go.RowKit
set_option maxRecDepth 8000

theorem cloneW_spec (xs : List Wt) (n : Nat) (hn : n ≤ xs.length) (hm : n ≤ 1000) : FnSpec C 30 [.ro 4 (xs.map encW) n] [] (fun r L' => (∃ g Cp, r = .sl 0 g Cp n ∧ L' = [(g, .row tW 4 Cp ((xs.take n).map encW))]) ∨ (xs = [] ∧ r = .nils ∧ L' = [])) := by
  refine FnSpec.start C_ok Tryd.func30 rfl rfl Tryd.ntmps30 ?_
  repeat(first|refine Sp ?_|refine fun(_:Nat)=>?_)
  refine ⟨fun hne => ?_, fun he b => ?_⟩
  · repeat(first|refine Sp ?_|refine fun(_:Nat)=>?_)
    have hl : ([] : List AV).length + (List.take n (List.map encW xs)).length = n := by simp; omega
    refine ⟨by rw [hl]; omega, ?_⟩
    repeat(first|refine Sp ?_|refine fun(_:Nat)=>?_)
    refine ⟨_, _, FinOk.keep _ [0] (Sub.sl _ 0 _ _ _) (by decide) rfl, .inl ⟨_, _, congrArg (AV.sl 0 _ _) hl, ?_⟩⟩
    exact congrArg (fun l => [(_, AObj.row tW 4 _ l)]) (show [] ++ List.take n (List.map encW xs) = _ by simp [List.map_take])
  · have he : xs = [] := List.map_eq_nil_iff.1 he
    subst he
    obtain rfl : n = 0 := by simpa using hn
    cases b
    · repeat(first|refine Sp ?_|refine fun(_:Nat)=>?_)
      exact ⟨_, _, FinOk.keep _ [0] (Sub.sl _ 0 _ _ _) (by decide) rfl, .inl ⟨_, _, rfl, rfl⟩⟩
    · repeat(first|refine Sp ?_|refine fun(_:Nat)=>?_)
      exact ⟨_, [], FinOk.drop _ _, .inr ⟨rfl, rfl, rfl⟩⟩

theorem delete_own (g Cp : Nat) (l : List Wt) (i : Nat) (hi : i < l.length) (hm : l.length ≤ 1000) : FnSpec C 36 [.sb 0 g Cp 4 0 l.length, .int .i64 i, .int .i64 (i + 1 : Nat)] [(g, .row tW 4 Cp (l.map encW))]
    (fun r L' => ∃ g' C', r = .sb 0 g' C' 4 0 (l.length - 1) ∧ L' = [(g', .row tW 4 C' ((l.take i ++ l.drop (i + 1)).map encW))]) := by
  refine FnSpec.capOf (k := 0) Tryd.func36 rfl rfl rfl fun hC => ?_
  rw [List.length_map] at hC
  refine FnSpec.start C_ok Tryd.func36 rfl rfl Tryd.ntmps36 ?_
  repeat(first|refine Sp ?_|refine fun(_:Nat)=>?_)
  refine ⟨by omega, ?_⟩
  repeat(first|refine Sp ?_|refine fun(_:Nat)=>?_)
  refine ⟨by omega, ?_⟩
  repeat(first|refine Sp ?_|refine fun(_:Nat)=>?_)
  refine ⟨by omega, ?_⟩
  repeat(first|refine Sp ?_|refine fun(_:Nat)=>?_)
  refine ⟨fun h => absurd h (by omega), fun _ => ?_⟩
  repeat(first|refine Sp ?_|refine fun(_:Nat)=>?_)
  refine Run.drawn false [0, 1, 2, 3, 4, 5, 6, 7] (by kernel_rfl) ?_
  repeat(first|refine Sp ?_|refine fun(_:Nat)=>?_)
  refine ⟨by omega, ?_⟩
  repeat(first|refine Sp ?_|refine fun(_:Nat)=>?_)
  refine ⟨by omega, ?_⟩
  repeat(first|refine Sp ?_|refine fun(_:Nat)=>?_)
  refine ⟨by omega, ?_⟩
  repeat(first|refine Sp ?_|refine fun(_:Nat)=>?_)
  refine ⟨by rw [List.length_map]; omega, ?_⟩
  repeat(first|refine Sp ?_|refine fun(_:Nat)=>?_)
  have e1 : List.take ((l.length : Int) - (i + 1 : Nat)).toNat (List.drop (0 + ((i + 1 : Nat) : Int).toNat) (l.map encW)) = (l.drop (i + 1)).map encW := by
    rw [Int.toNat_natCast, Nat.zero_add, List.take_of_length_le (by simp; omega), List.map_drop]
  rw [e1]
  refine ⟨by rw [List.length_map]; omega, ?_⟩
  have e2 : ((i : Int) - 0).toNat + ((l.drop (i + 1)).map encW).length = l.length - 1 := by rw [List.length_map, List.length_drop]; omega
  have e3 : List.take ((i : Int) - 0).toNat (l.map encW) ++ (l.drop (i + 1)).map encW = (l.take i ++ l.drop (i + 1)).map encW := by
    rw [show ((i : Int) - 0).toNat = i by omega, List.map_append, List.map_take]
  rw [e2, e3]
  refine ⟨by omega, ?_⟩
  refine ⟨fun _ => ?_, fun h => absurd h (by omega)⟩
  repeat(first|refine Sp ?_|refine fun(_:Nat)=>?_)
  refine ⟨by omega, ?_⟩
  repeat(first|refine Sp ?_|refine fun(_:Nat)=>?_)
  refine ⟨by omega, ?_⟩
  repeat(first|refine Sp ?_|refine fun(_:Nat)=>?_)
  refine ⟨by rw [List.length_map, List.length_append, List.length_take, List.length_drop]; omega, ?_⟩
  repeat(first|refine Sp ?_|refine fun(_:Nat)=>?_)
  refine ⟨by omega, ?_⟩
  repeat(first|refine Sp ?_|refine fun(_:Nat)=>?_)
  have e5 : List.take (0 + ((l.length - 1 : Nat) : Int).toNat) ((l.take i ++ l.drop (i + 1)).map encW) = (l.take i ++ l.drop (i + 1)).map encW :=
    List.take_of_length_le (by rw [List.length_map, List.length_append, List.length_take, List.length_drop]; omega)
  exact ⟨_, _, FinOk.keep _ [0] (Sub.sb _ 0 _ _ _ _ _) (by decide) rfl, _, _, rfl, congrArg (fun q => [(_, AObj.row tW 4 _ q)]) e5⟩

theorem ins1 {α : Type} (A : List α) (y : α) (i : Nat) (hi : i ≤ A.length) :
    List.take (i + 1) (List.take i (List.take i A) ++ List.take 1 (List.drop 0 [y]) ++ List.drop (i + 1) (List.take i A)) ++ List.take (A.length - i) (List.drop i A) ++ List.drop (i + 1 + (A.length - i)) (List.take i (List.take i A) ++ List.take 1 (List.drop 0 [y]) ++ List.drop (i + 1) (List.take i A)) = List.take i A ++ y :: List.drop i A := by
  have a1 : List.drop (i + 1) (List.take i A) = [] := List.drop_eq_nil_of_le (by rw [List.length_take]; omega)
  have a2 : List.take (A.length - i) (List.drop i A) = List.drop i A := List.take_of_length_le (by rw [List.length_drop]; omega)
  have a3 : List.take 1 (List.drop 0 [y]) = [y] := rfl
  have r : List.take i (List.take i A) ++ List.take 1 (List.drop 0 [y]) ++ List.drop (i + 1) (List.take i A) = List.take i A ++ [y] := by
    rw [a1, a3, List.take_take, Nat.min_self, List.append_nil]
  have hl : (List.take i A ++ [y]).length = i + 1 := by rw [List.length_append, List.length_take]; simp; omega
  have a4 : List.take (i + 1) (List.take i A ++ [y]) = List.take i A ++ [y] := List.take_of_length_le (by omega)
  have a5 : List.drop (i + 1 + (A.length - i)) (List.take i A ++ [y]) = [] := List.drop_eq_nil_of_le (by omega)
  rw [r, a2, a4, a5]
  simp
theorem ins2 {α : Type} (A : List α) (y : α) (i : Nat) (hi : i < A.length) :
    List.take i (List.take (i + 1) A ++ List.take (A.length - i) (List.drop i A) ++ List.drop (i + 1 + (A.length - i)) A) ++ List.take 1 (List.drop 0 [y]) ++ List.drop (i + 1) (List.take (i + 1) A ++ List.take (A.length - i) (List.drop i A) ++ List.drop (i + 1 + (A.length - i)) A) = List.take i A ++ y :: List.drop i A := by
  have a2 : List.take (A.length - i) (List.drop i A) = List.drop i A := List.take_of_length_le (by rw [List.length_drop]; omega)
  have a1 : List.drop (i + 1 + (A.length - i)) A = [] := List.drop_eq_nil_of_le (by omega)
  have a3 : List.take 1 (List.drop 0 [y]) = [y] := rfl
  have hl : (List.take (i + 1) A).length = i + 1 := by rw [List.length_take]; omega
  have a4 : List.take i (List.take (i + 1) A ++ List.drop i A) = List.take i A := by
    rw [List.take_append_of_le_length (by omega), List.take_take, Nat.min_eq_left (by omega)]
  have a5 : List.drop (i + 1) (List.take (i + 1) A ++ List.drop i A) = List.drop i A := by
    rw [List.drop_append_of_le_length (by omega), List.drop_of_length_le (by omega), List.nil_append]
  rw [a1, a2, a3, List.append_nil, a4, a5]
  simp

set_option maxHeartbeats 8000000 in
theorem insert_own (g Cp g1 : Nat) (l : List Wt) (i : Nat) (x : Wt) (hi : i ≤ l.length) (hm : l.length ≤ 1000) : FnSpec C 33 [.sb 0 g Cp 4 0 l.length, .int .i64 i, .sb 1 g1 1 4 0 1] [(g, .row tW 4 Cp (l.map encW)), (g1, .row tW 4 1 [encW x])]
    (fun r L' => ∃ g' C', r = .sb 0 g' C' 4 0 (l.length + 1) ∧ L' = [(g', .row tW 4 C' ((l.take i ++ x :: l.drop i).map encW))]) := by
  refine FnSpec.capOf (k := 0) Tryd.func33 rfl rfl rfl fun hC => ?_
  rw [List.length_map] at hC
  refine FnSpec.start C_ok Tryd.func33 rfl rfl Tryd.ntmps33 ?_
  repeat(first|refine Sp ?_|refine fun(_:Nat)=>?_)
  refine ⟨by omega, ?_⟩
  repeat(first|refine Sp ?_|refine fun(_:Nat)=>?_)
  refine ⟨by omega, ?_⟩
  repeat(first|refine Sp ?_|refine fun(_:Nat)=>?_)
  refine ⟨fun h => absurd h (by decide), fun _ => ?_⟩
  repeat(first|refine Sp ?_|refine fun(_:Nat)=>?_)
  refine ⟨fun h => ?_, fun h => ?_⟩
  · have h : (i : Int) = (l.length : Int) := h
    repeat(first|refine Sp ?_|refine fun(_:Nat)=>?_)
    refine ⟨by simp, ?_⟩
    repeat(first|refine Sp ?_|refine fun(_:Nat)=>?_)
    have hl1 : (List.take 1 (List.drop 0 [encW x])).length = 1 := rfl
    have hrow : List.take l.length (l.map encW) ++ List.take 1 (List.drop 0 [encW x]) = (l.take i ++ x :: l.drop i).map encW := by
      have : i = l.length := by omega
      subst this
      rw [List.take_length, List.drop_length, List.take_of_length_le (by simp)]
      simp
    refine ⟨by rw [hl1]; omega, ?_⟩
    refine ⟨fun _ => ?_, fun _ g2 C2 hC2 => ?_⟩
    · repeat(first|refine Sp ?_|refine fun(_:Nat)=>?_)
      exact ⟨_, _, FinOk.keep _ [0] (Sub.sb _ 0 _ _ _ _ _) (by decide) rfl, _, _, rfl, congrArg (fun q => [(_, AObj.row tW 4 _ q)]) hrow⟩
    · repeat(first|refine Sp ?_|refine fun(_:Nat)=>?_)
      exact ⟨_, _, FinOk.keep _ [0] (Sub.sb _ 0 _ _ _ _ _) (by decide) rfl, _, _, rfl, congrArg (fun q => [(_, AObj.row tW 4 _ q)]) hrow⟩
  · have h : ¬ (i : Int) = (l.length : Int) := h
    repeat(first|refine Sp ?_|refine fun(_:Nat)=>?_)
    refine fun r hr => ?_
    obtain rfl := add1 hr (by omega)
    repeat(first|refine Sp ?_|refine fun(_:Nat)=>?_)
    refine ⟨fun h => ?_, fun h => ?_⟩
    · repeat(first|refine Sp ?_|refine fun(_:Nat)=>?_)
      refine ⟨by omega, ?_⟩
      repeat(first|refine Sp ?_|refine fun(_:Nat)=>?_)
      refine fun r hr => ?_
      obtain rfl := add1 hr (by omega)
      repeat(first|refine Sp ?_|refine fun(_:Nat)=>?_)
      refine fun r hr => ?_
      obtain rfl : r = ((l.length + 1 - i : Nat) : Int) := by rw [hr, IntKind.wrap_i64]; omega
      repeat(first|refine Sp ?_|refine fun(_:Nat)=>?_)
      refine ⟨by rw [List.length_map]; omega, ?_⟩
      repeat(first|refine Sp ?_|refine fun(_:Nat)=>?_)
      refine ⟨by omega, ?_⟩
      repeat(first|refine Sp ?_|refine fun(_:Nat)=>?_)
      refine ⟨by omega, ?_⟩
      repeat(first|refine Sp ?_|refine fun(_:Nat)=>?_)
      refine ⟨by omega, ?_⟩
      repeat(first|refine Sp ?_|refine fun(_:Nat)=>?_)
      have e4 : ((i : Int) - 0).toNat + ((l.length + 1 - i : Nat) : Int).toNat = l.length + 1 := by omega
      have e5 : List.take ((i : Int) - 0).toNat (l.map encW) = (l.take i).map encW := by rw [show ((i : Int) - 0).toNat = i by omega, List.map_take]
      rw [e4, e5]
      refine fun hC2 => ?_
      repeat(first|refine Sp ?_|refine fun(_:Nat)=>?_)
      refine ⟨by omega, ?_⟩
      repeat(first|refine Sp ?_|refine fun(_:Nat)=>?_)
      refine ⟨by omega, ?_⟩
      repeat(first|refine Sp ?_|refine fun(_:Nat)=>?_)
      intro hmm
      rename_i mm
      obtain rfl : mm = 1 := by omega
      refine ⟨rfl, rfl, rfl, rfl, by rw [List.length_map, List.length_take]; omega, by omega, Nat.le_refl 1, ?_⟩
      repeat(first|refine Sp ?_|refine fun(_:Nat)=>?_)
      refine Run.drawn false [0, 1, 2, 3, 4, 5, 6, 7, 8] (by kernel_rfl) ?_
      repeat(first|refine Sp ?_|refine fun(_:Nat)=>?_)
      refine fun r hr => ?_
      obtain rfl := add1 hr (by omega)
      repeat(first|refine Sp ?_|refine fun(_:Nat)=>?_)
      refine ⟨by omega, ?_⟩
      repeat(first|refine Sp ?_|refine fun(_:Nat)=>?_)
      refine ⟨by omega, ?_⟩
      repeat(first|refine Sp ?_|refine fun(_:Nat)=>?_)
      refine ⟨by omega, ?_⟩
      repeat(first|refine Sp ?_|refine fun(_:Nat)=>?_)
      refine ⟨by omega, ?_⟩
      repeat(first|refine Sp ?_|refine fun(_:Nat)=>?_)
      intro hmm
      rename_i mm
      obtain rfl : mm = l.length - i := by omega
      refine ⟨rfl, rfl, rfl, rfl, by simp; omega, by omega, by rw [List.length_map]; omega, ?_⟩
      repeat(first|refine Sp ?_|refine fun(_:Nat)=>?_)
      refine ⟨_, _, FinOk.keep _ [2] (Sub.sb _ 0 _ _ _ _ _) (by decide) rfl, _, _, rfl, congrArg (fun q => [(_, AObj.row tW 4 _ q)]) ?_⟩
      have := ins1 (l.map encW) (encW x) i (by rw [List.length_map]; omega)
      rw [List.length_map] at this
      simp only [Int.toNat_natCast, Nat.zero_add, List.map_take, List.map_append, List.map_cons, List.map_drop] at this ⊢
      exact this
    · repeat(first|refine Sp ?_|refine fun(_:Nat)=>?_)
      refine fun r hr => ?_
      obtain rfl := add1 hr (by omega)
      repeat(first|refine Sp ?_|refine fun(_:Nat)=>?_)
      refine ⟨by omega, ?_⟩
      repeat(first|refine Sp ?_|refine fun(_:Nat)=>?_)
      refine fun r hr => ?_
      obtain rfl := add1 hr (by omega)
      repeat(first|refine Sp ?_|refine fun(_:Nat)=>?_)
      refine ⟨by omega, ?_⟩
      repeat(first|refine Sp ?_|refine fun(_:Nat)=>?_)
      refine ⟨by omega, ?_⟩
      repeat(first|refine Sp ?_|refine fun(_:Nat)=>?_)
      refine ACall.ext _ (overlaps_ext C_ok Tryd.func53 rfl rfl (by kernel_rfl) (t := 45) (tR := 4) (by kernel_rfl) (e := tW) rfl (k := 1) (k' := 0) rfl rfl (by decide) (by omega)) ?_
      repeat(first|refine Sp ?_|refine fun(_:Nat)=>?_)
      refine Run.drawn false [0, 1, 2, 3, 4, 5, 6, 7, 8] (by kernel_rfl) ?_
      repeat(first|refine Sp ?_|refine fun(_:Nat)=>?_)
      refine fun r hr => ?_
      obtain rfl := add1 hr (by omega)
      repeat(first|refine Sp ?_|refine fun(_:Nat)=>?_)
      refine ⟨by omega, ?_⟩
      repeat(first|refine Sp ?_|refine fun(_:Nat)=>?_)
      refine ⟨by omega, ?_⟩
      repeat(first|refine Sp ?_|refine fun(_:Nat)=>?_)
      refine ⟨by omega, ?_⟩
      repeat(first|refine Sp ?_|refine fun(_:Nat)=>?_)
      refine ⟨by omega, ?_⟩
      repeat(first|refine Sp ?_|refine fun(_:Nat)=>?_)
      intro hmm
      rename_i mm
      obtain rfl : mm = l.length - i := by omega
      refine ⟨rfl, rfl, rfl, rfl, by rw [List.length_map]; omega, by omega, by rw [List.length_map]; omega, ?_⟩
      repeat(first|refine Sp ?_|refine fun(_:Nat)=>?_)
      refine ⟨by omega, ?_⟩
      repeat(first|refine Sp ?_|refine fun(_:Nat)=>?_)
      refine ⟨by omega, ?_⟩
      repeat(first|refine Sp ?_|refine fun(_:Nat)=>?_)
      intro hmm
      rename_i mm
      obtain rfl : mm = 1 := by omega
      refine ⟨rfl, rfl, rfl, rfl, by simp; omega, by omega, Nat.le_refl 1, ?_⟩
      repeat(first|refine Sp ?_|refine fun(_:Nat)=>?_)
      refine ⟨_, _, FinOk.keep _ [0] (Sub.sb _ 0 _ _ _ _ _) (by decide) rfl, _, _, congrArg (AV.sb 0 _ _ 4 0) (by omega), congrArg (fun q => [(_, AObj.row tW 4 _ q)]) ?_⟩
      have := ins2 (l.map encW) (encW x) i (by rw [List.length_map]; omega)
      rw [List.length_map] at this
      simp only [Int.toNat_natCast, Int.toNat_zero, Nat.zero_add, List.map_take, List.map_append, List.map_cons, List.map_drop] at this ⊢
      exact this
end Go.Proofs.YtgpbppkmmlclfaaDoor.HBT
/- A watch is put into a list that is not there. -/
namespace Go.Proofs.YtgpbppkmmlclfaaDoor.HBT
open Go Go.Proofs.YtgpbppkmmlclfaaDoor.HB Go.RowKit
set_option maxRecDepth 8000

theorem insert_nil (g1 : Nat) (x : Wt) : FnSpec C 33 [.nils, .int .i64 0, .sb 0 g1 1 4 0 1] [(g1, .row tW 4 1 [encW x])]
    (fun r L' => ∃ g' C', r = .sb 0 g' C' 4 0 1 ∧ L' = [(g', .row tW 4 C' [encW x])]) := by
  refine FnSpec.start C_ok Tryd.func33 rfl rfl Tryd.ntmps33 ?_
  repeat(first|refine Sp ?_|refine fun(_:Nat)=>?_)
  refine ⟨fun h => absurd h (by decide), fun _ => ?_⟩
  repeat(first|refine Sp ?_|refine fun(_:Nat)=>?_)
  refine ⟨fun _ => ?_, fun h => absurd rfl h⟩
  repeat(first|refine Sp ?_|refine fun(_:Nat)=>?_)
  refine ⟨fun h => absurd h (by simp), fun _ => ?_⟩
  repeat(first|refine Sp ?_|refine fun(_:Nat)=>?_)
  exact ⟨_, _, FinOk.keep _ [1] (Sub.sl_sb _ 0 _ _ 4 _) (by decide) rfl, _, _, rfl, rfl⟩
end Go.Proofs.YtgpbppkmmlclfaaDoor.HBT
