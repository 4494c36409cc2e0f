/- The document's tree: find, kid, kids. -/
import Derived.Test.YtcbjcmigecocgaaGreatDoorTwT6
import Derived.Test.YtcbjcmigecocgaaGreatDoorTwR9
set_option linter.unusedVariables false
set_option linter.unusedSimpArgs false
namespace Go.Proofs.YtcbjcmigecocgaaGreatDoor.HBT
open Go Go.Proofs.YtcbjcmigecocgaaGreatDoor.HB Go.RowKit
set_option maxRecDepth 8000

def idxF : List Fu → ByteArray → Nat → Int
  | [], _, _ => -1
  | x :: l, p, i => if x.p = p then i else idxF l p (i + 1)
theorem idxF_cons (x : Fu) (l : List Fu) (p : ByteArray) (i : Nat) : idxF (x :: l) p i = if x.p = p then (i : Int) else idxF l p (i + 1) := rfl
theorem idxF_cases : ∀ (l : List Fu) (p : ByteArray) (i : Nat), (findF l p = none ∧ idxF l p i = -1) ∨ ∃ j x, findF l p = some x ∧ l[j]? = some x ∧ idxF l p i = (i + j : Nat)
  | [], _, _ => .inl ⟨rfl, rfl⟩
  | x :: l, p, i => by
    unfold idxF findF
    by_cases h : x.p = p
    · rw [if_pos h, List.find?_cons_of_pos (by simpa using h)]
      exact .inr ⟨0, x, rfl, rfl, rfl⟩
    · rw [if_neg h, List.find?_cons_of_neg (by simpa using h)]
      rcases idxF_cases l p (i + 1) with ⟨h1, h2⟩ | ⟨j, y, h1, h2, h3⟩
      · exact .inl ⟨h1, h2⟩
      · exact .inr ⟨j + 1, y, h1, by simpa using h2, by rw [h3]; congr 1; omega⟩
set_option maxHeartbeats 4000000 in
theorem refFind_spec (l : List Fu) (p : ByteArray) (hl : l.length ≤ 1000) : FnSpec C 31 [rdX l, .str p] [] (fun r L' => r = .int .i64 (idxF l p 0) ∧ L' = []) := by
  refine FnSpec.start C_ok Tryz.func31 rfl rfl Tryz.ntmps31 ?_
  repeat(first|refine Sc ?_|refine fun(_:Nat)=>?_)
  refine Run.loop (fun k env L => ∃ i : Nat, k = l.length - i ∧ i ≤ l.length ∧ idxF l p 0 = idxF (l.drop i) p i ∧ env = [rdX l, .str p, .junk, .junk, .junk, .int .i64 i, .junk, .junk, .junk, .junk, .junk, .junk, .junk, .junk, .junk, .junk, .junk, .junk, .junk, .junk] ∧ L = []) l.length [rdX l, .str p, .junk, .junk, .junk, .int .i64 (0 : Nat), .junk, .junk, .junk, .junk, .junk, .junk, .junk, .junk, .junk, .junk, .junk, .junk, .junk, .junk] ?_ ⟨0, by omega, by omega, by rw [List.drop_zero], rfl, rfl⟩ ?_
  · repeat(first|exact trivial|refine ⟨.inl rfl, ?_⟩|refine ⟨.inr rfl, ?_⟩)
  rintro k env L ⟨i, rfl, hi, hP, rfl, rfl⟩
  repeat(first|refine Sc ?_|refine fun(_:Nat)=>?_)
  refine ⟨fun h => ?_, fun h => ?_⟩
  · have h : (i : Int) < (l.length : Int) := h
    have hil : i < l.length := by omega
    obtain ⟨x, ex⟩ : ∃ x, l[i]? = some x := ⟨_, List.getElem?_eq_getElem hil⟩
    rw [drop_at ex, idxF_cons] at hP
    repeat(first|refine Sc ?_|refine fun(_:Nat)=>?_)
    refine ⟨h, encX x, map_at encX ex, ?_⟩
    repeat(first|refine Sc ?_|refine fun(_:Nat)=>?_)
    refine ⟨fun hp => ?_, fun hp => ?_⟩
    · have hp : x.p = p := hp
      rw [if_pos hp] at hP
      repeat(first|refine Sc ?_|refine fun(_:Nat)=>?_)
      exact ⟨_, [], FinOk.drop _ _, by rw [hP]; rfl, rfl⟩
    · have hp : ¬ x.p = p := hp
      rw [if_neg hp] at hP
      repeat(first|refine Sc ?_|refine fun(_:Nat)=>?_)
      refine fun r hr => ?_
      obtain rfl := add1 hr (by omega)
      repeat(first|refine Sc ?_|refine fun(_:Nat)=>?_)
      refine Cont.lp ?_
      refine ⟨l.length - (i + 1), _, 99, by omega, ?_, ⟨i + 1, rfl, by omega, hP, rfl, rfl⟩⟩
      · repeat(first|exact trivial|refine ⟨.inl rfl, ?_⟩|refine ⟨.inr rfl, ?_⟩)
  · have h : ¬ (i : Int) < (l.length : Int) := h
    rw [List.drop_of_length_le (by omega)] at hP
    repeat(first|refine Sc ?_|refine fun(_:Nat)=>?_)
    exact ⟨_, [], FinOk.drop _ _, by rw [hP]; rfl, rfl⟩
theorem refKid_spec (t a : ByteArray) : FnSpec C 33 [.str t, .str a] [] (fun r L' => r = .bool (decide (childB t a)) ∧ L' = []) := by
  refine FnSpec.start C_ok Tryz.func33 rfl rfl Tryz.ntmps33 ?_
  repeat(first|refine Sc ?_|refine fun(_:Nat)=>?_)
  refine ACallT.ok (ACall.ret (refParent_spec t) ?_)
  repeat(first|refine Sc ?_|refine fun(_:Nat)=>?_)
  refine ⟨fun h => ?_, fun h => ?_⟩
  · have h : parentE t = 0 := h
    repeat(first|refine Sc ?_|refine fun(_:Nat)=>?_)
    refine ⟨fun h2 => ?_, fun h2 => ?_⟩
    · have h2 : parentB t = a := h2
      repeat(first|refine Sc ?_|refine fun(_:Nat)=>?_)
      exact ⟨_, [], FinOk.drop _ _, congrArg AV.bool (decide_eq_true (show childB t a from ⟨h, h2⟩)).symm, rfl⟩
    · have h2 : ¬ parentB t = a := h2
      repeat(first|refine Sc ?_|refine fun(_:Nat)=>?_)
      exact ⟨_, [], FinOk.drop _ _, congrArg AV.bool (decide_eq_false (show ¬ childB t a from fun e => h2 e.2)).symm, rfl⟩
  · have h : ¬ parentE t = 0 := h
    repeat(first|refine Sc ?_|refine fun(_:Nat)=>?_)
    exact ⟨_, [], FinOk.drop _ _, congrArg AV.bool (decide_eq_false (show ¬ childB t a from fun e => h e.1)).symm, rfl⟩
theorem kids_more {l : List Fu} {i : Nat} {x : Fu} (ex : l[i]? = some x) (a : ByteArray) : kidsF (l.take (i + 1)) a = kidsF (l.take i) a ++ (if childB x.p a then [x] else []) := by
  obtain ⟨h1, e1⟩ := List.getElem?_eq_some_iff.1 ex
  unfold kidsF
  rw [List.take_succ_eq_append_getElem h1, e1, List.filter_append]
  congr 1
  by_cases h : childB x.p a
  · rw [if_pos h, List.filter_cons_of_pos (by simpa using h)]; rfl
  · rw [if_neg h, List.filter_cons_of_neg (by simpa using h)]; rfl
set_option maxHeartbeats 4000000 in
theorem refKids_spec (l : List Fu) (a : ByteArray) (hl : l.length ≤ 100) : FnSpec C 48 [rdX l, .str a] [] (fun r L' => r = kidsA ((kidsF l a).map fun y => nameB y.p) ∧ L' = []) := by
  refine FnSpec.start C_ok Tryz.func48 rfl rfl Tryz.ntmps48 ?_
  repeat(first|refine Sc ?_|refine fun(_:Nat)=>?_)
  refine Run.loopW (fun m env L => ∃ (i : Nat) (v : AV) (gk : Nat) (o : AObj), m = l.length - i ∧ i ≤ l.length ∧ LN AV.str 9 1 0 ((kidsF (l.take i) a).map fun y => nameB y.p) v gk o ∧ env = [rdX l, .str a, .junk, .junk, .junk, v, .int .i64 i, .junk, .junk, .junk, .junk, .junk, .junk, .junk, .junk, .junk, .junk, .junk, .junk, .junk, .junk, .junk, .junk, .junk, .junk, .junk, .junk, .junk, .junk, .junk, .junk, .junk, .junk, .junk, .junk, .junk, .junk, .junk] ∧ L = [(gk, o)]) l.length
    [rdX l, .str a, .junk, .junk, .junk, .nils, .int .i64 (0 : Nat), .junk, .junk, .junk, .junk, .junk, .junk, .junk, .junk, .junk, .junk, .junk, .junk, .junk, .junk, .junk, .junk, .junk, .junk, .junk, .junk, .junk, .junk, .junk, .junk, .junk, .junk, .junk, .junk, .junk, .junk, .junk] [(0, .dead)] (Weak.sel ?_ [9] (by decide) ?_) ⟨0, .nils, 0, .dead, by omega, by omega, .inl ⟨rfl, rfl, rfl⟩, rfl, rfl⟩ ?_
  · exact Ss
  · exact Sl
  rintro m env L ⟨i, v, gk, o, rfl, hi, hv, rfl, rfl⟩
  repeat(first|refine Sc ?_|refine fun(_:Nat)=>?_)
  refine ⟨fun h => ?_, fun h => ?_⟩
  · have h : (i : Int) < (l.length : Int) := h
    obtain ⟨x, ex⟩ : ∃ x, l[i]? = some x := ⟨_, List.getElem?_eq_getElem (by omega)⟩
    have hm := kids_more ex a
    repeat(first|refine Sc ?_|refine fun(_:Nat)=>?_)
    refine ⟨h, encX x, map_at encX ex, ?_⟩
    repeat(first|refine Sc ?_|refine fun(_:Nat)=>?_)
    refine ACallT.ok (ACall.ret (refKid_spec x.p a) ?_)
    by_cases hc : childB x.p a
    · rw [decide_eq_true hc]
      rw [if_pos hc] at hm
      have hlen : ((kidsF (l.take i) a).map fun y => nameB y.p).length ≤ 100 := by
        rw [List.length_map]
        have h1 := List.length_filter_le (fun x : Fu => decide (childB x.p a)) (l.take i)
        rw [List.length_take] at h1
        unfold kidsF
        omega
      have hm2 : (kidsF (l.take (i + 1)) a).map (fun y => nameB y.p) = ((kidsF (l.take i) a).map fun y => nameB y.p) ++ [nameB x.p] := by rw [hm, List.map_append]; rfl
      generalize ((kidsF (l.take i) a).map fun y => nameB y.p) = ns at hv hlen hm2
      repeat(first|refine Sc ?_|refine fun(_:Nat)=>?_)
      refine ⟨h, encX x, map_at encX ex, ?_⟩
      repeat(first|refine Sc ?_|refine fun(_:Nat)=>?_)
      refine ACallT.ok (ACall.ret (refName_spec x.p) ?_)
      repeat(first|refine Sc ?_|refine fun(_:Nat)=>?_)
      rcases hv with ⟨e0, rfl, rfl⟩ | ⟨Cp, rfl, rfl⟩
      · repeat(first|refine Sc ?_|refine fun(_:Nat)=>?_)
        refine ⟨fun h => absurd h (List.cons_ne_nil _ _), fun _ => ?_⟩
        repeat(first|refine Sc ?_|refine fun(_:Nat)=>?_)
        rename_i g' Cp'
        refine fun r hr => ?_
        obtain rfl := add1 hr (by omega)
        repeat(first|refine Sc ?_|refine fun(_:Nat)=>?_)
        refine Cont.lpW ?_
        refine ⟨l.length - (i + 1), _, _, by omega, Weak.sel ?_ [2] (by decide) ?_, ⟨i + 1, .sl 0 g' Cp' 1, g', _, rfl, by omega, hm2.symm ▸ LN.one e0, rfl, rfl⟩⟩
        · exact Ss
        · exact Sl
      · repeat(first|refine Sc ?_|refine fun(_:Nat)=>?_)
        refine ⟨by simp, ?_⟩
        repeat(first|refine Sc ?_|refine fun(_:Nat)=>?_)
        refine ⟨by simp; omega, ?_⟩
        repeat(first|refine Sc ?_|refine fun(_:Nat)=>?_)
        rename_i g' Cp'
        refine fun r hr => ?_
        obtain rfl := add1 hr (by omega)
        repeat(first|refine Sc ?_|refine fun(_:Nat)=>?_)
        refine Cont.lpW ?_
        refine ⟨l.length - (i + 1), _, _, by omega, Weak.sel ?_ [0] (by decide) ?_, ⟨i + 1, .sl 0 g' Cp' ((ns.map AV.str).length + 1), g', _, rfl, by omega, hm2.symm ▸ LN.snoc, rfl, rfl⟩⟩
        · exact Ss
        · exact Sl
    · rw [decide_eq_false hc]
      rw [if_neg hc, List.append_nil] at hm
      repeat(first|refine Sc ?_|refine fun(_:Nat)=>?_)
      refine fun r hr => ?_
      obtain rfl := add1 hr (by omega)
      repeat(first|refine Sc ?_|refine fun(_:Nat)=>?_)
      refine Cont.lpW ?_
      refine ⟨l.length - (i + 1), _, _, by omega, Weak.sel ?_ [0] (by decide) ?_, ⟨i + 1, v, gk, o, rfl, by omega, hm.symm ▸ hv, rfl, rfl⟩⟩
      · exact Ss
      · exact Sl
  · have h : ¬ (i : Int) < (l.length : Int) := h
    have ei : l.take i = l := List.take_of_length_le (by omega)
    rw [ei] at hv
    repeat(first|refine Sc ?_|refine fun(_:Nat)=>?_)
    exact ⟨kidsA ((kidsF l a).map fun y => nameB y.p), [], FinOk.lend (hv.lend rfl), rfl, rfl⟩
end Go.Proofs.YtcbjcmigecocgaaGreatDoor.HBT
