/- The document's tree: with, without, shown, static. -/
import Derived.Test.YtcbjcmigecocgaaGreatDoorTwU1
set_option linter.unusedVariables false
set_option linter.unusedSimpArgs false
namespace Go.Proofs.YtcbjcmigecocgaaGreatDoor.HBT
open Go Go.Proofs.YtcbjcmigecocgaaGreatDoor.HB Go.RowKit
set_option maxRecDepth 8000

abbrev tY : TypeId := 67
abbrev LY := LN encX tY 7
def WithI (l : List Fu) (n : Fu) (i : Nat) (put : Bool) (m : List Fu) : Prop :=
  if put = true then m ++ l.drop i = ins n l else m = l.take i ∧ ins n l = l.take i ++ ins n (l.drop i)
theorem WithI.start (l : List Fu) (n : Fu) : WithI l n 0 false [] := ⟨rfl, by rw [List.take_zero, List.drop_zero]; rfl⟩
theorem WithI.put {l : List Fu} {n x : Fu} {i : Nat} {m : List Fu} (h : WithI l n i false m) (ex : l[i]? = some x) (ho : orderB n.p x.p < 0) : WithI l n (i + 1) true ((m ++ [n]) ++ [x]) := by
  obtain ⟨rfl, h2⟩ := h
  have e : ins n (l.drop i) = n :: x :: l.drop (i + 1) := by
    rw [drop_at ex]
    show (if orderB n.p x.p < 0 then n :: x :: l.drop (i + 1) else x :: ins n (l.drop (i + 1))) = _
    rw [if_pos ho]
  show (l.take i ++ [n]) ++ [x] ++ l.drop (i + 1) = ins n l
  rw [h2, e]
  simp
theorem WithI.far {l : List Fu} {n x : Fu} {i : Nat} {m : List Fu} (h : WithI l n i false m) (ex : l[i]? = some x) (ho : ¬ orderB n.p x.p < 0) : WithI l n (i + 1) false (m ++ [x]) := by
  obtain ⟨rfl, h2⟩ := h
  obtain ⟨h1, e1⟩ := List.getElem?_eq_some_iff.1 ex
  have e : ins n (l.drop i) = x :: ins n (l.drop (i + 1)) := by
    rw [drop_at ex]
    show (if orderB n.p x.p < 0 then n :: x :: l.drop (i + 1) else x :: ins n (l.drop (i + 1))) = _
    rw [if_neg ho]
  have e2 : l.take (i + 1) = l.take i ++ [x] := by rw [List.take_succ_eq_append_getElem h1, e1]
  exact ⟨e2.symm, by rw [h2, e, e2]; simp⟩
theorem WithI.more {l : List Fu} {n x : Fu} {i : Nat} {m : List Fu} (h : WithI l n i true m) (ex : l[i]? = some x) : WithI l n (i + 1) true (m ++ [x]) := by
  have h : m ++ l.drop i = ins n l := h
  rw [drop_at ex] at h
  show (m ++ [x]) ++ l.drop (i + 1) = _
  rw [← h]; simp
theorem WithI.done {l : List Fu} {n : Fu} {m : List Fu} (h : WithI l n l.length true m) : m = ins n l := by
  have h : m ++ l.drop l.length = ins n l := h
  rw [List.drop_length, List.append_nil] at h
  exact h
theorem WithI.last {l : List Fu} {n : Fu} {m : List Fu} (h : WithI l n l.length false m) : m ++ [n] = ins n l := by
  obtain ⟨rfl, h2⟩ := h
  rw [h2, List.drop_length]
  rfl
theorem WithI.len {l : List Fu} {n : Fu} {i : Nat} {b : Bool} {m : List Fu} (h : WithI l n i b m) : m.length ≤ l.length + 1 := by
  cases b with
  | true =>
    have h : m ++ l.drop i = ins n l := h
    have := congrArg List.length h
    rw [List.length_append, (ins_perm n l).length_eq, List.length_cons] at this
    omega
  | false =>
    obtain ⟨rfl, _⟩ := h
    rw [List.length_take]; omega
set_option maxHeartbeats 4000000 in
theorem refWith_spec (l : List Fu) (n : Fu) (hl : l.length ≤ 100) (hn : n.p.size ≤ 1000) : FnSpec C 46 [rdX l, encX n] [] (fun r L' => ∃ g Cp, r = .sl 0 g Cp (ins n l).length ∧ L' = [(g, .row tY 7 Cp ((ins n l).map encX))]) := by
  refine FnSpec.start C_ok Tryz.func46 rfl rfl Tryz.ntmps46 ?_
  repeat(first|refine Sc ?_|refine fun(_:Nat)=>?_)
  rename_i g3
  refine Run.loopW (fun k env L => ∃ (i : Nat) (put : Bool) (m : List Fu) (v : AV) (gk : Nat) (o : AObj), k = l.length - i ∧ i ≤ l.length ∧ WithI l n i put m ∧ LY 1 m v gk o ∧ env = [rdX l, .junk, .junk, .ptr 0 g3 0, .junk, v, .bool put, .int .i64 i, .junk, .junk, .junk, .junk, .junk, .junk, .junk, .junk, .junk, .junk, .junk, .junk, .junk, .junk, .junk, .junk, .junk, .junk, .junk, .junk, .junk, .junk, .junk, .junk, .junk, .junk, .junk, .junk, .junk, .junk, .junk, .junk, .junk, .junk, .junk, .junk, .junk, .junk, .junk] ∧ L = [(g3, .cells tY [.str n.p, .str n.d, .int .i64 n.v, .int .i64 n.m, .int .i64 n.c, .int .i64 n.o, .int .i64 n.k]), (gk, o)]) l.length
    [rdX l, .junk, .junk, .ptr 0 g3 0, .junk, .nils, .bool false, .int .i64 (0 : Nat), .junk, .junk, .junk, .junk, .junk, .junk, .junk, .junk, .junk, .junk, .junk, .junk, .junk, .junk, .junk, .junk, .junk, .junk, .junk, .junk, .junk, .junk, .junk, .junk, .junk, .junk, .junk, .junk, .junk, .junk, .junk, .junk, .junk, .junk, .junk, .junk, .junk, .junk, .junk] [(g3, .cells tY [.str n.p, .str n.d, .int .i64 n.v, .int .i64 n.m, .int .i64 n.c, .int .i64 n.o, .int .i64 n.k]), (0, .dead)] (Weak.sel ?_ [0, 9] (by decide) ?_) ⟨0, false, [], .nils, 0, .dead, by omega, by omega, WithI.start l n, .inl ⟨rfl, rfl, rfl⟩, rfl, rfl⟩ ?_
  · exact Ss
  · exact Sl
  rintro k env L ⟨i, put, m, v, gk, o, rfl, hi, hW, hv, rfl, rfl⟩
  have hml := hW.len
  repeat(first|refine Sc ?_|refine fun(_:Nat)=>?_)
  refine ⟨fun h => ?_, fun h => ?_⟩
  · have h : (i : Int) < (l.length : Int) := h
    obtain ⟨x, ex⟩ : ∃ x, l[i]? = some x := ⟨_, List.getElem?_eq_getElem (by omega)⟩
    repeat(first|refine Sc ?_|refine fun(_:Nat)=>?_)
    refine Run.drawnK C_ok (aopC_sound C_ok) [0] [0, 1, 2, 3, 4, 5, 6, 7, 8] (by kernel_rfl) ?_
    repeat(first|refine Sc ?_|refine fun(_:Nat)=>?_)
    refine ⟨h, encX x, map_at encX ex, ?_⟩
    repeat(first|refine Sc ?_|refine fun(_:Nat)=>?_)
    refine ACallT.ok (ACall.ret (refOrder_spec n.p x.p (by omega)) ?_)
    cases put with
    | true =>
      repeat(first|refine Sc ?_|refine fun(_:Nat)=>?_)
      rcases hv with ⟨e0, rfl, rfl⟩ | ⟨Cp, rfl, rfl⟩
      · repeat(first|refine Sc ?_|refine fun(_:Nat)=>?_)
        refine ⟨h, encX x, map_at encX ex, ?_⟩
        repeat(first|refine Sc ?_|refine fun(_:Nat)=>?_)
        refine ⟨fun h => absurd h (List.cons_ne_nil _ _), fun _ => ?_⟩
        repeat(first|refine Sc ?_|refine fun(_:Nat)=>?_)
        rename_i g' Cp'
        repeat(first|refine Sc ?_|refine fun(_:Nat)=>?_)
        refine fun r hr => ?_
        obtain rfl := add1 hr (by omega)
        repeat(first|refine Sc ?_|refine fun(_:Nat)=>?_)
        refine Cont.lpW ?_
        refine ⟨l.length - (i + 1), _, _, by omega, Weak.sel ?_ [0, 3] (by decide) ?_, ⟨i + 1, true, m ++ [x], .sl 1 g' Cp' 1, g', _, rfl, by omega, hW.more ex, LN.one e0, rfl, rfl⟩⟩
        · exact Ss
        · exact Sl
      · repeat(first|refine Sc ?_|refine fun(_:Nat)=>?_)
        refine ⟨h, encX x, map_at encX ex, ?_⟩
        repeat(first|refine Sc ?_|refine fun(_:Nat)=>?_)
        refine ⟨by simp, ?_⟩
        repeat(first|refine Sc ?_|refine fun(_:Nat)=>?_)
        refine ⟨by simp; omega, ?_⟩
        repeat(first|refine Sc ?_|refine fun(_:Nat)=>?_)
        rename_i g' Cp'
        repeat(first|refine Sc ?_|refine fun(_:Nat)=>?_)
        refine fun r hr => ?_
        obtain rfl := add1 hr (by omega)
        repeat(first|refine Sc ?_|refine fun(_:Nat)=>?_)
        refine Cont.lpW ?_
        refine ⟨l.length - (i + 1), _, _, by omega, Weak.sel ?_ [0, 1] (by decide) ?_, ⟨i + 1, true, m ++ [x], .sl 1 g' Cp' ((m.map encX).length + 1), g', _, rfl, by omega, hW.more ex, LN.snoc, rfl, rfl⟩⟩
        · exact Ss
        · exact Sl
    | false =>
      repeat(first|refine Sc ?_|refine fun(_:Nat)=>?_)
      refine ⟨fun ho => ?_, fun ho => ?_⟩
      · have ho : orderB n.p x.p < 0 := ho
        repeat(first|refine Sc ?_|refine fun(_:Nat)=>?_)
        rcases hv with ⟨e0, rfl, rfl⟩ | ⟨Cp, rfl, rfl⟩
        · repeat(first|refine Sc ?_|refine fun(_:Nat)=>?_)
          refine ⟨fun h => absurd h (List.cons_ne_nil _ _), fun _ => ?_⟩
          repeat(first|refine Sc ?_|refine fun(_:Nat)=>?_)
          refine ⟨h, encX x, map_at encX ex, ?_⟩
          repeat(first|refine Sc ?_|refine fun(_:Nat)=>?_)
          rename_i g' Cp'
          repeat(first|refine Sc ?_|refine fun(_:Nat)=>?_)
          refine fun r hr => ?_
          obtain rfl := add1 hr (by omega)
          repeat(first|refine Sc ?_|refine fun(_:Nat)=>?_)
          refine Cont.lpW ?_
          refine ⟨l.length - (i + 1), _, _, by omega, Weak.sel ?_ [0, 3] (by decide) ?_, ⟨i + 1, true, (m ++ [n]) ++ [x], .sl 1 g' Cp' 2, g', _, rfl, by omega, hW.put ex ho, .inr ⟨Cp', by subst e0; rfl, by subst e0; rfl⟩, rfl, rfl⟩⟩
          · exact Ss
          · exact Sl
        · repeat(first|refine Sc ?_|refine fun(_:Nat)=>?_)
          refine ⟨by simp, ?_⟩
          repeat(first|refine Sc ?_|refine fun(_:Nat)=>?_)
          refine ⟨by simp; omega, ?_⟩
          repeat(first|refine Sc ?_|refine fun(_:Nat)=>?_)
          refine ⟨h, encX x, map_at encX ex, ?_⟩
          repeat(first|refine Sc ?_|refine fun(_:Nat)=>?_)
          refine ⟨by simp, ?_⟩
          repeat(first|refine Sc ?_|refine fun(_:Nat)=>?_)
          refine ⟨by simp; omega, ?_⟩
          repeat(first|refine Sc ?_|refine fun(_:Nat)=>?_)
          rename_i g' Cp'
          repeat(first|refine Sc ?_|refine fun(_:Nat)=>?_)
          refine fun r hr => ?_
          obtain rfl := add1 hr (by omega)
          repeat(first|refine Sc ?_|refine fun(_:Nat)=>?_)
          refine Cont.lpW ?_
          refine ⟨l.length - (i + 1), _, _, by omega, Weak.sel ?_ [0, 1] (by decide) ?_, ⟨i + 1, true, (m ++ [n]) ++ [x], .sl 1 g' Cp' ((m.map encX ++ [encX n]).length + 1), g', .row tY 7 Cp' (m.map encX ++ [encX n] ++ [encX x]), rfl, by omega, hW.put ex ho, .inr ⟨Cp', by simp, by simp⟩, rfl, rfl⟩⟩
          · exact Ss
          · exact Sl
      · have ho : ¬ orderB n.p x.p < 0 := ho
        repeat(first|refine Sc ?_|refine fun(_:Nat)=>?_)
        rcases hv with ⟨e0, rfl, rfl⟩ | ⟨Cp, rfl, rfl⟩
        · repeat(first|refine Sc ?_|refine fun(_:Nat)=>?_)
          refine ⟨h, encX x, map_at encX ex, ?_⟩
          repeat(first|refine Sc ?_|refine fun(_:Nat)=>?_)
          refine ⟨fun h => absurd h (List.cons_ne_nil _ _), fun _ => ?_⟩
          repeat(first|refine Sc ?_|refine fun(_:Nat)=>?_)
          rename_i g' Cp'
          repeat(first|refine Sc ?_|refine fun(_:Nat)=>?_)
          refine fun r hr => ?_
          obtain rfl := add1 hr (by omega)
          repeat(first|refine Sc ?_|refine fun(_:Nat)=>?_)
          refine Cont.lpW ?_
          refine ⟨l.length - (i + 1), _, _, by omega, Weak.sel ?_ [0, 3] (by decide) ?_, ⟨i + 1, false, m ++ [x], .sl 1 g' Cp' 1, g', _, rfl, by omega, hW.far ex ho, LN.one e0, rfl, rfl⟩⟩
          · exact Ss
          · exact Sl
        · repeat(first|refine Sc ?_|refine fun(_:Nat)=>?_)
          refine ⟨h, encX x, map_at encX ex, ?_⟩
          repeat(first|refine Sc ?_|refine fun(_:Nat)=>?_)
          refine ⟨by simp, ?_⟩
          repeat(first|refine Sc ?_|refine fun(_:Nat)=>?_)
          refine ⟨by simp; omega, ?_⟩
          repeat(first|refine Sc ?_|refine fun(_:Nat)=>?_)
          rename_i g' Cp'
          repeat(first|refine Sc ?_|refine fun(_:Nat)=>?_)
          refine fun r hr => ?_
          obtain rfl := add1 hr (by omega)
          repeat(first|refine Sc ?_|refine fun(_:Nat)=>?_)
          refine Cont.lpW ?_
          refine ⟨l.length - (i + 1), _, _, by omega, Weak.sel ?_ [0, 1] (by decide) ?_, ⟨i + 1, false, m ++ [x], .sl 1 g' Cp' ((m.map encX).length + 1), g', _, rfl, by omega, hW.far ex ho, LN.snoc, rfl, rfl⟩⟩
          · exact Ss
          · exact Sl
  · have h : ¬ (i : Int) < (l.length : Int) := h
    have ei : i = l.length := by omega
    subst ei
    cases put with
    | true =>
      have hd := hW.done
      rcases hv with ⟨e0, rfl, rfl⟩ | ⟨Cp, rfl, rfl⟩
      · have := congrArg List.length hd
        rw [e0, (ins_perm n l).length_eq] at this
        simp at this
      · repeat(first|refine Sc ?_|refine fun(_:Nat)=>?_)
        exact ⟨.sl 0 gk Cp m.length, _, FinOk.keep _ [1] (Sub.sl _ _ _ _ _) (by decide) rfl, gk, Cp, by rw [hd], by rw [← hd]; rfl⟩
    | false =>
      have hd := hW.last
      rcases hv with ⟨e0, rfl, rfl⟩ | ⟨Cp, rfl, rfl⟩
      · repeat(first|refine Sc ?_|refine fun(_:Nat)=>?_)
        refine ⟨fun h => absurd h (List.cons_ne_nil _ _), fun _ => ?_⟩
        repeat(first|refine Sc ?_|refine fun(_:Nat)=>?_)
        rename_i g' Cp'
        exact ⟨.sl 0 g' Cp' 1, _, FinOk.keep _ [3] (Sub.sl _ _ _ _ _) (by decide) rfl, g', Cp', by rw [← hd, e0]; rfl, by rw [← hd, e0]; rfl⟩
      · repeat(first|refine Sc ?_|refine fun(_:Nat)=>?_)
        refine ⟨by simp, ?_⟩
        repeat(first|refine Sc ?_|refine fun(_:Nat)=>?_)
        refine ⟨by simp; omega, ?_⟩
        repeat(first|refine Sc ?_|refine fun(_:Nat)=>?_)
        rename_i g' Cp'
        exact ⟨.sl 0 g' Cp' ((m.map encX).length + 1), _, FinOk.keep _ [1] (Sub.sl _ _ _ _ _) (by decide) rfl, g', Cp', by rw [← hd]; simp, by rw [← hd]; simp⟩
theorem erase_more {l : List Fu} {i : Nat} {x : Fu} (ex : l[i]? = some x) (j : Nat) : (l.take (i + 1)).eraseIdx j = if i = j then (l.take i).eraseIdx j else (l.take i).eraseIdx j ++ [x] := by
  obtain ⟨h1, e1⟩ := List.getElem?_eq_some_iff.1 ex
  have hl : (l.take i).length = i := by rw [List.length_take]; omega
  rw [List.take_succ_eq_append_getElem h1, e1]
  by_cases h : i = j
  · subst h
    rw [if_pos rfl, List.eraseIdx_append_of_length_le (by omega), hl, Nat.sub_self, List.eraseIdx_of_length_le (l := l.take i) (by omega)]
    simp
  · rw [if_neg h]
    by_cases hlt : j < i
    · rw [List.eraseIdx_append_of_lt_length (by omega)]
    · rw [List.eraseIdx_append_of_length_le (by omega), hl, List.eraseIdx_of_length_le (l := [x]) (by show 1 ≤ j - i; omega), List.eraseIdx_of_length_le (l := l.take i) (by omega)]
set_option maxHeartbeats 4000000 in
theorem refWithout_spec (l : List Fu) (j : Nat) (hl : l.length ≤ 100) : FnSpec C 47 [rdX l, .int .i64 j] [] (fun r L' => r = rdX (l.eraseIdx j) ∧ L' = []) := by
  refine FnSpec.start C_ok Tryz.func47 rfl rfl Tryz.ntmps47 ?_
  repeat(first|refine Sc ?_|refine fun(_:Nat)=>?_)
  refine Run.loopW (fun k env L => ∃ (i : Nat) (v : AV) (gk : Nat) (o : AObj), k = l.length - i ∧ i ≤ l.length ∧ LY 0 ((l.take i).eraseIdx j) v gk o ∧ env = [rdX l, .int .i64 j, .junk, .junk, .junk, v, .int .i64 i, .junk, .junk, .junk, .junk, .junk, .junk, .junk, .junk, .junk, .junk, .junk, .junk, .junk, .junk, .junk, .junk, .junk] ∧ L = [(gk, o)]) l.length
    [rdX l, .int .i64 j, .junk, .junk, .junk, .nils, .int .i64 (0 : Nat), .junk, .junk, .junk, .junk, .junk, .junk, .junk, .junk, .junk, .junk, .junk, .junk, .junk, .junk, .junk, .junk, .junk] [(0, .dead)] (Weak.sel ?_ [9] (by decide) ?_) ⟨0, .nils, 0, .dead, by omega, by omega, .inl ⟨rfl, rfl, rfl⟩, rfl, rfl⟩ ?_
  · exact Ss
  · exact Sl
  rintro k env L ⟨i, v, gk, o, rfl, hi, hv, rfl, rfl⟩
  repeat(first|refine Sc ?_|refine fun(_:Nat)=>?_)
  refine ⟨fun h => ?_, fun h => ?_⟩
  · have h : (i : Int) < (l.length : Int) := h
    obtain ⟨x, ex⟩ : ∃ x, l[i]? = some x := ⟨_, List.getElem?_eq_getElem (by omega)⟩
    have hm := erase_more ex j
    repeat(first|refine Sc ?_|refine fun(_:Nat)=>?_)
    refine ⟨fun hj => ?_, fun hj => ?_⟩
    · have hj : (i : Int) ≠ (j : Int) := hj
      rw [if_neg (by omega)] at hm
      have hlen : ((l.take i).eraseIdx j).length ≤ 100 := by
        have h1 := List.length_eraseIdx_le (l.take i) j
        rw [List.length_take] at h1; omega
      generalize (l.take i).eraseIdx j = m at hv hm hlen
      repeat(first|refine Sc ?_|refine fun(_:Nat)=>?_)
      rcases hv with ⟨e0, rfl, rfl⟩ | ⟨Cp, rfl, rfl⟩
      · repeat(first|refine Sc ?_|refine fun(_:Nat)=>?_)
        refine ⟨h, encX x, map_at encX ex, ?_⟩
        repeat(first|refine Sc ?_|refine fun(_:Nat)=>?_)
        refine ⟨fun h => absurd h (List.cons_ne_nil _ _), fun _ => ?_⟩
        repeat(first|refine Sc ?_|refine fun(_:Nat)=>?_)
        rename_i g' Cp'
        repeat(first|refine Sc ?_|refine fun(_:Nat)=>?_)
        refine fun r hr => ?_
        obtain rfl := add1 hr (by omega)
        repeat(first|refine Sc ?_|refine fun(_:Nat)=>?_)
        refine Cont.lpW ?_
        refine ⟨l.length - (i + 1), _, _, by omega, Weak.sel ?_ [2] (by decide) ?_, ⟨i + 1, .sl 0 g' Cp' 1, g', _, rfl, by omega, hm.symm ▸ LN.one e0, rfl, rfl⟩⟩
        · exact Ss
        · exact Sl
      · repeat(first|refine Sc ?_|refine fun(_:Nat)=>?_)
        refine ⟨h, encX x, map_at encX ex, ?_⟩
        repeat(first|refine Sc ?_|refine fun(_:Nat)=>?_)
        refine ⟨by simp, ?_⟩
        repeat(first|refine Sc ?_|refine fun(_:Nat)=>?_)
        refine ⟨by simp; omega, ?_⟩
        repeat(first|refine Sc ?_|refine fun(_:Nat)=>?_)
        rename_i g' Cp'
        repeat(first|refine Sc ?_|refine fun(_:Nat)=>?_)
        refine fun r hr => ?_
        obtain rfl := add1 hr (by omega)
        repeat(first|refine Sc ?_|refine fun(_:Nat)=>?_)
        refine Cont.lpW ?_
        refine ⟨l.length - (i + 1), _, _, by omega, Weak.sel ?_ [0] (by decide) ?_, ⟨i + 1, .sl 0 g' Cp' ((m.map encX).length + 1), g', _, rfl, by omega, hm.symm ▸ LN.snoc, rfl, rfl⟩⟩
        · exact Ss
        · exact Sl
    · have hj : ¬ (i : Int) ≠ (j : Int) := hj
      rw [if_pos (by omega)] at hm
      repeat(first|refine Sc ?_|refine fun(_:Nat)=>?_)
      refine fun r hr => ?_
      obtain rfl := add1 hr (by omega)
      repeat(first|refine Sc ?_|refine fun(_:Nat)=>?_)
      refine Cont.lpW ?_
      refine ⟨l.length - (i + 1), _, _, by omega, Weak.sel ?_ [0] (by decide) ?_, ⟨i + 1, v, gk, o, rfl, by omega, hm.symm ▸ hv, rfl, rfl⟩⟩
      · exact Ss
      · exact Sl
  · have h : ¬ (i : Int) < (l.length : Int) := h
    have ei : l.take i = l := List.take_of_length_le (by omega)
    rw [ei] at hv
    repeat(first|refine Sc ?_|refine fun(_:Nat)=>?_)
    exact ⟨rdX (l.eraseIdx j), [], FinOk.lend (hv.lend rfl), rfl, rfl⟩
theorem refShown_spec (x : Fu) : FnSpec C 45 [encX x] [] (fun r L' => r = encRk (told x) .nils ∧ L' = []) := by
  refine FnSpec.start C_ok Tryz.func45 rfl rfl Tryz.ntmps45 ?_
  repeat(first|refine Sc ?_|refine fun(_:Nat)=>?_)
  exact ⟨_, [], FinOk.drop _ _, rfl, rfl⟩
end Go.Proofs.YtcbjcmigecocgaaGreatDoor.HBT
