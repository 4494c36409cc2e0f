/- Taking a watch out of a list: IndexFunc and DeleteFunc at watches with their sessions. -/
import Derived.Test.YtgpbppkmmlclfaaDoorTtK2
set_option linter.unusedVariables false
set_option linter.unusedSimpArgs false
namespace Go.Proofs.YtgpbppkmmlclfaaDoor.HBT
open Go Go.Proofs.YtgpbppkmmlclfaaDoor.HB Go.RowKit
set_option maxRecDepth 8000
def runBN : Code → Bool
  | .seq .. | .cond .. | .block .. | .skip | .ret | .exit _ | .scope _ | .label _ => true
  | _ => false
theorem Run.goN {C : Cx} {Q : Exit → List AV → AHeap → Prop} {k : List HB.Frame} {env : List AV} {L : AHeap} {c : Code} (hb : runBN c = true) (h : runNext C Q k c env L) : HB.Run C Q k c env L := Run.go (by cases c <;> first | rfl | (cases hb)) h

def isT (s i : Int) (x : On) : Bool := decide (x.s = s ∧ x.w.id = i)
theorem dropOne_spec (gc : Nat) (s i : Int) (x : On) : FnSpec C 56 [encH x, .ptr 0 gc 0] [(gc, .cells tG (tgC s i))] (fun r L' => r = .bool (isT s i x) ∧ L' = [(gc, .cells tG (tgC s i))]) := by
  refine FnSpec.start C_ok Tryd.func56 rfl rfl Tryd.ntmps56 ?_
  repeat(first|refine Sc ?_|refine fun(_:Nat)=>?_)
  refine Run.drawnK C_ok (aopC_sound C_ok) [0, 1] [0, 2, 1, 3, 4] (by kernel_rfl) ?_
  repeat(first|refine Sc ?_|refine fun(_:Nat)=>?_)
  refine ACallT.ok (ACall.ret (tag_spec x) ?_)
  repeat(first|refine Sc ?_|refine fun(_:Nat)=>?_)
  refine ⟨fun h => ?_, fun h => ?_⟩
  · have h : x.s = s ∧ x.w.id = i := by simpa [allEq, eq1] using h
    repeat(first|refine Sc ?_|refine fun(_:Nat)=>?_)
    exact ⟨_, _, FinOk.keep _ [0] (Sub.refl _) (by decide) rfl, congrArg AV.bool (decide_eq_true (p := x.s = s ∧ x.w.id = i) h).symm, rfl⟩
  · have h : ¬ (x.s = s ∧ x.w.id = i) := by simpa [allEq, eq1] using h
    repeat(first|refine Sc ?_|refine fun(_:Nat)=>?_)
    exact ⟨_, _, FinOk.keep _ [0] (Sub.refl _) (by decide) rfl, congrArg AV.bool (decide_eq_false (p := x.s = s ∧ x.w.id = i) h).symm, rfl⟩
abbrev cloT (gc : Nat) : AV := .any (.func (.func 56) #[] #[.pointer (some ⟨gc, 0, none⟩)])
def idxT (p : On → Bool) : List On → Nat → Int
  | [], _ => -1
  | x :: l, i => if p x then i else idxT p l (i + 1)
theorem index_spec (g Cp gc : Nat) (l : List On) (hl : l.length ≤ 1000) (s i : Int) : FnSpec C 72 [.sl 0 g Cp l.length, cloT gc] [(g, .row tH 5 Cp (l.map encH)), (gc, .cells tG (tgC s i))]
    (fun r L' => r = .int .i64 (idxT (isT s i) l 0) ∧ L' = [(g, .row tH 5 Cp (l.map encH)), (gc, .cells tG (tgC s i))]) := by
  refine FnSpec.start C_ok Tryd.func72 rfl rfl Tryd.ntmps72 ?_
  repeat(first|refine Sc ?_|refine fun(_:Nat)=>?_)
  refine Run.loop (fun k env L => ∃ j : Nat, k = l.length - j ∧ j ≤ l.length ∧ idxT (isT s i) l 0 = idxT (isT s i) (l.drop j) j ∧ env = [.sl 0 g Cp l.length, cloT gc, .junk, .junk, .int .i64 0, .junk, .sl 0 g Cp l.length, .int .i64 l.length, .int .i64 j, .junk, .junk, .junk, .junk, .junk, .junk, .junk, .junk, .junk, .junk] ∧ L = [(g, .row tH 5 Cp (l.map encH)), (gc, .cells tG (tgC s i))]) l.length
    [.sl 0 g Cp l.length, cloT gc, .junk, .junk, .int .i64 0, .junk, .sl 0 g Cp l.length, .int .i64 l.length, .int .i64 (0 : Nat), .junk, .junk, .junk, .junk, .junk, .junk, .junk, .junk, .junk, .junk] ?_ ⟨0, by omega, by omega, rfl, rfl, rfl⟩ ?_
  · repeat(first|exact trivial|refine ⟨.inl rfl, ?_⟩|refine ⟨.inr rfl, ?_⟩)
  rintro k env L ⟨j, rfl, hj, hI, rfl, rfl⟩
  repeat(first|refine Sc ?_|refine fun(_:Nat)=>?_)
  refine ⟨fun h => ?_, fun h => ?_⟩
  · have h : (j : Int) < (l.length : Int) := h
    obtain ⟨x, ex⟩ : ∃ x, l[j]? = some x := ⟨_, List.getElem?_eq_getElem (by omega)⟩
    have hd : l.drop j = x :: l.drop (j + 1) := by
      rw [List.drop_eq_getElem_cons (by omega)]
      congr 1
      exact (List.getElem?_eq_some_iff.1 ex).2
    repeat(first|refine Sc ?_|refine fun(_:Nat)=>?_)
    refine ⟨h, ?_⟩
    repeat(first|refine Sc ?_|refine fun(_:Nat)=>?_)
    refine ⟨encH x, map_at encH ex, ?_⟩
    repeat(first|refine Sc ?_|refine fun(_:Nat)=>?_)
    refine ⟨[.ptr 1 gc 0], rfl, ACall.sel [1] (by decide) [encH x, .ptr 0 gc 0] _ (.two (Sub.refl _) (Sub.ptr _ _ _ _)) (dropOne_spec gc s i x) ?_⟩
    rintro r L' ⟨rfl, rfl⟩
    refine ⟨_, Sub.refl _, ?_⟩
    cases hx : isT s i x with
    | true =>
      repeat(first|refine Sc ?_|refine fun(_:Nat)=>?_)
      exact ⟨_, _, FinOk.keep _ [0, 1] (Sub.refl _) (by decide) rfl, congrArg (AV.int .i64) (by rw [hI, hd]; show (j : Int) = if isT s i x then (j : Int) else _; rw [hx]; rfl), rfl⟩
    | false =>
      repeat(first|refine Sc ?_|refine fun(_:Nat)=>?_)
      refine fun r hr => ?_
      obtain rfl := add1 hr (by omega)
      repeat(first|refine Sc ?_|refine fun(_:Nat)=>?_)
      refine Cont.lp ?_
      refine ⟨l.length - (j + 1), [.sl 0 g Cp l.length, cloT gc, .junk, .junk, .int .i64 0, .junk, .sl 0 g Cp l.length, .int .i64 l.length, .int .i64 (j + 1 : Nat), .junk, .junk, .junk, .junk, .junk, .junk, .junk, .junk, .junk, .junk], 2, by omega, ?_, ⟨j + 1, rfl, by omega, ?_, rfl, rfl⟩⟩
      · repeat(first|exact trivial|refine ⟨.inl rfl, ?_⟩|refine ⟨.inr rfl, ?_⟩)
      · rw [hI, hd]
        show (if isT s i x then (j : Int) else _) = _
        rw [hx]; rfl
  · have h : ¬ (j : Int) < (l.length : Int) := h
    repeat(first|refine Sc ?_|refine fun(_:Nat)=>?_)
    exact ⟨_, _, FinOk.keep _ [0, 1] (Sub.refl _) (by decide) rfl, congrArg (AV.int .i64) (by rw [hI, List.drop_of_length_le (by omega)]; rfl), rfl⟩
theorem idxT_none {p : On → Bool} : ∀ {l : List On} {i : Nat}, idxT p l i = -1 → l.filter (fun x => !p x) = l
  | [], _, _ => rfl
  | x :: l, i, h => by
    unfold idxT at h
    split at h
    · omega
    · rename_i hx
      rw [List.filter_cons_of_pos (by simpa using hx), idxT_none h]
theorem idxT_some {p : On → Bool} : ∀ {l : List On} {i : Nat}, idxT p l i ≠ -1 → ∃ j, j < l.length ∧ idxT p l i = ((i + j : Nat) : Int) ∧ (l.take (j + 1)).filter (fun x => !p x) = l.take j
  | [], _, h => absurd rfl h
  | x :: l, i, h => by
    unfold idxT at h ⊢
    split
    · rename_i hx
      refine ⟨0, by simp, by simp, ?_⟩
      rw [List.take_succ_cons, List.take_zero, List.filter_cons_of_neg (by simpa using hx)]; rfl
    · rename_i hx
      rw [if_neg hx] at h
      obtain ⟨j, h1, h2, h3⟩ := idxT_some h
      refine ⟨j + 1, by simpa using h1, by rw [h2]; omega, ?_⟩
      rw [List.take_succ_cons, List.filter_cons_of_pos (by simpa using hx), h3]; rfl
set_option maxHeartbeats 1000000 in
theorem deleteFunc_spec (g Cp gc : Nat) (l : List On) (hl : l.length ≤ 1000) (s i : Int) : FnSpec C 55 [.sl 0 g Cp l.length, cloT gc] [(g, .row tH 5 Cp (l.map encH)), (gc, .cells tG (tgC s i))]
    (fun r L' => r = .sl 0 g Cp (l.filter fun x => !isT s i x).length ∧ L' = [(g, .row tH 5 Cp ((l.filter fun x => !isT s i x).map encH)), (gc, .cells tG (tgC s i))]) := by
  refine FnSpec.capOf (k := 0) Tryd.func55 rfl rfl rfl fun hC => ?_
  rw [List.length_map] at hC
  refine FnSpec.start C_ok Tryd.func55 rfl rfl Tryd.ntmps55 ?_
  repeat(first|refine Sc ?_|refine fun(_:Nat)=>?_)
  refine ACallT.ok (ACall.sel [0, 1] (by decide) [.sl 0 g Cp l.length, cloT gc] _ (.two (Sub.refl _) (Sub.refl _)) (index_spec g Cp gc l hl s i) ?_)
  rintro r L' ⟨rfl, rfl⟩
  refine ⟨_, Sub.refl _, ?_⟩
  repeat(first|refine Sc ?_|refine fun(_:Nat)=>?_)
  refine ⟨fun h => ?_, fun h => ?_⟩
  · have h : idxT (isT s i) l 0 = -1 := h
    repeat(first|refine Sc ?_|refine fun(_:Nat)=>?_)
    refine ⟨_, _, FinOk.keep _ [0, 1] (Sub.refl _) (by decide) rfl, ?_, ?_⟩
    · rw [idxT_none h]; rfl
    · rw [idxT_none h]; rfl
  have h : ¬ idxT (isT s i) l 0 = -1 := h
  obtain ⟨j0, hj0, e0, hf0⟩ := idxT_some h
  rw [Nat.zero_add] at e0
  rw [e0]
  repeat(first|refine Sc ?_|refine fun(_:Nat)=>?_)
  refine fun r hr => ?_
  obtain rfl := add1 hr (by omega)
  repeat(first|refine Sc ?_|refine fun(_:Nat)=>?_)
  -- the list: what was kept of the first j, the others as they stood
  refine Run.loopW (fun k env L => ∃ (j m : Nat) (xs : List On), k = l.length - j ∧ j ≤ l.length ∧ m < j ∧ xs.length = l.length ∧ xs.take m = (l.take j).filter (fun x => !isT s i x) ∧ xs.drop j = l.drop j ∧
      env = [.sl 0 g Cp l.length, cloT gc, .junk, .junk, .nils, .int .i64 m, .int .i64 j, .junk, .junk, .junk, .junk, .junk, .junk, .junk, .junk, .junk, .junk, .junk, .junk, .junk, .junk, .junk, .junk, .junk, .junk, .junk, .junk, .junk, .junk, .junk, .junk, .junk, .junk, .junk, .junk, .junk, .junk, .junk, .junk, .junk, .junk, .junk] ∧ L = [(g, .row tH 5 Cp (xs.map encH)), (gc, .cells tG (tgC s i))]) (l.length - (j0 + 1))
    [.sl 0 g Cp l.length, cloT gc, .junk, .junk, .nils, .int .i64 j0, .int .i64 (j0 + 1 : Nat), .junk, .junk, .junk, .junk, .junk, .junk, .junk, .junk, .junk, .junk, .junk, .junk, .junk, .junk, .junk, .junk, .junk, .junk, .junk, .junk, .junk, .junk, .junk, .junk, .junk, .junk, .junk, .junk, .junk, .junk, .junk, .junk, .junk, .junk, .junk] [(g, .row tH 5 Cp (l.map encH)), (gc, .cells tG (tgC s i))] (Weak.sel ?_ [0, 1] (by decide) ?_) ⟨j0 + 1, j0, l, by omega, by omega, by omega, rfl, hf0.symm, rfl, rfl, rfl⟩ ?_
  · exact Ss
  · exact Sl
  rintro k env L ⟨j, m, xs, rfl, hj, hm, hxl, hx1, hx2, rfl, rfl⟩
  repeat(first|refine Sc ?_|refine fun(_:Nat)=>?_)
  refine ⟨fun h => ?_, fun h => ?_⟩
  · have h : (j : Int) < (l.length : Int) := h
    obtain ⟨x, ex⟩ : ∃ x, l[j]? = some x := ⟨_, List.getElem?_eq_getElem (by omega)⟩
    have ex2 : xs[j]? = some x := by
      have e1 : (xs.drop j)[0]? = (l.drop j)[0]? := by rw [hx2]
      rw [List.getElem?_drop, List.getElem?_drop, Nat.add_zero] at e1
      rw [e1, ex]
    have hmore : l.take (j + 1) = l.take j ++ [x] := by
      rw [List.take_succ_eq_append_getElem (by omega)]
      congr 2
      exact (List.getElem?_eq_some_iff.1 ex).2
    have hd : xs.drop (j + 1) = l.drop (j + 1) := by
      have := congrArg (List.drop 1) hx2
      rwa [List.drop_drop, List.drop_drop] at this
    repeat(first|refine Sc ?_|refine fun(_:Nat)=>?_)
    refine ⟨h, ?_⟩
    repeat(first|refine Sc ?_|refine fun(_:Nat)=>?_)
    refine ⟨encH x, map_at encH ex2, ?_⟩
    repeat(first|refine Sc ?_|refine fun(_:Nat)=>?_)
    refine ⟨[.ptr 1 gc 0], rfl, ACall.sel [1] (by decide) [encH x, .ptr 0 gc 0] _ (.two (Sub.refl _) (Sub.ptr _ _ _ _)) (dropOne_spec gc s i x) ?_⟩
    rintro r L' ⟨rfl, rfl⟩
    refine ⟨_, Sub.refl _, ?_⟩
    cases hx : isT s i x with
    | true =>
      repeat(first|refine Sc ?_|refine fun(_:Nat)=>?_)
      refine fun r hr => ?_
      obtain rfl := add1 hr (by omega)
      repeat(first|refine Sc ?_|refine fun(_:Nat)=>?_)
      refine Cont.lpW ?_
      refine ⟨l.length - (j + 1), _, _, by omega, Weak.sel ?_ [0, 1] (by decide) ?_, ⟨j + 1, m, xs, rfl, by omega, by omega, hxl, ?_, hd, rfl, rfl⟩⟩
      · exact Ss
      · exact Sl
      · rw [hx1, hmore, List.filter_append, List.filter_cons_of_neg (by simp [hx])]; simp
    | false =>
      obtain ⟨y, ey⟩ : ∃ y, xs[m]? = some y := ⟨_, List.getElem?_eq_getElem (by omega)⟩
      repeat(first|refine Sc ?_|refine fun(_:Nat)=>?_)
      refine ⟨show (m : Int) < (l.length : Int) by omega, ?_⟩
      repeat(first|refine Sc ?_|refine fun(_:Nat)=>?_)
      refine ⟨encH y, map_at encH ey, ?_⟩
      repeat(first|refine Sc ?_|refine fun(_:Nat)=>?_)
      refine fun r hr => ?_
      obtain rfl := add1 hr (by omega)
      repeat(first|refine Sc ?_|refine fun(_:Nat)=>?_)
      refine fun r hr => ?_
      obtain rfl := add1 hr (by omega)
      repeat(first|refine Sc ?_|refine fun(_:Nat)=>?_)
      refine Cont.lpW ?_
      refine ⟨l.length - (j + 1), _, _, by omega, Weak.sel ?_ [0, 1] (by decide) ?_, ⟨j + 1, m + 1, xs.set m x, rfl, by omega, by omega, by rw [List.length_set]; exact hxl, ?_, ?_, rfl, rfl⟩⟩
      · exact Ss
      · rw [List.map_set]
        exact Sl
      · have hlt : m < (xs.set m x).length := by rw [List.length_set]; omega
        rw [hmore, List.filter_append, List.filter_cons_of_pos (by simp [hx]), List.take_succ_eq_append_getElem hlt, ← hx1]
        congr 1
        · rw [List.take_set_of_le (Nat.le_refl m)]
        · simp
      · rw [List.drop_set_of_lt (by omega)]; exact hd
  · have h : ¬ (j : Int) < (l.length : Int) := h
    have ej : j = l.length := by omega
    subst ej
    repeat(first|refine Za ?_|refine Zb ?_|refine Zy rfl ?_|refine Z2 rfl ?_|refine Z3 ?_|refine fun(_:Nat)=>?_|refine Run.goN rfl ?_|refine Zo rfl ?_)
    refine Run.weak0 C_ok (env1 := [.sb 0 g Cp 5 0 l.length, cloT gc, .junk, .junk, .nils, .int .i64 m, .junk, .junk, .junk, .junk, .junk, .junk, .junk, .junk, .junk, .junk, .junk, .junk, .junk, .junk, .junk, .junk, .junk, .junk, .junk, .junk, .junk, .junk, .junk, .junk, .junk, .junk, .junk, .junk, .junk, .junk, .junk, .junk, .junk, .junk, .junk, .junk]) (L1 := [(g, .row tH 5 Cp (xs.map encH)), (gc, .cells tG (tgC s i))]) (Weak.sel ?_ [0, 1] (by decide) ?_) ?_
    · refine ⟨Sub.sl_sb _ _ _ _ _ _, ?_⟩
      exact Ss
    · exact Sl
    repeat(first|refine Sc ?_|refine fun(_:Nat)=>?_)
    refine ⟨show (m : Int) ≤ (l.length : Int) by omega, ?_⟩
    repeat(first|refine Sc ?_|refine fun(_:Nat)=>?_)
    refine ⟨by omega, ?_⟩
    repeat(first|refine Sc ?_|refine fun(_:Nat)=>?_)
    refine ⟨by rw [List.length_map]; omega, ?_⟩
    refine ⟨by omega, ?_⟩
    repeat(first|refine Sc ?_|refine fun(_:Nat)=>?_)
    refine ⟨by omega, ?_⟩
    repeat(first|refine Sc ?_|refine fun(_:Nat)=>?_)
    rw [List.take_length] at hx1
    have el : m = (l.filter fun x => !isT s i x).length := by rw [← hx1, List.length_take]; omega
    have e5 : List.take (0 + ((m : Nat) : Int).toNat) (xs.map encH) = (l.filter fun x => !isT s i x).map encH := by
      rw [Nat.zero_add, Int.toNat_natCast, ← List.map_take, hx1]
    refine ⟨.sl 0 g Cp m, _, FinOk.keep _ [0, 1] (Sub.sb_sl _ 0 _ _ _ _) (by decide) rfl, by rw [el], ?_⟩
    exact congrArg (fun q => [(g, AObj.row tH 5 Cp q), (gc, AObj.cells tG (tgC s i))]) e5
end Go.Proofs.YtgpbppkmmlclfaaDoor.HBT
