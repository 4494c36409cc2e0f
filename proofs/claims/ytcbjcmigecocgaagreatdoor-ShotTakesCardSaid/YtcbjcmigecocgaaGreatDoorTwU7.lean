/- The document's Nodes, End, Part. -/
import Derived.Test.YtcbjcmigecocgaaGreatDoorTwU2
import Derived.Test.YtcbjcmigecocgaaGreatDoorTwT52
set_option linter.unusedVariables false
set_option linter.unusedSimpArgs false
namespace Go.Proofs.YtcbjcmigecocgaaGreatDoor.HBT
open Go Go.Proofs.YtcbjcmigecocgaaGreatDoor.HB Go.RowKit
set_option maxRecDepth 8000

abbrev tV : TypeId := 26
theorem take_more {α : Type} {l : List α} {i : Nat} {x : α} (h : l[i]? = some x) : l.take (i + 1) = l.take i ++ [x] := by
  obtain ⟨h1, e1⟩ := List.getElem?_eq_some_iff.1 h
  rw [List.take_succ_eq_append_getElem h1, e1]
theorem filter_more {l : List Fu} {i : Nat} {x : Fu} (ex : l[i]? = some x) (f : Fu → Bool) : (l.take (i + 1)).filter f = (l.take i).filter f ++ (if f x = true then [x] else []) := by
  rw [take_more ex, List.filter_append]
  congr 1
  cases hf : f x with
  | true => rw [List.filter_cons_of_pos hf]; rfl
  | false => rw [List.filter_cons_of_neg (by rw [hf]; decide)]; rfl
set_option maxHeartbeats 4000000 in
theorem refEnd_spec (l : List Fu) (hl : l.length ≤ 100) (s : Int) : FnSpec C 12 [.agg [rdX l], .int .i64 s] [] (fun r L' => r = .tuple [.agg [rdX (endF l s).1], encCs (endF l s).2] ∧ L' = []) := by
  refine FnSpec.start C_ok Tryz.func12 rfl rfl Tryz.ntmps12 ?_
  repeat(first|refine Sc ?_|refine fun(_:Nat)=>?_)
  rename_i g2 g4
  refine ⟨fun h => ?_, fun h => ?_⟩
  · have h : s < 1 := h
    have he : endF l s = (l, []) := by unfold endF; rw [if_pos h]
    repeat(first|refine Sc ?_|refine fun(_:Nat)=>?_)
    exact ⟨.tuple [.agg [rdX l], encCs []], [], FinOk.keep _ [] (Sub.tuples ⟨Sub.refl _, Sub.nilsRo 4, trivial⟩) (by decide) rfl, by rw [he], rfl⟩
  have h : ¬ s < 1 := h
  have he : endF l s = (l.filter fun x => decide (x.o ≠ s), (l.filter fun x => decide (x.o = s)).map goneC) := by unfold endF; rw [if_neg h]
  repeat(first|refine Sc ?_|refine fun(_:Nat)=>?_)
  refine Run.loopW (fun k env L => ∃ (i : Nat) (v : AV) (gl : Nat) (lo : AObj) (cv : AV) (gc : Nat) (co : AObj), k = l.length - i ∧ i ≤ l.length ∧ LY 2 ((l.take i).filter fun x => decide (x.o ≠ s)) v gl lo ∧ LC 3 (((l.take i).filter fun x => decide (x.o = s)).map goneC) cv gc co ∧ env = [.junk, .int .i64 s, .ptr 0 g2 0, .junk, .ptr 1 g4 0, .junk, v, cv, .int .i64 i, .junk, .junk, .junk, .junk, .junk, .junk, .junk, .junk, .junk, .junk, .junk, .junk, .junk, .junk, .junk, .junk, .junk, .junk, .junk, .junk, .junk, .junk, .junk, .junk, .junk, .junk, .junk, .junk, .junk, .junk, .junk, .junk, .junk, .junk, .junk] ∧ L = [(g2, .cells tV [rdX l]), (g4, .cells tV [.nils]), (gl, lo), (gc, co)]) l.length
    [.junk, .int .i64 s, .ptr 0 g2 0, .junk, .ptr 1 g4 0, .junk, .nils, .nils, .int .i64 (0 : Nat), .junk, .junk, .junk, .junk, .junk, .junk, .junk, .junk, .junk, .junk, .junk, .junk, .junk, .junk, .junk, .junk, .junk, .junk, .junk, .junk, .junk, .junk, .junk, .junk, .junk, .junk, .junk, .junk, .junk, .junk, .junk, .junk, .junk, .junk, .junk] [(g2, .cells tV [rdX l]), (g4, .cells tV [.nils]), (0, .dead), (0, .dead)] (Weak.sel ?_ [0, 1, 9, 10] (by decide) ?_) ⟨0, .nils, 0, .dead, .nils, 0, .dead, by omega, by omega, .inl ⟨rfl, rfl, rfl⟩, .inl ⟨rfl, rfl, rfl⟩, rfl, rfl⟩ ?_
  · exact Ss
  · exact Sl
  rintro k env L ⟨i, v, gl, lo, cv, gc, co, rfl, hi, hv, hcv, rfl, rfl⟩
  repeat(first|refine Sc ?_|refine fun(_:Nat)=>?_)
  refine ⟨fun h => ?_, fun h => ?_⟩
  · have h : (i : Int) < (l.length : Int) := h
    obtain ⟨x, ex⟩ : ∃ x, l[i]? = some x := ⟨_, List.getElem?_eq_getElem (by omega)⟩
    have hm1 := filter_more ex fun x => decide (x.o ≠ s)
    have hm2 := filter_more ex fun x => decide (x.o = s)
    have hn1 : ((l.take i).filter fun x => decide (x.o ≠ s)).length ≤ 100 := Nat.le_trans (List.length_filter_le _ _) (by rw [List.length_take]; omega)
    have hn2 : (((l.take i).filter fun x => decide (x.o = s)).map goneC).length ≤ 100 := by rw [List.length_map]; exact Nat.le_trans (List.length_filter_le _ _) (by rw [List.length_take]; omega)
    repeat(first|refine Sc ?_|refine fun(_:Nat)=>?_)
    refine ⟨h, encX x, map_at encX ex, ?_⟩
    repeat(first|refine Sc ?_|refine fun(_:Nat)=>?_)
    refine ⟨fun ho => ?_, fun ho => ?_⟩
    · have ho : x.o = s := ho
      rw [if_neg (by rw [decide_eq_false (fun e => e ho)]; decide), List.append_nil] at hm1
      rw [if_pos (decide_eq_true ho)] at hm2
      have hm3 : ((l.take (i + 1)).filter fun x => decide (x.o = s)).map goneC = (((l.take i).filter fun x => decide (x.o = s)).map goneC) ++ [goneC x] := by rw [hm2, List.map_append]; rfl
      rw [← hm1] at hv
      generalize (((l.take i).filter fun x => decide (x.o = s)).map goneC) = cs at hcv hm3 hn2
      repeat(first|refine Sc ?_|refine fun(_:Nat)=>?_)
      rcases hcv with ⟨e0, rfl, rfl⟩ | ⟨Cp, rfl, rfl⟩
      · repeat(first|refine Sc ?_|refine fun(_:Nat)=>?_)
        refine ⟨fun h => absurd h (List.cons_ne_nil _ _), fun _ => ?_⟩
        repeat(first|refine Sc ?_|refine fun(_:Nat)=>?_)
        rename_i g' Cp'
        refine fun r hr => ?_
        obtain rfl := add1 hr (by omega)
        repeat(first|refine Sc ?_|refine fun(_:Nat)=>?_)
        refine Cont.lpW ?_
        refine ⟨l.length - (i + 1), _, _, by omega, Weak.sel ?_ [0, 1, 2, 6] (by decide) ?_, ⟨i + 1, v, gl, lo, .sl 3 g' Cp' 1, g', _, rfl, by omega, hv, hm3.symm ▸ LN.one e0, rfl, rfl⟩⟩
        · exact Ss
        · exact Sl
      · repeat(first|refine Sc ?_|refine fun(_:Nat)=>?_)
        refine ⟨by simp, ?_⟩
        repeat(first|refine Sc ?_|refine fun(_:Nat)=>?_)
        refine ⟨by simp; omega, ?_⟩
        repeat(first|refine Sc ?_|refine fun(_:Nat)=>?_)
        rename_i g' Cp'
        refine fun r hr => ?_
        obtain rfl := add1 hr (by omega)
        repeat(first|refine Sc ?_|refine fun(_:Nat)=>?_)
        refine Cont.lpW ?_
        refine ⟨l.length - (i + 1), _, _, by omega, Weak.sel ?_ [0, 1, 2, 3] (by decide) ?_, ⟨i + 1, v, gl, lo, .sl 3 g' Cp' ((cs.map encC).length + 1), g', _, rfl, by omega, hv, hm3.symm ▸ LN.snoc, rfl, rfl⟩⟩
        · exact Ss
        · exact Sl
    · have ho : ¬ x.o = s := ho
      rw [if_pos (decide_eq_true (show x.o ≠ s from ho))] at hm1
      rw [if_neg (by rw [decide_eq_false ho]; decide), List.append_nil] at hm2
      rw [← hm2] at hcv
      generalize ((l.take i).filter fun x => decide (x.o ≠ s)) = ns at hv hm1 hn1
      repeat(first|refine Sc ?_|refine fun(_:Nat)=>?_)
      rcases hv with ⟨e0, rfl, rfl⟩ | ⟨Cp, rfl, rfl⟩
      · repeat(first|refine Sc ?_|refine fun(_:Nat)=>?_)
        refine ⟨fun h => absurd h (List.cons_ne_nil _ _), fun _ => ?_⟩
        repeat(first|refine Sc ?_|refine fun(_:Nat)=>?_)
        rename_i g' Cp'
        refine fun r hr => ?_
        obtain rfl := add1 hr (by omega)
        repeat(first|refine Sc ?_|refine fun(_:Nat)=>?_)
        refine Cont.lpW ?_
        refine ⟨l.length - (i + 1), _, _, by omega, Weak.sel ?_ [0, 1, 6, 3] (by decide) ?_, ⟨i + 1, .sl 2 g' Cp' 1, g', _, cv, gc, co, rfl, by omega, hm1.symm ▸ LN.one e0, hcv, rfl, rfl⟩⟩
        · exact Ss
        · exact Sl
      · repeat(first|refine Sc ?_|refine fun(_:Nat)=>?_)
        refine ⟨by simp, ?_⟩
        repeat(first|refine Sc ?_|refine fun(_:Nat)=>?_)
        refine ⟨by simp; omega, ?_⟩
        repeat(first|refine Sc ?_|refine fun(_:Nat)=>?_)
        rename_i g' Cp'
        refine fun r hr => ?_
        obtain rfl := add1 hr (by omega)
        repeat(first|refine Sc ?_|refine fun(_:Nat)=>?_)
        refine Cont.lpW ?_
        refine ⟨l.length - (i + 1), _, _, by omega, Weak.sel ?_ [0, 1, 2, 3] (by decide) ?_, ⟨i + 1, .sl 2 g' Cp' ((ns.map encX).length + 1), g', _, cv, gc, co, rfl, by omega, hm1.symm ▸ LN.snoc, hcv, rfl, rfl⟩⟩
        · exact Ss
        · exact Sl
  · have h : ¬ (i : Int) < (l.length : Int) := h
    have ei : l.take i = l := List.take_of_length_le (by omega)
    rw [ei] at hv hcv
    rcases hv with ⟨e0, rfl, rfl⟩ | ⟨Cp, rfl, rfl⟩
    · repeat(first|refine Sc ?_|refine fun(_:Nat)=>?_)
      exact ⟨.tuple [.agg [rdX []], encCs ((l.filter fun x => decide (x.o = s)).map goneC)], [], FinOk.lend (Lend.tuples ⟨Lend.aggs ⟨.nils 7, trivial⟩, hcv.lend rfl, trivial⟩), by rw [he, e0], rfl⟩
    · repeat(first|refine Sc ?_|refine fun(_:Nat)=>?_)
      exact ⟨.tuple [.agg [rdX (l.filter fun x => decide (x.o ≠ s))], encCs ((l.filter fun x => decide (x.o = s)).map goneC)], [], FinOk.lend (Lend.tuples ⟨Lend.aggs ⟨.row 2 gl Cp _ tY 7 _ rfl (by simp), trivial⟩, hcv.lend rfl, trivial⟩), by rw [he], rfl⟩
set_option maxHeartbeats 8000000 in
theorem refPart_spec {l : List Fu} (hI : TInv l) (a : ByteArray) (kd : Int) : FnSpec C 19 [.agg [rdX l], .str a, .int .i64 kd] [] (fun r L' => r = .tuple [encNs (if partE a kd = 0 then partF l a kd else []), .int .i64 (partE a kd)] ∧ L' = []) := by
  have hL := hI.len
  have bad : ∀ e, partE a kd = e → e ≠ 0 → (AV.tuple [encNs [], .int .i64 e]) = .tuple [encNs (if partE a kd = 0 then partF l a kd else []), .int .i64 (partE a kd)] := fun e h h0 => by rw [h, if_neg h0]
  refine FnSpec.start C_ok Tryz.func19 rfl rfl Tryz.ntmps19 ?_
  repeat(first|refine Sc ?_|refine fun(_:Nat)=>?_)
  rename_i g3
  refine ⟨fun h => ?_, fun h => ?_⟩
  · have h : (l.length : Int) = 0 := h
    obtain ⟨x, hx, _⟩ := hI.root
    have e0 : l = [] := List.eq_nil_of_length_eq_zero (by omega)
    rw [e0] at hx
    cases hx
  repeat(first|refine Sc ?_|refine fun(_:Nat)=>?_)
  refine ACallT.ok (ACall.ret (refIs_spec a) ?_)
  by_cases ha : parseE a = 0
  rotate_left
  · rw [decide_eq_false ha]
    repeat(first|refine Sc ?_|refine fun(_:Nat)=>?_)
    exact ⟨.tuple [encNs [], .int .i64 10], [], FinOk.keep _ [] (Sub.tuples ⟨Sub.nilsRo 3, Sub.refl _, trivial⟩) (by decide) rfl, bad 10 (by unfold partE; rw [if_pos ha]) (by decide), rfl⟩
  rw [decide_eq_true ha]
  repeat(first|refine Sc ?_|refine fun(_:Nat)=>?_)
  refine ⟨fun h1 => ?_, fun h1 => ?_⟩
  · have h1 : kd < 1 := h1
    repeat(first|refine Sc ?_|refine fun(_:Nat)=>?_)
    exact ⟨.tuple [encNs [], .int .i64 1], [], FinOk.keep _ [] (Sub.tuples ⟨Sub.nilsRo 3, Sub.refl _, trivial⟩) (by decide) rfl, bad 1 (by unfold partE; rw [if_neg (fun e => e ha), if_pos (.inl h1)]) (by decide), rfl⟩
  have h1 : ¬ kd < 1 := h1
  repeat(first|refine Sc ?_|refine fun(_:Nat)=>?_)
  refine ⟨fun h3 => ?_, fun h3 => ?_⟩
  · have h3 : kd > 3 := h3
    repeat(first|refine Sc ?_|refine fun(_:Nat)=>?_)
    exact ⟨.tuple [encNs [], .int .i64 1], [], FinOk.keep _ [] (Sub.tuples ⟨Sub.nilsRo 3, Sub.refl _, trivial⟩) (by decide) rfl, bad 1 (by unfold partE; rw [if_neg (fun e => e ha), if_pos (.inr h3)]) (by decide), rfl⟩
  have h3 : ¬ kd > 3 := h3
  have hE : partE a kd = 0 := by unfold partE; rw [if_neg (fun e => e ha), if_neg (by omega)]
  rw [hE, if_pos rfl]
  repeat(first|refine Sc ?_|refine fun(_:Nat)=>?_)
  refine ACallT.ok (ACall.ret (refFind_spec l a (by omega)) ?_)
  rcases idxF_cases l a 0 with ⟨hf, hidx⟩ | ⟨j, x, hf, ej, hidx⟩
  · rw [hidx]
    repeat(first|refine Sc ?_|refine fun(_:Nat)=>?_)
    refine ⟨fun _ => ?_, fun h => absurd (by decide) h⟩
    repeat(first|refine Sc ?_|refine fun(_:Nat)=>?_)
    exact ⟨.tuple [encNs [], .int .i64 0], [], FinOk.keep _ [] (Sub.tuples ⟨Sub.nilsRo 3, Sub.refl _, trivial⟩) (by decide) rfl, by rw [part_none hI hf], rfl⟩
  rw [hidx]
  repeat(first|refine Sc ?_|refine fun(_:Nat)=>?_)
  refine ⟨fun h => absurd h (show ¬ ((0 + j : Nat) : Int) < 0 by omega), fun _ => ?_⟩
  repeat(first|refine Sc ?_|refine fun(_:Nat)=>?_)
  refine Run.loopW (fun k env L => ∃ (i : Nat) (v : AV) (gk : Nat) (o : AObj), k = l.length - i ∧ i ≤ l.length ∧ LS3 1 (partF (l.take i) a kd) v gk o ∧ env = [.junk, .str a, .int .i64 kd, .ptr 0 g3 0, .junk, .junk, .junk, .junk, .junk, v, .int .i64 i, .junk, .junk, .junk, .junk, .junk, .junk, .junk, .junk, .junk, .junk, .junk, .junk, .junk, .junk, .junk, .junk, .junk, .junk, .junk, .junk, .junk, .junk, .junk, .junk, .junk, .junk, .junk, .junk, .junk, .junk, .junk, .junk, .junk, .junk, .junk, .junk, .junk, .junk, .junk, .junk, .junk, .junk, .junk, .junk, .junk, .junk, .junk, .junk, .junk, .junk, .junk, .junk, .junk, .junk, .junk, .junk, .junk, .junk, .junk, .junk, .junk, .junk, .junk, .junk, .junk, .junk, .junk, .junk, .junk, .junk, .junk, .junk, .junk, .junk, .junk, .junk, .junk, .junk, .junk, .junk, .junk, .junk, .junk, .junk, .junk, .junk] ∧ L = [(g3, .cells tV [rdX l]), (gk, o)]) l.length
    [.junk, .str a, .int .i64 kd, .ptr 0 g3 0, .junk, .junk, .junk, .junk, .junk, .nils, .int .i64 (0 : Nat), .junk, .junk, .junk, .junk, .junk, .junk, .junk, .junk, .junk, .junk, .junk, .junk, .junk, .junk, .junk, .junk, .junk, .junk, .junk, .junk, .junk, .junk, .junk, .junk, .junk, .junk, .junk, .junk, .junk, .junk, .junk, .junk, .junk, .junk, .junk, .junk, .junk, .junk, .junk, .junk, .junk, .junk, .junk, .junk, .junk, .junk, .junk, .junk, .junk, .junk, .junk, .junk, .junk, .junk, .junk, .junk, .junk, .junk, .junk, .junk, .junk, .junk, .junk, .junk, .junk, .junk, .junk, .junk, .junk, .junk, .junk, .junk, .junk, .junk, .junk, .junk, .junk, .junk, .junk, .junk, .junk, .junk, .junk, .junk, .junk, .junk] [(g3, .cells tV [rdX l]), (0, .dead)] (Weak.sel ?_ [0, 9] (by decide) ?_) ⟨0, .nils, 0, .dead, by omega, by omega, .inl ⟨rfl, rfl, rfl⟩, rfl, rfl⟩ ?_
  · exact Ss
  · exact Sl
  rintro k env L ⟨i, v, gk, o, rfl, hi, hv, rfl, rfl⟩
  repeat(first|refine Sc ?_|refine fun(_:Nat)=>?_)
  refine ⟨fun h => ?_, fun h => ?_⟩
  · have h : (i : Int) < (l.length : Int) := h
    obtain ⟨x, ex⟩ : ∃ x, l[i]? = some x := ⟨_, List.getElem?_eq_getElem (by omega)⟩
    have hm := part_more ex a kd
    have hlen : (partF (l.take i) a kd).length ≤ 100 := Nat.le_trans (part_len _ _ _) (by rw [List.length_take]; omega)
    have hpx := (hI.ok x (List.mem_of_getElem? ex)).1
    have hcv := cov_iff ha hpx (show 1 ≤ kd ∧ kd ≤ 3 by omega)
    repeat(first|refine Sc ?_|refine fun(_:Nat)=>?_)
    refine ⟨h, encX x, map_at encX ex, ?_⟩
    repeat(first|refine Sc ?_|refine fun(_:Nat)=>?_)
    refine ACallT.ok (ACall.ret (refBelow_spec x.p a) ?_)
    repeat(first|refine Sc ?_|refine fun(_:Nat)=>?_)
    by_cases hpa : x.p = a
    · have hb : ¬ belowR x.p a := fun e => by rw [hpa] at e; exact absurd e.1 (Nat.lt_irrefl _)
      have hd : ¬ childB x.p a := fun e => by have := (child_begins ha hpx).1 e; rw [hpa] at this; omega
      rw [decide_eq_false hb]
      refine ACallT.ok (ACall.ret (refKid_spec x.p a) ?_)
      rw [decide_eq_false hd]
      repeat(first|refine Sc ?_|refine fun(_:Nat)=>?_)
      refine ⟨fun _ => ?_, fun e => absurd hpa e⟩
      repeat(first|refine Sc ?_|refine fun(_:Nat)=>?_)
      refine ⟨fun k2 => ?_, fun k2 => ?_⟩
      · have k2 : kd ≠ 2 := k2
        have hsx : seenX kd x = ⟨x.p, x.d, x.v⟩ := by unfold seenX; rw [if_neg (by omega)]
        rw [if_pos (hcv.2 (.inl hpa)), hsx] at hm
        generalize partF (l.take i) a kd = ns at hv hm hlen
        repeat(first|refine Sc ?_|refine fun(_:Nat)=>?_)
        rcases hv with ⟨e0, rfl, rfl⟩ | ⟨Cp, rfl, rfl⟩
        · repeat(first|refine Sc ?_|refine fun(_:Nat)=>?_)
          refine ⟨fun h => absurd h (List.cons_ne_nil _ _), fun _ => ?_⟩
          repeat(first|refine Sc ?_|refine fun(_:Nat)=>?_)
          rename_i g' Cp'
          refine ⟨fun _ => ?_, fun e => absurd hpa e⟩
          repeat(first|refine Sc ?_|refine fun(_:Nat)=>?_)
          refine ⟨fun e => absurd e k2, fun _ => ?_⟩
          repeat(first|refine Sc ?_|refine fun(_:Nat)=>?_)
          refine fun r hr => ?_
          obtain rfl := add1 hr (by omega)
          repeat(first|refine Sc ?_|refine fun(_:Nat)=>?_)
          refine Cont.lpW ?_
          refine ⟨l.length - (i + 1), _, _, by omega, Weak.sel ?_ [0, 4] (by decide) ?_, ⟨i + 1, .sl 1 g' Cp' 1, g', _, rfl, by omega, hm.symm ▸ LN.one e0, rfl, rfl⟩⟩
          · exact Ss
          · exact Sl
        · repeat(first|refine Sc ?_|refine fun(_:Nat)=>?_)
          refine ⟨by simp, ?_⟩
          repeat(first|refine Sc ?_|refine fun(_:Nat)=>?_)
          refine ⟨by simp; omega, ?_⟩
          repeat(first|refine Sc ?_|refine fun(_:Nat)=>?_)
          rename_i g' Cp'
          refine ⟨fun _ => ?_, fun e => absurd hpa e⟩
          repeat(first|refine Sc ?_|refine fun(_:Nat)=>?_)
          refine ⟨fun e => absurd e k2, fun _ => ?_⟩
          repeat(first|refine Sc ?_|refine fun(_:Nat)=>?_)
          refine fun r hr => ?_
          obtain rfl := add1 hr (by omega)
          repeat(first|refine Sc ?_|refine fun(_:Nat)=>?_)
          refine Cont.lpW ?_
          refine ⟨l.length - (i + 1), _, _, by omega, Weak.sel ?_ [0, 1] (by decide) ?_, ⟨i + 1, .sl 1 g' Cp' ((ns.map encN).length + 1), g', _, rfl, by omega, hm.symm ▸ LN.snoc, rfl, rfl⟩⟩
          · exact Ss
          · exact Sl
      · have k2 : ¬ kd ≠ 2 := k2
        repeat(first|refine Sc ?_|refine fun(_:Nat)=>?_)
        refine ⟨fun _ => ?_, fun e => absurd hpa e⟩
        repeat(first|refine Sc ?_|refine fun(_:Nat)=>?_)
        refine ⟨fun _ => ?_, fun e => absurd (Classical.not_not.1 k2) e⟩
        have hsx : seenX kd x = ⟨x.p, eS, 0⟩ := by unfold seenX; rw [if_pos (by omega)]
        rw [if_pos (hcv.2 (.inl hpa)), hsx] at hm
        generalize partF (l.take i) a kd = ns at hv hm hlen
        repeat(first|refine Sc ?_|refine fun(_:Nat)=>?_)
        rcases hv with ⟨e0, rfl, rfl⟩ | ⟨Cp, rfl, rfl⟩
        · repeat(first|refine Sc ?_|refine fun(_:Nat)=>?_)
          refine ⟨fun h => absurd h (List.cons_ne_nil _ _), fun _ => ?_⟩
          repeat(first|refine Sc ?_|refine fun(_:Nat)=>?_)
          rename_i g' Cp'
          refine fun r hr => ?_
          obtain rfl := add1 hr (by omega)
          repeat(first|refine Sc ?_|refine fun(_:Nat)=>?_)
          refine Cont.lpW ?_
          refine ⟨l.length - (i + 1), _, _, by omega, Weak.sel ?_ [0, 4] (by decide) ?_, ⟨i + 1, .sl 1 g' Cp' 1, g', _, rfl, by omega, hm.symm ▸ LN.one e0, rfl, rfl⟩⟩
          · exact Ss
          · exact Sl
        · repeat(first|refine Sc ?_|refine fun(_:Nat)=>?_)
          refine ⟨by simp, ?_⟩
          repeat(first|refine Sc ?_|refine fun(_:Nat)=>?_)
          refine ⟨by simp; omega, ?_⟩
          repeat(first|refine Sc ?_|refine fun(_:Nat)=>?_)
          rename_i g' Cp'
          refine fun r hr => ?_
          obtain rfl := add1 hr (by omega)
          repeat(first|refine Sc ?_|refine fun(_:Nat)=>?_)
          refine Cont.lpW ?_
          refine ⟨l.length - (i + 1), _, _, by omega, Weak.sel ?_ [0, 1] (by decide) ?_, ⟨i + 1, .sl 1 g' Cp' ((ns.map encN).length + 1), g', _, rfl, by omega, hm.symm ▸ LN.snoc, rfl, rfl⟩⟩
          · exact Ss
          · exact Sl
    by_cases hb : belowR x.p a
    · by_cases hd : childB x.p a
      · rw [decide_eq_true hb]
        refine ACallT.ok (ACall.ret (refKid_spec x.p a) ?_)
        rw [decide_eq_true hd]
        repeat(first|refine Sc ?_|refine fun(_:Nat)=>?_)
        refine ⟨fun e => absurd e hpa, fun _ => ?_⟩
        repeat(first|refine Sc ?_|refine fun(_:Nat)=>?_)
        refine ⟨fun k3 => ?_, fun k3 => ?_⟩
        · have k3 : kd = 3 := k3
          have hsx : seenX kd x = ⟨x.p, x.d, x.v⟩ := by unfold seenX; rw [if_neg (by omega)]
          rw [if_pos (hcv.2 (.inr (.inl ⟨k3, hb⟩))), hsx] at hm
          generalize partF (l.take i) a kd = ns at hv hm hlen
          repeat(first|refine Sc ?_|refine fun(_:Nat)=>?_)
          rcases hv with ⟨e0, rfl, rfl⟩ | ⟨Cp, rfl, rfl⟩
          · repeat(first|refine Sc ?_|refine fun(_:Nat)=>?_)
            refine ⟨fun h => absurd h (List.cons_ne_nil _ _), fun _ => ?_⟩
            repeat(first|refine Sc ?_|refine fun(_:Nat)=>?_)
            rename_i g' Cp'
            refine ⟨fun e => absurd e hpa, fun _ => ?_⟩
            repeat(first|refine Sc ?_|refine fun(_:Nat)=>?_)
            refine ⟨fun e => absurd e (show ¬ kd = 2 by omega), fun _ => ?_⟩
            repeat(first|refine Sc ?_|refine fun(_:Nat)=>?_)
            refine fun r hr => ?_
            obtain rfl := add1 hr (by omega)
            repeat(first|refine Sc ?_|refine fun(_:Nat)=>?_)
            refine Cont.lpW ?_
            refine ⟨l.length - (i + 1), _, _, by omega, Weak.sel ?_ [0, 4] (by decide) ?_, ⟨i + 1, .sl 1 g' Cp' 1, g', _, rfl, by omega, hm.symm ▸ LN.one e0, rfl, rfl⟩⟩
            · exact Ss
            · exact Sl
          · repeat(first|refine Sc ?_|refine fun(_:Nat)=>?_)
            refine ⟨by simp, ?_⟩
            repeat(first|refine Sc ?_|refine fun(_:Nat)=>?_)
            refine ⟨by simp; omega, ?_⟩
            repeat(first|refine Sc ?_|refine fun(_:Nat)=>?_)
            rename_i g' Cp'
            refine ⟨fun e => absurd e hpa, fun _ => ?_⟩
            repeat(first|refine Sc ?_|refine fun(_:Nat)=>?_)
            refine ⟨fun e => absurd e (show ¬ kd = 2 by omega), fun _ => ?_⟩
            repeat(first|refine Sc ?_|refine fun(_:Nat)=>?_)
            refine fun r hr => ?_
            obtain rfl := add1 hr (by omega)
            repeat(first|refine Sc ?_|refine fun(_:Nat)=>?_)
            refine Cont.lpW ?_
            refine ⟨l.length - (i + 1), _, _, by omega, Weak.sel ?_ [0, 1] (by decide) ?_, ⟨i + 1, .sl 1 g' Cp' ((ns.map encN).length + 1), g', _, rfl, by omega, hm.symm ▸ LN.snoc, rfl, rfl⟩⟩
            · exact Ss
            · exact Sl
        · have k3 : ¬ kd = 3 := k3
          repeat(first|refine Sc ?_|refine fun(_:Nat)=>?_)
          refine ⟨fun e => absurd e hpa, fun _ => ?_⟩
          repeat(first|refine Sc ?_|refine fun(_:Nat)=>?_)
          refine ⟨fun k2 => ?_, fun k2 => ?_⟩
          · have k2 : kd = 2 := k2
            have hsx : seenX kd x = ⟨x.p, eS, 0⟩ := by unfold seenX; rw [if_pos (by omega)]
            rw [if_pos (hcv.2 (.inr (.inr ⟨k2, hd⟩))), hsx] at hm
            generalize partF (l.take i) a kd = ns at hv hm hlen
            repeat(first|refine Sc ?_|refine fun(_:Nat)=>?_)
            rcases hv with ⟨e0, rfl, rfl⟩ | ⟨Cp, rfl, rfl⟩
            · repeat(first|refine Sc ?_|refine fun(_:Nat)=>?_)
              refine ⟨fun h => absurd h (List.cons_ne_nil _ _), fun _ => ?_⟩
              repeat(first|refine Sc ?_|refine fun(_:Nat)=>?_)
              rename_i g' Cp'
              refine fun r hr => ?_
              obtain rfl := add1 hr (by omega)
              repeat(first|refine Sc ?_|refine fun(_:Nat)=>?_)
              refine Cont.lpW ?_
              refine ⟨l.length - (i + 1), _, _, by omega, Weak.sel ?_ [0, 4] (by decide) ?_, ⟨i + 1, .sl 1 g' Cp' 1, g', _, rfl, by omega, hm.symm ▸ LN.one e0, rfl, rfl⟩⟩
              · exact Ss
              · exact Sl
            · repeat(first|refine Sc ?_|refine fun(_:Nat)=>?_)
              refine ⟨by simp, ?_⟩
              repeat(first|refine Sc ?_|refine fun(_:Nat)=>?_)
              refine ⟨by simp; omega, ?_⟩
              repeat(first|refine Sc ?_|refine fun(_:Nat)=>?_)
              rename_i g' Cp'
              refine fun r hr => ?_
              obtain rfl := add1 hr (by omega)
              repeat(first|refine Sc ?_|refine fun(_:Nat)=>?_)
              refine Cont.lpW ?_
              refine ⟨l.length - (i + 1), _, _, by omega, Weak.sel ?_ [0, 1] (by decide) ?_, ⟨i + 1, .sl 1 g' Cp' ((ns.map encN).length + 1), g', _, rfl, by omega, hm.symm ▸ LN.snoc, rfl, rfl⟩⟩
              · exact Ss
              · exact Sl
          · have k2 : ¬ kd = 2 := k2
            rw [if_neg (fun e => by rcases hcv.1 e with e | e | e <;> first | exact hpa e | exact k3 e.1 | exact k2 e.1), List.append_nil] at hm
            repeat(first|refine Sc ?_|refine fun(_:Nat)=>?_)
            refine fun r hr => ?_
            obtain rfl := add1 hr (by omega)
            repeat(first|refine Sc ?_|refine fun(_:Nat)=>?_)
            refine Cont.lpW ?_
            refine ⟨l.length - (i + 1), _, _, by omega, Weak.sel ?_ [0, 1] (by decide) ?_, ⟨i + 1, v, gk, o, rfl, by omega, hm.symm ▸ hv, rfl, rfl⟩⟩
            · exact Ss
            · exact Sl
      · rw [decide_eq_true hb]
        refine ACallT.ok (ACall.ret (refKid_spec x.p a) ?_)
        rw [decide_eq_false hd]
        repeat(first|refine Sc ?_|refine fun(_:Nat)=>?_)
        refine ⟨fun e => absurd e hpa, fun _ => ?_⟩
        repeat(first|refine Sc ?_|refine fun(_:Nat)=>?_)
        refine ⟨fun k3 => ?_, fun k3 => ?_⟩
        · have k3 : kd = 3 := k3
          have hsx : seenX kd x = ⟨x.p, x.d, x.v⟩ := by unfold seenX; rw [if_neg (by omega)]
          rw [if_pos (hcv.2 (.inr (.inl ⟨k3, hb⟩))), hsx] at hm
          generalize partF (l.take i) a kd = ns at hv hm hlen
          repeat(first|refine Sc ?_|refine fun(_:Nat)=>?_)
          rcases hv with ⟨e0, rfl, rfl⟩ | ⟨Cp, rfl, rfl⟩
          · repeat(first|refine Sc ?_|refine fun(_:Nat)=>?_)
            refine ⟨fun h => absurd h (List.cons_ne_nil _ _), fun _ => ?_⟩
            repeat(first|refine Sc ?_|refine fun(_:Nat)=>?_)
            rename_i g' Cp'
            refine ⟨fun e => absurd e hpa, fun _ => ?_⟩
            repeat(first|refine Sc ?_|refine fun(_:Nat)=>?_)
            refine fun r hr => ?_
            obtain rfl := add1 hr (by omega)
            repeat(first|refine Sc ?_|refine fun(_:Nat)=>?_)
            refine Cont.lpW ?_
            refine ⟨l.length - (i + 1), _, _, by omega, Weak.sel ?_ [0, 4] (by decide) ?_, ⟨i + 1, .sl 1 g' Cp' 1, g', _, rfl, by omega, hm.symm ▸ LN.one e0, rfl, rfl⟩⟩
            · exact Ss
            · exact Sl
          · repeat(first|refine Sc ?_|refine fun(_:Nat)=>?_)
            refine ⟨by simp, ?_⟩
            repeat(first|refine Sc ?_|refine fun(_:Nat)=>?_)
            refine ⟨by simp; omega, ?_⟩
            repeat(first|refine Sc ?_|refine fun(_:Nat)=>?_)
            rename_i g' Cp'
            refine ⟨fun e => absurd e hpa, fun _ => ?_⟩
            repeat(first|refine Sc ?_|refine fun(_:Nat)=>?_)
            refine fun r hr => ?_
            obtain rfl := add1 hr (by omega)
            repeat(first|refine Sc ?_|refine fun(_:Nat)=>?_)
            refine Cont.lpW ?_
            refine ⟨l.length - (i + 1), _, _, by omega, Weak.sel ?_ [0, 1] (by decide) ?_, ⟨i + 1, .sl 1 g' Cp' ((ns.map encN).length + 1), g', _, rfl, by omega, hm.symm ▸ LN.snoc, rfl, rfl⟩⟩
            · exact Ss
            · exact Sl
        · have k3 : ¬ kd = 3 := k3
          repeat(first|refine Sc ?_|refine fun(_:Nat)=>?_)
          refine ⟨fun e => absurd e hpa, fun _ => ?_⟩
          repeat(first|refine Sc ?_|refine fun(_:Nat)=>?_)
          rw [if_neg (fun e => by rcases hcv.1 e with e | e | e <;> first | exact hpa e | exact k3 e.1 | exact hd e.2), List.append_nil] at hm
          repeat(first|refine Sc ?_|refine fun(_:Nat)=>?_)
          refine fun r hr => ?_
          obtain rfl := add1 hr (by omega)
          repeat(first|refine Sc ?_|refine fun(_:Nat)=>?_)
          refine Cont.lpW ?_
          refine ⟨l.length - (i + 1), _, _, by omega, Weak.sel ?_ [0, 1] (by decide) ?_, ⟨i + 1, v, gk, o, rfl, by omega, hm.symm ▸ hv, rfl, rfl⟩⟩
          · exact Ss
          · exact Sl
    · have hd : ¬ childB x.p a := fun e => hb ((below_begins ha hpx).2 (by have := (child_begins ha hpx).1 e; exact ⟨this.1, by omega⟩))
      rw [decide_eq_false hb]
      refine ACallT.ok (ACall.ret (refKid_spec x.p a) ?_)
      rw [decide_eq_false hd]
      repeat(first|refine Sc ?_|refine fun(_:Nat)=>?_)
      refine ⟨fun e => absurd e hpa, fun _ => ?_⟩
      repeat(first|refine Sc ?_|refine fun(_:Nat)=>?_)
      refine ⟨fun e => absurd e hpa, fun _ => ?_⟩
      repeat(first|refine Sc ?_|refine fun(_:Nat)=>?_)
      rw [if_neg (fun e => by rcases hcv.1 e with e | e | e <;> first | exact hpa e | exact hb e.2 | exact hd e.2), List.append_nil] at hm
      repeat(first|refine Sc ?_|refine fun(_:Nat)=>?_)
      refine fun r hr => ?_
      obtain rfl := add1 hr (by omega)
      repeat(first|refine Sc ?_|refine fun(_:Nat)=>?_)
      refine Cont.lpW ?_
      refine ⟨l.length - (i + 1), _, _, by omega, Weak.sel ?_ [0, 1] (by decide) ?_, ⟨i + 1, v, gk, o, rfl, by omega, hm.symm ▸ hv, rfl, rfl⟩⟩
      · exact Ss
      · exact Sl
  · have h : ¬ (i : Int) < (l.length : Int) := h
    have ei : l.take i = l := List.take_of_length_le (by omega)
    rw [ei] at hv
    repeat(first|refine Sc ?_|refine fun(_:Nat)=>?_)
    exact ⟨.tuple [encNs (partF l a kd), .int .i64 0], [], FinOk.lend (Lend.tuples ⟨hv.lend rfl, .same _, trivial⟩), rfl, rfl⟩
end Go.Proofs.YtcbjcmigecocgaaGreatDoor.HBT
