/- The document's Play. -/
import Derived.Test.YtcbjcmigecocgaaGreatDoorTwU5
import Derived.Test.YtcbjcmigecocgaaGreatDoorTwU7
set_option linter.unusedVariables false
set_option linter.unusedSimpArgs false
namespace Go.Proofs.YtcbjcmigecocgaaGreatDoor.HBT
open Go Go.Proofs.YtcbjcmigecocgaaGreatDoor.HB Go.RowKit
set_option maxRecDepth 8000

set_option maxHeartbeats 8000000 in
theorem refPlay_spec {l : List Fu} (hi : TInv l) (s st : Int) (ops : List Opp) (n : Nat) (hn : n ≤ ops.length) :
    FnSpec C 14 [.agg [rdX l], .int .i64 s, .int .i64 st, .ro 5 (ops.map encO) n] [] (fun r L' => r = .tuple [.agg [rdX (playR l s st (ops.take n)).1], encP (playR l s st (ops.take n)).2.1, encCs (playR l s st (ops.take n)).2.2] ∧ L' = []) := by
  have hlen : (ops.take n).length = n := by rw [List.length_take]; omega
  have hl := hi.len
  have hl0 : ¬ (l.length : Int) = 0 := fun h => by
    obtain ⟨x, hx, _⟩ := hi.root
    have e0 : l = [] := List.eq_nil_of_length_eq_zero (by omega)
    rw [e0] at hx
    cases hx
  have hsub : ∀ code at_ : Int, Sub (.tuple [.agg [rdX l], .agg [.int .i64 st, .int .i64 code, .int .i64 at_, .nils], .nils]) (.tuple [.agg [rdX l], encP ⟨st, code, at_, []⟩, encCs []]) := fun code at_ =>
    Sub.tuples ⟨Sub.refl _, Sub.aggs ⟨Sub.refl _, Sub.refl _, Sub.refl _, Sub.nilsRo 7, trivial⟩, Sub.nilsRo 4, trivial⟩
  have bad : ∀ code at_, playR l s st (ops.take n) = (l, ⟨st, code, at_, []⟩, []) → (AV.tuple [.agg [rdX l], encP ⟨st, code, at_, []⟩, encCs []]) = .tuple [.agg [rdX (playR l s st (ops.take n)).1], encP (playR l s st (ops.take n)).2.1, encCs (playR l s st (ops.take n)).2.2] := fun code at_ h => by rw [h]
  refine FnSpec.start C_ok Tryz.func14 rfl rfl Tryz.ntmps14 ?_
  repeat(first|refine Sc ?_|refine fun(_:Nat)=>?_)
  rename_i g4 g8 g9
  refine ⟨fun h => absurd h hl0, fun _ => ?_⟩
  repeat(first|refine Sc ?_|refine fun(_:Nat)=>?_)
  refine ⟨fun h => ?_, fun h => ?_⟩
  · have h : (n : Int) > 4 := h
    repeat(first|refine Sc ?_|refine fun(_:Nat)=>?_)
    exact ⟨.tuple [.agg [rdX l], encP ⟨st, 2, 0, []⟩, encCs []], [], FinOk.keep _ [] (hsub 2 0) (by decide) rfl, bad 2 0 (by unfold playR; rw [if_pos (show 4 < (ops.take n).length by omega)]), rfl⟩
  have h4 : ¬ ((n : Int) > 4) := h
  repeat(first|refine Sc ?_|refine fun(_:Nat)=>?_)
  refine ⟨fun h => ?_, fun h => ?_⟩
  · have h : s < 0 := h
    repeat(first|refine Sc ?_|refine fun(_:Nat)=>?_)
    exact ⟨.tuple [.agg [rdX l], encP ⟨st, 3, 0, []⟩, encCs []], [], FinOk.keep _ [] (hsub 3 0) (by decide) rfl, bad 3 0 (by unfold playR; rw [if_neg (show ¬ 4 < (ops.take n).length by omega), if_pos (.inl h)]), rfl⟩
  have hs0 : ¬ (s < 0) := h
  repeat(first|refine Sc ?_|refine fun(_:Nat)=>?_)
  refine ⟨fun h => ?_, fun h => ?_⟩
  · have h : s > 2147483647 := h
    repeat(first|refine Sc ?_|refine fun(_:Nat)=>?_)
    exact ⟨.tuple [.agg [rdX l], encP ⟨st, 3, 0, []⟩, encCs []], [], FinOk.keep _ [] (hsub 3 0) (by decide) rfl, bad 3 0 (by unfold playR; rw [if_neg (show ¬ 4 < (ops.take n).length by omega), if_pos (.inr (.inl h))]), rfl⟩
  have hs1 : ¬ (s > 2147483647) := h
  repeat(first|refine Sc ?_|refine fun(_:Nat)=>?_)
  refine ⟨fun h => ?_, fun h => ?_⟩
  · have h : st < 1 := h
    repeat(first|refine Sc ?_|refine fun(_:Nat)=>?_)
    exact ⟨.tuple [.agg [rdX l], encP ⟨st, 3, 0, []⟩, encCs []], [], FinOk.keep _ [] (hsub 3 0) (by decide) rfl, bad 3 0 (by unfold playR; rw [if_neg (show ¬ 4 < (ops.take n).length by omega), if_pos (.inr (.inr (.inl h)))]), rfl⟩
  have ht0 : ¬ (st < 1) := h
  repeat(first|refine Sc ?_|refine fun(_:Nat)=>?_)
  refine ⟨fun h => ?_, fun h => ?_⟩
  · have h : st > 2147483647 := h
    repeat(first|refine Sc ?_|refine fun(_:Nat)=>?_)
    exact ⟨.tuple [.agg [rdX l], encP ⟨st, 3, 0, []⟩, encCs []], [], FinOk.keep _ [] (hsub 3 0) (by decide) rfl, bad 3 0 (by unfold playR; rw [if_neg (show ¬ 4 < (ops.take n).length by omega), if_pos (.inr (.inr (.inr h)))]), rfl⟩
  have ht1 : ¬ (st > 2147483647) := h
  have hnum : ¬ (s < 0 ∨ 2147483647 < s ∨ st < 1 ∨ 2147483647 < st) := by omega
  repeat(first|refine Sc ?_|refine fun(_:Nat)=>?_)
  refine ⟨fun h => ?_, fun h => ?_⟩
  · have h : (n : Int) = 0 := h
    repeat(first|refine Sc ?_|refine fun(_:Nat)=>?_)
    exact ⟨.tuple [.agg [rdX l], encP ⟨st, 48, 0, []⟩, encCs []], [], FinOk.keep _ [] (hsub 48 0) (by decide) rfl, bad 48 0 (by unfold playR; rw [if_neg (show ¬ 4 < (ops.take n).length by omega), if_neg hnum, if_pos (List.eq_nil_of_length_eq_zero (by omega))]), rfl⟩
  have hn0 : ¬ ((n : Int) = 0) := h
  have hne : ops.take n ≠ [] := fun e => by rw [e] at hlen; simp at hlen; omega
  have hR : ∀ R, goF s st l [] [] 0 (ops.take n) = R → playR l s st (ops.take n) = (match R with
      | .error (e, i) => (l, ⟨st, e, i, []⟩, [])
      | .ok (l', rs, cs) => (l', ⟨st, 0, 0, rs⟩, cs)) := fun R h => by
    unfold playR; rw [if_neg (show ¬ 4 < (ops.take n).length by omega), if_neg hnum, if_neg hne, h]
    cases R <;> rfl
  have hg0 : goF s st l [] [] 0 (ops.take n) = goF s st l [] [] 0 ((ops.take n).drop 0) := by rw [List.drop_zero]
  repeat(first|refine Sc ?_|refine fun(_:Nat)=>?_)
  rename_i g12
  refine Run.loopW (fun k env L => ∃ (i : Nat) (li : List Fu) (rs : List Res) (cs : List Chg) (cv : AV) (gc : Nat) (co : AObj) (rv : AV) (gr : Nat) (ro : AObj), k = n - i ∧ i ≤ n ∧ TInv li ∧ cs.length ≤ i ∧ rs.length = i ∧ LC 4 cs cv gc co ∧ LR 5 rs rv gr ro ∧ goF s st l [] [] 0 (ops.take n) = goF s st li rs cs i ((ops.take n).drop i) ∧
      env = [.junk, .int .i64 s, .int .i64 st, .ro 5 (ops.map encO) n, .ptr 0 g4 0, .junk, .junk, .junk, .ptr 1 g8 0, .ptr 2 g9 0, .junk, rdX li, .ptr 3 g12 0, cv, .int .i64 i, .junk, .junk, .junk, .junk, .junk, .junk, .junk, .junk, .junk, .junk, .junk, .junk, .junk, .junk, .junk, .junk, .junk, .junk, .junk, .junk, .junk, .junk, .junk, .junk, .junk, .junk, .junk, .junk, .junk, .junk, .junk, .junk, .junk, .junk, .junk, .junk, .junk, .junk, .junk, .junk, .junk, .junk, .junk, .junk, .junk, .junk, .junk, .junk, .junk, .junk, .junk, .junk, .junk, .junk, .junk, .junk, .junk, .junk, .junk, .junk, .junk, .junk, .junk, .junk, .junk, .junk, .junk, .junk, .junk, .junk, .junk, .junk, .junk, .junk, .junk, .junk, .junk, .junk, .junk, .junk, .junk, .junk, .junk, .junk, .junk, .junk, .junk, .junk, .junk, .junk, .junk, .junk, .junk, .junk, .junk] ∧ L = [(g4, .cells tV [rdX l]), (g8, .cells tV [.nils]), (g9, .cells tP [.int .i64 0, .int .i64 0, .int .i64 0, .nils]), (g12, .cells tP [.int .i64 st, .int .i64 0, .int .i64 0, rv]), (gc, co), (gr, ro)]) n
    [.junk, .int .i64 s, .int .i64 st, .ro 5 (ops.map encO) n, .ptr 0 g4 0, .junk, .junk, .junk, .ptr 1 g8 0, .ptr 2 g9 0, .junk, rdX l, .ptr 3 g12 0, .nils, .int .i64 (0 : Nat), .junk, .junk, .junk, .junk, .junk, .junk, .junk, .junk, .junk, .junk, .junk, .junk, .junk, .junk, .junk, .junk, .junk, .junk, .junk, .junk, .junk, .junk, .junk, .junk, .junk, .junk, .junk, .junk, .junk, .junk, .junk, .junk, .junk, .junk, .junk, .junk, .junk, .junk, .junk, .junk, .junk, .junk, .junk, .junk, .junk, .junk, .junk, .junk, .junk, .junk, .junk, .junk, .junk, .junk, .junk, .junk, .junk, .junk, .junk, .junk, .junk, .junk, .junk, .junk, .junk, .junk, .junk, .junk, .junk, .junk, .junk, .junk, .junk, .junk, .junk, .junk, .junk, .junk, .junk, .junk, .junk, .junk, .junk, .junk, .junk, .junk, .junk, .junk, .junk, .junk, .junk, .junk, .junk, .junk, .junk] [(g4, .cells tV [rdX l]), (g8, .cells tV [.nils]), (g9, .cells tP [.int .i64 0, .int .i64 0, .int .i64 0, .nils]), (g12, .cells tP [.int .i64 st, .int .i64 0, .int .i64 0, .nils]), (0, .dead), (0, .dead)] (Weak.sel ?_ [0, 1, 2, 3, 9, 10] (by decide) ?_) ⟨0, l, [], [], .nils, 0, .dead, .nils, 0, .dead, by omega, by omega, hi, by simp, rfl, .inl ⟨rfl, rfl, rfl⟩, .inl ⟨rfl, rfl, rfl⟩, hg0, rfl, rfl⟩ ?_
  · exact Ss
  · exact Sl
  rintro k env L ⟨i, li, rs, cs, cv, gc, co, rv, gr, ro, rfl, hin, hI, hcl, hrl, hcv, hrv, hgo, rfl, rfl⟩
  repeat(first|refine Sc ?_|refine fun(_:Nat)=>?_)
  refine ⟨fun h => ?_, fun h => ?_⟩
  · have h : (i : Int) < (n : Int) := h
    obtain ⟨o, eo⟩ : ∃ o, ops[i]? = some o := ⟨_, List.getElem?_eq_getElem (by omega)⟩
    have ed : (ops.take n).drop i = o :: (ops.take n).drop (i + 1) := by
      rw [List.drop_eq_getElem_cons (by omega)]
      congr 1
      rw [List.getElem_take]
      exact Option.some.inj ((List.getElem?_eq_getElem (by omega)).symm.trans eo)
    rw [ed] at hgo
    have hone := refOne_spec hI s st o
    repeat(first|refine Sc ?_|refine fun(_:Nat)=>?_)
    refine ⟨h, encO o, map_at encO eo, ?_⟩
    repeat(first|refine Sc ?_|refine fun(_:Nat)=>?_)
    cases hpl : playF li s st o with
    | error e =>
      rw [hpl] at hone
      have hone : FnSpec C 27 [rdX li, .int .i64 s, .int .i64 st, encO o] [] (fun r L' => r = .tuple [rdX li, encR zeroRes, .ro 4 [] 0, .int .i64 e] ∧ L' = []) := hone
      have hgo2 : goF s st l [] [] 0 (ops.take n) = .error (e, i) := by
        rw [hgo]; unfold goF; rw [hpl]
      refine ACallT.ok (ACall.ret hone ?_)
      repeat(first|refine Sc ?_|refine fun(_:Nat)=>?_)
      refine ⟨fun _ => ?_, fun h => absurd (play_err hpl) h⟩
      repeat(first|refine Sc ?_|refine fun(_:Nat)=>?_)
      exact ⟨.tuple [.agg [rdX l], encP ⟨st, e, i, []⟩, encCs []], [], FinOk.keep _ [] (hsub e i) (by decide) rfl, bad e i (hR _ hgo2), rfl⟩
    | ok y =>
      obtain ⟨l', x, c⟩ := y
      rw [hpl] at hone
      have hone : FnSpec C 27 [rdX li, .int .i64 s, .int .i64 st, encO o] [] (fun r L' => r = .tuple [rdX l', encR x, encCs c, .int .i64 0] ∧ L' = []) := hone
      have hgo2 : goF s st l [] [] 0 (ops.take n) = goF s st l' (rs ++ [x]) (cs ++ c) (i + 1) ((ops.take n).drop (i + 1)) := by
        rw [hgo]; conv => lhs; unfold goF
        rw [hpl]
      have hI2 := playF_inv hI ⟨by omega, by omega⟩ ⟨by omega, by omega⟩ hpl
      have hcl2 := play_len hpl
      have hn4 : n ≤ 4 := by omega
      refine ACallT.ok (ACall.ret hone ?_)
      repeat(first|refine Sc ?_|refine fun(_:Nat)=>?_)
      refine ⟨fun h => absurd rfl h, fun _ => ?_⟩
      repeat(first|refine Sc ?_|refine fun(_:Nat)=>?_)
      rcases hrv with ⟨e1, rfl, rfl⟩ | ⟨Cr, rfl, rfl⟩
      · repeat(first|refine Sc ?_|refine fun(_:Nat)=>?_)
        refine ⟨fun h => absurd h (List.cons_ne_nil _ _), fun _ => ?_⟩
        repeat(first|refine Sc ?_|refine fun(_:Nat)=>?_)
        rename_i gr2 Cr2
        refine Run.loopW (fun k env L => ∃ (j : Nat) (cv : AV) (gc : Nat) (co : AObj), k = c.length - j ∧ j ≤ c.length ∧ LC 4 (cs ++ c.take j) cv gc co ∧ env = [.junk, .int .i64 s, .int .i64 st, .ro 5 (ops.map encO) n, .ptr 0 g4 0, .junk, .junk, .junk, .ptr 1 g8 0, .ptr 2 g9 0, .junk, rdX l', .ptr 3 g12 0, cv, .int .i64 i, .junk, .junk, encCs c, .junk, .int .i64 j, .junk, .junk, .junk, .junk, .junk, .junk, .junk, .junk, .junk, .junk, .junk, .junk, .junk, .junk, .junk, .junk, .junk, .junk, .junk, .junk, .junk, .junk, .junk, .junk, .junk, .junk, .junk, .junk, .junk, .junk, .junk, .junk, .junk, .junk, .junk, .junk, .junk, .junk, .junk, .junk, .junk, .junk, .junk, .junk, .junk, .junk, .junk, .junk, .junk, .junk, .junk, .junk, .junk, .junk, .junk, .junk, .junk, .junk, .junk, .junk, .junk, .junk, .junk, .junk, .junk, .junk, .junk, .junk, .junk, .junk, .junk, .junk, .junk, .junk, .junk, .junk, .junk, .junk, .junk, .junk, .junk, .junk, .junk, .junk, .junk, .junk, .junk, .junk, .junk, .junk] ∧ L = [(g4, .cells tV [rdX l]), (g8, .cells tV [.nils]), (g9, .cells tP [.int .i64 0, .int .i64 0, .int .i64 0, .nils]), (g12, .cells tP [.int .i64 st, .int .i64 0, .int .i64 0, .sl 5 gr2 Cr2 1]), (gc, co), (gr2, .row tR 7 Cr2 (((rs ++ [x]).map encR)))]) c.length
          [.junk, .int .i64 s, .int .i64 st, .ro 5 (ops.map encO) n, .ptr 0 g4 0, .junk, .junk, .junk, .ptr 1 g8 0, .ptr 2 g9 0, .junk, rdX l', .ptr 3 g12 0, cv, .int .i64 i, .junk, .junk, encCs c, .junk, .int .i64 (0 : Nat), .junk, .junk, .junk, .junk, .junk, .junk, .junk, .junk, .junk, .junk, .junk, .junk, .junk, .junk, .junk, .junk, .junk, .junk, .junk, .junk, .junk, .junk, .junk, .junk, .junk, .junk, .junk, .junk, .junk, .junk, .junk, .junk, .junk, .junk, .junk, .junk, .junk, .junk, .junk, .junk, .junk, .junk, .junk, .junk, .junk, .junk, .junk, .junk, .junk, .junk, .junk, .junk, .junk, .junk, .junk, .junk, .junk, .junk, .junk, .junk, .junk, .junk, .junk, .junk, .junk, .junk, .junk, .junk, .junk, .junk, .junk, .junk, .junk, .junk, .junk, .junk, .junk, .junk, .junk, .junk, .junk, .junk, .junk, .junk, .junk, .junk, .junk, .junk, .junk, .junk] [(g4, .cells tV [rdX l]), (g8, .cells tV [.nils]), (g9, .cells tP [.int .i64 0, .int .i64 0, .int .i64 0, .nils]), (g12, .cells tP [.int .i64 st, .int .i64 0, .int .i64 0, .sl 5 gr2 Cr2 1]), (gc, co), (gr2, .row tR 7 Cr2 (((rs ++ [x]).map encR)))] (Weak.sel ?_ [0, 1, 2, 3, 4, 8] (by decide) ?_) ⟨0, cv, gc, co, by omega, by omega, by rw [List.take_zero, List.append_nil]; exact hcv, rfl, rfl⟩ ?_
        · exact Ss
        · subst e1; exact Sl
        rintro k env L ⟨j, cv, gc, co, rfl, hj, hcv, rfl, rfl⟩
        repeat(first|refine Sc ?_|refine fun(_:Nat)=>?_)
        refine ⟨fun h => ?_, fun h => ?_⟩
        · have h : (j : Int) < (c.length : Int) := h
          obtain ⟨y, ey⟩ : ∃ y, c[j]? = some y := ⟨_, List.getElem?_eq_getElem (by omega)⟩
          have hm : cs ++ c.take (j + 1) = (cs ++ c.take j) ++ [y] := by rw [take_more ey, List.append_assoc]
          have hlt : (cs ++ c.take j).length ≤ 10 := by rw [List.length_append, List.length_take]; omega
          generalize cs ++ c.take j = ns at hcv hm hlt
          repeat(first|refine Sc ?_|refine fun(_:Nat)=>?_)
          rcases hcv with ⟨e0, rfl, rfl⟩ | ⟨Cp, rfl, rfl⟩
          · repeat(first|refine Sc ?_|refine fun(_:Nat)=>?_)
            refine ⟨h, encC y, map_at encC ey, ?_⟩
            repeat(first|refine Sc ?_|refine fun(_:Nat)=>?_)
            refine ⟨fun h => absurd h (List.cons_ne_nil _ _), fun _ => ?_⟩
            repeat(first|refine Sc ?_|refine fun(_:Nat)=>?_)
            rename_i g' Cp'
            refine fun r hr => ?_
            obtain rfl := add1 hr (by omega)
            repeat(first|refine Sc ?_|refine fun(_:Nat)=>?_)
            refine Cont.lpW ?_
            refine ⟨c.length - (j + 1), _, _, by omega, Weak.sel ?_ [0, 1, 2, 3, 7, 5] (by decide) ?_, ⟨j + 1, .sl 4 g' Cp' 1, g', _, rfl, by omega, hm.symm ▸ LN.one e0, rfl, rfl⟩⟩
            · exact Ss
            · exact Sl
          · repeat(first|refine Sc ?_|refine fun(_:Nat)=>?_)
            refine ⟨h, encC y, map_at encC ey, ?_⟩
            repeat(first|refine Sc ?_|refine fun(_:Nat)=>?_)
            refine ⟨by simp, ?_⟩
            repeat(first|refine Sc ?_|refine fun(_:Nat)=>?_)
            refine ⟨by simp; omega, ?_⟩
            repeat(first|refine Sc ?_|refine fun(_:Nat)=>?_)
            rename_i g' Cp'
            refine fun r hr => ?_
            obtain rfl := add1 hr (by omega)
            repeat(first|refine Sc ?_|refine fun(_:Nat)=>?_)
            refine Cont.lpW ?_
            refine ⟨c.length - (j + 1), _, _, by omega, Weak.sel ?_ [0, 1, 2, 3, 4, 5] (by decide) ?_, ⟨j + 1, .sl 4 g' Cp' ((ns.map encC).length + 1), g', _, rfl, by omega, hm.symm ▸ LN.snoc, rfl, rfl⟩⟩
            · exact Ss
            · exact Sl
        · have h : ¬ (j : Int) < (c.length : Int) := h
          rw [List.take_of_length_le (by omega)] at hcv
          repeat(first|refine Sc ?_|refine fun(_:Nat)=>?_)
          refine fun r hr => ?_
          obtain rfl := add1 hr (by omega)
          repeat(first|refine Sc ?_|refine fun(_:Nat)=>?_)
          refine Cont.lpW ?_
          refine ⟨n - (i + 1), _, _, by omega, Weak.sel ?_ [0, 1, 2, 3, 4, 5] (by decide) ?_, ⟨i + 1, l', rs ++ [x], cs ++ c, cv, gc, co, .sl 5 gr2 Cr2 1, gr2, .row tR 7 Cr2 ((rs ++ [x]).map encR), rfl, by omega, hI2, by rw [List.length_append]; omega, by rw [List.length_append, List.length_singleton, hrl], hcv, by subst e1; exact LN.one rfl, hgo2, rfl, rfl⟩⟩
          · exact Ss
          · exact Sl
      · repeat(first|refine Sc ?_|refine fun(_:Nat)=>?_)
        refine ⟨by simp, ?_⟩
        repeat(first|refine Sc ?_|refine fun(_:Nat)=>?_)
        refine ⟨by simp; omega, ?_⟩
        repeat(first|refine Sc ?_|refine fun(_:Nat)=>?_)
        rename_i gr2 Cr2
        refine Run.loopW (fun k env L => ∃ (j : Nat) (cv : AV) (gc : Nat) (co : AObj), k = c.length - j ∧ j ≤ c.length ∧ LC 4 (cs ++ c.take j) cv gc co ∧ env = [.junk, .int .i64 s, .int .i64 st, .ro 5 (ops.map encO) n, .ptr 0 g4 0, .junk, .junk, .junk, .ptr 1 g8 0, .ptr 2 g9 0, .junk, rdX l', .ptr 3 g12 0, cv, .int .i64 i, .junk, .junk, encCs c, .junk, .int .i64 j, .junk, .junk, .junk, .junk, .junk, .junk, .junk, .junk, .junk, .junk, .junk, .junk, .junk, .junk, .junk, .junk, .junk, .junk, .junk, .junk, .junk, .junk, .junk, .junk, .junk, .junk, .junk, .junk, .junk, .junk, .junk, .junk, .junk, .junk, .junk, .junk, .junk, .junk, .junk, .junk, .junk, .junk, .junk, .junk, .junk, .junk, .junk, .junk, .junk, .junk, .junk, .junk, .junk, .junk, .junk, .junk, .junk, .junk, .junk, .junk, .junk, .junk, .junk, .junk, .junk, .junk, .junk, .junk, .junk, .junk, .junk, .junk, .junk, .junk, .junk, .junk, .junk, .junk, .junk, .junk, .junk, .junk, .junk, .junk, .junk, .junk, .junk, .junk, .junk, .junk] ∧ L = [(g4, .cells tV [rdX l]), (g8, .cells tV [.nils]), (g9, .cells tP [.int .i64 0, .int .i64 0, .int .i64 0, .nils]), (g12, .cells tP [.int .i64 st, .int .i64 0, .int .i64 0, .sl 5 gr2 Cr2 ((rs.map encR).length + 1)]), (gc, co), (gr2, .row tR 7 Cr2 (((rs ++ [x]).map encR)))]) c.length
          [.junk, .int .i64 s, .int .i64 st, .ro 5 (ops.map encO) n, .ptr 0 g4 0, .junk, .junk, .junk, .ptr 1 g8 0, .ptr 2 g9 0, .junk, rdX l', .ptr 3 g12 0, cv, .int .i64 i, .junk, .junk, encCs c, .junk, .int .i64 (0 : Nat), .junk, .junk, .junk, .junk, .junk, .junk, .junk, .junk, .junk, .junk, .junk, .junk, .junk, .junk, .junk, .junk, .junk, .junk, .junk, .junk, .junk, .junk, .junk, .junk, .junk, .junk, .junk, .junk, .junk, .junk, .junk, .junk, .junk, .junk, .junk, .junk, .junk, .junk, .junk, .junk, .junk, .junk, .junk, .junk, .junk, .junk, .junk, .junk, .junk, .junk, .junk, .junk, .junk, .junk, .junk, .junk, .junk, .junk, .junk, .junk, .junk, .junk, .junk, .junk, .junk, .junk, .junk, .junk, .junk, .junk, .junk, .junk, .junk, .junk, .junk, .junk, .junk, .junk, .junk, .junk, .junk, .junk, .junk, .junk, .junk, .junk, .junk, .junk, .junk, .junk] [(g4, .cells tV [rdX l]), (g8, .cells tV [.nils]), (g9, .cells tP [.int .i64 0, .int .i64 0, .int .i64 0, .nils]), (g12, .cells tP [.int .i64 st, .int .i64 0, .int .i64 0, .sl 5 gr2 Cr2 ((rs.map encR).length + 1)]), (gc, co), (gr2, .row tR 7 Cr2 (((rs ++ [x]).map encR)))] (Weak.sel ?_ [0, 1, 2, 3, 4, 5] (by decide) ?_) ⟨0, cv, gc, co, by omega, by omega, by rw [List.take_zero, List.append_nil]; exact hcv, rfl, rfl⟩ ?_
        · exact Ss
        · rw [List.map_append]; exact Sl
        rintro k env L ⟨j, cv, gc, co, rfl, hj, hcv, rfl, rfl⟩
        repeat(first|refine Sc ?_|refine fun(_:Nat)=>?_)
        refine ⟨fun h => ?_, fun h => ?_⟩
        · have h : (j : Int) < (c.length : Int) := h
          obtain ⟨y, ey⟩ : ∃ y, c[j]? = some y := ⟨_, List.getElem?_eq_getElem (by omega)⟩
          have hm : cs ++ c.take (j + 1) = (cs ++ c.take j) ++ [y] := by rw [take_more ey, List.append_assoc]
          have hlt : (cs ++ c.take j).length ≤ 10 := by rw [List.length_append, List.length_take]; omega
          generalize cs ++ c.take j = ns at hcv hm hlt
          repeat(first|refine Sc ?_|refine fun(_:Nat)=>?_)
          rcases hcv with ⟨e0, rfl, rfl⟩ | ⟨Cp, rfl, rfl⟩
          · repeat(first|refine Sc ?_|refine fun(_:Nat)=>?_)
            refine ⟨h, encC y, map_at encC ey, ?_⟩
            repeat(first|refine Sc ?_|refine fun(_:Nat)=>?_)
            refine ⟨fun h => absurd h (List.cons_ne_nil _ _), fun _ => ?_⟩
            repeat(first|refine Sc ?_|refine fun(_:Nat)=>?_)
            rename_i g' Cp'
            refine fun r hr => ?_
            obtain rfl := add1 hr (by omega)
            repeat(first|refine Sc ?_|refine fun(_:Nat)=>?_)
            refine Cont.lpW ?_
            refine ⟨c.length - (j + 1), _, _, by omega, Weak.sel ?_ [0, 1, 2, 3, 7, 5] (by decide) ?_, ⟨j + 1, .sl 4 g' Cp' 1, g', _, rfl, by omega, hm.symm ▸ LN.one e0, rfl, rfl⟩⟩
            · exact Ss
            · exact Sl
          · repeat(first|refine Sc ?_|refine fun(_:Nat)=>?_)
            refine ⟨h, encC y, map_at encC ey, ?_⟩
            repeat(first|refine Sc ?_|refine fun(_:Nat)=>?_)
            refine ⟨by simp, ?_⟩
            repeat(first|refine Sc ?_|refine fun(_:Nat)=>?_)
            refine ⟨by simp; omega, ?_⟩
            repeat(first|refine Sc ?_|refine fun(_:Nat)=>?_)
            rename_i g' Cp'
            refine fun r hr => ?_
            obtain rfl := add1 hr (by omega)
            repeat(first|refine Sc ?_|refine fun(_:Nat)=>?_)
            refine Cont.lpW ?_
            refine ⟨c.length - (j + 1), _, _, by omega, Weak.sel ?_ [0, 1, 2, 3, 4, 5] (by decide) ?_, ⟨j + 1, .sl 4 g' Cp' ((ns.map encC).length + 1), g', _, rfl, by omega, hm.symm ▸ LN.snoc, rfl, rfl⟩⟩
            · exact Ss
            · exact Sl
        · have h : ¬ (j : Int) < (c.length : Int) := h
          rw [List.take_of_length_le (by omega)] at hcv
          repeat(first|refine Sc ?_|refine fun(_:Nat)=>?_)
          refine fun r hr => ?_
          obtain rfl := add1 hr (by omega)
          repeat(first|refine Sc ?_|refine fun(_:Nat)=>?_)
          refine Cont.lpW ?_
          refine ⟨n - (i + 1), _, _, by omega, Weak.sel ?_ [0, 1, 2, 3, 4, 5] (by decide) ?_, ⟨i + 1, l', rs ++ [x], cs ++ c, cv, gc, co, .sl 5 gr2 Cr2 ((rs.map encR).length + 1), gr2, .row tR 7 Cr2 ((rs ++ [x]).map encR), rfl, by omega, hI2, by rw [List.length_append]; omega, by rw [List.length_append, List.length_singleton, hrl], hcv, by rw [List.map_append]; exact LN.snoc, hgo2, rfl, rfl⟩⟩
          · exact Ss
          · exact Sl
  · have h : ¬ (i : Int) < (n : Int) := h
    have hil : i = n := by omega
    subst hil
    have e0 : (ops.take i).drop i = [] := List.drop_eq_nil_of_le (by omega)
    rw [e0] at hgo
    have hgo2 : goF s st l [] [] 0 (ops.take i) = .ok (li, rs, cs) := by rw [hgo]; unfold goF; rfl
    have hfin := hR _ hgo2
    repeat(first|refine Sc ?_|refine fun(_:Nat)=>?_)
    refine Run.drawnK C_ok (aopC_sound C_ok) [3] [0, 1, 2, 3, 4, 5, 6] (by kernel_rfl) ?_
    repeat(first|refine Sc ?_|refine fun(_:Nat)=>?_)
    exact ⟨.tuple [.agg [rdX li], encP ⟨st, 0, 0, rs⟩, encCs cs], [], FinOk.lend (Lend.tuples ⟨.same _, Lend.aggs ⟨.same _, .same _, .same _, hrv.lend rfl, trivial⟩, hcv.lend rfl, trivial⟩), by rw [hfin], rfl⟩
end Go.Proofs.YtcbjcmigecocgaaGreatDoor.HBT
