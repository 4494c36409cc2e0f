/- A request played: Play. -/
import Derived.Test.YtcbjcmigecocgaaGreatDoorTwT8
import Derived.Test.YtcbjcmigecocgaaGreatDoorTwT6
import Derived.Test.YtcbjcmigecocgaaGreatDoorHbZe
set_option linter.unusedVariables false
set_option linter.unusedSimpArgs false
namespace Go.Proofs.YtcbjcmigecocgaaGreatDoor.HBT
open Go Go.Proofs.YtcbjcmigecocgaaGreatDoor.HB Go.RowKit
set_option maxRecDepth 8000

abbrev tP : TypeId := 51
abbrev encP (r : Rep) : AV := .agg [.int .i64 r.st, .int .i64 r.code, .int .i64 r.at_, .ro 7 (r.rs.map encR) r.rs.length]
def PlayQ (gt : Nat) (l : List Fu) (s st : Int) (ops : List Opp) : AV → AHeap → Prop := fun r L' =>
  ∃ gm es cl, TM (playR l s st ops).1 es cl ∧ r = .tuple [encP (playR l s st ops).2.1, encCs (playR l s st ops).2.2] ∧ L' = TreeL gt gm es cl

theorem play_err {l : List Fu} {s st : Int} {o : Opp} {e : Int} (h : playF l s st o = .error e) : e ≠ 0 := by
  have hm : ∀ e, makeF l s st o = .error e → e ≠ 0 := fun e h => by
    unfold makeF at h
    repeat' (first | (cases h; decide) | split at h)
    all_goals cases h
  unfold playF at h
  by_cases c1 : o.k < 1 ∨ 7 < o.k
  · rw [if_pos c1] at h; cases h; decide
  rw [if_neg c1] at h
  by_cases c2 : o.k = 1
  · rw [if_pos c2] at h; exact hm e h
  rw [if_neg c2] at h
  repeat' (first | (cases h; decide) | split at h)
  all_goals cases h
theorem play_len {l l' : List Fu} {s st : Int} {o : Opp} {r : Res} {c : List Chg} (h : playF l s st o = .ok (l', r, c)) : c.length ≤ 1 := by
  have hm : makeF l s st o = .ok (l', r, c) → c.length ≤ 1 := fun h => by
    unfold makeF at h
    repeat' (first | (cases h; done) | split at h)
    all_goals (cases h; simp)
  unfold playF at h
  by_cases c1 : o.k < 1 ∨ 7 < o.k
  · rw [if_pos c1] at h; cases h
  rw [if_neg c1] at h
  by_cases c2 : o.k = 1
  · rw [if_pos c2] at h; exact hm h
  rw [if_neg c2] at h
  repeat' (first | (cases h; done) | split at h)
  all_goals (cases h; simp)

theorem refused_spec (gs : Nat) (st code at_ : Int) : FnSpec C 24 [.int .i64 code, .int .i64 at_, .ptr 0 gs 0] [(gs, .cells 3 [.int .i64 st])]
    (fun r L' => r = .tuple [.agg [.int .i64 st, .int .i64 code, .int .i64 at_, .nils], .nils] ∧ L' = [(gs, .cells 3 [.int .i64 st])]) := by
  refine FnSpec.start C_ok Tryz.func24 rfl rfl Tryz.ntmps24 ?_
  repeat(first|refine Sc ?_|refine fun(_:Nat)=>?_)
  exact ⟨_, _, FinOk.keep _ [0] (Sub.refl _) (by decide) rfl, rfl, rfl⟩
theorem subP (st code at_ : Int) : Sub (.tuple [.agg [.int .i64 st, .int .i64 code, .int .i64 at_, .nils], .nils]) (.tuple [encP ⟨st, code, at_, []⟩, encCs []]) :=
  Sub.tuples ⟨Sub.aggs ⟨Sub.refl _, Sub.refl _, Sub.refl _, Sub.nilsRo 7, trivial⟩, Sub.nilsRo 4, trivial⟩
set_option maxHeartbeats 8000000 in
theorem play_spec (gt gm : Nat) {l : List Fu} {es : Array MapEntry} {cl : Nat} (hT : TM l es cl) (hi : TInv l) (s st : Int) (ops : List Opp) (n : Nat) (hn : n ≤ ops.length) :
    FnSpec C 13 [.ptr 0 gt 0, .int .i64 s, .int .i64 st, .ro 5 (ops.map encO) n] (TreeL gt gm es cl) (PlayQ gt l s st (ops.take n)) := by
  have hlen : (ops.take n).length = n := by rw [List.length_take]; omega
  have bad : ∀ code at_, playR l s st (ops.take n) = (l, ⟨st, code, at_, []⟩, []) → PlayQ gt l s st (ops.take n) (.tuple [encP ⟨st, code, at_, []⟩, encCs []]) (TreeL gt gm es cl) := fun code at_ h => ⟨gm, es, cl, by rw [h]; exact hT, by rw [h], rfl⟩
  refine FnSpec.start C_ok Tryz.func13 rfl rfl Tryz.ntmps13 ?_
  repeat(first|refine Sc ?_|refine fun(_:Nat)=>?_)
  rename_i gs gr
  refine ACallT.ok (ACall.sel [0] (by decide) [.ptr 0 gt 0] _ (.one (Sub.refl _)) (none_spec gt (some gm)) ?_)
  rintro r L' ⟨rfl, rfl⟩
  refine ⟨.bool false, Sub.refl _, ?_⟩
  repeat(first|refine Sc ?_|refine fun(_:Nat)=>?_)
  refine ⟨fun h => ?_, fun h => ?_⟩
  · have h : (4 : Int) < (n : Int) := h
    repeat(first|refine Sc ?_|refine fun(_:Nat)=>?_)
    refine ⟨[.ptr 2 gs 0], rfl, ?_⟩
    refine ACall.sel [2] (by decide) [.int .i64 2, .int .i64 0, .ptr 0 gs 0] _ (.three (Sub.refl _) (Sub.refl _) (Sub.ptr _ _ _ _)) (refused_spec gs st 2 0) ?_
    rintro r L' ⟨rfl, rfl⟩
    refine ⟨_, Sub.refl _, ?_⟩
    repeat(first|refine Sc ?_|refine fun(_:Nat)=>?_)
    exact ⟨_, _, FinOk.keep _ [0, 1] (subP st 2 0) (by decide) rfl, bad 2 0 (by unfold playR; rw [if_pos (show 4 < (ops.take n).length by omega)])⟩
  have h4 : ¬ ((4 : Int) < (n : Int)) := h
  repeat(first|refine Sc ?_|refine fun(_:Nat)=>?_)
  refine ⟨fun h => ?_, fun h => ?_⟩
  · have h : s < 0 := h
    repeat(first|refine Sc ?_|refine fun(_:Nat)=>?_)
    refine ⟨[.ptr 2 gs 0], rfl, ?_⟩
    refine ACall.sel [2] (by decide) [.int .i64 3, .int .i64 0, .ptr 0 gs 0] _ (.three (Sub.refl _) (Sub.refl _) (Sub.ptr _ _ _ _)) (refused_spec gs st 3 0) ?_
    rintro r L' ⟨rfl, rfl⟩
    refine ⟨_, Sub.refl _, ?_⟩
    repeat(first|refine Sc ?_|refine fun(_:Nat)=>?_)
    exact ⟨_, _, FinOk.keep _ [0, 1] (subP st 3 0) (by decide) rfl, bad 3 0 (by unfold playR; rw [if_neg (show ¬ 4 < (ops.take n).length by omega), if_pos (.inl h)])⟩
  have hs0 : ¬ (s < 0) := h
  repeat(first|refine Sc ?_|refine fun(_:Nat)=>?_)
  refine ⟨fun h => ?_, fun h => ?_⟩
  · have h : 2147483647 < s := h
    repeat(first|refine Sc ?_|refine fun(_:Nat)=>?_)
    refine ⟨[.ptr 2 gs 0], rfl, ?_⟩
    refine ACall.sel [2] (by decide) [.int .i64 3, .int .i64 0, .ptr 0 gs 0] _ (.three (Sub.refl _) (Sub.refl _) (Sub.ptr _ _ _ _)) (refused_spec gs st 3 0) ?_
    rintro r L' ⟨rfl, rfl⟩
    refine ⟨_, Sub.refl _, ?_⟩
    repeat(first|refine Sc ?_|refine fun(_:Nat)=>?_)
    exact ⟨_, _, FinOk.keep _ [0, 1] (subP st 3 0) (by decide) rfl, bad 3 0 (by unfold playR; rw [if_neg (show ¬ 4 < (ops.take n).length by omega), if_pos (.inr (.inl h))])⟩
  have hs1 : ¬ (2147483647 < s) := h
  repeat(first|refine Sc ?_|refine fun(_:Nat)=>?_)
  refine ⟨fun h => ?_, fun h => ?_⟩
  · have h : st < 1 := h
    repeat(first|refine Sc ?_|refine fun(_:Nat)=>?_)
    refine ⟨[.ptr 2 gs 0], rfl, ?_⟩
    refine ACall.sel [2] (by decide) [.int .i64 3, .int .i64 0, .ptr 0 gs 0] _ (.three (Sub.refl _) (Sub.refl _) (Sub.ptr _ _ _ _)) (refused_spec gs st 3 0) ?_
    rintro r L' ⟨rfl, rfl⟩
    refine ⟨_, Sub.refl _, ?_⟩
    repeat(first|refine Sc ?_|refine fun(_:Nat)=>?_)
    exact ⟨_, _, FinOk.keep _ [0, 1] (subP st 3 0) (by decide) rfl, bad 3 0 (by unfold playR; rw [if_neg (show ¬ 4 < (ops.take n).length by omega), if_pos (.inr (.inr (.inl h)))])⟩
  have ht0 : ¬ (st < 1) := h
  repeat(first|refine Sc ?_|refine fun(_:Nat)=>?_)
  refine ⟨fun h => ?_, fun h => ?_⟩
  · have h : 2147483647 < st := h
    repeat(first|refine Sc ?_|refine fun(_:Nat)=>?_)
    refine ⟨[.ptr 2 gs 0], rfl, ?_⟩
    refine ACall.sel [2] (by decide) [.int .i64 3, .int .i64 0, .ptr 0 gs 0] _ (.three (Sub.refl _) (Sub.refl _) (Sub.ptr _ _ _ _)) (refused_spec gs st 3 0) ?_
    rintro r L' ⟨rfl, rfl⟩
    refine ⟨_, Sub.refl _, ?_⟩
    repeat(first|refine Sc ?_|refine fun(_:Nat)=>?_)
    exact ⟨_, _, FinOk.keep _ [0, 1] (subP st 3 0) (by decide) rfl, bad 3 0 (by unfold playR; rw [if_neg (show ¬ 4 < (ops.take n).length by omega), if_pos (.inr (.inr (.inr h)))])⟩
  have ht1 : ¬ (2147483647 < st) := h
  have hnum : ¬ (s < 0 ∨ 2147483647 < s ∨ st < 1 ∨ 2147483647 < st) := by omega
  repeat(first|refine Sc ?_|refine fun(_:Nat)=>?_)
  refine ⟨fun h => ?_, fun h => ?_⟩
  · have h : (n : Int) = 0 := h
    repeat(first|refine Sc ?_|refine fun(_:Nat)=>?_)
    refine ⟨[.ptr 2 gs 0], rfl, ?_⟩
    refine ACall.sel [2] (by decide) [.int .i64 48, .int .i64 0, .ptr 0 gs 0] _ (.three (Sub.refl _) (Sub.refl _) (Sub.ptr _ _ _ _)) (refused_spec gs st 48 0) ?_
    rintro r L' ⟨rfl, rfl⟩
    refine ⟨_, Sub.refl _, ?_⟩
    repeat(first|refine Sc ?_|refine fun(_:Nat)=>?_)
    exact ⟨_, _, FinOk.keep _ [0, 1] (subP st 48 0) (by decide) rfl, bad 48 0 (by unfold playR; rw [if_neg (show ¬ 4 < (ops.take n).length by omega), if_neg hnum, if_pos (List.eq_nil_of_length_eq_zero (by omega))])⟩
  have hn0 : ¬ ((n : Int) = 0) := h
  have hne : ops.take n ≠ [] := fun e => by rw [e] at hlen; simp at hlen; omega
  have hR : ∀ R, goF s st l [] [] 0 (ops.take n) = R → playR l s st (ops.take n) = (match R with
      | .error (e, i) => (l, ⟨st, e, i, []⟩, [])
      | .ok (l', rs, cs) => (l', ⟨st, 0, 0, rs⟩, cs)) := fun R h => by
    unfold playR; rw [if_neg (show ¬ 4 < (ops.take n).length by omega), if_neg hnum, if_neg hne, h]
    cases R <;> rfl
  repeat(first|refine Sc ?_|refine fun(_:Nat)=>?_)
  refine Run.join C_ok (fun env L => ∃ g4 g5, env = [.ptr 0 gt 0, .int .i64 s, .int .i64 st, .ro 5 (ops.map encO) n, .junk, .junk, .ptr 2 gs 0, .junk, .ptr 3 gr 0, .nils, .any (.func (.func 24) #[] #[.pointer (some ⟨gs, 0, none⟩)]), .ptr 5 g5 0, .junk, .junk, .junk, .junk, .junk, .junk, .junk, .junk, .junk, .junk, .junk, .junk, .junk, .junk, .junk, .junk, .junk, .junk, .junk, .junk, .junk, .junk, .junk, .junk, .junk, .junk, .junk, .junk, .junk, .junk, .junk, .junk, .junk, .junk, .junk, .junk, .junk, .junk, .junk, .junk, .junk, .junk, .junk, .junk, .junk, .junk, .junk, .junk, .junk, .junk, .junk, .junk, .junk, .junk, .junk, .junk, .junk, .junk, .junk, .junk, .junk, .junk, .junk, .junk, .junk, .junk, .junk, .junk, .junk, .junk, .junk, .junk, .junk, .junk, .junk, .junk, .junk, .junk, .junk, .junk, .junk, .junk, .junk, .junk, .junk, .junk, .junk, .junk, .junk, .junk, .junk, .junk, .junk] ∧ L = [(gt, .cells tT [.any (.map (some gm))]), (gm, .obj (.map es cl)), (gs, .cells 3 [.int .i64 st]), (gr, .cells tP [.int .i64 0, .int .i64 0, .int .i64 0, .nils]), (g4, .obj (.map es cl)), (g5, .cells tW [.any (.map (some g4)), .int .i64 s, .int .i64 st, .nils])]) ?_ ?_
  · refine Run.drawnN C_ok (aopC_sound C_ok) [0, 2] (.pre [0, 1, 2, 3, 5, 6] (.two 4 (.ofL [7, 8, 9]) 8 (.ofL [4, 7, 9]))) (by kernel_rfl) ?_
    repeat(first|refine Sc ?_|refine fun(_:Nat)=>?_)
    refine OrdN.two ?_ ?_
    · repeat(first|refine Sc ?_|refine fun(_:Nat)=>?_)
      refine ACallT.ok (ACall.sel [1] (by decide) [.any (.map (some gm))] _ (.one (Sub.refl _)) (clone_spec gm es cl) ?_)
      rintro r L' ⟨g4, rfl, rfl⟩
      refine ⟨_, Sub.refl _, ?_⟩
      repeat(first|refine Sc ?_|refine fun(_:Nat)=>?_)
      rename_i g5
      refine ⟨_, _, Weak.sel ?_ [0, 1, 2, 3, 4, 5] (by decide) ?_, g4, g5, rfl, rfl⟩
      · exact Ss
      · exact Sl
    · repeat(first|refine Sc ?_|refine fun(_:Nat)=>?_)
      rename_i g5
      refine ACallT.ok (ACall.sel [1] (by decide) [.any (.map (some gm))] _ (.one (Sub.refl _)) (clone_spec gm es cl) ?_)
      rintro r L' ⟨g4, rfl, rfl⟩
      refine ⟨_, Sub.refl _, ?_⟩
      repeat(first|refine Sc ?_|refine fun(_:Nat)=>?_)
      refine ⟨_, _, Weak.sel ?_ [0, 1, 2, 3, 5, 4] (by decide) ?_, g4, g5, rfl, rfl⟩
      · exact Ss
      · exact Sl
  rintro env L ⟨g4, gw, rfl, rfl⟩
  repeat(first|refine Sc ?_|refine fun(_:Nat)=>?_)
  rename_i gp
  have hg0 : goF s st l [] [] 0 (ops.take n) = goF s st l [] [] 0 ((ops.take n).drop 0) := by rw [List.drop_zero]
  refine Run.loopW (fun k env L => ∃ (i : Nat) (li : List Fu) (rs : List Res) (cs : List Chg) (es' : Array MapEntry) (cl' : Nat) (cv : AV) (gc : Nat) (co : AObj) (rv : AV) (grs : Nat) (oo : AObj), k = n - i ∧ i ≤ n ∧ TM li es' cl' ∧ TInv li ∧ cs.length ≤ i ∧ rs.length = i ∧ LC 7 cs cv gc co ∧ LR 8 rs rv grs oo ∧
      goF s st l [] [] 0 (ops.take n) = goF s st li rs cs i ((ops.take n).drop i) ∧ env = [.ptr 0 gt 0, .junk, .junk, .junk, .junk, .junk, .ptr 2 gs 0, .junk, .ptr 3 gr 0, .junk, .any (.func (.func 24) #[] #[.pointer (some ⟨gs, 0, none⟩)]), .ptr 5 gw 0, .ptr 6 gp 0, .junk, .junk, .junk, .junk, .junk, .junk, .junk, .junk, .junk, .junk, .junk, .junk, .junk, .junk, .junk, .junk, .junk, .junk, .junk, .junk, .junk, .junk, .junk, .junk, .junk, .junk, .junk, .junk, .junk, .junk, .junk, .junk, .junk, .junk, .junk, .junk, .junk, .junk, .junk, .junk, .junk, .junk, .junk, .junk, .junk, .junk, .junk, .junk, .junk, .junk, .junk, .junk, .junk, .junk, .junk, .junk, .junk, .ro 5 (ops.map encO) n, .int .i64 n, .int .i64 i, .junk, .junk, .junk, .junk, .junk, .junk, .junk, .junk, .junk, .junk, .junk, .junk, .junk, .junk, .junk, .junk, .junk, .junk, .junk, .junk, .junk, .junk, .junk, .junk, .junk, .junk, .junk, .junk, .junk, .junk, .junk, .junk] ∧ L = [(gt, .cells tT [.any (.map (some gm))]), (gm, .obj (.map es cl)), (gs, .cells 3 [.int .i64 st]), (gr, .cells tP [.int .i64 0, .int .i64 0, .int .i64 0, .nils]), (g4, .obj (.map es' cl')), (gw, .cells tW [.any (.map (some g4)), .int .i64 s, .int .i64 st, cv]), (gp, .cells tP [.int .i64 st, .int .i64 0, .int .i64 0, rv]), (gc, co), (grs, oo)]) n
    [.ptr 0 gt 0, .junk, .junk, .junk, .junk, .junk, .ptr 2 gs 0, .junk, .ptr 3 gr 0, .junk, .any (.func (.func 24) #[] #[.pointer (some ⟨gs, 0, none⟩)]), .ptr 5 gw 0, .ptr 6 gp 0, .junk, .junk, .junk, .junk, .junk, .junk, .junk, .junk, .junk, .junk, .junk, .junk, .junk, .junk, .junk, .junk, .junk, .junk, .junk, .junk, .junk, .junk, .junk, .junk, .junk, .junk, .junk, .junk, .junk, .junk, .junk, .junk, .junk, .junk, .junk, .junk, .junk, .junk, .junk, .junk, .junk, .junk, .junk, .junk, .junk, .junk, .junk, .junk, .junk, .junk, .junk, .junk, .junk, .junk, .junk, .junk, .junk, .ro 5 (ops.map encO) n, .int .i64 n, .int .i64 (0 : Nat), .junk, .junk, .junk, .junk, .junk, .junk, .junk, .junk, .junk, .junk, .junk, .junk, .junk, .junk, .junk, .junk, .junk, .junk, .junk, .junk, .junk, .junk, .junk, .junk, .junk, .junk, .junk, .junk, .junk, .junk, .junk, .junk]
    [(gt, .cells tT [.any (.map (some gm))]), (gm, .obj (.map es cl)), (gs, .cells 3 [.int .i64 st]), (gr, .cells tP [.int .i64 0, .int .i64 0, .int .i64 0, .nils]), (g4, .obj (.map es cl)), (gw, .cells tW [.any (.map (some g4)), .int .i64 s, .int .i64 st, .nils]), (gp, .cells tP [.int .i64 st, .int .i64 0, .int .i64 0, .nils]), (0, .dead), (0, .dead)]
    (Weak.sel ?_ [0, 1, 2, 3, 4, 5, 6, 19, 20] (by decide) ?_) ⟨0, l, [], [], es, cl, .nils, 0, .dead, .nils, 0, .dead, by omega, by omega, hT, hi, by simp, rfl, .inl ⟨rfl, rfl, rfl⟩, .inl ⟨rfl, rfl, rfl⟩, hg0, rfl, rfl⟩ ?_
  · exact Ss
  · exact Sl
  rintro k env L ⟨i, li, rs, cs, es', cl', cv, gc, co, rv, grs, oo, rfl, hin, hT', hI, hcl, hrl, hcv, hrv, hgo, rfl, rfl⟩
  repeat(first|refine Sc ?_|refine fun(_:Nat)=>?_)
  refine ⟨fun h => ?_, fun h => ?_⟩
  · have h : (i : Int) < (n : Int) := h
    have hil : i < n := by omega
    obtain ⟨o, eo⟩ : ∃ o, ops[i]? = some o := ⟨_, List.getElem?_eq_getElem (by omega)⟩
    have ed : (ops.take n).drop i = o :: (ops.take n).drop (i + 1) := by
      rw [List.drop_eq_getElem_cons (by omega)]
      congr 1
      rw [List.getElem_take]
      exact Option.some.inj ((List.getElem?_eq_getElem (by omega)).symm.trans eo)
    rw [ed] at hgo
    obtain ⟨cv2, hs2, hcv2⟩ := hcv.move 2
    repeat(first|refine Sc ?_|refine fun(_:Nat)=>?_)
    refine ⟨h, encO o, map_at encO eo, ?_⟩
    repeat(first|refine Sc ?_|refine fun(_:Nat)=>?_)
    rename_i go
    refine ACallT.ok (ACall.selS [5, 4, 7] (by decide) [.ptr 0 gw 0, encO o] (WorkL gw g4 s st cv2 es' cl' gc co) _ (.two (Sub.ptr _ _ _ _) (Sub.refl _)) ⟨rfl, SubO.cells ⟨Sub.refl _, Sub.refl _, Sub.refl _, hs2, trivial⟩, rfl, SubO.refl _, rfl, SubO.refl _, trivial⟩ (op_spec gw g4 gc s st cs cv2 co hcv2 (by omega) hT' hI o) ?_)
    intro r L' hq
    cases hpl : playF li s st o with
    | error e =>
      rw [hpl] at hq
      obtain ⟨rfl, rfl⟩ := hq
      have hgo2 : goF s st l [] [] 0 (ops.take n) = .error (e, i) := by
        rw [hgo]; unfold goF; rw [hpl]
      refine ⟨_, _, Sub.refl _, SubL.refl _, ?_⟩
      repeat(first|refine Sc ?_|refine fun(_:Nat)=>?_)
      refine ⟨fun _ => ?_, fun h => absurd (play_err hpl) h⟩
      repeat(first|refine Sc ?_|refine fun(_:Nat)=>?_)
      refine ⟨[.ptr 2 gs 0], rfl, ?_⟩
      refine ACall.sel [2] (by decide) [.int .i64 e, .int .i64 i, .ptr 0 gs 0] _ (.three (Sub.refl _) (Sub.refl _) (Sub.ptr _ _ _ _)) (refused_spec gs st e i) ?_
      rintro r L' ⟨rfl, rfl⟩
      refine ⟨_, Sub.refl _, ?_⟩
      repeat(first|refine Sc ?_|refine fun(_:Nat)=>?_)
      exact ⟨_, _, FinOk.keep _ [0, 1] (subP st e i) (by decide) rfl, bad e i (hR _ hgo2)⟩
    | ok y =>
      obtain ⟨l', x, c⟩ := y
      rw [hpl] at hq
      obtain ⟨es2, cl2, cv3, gc3, co3, q1, q2, rfl, rfl⟩ := hq
      obtain ⟨cv4, hs4, q3⟩ := q2.move 7
      have hgo2 : goF s st l [] [] 0 (ops.take n) = goF s st l' (rs ++ [x]) (cs ++ c) (i + 1) ((ops.take n).drop (i + 1)) := by
        rw [hgo]; conv => lhs; unfold goF
        rw [hpl]
      refine ⟨.tuple [encR x, .int .i64 0], [(gt, .cells tT [.any (.map (some gm))]), (gm, .obj (.map es cl)), (gs, .cells 3 [.int .i64 st]), (gr, .cells tP [.int .i64 0, .int .i64 0, .int .i64 0, .nils]), (g4, .obj (.map es2 cl2)), (gw, .cells tW [.any (.map (some g4)), .int .i64 s, .int .i64 st, cv4]), (gp, .cells tP [.int .i64 st, .int .i64 0, .int .i64 0, rv]), (gc3, co3), (grs, oo), (go, .cells tO [.int .i64 o.k, .str o.p, .str o.d, .int .i64 o.v, .int .i64 o.f])], Sub.refl _, ⟨rfl, SubO.refl _, rfl, SubO.refl _, rfl, SubO.refl _, rfl, SubO.refl _, rfl, SubO.refl _, rfl, SubO.cells ⟨Sub.refl _, Sub.refl _, Sub.refl _, hs4, trivial⟩, rfl, SubO.refl _, rfl, SubO.refl _, rfl, SubO.refl _, rfl, SubO.refl _, trivial⟩, ?_⟩
      repeat(first|refine Sc ?_|refine fun(_:Nat)=>?_)
      refine ⟨fun h => absurd rfl h, fun _ => ?_⟩
      repeat(first|refine Sc ?_|refine fun(_:Nat)=>?_)
      rcases hrv with ⟨e1, rfl, rfl⟩ | ⟨Cr, rfl, rfl⟩
      · repeat(first|refine Sc ?_|refine fun(_:Nat)=>?_)
        refine ⟨fun h => absurd h (List.cons_ne_nil _ _), fun _ => ?_⟩
        repeat(first|refine Sc ?_|refine fun(_:Nat)=>?_)
        rename_i g' C'
        refine fun r hr => ?_
        obtain rfl := add1 hr (by omega)
        repeat(first|refine Sc ?_|refine fun(_:Nat)=>?_)
        refine Cont.lpW ?_
        refine ⟨n - (i + 1), _, _, by omega, Weak.sel ?_ [0, 1, 2, 3, 4, 5, 6, 7, 12] (by decide) ?_, ⟨i + 1, l', rs ++ [x], cs ++ c, es2, cl2, cv4, gc3, co3, .sl 8 g' C' 1, g', _, rfl, by omega, q1, playF_inv hI ⟨by omega, by omega⟩ ⟨by omega, by omega⟩ hpl, by rw [List.length_append]; have := play_len hpl; omega, by rw [List.length_append, List.length_singleton, hrl], q3, LN.one e1, hgo2, rfl, rfl⟩⟩
        · exact Ss
        · exact Sl
    
      · repeat(first|refine Sc ?_|refine fun(_:Nat)=>?_)
        refine ⟨by simp, ?_⟩
        repeat(first|refine Sc ?_|refine fun(_:Nat)=>?_)
        refine ⟨by simp; omega, ?_⟩
        repeat(first|refine Sc ?_|refine fun(_:Nat)=>?_)
        rename_i g' C'
        refine fun r hr => ?_
        obtain rfl := add1 hr (by omega)
        repeat(first|refine Sc ?_|refine fun(_:Nat)=>?_)
        refine Cont.lpW ?_
        refine ⟨n - (i + 1), _, _, by omega, Weak.sel ?_ [0, 1, 2, 3, 4, 5, 6, 7, 8] (by decide) ?_, ⟨i + 1, l', rs ++ [x], cs ++ c, es2, cl2, cv4, gc3, co3, .sl 8 g' C' ((rs.map encR).length + 1), g', .row tR 7 C' (rs.map encR ++ [encR x]), rfl, by omega, q1, playF_inv hI ⟨by omega, by omega⟩ ⟨by omega, by omega⟩ hpl, by rw [List.length_append]; have := play_len hpl; omega, by rw [List.length_append, List.length_singleton, hrl], q3, LN.snoc, hgo2, rfl, rfl⟩⟩
        · exact Ss
        · exact Sl
    
  · have h : ¬ (i : Int) < (n : Int) := h
    have hil : i = n := by omega
    subst hil
    have e0 : (ops.take i).drop i = [] := List.drop_eq_nil_of_le (by omega)
    rw [e0] at hgo
    have hgo2 : goF s st l [] [] 0 (ops.take i) = .ok (li, rs, cs) := by rw [hgo]; unfold goF; rfl
    have hfin := hR _ hgo2
    repeat(first|refine Sc ?_|refine fun(_:Nat)=>?_)
    refine Run.drawnK C_ok (aopC_sound C_ok) [5, 6] [0, 1, 2, 3, 4] (by kernel_rfl) ?_
    repeat(first|refine Sc ?_|refine fun(_:Nat)=>?_)
    exact ⟨.tuple [encP ⟨st, 0, 0, rs⟩, encCs cs], _, FinOk.keepLend (r1 := .tuple [encP ⟨st, 0, 0, rs⟩, encCs cs]) [0, 4] (by decide) (Lend.tuples ⟨Lend.aggs ⟨.same _, .same _, .same _, hrv.lend rfl, trivial⟩, hcv.lend rfl, trivial⟩) (Sub.refl _), g4, es', cl', by rw [hfin]; exact hT', by rw [hfin], rfl⟩
end Go.Proofs.YtcbjcmigecocgaaGreatDoor.HBT
