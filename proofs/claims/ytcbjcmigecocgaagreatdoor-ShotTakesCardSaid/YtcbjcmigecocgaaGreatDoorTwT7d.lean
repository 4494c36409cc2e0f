/- One op of a request: make, not brief and not counted. -/
import Derived.Test.YtcbjcmigecocgaaGreatDoorTwT6
import Derived.Test.YtcbjcmigecocgaaGreatDoorTwT7a
import Derived.Test.YtcbjcmigecocgaaGreatDoorTwT7b
import Derived.Test.YtcbjcmigecocgaaGreatDoorTwT7c
set_option linter.unusedVariables false
set_option linter.unusedSimpArgs false
namespace Go.Proofs.YtcbjcmigecocgaaGreatDoor.HBT
open Go Go.Proofs.YtcbjcmigecocgaaGreatDoor.HB Go.RowKit
set_option maxRecDepth 8000

set_option maxHeartbeats 8000000 in
theorem make_d (gw gm gc : Nat) (s st : Int) (cs : List Chg) (cv : AV) (co : AObj) (hc : LC 2 cs cv gc co) (hcs : cs.length ≤ 100) {l : List Fu} {es : Array MapEntry} {cl : Nat} (hT : TM l es cl) (hi : TInv l) (o : Opp) (hb1 : ¬ bitsV .and .i64 o.f 1 ≠ 0) (hb2 : ¬ bitsV .and .i64 o.f 2 ≠ 0) :
    FnSpec C 36 [.ptr 0 gw 0, encO o] (WorkL gw gm s st cv es cl gc co) (OneQ gw gm s st cs (makeF l s st o)) := by
  have err : ∀ e, makeF l s st o = .error e → OneQ gw gm s st cs (makeF l s st o) (.tuple [zeroR, .int .i64 e]) [] := fun e he => by rw [he]; exact ⟨rfl, rfl⟩
  refine FnSpec.start C_ok Tryz.func36 rfl rfl Tryz.ntmps36 ?_
  repeat(first|refine Sc ?_|refine fun(_:Nat)=>?_)
  rename_i go gr
  refine Run.drawnK C_ok (aopC_sound C_ok) [3] [0, 1, 2, 3, 4, 5, 6, 7, 8, 9] (by kernel_rfl) ?_
  repeat(first|refine Sc ?_|refine fun(_:Nat)=>?_)
  refine fun r1 hr1 => ?_
  subst hr1
  repeat(first|refine Sc ?_|refine fun(_:Nat)=>?_)
  refine ⟨fun h => absurd h hb1, fun _ => ?_⟩
  repeat(first|refine Sc ?_|refine fun(_:Nat)=>?_)
  refine fun r2 hr2 => ?_
  subst hr2
  repeat(first|refine Sc ?_|refine fun(_:Nat)=>?_)
  refine ⟨fun h => absurd h hb2, fun _ => ?_⟩
  repeat(first|refine Sc ?_|refine fun(_:Nat)=>?_)
  refine ⟨fun h => ?_, fun h => ?_⟩
  · have h : o.f < 0 := h
    repeat(first|refine Sc ?_|refine fun(_:Nat)=>?_)
    exact ⟨_, [], FinOk.drop _ _, err 48 (by unfold makeF; rw [if_pos (.inl h)])⟩
  have hf0 : ¬ o.f < 0 := h
  repeat(first|refine Sc ?_|refine fun(_:Nat)=>?_)
  refine ⟨fun h => ?_, fun h => ?_⟩
  · have h : 3 < o.f := h
    repeat(first|refine Sc ?_|refine fun(_:Nat)=>?_)
    exact ⟨_, [], FinOk.drop _ _, err 48 (by unfold makeF; rw [if_pos (.inr h)])⟩
  have hf3 : ¬ 3 < o.f := h
  have hbrf : isBrf o.f = false := by rw [← flag1 hf0 hf3]; exact decide_eq_false hb1
  have hcnt : isCnt o.f = false := by rw [← flag2 hf0 hf3]; exact decide_eq_false hb2
  have f1 : ¬ (o.f < 0 ∨ 3 < o.f) := by rintro (h | h); exact hf0 h; exact hf3 h
  repeat(first|refine Sc ?_|refine fun(_:Nat)=>?_)
  refine ACallT.ok (ACall.ret (parent_spec o.p) ?_)
  repeat(first|refine Sc ?_|refine fun(_:Nat)=>?_)
  refine ⟨fun h => ?_, fun h => ?_⟩
  · have h : parentE o.p = 47 := h
    repeat(first|refine Sc ?_|refine fun(_:Nat)=>?_)
    exact ⟨_, [], FinOk.drop _ _, err 47 (by unfold makeF; rw [if_neg f1, if_pos h])⟩
  have hn47 : ¬ parentE o.p = 47 := h
  repeat(first|refine Sc ?_|refine fun(_:Nat)=>?_)
  refine ⟨fun h => ?_, fun h => ?_⟩
  rotate_left
  · have h : ¬ parentE o.p = 0 := h
    repeat(first|refine Sc ?_|refine fun(_:Nat)=>?_)
    refine ⟨fun _ => ?_, fun e => absurd h e⟩
    repeat(first|refine Sc ?_|refine fun(_:Nat)=>?_)
    exact ⟨_, [], FinOk.drop _ _, err 10 (by unfold makeF; rw [if_neg f1, if_neg hn47, if_pos (.inl h)])⟩
  have hp0 : parentE o.p = 0 := h
  obtain ⟨hpp, hps⟩ := parentE_zero hp0
  repeat(first|refine Sc ?_|refine fun(_:Nat)=>?_)
  refine ⟨fun h => absurd hp0 h, fun _ => ?_⟩
  have f2 : ¬ (parentE o.p ≠ 0 ∨ (isCnt o.f = true ∧ longB o.p = true)) := by rintro (h | ⟨h, _⟩); exact h hp0; rw [hcnt] at h; cases h
  repeat(first|refine Sc ?_|refine fun(_:Nat)=>?_)
  have hA : ∀ e, (if isBrf o.f = true ∧ s = 0 then .error 44 else if 64 < o.d.size then .error 45 else match findF l (parentB o.p) with
      | none => .error 40
      | some a =>
        if a.o ≠ 0 then .error 44
        else if isCnt o.f = true ∧ 99999 < a.k then .error 46
        else if (findF l (madeX s st a o).p).isSome then .error 41
        else if 64 ≤ l.length then .error 46
        else .ok (upd (ins (madeX s st a o) l) (madeA a o), told (madeX s st a o), [⟨1, (madeX s st a o).p, o.d, 0⟩]) : One) = e → makeF l s st o = e := fun e he => by
    unfold makeF; rw [if_neg f1, if_neg hn47, if_neg f2]; exact he
  cases hfa : findF l (parentB o.p) with
  | none =>
    rw [hfa] at hA
    refine ⟨1, es, cl, none, trivial, rfl, hT.miss (findF_none hfa), ?_⟩
    repeat(first|refine Sc ?_|refine fun(_:Nat)=>?_)
    have nb : ¬ (isBrf o.f = true ∧ s = 0) := fun h => by rw [hbrf] at h; cases h.1
    refine ⟨fun h => ?_, fun h => ?_⟩
    · have h : (64 : Int) < (o.d.size : Int) := h
      repeat(first|refine Sc ?_|refine fun(_:Nat)=>?_)
      exact ⟨_, [], FinOk.drop _ _, err 45 (hA _ (by rw [if_neg nb, if_pos (by omega)]))⟩
    have hd : ¬ 64 < o.d.size := by have h : ¬ (64 : Int) < (o.d.size : Int) := h; omega
    repeat(first|refine Sc ?_|refine fun(_:Nat)=>?_)
    exact ⟨_, [], FinOk.drop _ _, err 40 (hA _ (by rw [if_neg nb, if_neg hd]))⟩
  | some a =>
    rw [hfa] at hA
    dsimp only at hA
    obtain ⟨ham, hap⟩ := findF_some hfa
    obtain ⟨ai, g1, g2, g3, g4⟩ := hT.hit2 hi.sorted ham
    rw [hap] at g1 g2 g3 g4
    have hoka := hi.ok a ham
    refine ⟨1, es, cl, some (ai, valX a), trivial, rfl, g1, encX a, rfl, ?_⟩
    repeat(first|refine Sc ?_|refine fun(_:Nat)=>?_)
    have nb : ¬ (isBrf o.f = true ∧ s = 0) := fun h => by rw [hbrf] at h; cases h.1
    refine ⟨fun h => ?_, fun h => ?_⟩
    · have h : (64 : Int) < (o.d.size : Int) := h
      repeat(first|refine Sc ?_|refine fun(_:Nat)=>?_)
      exact ⟨_, [], FinOk.drop _ _, err 45 (hA _ (by rw [if_neg nb, if_pos (by omega)]))⟩
    have hd : ¬ 64 < o.d.size := by have h : ¬ (64 : Int) < (o.d.size : Int) := h; omega
    repeat(first|refine Sc ?_|refine fun(_:Nat)=>?_)
    refine ⟨fun h => ?_, fun h => ?_⟩
    · have h : a.o ≠ 0 := h
      repeat(first|refine Sc ?_|refine fun(_:Nat)=>?_)
      exact ⟨_, [], FinOk.drop _ _, err 44 (hA _ (by rw [if_neg nb, if_neg hd, if_pos h]))⟩
    have hao : a.o = 0 := Classical.not_not.1 h
    have nao : ¬ a.o ≠ 0 := fun h => h hao
    obtain ⟨X, hX⟩ : ∃ X : Fu, X = ⟨o.p, o.d, 0, st, st, 0, 0⟩ := ⟨_, rfl⟩
    obtain ⟨B, hB⟩ : ∃ B : Fu, B = ⟨a.p, a.d, a.v, a.m, a.c, a.o, a.k⟩ := ⟨_, rfl⟩
    have hX' : madeX s st a o = X := by rw [hX]; unfold madeX; rw [hbrf, hcnt]; rfl
    have hB' : madeA a o = B := by rw [hB]; unfold madeA; rw [hcnt]; rfl
    rw [hX', hB'] at hA
    have hBp : B.p = parentB o.p := by rw [hB]; exact hap
    repeat(first|refine Sc ?_|refine fun(_:Nat)=>?_)
    refine Run.drawnK C_ok (aopC_sound C_ok) [0, 3] [0, 1, 2, 3, 4, 5, 6, 7, 8, 9, 10, 11, 12, 13, 14] (by kernel_rfl) ?_
    repeat(first|refine Sc ?_|refine fun(_:Nat)=>?_)
    have n46 : ¬ (isCnt o.f = true ∧ 99999 < a.k) := fun h => by rw [hcnt] at h; cases h.1
    refine Run.drawnK C_ok (aopC_sound C_ok) [0, 1, 6] [0, 1, 2, 3, 4, 5, 6, 7, 8, 9, 10, 11, 12] (by kernel_rfl) ?_
    repeat(first|refine Sc ?_|refine fun(_:Nat)=>?_)
    cases hfx : findF l X.p with
    | some y =>
      rw [hfx] at hA
      obtain ⟨hym, hyp⟩ := findF_some hfx
      obtain ⟨yi, y1, _⟩ := hT.hit2 hi.sorted hym
      rw [hyp, hX] at y1
      refine ⟨1, es, cl, some (yi, valX y), by decide, rfl, y1, encX y, rfl, ?_⟩
      repeat(first|refine Sc ?_|refine fun(_:Nat)=>?_)
      exact ⟨_, [], FinOk.drop _ _, err 41 (hA _ (by rw [if_neg nb, if_neg hd, if_neg nao, if_neg n46, if_pos (show (some y).isSome = true from rfl)]))⟩
    | none =>
      rw [hfx] at hA
      have hfar := findF_none hfx
      have hXB : X.p ≠ B.p := fun e => hfar a ham (by rw [e, hB])
      refine ⟨1, es, cl, none, by decide, rfl, hT.miss (by rw [hX] at hfar; exact hfar), ?_⟩
      repeat(first|refine Sc ?_|refine fun(_:Nat)=>?_)
      refine ⟨1, es, cl, rfl, ?_⟩
      rw [hT.len]
      repeat(first|refine Sc ?_|refine fun(_:Nat)=>?_)
      refine ⟨fun h => ?_, fun h => ?_⟩
      · have h : (64 : Int) ≤ (l.length : Int) := h
        repeat(first|refine Sc ?_|refine fun(_:Nat)=>?_)
        exact ⟨_, [], FinOk.drop _ _, err 46 (hA _ (by rw [if_neg nb, if_neg hd, if_neg nao, if_neg n46, if_neg (show ¬ (none : Option Fu).isSome = true by decide), if_pos (by omega)]))⟩
      have h64 : ¬ 64 ≤ l.length := by have h : ¬ (64 : Int) ≤ (l.length : Int) := h; omega
      have hok : makeF l s st o = .ok (upd (ins X l) B, told X, [⟨1, X.p, o.d, 0⟩]) := hA _ (by rw [if_neg nb, if_neg hd, if_neg nao, if_neg n46, if_neg (show ¬ (none : Option Fu).isSome = true by decide), if_neg h64])
      have hT1 := g4 B hBp
      have hT2 := fun u => hT1.push2 (upd_far hfar) (upd_ins_perm l hXB) u
      have hm1 := hT1.miss (upd_far hfar)
      repeat(first|refine Sc ?_|refine fun(_:Nat)=>?_)
      refine Run.drawnK C_ok (aopC_sound C_ok) [0, 5, 6] [0, 1, 2, 3, 4, 5, 6, 7, 8, 9, 10, 11, 12, 13, 14, 15, 16, 17, 18] (by kernel_rfl) ?_
      repeat(first|refine Sc ?_|refine fun(_:Nat)=>?_)
      refine ⟨1, es, cl, some (ai, valX a), rfl, g1, g2, encX a, rfl, ?_⟩
      repeat(first|refine Sc ?_|refine fun(_:Nat)=>?_)
      refine ⟨1, _, cl, ai, rfl, g3, ?_⟩
      repeat(first|refine Sc ?_|refine fun(_:Nat)=>?_)
      refine ⟨1, _, cl, none, rfl, by have := hm1; rw [hX, hB] at this; exact this, ?_⟩
      repeat(first|refine Sc ?_|refine fun(_:Nat)=>?_)
      refine ⟨_, rfl, ?_⟩
      repeat(first|refine Sc ?_|refine fun(_:Nat)=>?_)
      refine ⟨1, _, cl + 1, _, rfl, by have := (hT2 (valX ⟨eS, eS, 0, 0, 0, 0, 0⟩)).1; rw [hX, hB] at this; exact this, ?_⟩
      repeat(first|refine Sc ?_|refine fun(_:Nat)=>?_)
      refine Run.drawnA C_ok (aopC_sound C_ok) [0, 6] [11, 12, 13, 14] [0, 1, 2, 3, 5, 7, 4, 6, 8, 9, 10] (by kernel_rfl) (by kernel_rfl) ?_
      repeat(first|refine Sc ?_|refine fun(_:Nat)=>?_)
      rcases hc with ⟨rfl, rfl, rfl⟩ | ⟨Cp, rfl, rfl⟩
      · repeat(first|refine Sc ?_|refine fun(_:Nat)=>?_)
        refine ⟨fun h => absurd h (List.cons_ne_nil _ _), fun _ => ?_⟩
        repeat(first|refine Sc ?_|refine fun(_:Nat)=>?_)
        refine ACallT.ok (ACall.ret (told_spec ⟨o.p, o.d, 0, st, st, 0, 0⟩) ?_)
        repeat(first|refine Sc ?_|refine fun(_:Nat)=>?_)
        rename_i g' Cp'
        have hfin := (hT2 (valX ⟨eS, eS, 0, 0, 0, 0, 0⟩)).2
        subst hX; subst hB
        refine ⟨.tuple [encR (told ⟨o.p, o.d, 0, st, st, 0, 0⟩), .int .i64 0], WorkL gw gm s st (.sl 2 g' Cp' 1) _ (cl + 1) g' (.row tC 4 Cp' [encC ⟨1, o.p, o.d, 0⟩]), FinOk.keepS _ [0, 1, 9] (subR0 (r := told ⟨o.p, o.d, 0, st, st, 0, 0⟩) rfl) (by decide) rfl ⟨rfl, SubO.cells ⟨Sub.refl _, Sub.refl _, Sub.refl _, Sub.sl _ _ _ _ _, trivial⟩, rfl, SubO.refl _, rfl, SubO.refl _, trivial⟩, ?_⟩
        rw [hok]
        exact ⟨_, cl + 1, _, g', _, hfin, LN.one rfl, rfl, rfl⟩
      · repeat(first|refine Sc ?_|refine fun(_:Nat)=>?_)
        refine ⟨by simp, ?_⟩
        repeat(first|refine Sc ?_|refine fun(_:Nat)=>?_)
        refine ⟨by simp; omega, ?_⟩
        repeat(first|refine Sc ?_|refine fun(_:Nat)=>?_)
        refine ACallT.ok (ACall.ret (told_spec ⟨o.p, o.d, 0, st, st, 0, 0⟩) ?_)
        repeat(first|refine Sc ?_|refine fun(_:Nat)=>?_)
        rename_i g' Cp'
        have hfin := (hT2 (valX ⟨eS, eS, 0, 0, 0, 0, 0⟩)).2
        subst hX; subst hB
        refine ⟨.tuple [encR (told ⟨o.p, o.d, 0, st, st, 0, 0⟩), .int .i64 0], WorkL gw gm s st (.sl 2 g' Cp' ((cs.map encC).length + 1)) _ (cl + 1) g' (.row tC 4 Cp' (cs.map encC ++ [encC ⟨1, o.p, o.d, 0⟩])), FinOk.keepS _ [0, 1, 2] (subR0 (r := told ⟨o.p, o.d, 0, st, st, 0, 0⟩) rfl) (by decide) rfl ⟨rfl, SubO.cells ⟨Sub.refl _, Sub.refl _, Sub.refl _, Sub.refl _, trivial⟩, rfl, SubO.refl _, rfl, SubO.refl _, trivial⟩, ?_⟩
        rw [hok]
        exact ⟨_, cl + 1, _, g', _, hfin, LN.snoc, rfl, rfl⟩
end Go.Proofs.YtcbjcmigecocgaaGreatDoor.HBT
/- One op of a request: make. -/
namespace Go.Proofs.YtcbjcmigecocgaaGreatDoor.HBT
open Go Go.Proofs.YtcbjcmigecocgaaGreatDoor.HB Go.RowKit

theorem make_spec (gw gm gc : Nat) (s st : Int) (cs : List Chg) (cv : AV) (co : AObj) (hc : LC 2 cs cv gc co) (hcs : cs.length ≤ 100) {l : List Fu} {es : Array MapEntry} {cl : Nat} (hT : TM l es cl) (hi : TInv l) (o : Opp) :
    FnSpec C 36 [.ptr 0 gw 0, encO o] (WorkL gw gm s st cv es cl gc co) (OneQ gw gm s st cs (makeF l s st o)) := by
  by_cases h1 : bitsV .and .i64 o.f 1 ≠ 0
  · by_cases h2 : bitsV .and .i64 o.f 2 ≠ 0
    · exact make_a gw gm gc s st cs cv co hc hcs hT hi o h1 h2
    · exact make_b gw gm gc s st cs cv co hc hcs hT hi o h1 h2
  · by_cases h2 : bitsV .and .i64 o.f 2 ≠ 0
    · exact make_c gw gm gc s st cs cv co hc hcs hT hi o h1 h2
    · exact make_d gw gm gc s st cs cv co hc hcs hT hi o h1 h2
end Go.Proofs.YtcbjcmigecocgaaGreatDoor.HBT
