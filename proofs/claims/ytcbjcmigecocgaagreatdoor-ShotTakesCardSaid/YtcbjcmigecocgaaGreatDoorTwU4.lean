/- The document's made. -/
import Derived.Test.YtcbjcmigecocgaaGreatDoorTwU2
import Derived.Test.YtcbjcmigecocgaaGreatDoorTwR9
set_option linter.unusedVariables false
set_option linter.unusedSimpArgs false
namespace Go.Proofs.YtcbjcmigecocgaaGreatDoor.HBT
open Go Go.Proofs.YtcbjcmigecocgaaGreatDoor.HB Go.RowKit
set_option maxRecDepth 8000

def zeroRes : Res := ⟨eS, eS, 0, 0, 0, 0, []⟩
def outR (l : List Fu) : One → AV
  | .error e => .tuple [rdX l, encR zeroRes, encCs [], .int .i64 e]
  | .ok (l', x, c) => .tuple [rdX l', encR x, encCs c, .int .i64 0]
theorem idx_two {l : List Fu} {p : ByteArray} : (findF l p = none ∧ idxF l p 0 = -1) ∨ ∃ (j : Nat) (x : Fu), findF l p = some x ∧ l[j]? = some x ∧ idxF l p 0 = j := by
  rcases idxF_cases l p 0 with h | ⟨j, x, h1, h2, h3⟩
  · exact .inl h
  · exact .inr ⟨j, x, h1, h2, by rw [h3, Nat.zero_add]⟩
theorem static_make {s : Int} {o : Opp} (h : staticF s o = 0) (hk : o.k = 1) : parentE o.p = 0 ∧ 0 ≤ o.f ∧ o.f ≤ 3 ∧ (isCnt o.f = true → longB o.p = false) ∧ o.d.size ≤ 64 := by
  unfold staticF at h
  split at h
  · cases h
  split at h
  · cases h
  rename_i hf
  split at h
  · cases h
  rename_i hp
  split at h
  · cases h
  rename_i hl
  split at h
  · cases h
  rename_i hn
  split at h
  · cases h
  split at h
  · cases h
  rename_i hd
  have hp0 : parseE o.p = 0 := Classical.not_not.1 hp
  have hf2 : 0 ≤ o.f ∧ o.f ≤ 3 := by omega
  refine ⟨parentE_of hp0 fun e => hn ⟨(names_iff hp0).2 e, .inl hk⟩, hf2.1, hf2.2, fun hc => ?_, ?_⟩
  · cases e : longB o.p with
    | false => rfl
    | true =>
      unfold isCnt at hc
      have hc := of_decide_eq_true hc
      exact absurd ⟨hk, by omega, e⟩ hl
  · exact Nat.le_of_not_lt fun e => hd ⟨.inl hk, e⟩
set_option maxHeartbeats 4000000 in
theorem refMade_spec {l : List Fu} (hI : TInv l) (s st : Int) (o : Opp) (h0 : staticF s o = 0) (hk : o.k = 1) :
    FnSpec C 44 [rdX l, .int .i64 s, .int .i64 st, encO o] [] (fun r L' => r = outR l (madeF l s st o) ∧ L' = []) := by
  obtain ⟨hpe, hf0, hf3, hlong, hd⟩ := static_make h0 hk
  have hL := hI.len
  have hsl : o.p.size ≤ 1000 := Nat.le_trans (place_size (parentE_zero hpe).1) (by decide)
  have hsub : ∀ e : Int, Sub (.tuple [rdX l, .agg [.str eS, .str eS, .int .i64 0, .int .i64 0, .int .i64 0, .int .i64 0, .nils], .nils, .int .i64 e]) (outR l (.error e)) := fun e =>
    Sub.tuples ⟨Sub.refl _, Sub.aggs ⟨Sub.refl _, Sub.refl _, Sub.refl _, Sub.refl _, Sub.refl _, Sub.refl _, Sub.nilsRo 1, trivial⟩, Sub.nilsRo 4, Sub.refl _, trivial⟩
  refine FnSpec.start C_ok Tryz.func44 rfl rfl Tryz.ntmps44 ?_
  repeat(first|refine Sc ?_|refine fun(_:Nat)=>?_)
  rename_i g7 g9
  refine ACallT.ok (ACall.ret (refParent_spec o.p) ?_)
  rw [hpe]
  repeat(first|refine Sc ?_|refine fun(_:Nat)=>?_)
  refine ACallT.ok (ACall.ret (refFind_spec l (parentB o.p) (by omega)) ?_)
  rcases idx_two (l := l) (p := parentB o.p) with ⟨hfa, hidx⟩ | ⟨j, a, hfa, ej, hidx⟩
  · rw [hidx]
    repeat(first|refine Sc ?_|refine fun(_:Nat)=>?_)
    refine ⟨fun _ => ?_, fun h => absurd (by decide) h⟩
    repeat(first|refine Sc ?_|refine fun(_:Nat)=>?_)
    exact ⟨outR l (.error 40), [], FinOk.keep _ [] (hsub 40) (by decide) rfl, by unfold madeF; rw [hfa], rfl⟩
  rw [hidx]
  have hjl : j < l.length := (List.getElem?_eq_some_iff.1 ej).1
  obtain ⟨ham, hap⟩ := findF_some hfa
  have hoka := hI.ok a ham
  repeat(first|refine Sc ?_|refine fun(_:Nat)=>?_)
  refine ⟨fun h => absurd h (show ¬ (j : Int) < 0 by omega), fun _ => ?_⟩
  repeat(first|refine Sc ?_|refine fun(_:Nat)=>?_)
  refine ⟨show (j : Int) < (l.length : Int) by omega, encX a, map_at encX ej, ?_⟩
  repeat(first|refine Sc ?_|refine fun(_:Nat)=>?_)
  have hA : ∀ e : One, (if a.o ≠ 0 then .error 44
      else if isCnt o.f = true ∧ 99999 < a.k then .error 46
      else if (findF l (madeX s st a o).p).isSome then .error 41
      else if 64 ≤ l.length then .error 46
      else .ok (upd (ins (madeX s st a o) l) (madeA a o), told (madeX s st a o), [⟨1, (madeX s st a o).p, o.d, 0⟩]) : One) = e → madeF l s st o = e := fun e he => by
    unfold madeF; rw [hfa]; exact he
  refine ⟨fun ho => ?_, fun ho => ?_⟩
  · have ho : a.o ≠ 0 := ho
    repeat(first|refine Sc ?_|refine fun(_:Nat)=>?_)
    exact ⟨outR l (.error 44), [], FinOk.keep _ [] (hsub 44) (by decide) rfl, by rw [hA _ (by rw [if_pos ho])], rfl⟩
  have ho : ¬ a.o ≠ 0 := ho
  repeat(first|refine Sc ?_|refine fun(_:Nat)=>?_)
  rename_i g15
  refine ⟨show (j : Int) < (l.length : Int) by omega, encX a, map_at encX ej, ?_⟩
  repeat(first|refine Sc ?_|refine fun(_:Nat)=>?_)
  refine ⟨fun hc => ?_, fun hc => ?_⟩
  · have hc : o.f ≥ 2 := hc
    have hcnt : isCnt o.f = true := by unfold isCnt; exact decide_eq_true (by omega)
    repeat(first|refine Sc ?_|refine fun(_:Nat)=>?_)
    refine ⟨fun h9 => ?_, fun h9 => ?_⟩
    · have h9 : 99999 < a.k := h9
      repeat(first|refine Sc ?_|refine fun(_:Nat)=>?_)
      exact ⟨outR l (.error 46), [], FinOk.keep _ [] (hsub 46) (by decide) rfl, by rw [hA _ (by rw [if_neg ho, if_pos ⟨hcnt, h9⟩])], rfl⟩
    have h9 : ¬ 99999 < a.k := h9
    repeat(first|refine Sc ?_|refine fun(_:Nat)=>?_)
    refine ACallT.ok (ACall.ret (refCounted_spec o.p a.k hsl) ?_)
    repeat(first|refine Sc ?_|refine fun(_:Nat)=>?_)
    refine fun r hr => ?_
    obtain rfl : r = a.k + 1 := by
      have := hoka.2.2.2.2.2.2.1
      rw [hr, IntKind.wrap_i64]; omega
    have hce : countedE o.p a.k = 0 := by
      have hp := parentE_zero hpe
      unfold countedE
      rw [if_neg (fun e => e hp.1), if_neg (fun e => hp.2 ((names_iff hp.1).1 e)), hlong hcnt, if_neg (by decide), if_neg (by have := hoka.2.2.2.2.2.2.1; omega)]
    rw [hce, if_pos rfl]
    repeat(first|refine Sc ?_|refine fun(_:Nat)=>?_)
    have hxp : (madeX s st a o).p = countedB o.p a.k := by unfold madeX; rw [hcnt]; rfl
    have hxs : (countedB o.p a.k).size ≤ 1000 := by rw [size_list]; unfold countedB; rw [ByteArray.data_append, Array.toList_append, List.length_append, ← size_list]; show _ + 5 ≤ _; have := place_size (parentE_zero hpe).1; omega
    refine ACallT.ok (ACall.ret (refFind_spec l (countedB o.p a.k) (by omega)) ?_)
    rcases idx_two (l := l) (p := countedB o.p a.k) with ⟨hfx, hix⟩ | ⟨jx, y, hfx, ejx, hix⟩
    rotate_left
    · rw [hix]
      repeat(first|refine Sc ?_|refine fun(_:Nat)=>?_)
      refine ⟨fun _ => ?_, fun h => absurd (show (jx : Int) ≥ 0 by omega) h⟩
      repeat(first|refine Sc ?_|refine fun(_:Nat)=>?_)
      exact ⟨outR l (.error 41), [], FinOk.keep _ [] (hsub 41) (by decide) rfl, by rw [hA _ (by rw [if_neg ho, if_neg (fun e => h9 e.2), if_pos (by rw [hxp, hfx]; rfl)])], rfl⟩
    rw [hix]
    repeat(first|refine Sc ?_|refine fun(_:Nat)=>?_)
    refine ⟨fun h => absurd h (by decide), fun _ => ?_⟩
    repeat(first|refine Sc ?_|refine fun(_:Nat)=>?_)
    refine ⟨fun h64 => ?_, fun h64 => ?_⟩
    · have h64 : (l.length : Int) ≥ 64 := h64
      repeat(first|refine Sc ?_|refine fun(_:Nat)=>?_)
      exact ⟨outR l (.error 46), [], FinOk.keep _ [] (hsub 46) (by decide) rfl, by rw [hA _ (by rw [if_neg ho, if_neg (fun e => h9 e.2), if_neg (by rw [hxp, hfx]; decide), if_pos (by omega)])], rfl⟩
    have h64 : ¬ (l.length : Int) ≥ 64 := h64
    have hok : madeF l s st o = .ok (upd (ins (madeX s st a o) l) (madeA a o), told (madeX s st a o), [⟨1, (madeX s st a o).p, o.d, 0⟩]) := hA _ (by rw [if_neg ho, if_neg (fun e => h9 e.2), if_neg (by rw [hxp, hfx]; decide), if_neg (by omega)])
    repeat(first|refine Sc ?_|refine fun(_:Nat)=>?_)
    refine ⟨by decide, ?_⟩
    repeat(first|refine Sc ?_|refine fun(_:Nat)=>?_)
    refine fun r hr => ?_
    obtain rfl : r = o.f % 2 := by rw [hr, Int.tmod_eq_emod_of_nonneg (by omega)]
    repeat(first|refine Sc ?_|refine fun(_:Nat)=>?_)
    refine ⟨fun hb => ?_, fun hb => ?_⟩
    · have hb : o.f % 2 = 1 := hb
      have hbrf : isBrf o.f = true := by unfold isBrf; exact decide_eq_true (by omega)
      repeat(first|refine Sc ?_|refine fun(_:Nat)=>?_)
      obtain ⟨X, hX⟩ : ∃ X : Fu, X = ⟨countedB o.p a.k, o.d, 0, st, st, s, 0⟩ := ⟨_, rfl⟩
      have hX' : madeX s st a o = X := by rw [hX]; unfold madeX; rw [hcnt, hbrf]; rfl
      have hA' : madeA a o = { a with k := a.k + 1 } := by unfold madeA; rw [hcnt]; rfl
      have hXp : X.p = countedB o.p a.k := by rw [hX]
      have hfar : ∀ y ∈ l, y.p ≠ X.p := by rw [hXp]; exact findF_none hfx
      have hne : parentB o.p ≠ X.p := by rw [← hap]; exact hfar a ham
      have hfm : findF (ins X l) (parentB o.p) = some a := by rw [findF_ins_ne hne, hfa]
      have hil : (ins X l).length = l.length + 1 := by rw [(ins_perm X l).length_eq, List.length_cons]
      have hw := refWith_spec l X (by omega) (by rw [hXp]; exact hxs)
      rw [hX] at hw
      refine ACallT.ok (ACall.pure _ hw ?_)
      rw [← hX]
      rintro r L' ⟨gm, Cm, rfl, rfl⟩
      refine ⟨.sl 3 gm Cm (ins X l).length, Sub.sl _ _ _ _ _, ?_⟩
      repeat(first|refine Sc ?_|refine fun(_:Nat)=>?_)
      refine ACallT.ok (ACall.ret_lend (.two (.row 3 gm Cm _ tY 7 _ rfl (by simp)) (.same _)) (refFind_spec (ins X l) (parentB o.p) (by omega)) rfl ?_)
      rcases idx_two (l := ins X l) (p := parentB o.p) with ⟨hfn, _⟩ | ⟨j2, b, hfb, ej2, hi2⟩
      · rw [hfm] at hfn; cases hfn
      obtain rfl : a = b := (Option.some.inj (hfb.symm.trans hfm)).symm
      rw [hi2]
      have hj2l : j2 < (ins X l).length := (List.getElem?_eq_some_iff.1 ej2).1
      repeat(first|refine Sc ?_|refine fun(_:Nat)=>?_)
      refine ⟨show (j2 : Int) < ((ins X l).length : Int) by omega, ?_⟩
      repeat(first|refine Sc ?_|refine fun(_:Nat)=>?_)
      refine ⟨encX a, map_at encX ej2, ?_⟩
      repeat(first|refine Sc ?_|refine fun(_:Nat)=>?_)
      have hups : (ins X l).set j2 ({ a with k := a.k + 1 } : Fu) = upd (ins X l) ({ a with k := a.k + 1 } : Fu) := set_upd (ins_sorted hI.sorted hfar).nodup ej2 rfl
      have hul := upd_len (ins X l) ({ a with k := a.k + 1 } : Fu)
      rw [hX', hA', hXp] at hok
      rw [← hups] at hok hul
      subst hX
      refine Run.join C_ok (fun env L => ∃ gc Cc, env = [.junk, .junk, .junk, .junk, .junk, .junk, .junk, .junk, .sl 0 gm Cm (ins (⟨countedB o.p a.k, o.d, 0, st, st, s, 0⟩ : Fu) l).length, .ptr 1 g9 0, .sl 2 gc Cc 1, .int .i64 0, .junk, .junk, .junk, .junk, .junk, .junk, .junk, .junk, .junk, .junk, .junk, .junk, .junk, .junk, .junk, .junk, .junk, .junk, .junk, .junk, .junk, .junk, .junk, .junk, .junk, .junk, .junk, .junk, .junk, .junk, .junk, .junk, .junk, .junk, .junk, .junk, .junk, .junk, .junk, .junk, .junk, .junk, .junk, .junk, .junk, .junk, .junk, .junk, .junk, .junk, .junk, .junk, .junk, .junk, .junk, .junk, .junk, .junk, .junk, .junk, .junk, .junk, .junk, .junk, .junk, .junk, .junk, .junk, .junk, .junk, .junk, .junk, .junk, .junk, .junk, .junk, .junk, .junk, .junk, .junk, .junk, .junk, .junk, .junk, .junk, .junk, .junk, .junk, .junk, .junk, .junk, .junk, .junk, .junk] ∧ L = [(gm, .row tY 7 Cm (((ins (⟨countedB o.p a.k, o.d, 0, st, st, s, 0⟩ : Fu) l).map encX).set j2 (encX ({ a with k := a.k + 1 } : Fu)))), (g9, .cells tR [.str (countedB o.p a.k), .str eS, .int .i64 0, .int .i64 st, .int .i64 st, .int .i64 s, .nils]), (gc, .row tC 4 Cc [encC ⟨1, countedB o.p a.k, o.d, 0⟩])]) ?_ ?_
      · refine Run.drawnN C_ok (aopC_sound C_ok) [2] (.pre [0, 1, 3, 4, 5, 6, 7] (.two 2 (.two 8 (.ofL [9, 10, 11, 12]) 9 (.two 8 (.ofL [10, 11, 12]) 10 (.ofL [8, 11, 12]))) 8 (.ofL [2, 9, 10, 11, 12]))) (by kernel_rfl) ?_
        repeat(first|refine Sc ?_|refine fun(_:Nat)=>?_)
        refine OrdN.two ?_ ?_
        · repeat(first|refine Sc ?_|refine fun(_:Nat)=>?_)
          refine ACallT.ok (ACall.ret (refShown_spec (⟨countedB o.p a.k, o.d, 0, st, st, s, 0⟩ : Fu)) ?_)
          repeat(first|refine Sc ?_|refine fun(_:Nat)=>?_)
          refine OrdN.two ?_ ?_
          · repeat(first|refine Sc ?_|refine fun(_:Nat)=>?_)
            rename_i gc
            refine ⟨_, _, Weak.sel ?_ [3, 1, 4] (by decide) ?_, gc, 1, rfl, rfl⟩
            · exact Ss
            · exact Sl
          · repeat(first|refine Sc ?_|refine fun(_:Nat)=>?_)
            refine OrdN.two ?_ ?_
            · repeat(first|refine Sc ?_|refine fun(_:Nat)=>?_)
              rename_i gc
              refine ⟨_, _, Weak.sel ?_ [3, 1, 4] (by decide) ?_, gc, 1, rfl, rfl⟩
              · exact Ss
              · exact Sl
            · repeat(first|refine Sc ?_|refine fun(_:Nat)=>?_)
              rename_i gc
              refine ⟨_, _, Weak.sel ?_ [3, 1, 4] (by decide) ?_, gc, 1, rfl, rfl⟩
              · exact Ss
              · exact Sl
        · repeat(first|refine Sc ?_|refine fun(_:Nat)=>?_)
          rename_i gc
          refine ACallT.ok (ACall.ret (refShown_spec (⟨countedB o.p a.k, o.d, 0, st, st, s, 0⟩ : Fu)) ?_)
          repeat(first|refine Sc ?_|refine fun(_:Nat)=>?_)
          refine ⟨_, _, Weak.sel ?_ [3, 1, 4] (by decide) ?_, gc, 1, rfl, rfl⟩
          · exact Ss
          · exact Sl
      rintro env L ⟨gc, Cc, rfl, rfl⟩
      repeat(first|refine Sc ?_|refine fun(_:Nat)=>?_)
      rw [← List.map_set]
      exact ⟨outR l (madeF l s st o), [], by
        rw [hok]
        refine FinOk.lend (Lend.tuples ⟨?_, Lend.aggs ⟨.same _, .same _, .same _, .same _, .same _, .same _, .nils 1, trivial⟩, .row 2 gc Cc 1 tC 4 _ rfl (Nat.le_refl _), .same _, trivial⟩)
        have hr := Lend.row (L := [(gm, .row tY 7 Cm (((ins (⟨countedB o.p a.k, o.d, 0, st, st, s, 0⟩ : Fu) l).set j2 ({ a with k := a.k + 1 } : Fu)).map encX)), (g9, .cells tR [.str (countedB o.p a.k), .str eS, .int .i64 0, .int .i64 st, .int .i64 st, .int .i64 s, .nils]), (gc, .row tC 4 Cc [encC ⟨1, countedB o.p a.k, o.d, 0⟩])]) 0 gm Cm (ins (⟨countedB o.p a.k, o.d, 0, st, st, s, 0⟩ : Fu) l).length tY 7 (((ins (⟨countedB o.p a.k, o.d, 0, st, st, s, 0⟩ : Fu) l).set j2 ({ a with k := a.k + 1 } : Fu)).map encX) rfl (by rw [List.length_map, List.length_set]; exact Nat.le_refl _)
        rw [show rdX ((ins (⟨countedB o.p a.k, o.d, 0, st, st, s, 0⟩ : Fu) l).set j2 ({ a with k := a.k + 1 } : Fu)) = .ro 7 (((ins (⟨countedB o.p a.k, o.d, 0, st, st, s, 0⟩ : Fu) l).set j2 ({ a with k := a.k + 1 } : Fu)).map encX) (ins (⟨countedB o.p a.k, o.d, 0, st, st, s, 0⟩ : Fu) l).length by show AV.ro _ _ _ = _; rw [List.length_set]]
        exact hr, rfl, rfl⟩
    · have hb : ¬ o.f % 2 = 1 := hb
      have hbrf : isBrf o.f = false := by unfold isBrf; exact decide_eq_false (by omega)
      repeat(first|refine Sc ?_|refine fun(_:Nat)=>?_)
      obtain ⟨X, hX⟩ : ∃ X : Fu, X = ⟨countedB o.p a.k, o.d, 0, st, st, 0, 0⟩ := ⟨_, rfl⟩
      have hX' : madeX s st a o = X := by rw [hX]; unfold madeX; rw [hcnt, hbrf]; rfl
      have hA' : madeA a o = { a with k := a.k + 1 } := by unfold madeA; rw [hcnt]; rfl
      have hXp : X.p = countedB o.p a.k := by rw [hX]
      have hfar : ∀ y ∈ l, y.p ≠ X.p := by rw [hXp]; exact findF_none hfx
      have hne : parentB o.p ≠ X.p := by rw [← hap]; exact hfar a ham
      have hfm : findF (ins X l) (parentB o.p) = some a := by rw [findF_ins_ne hne, hfa]
      have hil : (ins X l).length = l.length + 1 := by rw [(ins_perm X l).length_eq, List.length_cons]
      have hw := refWith_spec l X (by omega) (by rw [hXp]; exact hxs)
      rw [hX] at hw
      refine ACallT.ok (ACall.pure _ hw ?_)
      rw [← hX]
      rintro r L' ⟨gm, Cm, rfl, rfl⟩
      refine ⟨.sl 3 gm Cm (ins X l).length, Sub.sl _ _ _ _ _, ?_⟩
      repeat(first|refine Sc ?_|refine fun(_:Nat)=>?_)
      refine ACallT.ok (ACall.ret_lend (.two (.row 3 gm Cm _ tY 7 _ rfl (by simp)) (.same _)) (refFind_spec (ins X l) (parentB o.p) (by omega)) rfl ?_)
      rcases idx_two (l := ins X l) (p := parentB o.p) with ⟨hfn, _⟩ | ⟨j2, b, hfb, ej2, hi2⟩
      · rw [hfm] at hfn; cases hfn
      obtain rfl : a = b := (Option.some.inj (hfb.symm.trans hfm)).symm
      rw [hi2]
      have hj2l : j2 < (ins X l).length := (List.getElem?_eq_some_iff.1 ej2).1
      repeat(first|refine Sc ?_|refine fun(_:Nat)=>?_)
      refine ⟨show (j2 : Int) < ((ins X l).length : Int) by omega, ?_⟩
      repeat(first|refine Sc ?_|refine fun(_:Nat)=>?_)
      refine ⟨encX a, map_at encX ej2, ?_⟩
      repeat(first|refine Sc ?_|refine fun(_:Nat)=>?_)
      have hups : (ins X l).set j2 ({ a with k := a.k + 1 } : Fu) = upd (ins X l) ({ a with k := a.k + 1 } : Fu) := set_upd (ins_sorted hI.sorted hfar).nodup ej2 rfl
      have hul := upd_len (ins X l) ({ a with k := a.k + 1 } : Fu)
      rw [hX', hA', hXp] at hok
      rw [← hups] at hok hul
      subst hX
      refine Run.join C_ok (fun env L => ∃ gc Cc, env = [.junk, .junk, .junk, .junk, .junk, .junk, .junk, .junk, .sl 0 gm Cm (ins (⟨countedB o.p a.k, o.d, 0, st, st, 0, 0⟩ : Fu) l).length, .ptr 1 g9 0, .sl 2 gc Cc 1, .int .i64 0, .junk, .junk, .junk, .junk, .junk, .junk, .junk, .junk, .junk, .junk, .junk, .junk, .junk, .junk, .junk, .junk, .junk, .junk, .junk, .junk, .junk, .junk, .junk, .junk, .junk, .junk, .junk, .junk, .junk, .junk, .junk, .junk, .junk, .junk, .junk, .junk, .junk, .junk, .junk, .junk, .junk, .junk, .junk, .junk, .junk, .junk, .junk, .junk, .junk, .junk, .junk, .junk, .junk, .junk, .junk, .junk, .junk, .junk, .junk, .junk, .junk, .junk, .junk, .junk, .junk, .junk, .junk, .junk, .junk, .junk, .junk, .junk, .junk, .junk, .junk, .junk, .junk, .junk, .junk, .junk, .junk, .junk, .junk, .junk, .junk, .junk, .junk, .junk, .junk, .junk, .junk, .junk, .junk, .junk] ∧ L = [(gm, .row tY 7 Cm (((ins (⟨countedB o.p a.k, o.d, 0, st, st, 0, 0⟩ : Fu) l).map encX).set j2 (encX ({ a with k := a.k + 1 } : Fu)))), (g9, .cells tR [.str (countedB o.p a.k), .str eS, .int .i64 0, .int .i64 st, .int .i64 st, .int .i64 0, .nils]), (gc, .row tC 4 Cc [encC ⟨1, countedB o.p a.k, o.d, 0⟩])]) ?_ ?_
      · refine Run.drawnN C_ok (aopC_sound C_ok) [2] (.pre [0, 1, 3, 4, 5, 6, 7] (.two 2 (.two 8 (.ofL [9, 10, 11, 12]) 9 (.two 8 (.ofL [10, 11, 12]) 10 (.ofL [8, 11, 12]))) 8 (.ofL [2, 9, 10, 11, 12]))) (by kernel_rfl) ?_
        repeat(first|refine Sc ?_|refine fun(_:Nat)=>?_)
        refine OrdN.two ?_ ?_
        · repeat(first|refine Sc ?_|refine fun(_:Nat)=>?_)
          refine ACallT.ok (ACall.ret (refShown_spec (⟨countedB o.p a.k, o.d, 0, st, st, 0, 0⟩ : Fu)) ?_)
          repeat(first|refine Sc ?_|refine fun(_:Nat)=>?_)
          refine OrdN.two ?_ ?_
          · repeat(first|refine Sc ?_|refine fun(_:Nat)=>?_)
            rename_i gc
            refine ⟨_, _, Weak.sel ?_ [3, 1, 4] (by decide) ?_, gc, 1, rfl, rfl⟩
            · exact Ss
            · exact Sl
          · repeat(first|refine Sc ?_|refine fun(_:Nat)=>?_)
            refine OrdN.two ?_ ?_
            · repeat(first|refine Sc ?_|refine fun(_:Nat)=>?_)
              rename_i gc
              refine ⟨_, _, Weak.sel ?_ [3, 1, 4] (by decide) ?_, gc, 1, rfl, rfl⟩
              · exact Ss
              · exact Sl
            · repeat(first|refine Sc ?_|refine fun(_:Nat)=>?_)
              rename_i gc
              refine ⟨_, _, Weak.sel ?_ [3, 1, 4] (by decide) ?_, gc, 1, rfl, rfl⟩
              · exact Ss
              · exact Sl
        · repeat(first|refine Sc ?_|refine fun(_:Nat)=>?_)
          rename_i gc
          refine ACallT.ok (ACall.ret (refShown_spec (⟨countedB o.p a.k, o.d, 0, st, st, 0, 0⟩ : Fu)) ?_)
          repeat(first|refine Sc ?_|refine fun(_:Nat)=>?_)
          refine ⟨_, _, Weak.sel ?_ [3, 1, 4] (by decide) ?_, gc, 1, rfl, rfl⟩
          · exact Ss
          · exact Sl
      rintro env L ⟨gc, Cc, rfl, rfl⟩
      repeat(first|refine Sc ?_|refine fun(_:Nat)=>?_)
      rw [← List.map_set]
      exact ⟨outR l (madeF l s st o), [], by
        rw [hok]
        refine FinOk.lend (Lend.tuples ⟨?_, Lend.aggs ⟨.same _, .same _, .same _, .same _, .same _, .same _, .nils 1, trivial⟩, .row 2 gc Cc 1 tC 4 _ rfl (Nat.le_refl _), .same _, trivial⟩)
        have hr := Lend.row (L := [(gm, .row tY 7 Cm (((ins (⟨countedB o.p a.k, o.d, 0, st, st, 0, 0⟩ : Fu) l).set j2 ({ a with k := a.k + 1 } : Fu)).map encX)), (g9, .cells tR [.str (countedB o.p a.k), .str eS, .int .i64 0, .int .i64 st, .int .i64 st, .int .i64 0, .nils]), (gc, .row tC 4 Cc [encC ⟨1, countedB o.p a.k, o.d, 0⟩])]) 0 gm Cm (ins (⟨countedB o.p a.k, o.d, 0, st, st, 0, 0⟩ : Fu) l).length tY 7 (((ins (⟨countedB o.p a.k, o.d, 0, st, st, 0, 0⟩ : Fu) l).set j2 ({ a with k := a.k + 1 } : Fu)).map encX) rfl (by rw [List.length_map, List.length_set]; exact Nat.le_refl _)
        rw [show rdX ((ins (⟨countedB o.p a.k, o.d, 0, st, st, 0, 0⟩ : Fu) l).set j2 ({ a with k := a.k + 1 } : Fu)) = .ro 7 (((ins (⟨countedB o.p a.k, o.d, 0, st, st, 0, 0⟩ : Fu) l).set j2 ({ a with k := a.k + 1 } : Fu)).map encX) (ins (⟨countedB o.p a.k, o.d, 0, st, st, 0, 0⟩ : Fu) l).length by show AV.ro _ _ _ = _; rw [List.length_set]]
        exact hr, rfl, rfl⟩
  · have hc : ¬ o.f ≥ 2 := hc
    have hcnt : isCnt o.f = false := by unfold isCnt; exact decide_eq_false (by omega)
    repeat(first|refine Sc ?_|refine fun(_:Nat)=>?_)
    have hxp : (madeX s st a o).p = o.p := by unfold madeX; rw [hcnt]; rfl
    have hxs : (o.p).size ≤ 1000 := hsl
    refine ACallT.ok (ACall.ret (refFind_spec l (o.p) (by omega)) ?_)
    rcases idx_two (l := l) (p := o.p) with ⟨hfx, hix⟩ | ⟨jx, y, hfx, ejx, hix⟩
    rotate_left
    · rw [hix]
      repeat(first|refine Sc ?_|refine fun(_:Nat)=>?_)
      refine ⟨fun _ => ?_, fun h => absurd (show (jx : Int) ≥ 0 by omega) h⟩
      repeat(first|refine Sc ?_|refine fun(_:Nat)=>?_)
      exact ⟨outR l (.error 41), [], FinOk.keep _ [] (hsub 41) (by decide) rfl, by rw [hA _ (by rw [if_neg ho, if_neg (fun e => by rw [hcnt] at e; cases e.1), if_pos (by rw [hxp, hfx]; rfl)])], rfl⟩
    rw [hix]
    repeat(first|refine Sc ?_|refine fun(_:Nat)=>?_)
    refine ⟨fun h => absurd h (by decide), fun _ => ?_⟩
    repeat(first|refine Sc ?_|refine fun(_:Nat)=>?_)
    refine ⟨fun h64 => ?_, fun h64 => ?_⟩
    · have h64 : (l.length : Int) ≥ 64 := h64
      repeat(first|refine Sc ?_|refine fun(_:Nat)=>?_)
      exact ⟨outR l (.error 46), [], FinOk.keep _ [] (hsub 46) (by decide) rfl, by rw [hA _ (by rw [if_neg ho, if_neg (fun e => by rw [hcnt] at e; cases e.1), if_neg (by rw [hxp, hfx]; decide), if_pos (by omega)])], rfl⟩
    have h64 : ¬ (l.length : Int) ≥ 64 := h64
    have hok : madeF l s st o = .ok (upd (ins (madeX s st a o) l) (madeA a o), told (madeX s st a o), [⟨1, (madeX s st a o).p, o.d, 0⟩]) := hA _ (by rw [if_neg ho, if_neg (fun e => by rw [hcnt] at e; cases e.1), if_neg (by rw [hxp, hfx]; decide), if_neg (by omega)])
    repeat(first|refine Sc ?_|refine fun(_:Nat)=>?_)
    refine ⟨by decide, ?_⟩
    repeat(first|refine Sc ?_|refine fun(_:Nat)=>?_)
    refine fun r hr => ?_
    obtain rfl : r = o.f % 2 := by rw [hr, Int.tmod_eq_emod_of_nonneg (by omega)]
    repeat(first|refine Sc ?_|refine fun(_:Nat)=>?_)
    refine ⟨fun hb => ?_, fun hb => ?_⟩
    · have hb : o.f % 2 = 1 := hb
      have hbrf : isBrf o.f = true := by unfold isBrf; exact decide_eq_true (by omega)
      repeat(first|refine Sc ?_|refine fun(_:Nat)=>?_)
      obtain ⟨X, hX⟩ : ∃ X : Fu, X = ⟨o.p, o.d, 0, st, st, s, 0⟩ := ⟨_, rfl⟩
      have hX' : madeX s st a o = X := by rw [hX]; unfold madeX; rw [hcnt, hbrf]; rfl
      have hA' : madeA a o = { a with k := a.k } := by unfold madeA; rw [hcnt]; rfl
      have hXp : X.p = o.p := by rw [hX]
      have hfar : ∀ y ∈ l, y.p ≠ X.p := by rw [hXp]; exact findF_none hfx
      have hne : parentB o.p ≠ X.p := by rw [← hap]; exact hfar a ham
      have hfm : findF (ins X l) (parentB o.p) = some a := by rw [findF_ins_ne hne, hfa]
      have hil : (ins X l).length = l.length + 1 := by rw [(ins_perm X l).length_eq, List.length_cons]
      have hw := refWith_spec l X (by omega) (by rw [hXp]; exact hxs)
      rw [hX] at hw
      refine ACallT.ok (ACall.pure _ hw ?_)
      rw [← hX]
      rintro r L' ⟨gm, Cm, rfl, rfl⟩
      refine ⟨.sl 3 gm Cm (ins X l).length, Sub.sl _ _ _ _ _, ?_⟩
      repeat(first|refine Sc ?_|refine fun(_:Nat)=>?_)
      refine ACallT.ok (ACall.ret_lend (.two (.row 3 gm Cm _ tY 7 _ rfl (by simp)) (.same _)) (refFind_spec (ins X l) (parentB o.p) (by omega)) rfl ?_)
      rcases idx_two (l := ins X l) (p := parentB o.p) with ⟨hfn, _⟩ | ⟨j2, b, hfb, ej2, hi2⟩
      · rw [hfm] at hfn; cases hfn
      obtain rfl : a = b := (Option.some.inj (hfb.symm.trans hfm)).symm
      rw [hi2]
      have hj2l : j2 < (ins X l).length := (List.getElem?_eq_some_iff.1 ej2).1
      repeat(first|refine Sc ?_|refine fun(_:Nat)=>?_)
      refine ⟨show (j2 : Int) < ((ins X l).length : Int) by omega, ?_⟩
      repeat(first|refine Sc ?_|refine fun(_:Nat)=>?_)
      refine ⟨encX a, map_at encX ej2, ?_⟩
      repeat(first|refine Sc ?_|refine fun(_:Nat)=>?_)
      have hups : (ins X l).set j2 ({ a with k := a.k } : Fu) = upd (ins X l) ({ a with k := a.k } : Fu) := set_upd (ins_sorted hI.sorted hfar).nodup ej2 rfl
      have hul := upd_len (ins X l) ({ a with k := a.k } : Fu)
      rw [hX', hA', hXp] at hok
      rw [← hups] at hok hul
      subst hX
      refine Run.join C_ok (fun env L => ∃ gc Cc, env = [.junk, .junk, .junk, .junk, .junk, .junk, .junk, .junk, .sl 0 gm Cm (ins (⟨o.p, o.d, 0, st, st, s, 0⟩ : Fu) l).length, .ptr 1 g9 0, .sl 2 gc Cc 1, .int .i64 0, .junk, .junk, .junk, .junk, .junk, .junk, .junk, .junk, .junk, .junk, .junk, .junk, .junk, .junk, .junk, .junk, .junk, .junk, .junk, .junk, .junk, .junk, .junk, .junk, .junk, .junk, .junk, .junk, .junk, .junk, .junk, .junk, .junk, .junk, .junk, .junk, .junk, .junk, .junk, .junk, .junk, .junk, .junk, .junk, .junk, .junk, .junk, .junk, .junk, .junk, .junk, .junk, .junk, .junk, .junk, .junk, .junk, .junk, .junk, .junk, .junk, .junk, .junk, .junk, .junk, .junk, .junk, .junk, .junk, .junk, .junk, .junk, .junk, .junk, .junk, .junk, .junk, .junk, .junk, .junk, .junk, .junk, .junk, .junk, .junk, .junk, .junk, .junk, .junk, .junk, .junk, .junk, .junk, .junk] ∧ L = [(gm, .row tY 7 Cm (((ins (⟨o.p, o.d, 0, st, st, s, 0⟩ : Fu) l).map encX).set j2 (encX ({ a with k := a.k } : Fu)))), (g9, .cells tR [.str (o.p), .str eS, .int .i64 0, .int .i64 st, .int .i64 st, .int .i64 s, .nils]), (gc, .row tC 4 Cc [encC ⟨1, o.p, o.d, 0⟩])]) ?_ ?_
      · refine Run.drawnN C_ok (aopC_sound C_ok) [2] (.pre [0, 1, 3, 4, 5, 6, 7] (.two 2 (.two 8 (.ofL [9, 10, 11, 12]) 9 (.two 8 (.ofL [10, 11, 12]) 10 (.ofL [8, 11, 12]))) 8 (.ofL [2, 9, 10, 11, 12]))) (by kernel_rfl) ?_
        repeat(first|refine Sc ?_|refine fun(_:Nat)=>?_)
        refine OrdN.two ?_ ?_
        · repeat(first|refine Sc ?_|refine fun(_:Nat)=>?_)
          refine ACallT.ok (ACall.ret (refShown_spec (⟨o.p, o.d, 0, st, st, s, 0⟩ : Fu)) ?_)
          repeat(first|refine Sc ?_|refine fun(_:Nat)=>?_)
          refine OrdN.two ?_ ?_
          · repeat(first|refine Sc ?_|refine fun(_:Nat)=>?_)
            rename_i gc
            refine ⟨_, _, Weak.sel ?_ [3, 1, 4] (by decide) ?_, gc, 1, rfl, rfl⟩
            · exact Ss
            · exact Sl
          · repeat(first|refine Sc ?_|refine fun(_:Nat)=>?_)
            refine OrdN.two ?_ ?_
            · repeat(first|refine Sc ?_|refine fun(_:Nat)=>?_)
              rename_i gc
              refine ⟨_, _, Weak.sel ?_ [3, 1, 4] (by decide) ?_, gc, 1, rfl, rfl⟩
              · exact Ss
              · exact Sl
            · repeat(first|refine Sc ?_|refine fun(_:Nat)=>?_)
              rename_i gc
              refine ⟨_, _, Weak.sel ?_ [3, 1, 4] (by decide) ?_, gc, 1, rfl, rfl⟩
              · exact Ss
              · exact Sl
        · repeat(first|refine Sc ?_|refine fun(_:Nat)=>?_)
          rename_i gc
          refine ACallT.ok (ACall.ret (refShown_spec (⟨o.p, o.d, 0, st, st, s, 0⟩ : Fu)) ?_)
          repeat(first|refine Sc ?_|refine fun(_:Nat)=>?_)
          refine ⟨_, _, Weak.sel ?_ [3, 1, 4] (by decide) ?_, gc, 1, rfl, rfl⟩
          · exact Ss
          · exact Sl
      rintro env L ⟨gc, Cc, rfl, rfl⟩
      repeat(first|refine Sc ?_|refine fun(_:Nat)=>?_)
      rw [← List.map_set]
      exact ⟨outR l (madeF l s st o), [], by
        rw [hok]
        refine FinOk.lend (Lend.tuples ⟨?_, Lend.aggs ⟨.same _, .same _, .same _, .same _, .same _, .same _, .nils 1, trivial⟩, .row 2 gc Cc 1 tC 4 _ rfl (Nat.le_refl _), .same _, trivial⟩)
        have hr := Lend.row (L := [(gm, .row tY 7 Cm (((ins (⟨o.p, o.d, 0, st, st, s, 0⟩ : Fu) l).set j2 ({ a with k := a.k } : Fu)).map encX)), (g9, .cells tR [.str (o.p), .str eS, .int .i64 0, .int .i64 st, .int .i64 st, .int .i64 s, .nils]), (gc, .row tC 4 Cc [encC ⟨1, o.p, o.d, 0⟩])]) 0 gm Cm (ins (⟨o.p, o.d, 0, st, st, s, 0⟩ : Fu) l).length tY 7 (((ins (⟨o.p, o.d, 0, st, st, s, 0⟩ : Fu) l).set j2 ({ a with k := a.k } : Fu)).map encX) rfl (by rw [List.length_map, List.length_set]; exact Nat.le_refl _)
        rw [show rdX ((ins (⟨o.p, o.d, 0, st, st, s, 0⟩ : Fu) l).set j2 ({ a with k := a.k } : Fu)) = .ro 7 (((ins (⟨o.p, o.d, 0, st, st, s, 0⟩ : Fu) l).set j2 ({ a with k := a.k } : Fu)).map encX) (ins (⟨o.p, o.d, 0, st, st, s, 0⟩ : Fu) l).length by show AV.ro _ _ _ = _; rw [List.length_set]]
        exact hr, rfl, rfl⟩
    · have hb : ¬ o.f % 2 = 1 := hb
      have hbrf : isBrf o.f = false := by unfold isBrf; exact decide_eq_false (by omega)
      repeat(first|refine Sc ?_|refine fun(_:Nat)=>?_)
      obtain ⟨X, hX⟩ : ∃ X : Fu, X = ⟨o.p, o.d, 0, st, st, 0, 0⟩ := ⟨_, rfl⟩
      have hX' : madeX s st a o = X := by rw [hX]; unfold madeX; rw [hcnt, hbrf]; rfl
      have hA' : madeA a o = { a with k := a.k } := by unfold madeA; rw [hcnt]; rfl
      have hXp : X.p = o.p := by rw [hX]
      have hfar : ∀ y ∈ l, y.p ≠ X.p := by rw [hXp]; exact findF_none hfx
      have hne : parentB o.p ≠ X.p := by rw [← hap]; exact hfar a ham
      have hfm : findF (ins X l) (parentB o.p) = some a := by rw [findF_ins_ne hne, hfa]
      have hil : (ins X l).length = l.length + 1 := by rw [(ins_perm X l).length_eq, List.length_cons]
      have hw := refWith_spec l X (by omega) (by rw [hXp]; exact hxs)
      rw [hX] at hw
      refine ACallT.ok (ACall.pure _ hw ?_)
      rw [← hX]
      rintro r L' ⟨gm, Cm, rfl, rfl⟩
      refine ⟨.sl 3 gm Cm (ins X l).length, Sub.sl _ _ _ _ _, ?_⟩
      repeat(first|refine Sc ?_|refine fun(_:Nat)=>?_)
      refine ACallT.ok (ACall.ret_lend (.two (.row 3 gm Cm _ tY 7 _ rfl (by simp)) (.same _)) (refFind_spec (ins X l) (parentB o.p) (by omega)) rfl ?_)
      rcases idx_two (l := ins X l) (p := parentB o.p) with ⟨hfn, _⟩ | ⟨j2, b, hfb, ej2, hi2⟩
      · rw [hfm] at hfn; cases hfn
      obtain rfl : a = b := (Option.some.inj (hfb.symm.trans hfm)).symm
      rw [hi2]
      have hj2l : j2 < (ins X l).length := (List.getElem?_eq_some_iff.1 ej2).1
      repeat(first|refine Sc ?_|refine fun(_:Nat)=>?_)
      refine ⟨show (j2 : Int) < ((ins X l).length : Int) by omega, ?_⟩
      repeat(first|refine Sc ?_|refine fun(_:Nat)=>?_)
      refine ⟨encX a, map_at encX ej2, ?_⟩
      repeat(first|refine Sc ?_|refine fun(_:Nat)=>?_)
      have hups : (ins X l).set j2 ({ a with k := a.k } : Fu) = upd (ins X l) ({ a with k := a.k } : Fu) := set_upd (ins_sorted hI.sorted hfar).nodup ej2 rfl
      have hul := upd_len (ins X l) ({ a with k := a.k } : Fu)
      rw [hX', hA', hXp] at hok
      rw [← hups] at hok hul
      subst hX
      refine Run.join C_ok (fun env L => ∃ gc Cc, env = [.junk, .junk, .junk, .junk, .junk, .junk, .junk, .junk, .sl 0 gm Cm (ins (⟨o.p, o.d, 0, st, st, 0, 0⟩ : Fu) l).length, .ptr 1 g9 0, .sl 2 gc Cc 1, .int .i64 0, .junk, .junk, .junk, .junk, .junk, .junk, .junk, .junk, .junk, .junk, .junk, .junk, .junk, .junk, .junk, .junk, .junk, .junk, .junk, .junk, .junk, .junk, .junk, .junk, .junk, .junk, .junk, .junk, .junk, .junk, .junk, .junk, .junk, .junk, .junk, .junk, .junk, .junk, .junk, .junk, .junk, .junk, .junk, .junk, .junk, .junk, .junk, .junk, .junk, .junk, .junk, .junk, .junk, .junk, .junk, .junk, .junk, .junk, .junk, .junk, .junk, .junk, .junk, .junk, .junk, .junk, .junk, .junk, .junk, .junk, .junk, .junk, .junk, .junk, .junk, .junk, .junk, .junk, .junk, .junk, .junk, .junk, .junk, .junk, .junk, .junk, .junk, .junk, .junk, .junk, .junk, .junk, .junk, .junk] ∧ L = [(gm, .row tY 7 Cm (((ins (⟨o.p, o.d, 0, st, st, 0, 0⟩ : Fu) l).map encX).set j2 (encX ({ a with k := a.k } : Fu)))), (g9, .cells tR [.str (o.p), .str eS, .int .i64 0, .int .i64 st, .int .i64 st, .int .i64 0, .nils]), (gc, .row tC 4 Cc [encC ⟨1, o.p, o.d, 0⟩])]) ?_ ?_
      · refine Run.drawnN C_ok (aopC_sound C_ok) [2] (.pre [0, 1, 3, 4, 5, 6, 7] (.two 2 (.two 8 (.ofL [9, 10, 11, 12]) 9 (.two 8 (.ofL [10, 11, 12]) 10 (.ofL [8, 11, 12]))) 8 (.ofL [2, 9, 10, 11, 12]))) (by kernel_rfl) ?_
        repeat(first|refine Sc ?_|refine fun(_:Nat)=>?_)
        refine OrdN.two ?_ ?_
        · repeat(first|refine Sc ?_|refine fun(_:Nat)=>?_)
          refine ACallT.ok (ACall.ret (refShown_spec (⟨o.p, o.d, 0, st, st, 0, 0⟩ : Fu)) ?_)
          repeat(first|refine Sc ?_|refine fun(_:Nat)=>?_)
          refine OrdN.two ?_ ?_
          · repeat(first|refine Sc ?_|refine fun(_:Nat)=>?_)
            rename_i gc
            refine ⟨_, _, Weak.sel ?_ [3, 1, 4] (by decide) ?_, gc, 1, rfl, rfl⟩
            · exact Ss
            · exact Sl
          · repeat(first|refine Sc ?_|refine fun(_:Nat)=>?_)
            refine OrdN.two ?_ ?_
            · repeat(first|refine Sc ?_|refine fun(_:Nat)=>?_)
              rename_i gc
              refine ⟨_, _, Weak.sel ?_ [3, 1, 4] (by decide) ?_, gc, 1, rfl, rfl⟩
              · exact Ss
              · exact Sl
            · repeat(first|refine Sc ?_|refine fun(_:Nat)=>?_)
              rename_i gc
              refine ⟨_, _, Weak.sel ?_ [3, 1, 4] (by decide) ?_, gc, 1, rfl, rfl⟩
              · exact Ss
              · exact Sl
        · repeat(first|refine Sc ?_|refine fun(_:Nat)=>?_)
          rename_i gc
          refine ACallT.ok (ACall.ret (refShown_spec (⟨o.p, o.d, 0, st, st, 0, 0⟩ : Fu)) ?_)
          repeat(first|refine Sc ?_|refine fun(_:Nat)=>?_)
          refine ⟨_, _, Weak.sel ?_ [3, 1, 4] (by decide) ?_, gc, 1, rfl, rfl⟩
          · exact Ss
          · exact Sl
      rintro env L ⟨gc, Cc, rfl, rfl⟩
      repeat(first|refine Sc ?_|refine fun(_:Nat)=>?_)
      rw [← List.map_set]
      exact ⟨outR l (madeF l s st o), [], by
        rw [hok]
        refine FinOk.lend (Lend.tuples ⟨?_, Lend.aggs ⟨.same _, .same _, .same _, .same _, .same _, .same _, .nils 1, trivial⟩, .row 2 gc Cc 1 tC 4 _ rfl (Nat.le_refl _), .same _, trivial⟩)
        have hr := Lend.row (L := [(gm, .row tY 7 Cm (((ins (⟨o.p, o.d, 0, st, st, 0, 0⟩ : Fu) l).set j2 ({ a with k := a.k } : Fu)).map encX)), (g9, .cells tR [.str (o.p), .str eS, .int .i64 0, .int .i64 st, .int .i64 st, .int .i64 0, .nils]), (gc, .row tC 4 Cc [encC ⟨1, o.p, o.d, 0⟩])]) 0 gm Cm (ins (⟨o.p, o.d, 0, st, st, 0, 0⟩ : Fu) l).length tY 7 (((ins (⟨o.p, o.d, 0, st, st, 0, 0⟩ : Fu) l).set j2 ({ a with k := a.k } : Fu)).map encX) rfl (by rw [List.length_map, List.length_set]; exact Nat.le_refl _)
        rw [show rdX ((ins (⟨o.p, o.d, 0, st, st, 0, 0⟩ : Fu) l).set j2 ({ a with k := a.k } : Fu)) = .ro 7 (((ins (⟨o.p, o.d, 0, st, st, 0, 0⟩ : Fu) l).set j2 ({ a with k := a.k } : Fu)).map encX) (ins (⟨o.p, o.d, 0, st, st, 0, 0⟩ : Fu) l).length by show AV.ro _ _ _ = _; rw [List.length_set]]
        exact hr, rfl, rfl⟩
end Go.Proofs.YtcbjcmigecocgaaGreatDoor.HBT
