/- The document's one. -/
import Derived.Test.YtcbjcmigecocgaaGreatDoorTwU3
import Derived.Test.YtcbjcmigecocgaaGreatDoorTwU4
set_option linter.unusedVariables false
set_option linter.unusedSimpArgs false
namespace Go.Proofs.YtcbjcmigecocgaaGreatDoor.HBT
open Go Go.Proofs.YtcbjcmigecocgaaGreatDoor.HB Go.RowKit
set_option maxRecDepth 8000

set_option maxHeartbeats 4000000 in
theorem refOne_spec {l : List Fu} (hI : TInv l) (s st : Int) (o : Opp) :
    FnSpec C 27 [rdX l, .int .i64 s, .int .i64 st, encO o] [] (fun r L' => r = outR l (playF l s st o) ∧ L' = []) := by
  have hL := hI.len
  have hsub : ∀ e : Int, Sub (.tuple [rdX l, .agg [.str eS, .str eS, .int .i64 0, .int .i64 0, .int .i64 0, .int .i64 0, .nils], .nils, .int .i64 e]) (outR l (.error e)) := fun e =>
    Sub.tuples ⟨Sub.refl _, Sub.aggs ⟨Sub.refl _, Sub.refl _, Sub.refl _, Sub.refl _, Sub.refl _, Sub.refl _, Sub.nilsRo 1, trivial⟩, Sub.nilsRo 4, Sub.refl _, trivial⟩
  have hp := play_static l s st o
  refine FnSpec.start C_ok Tryz.func27 rfl rfl Tryz.ntmps27 ?_
  repeat(first|refine Sc ?_|refine fun(_:Nat)=>?_)
  rename_i g7 g9
  refine ACallT.ok (ACall.ret (refStatic_spec s o) ?_)
  repeat(first|refine Sc ?_|refine fun(_:Nat)=>?_)
  refine ⟨fun he => ?_, fun he => ?_⟩
  · have he : staticF s o ≠ 0 := he
    rw [if_pos he] at hp
    repeat(first|refine Sc ?_|refine fun(_:Nat)=>?_)
    exact ⟨outR l (.error (staticF s o)), [], FinOk.keep _ [] (hsub (staticF s o)) (by decide) rfl, by rw [hp], rfl⟩
  have he : ¬ staticF s o ≠ 0 := he
  rw [if_neg he] at hp
  have h0 : staticF s o = 0 := Classical.not_not.1 he
  repeat(first|refine Sc ?_|refine fun(_:Nat)=>?_)
  refine ⟨fun hk => ?_, fun hk => ?_⟩
  · have hk : o.k = 1 := hk
    rw [if_pos hk] at hp
    have hm := refMade_spec hI s st o h0 hk
    rw [hp]
    repeat(first|refine Sc ?_|refine fun(_:Nat)=>?_)
    cases hmf : madeF l s st o with
    | error e =>
      rw [hmf] at hm
      refine ACallT.ok (ACall.ret hm ?_)
      repeat(first|refine Sc ?_|refine fun(_:Nat)=>?_)
      exact ⟨outR l (.error e), [], FinOk.drop _ _, rfl, rfl⟩
    | ok y =>
      obtain ⟨l', x, c⟩ := y
      rw [hmf] at hm
      refine ACallT.ok (ACall.ret hm ?_)
      repeat(first|refine Sc ?_|refine fun(_:Nat)=>?_)
      exact ⟨outR l (.ok (l', x, c)), [], FinOk.drop _ _, rfl, rfl⟩
  have hk : ¬ o.k = 1 := hk
  rw [if_neg hk] at hp
  unfold restF at hp
  repeat(first|refine Sc ?_|refine fun(_:Nat)=>?_)
  refine ACallT.ok (ACall.ret (refFind_spec l o.p (by omega)) ?_)
  rcases idx_two (l := l) (p := o.p) with ⟨hf, hidx⟩ | ⟨j, x, hf, ej, hidx⟩
  · rw [hf] at hp
    rw [hidx]
    repeat(first|refine Sc ?_|refine fun(_:Nat)=>?_)
    refine ⟨fun _ => ?_, fun h => absurd (by decide) h⟩
    repeat(first|refine Sc ?_|refine fun(_:Nat)=>?_)
    exact ⟨outR l (.error 40), [], FinOk.keep _ [] (hsub 40) (by decide) rfl, by rw [hp], rfl⟩
  rw [hf] at hp
  rw [hidx]
  have hjl : j < l.length := (List.getElem?_eq_some_iff.1 ej).1
  obtain ⟨hx, hxp⟩ := findF_some hf
  simp only [] at hp
  repeat(first|refine Sc ?_|refine fun(_:Nat)=>?_)
  refine ⟨fun h => absurd h (show ¬ (j : Int) < 0 by omega), fun _ => ?_⟩
  repeat(first|refine Sc ?_|refine fun(_:Nat)=>?_)
  refine ⟨show (j : Int) < (l.length : Int) by omega, encX x, map_at encX ej, ?_⟩
  repeat(first|refine Sc ?_|refine fun(_:Nat)=>?_)
  rename_i g14
  refine ⟨fun k4 => ?_, fun k4 => ?_⟩
  · have k4 : o.k ≤ 4 := k4
    repeat(first|refine Sc ?_|refine fun(_:Nat)=>?_)
    refine ⟨fun v1 => ?_, fun v1 => ?_⟩
    · have v1 : o.v ≠ -1 := v1
      repeat(first|refine Sc ?_|refine fun(_:Nat)=>?_)
      refine ⟨fun v2 => ?_, fun v2 => ?_⟩
      · have v2 : o.v ≠ x.v := v2
        rw [if_pos ⟨k4, v1, v2⟩] at hp
        repeat(first|refine Sc ?_|refine fun(_:Nat)=>?_)
        exact ⟨outR l (.error 42), [], FinOk.keep _ [] (hsub 42) (by decide) rfl, by rw [hp], rfl⟩
      · have v2 : ¬ o.v ≠ x.v := v2
        rw [if_neg (fun e => v2 e.2.2)] at hp
        repeat(first|refine Sc ?_|refine fun(_:Nat)=>?_)
        refine ACallT.ok (ACall.ret (refShown_spec x) ?_)
        repeat(first|refine Sc ?_|refine fun(_:Nat)=>?_)
        refine ⟨fun k2 => ?_, fun k2 => ?_⟩
        · have k2 : o.k = 2 := k2
          rw [if_pos k2] at hp
          repeat(first|refine Sc ?_|refine fun(_:Nat)=>?_)
          refine ⟨fun hv => ?_, fun hv => ?_⟩
          · have hv : x.v ≥ 2147483647 := hv
            rw [if_pos hv] at hp
            repeat(first|refine Sc ?_|refine fun(_:Nat)=>?_)
            exact ⟨outR l (.error 46), [], FinOk.keep _ [] (hsub 46) (by decide) rfl, by rw [hp], rfl⟩
          have hv : ¬ x.v ≥ 2147483647 := hv
          rw [if_neg hv] at hp
          repeat(first|refine Sc ?_|refine fun(_:Nat)=>?_)
          refine fun r hr => ?_
          obtain rfl : r = x.v + 1 := by
            have := (hI.ok x hx).2.2.1
            rw [hr, IntKind.wrap_i64]; omega
          repeat(first|refine Sc ?_|refine fun(_:Nat)=>?_)
          refine Run.drawnK C_ok (aopC_sound C_ok) [2] [0, 1, 3, 2, 4, 5] (by kernel_rfl) ?_
          repeat(first|refine Sc ?_|refine fun(_:Nat)=>?_)
          have hwo := refWithout_spec l j (by omega)
          rw [erase_del hI.sorted.nodup ej] at hwo
          refine ACallT.ok (ACall.ret hwo ?_)
          repeat(first|refine Sc ?_|refine fun(_:Nat)=>?_)
          have hdl : (del l x.p).length ≤ 64 := Nat.le_trans (List.length_filter_le _ _) hL
          have hxs : x.p.size ≤ 1000 := Nat.le_trans (place_size (hI.ok x hx).1) (by decide)
          have hul : (upd l (⟨x.p, o.d, x.v + 1, x.m, st, x.o, x.k⟩ : Fu)).length = l.length := upd_len _ _
          have hw := refWith_spec (del l x.p) (⟨x.p, o.d, x.v + 1, x.m, st, x.o, x.k⟩ : Fu) (by omega) hxs
          rw [ins_del hI.sorted hx (show (⟨x.p, o.d, x.v + 1, x.m, st, x.o, x.k⟩ : Fu).p = x.p from rfl)] at hw
          refine ACallT.ok (ACall.pure _ hw ?_)
          rintro r L' ⟨gm, Cm, rfl, rfl⟩
          refine ⟨.sl 4 gm Cm (upd l (⟨x.p, o.d, x.v + 1, x.m, st, x.o, x.k⟩ : Fu)).length, Sub.sl _ _ _ _ _, ?_⟩
          repeat(first|refine Sc ?_|refine fun(_:Nat)=>?_)
          refine Run.join C_ok (fun env L => ∃ gc Cc, env = [.junk, .junk, .junk, .junk, .junk, .junk, .junk, .junk, .sl 0 gm Cm (upd l (⟨x.p, o.d, x.v + 1, x.m, st, x.o, x.k⟩ : Fu)).length, .ptr 1 g9 0, .sl 2 gc Cc 1, .int .i64 0, .junk, .junk, .junk, .junk, .junk, .junk, .junk, .junk, .junk, .junk, .junk, .junk, .junk, .junk, .junk, .junk, .junk, .junk, .junk, .junk, .junk, .junk, .junk, .junk, .junk, .junk, .junk, .junk, .junk, .junk, .junk, .junk, .junk, .junk, .junk, .junk, .junk, .junk, .junk, .junk, .junk, .junk, .junk, .junk, .junk, .junk, .junk, .junk, .junk, .junk, .junk, .junk, .junk, .junk, .junk, .junk, .junk, .junk, .junk, .junk, .junk, .junk, .junk, .junk, .junk, .junk, .junk, .junk, .junk, .junk, .junk, .junk, .junk, .junk, .junk, .junk, .junk, .junk, .junk, .junk, .junk, .junk, .junk, .junk, .junk, .junk, .junk, .junk, .junk, .junk, .junk, .junk, .junk, .junk, .junk, .junk, .junk, .junk, .junk, .junk, .junk, .junk, .junk, .junk, .junk, .junk, .junk, .junk, .junk, .junk, .junk, .junk, .junk, .junk, .junk, .junk, .junk, .junk, .junk, .junk, .junk, .junk, .junk, .junk, .junk, .junk, .junk, .junk] ∧ L = [(gm, .row tY 7 Cm ((upd l (⟨x.p, o.d, x.v + 1, x.m, st, x.o, x.k⟩ : Fu)).map encX)), (g9, .cells tR [.str x.p, .str eS, .int .i64 (x.v + 1), .int .i64 x.m, .int .i64 st, .int .i64 x.o, .nils]), (gc, .row tC 4 Cc [encC ⟨2, x.p, o.d, x.v + 1⟩])]) ?_ ?_
          · refine Run.drawnN C_ok (aopC_sound C_ok) [2] (.pre [0, 1, 3, 4, 5, 6, 7, 8, 9] (.two 2 (.two 10 (.ofL [11, 12, 13, 14]) 11 (.two 10 (.ofL [12, 13, 14]) 12 (.ofL [10, 13, 14]))) 10 (.ofL [2, 11, 12, 13, 14]))) (by kernel_rfl) ?_
            repeat(first|refine Sc ?_|refine fun(_:Nat)=>?_)
            refine OrdN.two ?_ ?_
            · repeat(first|refine Sc ?_|refine fun(_:Nat)=>?_)
              refine ACallT.ok (ACall.ret (refShown_spec (⟨x.p, o.d, x.v + 1, x.m, st, x.o, x.k⟩ : Fu)) ?_)
              repeat(first|refine Sc ?_|refine fun(_:Nat)=>?_)
              refine OrdN.two ?_ ?_
              · repeat(first|refine Sc ?_|refine fun(_:Nat)=>?_)
                rename_i gc
                refine ⟨_, _, Weak.sel ?_ [4, 1, 5] (by decide) ?_, gc, 1, rfl, rfl⟩
                · exact Ss
                · exact Sl
              · repeat(first|refine Sc ?_|refine fun(_:Nat)=>?_)
                refine OrdN.two ?_ ?_
                · repeat(first|refine Sc ?_|refine fun(_:Nat)=>?_)
                  rename_i gc
                  refine ⟨_, _, Weak.sel ?_ [4, 1, 5] (by decide) ?_, gc, 1, rfl, rfl⟩
                  · exact Ss
                  · exact Sl
                · repeat(first|refine Sc ?_|refine fun(_:Nat)=>?_)
                  rename_i gc
                  refine ⟨_, _, Weak.sel ?_ [4, 1, 5] (by decide) ?_, gc, 1, rfl, rfl⟩
                  · exact Ss
                  · exact Sl
            · repeat(first|refine Sc ?_|refine fun(_:Nat)=>?_)
              rename_i gc
              refine ACallT.ok (ACall.ret (refShown_spec (⟨x.p, o.d, x.v + 1, x.m, st, x.o, x.k⟩ : Fu)) ?_)
              repeat(first|refine Sc ?_|refine fun(_:Nat)=>?_)
              refine ⟨_, _, Weak.sel ?_ [4, 1, 5] (by decide) ?_, gc, 1, rfl, rfl⟩
              · exact Ss
              · exact Sl
          rintro env L ⟨gc, Cc, rfl, rfl⟩
          repeat(first|refine Sc ?_|refine fun(_:Nat)=>?_)
          exact ⟨outR l (.ok (upd l (⟨x.p, o.d, x.v + 1, x.m, st, x.o, x.k⟩ : Fu), told (⟨x.p, o.d, x.v + 1, x.m, st, x.o, x.k⟩ : Fu), [⟨2, x.p, o.d, x.v + 1⟩])), [], FinOk.lend (Lend.tuples ⟨.row 0 gm Cm (upd l (⟨x.p, o.d, x.v + 1, x.m, st, x.o, x.k⟩ : Fu)).length tY 7 _ rfl (by simp), Lend.aggs ⟨.same _, .same _, .same _, .same _, .same _, .same _, .nils 1, trivial⟩, .row 2 gc Cc 1 tC 4 _ rfl (Nat.le_refl _), .same _, trivial⟩), by rw [hp], rfl⟩
        have k2 : ¬ o.k = 2 := k2
        rw [if_neg k2] at hp
        repeat(first|refine Sc ?_|refine fun(_:Nat)=>?_)
        refine ⟨fun k3 => ?_, fun k3 => ?_⟩
        · have k3 : o.k = 3 := k3
          rw [if_pos k3] at hp
          repeat(first|refine Sc ?_|refine fun(_:Nat)=>?_)
          refine ACallT.ok (ACall.ret (refKids_spec l x.p (by omega)) ?_)
          repeat(first|refine Sc ?_|refine fun(_:Nat)=>?_)
          refine ⟨fun hk3 => ?_, fun hk3 => ?_⟩
          · have hk3 : 0 < (((kidsF l x.p).map fun y => nameB y.p).length : Int) := hk3
            rw [if_pos (fun e => by rw [e] at hk3; simp at hk3)] at hp
            repeat(first|refine Sc ?_|refine fun(_:Nat)=>?_)
            exact ⟨outR l (.error 43), [], FinOk.keep _ [] (hsub 43) (by decide) rfl, by rw [hp], rfl⟩
          have hk3 : ¬ 0 < (((kidsF l x.p).map fun y => nameB y.p).length : Int) := hk3
          rw [if_neg (fun e => hk3 (by rw [List.length_map]; have := List.length_pos_iff.2 e; omega))] at hp
          repeat(first|refine Sc ?_|refine fun(_:Nat)=>?_)
          have hwo := refWithout_spec l j (by omega)
          rw [erase_del hI.sorted.nodup ej] at hwo
          refine Run.join C_ok (fun env L => ∃ gc Cc, env = [.junk, .junk, .junk, .junk, .junk, .junk, .junk, .junk, rdX (del l x.p), .ptr 0 g9 0, .sl 1 gc Cc 1, .int .i64 0, .junk, .junk, .junk, .junk, .junk, .junk, .junk, .junk, .junk, .junk, .junk, .junk, .junk, .junk, .junk, .junk, .junk, .junk, .junk, .junk, .junk, .junk, .junk, .junk, .junk, .junk, .junk, .junk, .junk, .junk, .junk, .junk, .junk, .junk, .junk, .junk, .junk, .junk, .junk, .junk, .junk, .junk, .junk, .junk, .junk, .junk, .junk, .junk, .junk, .junk, .junk, .junk, .junk, .junk, .junk, .junk, .junk, .junk, .junk, .junk, .junk, .junk, .junk, .junk, .junk, .junk, .junk, .junk, .junk, .junk, .junk, .junk, .junk, .junk, .junk, .junk, .junk, .junk, .junk, .junk, .junk, .junk, .junk, .junk, .junk, .junk, .junk, .junk, .junk, .junk, .junk, .junk, .junk, .junk, .junk, .junk, .junk, .junk, .junk, .junk, .junk, .junk, .junk, .junk, .junk, .junk, .junk, .junk, .junk, .junk, .junk, .junk, .junk, .junk, .junk, .junk, .junk, .junk, .junk, .junk, .junk, .junk, .junk, .junk, .junk, .junk, .junk, .junk] ∧ L = [(g9, .cells tR [.str x.p, .str eS, .int .i64 0, .int .i64 0, .int .i64 0, .int .i64 0, .nils]), (gc, .row tC 4 Cc [encC (goneC x)])]) ?_ ?_
          · refine Run.drawnN C_ok (aopC_sound C_ok) [2] (.pre [0, 1, 3, 4, 5, 6, 7, 8, 9, 10] (.two 2 (.two 11 (.ofL [12, 13, 14, 15]) 12 (.two 11 (.ofL [13, 14, 15]) 13 (.ofL [11, 14, 15]))) 11 (.ofL [2, 12, 13, 14, 15]))) (by kernel_rfl) ?_
            repeat(first|refine Sc ?_|refine fun(_:Nat)=>?_)
            refine OrdN.two ?_ ?_
            · repeat(first|refine Sc ?_|refine fun(_:Nat)=>?_)
              refine ACallT.ok (ACall.ret hwo ?_)
              repeat(first|refine Sc ?_|refine fun(_:Nat)=>?_)
              refine OrdN.two ?_ ?_
              · repeat(first|refine Sc ?_|refine fun(_:Nat)=>?_)
                rename_i gc
                refine ⟨_, _, Weak.sel ?_ [1, 4] (by decide) ?_, gc, 1, rfl, rfl⟩
                · exact Ss
                · exact Sl
              · repeat(first|refine Sc ?_|refine fun(_:Nat)=>?_)
                refine OrdN.two ?_ ?_
                · repeat(first|refine Sc ?_|refine fun(_:Nat)=>?_)
                  rename_i gc
                  refine ⟨_, _, Weak.sel ?_ [1, 4] (by decide) ?_, gc, 1, rfl, rfl⟩
                  · exact Ss
                  · exact Sl
                · repeat(first|refine Sc ?_|refine fun(_:Nat)=>?_)
                  rename_i gc
                  refine ⟨_, _, Weak.sel ?_ [1, 4] (by decide) ?_, gc, 1, rfl, rfl⟩
                  · exact Ss
                  · exact Sl
            · repeat(first|refine Sc ?_|refine fun(_:Nat)=>?_)
              rename_i gc
              refine ACallT.ok (ACall.ret hwo ?_)
              repeat(first|refine Sc ?_|refine fun(_:Nat)=>?_)
              refine ⟨_, _, Weak.sel ?_ [1, 4] (by decide) ?_, gc, 1, rfl, rfl⟩
              · exact Ss
              · exact Sl
          rintro env L ⟨gc, Cc, rfl, rfl⟩
          repeat(first|refine Sc ?_|refine fun(_:Nat)=>?_)
          exact ⟨outR l (.ok (del l x.p, ⟨x.p, eS, 0, 0, 0, 0, []⟩, [goneC x])), [], FinOk.lend (Lend.tuples ⟨.same _, Lend.aggs ⟨.same _, .same _, .same _, .same _, .same _, .same _, .nils 1, trivial⟩, .row 1 gc Cc 1 tC 4 _ rfl (Nat.le_refl _), .same _, trivial⟩), by rw [hp], rfl⟩
        have k3 : ¬ o.k = 3 := k3
        rw [if_neg k3] at hp
        repeat(first|refine Sc ?_|refine fun(_:Nat)=>?_)
        refine ⟨fun k5 => ?_, fun k5 => ?_⟩
        · have k5 : o.k = 5 := k5
          rw [if_pos k5] at hp
          repeat(first|refine Sc ?_|refine fun(_:Nat)=>?_)
          refine Run.drawnA C_ok (aopC_sound C_ok) [3] [3, 4, 5] [0, 2, 1] (by kernel_rfl) (by kernel_rfl) ?_
          repeat(first|refine Sc ?_|refine fun(_:Nat)=>?_)
          exact ⟨outR l (.ok (l, { told x with d := x.d }, [])), [], FinOk.keep _ [] (Sub.tuples ⟨Sub.refl _, Sub.aggs ⟨Sub.refl _, Sub.refl _, Sub.refl _, Sub.refl _, Sub.refl _, Sub.refl _, Sub.nilsRo 1, trivial⟩, Sub.nilsRo 4, Sub.refl _, trivial⟩) (by decide) rfl, by rw [hp], rfl⟩
        have k5 : ¬ o.k = 5 := k5
        rw [if_neg k5] at hp
        repeat(first|refine Sc ?_|refine fun(_:Nat)=>?_)
        refine ⟨fun k7 => ?_, fun k7 => ?_⟩
        · have k7 : o.k = 7 := k7
          rw [if_pos k7] at hp
          repeat(first|refine Sc ?_|refine fun(_:Nat)=>?_)
          refine ACallT.ok (ACall.ret (refKids_spec l x.p (by omega)) ?_)
          repeat(first|refine Sc ?_|refine fun(_:Nat)=>?_)
          refine Run.drawnA C_ok (aopC_sound C_ok) [3] [3, 4, 5] [0, 2, 1] (by kernel_rfl) (by kernel_rfl) ?_
          repeat(first|refine Sc ?_|refine fun(_:Nat)=>?_)
          exact ⟨outR l (.ok (l, { told x with kids := (kidsF l x.p).map fun y => nameB y.p }, [])), [], FinOk.keep _ [] (Sub.tuples ⟨Sub.refl _, Sub.aggs ⟨Sub.refl _, Sub.refl _, Sub.refl _, Sub.refl _, Sub.refl _, Sub.refl _, Sub.refl _, trivial⟩, Sub.nilsRo 4, Sub.refl _, trivial⟩) (by decide) rfl, by rw [hp], rfl⟩
        have k7 : ¬ o.k = 7 := k7
        rw [if_neg k7] at hp
        repeat(first|refine Sc ?_|refine fun(_:Nat)=>?_)
        refine Run.drawnA C_ok (aopC_sound C_ok) [3] [3, 4, 5] [0, 2, 1] (by kernel_rfl) (by kernel_rfl) ?_
        repeat(first|refine Sc ?_|refine fun(_:Nat)=>?_)
        exact ⟨outR l (.ok (l, told x, [])), [], FinOk.keep _ [] (Sub.tuples ⟨Sub.refl _, Sub.aggs ⟨Sub.refl _, Sub.refl _, Sub.refl _, Sub.refl _, Sub.refl _, Sub.refl _, Sub.nilsRo 1, trivial⟩, Sub.nilsRo 4, Sub.refl _, trivial⟩) (by decide) rfl, by rw [hp], rfl⟩
    · have v1 : ¬ o.v ≠ -1 := v1
      rw [if_neg (fun e => v1 e.2.1)] at hp
      repeat(first|refine Sc ?_|refine fun(_:Nat)=>?_)
      refine ACallT.ok (ACall.ret (refShown_spec x) ?_)
      repeat(first|refine Sc ?_|refine fun(_:Nat)=>?_)
      refine ⟨fun k2 => ?_, fun k2 => ?_⟩
      · have k2 : o.k = 2 := k2
        rw [if_pos k2] at hp
        repeat(first|refine Sc ?_|refine fun(_:Nat)=>?_)
        refine ⟨fun hv => ?_, fun hv => ?_⟩
        · have hv : x.v ≥ 2147483647 := hv
          rw [if_pos hv] at hp
          repeat(first|refine Sc ?_|refine fun(_:Nat)=>?_)
          exact ⟨outR l (.error 46), [], FinOk.keep _ [] (hsub 46) (by decide) rfl, by rw [hp], rfl⟩
        have hv : ¬ x.v ≥ 2147483647 := hv
        rw [if_neg hv] at hp
        repeat(first|refine Sc ?_|refine fun(_:Nat)=>?_)
        refine fun r hr => ?_
        obtain rfl : r = x.v + 1 := by
          have := (hI.ok x hx).2.2.1
          rw [hr, IntKind.wrap_i64]; omega
        repeat(first|refine Sc ?_|refine fun(_:Nat)=>?_)
        refine Run.drawnK C_ok (aopC_sound C_ok) [2] [0, 1, 3, 2, 4, 5] (by kernel_rfl) ?_
        repeat(first|refine Sc ?_|refine fun(_:Nat)=>?_)
        have hwo := refWithout_spec l j (by omega)
        rw [erase_del hI.sorted.nodup ej] at hwo
        refine ACallT.ok (ACall.ret hwo ?_)
        repeat(first|refine Sc ?_|refine fun(_:Nat)=>?_)
        have hdl : (del l x.p).length ≤ 64 := Nat.le_trans (List.length_filter_le _ _) hL
        have hxs : x.p.size ≤ 1000 := Nat.le_trans (place_size (hI.ok x hx).1) (by decide)
        have hul : (upd l (⟨x.p, o.d, x.v + 1, x.m, st, x.o, x.k⟩ : Fu)).length = l.length := upd_len _ _
        have hw := refWith_spec (del l x.p) (⟨x.p, o.d, x.v + 1, x.m, st, x.o, x.k⟩ : Fu) (by omega) hxs
        rw [ins_del hI.sorted hx (show (⟨x.p, o.d, x.v + 1, x.m, st, x.o, x.k⟩ : Fu).p = x.p from rfl)] at hw
        refine ACallT.ok (ACall.pure _ hw ?_)
        rintro r L' ⟨gm, Cm, rfl, rfl⟩
        refine ⟨.sl 4 gm Cm (upd l (⟨x.p, o.d, x.v + 1, x.m, st, x.o, x.k⟩ : Fu)).length, Sub.sl _ _ _ _ _, ?_⟩
        repeat(first|refine Sc ?_|refine fun(_:Nat)=>?_)
        refine Run.join C_ok (fun env L => ∃ gc Cc, env = [.junk, .junk, .junk, .junk, .junk, .junk, .junk, .junk, .sl 0 gm Cm (upd l (⟨x.p, o.d, x.v + 1, x.m, st, x.o, x.k⟩ : Fu)).length, .ptr 1 g9 0, .sl 2 gc Cc 1, .int .i64 0, .junk, .junk, .junk, .junk, .junk, .junk, .junk, .junk, .junk, .junk, .junk, .junk, .junk, .junk, .junk, .junk, .junk, .junk, .junk, .junk, .junk, .junk, .junk, .junk, .junk, .junk, .junk, .junk, .junk, .junk, .junk, .junk, .junk, .junk, .junk, .junk, .junk, .junk, .junk, .junk, .junk, .junk, .junk, .junk, .junk, .junk, .junk, .junk, .junk, .junk, .junk, .junk, .junk, .junk, .junk, .junk, .junk, .junk, .junk, .junk, .junk, .junk, .junk, .junk, .junk, .junk, .junk, .junk, .junk, .junk, .junk, .junk, .junk, .junk, .junk, .junk, .junk, .junk, .junk, .junk, .junk, .junk, .junk, .junk, .junk, .junk, .junk, .junk, .junk, .junk, .junk, .junk, .junk, .junk, .junk, .junk, .junk, .junk, .junk, .junk, .junk, .junk, .junk, .junk, .junk, .junk, .junk, .junk, .junk, .junk, .junk, .junk, .junk, .junk, .junk, .junk, .junk, .junk, .junk, .junk, .junk, .junk, .junk, .junk, .junk, .junk, .junk, .junk] ∧ L = [(gm, .row tY 7 Cm ((upd l (⟨x.p, o.d, x.v + 1, x.m, st, x.o, x.k⟩ : Fu)).map encX)), (g9, .cells tR [.str x.p, .str eS, .int .i64 (x.v + 1), .int .i64 x.m, .int .i64 st, .int .i64 x.o, .nils]), (gc, .row tC 4 Cc [encC ⟨2, x.p, o.d, x.v + 1⟩])]) ?_ ?_
        · refine Run.drawnN C_ok (aopC_sound C_ok) [2] (.pre [0, 1, 3, 4, 5, 6, 7, 8, 9] (.two 2 (.two 10 (.ofL [11, 12, 13, 14]) 11 (.two 10 (.ofL [12, 13, 14]) 12 (.ofL [10, 13, 14]))) 10 (.ofL [2, 11, 12, 13, 14]))) (by kernel_rfl) ?_
          repeat(first|refine Sc ?_|refine fun(_:Nat)=>?_)
          refine OrdN.two ?_ ?_
          · repeat(first|refine Sc ?_|refine fun(_:Nat)=>?_)
            refine ACallT.ok (ACall.ret (refShown_spec (⟨x.p, o.d, x.v + 1, x.m, st, x.o, x.k⟩ : Fu)) ?_)
            repeat(first|refine Sc ?_|refine fun(_:Nat)=>?_)
            refine OrdN.two ?_ ?_
            · repeat(first|refine Sc ?_|refine fun(_:Nat)=>?_)
              rename_i gc
              refine ⟨_, _, Weak.sel ?_ [4, 1, 5] (by decide) ?_, gc, 1, rfl, rfl⟩
              · exact Ss
              · exact Sl
            · repeat(first|refine Sc ?_|refine fun(_:Nat)=>?_)
              refine OrdN.two ?_ ?_
              · repeat(first|refine Sc ?_|refine fun(_:Nat)=>?_)
                rename_i gc
                refine ⟨_, _, Weak.sel ?_ [4, 1, 5] (by decide) ?_, gc, 1, rfl, rfl⟩
                · exact Ss
                · exact Sl
              · repeat(first|refine Sc ?_|refine fun(_:Nat)=>?_)
                rename_i gc
                refine ⟨_, _, Weak.sel ?_ [4, 1, 5] (by decide) ?_, gc, 1, rfl, rfl⟩
                · exact Ss
                · exact Sl
          · repeat(first|refine Sc ?_|refine fun(_:Nat)=>?_)
            rename_i gc
            refine ACallT.ok (ACall.ret (refShown_spec (⟨x.p, o.d, x.v + 1, x.m, st, x.o, x.k⟩ : Fu)) ?_)
            repeat(first|refine Sc ?_|refine fun(_:Nat)=>?_)
            refine ⟨_, _, Weak.sel ?_ [4, 1, 5] (by decide) ?_, gc, 1, rfl, rfl⟩
            · exact Ss
            · exact Sl
        rintro env L ⟨gc, Cc, rfl, rfl⟩
        repeat(first|refine Sc ?_|refine fun(_:Nat)=>?_)
        exact ⟨outR l (.ok (upd l (⟨x.p, o.d, x.v + 1, x.m, st, x.o, x.k⟩ : Fu), told (⟨x.p, o.d, x.v + 1, x.m, st, x.o, x.k⟩ : Fu), [⟨2, x.p, o.d, x.v + 1⟩])), [], FinOk.lend (Lend.tuples ⟨.row 0 gm Cm (upd l (⟨x.p, o.d, x.v + 1, x.m, st, x.o, x.k⟩ : Fu)).length tY 7 _ rfl (by simp), Lend.aggs ⟨.same _, .same _, .same _, .same _, .same _, .same _, .nils 1, trivial⟩, .row 2 gc Cc 1 tC 4 _ rfl (Nat.le_refl _), .same _, trivial⟩), by rw [hp], rfl⟩
      have k2 : ¬ o.k = 2 := k2
      rw [if_neg k2] at hp
      repeat(first|refine Sc ?_|refine fun(_:Nat)=>?_)
      refine ⟨fun k3 => ?_, fun k3 => ?_⟩
      · have k3 : o.k = 3 := k3
        rw [if_pos k3] at hp
        repeat(first|refine Sc ?_|refine fun(_:Nat)=>?_)
        refine ACallT.ok (ACall.ret (refKids_spec l x.p (by omega)) ?_)
        repeat(first|refine Sc ?_|refine fun(_:Nat)=>?_)
        refine ⟨fun hk3 => ?_, fun hk3 => ?_⟩
        · have hk3 : 0 < (((kidsF l x.p).map fun y => nameB y.p).length : Int) := hk3
          rw [if_pos (fun e => by rw [e] at hk3; simp at hk3)] at hp
          repeat(first|refine Sc ?_|refine fun(_:Nat)=>?_)
          exact ⟨outR l (.error 43), [], FinOk.keep _ [] (hsub 43) (by decide) rfl, by rw [hp], rfl⟩
        have hk3 : ¬ 0 < (((kidsF l x.p).map fun y => nameB y.p).length : Int) := hk3
        rw [if_neg (fun e => hk3 (by rw [List.length_map]; have := List.length_pos_iff.2 e; omega))] at hp
        repeat(first|refine Sc ?_|refine fun(_:Nat)=>?_)
        have hwo := refWithout_spec l j (by omega)
        rw [erase_del hI.sorted.nodup ej] at hwo
        refine Run.join C_ok (fun env L => ∃ gc Cc, env = [.junk, .junk, .junk, .junk, .junk, .junk, .junk, .junk, rdX (del l x.p), .ptr 0 g9 0, .sl 1 gc Cc 1, .int .i64 0, .junk, .junk, .junk, .junk, .junk, .junk, .junk, .junk, .junk, .junk, .junk, .junk, .junk, .junk, .junk, .junk, .junk, .junk, .junk, .junk, .junk, .junk, .junk, .junk, .junk, .junk, .junk, .junk, .junk, .junk, .junk, .junk, .junk, .junk, .junk, .junk, .junk, .junk, .junk, .junk, .junk, .junk, .junk, .junk, .junk, .junk, .junk, .junk, .junk, .junk, .junk, .junk, .junk, .junk, .junk, .junk, .junk, .junk, .junk, .junk, .junk, .junk, .junk, .junk, .junk, .junk, .junk, .junk, .junk, .junk, .junk, .junk, .junk, .junk, .junk, .junk, .junk, .junk, .junk, .junk, .junk, .junk, .junk, .junk, .junk, .junk, .junk, .junk, .junk, .junk, .junk, .junk, .junk, .junk, .junk, .junk, .junk, .junk, .junk, .junk, .junk, .junk, .junk, .junk, .junk, .junk, .junk, .junk, .junk, .junk, .junk, .junk, .junk, .junk, .junk, .junk, .junk, .junk, .junk, .junk, .junk, .junk, .junk, .junk, .junk, .junk, .junk, .junk] ∧ L = [(g9, .cells tR [.str x.p, .str eS, .int .i64 0, .int .i64 0, .int .i64 0, .int .i64 0, .nils]), (gc, .row tC 4 Cc [encC (goneC x)])]) ?_ ?_
        · refine Run.drawnN C_ok (aopC_sound C_ok) [2] (.pre [0, 1, 3, 4, 5, 6, 7, 8, 9, 10] (.two 2 (.two 11 (.ofL [12, 13, 14, 15]) 12 (.two 11 (.ofL [13, 14, 15]) 13 (.ofL [11, 14, 15]))) 11 (.ofL [2, 12, 13, 14, 15]))) (by kernel_rfl) ?_
          repeat(first|refine Sc ?_|refine fun(_:Nat)=>?_)
          refine OrdN.two ?_ ?_
          · repeat(first|refine Sc ?_|refine fun(_:Nat)=>?_)
            refine ACallT.ok (ACall.ret hwo ?_)
            repeat(first|refine Sc ?_|refine fun(_:Nat)=>?_)
            refine OrdN.two ?_ ?_
            · repeat(first|refine Sc ?_|refine fun(_:Nat)=>?_)
              rename_i gc
              refine ⟨_, _, Weak.sel ?_ [1, 4] (by decide) ?_, gc, 1, rfl, rfl⟩
              · exact Ss
              · exact Sl
            · repeat(first|refine Sc ?_|refine fun(_:Nat)=>?_)
              refine OrdN.two ?_ ?_
              · repeat(first|refine Sc ?_|refine fun(_:Nat)=>?_)
                rename_i gc
                refine ⟨_, _, Weak.sel ?_ [1, 4] (by decide) ?_, gc, 1, rfl, rfl⟩
                · exact Ss
                · exact Sl
              · repeat(first|refine Sc ?_|refine fun(_:Nat)=>?_)
                rename_i gc
                refine ⟨_, _, Weak.sel ?_ [1, 4] (by decide) ?_, gc, 1, rfl, rfl⟩
                · exact Ss
                · exact Sl
          · repeat(first|refine Sc ?_|refine fun(_:Nat)=>?_)
            rename_i gc
            refine ACallT.ok (ACall.ret hwo ?_)
            repeat(first|refine Sc ?_|refine fun(_:Nat)=>?_)
            refine ⟨_, _, Weak.sel ?_ [1, 4] (by decide) ?_, gc, 1, rfl, rfl⟩
            · exact Ss
            · exact Sl
        rintro env L ⟨gc, Cc, rfl, rfl⟩
        repeat(first|refine Sc ?_|refine fun(_:Nat)=>?_)
        exact ⟨outR l (.ok (del l x.p, ⟨x.p, eS, 0, 0, 0, 0, []⟩, [goneC x])), [], FinOk.lend (Lend.tuples ⟨.same _, Lend.aggs ⟨.same _, .same _, .same _, .same _, .same _, .same _, .nils 1, trivial⟩, .row 1 gc Cc 1 tC 4 _ rfl (Nat.le_refl _), .same _, trivial⟩), by rw [hp], rfl⟩
      have k3 : ¬ o.k = 3 := k3
      rw [if_neg k3] at hp
      repeat(first|refine Sc ?_|refine fun(_:Nat)=>?_)
      refine ⟨fun k5 => ?_, fun k5 => ?_⟩
      · have k5 : o.k = 5 := k5
        rw [if_pos k5] at hp
        repeat(first|refine Sc ?_|refine fun(_:Nat)=>?_)
        refine Run.drawnA C_ok (aopC_sound C_ok) [3] [3, 4, 5] [0, 2, 1] (by kernel_rfl) (by kernel_rfl) ?_
        repeat(first|refine Sc ?_|refine fun(_:Nat)=>?_)
        exact ⟨outR l (.ok (l, { told x with d := x.d }, [])), [], FinOk.keep _ [] (Sub.tuples ⟨Sub.refl _, Sub.aggs ⟨Sub.refl _, Sub.refl _, Sub.refl _, Sub.refl _, Sub.refl _, Sub.refl _, Sub.nilsRo 1, trivial⟩, Sub.nilsRo 4, Sub.refl _, trivial⟩) (by decide) rfl, by rw [hp], rfl⟩
      have k5 : ¬ o.k = 5 := k5
      rw [if_neg k5] at hp
      repeat(first|refine Sc ?_|refine fun(_:Nat)=>?_)
      refine ⟨fun k7 => ?_, fun k7 => ?_⟩
      · have k7 : o.k = 7 := k7
        rw [if_pos k7] at hp
        repeat(first|refine Sc ?_|refine fun(_:Nat)=>?_)
        refine ACallT.ok (ACall.ret (refKids_spec l x.p (by omega)) ?_)
        repeat(first|refine Sc ?_|refine fun(_:Nat)=>?_)
        refine Run.drawnA C_ok (aopC_sound C_ok) [3] [3, 4, 5] [0, 2, 1] (by kernel_rfl) (by kernel_rfl) ?_
        repeat(first|refine Sc ?_|refine fun(_:Nat)=>?_)
        exact ⟨outR l (.ok (l, { told x with kids := (kidsF l x.p).map fun y => nameB y.p }, [])), [], FinOk.keep _ [] (Sub.tuples ⟨Sub.refl _, Sub.aggs ⟨Sub.refl _, Sub.refl _, Sub.refl _, Sub.refl _, Sub.refl _, Sub.refl _, Sub.refl _, trivial⟩, Sub.nilsRo 4, Sub.refl _, trivial⟩) (by decide) rfl, by rw [hp], rfl⟩
      have k7 : ¬ o.k = 7 := k7
      rw [if_neg k7] at hp
      repeat(first|refine Sc ?_|refine fun(_:Nat)=>?_)
      refine Run.drawnA C_ok (aopC_sound C_ok) [3] [3, 4, 5] [0, 2, 1] (by kernel_rfl) (by kernel_rfl) ?_
      repeat(first|refine Sc ?_|refine fun(_:Nat)=>?_)
      exact ⟨outR l (.ok (l, told x, [])), [], FinOk.keep _ [] (Sub.tuples ⟨Sub.refl _, Sub.aggs ⟨Sub.refl _, Sub.refl _, Sub.refl _, Sub.refl _, Sub.refl _, Sub.refl _, Sub.nilsRo 1, trivial⟩, Sub.nilsRo 4, Sub.refl _, trivial⟩) (by decide) rfl, by rw [hp], rfl⟩
  · have k4 : ¬ o.k ≤ 4 := k4
    rw [if_neg (fun e => k4 e.1)] at hp
    repeat(first|refine Sc ?_|refine fun(_:Nat)=>?_)
    refine ACallT.ok (ACall.ret (refShown_spec x) ?_)
    repeat(first|refine Sc ?_|refine fun(_:Nat)=>?_)
    refine ⟨fun k2 => ?_, fun k2 => ?_⟩
    · have k2 : o.k = 2 := k2
      exact absurd (show o.k ≤ 4 by omega) k4
    have k2 : ¬ o.k = 2 := k2
    rw [if_neg k2] at hp
    repeat(first|refine Sc ?_|refine fun(_:Nat)=>?_)
    refine ⟨fun k3 => ?_, fun k3 => ?_⟩
    · have k3 : o.k = 3 := k3
      exact absurd (show o.k ≤ 4 by omega) k4
    have k3 : ¬ o.k = 3 := k3
    rw [if_neg k3] at hp
    repeat(first|refine Sc ?_|refine fun(_:Nat)=>?_)
    refine ⟨fun k5 => ?_, fun k5 => ?_⟩
    · have k5 : o.k = 5 := k5
      rw [if_pos k5] at hp
      repeat(first|refine Sc ?_|refine fun(_:Nat)=>?_)
      refine Run.drawnA C_ok (aopC_sound C_ok) [3] [3, 4, 5] [0, 2, 1] (by kernel_rfl) (by kernel_rfl) ?_
      repeat(first|refine Sc ?_|refine fun(_:Nat)=>?_)
      exact ⟨outR l (.ok (l, { told x with d := x.d }, [])), [], FinOk.keep _ [] (Sub.tuples ⟨Sub.refl _, Sub.aggs ⟨Sub.refl _, Sub.refl _, Sub.refl _, Sub.refl _, Sub.refl _, Sub.refl _, Sub.nilsRo 1, trivial⟩, Sub.nilsRo 4, Sub.refl _, trivial⟩) (by decide) rfl, by rw [hp], rfl⟩
    have k5 : ¬ o.k = 5 := k5
    rw [if_neg k5] at hp
    repeat(first|refine Sc ?_|refine fun(_:Nat)=>?_)
    refine ⟨fun k7 => ?_, fun k7 => ?_⟩
    · have k7 : o.k = 7 := k7
      rw [if_pos k7] at hp
      repeat(first|refine Sc ?_|refine fun(_:Nat)=>?_)
      refine ACallT.ok (ACall.ret (refKids_spec l x.p (by omega)) ?_)
      repeat(first|refine Sc ?_|refine fun(_:Nat)=>?_)
      refine Run.drawnA C_ok (aopC_sound C_ok) [3] [3, 4, 5] [0, 2, 1] (by kernel_rfl) (by kernel_rfl) ?_
      repeat(first|refine Sc ?_|refine fun(_:Nat)=>?_)
      exact ⟨outR l (.ok (l, { told x with kids := (kidsF l x.p).map fun y => nameB y.p }, [])), [], FinOk.keep _ [] (Sub.tuples ⟨Sub.refl _, Sub.aggs ⟨Sub.refl _, Sub.refl _, Sub.refl _, Sub.refl _, Sub.refl _, Sub.refl _, Sub.refl _, trivial⟩, Sub.nilsRo 4, Sub.refl _, trivial⟩) (by decide) rfl, by rw [hp], rfl⟩
    have k7 : ¬ o.k = 7 := k7
    rw [if_neg k7] at hp
    repeat(first|refine Sc ?_|refine fun(_:Nat)=>?_)
    refine Run.drawnA C_ok (aopC_sound C_ok) [3] [3, 4, 5] [0, 2, 1] (by kernel_rfl) (by kernel_rfl) ?_
    repeat(first|refine Sc ?_|refine fun(_:Nat)=>?_)
    exact ⟨outR l (.ok (l, told x, [])), [], FinOk.keep _ [] (Sub.tuples ⟨Sub.refl _, Sub.aggs ⟨Sub.refl _, Sub.refl _, Sub.refl _, Sub.refl _, Sub.refl _, Sub.refl _, Sub.nilsRo 1, trivial⟩, Sub.nilsRo 4, Sub.refl _, trivial⟩) (by decide) rfl, by rw [hp], rfl⟩
end Go.Proofs.YtcbjcmigecocgaaGreatDoor.HBT
