/- The contract of the law's helper that compares two folds. -/
import Derived.Test.YtfohedaadncefaaDoorHbG13
import Derived.Test.YtfohedaadncefaaDoorHbD8
import Derived.Test.YtfohedaadncefaaDoorCards
import Derived.Test.YtfohedaadncefaaDoorTie
import Derived.SevenTiedAt
namespace Go.Proofs.YtfohedaadncefaaDoor.HBT
open Go Go.Proofs.YtfohedaadncefaaDoor.HB Go.RowKit
set_option maxRecDepth 20000

theorem foldD_good {kd : Int} {pl : ByteArray} : ∀ (cs : List Ch) {l l' : List Sn}, Good l → foldD kd pl l cs = some l' → Good l'
  | [], l, l', hg, h => by cases h; exact hg
  | c :: cs, l, l', hg, h => by
    rw [foldD_cons] at h
    cases e : stepD kd pl l c with
    | none => rw [e] at h; cases h
    | some l2 => rw [e] at h; exact foldD_good cs (stepD_good hg e) h

theorem alike_true (st : Int) (pl : ByteArray) (kd : Int) (l : List Sn) (hn : l.length ≤ 100) : FnSpec C 20 [shot st pl kd (rdo l l.length), shot st pl kd (rdo l l.length)] [] (fun r L' => r = .bool true ∧ L' = []) := by
  have h := alike_spec st st pl pl kd kd l l l.length l.length (Nat.le_refl _) (Nat.le_refl _) hn
  rwa [decide_eq_true (show alikeP st pl kd (l.take l.length) st pl kd (l.take l.length) from ⟨rfl, rfl, rfl, rfl⟩)] at h

set_option maxHeartbeats 16000000 in
theorem folds_spec (st : Int) (pl : ByteArray) (kd : Int) (xs xs' : List Sn) (n : Nat) (stamp : Int) (cs cs' : List Ch) (m : Nat) (hx : n + 1 ≤ xs.length) (hx' : n ≤ xs'.length) (hn : n ≤ 70) (hc : m + 1 ≤ cs.length) (hc' : m ≤ cs'.length) (hm : m ≤ 80)
    (mx : xs[n]? = some mark) (ex : xs.take n = xs'.take n) (mc : cs[m]? = some otherC) (ec : cs.take m = cs'.take m)
    (px : ∀ x ∈ xs, x.p.size ≤ 9223372036854775807) (px' : ∀ x ∈ xs', x.p.size ≤ 9223372036854775807) (pc' : ∀ c ∈ cs', c.p.size ≤ 9223372036854775807) :
    FnSpec C 23 [shot st pl kd (rdo xs n), shot st pl kd (rdo xs' n), .int .i64 stamp, rdc cs m, rdc cs' m] [] (fun r L' => r = .bool true ∧ L' = []) := by
  have c1 := foldShot_spec st pl kd xs n stamp cs m (by omega) px (by omega) (by omega)
  have c2 := foldRef_spec st pl kd xs' n stamp cs' m hx' hn px' hc' (by omega) pc'
  have hE : checkP st pl kd xs n ↔ refP st pl kd xs' n := by
    rw [check_ref _ _ _ _ _ (by omega)]
    exact ⟨refP_take _ _ _ _ _ _ ex, refP_take _ _ _ _ _ _ ex.symm⟩
  rw [← ex, ← ec] at c2
  have c3 := untouched_spec st st pl pl kd kd xs xs' n n (by omega) hx' (by omega) (by omega) (by omega)
  rw [decide_eq_true (show alikeP st pl kd (xs.take n) st pl kd (xs'.take n) ∧ xs[n]? = some mark from ⟨⟨rfl, rfl, rfl, ex⟩, mx⟩)] at c3
  have c4 := untouchedC_spec cs cs' m hc hc' (by omega) ec mc
  have c5 := alike_true 0 ⟨#[]⟩ 0 [] (by simp)
  refine FnSpec.start C_ok Tryd.func23 rfl rfl Tryd.ntmps23 ?_
  repeat (first | refine Ops.go ?_ | refine And.intro rfl ?_ | refine And.intro (Nat.le_of_ble_eq_true rfl) ?_ | refine And.intro (Int.natCast_nonneg _) ?_ | refine fun (_ : Nat) => ?_ | refine Ord.go ?_ | refine Run.go rfl ?_ | refine Cont.go rfl ?_ | refine OrdP.go ?_)
  refine ACall.pure _ c1 ?_
  rintro r L' (⟨k1, rfl, rfl⟩ | ⟨k1, k2, rfl, rfl⟩ | ⟨k1, k2, k3, rfl, rfl⟩ | ⟨k1, k2, l1, k3, v1, g1, o1, hv1, rfl, rfl⟩)
  · refine ⟨_, Sub.refl _, ?_⟩
    repeat (first | refine Ops.go ?_ | refine And.intro rfl ?_ | refine And.intro (Nat.le_of_ble_eq_true rfl) ?_ | refine And.intro (Int.natCast_nonneg _) ?_ | refine fun (_ : Nat) => ?_ | refine Ord.go ?_ | refine Run.go rfl ?_ | refine Cont.go rfl ?_ | refine OrdP.go ?_)
    refine ACall.pure _ c2 ?_
    rintro r L' (⟨j1, rfl, rfl⟩ | ⟨j1, j2, _⟩ | ⟨j1, j2, j3, _⟩ | ⟨j1, j2, l2, j3, _⟩) <;> try exact absurd (hE.2 j1) k1
    refine ⟨_, Sub.refl _, ?_⟩
    repeat (first | refine Ops.go ?_ | refine And.intro rfl ?_ | refine And.intro (Nat.le_of_ble_eq_true rfl) ?_ | refine And.intro (Int.natCast_nonneg _) ?_ | refine fun (_ : Nat) => ?_ | refine Ord.go ?_ | refine Run.go rfl ?_ | refine Cont.go rfl ?_ | refine OrdP.go ?_)
    refine ACall.ret (num_spec _) ?_
    repeat (first | refine Ops.go ?_ | refine And.intro rfl ?_ | refine And.intro (Nat.le_of_ble_eq_true rfl) ?_ | refine And.intro (Int.natCast_nonneg _) ?_ | refine fun (_ : Nat) => ?_ | refine Ord.go ?_ | refine Run.go rfl ?_ | refine Cont.go rfl ?_ | refine OrdP.go ?_)
    refine ⟨fun _ => ?_, fun h => absurd rfl h⟩
    repeat (first | refine Ops.go ?_ | refine And.intro rfl ?_ | refine And.intro (Nat.le_of_ble_eq_true rfl) ?_ | refine And.intro (Int.natCast_nonneg _) ?_ | refine fun (_ : Nat) => ?_ | refine Ord.go ?_ | refine Run.go rfl ?_ | refine Cont.go rfl ?_ | refine OrdP.go ?_)
    refine ACall.ret_lend (args' := [shot 0 ⟨#[]⟩ 0 (rdo [] 0), shot 0 ⟨#[]⟩ 0 (rdo [] 0)]) (.two (Lend.aggs ⟨.same _, .same _, .same _, .nils 3, trivial⟩) (Lend.aggs ⟨.same _, .same _, .same _, .nils 3, trivial⟩)) c5 rfl ?_
    repeat (first | refine Ops.go ?_ | refine And.intro rfl ?_ | refine And.intro (Nat.le_of_ble_eq_true rfl) ?_ | refine And.intro (Int.natCast_nonneg _) ?_ | refine fun (_ : Nat) => ?_ | refine Ord.go ?_ | refine Run.go rfl ?_ | refine Cont.go rfl ?_ | refine OrdP.go ?_)
    refine ACall.ret c3 ?_
    repeat (first | refine Ops.go ?_ | refine And.intro rfl ?_ | refine And.intro (Nat.le_of_ble_eq_true rfl) ?_ | refine And.intro (Int.natCast_nonneg _) ?_ | refine fun (_ : Nat) => ?_ | refine Ord.go ?_ | refine Run.go rfl ?_ | refine Cont.go rfl ?_ | refine OrdP.go ?_)
    refine ACall.ret c4 ?_
    repeat (first | refine Ops.go ?_ | refine And.intro rfl ?_ | refine And.intro (Nat.le_of_ble_eq_true rfl) ?_ | refine And.intro (Int.natCast_nonneg _) ?_ | refine fun (_ : Nat) => ?_ | refine Ord.go ?_ | refine Run.go rfl ?_ | refine Cont.go rfl ?_ | refine OrdP.go ?_)
    exact ⟨_, [], FinOk.drop _ _, rfl, rfl⟩
  · refine ⟨_, Sub.refl _, ?_⟩
    repeat (first | refine Ops.go ?_ | refine And.intro rfl ?_ | refine And.intro (Nat.le_of_ble_eq_true rfl) ?_ | refine And.intro (Int.natCast_nonneg _) ?_ | refine fun (_ : Nat) => ?_ | refine Ord.go ?_ | refine Run.go rfl ?_ | refine Cont.go rfl ?_ | refine OrdP.go ?_)
    refine ACall.pure _ c2 ?_
    rintro r L' (⟨j1, _⟩ | ⟨j1, j2, rfl, rfl⟩ | ⟨j1, j2, j3, _⟩ | ⟨j1, j2, l2, j3, _⟩) <;> first | exact absurd (hE.1 k1) j1 | exact absurd k2 j2 | skip
    refine ⟨_, Sub.refl _, ?_⟩
    repeat (first | refine Ops.go ?_ | refine And.intro rfl ?_ | refine And.intro (Nat.le_of_ble_eq_true rfl) ?_ | refine And.intro (Int.natCast_nonneg _) ?_ | refine fun (_ : Nat) => ?_ | refine Ord.go ?_ | refine Run.go rfl ?_ | refine Cont.go rfl ?_ | refine OrdP.go ?_)
    refine ACall.ret (num_spec _) ?_
    repeat (first | refine Ops.go ?_ | refine And.intro rfl ?_ | refine And.intro (Nat.le_of_ble_eq_true rfl) ?_ | refine And.intro (Int.natCast_nonneg _) ?_ | refine fun (_ : Nat) => ?_ | refine Ord.go ?_ | refine Run.go rfl ?_ | refine Cont.go rfl ?_ | refine OrdP.go ?_)
    refine ⟨fun _ => ?_, fun h => absurd rfl h⟩
    repeat (first | refine Ops.go ?_ | refine And.intro rfl ?_ | refine And.intro (Nat.le_of_ble_eq_true rfl) ?_ | refine And.intro (Int.natCast_nonneg _) ?_ | refine fun (_ : Nat) => ?_ | refine Ord.go ?_ | refine Run.go rfl ?_ | refine Cont.go rfl ?_ | refine OrdP.go ?_)
    refine ACall.ret_lend (args' := [shot 0 ⟨#[]⟩ 0 (rdo [] 0), shot 0 ⟨#[]⟩ 0 (rdo [] 0)]) (.two (Lend.aggs ⟨.same _, .same _, .same _, .nils 3, trivial⟩) (Lend.aggs ⟨.same _, .same _, .same _, .nils 3, trivial⟩)) c5 rfl ?_
    repeat (first | refine Ops.go ?_ | refine And.intro rfl ?_ | refine And.intro (Nat.le_of_ble_eq_true rfl) ?_ | refine And.intro (Int.natCast_nonneg _) ?_ | refine fun (_ : Nat) => ?_ | refine Ord.go ?_ | refine Run.go rfl ?_ | refine Cont.go rfl ?_ | refine OrdP.go ?_)
    refine ACall.ret c3 ?_
    repeat (first | refine Ops.go ?_ | refine And.intro rfl ?_ | refine And.intro (Nat.le_of_ble_eq_true rfl) ?_ | refine And.intro (Int.natCast_nonneg _) ?_ | refine fun (_ : Nat) => ?_ | refine Ord.go ?_ | refine Run.go rfl ?_ | refine Cont.go rfl ?_ | refine OrdP.go ?_)
    refine ACall.ret c4 ?_
    repeat (first | refine Ops.go ?_ | refine And.intro rfl ?_ | refine And.intro (Nat.le_of_ble_eq_true rfl) ?_ | refine And.intro (Int.natCast_nonneg _) ?_ | refine fun (_ : Nat) => ?_ | refine Ord.go ?_ | refine Run.go rfl ?_ | refine Cont.go rfl ?_ | refine OrdP.go ?_)
    exact ⟨_, [], FinOk.drop _ _, rfl, rfl⟩
  · refine ⟨_, Sub.refl _, ?_⟩
    repeat (first | refine Ops.go ?_ | refine And.intro rfl ?_ | refine And.intro (Nat.le_of_ble_eq_true rfl) ?_ | refine And.intro (Int.natCast_nonneg _) ?_ | refine fun (_ : Nat) => ?_ | refine Ord.go ?_ | refine Run.go rfl ?_ | refine Cont.go rfl ?_ | refine OrdP.go ?_)
    refine ACall.pure _ c2 ?_
    rintro r L' (⟨j1, _⟩ | ⟨j1, j2, _⟩ | ⟨j1, j2, j3, rfl, rfl⟩ | ⟨j1, j2, l2, j3, _⟩) <;> first | exact absurd (hE.1 k1) j1 | exact absurd j2 k2 | exact absurd (k3.symm.trans j3) (Option.some_ne_none _).symm | skip
    refine ⟨_, Sub.refl _, ?_⟩
    repeat (first | refine Ops.go ?_ | refine And.intro rfl ?_ | refine And.intro (Nat.le_of_ble_eq_true rfl) ?_ | refine And.intro (Int.natCast_nonneg _) ?_ | refine fun (_ : Nat) => ?_ | refine Ord.go ?_ | refine Run.go rfl ?_ | refine Cont.go rfl ?_ | refine OrdP.go ?_)
    refine ACall.ret (num_spec _) ?_
    repeat (first | refine Ops.go ?_ | refine And.intro rfl ?_ | refine And.intro (Nat.le_of_ble_eq_true rfl) ?_ | refine And.intro (Int.natCast_nonneg _) ?_ | refine fun (_ : Nat) => ?_ | refine Ord.go ?_ | refine Run.go rfl ?_ | refine Cont.go rfl ?_ | refine OrdP.go ?_)
    refine ⟨fun _ => ?_, fun h => absurd rfl h⟩
    repeat (first | refine Ops.go ?_ | refine And.intro rfl ?_ | refine And.intro (Nat.le_of_ble_eq_true rfl) ?_ | refine And.intro (Int.natCast_nonneg _) ?_ | refine fun (_ : Nat) => ?_ | refine Ord.go ?_ | refine Run.go rfl ?_ | refine Cont.go rfl ?_ | refine OrdP.go ?_)
    refine ACall.ret_lend (args' := [shot 0 ⟨#[]⟩ 0 (rdo [] 0), shot 0 ⟨#[]⟩ 0 (rdo [] 0)]) (.two (Lend.aggs ⟨.same _, .same _, .same _, .nils 3, trivial⟩) (Lend.aggs ⟨.same _, .same _, .same _, .nils 3, trivial⟩)) c5 rfl ?_
    repeat (first | refine Ops.go ?_ | refine And.intro rfl ?_ | refine And.intro (Nat.le_of_ble_eq_true rfl) ?_ | refine And.intro (Int.natCast_nonneg _) ?_ | refine fun (_ : Nat) => ?_ | refine Ord.go ?_ | refine Run.go rfl ?_ | refine Cont.go rfl ?_ | refine OrdP.go ?_)
    refine ACall.ret c3 ?_
    repeat (first | refine Ops.go ?_ | refine And.intro rfl ?_ | refine And.intro (Nat.le_of_ble_eq_true rfl) ?_ | refine And.intro (Int.natCast_nonneg _) ?_ | refine fun (_ : Nat) => ?_ | refine Ord.go ?_ | refine Run.go rfl ?_ | refine Cont.go rfl ?_ | refine OrdP.go ?_)
    refine ACall.ret c4 ?_
    repeat (first | refine Ops.go ?_ | refine And.intro rfl ?_ | refine And.intro (Nat.le_of_ble_eq_true rfl) ?_ | refine And.intro (Int.natCast_nonneg _) ?_ | refine fun (_ : Nat) => ?_ | refine Ord.go ?_ | refine Run.go rfl ?_ | refine Cont.go rfl ?_ | refine OrdP.go ?_)
    exact ⟨_, [], FinOk.drop _ _, rfl, rfl⟩
  · have hl := (foldD_good _ (good_of (by omega) k1) k3).le
    rcases hv1 with ⟨e1, rfl, rfl⟩ | ⟨Cp1, rfl, rfl⟩
    · refine ⟨.tuple [shot stamp pl kd (.nils), .int .i64 0], Sub.refl _, ?_⟩
      repeat (first | refine Ops.go ?_ | refine And.intro rfl ?_ | refine And.intro (Nat.le_of_ble_eq_true rfl) ?_ | refine And.intro (Int.natCast_nonneg _) ?_ | refine fun (_ : Nat) => ?_ | refine Ord.go ?_ | refine Run.go rfl ?_ | refine Cont.go rfl ?_ | refine OrdP.go ?_)
      refine ACall.pure _ c2 ?_
      rintro r L' (⟨j1, _⟩ | ⟨j1, j2, _⟩ | ⟨j1, j2, j3, _⟩ | ⟨j1, j2, l2, j3, v2, g2, o2, hv2, rfl, rfl⟩) <;> first | exact absurd (hE.1 k1) j1 | exact absurd j2 k2 | exact absurd (k3.symm.trans j3) (Option.some_ne_none _) | skip
      obtain rfl : l1 = l2 := Option.some.inj (k3.symm.trans j3)
      rcases hv2 with ⟨e2, rfl, rfl⟩ | ⟨Cp2, rfl, rfl⟩
      · refine ⟨.tuple [shot stamp pl kd (.nils), .int .i64 0], Sub.refl _, ?_⟩
        subst e1
        repeat (first | refine Ops.go ?_ | refine And.intro rfl ?_ | refine And.intro (Nat.le_of_ble_eq_true rfl) ?_ | refine And.intro (Int.natCast_nonneg _) ?_ | refine fun (_ : Nat) => ?_ | refine Ord.go ?_ | refine Run.go rfl ?_ | refine Cont.go rfl ?_ | refine OrdP.go ?_)
        refine ACall.ret (num_spec _) ?_
        repeat (first | refine Ops.go ?_ | refine And.intro rfl ?_ | refine And.intro (Nat.le_of_ble_eq_true rfl) ?_ | refine And.intro (Int.natCast_nonneg _) ?_ | refine fun (_ : Nat) => ?_ | refine Ord.go ?_ | refine Run.go rfl ?_ | refine Cont.go rfl ?_ | refine OrdP.go ?_)
        refine ⟨fun _ => ?_, fun h => absurd rfl h⟩
        repeat (first | refine Ops.go ?_ | refine And.intro rfl ?_ | refine And.intro (Nat.le_of_ble_eq_true rfl) ?_ | refine And.intro (Int.natCast_nonneg _) ?_ | refine fun (_ : Nat) => ?_ | refine Ord.go ?_ | refine Run.go rfl ?_ | refine Cont.go rfl ?_ | refine OrdP.go ?_)
        refine ACall.ret_lend (args' := [shot stamp pl kd (rdo [] ([] : List Sn).length), shot stamp pl kd (rdo [] ([] : List Sn).length)]) (.two (Lend.aggs ⟨.same _, .same _, .same _, .nils 3, trivial⟩) (Lend.aggs ⟨.same _, .same _, .same _, .nils 3, trivial⟩)) (alike_true stamp pl kd [] (by simp)) rfl ?_
        repeat (first | refine Ops.go ?_ | refine And.intro rfl ?_ | refine And.intro (Nat.le_of_ble_eq_true rfl) ?_ | refine And.intro (Int.natCast_nonneg _) ?_ | refine fun (_ : Nat) => ?_ | refine Ord.go ?_ | refine Run.go rfl ?_ | refine Cont.go rfl ?_ | refine OrdP.go ?_)
        refine ACall.ret c3 ?_
        repeat (first | refine Ops.go ?_ | refine And.intro rfl ?_ | refine And.intro (Nat.le_of_ble_eq_true rfl) ?_ | refine And.intro (Int.natCast_nonneg _) ?_ | refine fun (_ : Nat) => ?_ | refine Ord.go ?_ | refine Run.go rfl ?_ | refine Cont.go rfl ?_ | refine OrdP.go ?_)
        refine ACall.ret c4 ?_
        repeat (first | refine Ops.go ?_ | refine And.intro rfl ?_ | refine And.intro (Nat.le_of_ble_eq_true rfl) ?_ | refine And.intro (Int.natCast_nonneg _) ?_ | refine fun (_ : Nat) => ?_ | refine Ord.go ?_ | refine Run.go rfl ?_ | refine Cont.go rfl ?_ | refine OrdP.go ?_)
        exact ⟨_, [], FinOk.drop _ _, rfl, rfl⟩
      · refine ⟨.tuple [shot stamp pl kd (.sl 4 g2 Cp2 l1.length), .int .i64 0], Sub.tuples ⟨Sub.aggs ⟨Sub.refl _, Sub.refl _, Sub.refl _, Sub.sl _ _ _ _ _, trivial⟩, Sub.refl _, trivial⟩, ?_⟩
        subst e1
        repeat (first | refine Ops.go ?_ | refine And.intro rfl ?_ | refine And.intro (Nat.le_of_ble_eq_true rfl) ?_ | refine And.intro (Int.natCast_nonneg _) ?_ | refine fun (_ : Nat) => ?_ | refine Ord.go ?_ | refine Run.go rfl ?_ | refine Cont.go rfl ?_ | refine OrdP.go ?_)
        refine ACall.ret (num_spec _) ?_
        repeat (first | refine Ops.go ?_ | refine And.intro rfl ?_ | refine And.intro (Nat.le_of_ble_eq_true rfl) ?_ | refine And.intro (Int.natCast_nonneg _) ?_ | refine fun (_ : Nat) => ?_ | refine Ord.go ?_ | refine Run.go rfl ?_ | refine Cont.go rfl ?_ | refine OrdP.go ?_)
        refine ⟨fun _ => ?_, fun h => absurd rfl h⟩
        repeat (first | refine Ops.go ?_ | refine And.intro rfl ?_ | refine And.intro (Nat.le_of_ble_eq_true rfl) ?_ | refine And.intro (Int.natCast_nonneg _) ?_ | refine fun (_ : Nat) => ?_ | refine Ord.go ?_ | refine Run.go rfl ?_ | refine Cont.go rfl ?_ | refine OrdP.go ?_)
        refine ACall.ret_lend (args' := [shot stamp pl kd (rdo [] ([] : List Sn).length), shot stamp pl kd (rdo [] ([] : List Sn).length)]) (.two (Lend.aggs ⟨.same _, .same _, .same _, .nils 3, trivial⟩) (Lend.aggs ⟨.same _, .same _, .same _, .row _ _ _ _ _ _ _ rfl (by rw [List.length_map]; exact Nat.le_refl _), trivial⟩)) (alike_true stamp pl kd [] (by simp)) rfl ?_
        repeat (first | refine Ops.go ?_ | refine And.intro rfl ?_ | refine And.intro (Nat.le_of_ble_eq_true rfl) ?_ | refine And.intro (Int.natCast_nonneg _) ?_ | refine fun (_ : Nat) => ?_ | refine Ord.go ?_ | refine Run.go rfl ?_ | refine Cont.go rfl ?_ | refine OrdP.go ?_)
        refine ACall.ret c3 ?_
        repeat (first | refine Ops.go ?_ | refine And.intro rfl ?_ | refine And.intro (Nat.le_of_ble_eq_true rfl) ?_ | refine And.intro (Int.natCast_nonneg _) ?_ | refine fun (_ : Nat) => ?_ | refine Ord.go ?_ | refine Run.go rfl ?_ | refine Cont.go rfl ?_ | refine OrdP.go ?_)
        refine ACall.ret c4 ?_
        repeat (first | refine Ops.go ?_ | refine And.intro rfl ?_ | refine And.intro (Nat.le_of_ble_eq_true rfl) ?_ | refine And.intro (Int.natCast_nonneg _) ?_ | refine fun (_ : Nat) => ?_ | refine Ord.go ?_ | refine Run.go rfl ?_ | refine Cont.go rfl ?_ | refine OrdP.go ?_)
        exact ⟨_, [], FinOk.drop _ _, rfl, rfl⟩
    · refine ⟨.tuple [shot stamp pl kd (.sl 2 g1 Cp1 l1.length), .int .i64 0], Sub.tuples ⟨Sub.aggs ⟨Sub.refl _, Sub.refl _, Sub.refl _, Sub.sl _ _ _ _ _, trivial⟩, Sub.refl _, trivial⟩, ?_⟩
      repeat (first | refine Ops.go ?_ | refine And.intro rfl ?_ | refine And.intro (Nat.le_of_ble_eq_true rfl) ?_ | refine And.intro (Int.natCast_nonneg _) ?_ | refine fun (_ : Nat) => ?_ | refine Ord.go ?_ | refine Run.go rfl ?_ | refine Cont.go rfl ?_ | refine OrdP.go ?_)
      refine ACall.pure _ c2 ?_
      rintro r L' (⟨j1, _⟩ | ⟨j1, j2, _⟩ | ⟨j1, j2, j3, _⟩ | ⟨j1, j2, l2, j3, v2, g2, o2, hv2, rfl, rfl⟩) <;> first | exact absurd (hE.1 k1) j1 | exact absurd j2 k2 | exact absurd (k3.symm.trans j3) (Option.some_ne_none _) | skip
      obtain rfl : l1 = l2 := Option.some.inj (k3.symm.trans j3)
      rcases hv2 with ⟨e2, rfl, rfl⟩ | ⟨Cp2, rfl, rfl⟩
      · refine ⟨.tuple [shot stamp pl kd (.nils), .int .i64 0], Sub.refl _, ?_⟩
        subst e2
        repeat (first | refine Ops.go ?_ | refine And.intro rfl ?_ | refine And.intro (Nat.le_of_ble_eq_true rfl) ?_ | refine And.intro (Int.natCast_nonneg _) ?_ | refine fun (_ : Nat) => ?_ | refine Ord.go ?_ | refine Run.go rfl ?_ | refine Cont.go rfl ?_ | refine OrdP.go ?_)
        refine ACall.ret (num_spec _) ?_
        repeat (first | refine Ops.go ?_ | refine And.intro rfl ?_ | refine And.intro (Nat.le_of_ble_eq_true rfl) ?_ | refine And.intro (Int.natCast_nonneg _) ?_ | refine fun (_ : Nat) => ?_ | refine Ord.go ?_ | refine Run.go rfl ?_ | refine Cont.go rfl ?_ | refine OrdP.go ?_)
        refine ⟨fun _ => ?_, fun h => absurd rfl h⟩
        repeat (first | refine Ops.go ?_ | refine And.intro rfl ?_ | refine And.intro (Nat.le_of_ble_eq_true rfl) ?_ | refine And.intro (Int.natCast_nonneg _) ?_ | refine fun (_ : Nat) => ?_ | refine Ord.go ?_ | refine Run.go rfl ?_ | refine Cont.go rfl ?_ | refine OrdP.go ?_)
        refine ACall.ret_lend (args' := [shot stamp pl kd (rdo [] ([] : List Sn).length), shot stamp pl kd (rdo [] ([] : List Sn).length)]) (.two (Lend.aggs ⟨.same _, .same _, .same _, .row _ _ _ _ _ _ _ rfl (by rw [List.length_map]; exact Nat.le_refl _), trivial⟩) (Lend.aggs ⟨.same _, .same _, .same _, .nils 3, trivial⟩)) (alike_true stamp pl kd [] (by simp)) rfl ?_
        repeat (first | refine Ops.go ?_ | refine And.intro rfl ?_ | refine And.intro (Nat.le_of_ble_eq_true rfl) ?_ | refine And.intro (Int.natCast_nonneg _) ?_ | refine fun (_ : Nat) => ?_ | refine Ord.go ?_ | refine Run.go rfl ?_ | refine Cont.go rfl ?_ | refine OrdP.go ?_)
        refine ACall.ret c3 ?_
        repeat (first | refine Ops.go ?_ | refine And.intro rfl ?_ | refine And.intro (Nat.le_of_ble_eq_true rfl) ?_ | refine And.intro (Int.natCast_nonneg _) ?_ | refine fun (_ : Nat) => ?_ | refine Ord.go ?_ | refine Run.go rfl ?_ | refine Cont.go rfl ?_ | refine OrdP.go ?_)
        refine ACall.ret c4 ?_
        repeat (first | refine Ops.go ?_ | refine And.intro rfl ?_ | refine And.intro (Nat.le_of_ble_eq_true rfl) ?_ | refine And.intro (Int.natCast_nonneg _) ?_ | refine fun (_ : Nat) => ?_ | refine Ord.go ?_ | refine Run.go rfl ?_ | refine Cont.go rfl ?_ | refine OrdP.go ?_)
        exact ⟨_, [], FinOk.drop _ _, rfl, rfl⟩
      · refine ⟨.tuple [shot stamp pl kd (.sl 4 g2 Cp2 l1.length), .int .i64 0], Sub.tuples ⟨Sub.aggs ⟨Sub.refl _, Sub.refl _, Sub.refl _, Sub.sl _ _ _ _ _, trivial⟩, Sub.refl _, trivial⟩, ?_⟩
        repeat (first | refine Ops.go ?_ | refine And.intro rfl ?_ | refine And.intro (Nat.le_of_ble_eq_true rfl) ?_ | refine And.intro (Int.natCast_nonneg _) ?_ | refine fun (_ : Nat) => ?_ | refine Ord.go ?_ | refine Run.go rfl ?_ | refine Cont.go rfl ?_ | refine OrdP.go ?_)
        refine ACall.ret (num_spec _) ?_
        repeat (first | refine Ops.go ?_ | refine And.intro rfl ?_ | refine And.intro (Nat.le_of_ble_eq_true rfl) ?_ | refine And.intro (Int.natCast_nonneg _) ?_ | refine fun (_ : Nat) => ?_ | refine Ord.go ?_ | refine Run.go rfl ?_ | refine Cont.go rfl ?_ | refine OrdP.go ?_)
        refine ⟨fun _ => ?_, fun h => absurd rfl h⟩
        repeat (first | refine Ops.go ?_ | refine And.intro rfl ?_ | refine And.intro (Nat.le_of_ble_eq_true rfl) ?_ | refine And.intro (Int.natCast_nonneg _) ?_ | refine fun (_ : Nat) => ?_ | refine Ord.go ?_ | refine Run.go rfl ?_ | refine Cont.go rfl ?_ | refine OrdP.go ?_)
        refine ACall.ret_lend (args' := [shot stamp pl kd (rdo l1 (l1 : List Sn).length), shot stamp pl kd (rdo l1 (l1 : List Sn).length)]) (.two (Lend.aggs ⟨.same _, .same _, .same _, .row _ _ _ _ _ _ _ rfl (by rw [List.length_map]; exact Nat.le_refl _), trivial⟩) (Lend.aggs ⟨.same _, .same _, .same _, .row _ _ _ _ _ _ _ rfl (by rw [List.length_map]; exact Nat.le_refl _), trivial⟩)) (alike_true stamp pl kd l1 (by omega)) rfl ?_
        repeat (first | refine Ops.go ?_ | refine And.intro rfl ?_ | refine And.intro (Nat.le_of_ble_eq_true rfl) ?_ | refine And.intro (Int.natCast_nonneg _) ?_ | refine fun (_ : Nat) => ?_ | refine Ord.go ?_ | refine Run.go rfl ?_ | refine Cont.go rfl ?_ | refine OrdP.go ?_)
        refine ACall.ret c3 ?_
        repeat (first | refine Ops.go ?_ | refine And.intro rfl ?_ | refine And.intro (Nat.le_of_ble_eq_true rfl) ?_ | refine And.intro (Int.natCast_nonneg _) ?_ | refine fun (_ : Nat) => ?_ | refine Ord.go ?_ | refine Run.go rfl ?_ | refine Cont.go rfl ?_ | refine OrdP.go ?_)
        refine ACall.ret c4 ?_
        repeat (first | refine Ops.go ?_ | refine And.intro rfl ?_ | refine And.intro (Nat.le_of_ble_eq_true rfl) ?_ | refine And.intro (Int.natCast_nonneg _) ?_ | refine fun (_ : Nat) => ?_ | refine Ord.go ?_ | refine Run.go rfl ?_ | refine Cont.go rfl ?_ | refine OrdP.go ?_)
        exact ⟨_, [], FinOk.drop _ _, rfl, rfl⟩
end Go.Proofs.YtfohedaadncefaaDoor.HBT
/- The contract of the law ShotFolds. -/
namespace Go.Proofs.YtfohedaadncefaaDoor.HBT
open Go Go.Proofs.YtfohedaadncefaaDoor.HB Go.RowKit
set_option maxRecDepth 30000

theorem Sub.nils_ro (sz : Nat) : Sub .nils (.ro sz [] 0) := fun imm w v hv => by
  cases hv
  exact .ro sz [] 0 none 0 [] (Nat.le_refl _) (by simp) (by simp) rfl (fun h => absurd h (Nat.lt_irrefl _)) (by simp) (by simp)
theorem Lends.five {L : AHeap} {x x' y y' z z' u u' v v' : AV} (h : Lend L x x') (k : Lend L y y') (l : Lend L z z') (m : Lend L u u') (n : Lend L v v') : Lends L [x, y, z, u, v] [x', y', z', u', v'] := ⟨h, k, l, m, n, trivial⟩

set_option maxHeartbeats 16000000 in
theorem lawFolds_spec (st : Int) (pl : ByteArray) (kd : Int) (xs : List Sn) (n : Nat) (stamp : Int) (cs : List Ch) (m : Nat) (hx : n ≤ xs.length) (hc : m ≤ cs.length) (px : ∀ x ∈ xs, x.p.size ≤ 9223372036854775807) (pc : ∀ c ∈ cs, c.p.size ≤ 9223372036854775807) :
    FnSpec C 7 [shot st pl kd (rdo xs n), .int .i64 stamp, rdc cs m] [] (fun r L' => r = .bool true ∧ L' = []) := by
  refine FnSpec.start C_ok Tryd.func7 rfl rfl Tryd.ntmps7 ?_
  repeat (first | refine Ops.go ?_ | refine And.intro rfl ?_ | refine And.intro (Nat.le_of_ble_eq_true rfl) ?_ | refine And.intro (Int.natCast_nonneg _) ?_ | refine fun (_ : Nat) => ?_ | refine Ord.go ?_ | refine Run.go rfl ?_ | refine Cont.go rfl ?_ | refine OrdP.go ?_)
  have s1 := small_spec st pl kd xs n
  by_cases hn : n ≤ 70
  case neg =>
    simp only [hn, decide_false] at s1
    refine ACall.ret s1 ?_
    repeat (first | refine Ops.go ?_ | refine And.intro rfl ?_ | refine And.intro (Nat.le_of_ble_eq_true rfl) ?_ | refine And.intro (Int.natCast_nonneg _) ?_ | refine fun (_ : Nat) => ?_ | refine Ord.go ?_ | refine Run.go rfl ?_ | refine Cont.go rfl ?_ | refine OrdP.go ?_)
    exact ⟨_, [], FinOk.drop _ _, rfl, rfl⟩
  simp only [hn, decide_true] at s1
  refine ACall.ret s1 ?_
  repeat (first | refine Ops.go ?_ | refine And.intro rfl ?_ | refine And.intro (Nat.le_of_ble_eq_true rfl) ?_ | refine And.intro (Int.natCast_nonneg _) ?_ | refine fun (_ : Nat) => ?_ | refine Ord.go ?_ | refine Run.go rfl ?_ | refine Cont.go rfl ?_ | refine OrdP.go ?_)
  refine ⟨fun h => ?_, fun h => ?_⟩
  · repeat (first | refine Ops.go ?_ | refine And.intro rfl ?_ | refine And.intro (Nat.le_of_ble_eq_true rfl) ?_ | refine And.intro (Int.natCast_nonneg _) ?_ | refine fun (_ : Nat) => ?_ | refine Ord.go ?_ | refine Run.go rfl ?_ | refine Cont.go rfl ?_ | refine OrdP.go ?_)
    exact ⟨_, [], FinOk.drop _ _, rfl, rfl⟩
  have h : ¬ (80 : Int) < (m : Int) := h
  have hm : m ≤ 80 := by omega
  have hxl : (xs.take n).length = n := by simp; omega
  have hcl : (cs.take m).length = m := by simp; omega
  have tx : (xs.take n ++ [mark]).take n = xs.take n := by rw [List.take_append_of_le_length (by omega), List.take_take, Nat.min_self]
  have tc : (cs.take m ++ [otherC]).take m = cs.take m := by rw [List.take_append_of_le_length (by omega), List.take_take, Nat.min_self]
  have markAt : (xs.take n ++ [mark])[n]? = some mark := by conv => lhs; rw [← hxl]; simp
  have othAt : (cs.take m ++ [otherC])[m]? = some otherC := by conv => lhs; rw [← hcl]; simp
  have xl : n + 1 ≤ (xs.take n ++ [mark]).length := by simp; omega
  have cl : m + 1 ≤ (cs.take m ++ [otherC]).length := by simp; omega
  have pxm : ∀ x ∈ xs.take n ++ [mark], x.p.size ≤ 9223372036854775807 := fun x hx => by
    rcases List.mem_append.1 hx with hx | hx
    · exact px x (List.mem_of_mem_take hx)
    · obtain rfl : x = mark := by simpa using hx
      decide
  have pcm : ∀ c ∈ cs.take m ++ [otherC], c.p.size ≤ 9223372036854775807 := fun c hc => by
    rcases List.mem_append.1 hc with hc | hc
    · exact pc c (List.mem_of_mem_take hc)
    · obtain rfl : c = otherC := by simpa using hc
      decide
  repeat (first | refine Ops.go ?_ | refine And.intro rfl ?_ | refine And.intro (Nat.le_of_ble_eq_true rfl) ?_ | refine And.intro (Int.natCast_nonneg _) ?_ | refine fun (_ : Nat) => ?_ | refine Ord.go ?_ | refine Run.go rfl ?_ | refine Cont.go rfl ?_ | refine OrdP.go ?_)
  refine ACall.pure _ (roomy_spec st pl kd xs n hn hx) ?_
  rintro r L' ⟨gc, Cc, rfl, rfl⟩
  refine ⟨shot st pl kd (.sl 1 gc Cc n), Sub.aggs (.four (.refl _) (.refl _) (.refl _) (.sl _ _ _ _ _)), ?_⟩
  repeat (first | refine Ops.go ?_ | refine And.intro rfl ?_ | refine And.intro (Nat.le_of_ble_eq_true rfl) ?_ | refine And.intro (Int.natCast_nonneg _) ?_ | refine fun (_ : Nat) => ?_ | refine Ord.go ?_ | refine Run.go rfl ?_ | refine Cont.go rfl ?_ | refine OrdP.go ?_)
  refine ACall.pure _ (roomyC_spec cs m hm hc) ?_
  rintro r L' ⟨gl, Cl, rfl, rfl⟩
  refine ⟨.sl 3 gl Cl m, Sub.sl _ _ _ _ _, ?_⟩
  have lc : ∀ (ws : List Sn) (K : Nat) (L : AHeap), n + 1 ≤ ws.length → L[K]? = some (gc, .row 50 3 Cc (ws.map enc)) → Lend L (shot st pl kd (.sl K gc Cc n)) (shot st pl kd (rdo ws n)) := fun ws K L hw h =>
    Lend.aggs ⟨.same _, .same _, .same _, .row _ _ _ _ _ _ _ h (by simp; omega), trivial⟩
  have ll : ∀ (ws : List Ch) (K : Nat) (L : AHeap), m + 1 ≤ ws.length → L[K]? = some (gl, .row 69 4 Cl (ws.map encC)) → Lend L (.sl K gl Cl m) (rdc ws m) := fun ws K L hw h =>
    .row _ _ _ _ _ _ _ h (by simp; omega)
  have nx : ∀ (L : AHeap), Lend L (shot st pl kd .nils) (shot st pl kd (rdo [] 0)) := fun L => Lend.aggs ⟨.same _, .same _, .same _, .nils 3, trivial⟩
  have lx : ∀ (ws : List Sn) (K g Cp : Nat) (L : AHeap), n ≤ ws.length → L[K]? = some (g, .row 50 3 Cp ((ws.take n).map enc)) → Lend L (shot st pl kd (.sl K g Cp n)) (shot st pl kd (rdo (ws.take n) n)) := fun ws K g Cp L hw h =>
    Lend.aggs ⟨.same _, .same _, .same _, .row _ _ _ _ _ _ _ h (by simp; omega), trivial⟩
  have tt : ∀ (ws : List Sn), ws.take n = (ws.take n).take n := fun ws => by rw [List.take_take, Nat.min_self]
  have ttc : ∀ (ws : List Ch), ws.take m = (ws.take m).take m := fun ws => by rw [List.take_take, Nat.min_self]
  have behind : ∀ (ws : List Sn), ws.length = (xs.take n ++ [mark]).length → ws.drop n = (xs.take n ++ [mark]).drop n → n + 1 ≤ ws.length ∧ ws[n]? = some mark := fun ws hl hd => by
    refine ⟨by rw [hl]; exact xl, ?_⟩
    have h1 : (ws.drop n)[0]? = ((xs.take n ++ [mark]).drop n)[0]? := by rw [hd]
    rw [List.getElem?_drop, List.getElem?_drop, Nat.add_zero, markAt] at h1
    exact h1
  have behindC : ∀ (ws : List Ch), ws.length = (cs.take m ++ [otherC]).length → ws.drop m = (cs.take m ++ [otherC]).drop m → m + 1 ≤ ws.length ∧ ws[m]? = some otherC := fun ws hl hd => by
    refine ⟨by rw [hl]; exact cl, ?_⟩
    have h1 : (ws.drop m)[0]? = ((cs.take m ++ [otherC]).drop m)[0]? := by rw [hd]
    rw [List.getElem?_drop, List.getElem?_drop, Nat.add_zero, othAt] at h1
    exact h1
  have kf := foldShot_spec 0 ⟨#[47, 97]⟩ 1 [] 0 7 [] 0 (Nat.le_refl _) (by simp) (Nat.le_refl _) (by omega)
  have kok : checkP 0 ⟨#[47, 97]⟩ 1 [] 0 := ⟨by omega, by decide +kernel, .inl rfl, by omega, by decide, fun _ _ h => absurd h (Nat.not_lt_zero _)⟩
  repeat (first | refine Ops.go ?_ | refine And.intro rfl ?_ | refine And.intro (Nat.le_of_ble_eq_true rfl) ?_ | refine And.intro (Int.natCast_nonneg _) ?_ | refine fun (_ : Nat) => ?_ | refine Ord.go ?_ | refine Run.go rfl ?_ | refine Cont.go rfl ?_ | refine OrdP.go ?_)
  refine ACall.ret_lend (Lends.five (lc _ _ _ xl rfl) (.same _) (.same _) (ll _ _ _ cl rfl) (.same _)) (folds_spec st pl kd _ xs n stamp _ cs m xl hx hn cl hc hm markAt tx othAt tc pxm px pc) rfl ?_
  repeat (first | refine Ops.go ?_ | refine And.intro rfl ?_ | refine And.intro (Nat.le_of_ble_eq_true rfl) ?_ | refine And.intro (Int.natCast_nonneg _) ?_ | refine fun (_ : Nat) => ?_ | refine Ord.go ?_ | refine Run.go rfl ?_ | refine Cont.go rfl ?_ | refine OrdP.go ?_)
  refine ACall.sel [3] (by decide) [.sl 0 gl Cl m] _ (.one (.sl _ _ _ _ _)) (turnedC_spec (fun p => p.size ≤ 9223372036854775807) gl Cl (cs.take m ++ [otherC]) m (by omega) hm pcm) ?_
  rintro r L' ⟨ds, hdl, hdd, pd, hcase⟩
  obtain ⟨d1, d2⟩ := behindC ds hdl hdd
  rcases hcase with ⟨hm0, rfl, rfl⟩ | ⟨hm0, gm, Cm, rfl, rfl⟩
  · refine ⟨_, .refl _, ?_⟩
    subst hm0
    repeat (first | refine Ops.go ?_ | refine And.intro rfl ?_ | refine And.intro (Nat.le_of_ble_eq_true rfl) ?_ | refine And.intro (Int.natCast_nonneg _) ?_ | refine fun (_ : Nat) => ?_ | refine Ord.go ?_ | refine Run.go rfl ?_ | refine Cont.go rfl ?_ | refine OrdP.go ?_)
    refine Run.drawnP [0, 2] [0, 1, 2, 3, 4, 5, 6, 7, 8, 9, 11, 12, 13, 10, 14, 15, 16] (by kernel_rfl) ?_
    repeat (first | refine Ops.go ?_ | refine And.intro rfl ?_ | refine And.intro (Nat.le_of_ble_eq_true rfl) ?_ | refine And.intro (Int.natCast_nonneg _) ?_ | refine fun (_ : Nat) => ?_ | refine Ord.go ?_ | refine Run.go rfl ?_ | refine Cont.go rfl ?_ | refine OrdP.go ?_)
    refine ACallP.ret_lend (Lends.five (lc _ _ _ xl rfl) (.same _) (.same _) (ll _ _ _ d1 rfl) (.nils 4)) (folds_spec st pl kd _ xs n stamp ds [] 0 xl hx hn d1 (Nat.le_refl _) hm markAt tx d2 rfl pxm px (by simp)) rfl ?_
    repeat (first | refine Ops.go ?_ | refine And.intro rfl ?_ | refine And.intro (Nat.le_of_ble_eq_true rfl) ?_ | refine And.intro (Int.natCast_nonneg _) ?_ | refine fun (_ : Nat) => ?_ | refine Ord.go ?_ | refine Run.go rfl ?_ | refine Cont.go rfl ?_ | refine OrdP.go ?_)
    refine ACallP.sel [1] (by decide) rfl [shot st pl kd (.sl 0 gc Cc n), .int .i64 0] _ (.two (Sub.aggs (.four (.refl _) (.refl _) (.refl _) (.sl _ _ _ _ _))) (.refl _)) (turned_spec 0 (fun p => p.size ≤ 9223372036854775807) st pl kd gc Cc (xs.take n ++ [mark]) n (by omega) hn pxm) ?_
    rintro r L' ⟨ws, hwl, hwd, pw, hcase⟩
    obtain ⟨b1, b2⟩ := behind ws hwl hwd
    have wtl : (ws.take n).length = n := by simp; omega
    rcases hcase with ⟨hn0, rfl, rfl⟩ | ⟨hn0, gx, Cx, rfl, rfl⟩
    · refine ⟨_, .refl _, ?_⟩
      subst hn0
      repeat (first | refine Ops.go ?_ | refine And.intro rfl ?_ | refine And.intro (Nat.le_of_ble_eq_true rfl) ?_ | refine And.intro (Int.natCast_nonneg _) ?_ | refine fun (_ : Nat) => ?_ | refine Ord.go ?_ | refine Run.go rfl ?_ | refine Cont.go rfl ?_ | refine OrdP.go ?_)
      refine ACallP.ret_lend (Lends.five (lc _ _ _ b1 rfl) (nx _) (.same _) (ll _ _ _ d1 rfl) (.nils 4)) (folds_spec st pl kd ws [] 0 stamp ds [] 0 b1 (Nat.le_refl _) (by omega) d1 (Nat.le_refl _) hm b2 rfl d2 rfl pw (by simp) (by simp)) rfl ?_
      repeat (first | refine Ops.go ?_ | refine And.intro rfl ?_ | refine And.intro (Nat.le_of_ble_eq_true rfl) ?_ | refine And.intro (Int.natCast_nonneg _) ?_ | refine fun (_ : Nat) => ?_ | refine Ord.go ?_ | refine Run.go rfl ?_ | refine Cont.go rfl ?_ | refine OrdP.go ?_)
      refine ACall.sel [] (by decide) [shot 0 ⟨#[47, 97]⟩ 1 (rdo [] 0), .int .i64 7, rdc [] 0] _ (.three (Sub.aggs (.four (.refl _) (.refl _) (.refl _) (Sub.nils_ro 3))) (.refl _) (Sub.nils_ro 4)) kf ?_
      rintro r L' (⟨j1, _⟩ | ⟨_, j2, _⟩ | ⟨_, _, j3, _⟩ | ⟨_, _, l', j3, v, g, o, hv, rfl, rfl⟩)
      · exact absurd kok j1
      · exact absurd j2 (by omega)
      · cases j3
      rcases hv with ⟨_, rfl, rfl⟩ | ⟨Cp, rfl, rfl⟩
      · refine ⟨_, .refl _, ?_⟩
        repeat (first | refine Ops.go ?_ | refine And.intro rfl ?_ | refine And.intro (Nat.le_of_ble_eq_true rfl) ?_ | refine And.intro (Int.natCast_nonneg _) ?_ | refine fun (_ : Nat) => ?_ | refine Ord.go ?_ | refine Run.go rfl ?_ | refine Cont.go rfl ?_ | refine OrdP.go ?_)
        refine ⟨fun _ => ?_, fun h => absurd rfl h⟩
        repeat (first | refine Ops.go ?_ | refine And.intro rfl ?_ | refine And.intro (Nat.le_of_ble_eq_true rfl) ?_ | refine And.intro (Int.natCast_nonneg _) ?_ | refine fun (_ : Nat) => ?_ | refine Ord.go ?_ | refine Run.go rfl ?_ | refine Cont.go rfl ?_ | refine OrdP.go ?_)
        refine ⟨fun _ => ?_, fun h => absurd rfl h⟩
        repeat (first | refine Ops.go ?_ | refine And.intro rfl ?_ | refine And.intro (Nat.le_of_ble_eq_true rfl) ?_ | refine And.intro (Int.natCast_nonneg _) ?_ | refine fun (_ : Nat) => ?_ | refine Ord.go ?_ | refine Run.go rfl ?_ | refine Cont.go rfl ?_ | refine OrdP.go ?_)
        exact ⟨_, [], FinOk.drop _ _, rfl, rfl⟩
      · refine ⟨.tuple [shot 7 ⟨#[47, 97]⟩ 1 (.sl 4 g Cp l'.length), .int .i64 0], Sub.tuples ⟨Sub.aggs (.four (.refl _) (.refl _) (.refl _) (.sl _ _ _ _ _)), .refl _, trivial⟩, ?_⟩
        repeat (first | refine Ops.go ?_ | refine And.intro rfl ?_ | refine And.intro (Nat.le_of_ble_eq_true rfl) ?_ | refine And.intro (Int.natCast_nonneg _) ?_ | refine fun (_ : Nat) => ?_ | refine Ord.go ?_ | refine Run.go rfl ?_ | refine Cont.go rfl ?_ | refine OrdP.go ?_)
        refine ⟨fun _ => ?_, fun h => absurd rfl h⟩
        repeat (first | refine Ops.go ?_ | refine And.intro rfl ?_ | refine And.intro (Nat.le_of_ble_eq_true rfl) ?_ | refine And.intro (Int.natCast_nonneg _) ?_ | refine fun (_ : Nat) => ?_ | refine Ord.go ?_ | refine Run.go rfl ?_ | refine Cont.go rfl ?_ | refine OrdP.go ?_)
        refine ⟨fun _ => ?_, fun h => absurd rfl h⟩
        repeat (first | refine Ops.go ?_ | refine And.intro rfl ?_ | refine And.intro (Nat.le_of_ble_eq_true rfl) ?_ | refine And.intro (Int.natCast_nonneg _) ?_ | refine fun (_ : Nat) => ?_ | refine Ord.go ?_ | refine Run.go rfl ?_ | refine Cont.go rfl ?_ | refine OrdP.go ?_)
        exact ⟨_, [], FinOk.drop _ _, rfl, rfl⟩
    · refine ⟨shot st pl kd (.sl 4 gx Cx n), Sub.aggs (.four (.refl _) (.refl _) (.refl _) (.sl _ _ _ _ _)), ?_⟩
      repeat (first | refine Ops.go ?_ | refine And.intro rfl ?_ | refine And.intro (Nat.le_of_ble_eq_true rfl) ?_ | refine And.intro (Int.natCast_nonneg _) ?_ | refine fun (_ : Nat) => ?_ | refine Ord.go ?_ | refine Run.go rfl ?_ | refine Cont.go rfl ?_ | refine OrdP.go ?_)
      refine ACallP.ret_lend (Lends.five (lc _ _ _ b1 rfl) (lx ws _ _ _ _ (by omega) rfl) (.same _) (ll _ _ _ d1 rfl) (.nils 4)) (folds_spec st pl kd ws (ws.take n) n stamp ds [] 0 b1 (by omega) hn d1 (Nat.le_refl _) hm b2 (tt ws) d2 rfl pw (fun x hx => pw x (List.mem_of_mem_take hx)) (by simp)) rfl ?_
      repeat (first | refine Ops.go ?_ | refine And.intro rfl ?_ | refine And.intro (Nat.le_of_ble_eq_true rfl) ?_ | refine And.intro (Int.natCast_nonneg _) ?_ | refine fun (_ : Nat) => ?_ | refine Ord.go ?_ | refine Run.go rfl ?_ | refine Cont.go rfl ?_ | refine OrdP.go ?_)
      refine ACall.sel [] (by decide) [shot 0 ⟨#[47, 97]⟩ 1 (rdo [] 0), .int .i64 7, rdc [] 0] _ (.three (Sub.aggs (.four (.refl _) (.refl _) (.refl _) (Sub.nils_ro 3))) (.refl _) (Sub.nils_ro 4)) kf ?_
      rintro r L' (⟨j1, _⟩ | ⟨_, j2, _⟩ | ⟨_, _, j3, _⟩ | ⟨_, _, l', j3, v, g, o, hv, rfl, rfl⟩)
      · exact absurd kok j1
      · exact absurd j2 (by omega)
      · cases j3
      rcases hv with ⟨_, rfl, rfl⟩ | ⟨Cp, rfl, rfl⟩
      · refine ⟨_, .refl _, ?_⟩
        repeat (first | refine Ops.go ?_ | refine And.intro rfl ?_ | refine And.intro (Nat.le_of_ble_eq_true rfl) ?_ | refine And.intro (Int.natCast_nonneg _) ?_ | refine fun (_ : Nat) => ?_ | refine Ord.go ?_ | refine Run.go rfl ?_ | refine Cont.go rfl ?_ | refine OrdP.go ?_)
        refine ⟨fun _ => ?_, fun h => absurd rfl h⟩
        repeat (first | refine Ops.go ?_ | refine And.intro rfl ?_ | refine And.intro (Nat.le_of_ble_eq_true rfl) ?_ | refine And.intro (Int.natCast_nonneg _) ?_ | refine fun (_ : Nat) => ?_ | refine Ord.go ?_ | refine Run.go rfl ?_ | refine Cont.go rfl ?_ | refine OrdP.go ?_)
        refine ⟨fun _ => ?_, fun h => absurd rfl h⟩
        repeat (first | refine Ops.go ?_ | refine And.intro rfl ?_ | refine And.intro (Nat.le_of_ble_eq_true rfl) ?_ | refine And.intro (Int.natCast_nonneg _) ?_ | refine fun (_ : Nat) => ?_ | refine Ord.go ?_ | refine Run.go rfl ?_ | refine Cont.go rfl ?_ | refine OrdP.go ?_)
        exact ⟨_, [], FinOk.drop _ _, rfl, rfl⟩
      · refine ⟨.tuple [shot 7 ⟨#[47, 97]⟩ 1 (.sl 5 g Cp l'.length), .int .i64 0], Sub.tuples ⟨Sub.aggs (.four (.refl _) (.refl _) (.refl _) (.sl _ _ _ _ _)), .refl _, trivial⟩, ?_⟩
        repeat (first | refine Ops.go ?_ | refine And.intro rfl ?_ | refine And.intro (Nat.le_of_ble_eq_true rfl) ?_ | refine And.intro (Int.natCast_nonneg _) ?_ | refine fun (_ : Nat) => ?_ | refine Ord.go ?_ | refine Run.go rfl ?_ | refine Cont.go rfl ?_ | refine OrdP.go ?_)
        refine ⟨fun _ => ?_, fun h => absurd rfl h⟩
        repeat (first | refine Ops.go ?_ | refine And.intro rfl ?_ | refine And.intro (Nat.le_of_ble_eq_true rfl) ?_ | refine And.intro (Int.natCast_nonneg _) ?_ | refine fun (_ : Nat) => ?_ | refine Ord.go ?_ | refine Run.go rfl ?_ | refine Cont.go rfl ?_ | refine OrdP.go ?_)
        refine ⟨fun _ => ?_, fun h => absurd rfl h⟩
        repeat (first | refine Ops.go ?_ | refine And.intro rfl ?_ | refine And.intro (Nat.le_of_ble_eq_true rfl) ?_ | refine And.intro (Int.natCast_nonneg _) ?_ | refine fun (_ : Nat) => ?_ | refine Ord.go ?_ | refine Run.go rfl ?_ | refine Cont.go rfl ?_ | refine OrdP.go ?_)
        exact ⟨_, [], FinOk.drop _ _, rfl, rfl⟩
  · refine ⟨.sl 4 gm Cm m, Sub.sl _ _ _ _ _, ?_⟩
    have dtl : (ds.take m).length = m := by simp; omega
    repeat (first | refine Ops.go ?_ | refine And.intro rfl ?_ | refine And.intro (Nat.le_of_ble_eq_true rfl) ?_ | refine And.intro (Int.natCast_nonneg _) ?_ | refine fun (_ : Nat) => ?_ | refine Ord.go ?_ | refine Run.go rfl ?_ | refine Cont.go rfl ?_ | refine OrdP.go ?_)
    refine Run.drawnP [0, 2] [0, 1, 2, 3, 4, 5, 6, 7, 8, 9, 11, 12, 13, 10, 14, 15, 16] (by kernel_rfl) ?_
    repeat (first | refine Ops.go ?_ | refine And.intro rfl ?_ | refine And.intro (Nat.le_of_ble_eq_true rfl) ?_ | refine And.intro (Int.natCast_nonneg _) ?_ | refine fun (_ : Nat) => ?_ | refine Ord.go ?_ | refine Run.go rfl ?_ | refine Cont.go rfl ?_ | refine OrdP.go ?_)
    refine ACallP.ret_lend (Lends.five (lc _ _ _ xl rfl) (.same _) (.same _) (ll _ _ _ d1 rfl) (.row _ _ _ _ _ _ _ rfl (by simp; omega))) (folds_spec st pl kd _ xs n stamp ds (ds.take m) m xl hx hn d1 (by omega) hm markAt tx d2 (ttc ds) pxm px (fun c hc => pd c (List.mem_of_mem_take hc))) rfl ?_
    repeat (first | refine Ops.go ?_ | refine And.intro rfl ?_ | refine And.intro (Nat.le_of_ble_eq_true rfl) ?_ | refine And.intro (Int.natCast_nonneg _) ?_ | refine fun (_ : Nat) => ?_ | refine Ord.go ?_ | refine Run.go rfl ?_ | refine Cont.go rfl ?_ | refine OrdP.go ?_)
    refine ACallP.sel [1] (by decide) rfl [shot st pl kd (.sl 0 gc Cc n), .int .i64 0] _ (.two (Sub.aggs (.four (.refl _) (.refl _) (.refl _) (.sl _ _ _ _ _))) (.refl _)) (turned_spec 0 (fun p => p.size ≤ 9223372036854775807) st pl kd gc Cc (xs.take n ++ [mark]) n (by omega) hn pxm) ?_
    rintro r L' ⟨ws, hwl, hwd, pw, hcase⟩
    obtain ⟨b1, b2⟩ := behind ws hwl hwd
    have wtl : (ws.take n).length = n := by simp; omega
    rcases hcase with ⟨hn0, rfl, rfl⟩ | ⟨hn0, gx, Cx, rfl, rfl⟩
    · refine ⟨_, .refl _, ?_⟩
      subst hn0
      repeat (first | refine Ops.go ?_ | refine And.intro rfl ?_ | refine And.intro (Nat.le_of_ble_eq_true rfl) ?_ | refine And.intro (Int.natCast_nonneg _) ?_ | refine fun (_ : Nat) => ?_ | refine Ord.go ?_ | refine Run.go rfl ?_ | refine Cont.go rfl ?_ | refine OrdP.go ?_)
      refine ACallP.ret_lend (Lends.five (lc _ _ _ b1 rfl) (nx _) (.same _) (ll _ _ _ d1 rfl) (.row _ _ _ _ _ _ _ rfl (by simp; omega))) (folds_spec st pl kd ws [] 0 stamp ds (ds.take m) m b1 (Nat.le_refl _) (by omega) d1 (by omega) hm b2 rfl d2 (ttc ds) pw (by simp) (fun c hc => pd c (List.mem_of_mem_take hc))) rfl ?_
      repeat (first | refine Ops.go ?_ | refine And.intro rfl ?_ | refine And.intro (Nat.le_of_ble_eq_true rfl) ?_ | refine And.intro (Int.natCast_nonneg _) ?_ | refine fun (_ : Nat) => ?_ | refine Ord.go ?_ | refine Run.go rfl ?_ | refine Cont.go rfl ?_ | refine OrdP.go ?_)
      refine ACall.sel [] (by decide) [shot 0 ⟨#[47, 97]⟩ 1 (rdo [] 0), .int .i64 7, rdc [] 0] _ (.three (Sub.aggs (.four (.refl _) (.refl _) (.refl _) (Sub.nils_ro 3))) (.refl _) (Sub.nils_ro 4)) kf ?_
      rintro r L' (⟨j1, _⟩ | ⟨_, j2, _⟩ | ⟨_, _, j3, _⟩ | ⟨_, _, l', j3, v, g, o, hv, rfl, rfl⟩)
      · exact absurd kok j1
      · exact absurd j2 (by omega)
      · cases j3
      rcases hv with ⟨_, rfl, rfl⟩ | ⟨Cp, rfl, rfl⟩
      · refine ⟨_, .refl _, ?_⟩
        repeat (first | refine Ops.go ?_ | refine And.intro rfl ?_ | refine And.intro (Nat.le_of_ble_eq_true rfl) ?_ | refine And.intro (Int.natCast_nonneg _) ?_ | refine fun (_ : Nat) => ?_ | refine Ord.go ?_ | refine Run.go rfl ?_ | refine Cont.go rfl ?_ | refine OrdP.go ?_)
        refine ⟨fun _ => ?_, fun h => absurd rfl h⟩
        repeat (first | refine Ops.go ?_ | refine And.intro rfl ?_ | refine And.intro (Nat.le_of_ble_eq_true rfl) ?_ | refine And.intro (Int.natCast_nonneg _) ?_ | refine fun (_ : Nat) => ?_ | refine Ord.go ?_ | refine Run.go rfl ?_ | refine Cont.go rfl ?_ | refine OrdP.go ?_)
        refine ⟨fun _ => ?_, fun h => absurd rfl h⟩
        repeat (first | refine Ops.go ?_ | refine And.intro rfl ?_ | refine And.intro (Nat.le_of_ble_eq_true rfl) ?_ | refine And.intro (Int.natCast_nonneg _) ?_ | refine fun (_ : Nat) => ?_ | refine Ord.go ?_ | refine Run.go rfl ?_ | refine Cont.go rfl ?_ | refine OrdP.go ?_)
        exact ⟨_, [], FinOk.drop _ _, rfl, rfl⟩
      · refine ⟨.tuple [shot 7 ⟨#[47, 97]⟩ 1 (.sl 5 g Cp l'.length), .int .i64 0], Sub.tuples ⟨Sub.aggs (.four (.refl _) (.refl _) (.refl _) (.sl _ _ _ _ _)), .refl _, trivial⟩, ?_⟩
        repeat (first | refine Ops.go ?_ | refine And.intro rfl ?_ | refine And.intro (Nat.le_of_ble_eq_true rfl) ?_ | refine And.intro (Int.natCast_nonneg _) ?_ | refine fun (_ : Nat) => ?_ | refine Ord.go ?_ | refine Run.go rfl ?_ | refine Cont.go rfl ?_ | refine OrdP.go ?_)
        refine ⟨fun _ => ?_, fun h => absurd rfl h⟩
        repeat (first | refine Ops.go ?_ | refine And.intro rfl ?_ | refine And.intro (Nat.le_of_ble_eq_true rfl) ?_ | refine And.intro (Int.natCast_nonneg _) ?_ | refine fun (_ : Nat) => ?_ | refine Ord.go ?_ | refine Run.go rfl ?_ | refine Cont.go rfl ?_ | refine OrdP.go ?_)
        refine ⟨fun _ => ?_, fun h => absurd rfl h⟩
        repeat (first | refine Ops.go ?_ | refine And.intro rfl ?_ | refine And.intro (Nat.le_of_ble_eq_true rfl) ?_ | refine And.intro (Int.natCast_nonneg _) ?_ | refine fun (_ : Nat) => ?_ | refine Ord.go ?_ | refine Run.go rfl ?_ | refine Cont.go rfl ?_ | refine OrdP.go ?_)
        exact ⟨_, [], FinOk.drop _ _, rfl, rfl⟩
    · refine ⟨shot st pl kd (.sl 5 gx Cx n), Sub.aggs (.four (.refl _) (.refl _) (.refl _) (.sl _ _ _ _ _)), ?_⟩
      repeat (first | refine Ops.go ?_ | refine And.intro rfl ?_ | refine And.intro (Nat.le_of_ble_eq_true rfl) ?_ | refine And.intro (Int.natCast_nonneg _) ?_ | refine fun (_ : Nat) => ?_ | refine Ord.go ?_ | refine Run.go rfl ?_ | refine Cont.go rfl ?_ | refine OrdP.go ?_)
      refine ACallP.ret_lend (Lends.five (lc _ _ _ b1 rfl) (lx ws _ _ _ _ (by omega) rfl) (.same _) (ll _ _ _ d1 rfl) (.row _ _ _ _ _ _ _ rfl (by simp; omega))) (folds_spec st pl kd ws (ws.take n) n stamp ds (ds.take m) m b1 (by omega) hn d1 (by omega) hm b2 (tt ws) d2 (ttc ds) pw (fun x hx => pw x (List.mem_of_mem_take hx)) (fun c hc => pd c (List.mem_of_mem_take hc))) rfl ?_
      repeat (first | refine Ops.go ?_ | refine And.intro rfl ?_ | refine And.intro (Nat.le_of_ble_eq_true rfl) ?_ | refine And.intro (Int.natCast_nonneg _) ?_ | refine fun (_ : Nat) => ?_ | refine Ord.go ?_ | refine Run.go rfl ?_ | refine Cont.go rfl ?_ | refine OrdP.go ?_)
      refine ACall.sel [] (by decide) [shot 0 ⟨#[47, 97]⟩ 1 (rdo [] 0), .int .i64 7, rdc [] 0] _ (.three (Sub.aggs (.four (.refl _) (.refl _) (.refl _) (Sub.nils_ro 3))) (.refl _) (Sub.nils_ro 4)) kf ?_
      rintro r L' (⟨j1, _⟩ | ⟨_, j2, _⟩ | ⟨_, _, j3, _⟩ | ⟨_, _, l', j3, v, g, o, hv, rfl, rfl⟩)
      · exact absurd kok j1
      · exact absurd j2 (by omega)
      · cases j3
      rcases hv with ⟨_, rfl, rfl⟩ | ⟨Cp, rfl, rfl⟩
      · refine ⟨_, .refl _, ?_⟩
        repeat (first | refine Ops.go ?_ | refine And.intro rfl ?_ | refine And.intro (Nat.le_of_ble_eq_true rfl) ?_ | refine And.intro (Int.natCast_nonneg _) ?_ | refine fun (_ : Nat) => ?_ | refine Ord.go ?_ | refine Run.go rfl ?_ | refine Cont.go rfl ?_ | refine OrdP.go ?_)
        refine ⟨fun _ => ?_, fun h => absurd rfl h⟩
        repeat (first | refine Ops.go ?_ | refine And.intro rfl ?_ | refine And.intro (Nat.le_of_ble_eq_true rfl) ?_ | refine And.intro (Int.natCast_nonneg _) ?_ | refine fun (_ : Nat) => ?_ | refine Ord.go ?_ | refine Run.go rfl ?_ | refine Cont.go rfl ?_ | refine OrdP.go ?_)
        refine ⟨fun _ => ?_, fun h => absurd rfl h⟩
        repeat (first | refine Ops.go ?_ | refine And.intro rfl ?_ | refine And.intro (Nat.le_of_ble_eq_true rfl) ?_ | refine And.intro (Int.natCast_nonneg _) ?_ | refine fun (_ : Nat) => ?_ | refine Ord.go ?_ | refine Run.go rfl ?_ | refine Cont.go rfl ?_ | refine OrdP.go ?_)
        exact ⟨_, [], FinOk.drop _ _, rfl, rfl⟩
      · refine ⟨.tuple [shot 7 ⟨#[47, 97]⟩ 1 (.sl 6 g Cp l'.length), .int .i64 0], Sub.tuples ⟨Sub.aggs (.four (.refl _) (.refl _) (.refl _) (.sl _ _ _ _ _)), .refl _, trivial⟩, ?_⟩
        repeat (first | refine Ops.go ?_ | refine And.intro rfl ?_ | refine And.intro (Nat.le_of_ble_eq_true rfl) ?_ | refine And.intro (Int.natCast_nonneg _) ?_ | refine fun (_ : Nat) => ?_ | refine Ord.go ?_ | refine Run.go rfl ?_ | refine Cont.go rfl ?_ | refine OrdP.go ?_)
        refine ⟨fun _ => ?_, fun h => absurd rfl h⟩
        repeat (first | refine Ops.go ?_ | refine And.intro rfl ?_ | refine And.intro (Nat.le_of_ble_eq_true rfl) ?_ | refine And.intro (Int.natCast_nonneg _) ?_ | refine fun (_ : Nat) => ?_ | refine Ord.go ?_ | refine Run.go rfl ?_ | refine Cont.go rfl ?_ | refine OrdP.go ?_)
        refine ⟨fun _ => ?_, fun h => absurd rfl h⟩
        repeat (first | refine Ops.go ?_ | refine And.intro rfl ?_ | refine And.intro (Nat.le_of_ble_eq_true rfl) ?_ | refine And.intro (Int.natCast_nonneg _) ?_ | refine fun (_ : Nat) => ?_ | refine Ord.go ?_ | refine Run.go rfl ?_ | refine Cont.go rfl ?_ | refine OrdP.go ?_)
        exact ⟨_, [], FinOk.drop _ _, rfl, rfl⟩
end Go.Proofs.YtfohedaadncefaaDoor.HBT
/- Proved: the law ShotFolds returns true for every input, and its arguments read behind the call as they read before; what the row lists is tied to the program's text. Conditions: none beside the card's own. -/
namespace Go.Proofs.YtfohedaadncefaaDoor.HBT
open Go Go.Proofs.YtfohedaadncefaaDoor.HB Go.Proofs.YtfohedaadncefaaDoor Go.ChangeShapes Go.WideShapes Go.ChangeAt Go.RowKit Go.Lib
set_option maxRecDepth 8000

theorem int_arg {x : AV} (h : ArgOk Tryd.prog 3 x) : ∃ n, x = .int .i64 n := by
  obtain ⟨ys, h, rfl⟩ := h
  obtain ⟨n, _, rfl⟩ := h.int_inv Tryd.underlying3
  have ha : aggT Tryd.prog 3 = false := by kernel_rfl
  exact ⟨n, by rw [ha]; rfl⟩
theorem ch_arg {ys : List AV} (h : CellsOk Tryd.prog 69 ys) : ∃ s : { s : Ch // s.p.size ≤ maxLen }, wrapC true ys = encC s.1 := by
  obtain ⟨yss, hf, rfl⟩ := h.struct_inv Tryd.underlying69
  obtain ⟨y0, yss, rfl, h0, hf⟩ := hf.cons_inv
  obtain ⟨y1, yss, rfl, h1, hf⟩ := hf.cons_inv
  obtain ⟨y2, yss, rfl, h2, hf⟩ := hf.cons_inv
  obtain ⟨y3, yss, rfl, h3, hf⟩ := hf.cons_inv
  obtain rfl := hf.nil_inv
  obtain ⟨k, _, rfl⟩ := h0.int_inv Tryd.underlying3
  obtain ⟨p, hp, rfl⟩ := h1.str_inv Tryd.underlying9
  obtain ⟨q, _, rfl⟩ := h2.str_inv Tryd.underlying9
  obtain ⟨n, _, rfl⟩ := h3.int_inv Tryd.underlying3
  exact ⟨⟨⟨k, p, q, n⟩, hp⟩, rfl⟩
theorem chs_arg {x : AV} (h : ArgOk Tryd.prog 35 x) : ∃ cs m, m ≤ cs.length ∧ (∀ c ∈ cs, c.p.size ≤ 9223372036854775807) ∧ x = rdc cs m := by
  obtain ⟨ys, h, rfl⟩ := h
  obtain ⟨xss, n, hn, _, hx, rfl⟩ := h.slice_inv Tryd.underlying35
  have ha : aggT Tryd.prog 69 = true := by kernel_rfl
  have hc : Tryd.prog.cellsOf 69 = 4 := by kernel_rfl
  have ha2 : aggT Tryd.prog 35 = false := by kernel_rfl
  obtain ⟨l, hl, hm⟩ := map_told (f := wrapC true) (g := fun s : { s : Ch // s.p.size ≤ maxLen } => encC s.1) (fun c hc => ch_arg (hx c hc))
  refine ⟨l.map (·.1), n, by simp; omega, ?_, ?_⟩
  · intro x hx
    obtain ⟨y, _, rfl⟩ := List.mem_map.1 hx
    exact Nat.le_trans y.2 (by decide)
  · have hm2 : l.map (fun s : { s : Ch // s.p.size ≤ maxLen } => encC s.1) = (l.map (·.1)).map encC := by rw [List.map_map]; rfl
    rw [ha, hc, ha2, hm, hm2]
    rfl

set_option maxRecDepth 100000 in
theorem folds_lifted (os : Os) (started : os.Started) (H : Type) (enc : TypeId × Value → H) :
    ReturnsInHanded {} Tryd.checked os 7 .any (fun w args => (Rows.shotFoldsSpec.pre enc Tryd.prog Tryd.f7 [] false w args ∧ laidMetH Tryd.prog laid w) ∧ sizedMet enc Tryd.prog Tryd.f7 (OpenSpec.ofChange Rows.shotFoldsSpec) false w args)
      (Rows.shotFoldsSpec.post enc Tryd.prog Tryd.f7 false true false false) := by
  refine returns_and_shaped (C := Tryd.checked) (X := fun w _ => laidMetH Tryd.prog laid w) (fun _ _ _ hh h => h.of_heap hh) own started (by kernel_rfl) Tryd.func7
    (ChangeSpec.witness_shaped (enc := enc) (C := Tryd.checked) (os := os) (X := fun w _ => laidMetH Tryd.prog laid w) false (World.laidAll Tryd.prog os laid) #[.agg #[.int .i64 0, .string ⟨#[]⟩, .int .i64 0, .slice none 0 0], .int .i64 0, .slice none 0 0] 8 (World.laidAll_os _ _ _)
      (door_shape os _) (by kernel_rfl) (by kernel_rfl) (by kernel_rfl) (door_met os _)) ?_
  intro W base args ds gs before hval hW hL hs
  refine law_contract (C := C) (tb := 4) 7 laidOut (by kernel_rfl) (by kernel_rfl) (by kernel_rfl) Tryd.underlying4 ?_ ?_ ?_ (G_of hL hs) hval hW
  · intro W W' gs q _ h
    cases gs with
    | nil => exact h
    | cons => exact h.elim
  · intro ds gs hd hg
    match ds, gs, hd, hg with
    | [d1, d2, d3], [], _, _ => exact ⟨rfl, rfl, rfl⟩
  · intro xs hxs
    have hxs : ArgsOk Tryd.prog [24, 3, 35] xs := hxs
    cases hxs with
    | cons h1 h =>
      cases h with
      | cons h2 h =>
        cases h with
        | cons h3 h =>
          cases h
          obtain ⟨st, pl, kd, xs, n, hn, hp, _, rfl⟩ := shot_arg h1
          obtain ⟨stamp, rfl⟩ := int_arg h2
          obtain ⟨cs, m, hm, hq, rfl⟩ := chs_arg h3
          exact lawFolds_spec st pl kd xs n stamp cs m hn hm hp hq

theorem folds_row : Rows.ShotFoldsSaid :=
  OpenClaim.holds_of_wide 7 Tryd.f7 rfl rfl rfl rfl rfl rfl rfl ⟨rfl, rfl, rfl, rfl, rfl⟩ rfl rfl rfl rfl rfl (by kernel_rfl) Tryd.func7 (by kernel_rfl)
    (of_decide_eq_true (by kernel_rfl)) (by unfold Func.isWrapper; rw [if_neg (by decide +kernel)]; exact ⟨rfl, rfl⟩)
    (fun os started H enc _ => folds_lifted os started H enc)

theorem folds_holds : Rows.ShotFoldsCardSaid :=
  Claim7.holds_tied_plain_at .later [] [.data, .data, .pinned] true (true, "47b849953b1246cf538d066d11d37971339d33c3b464a27150887b44def3bd95") true
    folds_row (fun _ h => by cases h) (by kernel_rfl) (fun _ h => by cases h) shotFolds_row_tie rfl ⟨rfl, rfl⟩ (by kernel_rfl) rfl
    (fun f fn hf hfn => by
      obtain rfl : f = 7 := Option.some.inj ((show Tryd.prog.funcNamed "herald/heraldlaw5.ShotFolds" = some 7 by kernel_rfl).symm.trans hf) |>.symm
      obtain rfl : fn = Tryd.f7 := (Option.some.inj (Tryd.func7.symm.trans hfn)).symm
      exact ⟨by kernel_rfl, fun j t ht => by
        rw [Tryd.params7] at ht
        have hm : t ∈ [24, 3, 35] := by simpa using Array.mem_of_getElem? ht
        have hall : ([24, 3, 35].all fun u => !Tryd.prog.wantsStandIn u) = true := by kernel_rfl
        exact (show Tryd.prog.wantsStandIn t = false by simpa using List.all_eq_true.1 hall t hm)⟩)
    (by kernel_rfl)

end Go.Proofs.YtfohedaadncefaaDoor.HBT
