/- The contract of the shot's text 'Decode'. -/
import Derived.Test.YtfohedaadncefaaDoorHbC5
import Derived.Test.YtfohedaadncefaaDoorHbZa
namespace Go.Proofs.YtfohedaadncefaaDoor.HBT
open Go Go.Proofs.YtfohedaadncefaaDoor.HB Go.RowKit
set_option maxRecDepth 20000

set_option maxHeartbeats 16000000 in
theorem decShot_spec (d : List Int) (n : Nat) (hn : n ≤ d.length) (hb : Bytes d) (hN : n ≤ 1000000) : FnSpec C 17 [rdb d n] [] (DecQ (d.take n)) := by
  have tl : (d.take n).length = n := by rw [List.length_take]; omega
  have hbt := hb.take n
  refine toC1 (FnSpec.startD C2_ok Tryd.func17 rfl rfl Tryd.ntmps17 rfl rfl rfl rfl rfl rfl (by decide) Tryd.func41 rfl rfl Tryd.ntmps41 rfl rfl rfl rfl rfl rfl rfl (by decide) ?_)
  repeat (first | refine OpsT.cons ?_ | refine OpsT.nil ?_ | refine OrdE.cons rfl ?_ | refine OrdE.nil ?_ | refine Run.textT C2_ok ?_ | refine And.intro rfl ?_ | refine And.intro (Nat.le_of_ble_eq_true rfl) ?_ | refine And.intro (Int.natCast_nonneg _) ?_ | refine fun (_ : Nat) => ?_ | refine Ord.go ?_ | refine Run.go rfl ?_ | refine Cont.go rfl ?_ | refine OrdP.go ?_)
  rename_i g0 g1
  refine ⟨fun h => ?_, fun h => ?_⟩
  · have h : (262144 : Int) < (n : Int) := h
    repeat (first | refine OpsT.cons ?_ | refine OpsT.nil ?_ | refine OrdE.cons rfl ?_ | refine OrdE.nil ?_ | refine Run.textT C2_ok ?_ | refine And.intro rfl ?_ | refine And.intro (Nat.le_of_ble_eq_true rfl) ?_ | refine And.intro (Int.natCast_nonneg _) ?_ | refine fun (_ : Nat) => ?_ | refine Ord.go ?_ | refine Run.go rfl ?_ | refine Cont.go rfl ?_ | refine OrdP.go ?_)
    exact ⟨_, [], FinOk.drop _ _, .inl ⟨by omega, rfl, rfl⟩⟩
  have h : ¬ (262144 : Int) < (n : Int) := h
  have hlen : ¬ 262144 < (d.take n).length := by omega
  have bad_ : decD (d.take n) = none → DecQ (d.take n) (.tuple [shot0, .int .i64 51]) [] := fun h => .inr (.inl ⟨hlen, h, rfl, rfl⟩)
  repeat (first | refine OpsT.cons ?_ | refine OpsT.nil ?_ | refine OrdE.cons rfl ?_ | refine OrdE.nil ?_ | refine Run.textT C2_ok ?_ | refine And.intro rfl ?_ | refine And.intro (Nat.le_of_ble_eq_true rfl) ?_ | refine And.intro (Int.natCast_nonneg _) ?_ | refine fun (_ : Nat) => ?_ | refine Ord.go ?_ | refine Run.go rfl ?_ | refine Cont.go rfl ?_ | refine OrdP.go ?_)
  refine ⟨0, g0, 1, g1, rfl, rfl, rfl, ?_⟩
  repeat (first | refine OpsT.cons ?_ | refine OpsT.nil ?_ | refine OrdE.cons rfl ?_ | refine OrdE.nil ?_ | refine Run.textT C2_ok ?_ | refine And.intro rfl ?_ | refine And.intro (Nat.le_of_ble_eq_true rfl) ?_ | refine And.intro (Int.natCast_nonneg _) ?_ | refine fun (_ : Nat) => ?_ | refine Ord.go ?_ | refine Run.go rfl ?_ | refine Cont.go rfl ?_ | refine OrdP.go ?_)
  rename_i gr
  refine ACallT.may (.sel [2] (by decide) rfl [.ptr 0 gr 0] _ _ (.one (Sub.ptr _ _ _ _)) (rNumber_spec d n 0 hn hb (by omega) hN gr) ?_ ?_)
  case' refine_2 =>
    rintro v L' ⟨h0, rfl, rfl⟩
    have hnone := decD_none1 (rdHead_none1 h0)
    repeat (first | refine OpsT.cons ?_ | refine OpsT.nil ?_ | refine OrdE.cons rfl ?_ | refine OrdE.nil ?_ | refine Run.textT C2_ok ?_ | refine And.intro rfl ?_ | refine And.intro (Nat.le_of_ble_eq_true rfl) ?_ | refine And.intro (Int.natCast_nonneg _) ?_ | refine fun (_ : Nat) => ?_ | refine Ord.go ?_ | refine Run.go rfl ?_ | refine Cont.go rfl ?_ | refine OrdP.go ?_)
    refine ⟨_, rfl, ?_⟩
    repeat (first | refine OpsT.cons ?_ | refine OpsT.nil ?_ | refine OrdE.cons rfl ?_ | refine OrdE.nil ?_ | refine Run.textT C2_ok ?_ | refine And.intro rfl ?_ | refine And.intro (Nat.le_of_ble_eq_true rfl) ?_ | refine And.intro (Int.natCast_nonneg _) ?_ | refine fun (_ : Nat) => ?_ | refine Ord.go ?_ | refine Run.go rfl ?_ | refine Cont.go rfl ?_ | refine OrdP.go ?_)
    exact ⟨_, [], FinOk.drop _ _, bad_ hnone⟩
  rintro r L' ⟨st, a1, h0, rfl, rfl⟩
  have q0 := readN_spec hbt h0
  rw [tl] at q0
  refine ⟨_, Sub.refl _, ?_⟩
  repeat (first | refine OpsT.cons ?_ | refine OpsT.nil ?_ | refine OrdE.cons rfl ?_ | refine OrdE.nil ?_ | refine Run.textT C2_ok ?_ | refine And.intro rfl ?_ | refine And.intro (Nat.le_of_ble_eq_true rfl) ?_ | refine And.intro (Int.natCast_nonneg _) ?_ | refine fun (_ : Nat) => ?_ | refine Ord.go ?_ | refine Run.go rfl ?_ | refine Cont.go rfl ?_ | refine OrdP.go ?_)
  refine ACallT.may (.sel [2] (by decide) rfl [.ptr 0 gr 0] _ _ (.one (Sub.ptr _ _ _ _)) (rText_spec d n a1 hn hb (by omega) hN gr) ?_ ?_)
  case' refine_2 =>
    rintro v L' ⟨h1, rfl, rfl⟩
    have hnone := decD_none1 (rdHead_none2 h0 h1)
    repeat (first | refine OpsT.cons ?_ | refine OpsT.nil ?_ | refine OrdE.cons rfl ?_ | refine OrdE.nil ?_ | refine Run.textT C2_ok ?_ | refine And.intro rfl ?_ | refine And.intro (Nat.le_of_ble_eq_true rfl) ?_ | refine And.intro (Int.natCast_nonneg _) ?_ | refine fun (_ : Nat) => ?_ | refine Ord.go ?_ | refine Run.go rfl ?_ | refine Cont.go rfl ?_ | refine OrdP.go ?_)
    refine ⟨_, rfl, ?_⟩
    repeat (first | refine OpsT.cons ?_ | refine OpsT.nil ?_ | refine OrdE.cons rfl ?_ | refine OrdE.nil ?_ | refine Run.textT C2_ok ?_ | refine And.intro rfl ?_ | refine And.intro (Nat.le_of_ble_eq_true rfl) ?_ | refine And.intro (Int.natCast_nonneg _) ?_ | refine fun (_ : Nat) => ?_ | refine Ord.go ?_ | refine Run.go rfl ?_ | refine Cont.go rfl ?_ | refine OrdP.go ?_)
    exact ⟨_, [], FinOk.drop _ _, bad_ hnone⟩
  rintro r L' ⟨pl, a2, h1, rfl, rfl⟩
  have q1 := readT_spec hbt h1
  rw [tl] at q1
  refine ⟨_, Sub.refl _, ?_⟩
  repeat (first | refine OpsT.cons ?_ | refine OpsT.nil ?_ | refine OrdE.cons rfl ?_ | refine OrdE.nil ?_ | refine Run.textT C2_ok ?_ | refine And.intro rfl ?_ | refine And.intro (Nat.le_of_ble_eq_true rfl) ?_ | refine And.intro (Int.natCast_nonneg _) ?_ | refine fun (_ : Nat) => ?_ | refine Ord.go ?_ | refine Run.go rfl ?_ | refine Cont.go rfl ?_ | refine OrdP.go ?_)
  refine ACallT.may (.sel [2] (by decide) rfl [.ptr 0 gr 0] _ _ (.one (Sub.ptr _ _ _ _)) (rNumber_spec d n a2 hn hb (by omega) hN gr) ?_ ?_)
  case' refine_2 =>
    rintro v L' ⟨h2, rfl, rfl⟩
    have hnone := decD_none1 (rdHead_none3 h0 h1 h2)
    repeat (first | refine OpsT.cons ?_ | refine OpsT.nil ?_ | refine OrdE.cons rfl ?_ | refine OrdE.nil ?_ | refine Run.textT C2_ok ?_ | refine And.intro rfl ?_ | refine And.intro (Nat.le_of_ble_eq_true rfl) ?_ | refine And.intro (Int.natCast_nonneg _) ?_ | refine fun (_ : Nat) => ?_ | refine Ord.go ?_ | refine Run.go rfl ?_ | refine Cont.go rfl ?_ | refine OrdP.go ?_)
    refine ⟨_, rfl, ?_⟩
    repeat (first | refine OpsT.cons ?_ | refine OpsT.nil ?_ | refine OrdE.cons rfl ?_ | refine OrdE.nil ?_ | refine Run.textT C2_ok ?_ | refine And.intro rfl ?_ | refine And.intro (Nat.le_of_ble_eq_true rfl) ?_ | refine And.intro (Int.natCast_nonneg _) ?_ | refine fun (_ : Nat) => ?_ | refine Ord.go ?_ | refine Run.go rfl ?_ | refine Cont.go rfl ?_ | refine OrdP.go ?_)
    exact ⟨_, [], FinOk.drop _ _, bad_ hnone⟩
  rintro r L' ⟨kd, a3, h2, rfl, rfl⟩
  have q2 := readN_spec hbt h2
  rw [tl] at q2
  refine ⟨_, Sub.refl _, ?_⟩
  repeat (first | refine OpsT.cons ?_ | refine OpsT.nil ?_ | refine OrdE.cons rfl ?_ | refine OrdE.nil ?_ | refine Run.textT C2_ok ?_ | refine And.intro rfl ?_ | refine And.intro (Nat.le_of_ble_eq_true rfl) ?_ | refine And.intro (Int.natCast_nonneg _) ?_ | refine fun (_ : Nat) => ?_ | refine Ord.go ?_ | refine Run.go rfl ?_ | refine Cont.go rfl ?_ | refine OrdP.go ?_)
  refine ACallT.may (.sel [2] (by decide) rfl [.ptr 0 gr 0] _ _ (.one (Sub.ptr _ _ _ _)) (rNumber_spec d n a3 hn hb (by omega) hN gr) ?_ ?_)
  case' refine_2 =>
    rintro v L' ⟨h3, rfl, rfl⟩
    have hnone := decD_none1 (rdHead_none4 h0 h1 h2 h3)
    repeat (first | refine OpsT.cons ?_ | refine OpsT.nil ?_ | refine OrdE.cons rfl ?_ | refine OrdE.nil ?_ | refine Run.textT C2_ok ?_ | refine And.intro rfl ?_ | refine And.intro (Nat.le_of_ble_eq_true rfl) ?_ | refine And.intro (Int.natCast_nonneg _) ?_ | refine fun (_ : Nat) => ?_ | refine Ord.go ?_ | refine Run.go rfl ?_ | refine Cont.go rfl ?_ | refine OrdP.go ?_)
    refine ⟨_, rfl, ?_⟩
    repeat (first | refine OpsT.cons ?_ | refine OpsT.nil ?_ | refine OrdE.cons rfl ?_ | refine OrdE.nil ?_ | refine Run.textT C2_ok ?_ | refine And.intro rfl ?_ | refine And.intro (Nat.le_of_ble_eq_true rfl) ?_ | refine And.intro (Int.natCast_nonneg _) ?_ | refine fun (_ : Nat) => ?_ | refine Ord.go ?_ | refine Run.go rfl ?_ | refine Cont.go rfl ?_ | refine OrdP.go ?_)
    exact ⟨_, [], FinOk.drop _ _, bad_ hnone⟩
  rintro r L' ⟨cnt, a4, h3, rfl, rfl⟩
  have q3 := readN_spec hbt h3
  rw [tl] at q3
  refine ⟨_, Sub.refl _, ?_⟩
  repeat (first | refine OpsT.cons ?_ | refine OpsT.nil ?_ | refine OrdE.cons rfl ?_ | refine OrdE.nil ?_ | refine Run.textT C2_ok ?_ | refine And.intro rfl ?_ | refine And.intro (Nat.le_of_ble_eq_true rfl) ?_ | refine And.intro (Int.natCast_nonneg _) ?_ | refine fun (_ : Nat) => ?_ | refine Ord.go ?_ | refine Run.go rfl ?_ | refine Cont.go rfl ?_ | refine OrdP.go ?_)
  have hh := rdHead_some h0 h1 h2 h3
  refine Run.loopW (fun k env L => ∃ (j : Nat) (l : List Sn) (v : AV) (o : AObj) (g at_ : Nat), k = cnt - j ∧ j ≤ cnt ∧ l.length = j ∧ LN 3 l v g o ∧ at_ ≤ n ∧ rdNs (d.take n) a4 j = some (l, at_) ∧ env = [rdb d n, .junk, .ptr 0 g0 0, .ptr 1 g1 0, .ptr 2 gr 0, .int .i64 ((cnt - j : Nat) : Int), .junk, .junk, .junk, .junk, .junk, .junk, .junk, .junk, .junk, .junk, .junk, .junk, .junk, .junk, .junk, .junk, .junk, .junk, .junk, .junk, .junk, .junk, .junk, .junk, .junk, .junk, .junk, .junk, .junk, .junk, .junk, .junk, .junk, .junk, .junk, .junk, .junk, .junk, .junk, .junk, .junk, .junk, .junk, .junk, .junk, .junk, .junk, .junk, .junk] ∧ L = [(g0, .cells 24 [.int .i64 st, .str pl, .int .i64 kd, v]), (g1, .cells 29 [.int .i64 0]), (gr, .cells 77 [rdb d n, .int .i64 (at_ : Nat)]), (g, o)]) cnt
    [rdb d n, .junk, .ptr 0 g0 0, .ptr 1 g1 0, .ptr 2 gr 0, .int .i64 ((cnt - 0 : Nat) : Int), .junk, .junk, .junk, .junk, .junk, .junk, .junk, .junk, .junk, .junk, .junk, .junk, .junk, .junk, .junk, .junk, .junk, .junk, .junk, .junk, .junk, .junk, .junk, .junk, .junk, .junk, .junk, .junk, .junk, .junk, .junk, .junk, .junk, .junk, .junk, .junk, .junk, .junk, .junk, .junk, .junk, .junk, .junk, .junk, .junk, .junk, .junk, .junk, .junk]
    [(g0, .cells 24 [.int .i64 st, .str pl, .int .i64 kd, .nils]), (g1, .cells 29 [.int .i64 0]), (gr, .cells 77 [rdb d n, .int .i64 (a4 : Nat)]), (0, .dead)]
    (Weak.sel ?_ [0, 1, 2, 9] (by decide) ⟨rfl, SubO.refl _, rfl, SubO.refl _, rfl, SubO.refl _, rfl, trivial, trivial⟩)
    ⟨0, [], .nils, .dead, 0, a4, by omega, by omega, rfl, .inl ⟨rfl, rfl, rfl⟩, by omega, rfl, rfl, rfl⟩ ?_
  · repeat (first | exact trivial | refine And.intro (Sub.junk _) ?_ | refine And.intro (Sub.refl _) ?_ | refine And.intro (Sub.sl _ _ _ _ _) ?_ | refine And.intro (Sub.ptr _ _ _ _) ?_)
  rintro k env L ⟨j, l, v, o, g, at_, rfl, hj, hli, hv, hat, hns, rfl, rfl⟩
  have hsp := rdNs_spec hbt (by rw [tl]; omega) hns
  rw [tl] at hsp
  rcases hv with ⟨hl0, rfl, rfl⟩ | ⟨Cp, rfl, rfl⟩
  · repeat (first | refine OpsT.cons ?_ | refine OpsT.nil ?_ | refine OrdE.cons rfl ?_ | refine OrdE.nil ?_ | refine Run.textT C2_ok ?_ | refine And.intro rfl ?_ | refine And.intro (Nat.le_of_ble_eq_true rfl) ?_ | refine And.intro (Int.natCast_nonneg _) ?_ | refine fun (_ : Nat) => ?_ | refine Ord.go ?_ | refine Run.go rfl ?_ | refine Cont.go rfl ?_ | refine OrdP.go ?_)
    refine ⟨fun h => ?_, fun h => ?_⟩
    · have h1 : (0 : Int) < ((cnt - j : Nat) : Int) := h
      repeat (first | refine OpsT.cons ?_ | refine OpsT.nil ?_ | refine OrdE.cons rfl ?_ | refine OrdE.nil ?_ | refine Run.textT C2_ok ?_ | refine And.intro rfl ?_ | refine And.intro (Nat.le_of_ble_eq_true rfl) ?_ | refine And.intro (Int.natCast_nonneg _) ?_ | refine fun (_ : Nat) => ?_ | refine Ord.go ?_ | refine Run.go rfl ?_ | refine Cont.go rfl ?_ | refine OrdP.go ?_)
      refine Run.drawnE C2_ok [0] [10, 11, 12] [0, 1, 2, 4, 6, 3, 5, 7, 8, 9] (by kernel_rfl) rfl ?_
      repeat (first | refine OpsT.cons ?_ | refine OpsT.nil ?_ | refine OrdE.cons rfl ?_ | refine OrdE.nil ?_ | refine Run.textT C2_ok ?_ | refine And.intro rfl ?_ | refine And.intro (Nat.le_of_ble_eq_true rfl) ?_ | refine And.intro (Int.natCast_nonneg _) ?_ | refine fun (_ : Nat) => ?_ | refine Ord.go ?_ | refine Run.go rfl ?_ | refine Cont.go rfl ?_ | refine OrdP.go ?_)
      refine ACallE.sel [2] (by decide) rfl [.ptr 0 gr 0] _ _ (.one (Sub.ptr _ _ _ _)) (rText_spec d n at_ hn hb (by omega) hN gr) ?_ ?_
      case' refine_2 =>
        rintro v L' ⟨e1, rfl, rfl⟩
        have hnone := decD_none2 hh (rdNs_fail hns (rdNode_none1 e1) (by omega))
        repeat (first | refine OpsT.cons ?_ | refine OpsT.nil ?_ | refine OrdE.cons rfl ?_ | refine OrdE.nil ?_ | refine Run.textT C2_ok ?_ | refine And.intro rfl ?_ | refine And.intro (Nat.le_of_ble_eq_true rfl) ?_ | refine And.intro (Int.natCast_nonneg _) ?_ | refine fun (_ : Nat) => ?_ | refine Ord.go ?_ | refine Run.go rfl ?_ | refine Cont.go rfl ?_ | refine OrdP.go ?_)
        refine ⟨_, rfl, ?_⟩
        repeat (first | refine OpsT.cons ?_ | refine OpsT.nil ?_ | refine OrdE.cons rfl ?_ | refine OrdE.nil ?_ | refine Run.textT C2_ok ?_ | refine And.intro rfl ?_ | refine And.intro (Nat.le_of_ble_eq_true rfl) ?_ | refine And.intro (Int.natCast_nonneg _) ?_ | refine fun (_ : Nat) => ?_ | refine Ord.go ?_ | refine Run.go rfl ?_ | refine Cont.go rfl ?_ | refine OrdP.go ?_)
        exact ⟨_, [], FinOk.drop _ _, bad_ hnone⟩
      rintro r L' ⟨p, b1, e1, rfl, rfl⟩
      have w1 := readT_spec hbt e1
      rw [tl] at w1
      refine ⟨_, Sub.refl _, ?_⟩
      repeat (first | refine OpsT.cons ?_ | refine OpsT.nil ?_ | refine OrdE.cons rfl ?_ | refine OrdE.nil ?_ | refine Run.textT C2_ok ?_ | refine And.intro rfl ?_ | refine And.intro (Nat.le_of_ble_eq_true rfl) ?_ | refine And.intro (Int.natCast_nonneg _) ?_ | refine fun (_ : Nat) => ?_ | refine Ord.go ?_ | refine Run.go rfl ?_ | refine Cont.go rfl ?_ | refine OrdP.go ?_)
      refine ACallE.sel [2] (by decide) rfl [.ptr 0 gr 0] _ _ (.one (Sub.ptr _ _ _ _)) (rText_spec d n b1 hn hb (by omega) hN gr) ?_ ?_
      case' refine_2 =>
        rintro v L' ⟨e2, rfl, rfl⟩
        have hnone := decD_none2 hh (rdNs_fail hns (rdNode_none2 e1 e2) (by omega))
        repeat (first | refine OpsT.cons ?_ | refine OpsT.nil ?_ | refine OrdE.cons rfl ?_ | refine OrdE.nil ?_ | refine Run.textT C2_ok ?_ | refine And.intro rfl ?_ | refine And.intro (Nat.le_of_ble_eq_true rfl) ?_ | refine And.intro (Int.natCast_nonneg _) ?_ | refine fun (_ : Nat) => ?_ | refine Ord.go ?_ | refine Run.go rfl ?_ | refine Cont.go rfl ?_ | refine OrdP.go ?_)
        refine ⟨_, rfl, ?_⟩
        repeat (first | refine OpsT.cons ?_ | refine OpsT.nil ?_ | refine OrdE.cons rfl ?_ | refine OrdE.nil ?_ | refine Run.textT C2_ok ?_ | refine And.intro rfl ?_ | refine And.intro (Nat.le_of_ble_eq_true rfl) ?_ | refine And.intro (Int.natCast_nonneg _) ?_ | refine fun (_ : Nat) => ?_ | refine Ord.go ?_ | refine Run.go rfl ?_ | refine Cont.go rfl ?_ | refine OrdP.go ?_)
        exact ⟨_, [], FinOk.drop _ _, bad_ hnone⟩
      rintro r L' ⟨q, b2, e2, rfl, rfl⟩
      have w2 := readT_spec hbt e2
      rw [tl] at w2
      refine ⟨_, Sub.refl _, ?_⟩
      repeat (first | refine OpsT.cons ?_ | refine OpsT.nil ?_ | refine OrdE.cons rfl ?_ | refine OrdE.nil ?_ | refine Run.textT C2_ok ?_ | refine And.intro rfl ?_ | refine And.intro (Nat.le_of_ble_eq_true rfl) ?_ | refine And.intro (Int.natCast_nonneg _) ?_ | refine fun (_ : Nat) => ?_ | refine Ord.go ?_ | refine Run.go rfl ?_ | refine Cont.go rfl ?_ | refine OrdP.go ?_)
      refine ACallE.sel [2] (by decide) rfl [.ptr 0 gr 0] _ _ (.one (Sub.ptr _ _ _ _)) (rNumber_spec d n b2 hn hb (by omega) hN gr) ?_ ?_
      case' refine_2 =>
        rintro v L' ⟨e3, rfl, rfl⟩
        have hnone := decD_none2 hh (rdNs_fail hns (rdNode_none3 e1 e2 e3) (by omega))
        repeat (first | refine OpsT.cons ?_ | refine OpsT.nil ?_ | refine OrdE.cons rfl ?_ | refine OrdE.nil ?_ | refine Run.textT C2_ok ?_ | refine And.intro rfl ?_ | refine And.intro (Nat.le_of_ble_eq_true rfl) ?_ | refine And.intro (Int.natCast_nonneg _) ?_ | refine fun (_ : Nat) => ?_ | refine Ord.go ?_ | refine Run.go rfl ?_ | refine Cont.go rfl ?_ | refine OrdP.go ?_)
        refine ⟨_, rfl, ?_⟩
        repeat (first | refine OpsT.cons ?_ | refine OpsT.nil ?_ | refine OrdE.cons rfl ?_ | refine OrdE.nil ?_ | refine Run.textT C2_ok ?_ | refine And.intro rfl ?_ | refine And.intro (Nat.le_of_ble_eq_true rfl) ?_ | refine And.intro (Int.natCast_nonneg _) ?_ | refine fun (_ : Nat) => ?_ | refine Ord.go ?_ | refine Run.go rfl ?_ | refine Cont.go rfl ?_ | refine OrdP.go ?_)
        exact ⟨_, [], FinOk.drop _ _, bad_ hnone⟩
      rintro r L' ⟨w, b3, e3, rfl, rfl⟩
      have w3 := readN_spec hbt e3
      rw [tl] at w3
      have hx := rdNode_some e1 e2 e3
      refine ⟨_, Sub.refl _, ?_⟩
      repeat (first | refine OpsT.cons ?_ | refine OpsT.nil ?_ | refine OrdE.cons rfl ?_ | refine OrdE.nil ?_ | refine Run.textT C2_ok ?_ | refine And.intro rfl ?_ | refine And.intro (Nat.le_of_ble_eq_true rfl) ?_ | refine And.intro (Int.natCast_nonneg _) ?_ | refine fun (_ : Nat) => ?_ | refine Ord.go ?_ | refine Run.go rfl ?_ | refine Cont.go rfl ?_ | refine OrdP.go ?_)
      refine ⟨fun h => absurd h (List.cons_ne_nil _ _), fun _ => ?_⟩
      repeat (first | refine OpsT.cons ?_ | refine OpsT.nil ?_ | refine OrdE.cons rfl ?_ | refine OrdE.nil ?_ | refine Run.textT C2_ok ?_ | refine And.intro rfl ?_ | refine And.intro (Nat.le_of_ble_eq_true rfl) ?_ | refine And.intro (Int.natCast_nonneg _) ?_ | refine fun (_ : Nat) => ?_ | refine Ord.go ?_ | refine Run.go rfl ?_ | refine Cont.go rfl ?_ | refine OrdP.go ?_)
      rename_i gb g2 C2'
      refine fun r hr => ?_
      obtain rfl : r = ((cnt - (j + 1) : Nat) : Int) := by rw [hr, IntKind.wrap_i64]; omega
      repeat (first | refine OpsT.cons ?_ | refine OpsT.nil ?_ | refine OrdE.cons rfl ?_ | refine OrdE.nil ?_ | refine Run.textT C2_ok ?_ | refine And.intro rfl ?_ | refine And.intro (Nat.le_of_ble_eq_true rfl) ?_ | refine And.intro (Int.natCast_nonneg _) ?_ | refine fun (_ : Nat) => ?_ | refine Ord.go ?_ | refine Run.go rfl ?_ | refine Cont.go rfl ?_ | refine OrdP.go ?_)
      refine Cont.lpW ?_
      refine ⟨cnt - (j + 1), [rdb d n, .junk, .ptr 0 g0 0, .ptr 1 g1 0, .ptr 2 gr 0, .int .i64 ((cnt - (j + 1) : Nat) : Int), .junk, .junk, .junk, .junk, .junk, .junk, .junk, .junk, .junk, .junk, .junk, .junk, .junk, .junk, .junk, .junk, .junk, .junk, .junk, .junk, .junk, .junk, .junk, .junk, .junk, .junk, .junk, .junk, .junk, .junk, .junk, .junk, .junk, .junk, .junk, .junk, .junk, .junk, .junk, .junk, .junk, .junk, .junk, .junk, .junk, .junk, .junk, .junk, .junk], [(g0, .cells 24 [.int .i64 st, .str pl, .int .i64 kd, .sl 3 g2 C2' 1]), (g1, .cells 29 [.int .i64 0]), (gr, .cells 77 [rdb d n, .int .i64 (b3 : Nat)]), (g2, .row 50 3 C2' [enc ⟨p, q, w⟩])], by omega, Weak.sel ?_ [0, 1, 2, 5] (by decide) ⟨rfl, SubO.cells ⟨Sub.refl _, Sub.refl _, Sub.refl _, Sub.sl _ 3 _ _ _, trivial⟩, rfl, SubO.refl _, rfl, SubO.refl _, rfl, SubO.refl _, trivial⟩,
        ⟨j + 1, [⟨p, q, w⟩], (.sl 3 g2 C2' 1), (.row 50 3 C2' [enc ⟨p, q, w⟩]), g2, b3, rfl, by omega, by rw [hl0] at hli; simp at hli ⊢; omega, .inr ⟨C2', rfl, rfl⟩, by omega, by have := rdNs_step hns hx; rw [hl0] at this; exact this, rfl, rfl⟩⟩
      repeat (first | exact trivial | refine And.intro (Sub.junk _) ?_ | refine And.intro (Sub.refl _) ?_ | refine And.intro (Sub.sl _ _ _ _ _) ?_ | refine And.intro (Sub.ptr _ _ _ _) ?_)
    · have h1 : ¬ (0 : Int) < ((cnt - j : Nat) : Int) := h
      have hjc : j = cnt := by omega
      rw [hjc] at hns hli
      have px := hsp.2.2.2.1
      subst hl0
      have hen := enc_read hbt hh hns
      have ce := toC2 (encode_spec st pl kd [] ([] : List Sn).length (Nat.le_refl _) (fun x hx => by have := px x hx; omega))
      repeat (first | refine OpsT.cons ?_ | refine OpsT.nil ?_ | refine OrdE.cons rfl ?_ | refine OrdE.nil ?_ | refine Run.textT C2_ok ?_ | refine And.intro rfl ?_ | refine And.intro (Nat.le_of_ble_eq_true rfl) ?_ | refine And.intro (Int.natCast_nonneg _) ?_ | refine fun (_ : Nat) => ?_ | refine Ord.go ?_ | refine Run.go rfl ?_ | refine Cont.go rfl ?_ | refine OrdP.go ?_)
      refine ACallT.ok (ACall.lendNew (args' := [shot st pl kd (rdo [] ([] : List Sn).length)]) (.one (Lend.aggs ⟨.same _, .same _, .same _, (.nils 3), trivial⟩)) ce ?_)
      rintro r L' (⟨hck, rfl, rfl⟩ | ⟨hck, ge, Ce, rfl, rfl⟩)
      · refine ⟨rfl, rfl, _, Sub.refl _, ?_⟩
        repeat (first | refine OpsT.cons ?_ | refine OpsT.nil ?_ | refine OrdE.cons rfl ?_ | refine OrdE.nil ?_ | refine Run.textT C2_ok ?_ | refine And.intro rfl ?_ | refine And.intro (Nat.le_of_ble_eq_true rfl) ?_ | refine And.intro (Int.natCast_nonneg _) ?_ | refine fun (_ : Nat) => ?_ | refine Ord.go ?_ | refine Run.go rfl ?_ | refine Cont.go rfl ?_ | refine OrdP.go ?_)
        refine ⟨fun _ => ?_, fun h => absurd (by decide) h⟩
        repeat (first | refine OpsT.cons ?_ | refine OpsT.nil ?_ | refine OrdE.cons rfl ?_ | refine OrdE.nil ?_ | refine Run.textT C2_ok ?_ | refine And.intro rfl ?_ | refine And.intro (Nat.le_of_ble_eq_true rfl) ?_ | refine And.intro (Int.natCast_nonneg _) ?_ | refine fun (_ : Nat) => ?_ | refine Ord.go ?_ | refine Run.go rfl ?_ | refine Cont.go rfl ?_ | refine OrdP.go ?_)
        exact ⟨_, [], FinOk.drop _ _, bad_ ((decD_eq hh hns).2 (fun hc => hck hc.2))⟩
      · refine ⟨rfl, scal_u8s _ _ _, .tuple [.sl 4 ge Ce (encI st pl kd [] ([] : List Sn).length).length, .int .i64 0], Sub.tuples ⟨Sub.sl _ 4 _ _ _, Sub.refl _, trivial⟩, ?_⟩
        repeat (first | refine OpsT.cons ?_ | refine OpsT.nil ?_ | refine OrdE.cons rfl ?_ | refine OrdE.nil ?_ | refine Run.textT C2_ok ?_ | refine And.intro rfl ?_ | refine And.intro (Nat.le_of_ble_eq_true rfl) ?_ | refine And.intro (Int.natCast_nonneg _) ?_ | refine fun (_ : Nat) => ?_ | refine Ord.go ?_ | refine Run.go rfl ?_ | refine Cont.go rfl ?_ | refine OrdP.go ?_)
        refine ⟨fun h => absurd rfl h, fun _ => ?_⟩
        have cq := toC2 (equalB_spec (encI st pl kd [] ([] : List Sn).length) d (encI st pl kd [] ([] : List Sn).length).length n (Nat.le_refl _) hn (by rw [hen, List.length_take, tl]; omega))
        rw [List.take_length] at cq
        by_cases hat2 : at_ = n
        · have hdec : decide ((encI st pl kd [] ([] : List Sn).length) = d.take n) = true := decide_eq_true (by rw [hen, hat2, List.take_take, Nat.min_self])
          rw [hdec] at cq
          repeat (first | refine OpsT.cons ?_ | refine OpsT.nil ?_ | refine OrdE.cons rfl ?_ | refine OrdE.nil ?_ | refine Run.textT C2_ok ?_ | refine And.intro rfl ?_ | refine And.intro (Nat.le_of_ble_eq_true rfl) ?_ | refine And.intro (Int.natCast_nonneg _) ?_ | refine fun (_ : Nat) => ?_ | refine Ord.go ?_ | refine Run.go rfl ?_ | refine Cont.go rfl ?_ | refine OrdP.go ?_)
          refine ACallT.ok (ACall.ret_lend (.two (.row _ _ _ _ _ _ _ rfl (by rw [u8s_len]; exact Nat.le_refl _)) (.same _)) cq rfl ?_)
          repeat (first | refine OpsT.cons ?_ | refine OpsT.nil ?_ | refine OrdE.cons rfl ?_ | refine OrdE.nil ?_ | refine Run.textT C2_ok ?_ | refine And.intro rfl ?_ | refine And.intro (Nat.le_of_ble_eq_true rfl) ?_ | refine And.intro (Int.natCast_nonneg _) ?_ | refine fun (_ : Nat) => ?_ | refine Ord.go ?_ | refine Run.go rfl ?_ | refine Cont.go rfl ?_ | refine OrdP.go ?_)
          exact ⟨.tuple [shot st pl kd (.nils), .int .i64 0], _, FinOk.keep _ [3] (Sub.refl _) (by decide) rfl, .inr (.inr ⟨hlen, st, pl, kd, [], (decD_eq hh hns).1 ⟨by rw [tl]; exact hat2, hck⟩, .nils, g, _, .inl ⟨rfl, rfl, rfl⟩, rfl, rfl⟩)⟩
        · have hdec : decide ((encI st pl kd [] ([] : List Sn).length) = d.take n) = false := decide_eq_false (fun h => by
            have := congrArg List.length h
            rw [hen, List.length_take, tl] at this
            omega)
          rw [hdec] at cq
          repeat (first | refine OpsT.cons ?_ | refine OpsT.nil ?_ | refine OrdE.cons rfl ?_ | refine OrdE.nil ?_ | refine Run.textT C2_ok ?_ | refine And.intro rfl ?_ | refine And.intro (Nat.le_of_ble_eq_true rfl) ?_ | refine And.intro (Int.natCast_nonneg _) ?_ | refine fun (_ : Nat) => ?_ | refine Ord.go ?_ | refine Run.go rfl ?_ | refine Cont.go rfl ?_ | refine OrdP.go ?_)
          refine ACallT.ok (ACall.ret_lend (.two (.row _ _ _ _ _ _ _ rfl (by rw [u8s_len]; exact Nat.le_refl _)) (.same _)) cq rfl ?_)
          repeat (first | refine OpsT.cons ?_ | refine OpsT.nil ?_ | refine OrdE.cons rfl ?_ | refine OrdE.nil ?_ | refine Run.textT C2_ok ?_ | refine And.intro rfl ?_ | refine And.intro (Nat.le_of_ble_eq_true rfl) ?_ | refine And.intro (Int.natCast_nonneg _) ?_ | refine fun (_ : Nat) => ?_ | refine Ord.go ?_ | refine Run.go rfl ?_ | refine Cont.go rfl ?_ | refine OrdP.go ?_)
          exact ⟨_, [], FinOk.drop _ _, bad_ ((decD_eq hh hns).2 (fun hc => hat2 (by rw [tl] at hc; exact hc.1)))⟩
  · repeat (first | refine OpsT.cons ?_ | refine OpsT.nil ?_ | refine OrdE.cons rfl ?_ | refine OrdE.nil ?_ | refine Run.textT C2_ok ?_ | refine And.intro rfl ?_ | refine And.intro (Nat.le_of_ble_eq_true rfl) ?_ | refine And.intro (Int.natCast_nonneg _) ?_ | refine fun (_ : Nat) => ?_ | refine Ord.go ?_ | refine Run.go rfl ?_ | refine Cont.go rfl ?_ | refine OrdP.go ?_)
    refine ⟨fun h => ?_, fun h => ?_⟩
    · have h1 : (0 : Int) < ((cnt - j : Nat) : Int) := h
      repeat (first | refine OpsT.cons ?_ | refine OpsT.nil ?_ | refine OrdE.cons rfl ?_ | refine OrdE.nil ?_ | refine Run.textT C2_ok ?_ | refine And.intro rfl ?_ | refine And.intro (Nat.le_of_ble_eq_true rfl) ?_ | refine And.intro (Int.natCast_nonneg _) ?_ | refine fun (_ : Nat) => ?_ | refine Ord.go ?_ | refine Run.go rfl ?_ | refine Cont.go rfl ?_ | refine OrdP.go ?_)
      refine Run.drawnE C2_ok [0] [10, 11, 12] [0, 1, 2, 4, 6, 3, 5, 7, 8, 9] (by kernel_rfl) rfl ?_
      repeat (first | refine OpsT.cons ?_ | refine OpsT.nil ?_ | refine OrdE.cons rfl ?_ | refine OrdE.nil ?_ | refine Run.textT C2_ok ?_ | refine And.intro rfl ?_ | refine And.intro (Nat.le_of_ble_eq_true rfl) ?_ | refine And.intro (Int.natCast_nonneg _) ?_ | refine fun (_ : Nat) => ?_ | refine Ord.go ?_ | refine Run.go rfl ?_ | refine Cont.go rfl ?_ | refine OrdP.go ?_)
      refine ACallE.sel [2] (by decide) rfl [.ptr 0 gr 0] _ _ (.one (Sub.ptr _ _ _ _)) (rText_spec d n at_ hn hb (by omega) hN gr) ?_ ?_
      case' refine_2 =>
        rintro v L' ⟨e1, rfl, rfl⟩
        have hnone := decD_none2 hh (rdNs_fail hns (rdNode_none1 e1) (by omega))
        repeat (first | refine OpsT.cons ?_ | refine OpsT.nil ?_ | refine OrdE.cons rfl ?_ | refine OrdE.nil ?_ | refine Run.textT C2_ok ?_ | refine And.intro rfl ?_ | refine And.intro (Nat.le_of_ble_eq_true rfl) ?_ | refine And.intro (Int.natCast_nonneg _) ?_ | refine fun (_ : Nat) => ?_ | refine Ord.go ?_ | refine Run.go rfl ?_ | refine Cont.go rfl ?_ | refine OrdP.go ?_)
        refine ⟨_, rfl, ?_⟩
        repeat (first | refine OpsT.cons ?_ | refine OpsT.nil ?_ | refine OrdE.cons rfl ?_ | refine OrdE.nil ?_ | refine Run.textT C2_ok ?_ | refine And.intro rfl ?_ | refine And.intro (Nat.le_of_ble_eq_true rfl) ?_ | refine And.intro (Int.natCast_nonneg _) ?_ | refine fun (_ : Nat) => ?_ | refine Ord.go ?_ | refine Run.go rfl ?_ | refine Cont.go rfl ?_ | refine OrdP.go ?_)
        exact ⟨_, [], FinOk.drop _ _, bad_ hnone⟩
      rintro r L' ⟨p, b1, e1, rfl, rfl⟩
      have w1 := readT_spec hbt e1
      rw [tl] at w1
      refine ⟨_, Sub.refl _, ?_⟩
      repeat (first | refine OpsT.cons ?_ | refine OpsT.nil ?_ | refine OrdE.cons rfl ?_ | refine OrdE.nil ?_ | refine Run.textT C2_ok ?_ | refine And.intro rfl ?_ | refine And.intro (Nat.le_of_ble_eq_true rfl) ?_ | refine And.intro (Int.natCast_nonneg _) ?_ | refine fun (_ : Nat) => ?_ | refine Ord.go ?_ | refine Run.go rfl ?_ | refine Cont.go rfl ?_ | refine OrdP.go ?_)
      refine ACallE.sel [2] (by decide) rfl [.ptr 0 gr 0] _ _ (.one (Sub.ptr _ _ _ _)) (rText_spec d n b1 hn hb (by omega) hN gr) ?_ ?_
      case' refine_2 =>
        rintro v L' ⟨e2, rfl, rfl⟩
        have hnone := decD_none2 hh (rdNs_fail hns (rdNode_none2 e1 e2) (by omega))
        repeat (first | refine OpsT.cons ?_ | refine OpsT.nil ?_ | refine OrdE.cons rfl ?_ | refine OrdE.nil ?_ | refine Run.textT C2_ok ?_ | refine And.intro rfl ?_ | refine And.intro (Nat.le_of_ble_eq_true rfl) ?_ | refine And.intro (Int.natCast_nonneg _) ?_ | refine fun (_ : Nat) => ?_ | refine Ord.go ?_ | refine Run.go rfl ?_ | refine Cont.go rfl ?_ | refine OrdP.go ?_)
        refine ⟨_, rfl, ?_⟩
        repeat (first | refine OpsT.cons ?_ | refine OpsT.nil ?_ | refine OrdE.cons rfl ?_ | refine OrdE.nil ?_ | refine Run.textT C2_ok ?_ | refine And.intro rfl ?_ | refine And.intro (Nat.le_of_ble_eq_true rfl) ?_ | refine And.intro (Int.natCast_nonneg _) ?_ | refine fun (_ : Nat) => ?_ | refine Ord.go ?_ | refine Run.go rfl ?_ | refine Cont.go rfl ?_ | refine OrdP.go ?_)
        exact ⟨_, [], FinOk.drop _ _, bad_ hnone⟩
      rintro r L' ⟨q, b2, e2, rfl, rfl⟩
      have w2 := readT_spec hbt e2
      rw [tl] at w2
      refine ⟨_, Sub.refl _, ?_⟩
      repeat (first | refine OpsT.cons ?_ | refine OpsT.nil ?_ | refine OrdE.cons rfl ?_ | refine OrdE.nil ?_ | refine Run.textT C2_ok ?_ | refine And.intro rfl ?_ | refine And.intro (Nat.le_of_ble_eq_true rfl) ?_ | refine And.intro (Int.natCast_nonneg _) ?_ | refine fun (_ : Nat) => ?_ | refine Ord.go ?_ | refine Run.go rfl ?_ | refine Cont.go rfl ?_ | refine OrdP.go ?_)
      refine ACallE.sel [2] (by decide) rfl [.ptr 0 gr 0] _ _ (.one (Sub.ptr _ _ _ _)) (rNumber_spec d n b2 hn hb (by omega) hN gr) ?_ ?_
      case' refine_2 =>
        rintro v L' ⟨e3, rfl, rfl⟩
        have hnone := decD_none2 hh (rdNs_fail hns (rdNode_none3 e1 e2 e3) (by omega))
        repeat (first | refine OpsT.cons ?_ | refine OpsT.nil ?_ | refine OrdE.cons rfl ?_ | refine OrdE.nil ?_ | refine Run.textT C2_ok ?_ | refine And.intro rfl ?_ | refine And.intro (Nat.le_of_ble_eq_true rfl) ?_ | refine And.intro (Int.natCast_nonneg _) ?_ | refine fun (_ : Nat) => ?_ | refine Ord.go ?_ | refine Run.go rfl ?_ | refine Cont.go rfl ?_ | refine OrdP.go ?_)
        refine ⟨_, rfl, ?_⟩
        repeat (first | refine OpsT.cons ?_ | refine OpsT.nil ?_ | refine OrdE.cons rfl ?_ | refine OrdE.nil ?_ | refine Run.textT C2_ok ?_ | refine And.intro rfl ?_ | refine And.intro (Nat.le_of_ble_eq_true rfl) ?_ | refine And.intro (Int.natCast_nonneg _) ?_ | refine fun (_ : Nat) => ?_ | refine Ord.go ?_ | refine Run.go rfl ?_ | refine Cont.go rfl ?_ | refine OrdP.go ?_)
        exact ⟨_, [], FinOk.drop _ _, bad_ hnone⟩
      rintro r L' ⟨w, b3, e3, rfl, rfl⟩
      have w3 := readN_spec hbt e3
      rw [tl] at w3
      have hx := rdNode_some e1 e2 e3
      refine ⟨_, Sub.refl _, ?_⟩
      repeat (first | refine OpsT.cons ?_ | refine OpsT.nil ?_ | refine OrdE.cons rfl ?_ | refine OrdE.nil ?_ | refine Run.textT C2_ok ?_ | refine And.intro rfl ?_ | refine And.intro (Nat.le_of_ble_eq_true rfl) ?_ | refine And.intro (Int.natCast_nonneg _) ?_ | refine fun (_ : Nat) => ?_ | refine Ord.go ?_ | refine Run.go rfl ?_ | refine Cont.go rfl ?_ | refine OrdP.go ?_)
      refine ⟨(List.length_map ..).symm, ?_⟩
      repeat (first | refine OpsT.cons ?_ | refine OpsT.nil ?_ | refine OrdE.cons rfl ?_ | refine OrdE.nil ?_ | refine Run.textT C2_ok ?_ | refine And.intro rfl ?_ | refine And.intro (Nat.le_of_ble_eq_true rfl) ?_ | refine And.intro (Int.natCast_nonneg _) ?_ | refine fun (_ : Nat) => ?_ | refine Ord.go ?_ | refine Run.go rfl ?_ | refine Cont.go rfl ?_ | refine OrdP.go ?_)
      refine ⟨show ((l.map enc).length + 1) * 40 ≤ _ by rw [List.length_map]; omega, ?_⟩
      repeat (first | refine OpsT.cons ?_ | refine OpsT.nil ?_ | refine OrdE.cons rfl ?_ | refine OrdE.nil ?_ | refine Run.textT C2_ok ?_ | refine And.intro rfl ?_ | refine And.intro (Nat.le_of_ble_eq_true rfl) ?_ | refine And.intro (Int.natCast_nonneg _) ?_ | refine fun (_ : Nat) => ?_ | refine Ord.go ?_ | refine Run.go rfl ?_ | refine Cont.go rfl ?_ | refine OrdP.go ?_)
      rename_i gb g2 C2'
      refine fun r hr => ?_
      obtain rfl : r = ((cnt - (j + 1) : Nat) : Int) := by rw [hr, IntKind.wrap_i64]; omega
      repeat (first | refine OpsT.cons ?_ | refine OpsT.nil ?_ | refine OrdE.cons rfl ?_ | refine OrdE.nil ?_ | refine Run.textT C2_ok ?_ | refine And.intro rfl ?_ | refine And.intro (Nat.le_of_ble_eq_true rfl) ?_ | refine And.intro (Int.natCast_nonneg _) ?_ | refine fun (_ : Nat) => ?_ | refine Ord.go ?_ | refine Run.go rfl ?_ | refine Cont.go rfl ?_ | refine OrdP.go ?_)
      refine Cont.lpW ?_
      refine ⟨cnt - (j + 1), [rdb d n, .junk, .ptr 0 g0 0, .ptr 1 g1 0, .ptr 2 gr 0, .int .i64 ((cnt - (j + 1) : Nat) : Int), .junk, .junk, .junk, .junk, .junk, .junk, .junk, .junk, .junk, .junk, .junk, .junk, .junk, .junk, .junk, .junk, .junk, .junk, .junk, .junk, .junk, .junk, .junk, .junk, .junk, .junk, .junk, .junk, .junk, .junk, .junk, .junk, .junk, .junk, .junk, .junk, .junk, .junk, .junk, .junk, .junk, .junk, .junk, .junk, .junk, .junk, .junk, .junk, .junk], [(g0, .cells 24 [.int .i64 st, .str pl, .int .i64 kd, .sl 3 g2 C2' ((l.map enc).length + 1)]), (g1, .cells 29 [.int .i64 0]), (gr, .cells 77 [rdb d n, .int .i64 (b3 : Nat)]), (g2, .row 50 3 C2' (l.map enc ++ [enc ⟨p, q, w⟩]))], by omega, Weak.sel ?_ [0, 1, 2, 3] (by decide) ⟨rfl, SubO.refl _, rfl, SubO.refl _, rfl, SubO.refl _, rfl, SubO.refl _, trivial⟩,
        ⟨j + 1, l ++ [⟨p, q, w⟩], (.sl 3 g2 C2' ((l.map enc).length + 1)), (.row 50 3 C2' (l.map enc ++ [enc ⟨p, q, w⟩])), g2, b3, rfl, by omega, by simp; omega, .inr ⟨C2', by simp, by simp⟩, by omega, rdNs_step hns hx, rfl, rfl⟩⟩
      repeat (first | exact trivial | refine And.intro (Sub.junk _) ?_ | refine And.intro (Sub.refl _) ?_ | refine And.intro (Sub.sl _ _ _ _ _) ?_ | refine And.intro (Sub.ptr _ _ _ _) ?_)
    · have h1 : ¬ (0 : Int) < ((cnt - j : Nat) : Int) := h
      have hjc : j = cnt := by omega
      rw [hjc] at hns hli
      have px := hsp.2.2.2.1

      have hen := enc_read hbt hh hns
      have ce := toC2 (encode_spec st pl kd l (l : List Sn).length (Nat.le_refl _) (fun x hx => by have := px x hx; omega))
      repeat (first | refine OpsT.cons ?_ | refine OpsT.nil ?_ | refine OrdE.cons rfl ?_ | refine OrdE.nil ?_ | refine Run.textT C2_ok ?_ | refine And.intro rfl ?_ | refine And.intro (Nat.le_of_ble_eq_true rfl) ?_ | refine And.intro (Int.natCast_nonneg _) ?_ | refine fun (_ : Nat) => ?_ | refine Ord.go ?_ | refine Run.go rfl ?_ | refine Cont.go rfl ?_ | refine OrdP.go ?_)
      refine ACallT.ok (ACall.lendNew (args' := [shot st pl kd (rdo l (l : List Sn).length)]) (.one (Lend.aggs ⟨.same _, .same _, .same _, (.row _ _ _ _ _ _ _ rfl (by rw [List.length_map]; exact Nat.le_refl _)), trivial⟩)) ce ?_)
      rintro r L' (⟨hck, rfl, rfl⟩ | ⟨hck, ge, Ce, rfl, rfl⟩)
      · refine ⟨rfl, rfl, _, Sub.refl _, ?_⟩
        repeat (first | refine OpsT.cons ?_ | refine OpsT.nil ?_ | refine OrdE.cons rfl ?_ | refine OrdE.nil ?_ | refine Run.textT C2_ok ?_ | refine And.intro rfl ?_ | refine And.intro (Nat.le_of_ble_eq_true rfl) ?_ | refine And.intro (Int.natCast_nonneg _) ?_ | refine fun (_ : Nat) => ?_ | refine Ord.go ?_ | refine Run.go rfl ?_ | refine Cont.go rfl ?_ | refine OrdP.go ?_)
        refine ⟨fun _ => ?_, fun h => absurd (by decide) h⟩
        repeat (first | refine OpsT.cons ?_ | refine OpsT.nil ?_ | refine OrdE.cons rfl ?_ | refine OrdE.nil ?_ | refine Run.textT C2_ok ?_ | refine And.intro rfl ?_ | refine And.intro (Nat.le_of_ble_eq_true rfl) ?_ | refine And.intro (Int.natCast_nonneg _) ?_ | refine fun (_ : Nat) => ?_ | refine Ord.go ?_ | refine Run.go rfl ?_ | refine Cont.go rfl ?_ | refine OrdP.go ?_)
        exact ⟨_, [], FinOk.drop _ _, bad_ ((decD_eq hh hns).2 (fun hc => hck hc.2))⟩
      · refine ⟨rfl, scal_u8s _ _ _, .tuple [.sl 4 ge Ce (encI st pl kd l (l : List Sn).length).length, .int .i64 0], Sub.tuples ⟨Sub.sl _ 4 _ _ _, Sub.refl _, trivial⟩, ?_⟩
        repeat (first | refine OpsT.cons ?_ | refine OpsT.nil ?_ | refine OrdE.cons rfl ?_ | refine OrdE.nil ?_ | refine Run.textT C2_ok ?_ | refine And.intro rfl ?_ | refine And.intro (Nat.le_of_ble_eq_true rfl) ?_ | refine And.intro (Int.natCast_nonneg _) ?_ | refine fun (_ : Nat) => ?_ | refine Ord.go ?_ | refine Run.go rfl ?_ | refine Cont.go rfl ?_ | refine OrdP.go ?_)
        refine ⟨fun h => absurd rfl h, fun _ => ?_⟩
        have cq := toC2 (equalB_spec (encI st pl kd l (l : List Sn).length) d (encI st pl kd l (l : List Sn).length).length n (Nat.le_refl _) hn (by rw [hen, List.length_take, tl]; omega))
        rw [List.take_length] at cq
        by_cases hat2 : at_ = n
        · have hdec : decide ((encI st pl kd l (l : List Sn).length) = d.take n) = true := decide_eq_true (by rw [hen, hat2, List.take_take, Nat.min_self])
          rw [hdec] at cq
          repeat (first | refine OpsT.cons ?_ | refine OpsT.nil ?_ | refine OrdE.cons rfl ?_ | refine OrdE.nil ?_ | refine Run.textT C2_ok ?_ | refine And.intro rfl ?_ | refine And.intro (Nat.le_of_ble_eq_true rfl) ?_ | refine And.intro (Int.natCast_nonneg _) ?_ | refine fun (_ : Nat) => ?_ | refine Ord.go ?_ | refine Run.go rfl ?_ | refine Cont.go rfl ?_ | refine OrdP.go ?_)
          refine ACallT.ok (ACall.ret_lend (.two (.row _ _ _ _ _ _ _ rfl (by rw [u8s_len]; exact Nat.le_refl _)) (.same _)) cq rfl ?_)
          repeat (first | refine OpsT.cons ?_ | refine OpsT.nil ?_ | refine OrdE.cons rfl ?_ | refine OrdE.nil ?_ | refine Run.textT C2_ok ?_ | refine And.intro rfl ?_ | refine And.intro (Nat.le_of_ble_eq_true rfl) ?_ | refine And.intro (Int.natCast_nonneg _) ?_ | refine fun (_ : Nat) => ?_ | refine Ord.go ?_ | refine Run.go rfl ?_ | refine Cont.go rfl ?_ | refine OrdP.go ?_)
          exact ⟨.tuple [shot st pl kd (.sl 0 g Cp l.length), .int .i64 0], _, FinOk.keep _ [3] (Sub.tuples ⟨Sub.aggs ⟨Sub.refl _, Sub.refl _, Sub.refl _, Sub.sl _ 0 _ _ _, trivial⟩, Sub.refl _, trivial⟩) (by decide) rfl, .inr (.inr ⟨hlen, st, pl, kd, l, (decD_eq hh hns).1 ⟨by rw [tl]; exact hat2, hck⟩, .sl 0 g Cp l.length, g, _, .inr ⟨Cp, rfl, rfl⟩, rfl, rfl⟩)⟩
        · have hdec : decide ((encI st pl kd l (l : List Sn).length) = d.take n) = false := decide_eq_false (fun h => by
            have := congrArg List.length h
            rw [hen, List.length_take, tl] at this
            omega)
          rw [hdec] at cq
          repeat (first | refine OpsT.cons ?_ | refine OpsT.nil ?_ | refine OrdE.cons rfl ?_ | refine OrdE.nil ?_ | refine Run.textT C2_ok ?_ | refine And.intro rfl ?_ | refine And.intro (Nat.le_of_ble_eq_true rfl) ?_ | refine And.intro (Int.natCast_nonneg _) ?_ | refine fun (_ : Nat) => ?_ | refine Ord.go ?_ | refine Run.go rfl ?_ | refine Cont.go rfl ?_ | refine OrdP.go ?_)
          refine ACallT.ok (ACall.ret_lend (.two (.row _ _ _ _ _ _ _ rfl (by rw [u8s_len]; exact Nat.le_refl _)) (.same _)) cq rfl ?_)
          repeat (first | refine OpsT.cons ?_ | refine OpsT.nil ?_ | refine OrdE.cons rfl ?_ | refine OrdE.nil ?_ | refine Run.textT C2_ok ?_ | refine And.intro rfl ?_ | refine And.intro (Nat.le_of_ble_eq_true rfl) ?_ | refine And.intro (Int.natCast_nonneg _) ?_ | refine fun (_ : Nat) => ?_ | refine Ord.go ?_ | refine Run.go rfl ?_ | refine Cont.go rfl ?_ | refine OrdP.go ?_)
          exact ⟨_, [], FinOk.drop _ _, bad_ ((decD_eq hh hns).2 (fun hc => hat2 (by rw [tl] at hc; exact hc.1)))⟩
end Go.Proofs.YtfohedaadncefaaDoor.HBT
/- Regions in the text's order, by whatever sound rules for their operations; lists that are made. -/
namespace Go.Proofs.YtfohedaadncefaaDoor.HB
open Go

/-- Rules for an operation: what goes on behind it, what behind its panic. -/
abbrev OpRule := Oper → List AV → AHeap → (AV → AHeap → Prop) → (Value → AHeap → Prop) → Prop
/-- The model's operation does what the rules say. -/
def OpRule.Sound (C : Cx) (A : OpRule) : Prop := ∀ (o : Oper) (env : List AV) (L : AHeap) (K : AV → AHeap → Prop) (KP : Value → AHeap → Prop), A o env L K KP → ∀ (imm : Nat → Prop) (w : World) (a : Act), C.G imm w → Sat imm w L → EnvR imm w env a.tmps →
  ∀ (next : Act → World → Prop) (Q : Exit → Act → World → Prop), (∀ x L' imm' v w', K x L' → Sat imm' w' L' → VR imm' w' x v → Tr (Own L) imm w (Own L') imm' w' → next (a.put o.dst v) w') →
    (∀ v L' imm' w', KP v L' → Sat imm' w' L' → Tr (Own L) imm w (Own L') imm' w' → Q (.panic (chain1 v)) a w') → o.wp C.P a w next Q

def awpOpsA (A : OpRule) (ops : Array Oper) (KP : Value → List AV → AHeap → Prop) : List Oper → (List AV → AHeap → Prop) → List AV → AHeap → Prop
  | [], Q, env, L => Q env L
  | o :: rest, Q, env, L => aoperG (fun o env L K => A o env L K fun v L' => KP v env L') ops o env L fun env' L' => awpOpsA A ops KP rest Q env' L'

theorem awpOpsA_text {C : Cx} (hC : C.Ok) {A : OpRule} (hA : A.Sound C) {F : Fr} {ops : Array Oper} {Q : List AV → AHeap → Prop} {KP : Value → List AV → AHeap → Prop} {Qc : Exit → Act → World → Prop} (hQ : ∀ env L a w, Q env L → At C F env L a w → Qc .normal a w)
    (hP : ∀ v env L a w, KP v env L → At C F env L a w → Qc (.panic (chain1 v)) a w) :
    ∀ (n k : Nat) (env : List AV) (L : AHeap) (a : Act) (w : World), k + n = ops.size → awpOpsA A ops KP (ops.toList.drop k) Q env L → At C F env L a w → wpOps C.P ops Qc (List.range' k n) a w
  | 0, k, env, L, a, w, hk, h, ha => by
    rw [List.drop_of_length_le (by simp; omega)] at h
    exact hQ _ _ _ _ h ha
  | n + 1, k, env, L, a, w, hk, h, ha => by
    have hlt : k < ops.size := by omega
    have hd : ops.toList.drop k = ops[k] :: ops.toList.drop (k + 1) := by
      rw [List.drop_eq_getElem_cons (by simpa using hlt)]
      rfl
    rw [hd] at h
    rw [List.range'_succ]
    simp only [wpOps]
    rw [Array.getElem?_eq_getElem hlt]
    obtain ⟨imm, hst, hG⟩ := ha
    simp only
    rcases aoperG_cases h hst.env with ⟨hw, h⟩ | ⟨hw, h⟩
    · rw [if_pos hw]
      refine .inl (hA _ _ _ _ _ h _ _ _ hG hst.sat hst.env _ _ (fun x L' imm' v w' hk' hs hx ht => ?_) (fun v L' imm' w' hk' hs ht => ?_))
      · exact awpOpsA_text hC hA hQ hP n (k + 1) _ _ _ _ (by omega) hk' (At.next hC hst hG hs hx ht _)
      · exact hP _ _ _ _ _ hk' ⟨imm', hst.step hs ht, hC.mono _ _ _ _ hG ht.imm1 (ht.immblock hst.sat.far hst.sat.immlt)⟩
    · rw [if_neg (by rw [hw]; simp)]
      exact awpOpsA_text hC hA hQ hP n (k + 1) _ _ _ _ (by omega) h ⟨imm, hst.put undef_VR _, hG⟩

/-- The rest of a region in the text's order, by these rules. -/
structure OpsA (C : Cx) (A : OpRule) (Q : Exit → List AV → AHeap → Prop) (k : List Frame) (ops : Array Oper) (rest : List Oper) (env : List AV) (L : AHeap) : Prop where
  ok : awpOpsA A ops (fun v => after C Q k (.panic (chain1 v))) rest (after C Q k .normal) env L
section
variable {C : Cx} {A : OpRule} {Q : Exit → List AV → AHeap → Prop} {k : List Frame} {env : List AV} {L : AHeap}
theorem Run.textA (hC : C.Ok) (hA : A.Sound C) {id : Nat} {ops : Array Oper} (h : OpsA C A Q k ops ops.toList env L) : Run C Q k (.region id ops false) env L :=
  Run.sem0 fun F a w ha => by
    have := awpOpsA_text (ops := ops) (Qc := QC C F (after C Q k)) hC hA (fun env L a w hq ha => ⟨env, L, ha, hq⟩) (fun v env L a w hq ha => ⟨env, L, ha, hq⟩) ops.size 0 env L a w (Nat.zero_add _) (by simpa using h.ok) ha
    rw [← List.range_eq_range'] at this
    exact wp_region this
theorem OpsA.nil {ops : Array Oper} (h : Cont C Q k .normal env L) : OpsA C A Q k ops [] env L := ⟨h.ok⟩
theorem OpsA.cons {ops : Array Oper} {o : Oper} {rest : List Oper} (h : aoperG (fun o env L K => A o env L K fun v L' => Cont C Q k (.panic (chain1 v)) env L') ops o env L fun env' L' => OpsA C A Q k ops rest env' L') : OpsA C A Q k ops (o :: rest) env L := by
  have e : (fun env' L' => OpsA C A Q k ops rest env' L') = fun env' L' => awpOpsA A ops (fun v => after C Q k (.panic (chain1 v))) rest (after C Q k .normal) env' L' := by
    funext env' L'
    exact propext ⟨fun h => h.ok, fun h => ⟨h⟩⟩
  have e2 : (fun (o : Oper) (env : List AV) (L : AHeap) (K : AV → AHeap → Prop) => A o env L K fun v L' => Cont C Q k (.panic (chain1 v)) env L') = fun o env L K => A o env L K fun v L' => after C Q k (.panic (chain1 v)) env L' := by
    funext o env L K
    congr 1
    funext v L'
    exact propext ⟨fun h => h.ok, fun h => ⟨h⟩⟩
  rw [e, e2] at h
  exact ⟨h⟩
end

/-- Lists that are made, of elements of one cell. -/
def aopM (C : Cx) : OpRule := fun o env L K KP =>
  match o.op with
  | .makeSlice t x y => match C.T t, aeval env x, aeval env y with
    | some (.slice e 1 by_ _ [z]), .int _ n, .int _ m => m = n ∧ 0 ≤ n ∧ by_ * n.toNat ≤ 281474976710656 ∧ n ≤ 9223372036854775807 ∧ ∀ g, K (.sl L.length g n.toNat n.toNat) (L ++ [(g, .row e 1 n.toNat (List.replicate n.toNat z))])
    | _, _, _ => False
  | _ => aopT C o env L K KP
theorem aopM_sound {C : Cx} (hC : C.Ok) : (aopM C).Sound C := by
  intro o env L K KP h imm w a hG hs he next Q hn hp
  unfold aopM at h
  split at h
  case h_2 => exact aopT_sound hC h hG hs he hn hp
  rename_i t x y ho
  have hx := aeval_VR he x
  have hy := aeval_VR he y
  split at h
  case h_2 => exact h.elim
  rename_i e by_ ea z kn n km m ht ex ey
  obtain ⟨rfl, h0, hb, h63, hk⟩ := h
  rw [ex] at hx
  rw [ey] at hy
  generalize hxx : a.eval x = u at hx
  generalize hyy : a.eval y = u' at hy
  cases hx
  cases hy
  obtain ⟨hu, j, ze, hj, hsz, hby, hze, hzs, hs0, hz1, hzo, _, _⟩ := tiOf_slice (hC.types _ _ ht)
  have hcell : ∃ c, ze.cells = #[c] := by
    obtain ⟨l, hl⟩ : ∃ l, ze.cells = l.toArray := ⟨ze.cells.toList, by simp⟩
    rw [hl] at hz1
    cases l with
    | nil => simp at hz1
    | cons c l => cases l with
      | nil => exact ⟨c, hl⟩
      | cons => simp at hz1
  obtain ⟨c, hc⟩ := hcell
  have hb' : (by_ : Int) * m ≤ 281474976710656 := by
    have := Int.ofNat_le.2 hb
    rw [Int.natCast_mul, show ((m.toNat : Nat) : Int) = m by omega] at this
    exact this
  have hrun := run_make (P := C.P) w t e j ze hu hj hze kn km m m h0 (Int.le_refl _) (by rw [hby]; exact hb') h63
  have hcs : (madeCells ze.cells (m.toNat * j.size)).toList = List.replicate m.toNat c := by
    rw [hc, hsz, Nat.mul_one]
    exact toList_madeCells_one c _
  refine wp_value (v := .slice (some ⟨w.heap.size, 0, none⟩) m.toNat m.toNat) (w' := w.alloc (.cells (madeCells ze.cells (m.toNat * j.size)) e)) (by simp only [execOp, ho, hxx, hyy]; rw [Sem.run_bind, hrun]; rfl) ?_
  have hz : [ofV c] = [z] := by rw [← hz1, hc]; rfl
  have hzc : ofV c = z := by simpa using hz
  have hone : ∀ u ∈ ze.cells.toList, u.oneCell' = true := hzo
  have hflat : ∀ v : Value, flat (ofV v) = [ofV v] := fun v => by unfold ofV; split <;> rfl
  have hfl : ∀ k, flats (List.replicate k z) = List.replicate k z := fun k => by
    induction k with
    | zero => rfl
    | succ k ih => rw [List.replicate_succ, flats_cons, ih, ← hzc, hflat]; rfl
  have hrepl : VRs imm (w.alloc (.cells (madeCells ze.cells (m.toNat * j.size)) e)) (flats (List.replicate m.toNat z)) (List.replicate m.toNat c) := by
    rw [hfl, ← hzc, ← List.map_replicate]
    exact map_ofV_VRs _ _ _ (fun u hu => by
      rw [List.eq_of_mem_replicate hu]
      exact hone c (by rw [hc]; simp))
  refine hn _ _ imm _ _ (hk w.heap.size) (hs.new (by simp) (fun i hi => (World.grownBy_alloc w _ none).block i hi (by simp)) ?_) (.sl _ _ _ _) (Tr.new (World.grownBy_alloc w _ none) _)
  refine .row e 1 m.toNat _ (List.replicate m.toNat c) [] ?_ (by decide) (fun x hx => ?_) (by simp) (by simp [maxLen]; omega) (by simp) hrepl
  · rw [List.append_nil, ← hcs, Array.toArray_toList]
    exact heap_alloc_new w _
  · rw [List.eq_of_mem_replicate hx, ← hzc, hflat]; rfl
end Go.Proofs.YtfohedaadncefaaDoor.HB
