/- The contract of the document's own text 'Decode'. -/
import Derived.Test.YtfohedaadncefaaDoorHbC2
namespace Go.Proofs.YtfohedaadncefaaDoor.HBT
open Go Go.Proofs.YtfohedaadncefaaDoor.HB Go.RowKit
set_option maxRecDepth 20000

/-- What a decoding answers. -/
def DecQ (d : List Int) (r : AV) (L' : AHeap) : Prop :=
  (262144 < d.length ∧ r = .tuple [shot0, .int .i64 2] ∧ L' = []) ∨ (¬ 262144 < d.length ∧ decD d = none ∧ r = .tuple [shot0, .int .i64 51] ∧ L' = []) ∨
  (¬ 262144 < d.length ∧ ∃ st pl kd l, decD d = some (st, pl, kd, l) ∧ ∃ v g o, LN 0 l v g o ∧ r = .tuple [shot st pl kd v, .int .i64 0] ∧ L' = [(g, o)])
theorem decD_none1 {d : List Int} (h : rdHead d = none) : decD d = none := by unfold decD; rw [h]
theorem decD_none2 {d : List Int} {st kd n a : Nat} {pl : ByteArray} (h : rdHead d = some (st, pl, kd, n, a)) (h2 : rdNs d a n = none) : decD d = none := by unfold decD; rw [h]; simp only [h2]
theorem decD_eq {d : List Int} {st kd n a at_ : Nat} {pl : ByteArray} {l : List Sn} (h : rdHead d = some (st, pl, kd, n, a)) (h2 : rdNs d a n = some (l, at_)) :
    (at_ = d.length ∧ checkP st pl kd l l.length → decD d = some ((st : Int), pl, (kd : Int), l)) ∧ (¬ (at_ = d.length ∧ checkP st pl kd l l.length) → decD d = none) := by
  unfold decD
  rw [h]
  simp only [h2]
  exact ⟨fun h => if_pos h, fun h => if_neg h⟩
theorem rdHead_none1 {d : List Int} (h : readN d 0 = none) : rdHead d = none := by unfold rdHead; rw [h]
theorem rdHead_none2 {d : List Int} {v a : Nat} (h : readN d 0 = some (v, a)) (h2 : readT d a = none) : rdHead d = none := by unfold rdHead; rw [h]; simp only [h2]
theorem rdHead_none3 {d : List Int} {v a b : Nat} {s : ByteArray} (h : readN d 0 = some (v, a)) (h2 : readT d a = some (s, b)) (h3 : readN d b = none) : rdHead d = none := by unfold rdHead; rw [h]; simp only [h2, h3]
theorem rdHead_none4 {d : List Int} {v a b k c : Nat} {s : ByteArray} (h : readN d 0 = some (v, a)) (h2 : readT d a = some (s, b)) (h3 : readN d b = some (k, c)) (h4 : readN d c = none) : rdHead d = none := by unfold rdHead; rw [h]; simp only [h2, h3, h4]
theorem rdHead_some {d : List Int} {v a b k c m e : Nat} {s : ByteArray} (h : readN d 0 = some (v, a)) (h2 : readT d a = some (s, b)) (h3 : readN d b = some (k, c)) (h4 : readN d c = some (m, e)) : rdHead d = some (v, s, k, m, e) := by unfold rdHead; rw [h]; simp only [h2, h3, h4]
theorem rdNode_none1 {d : List Int} {a : Nat} (h : readT d a = none) : rdNode d a = none := by unfold rdNode; rw [h]
theorem rdNode_none2 {d : List Int} {a b : Nat} {s : ByteArray} (h : readT d a = some (s, b)) (h2 : readT d b = none) : rdNode d a = none := by unfold rdNode; rw [h]; simp only [h2]
theorem rdNode_none3 {d : List Int} {a b c : Nat} {s t : ByteArray} (h : readT d a = some (s, b)) (h2 : readT d b = some (t, c)) (h3 : readN d c = none) : rdNode d a = none := by unfold rdNode; rw [h]; simp only [h2, h3]
theorem rdNode_some {d : List Int} {a b c v e : Nat} {s t : ByteArray} (h : readT d a = some (s, b)) (h2 : readT d b = some (t, c)) (h3 : readN d c = some (v, e)) : rdNode d a = some (⟨s, t, v⟩, e) := by unfold rdNode; rw [h]; simp only [h2, h3]

set_option maxHeartbeats 16000000 in
theorem decRef_spec (d : List Int) (n : Nat) (hn : n ≤ d.length) (hb : Bytes d) (hN : n ≤ 1000000) : FnSpec C 18 [rdb d n] [] (DecQ (d.take n)) := by
  have tl : (d.take n).length = n := by rw [List.length_take]; omega
  have hbt := hb.take n
  refine FnSpec.start C_ok Tryd.func18 rfl rfl Tryd.ntmps18 ?_
  repeat (first | refine Ops.go ?_ | refine And.intro rfl ?_ | refine And.intro (Nat.le_of_ble_eq_true rfl) ?_ | refine And.intro (Int.natCast_nonneg _) ?_ | refine fun (_ : Nat) => ?_ | refine Ord.go ?_ | refine Run.go rfl ?_ | refine Cont.go rfl ?_ | refine OrdP.go ?_)
  rename_i g0
  refine ⟨fun h => ?_, fun h => ?_⟩
  · have h : (262144 : Int) < (n : Int) := h
    repeat (first | refine Ops.go ?_ | refine And.intro rfl ?_ | refine And.intro (Nat.le_of_ble_eq_true rfl) ?_ | refine And.intro (Int.natCast_nonneg _) ?_ | refine fun (_ : Nat) => ?_ | refine Ord.go ?_ | refine Run.go rfl ?_ | refine Cont.go rfl ?_ | refine OrdP.go ?_)
    exact ⟨_, [], FinOk.drop _ _, .inl ⟨by omega, rfl, rfl⟩⟩
  have h : ¬ (262144 : Int) < (n : Int) := h
  have hlen : ¬ 262144 < (d.take n).length := by omega
  have bad_ : decD (d.take n) = none → DecQ (d.take n) (.tuple [shot0, .int .i64 51]) [] := fun h => .inr (.inl ⟨hlen, h, rfl, rfl⟩)
  repeat (first | refine Ops.go ?_ | refine And.intro rfl ?_ | refine And.intro (Nat.le_of_ble_eq_true rfl) ?_ | refine And.intro (Int.natCast_nonneg _) ?_ | refine fun (_ : Nat) => ?_ | refine Ord.go ?_ | refine Run.go rfl ?_ | refine Cont.go rfl ?_ | refine OrdP.go ?_)
  rename_i gc gs
  refine ACall.sel [1] (by decide) [.ptr 0 gc 0] _ (.one (Sub.ptr _ _ _ _)) (cNum_spec d n 0 hn hb (by omega) hN gc false) ?_
  rintro r L' (⟨_, st, a1, h0, rfl, rfl⟩ | ⟨hbad, rfl, rfl⟩)
  case' inr =>
    have h0 := hbad.resolve_left (by decide)
    have hnone := decD_none1 (rdHead_none1 h0)
    refine ⟨_, Sub.refl _, ?_⟩
    repeat (first | refine Ops.go ?_ | refine And.intro rfl ?_ | refine And.intro (Nat.le_of_ble_eq_true rfl) ?_ | refine And.intro (Int.natCast_nonneg _) ?_ | refine fun (_ : Nat) => ?_ | refine Ord.go ?_ | refine Run.go rfl ?_ | refine Cont.go rfl ?_ | refine OrdP.go ?_)
    refine ACall.sel [1] (by decide) [.ptr 0 gc 0] _ (.one (Sub.ptr _ _ _ _)) (cTxt_spec d n 0 hn hb (by omega) hN gc true) ?_
    rintro r L' (⟨h, _⟩ | ⟨_, rfl, rfl⟩)
    · cases h
    refine ⟨_, Sub.refl _, ?_⟩
    repeat (first | refine Ops.go ?_ | refine And.intro rfl ?_ | refine And.intro (Nat.le_of_ble_eq_true rfl) ?_ | refine And.intro (Int.natCast_nonneg _) ?_ | refine fun (_ : Nat) => ?_ | refine Ord.go ?_ | refine Run.go rfl ?_ | refine Cont.go rfl ?_ | refine OrdP.go ?_)
    refine ACall.sel [1] (by decide) [.ptr 0 gc 0] _ (.one (Sub.ptr _ _ _ _)) (cNum_spec d n 0 hn hb (by omega) hN gc true) ?_
    rintro r L' (⟨h, _⟩ | ⟨_, rfl, rfl⟩)
    · cases h
    refine ⟨_, Sub.refl _, ?_⟩
    repeat (first | refine Ops.go ?_ | refine And.intro rfl ?_ | refine And.intro (Nat.le_of_ble_eq_true rfl) ?_ | refine And.intro (Int.natCast_nonneg _) ?_ | refine fun (_ : Nat) => ?_ | refine Ord.go ?_ | refine Run.go rfl ?_ | refine Cont.go rfl ?_ | refine OrdP.go ?_)
    refine ACall.sel [1] (by decide) [.ptr 0 gc 0] _ (.one (Sub.ptr _ _ _ _)) (cNum_spec d n 0 hn hb (by omega) hN gc true) ?_
    rintro r L' (⟨h, _⟩ | ⟨_, rfl, rfl⟩)
    · cases h
    refine ⟨_, Sub.refl _, ?_⟩
    repeat (first | refine Ops.go ?_ | refine And.intro rfl ?_ | refine And.intro (Nat.le_of_ble_eq_true rfl) ?_ | refine And.intro (Int.natCast_nonneg _) ?_ | refine fun (_ : Nat) => ?_ | refine Ord.go ?_ | refine Run.go rfl ?_ | refine Cont.go rfl ?_ | refine OrdP.go ?_)
    refine Run.loop (fun _ env L => env = [rdb d n, .junk, .ptr 0 g0 0, .junk, .ptr 1 gc 0, .ptr 2 gs 0, .int .i64 0, .int .i64 (0 : Nat), .junk, .junk, .junk, .junk, .junk, .junk, .junk, .junk, .junk, .junk, .junk, .junk, .junk, .junk, .junk, .junk, .junk, .junk, .junk, .junk, .junk, .junk, .junk, .junk, .junk, .junk, .junk, .junk, .junk, .junk, .junk, .junk, .junk, .junk, .junk, .junk, .junk, .junk, .junk, .junk, .junk, .junk, .junk, .junk, .junk, .junk, .junk, .junk, .junk, .junk, .junk, .junk, .junk, .junk, .junk, .junk, .junk, .junk, .junk, .junk, .junk, .junk, .junk, .junk, .junk, .junk, .junk, .junk, .junk, .junk, .junk, .junk, .junk, .junk, .junk, .junk, .junk, .junk, .junk] ∧ ∃ (b st' : Int) (pl' : ByteArray) (kd' : Int), L = [(g0, .cells 24 [.int .i64 0, .str ⟨#[]⟩, .int .i64 0, .nils]), (gc, .cells 82 [rdb d n, .int .i64 b, .bool true]), (gs, .cells 24 [.int .i64 st', .str pl', .int .i64 kd', .nils])]) 0 [rdb d n, .junk, .ptr 0 g0 0, .junk, .ptr 1 gc 0, .ptr 2 gs 0, .int .i64 0, .int .i64 (0 : Nat), .junk, .junk, .junk, .junk, .junk, .junk, .junk, .junk, .junk, .junk, .junk, .junk, .junk, .junk, .junk, .junk, .junk, .junk, .junk, .junk, .junk, .junk, .junk, .junk, .junk, .junk, .junk, .junk, .junk, .junk, .junk, .junk, .junk, .junk, .junk, .junk, .junk, .junk, .junk, .junk, .junk, .junk, .junk, .junk, .junk, .junk, .junk, .junk, .junk, .junk, .junk, .junk, .junk, .junk, .junk, .junk, .junk, .junk, .junk, .junk, .junk, .junk, .junk, .junk, .junk, .junk, .junk, .junk, .junk, .junk, .junk, .junk, .junk, .junk, .junk, .junk, .junk, .junk, .junk] ?_ ⟨rfl, _, _, _, _, rfl⟩ ?_
    · repeat (first | exact trivial | refine ⟨.inl rfl, ?_⟩ | refine ⟨.inr rfl, ?_⟩)
    rintro k env L ⟨rfl, b, st', pl', kd', rfl⟩
    repeat (first | refine Ops.go ?_ | refine And.intro rfl ?_ | refine And.intro (Nat.le_of_ble_eq_true rfl) ?_ | refine And.intro (Int.natCast_nonneg _) ?_ | refine fun (_ : Nat) => ?_ | refine Ord.go ?_ | refine Run.go rfl ?_ | refine Cont.go rfl ?_ | refine OrdP.go ?_)
    refine ⟨fun h => absurd h (by decide), fun _ => ?_⟩
    repeat (first | refine Ops.go ?_ | refine And.intro rfl ?_ | refine And.intro (Nat.le_of_ble_eq_true rfl) ?_ | refine And.intro (Int.natCast_nonneg _) ?_ | refine fun (_ : Nat) => ?_ | refine Ord.go ?_ | refine Run.go rfl ?_ | refine Cont.go rfl ?_ | refine OrdP.go ?_)
    exact ⟨_, [], FinOk.drop _ _, bad_ hnone⟩
  have q0 := readN_spec hbt h0
  rw [tl] at q0
  refine ⟨_, Sub.refl _, ?_⟩
  repeat (first | refine Ops.go ?_ | refine And.intro rfl ?_ | refine And.intro (Nat.le_of_ble_eq_true rfl) ?_ | refine And.intro (Int.natCast_nonneg _) ?_ | refine fun (_ : Nat) => ?_ | refine Ord.go ?_ | refine Run.go rfl ?_ | refine Cont.go rfl ?_ | refine OrdP.go ?_)
  refine ACall.sel [1] (by decide) [.ptr 0 gc 0] _ (.one (Sub.ptr _ _ _ _)) (cTxt_spec d n a1 hn hb (by omega) hN gc false) ?_
  rintro r L' (⟨_, pl, a2, h1, rfl, rfl⟩ | ⟨hbad, rfl, rfl⟩)
  case' inr =>
    have h1 := hbad.resolve_left (by decide)
    have hnone := decD_none1 (rdHead_none2 h0 h1)
    refine ⟨_, Sub.refl _, ?_⟩
    repeat (first | refine Ops.go ?_ | refine And.intro rfl ?_ | refine And.intro (Nat.le_of_ble_eq_true rfl) ?_ | refine And.intro (Int.natCast_nonneg _) ?_ | refine fun (_ : Nat) => ?_ | refine Ord.go ?_ | refine Run.go rfl ?_ | refine Cont.go rfl ?_ | refine OrdP.go ?_)
    refine ACall.sel [1] (by decide) [.ptr 0 gc 0] _ (.one (Sub.ptr _ _ _ _)) (cNum_spec d n a1 hn hb (by omega) hN gc true) ?_
    rintro r L' (⟨h, _⟩ | ⟨_, rfl, rfl⟩)
    · cases h
    refine ⟨_, Sub.refl _, ?_⟩
    repeat (first | refine Ops.go ?_ | refine And.intro rfl ?_ | refine And.intro (Nat.le_of_ble_eq_true rfl) ?_ | refine And.intro (Int.natCast_nonneg _) ?_ | refine fun (_ : Nat) => ?_ | refine Ord.go ?_ | refine Run.go rfl ?_ | refine Cont.go rfl ?_ | refine OrdP.go ?_)
    refine ACall.sel [1] (by decide) [.ptr 0 gc 0] _ (.one (Sub.ptr _ _ _ _)) (cNum_spec d n a1 hn hb (by omega) hN gc true) ?_
    rintro r L' (⟨h, _⟩ | ⟨_, rfl, rfl⟩)
    · cases h
    refine ⟨_, Sub.refl _, ?_⟩
    repeat (first | refine Ops.go ?_ | refine And.intro rfl ?_ | refine And.intro (Nat.le_of_ble_eq_true rfl) ?_ | refine And.intro (Int.natCast_nonneg _) ?_ | refine fun (_ : Nat) => ?_ | refine Ord.go ?_ | refine Run.go rfl ?_ | refine Cont.go rfl ?_ | refine OrdP.go ?_)
    refine Run.loop (fun _ env L => env = [rdb d n, .junk, .ptr 0 g0 0, .junk, .ptr 1 gc 0, .ptr 2 gs 0, .int .i64 0, .int .i64 (0 : Nat), .junk, .junk, .junk, .junk, .junk, .junk, .junk, .junk, .junk, .junk, .junk, .junk, .junk, .junk, .junk, .junk, .junk, .junk, .junk, .junk, .junk, .junk, .junk, .junk, .junk, .junk, .junk, .junk, .junk, .junk, .junk, .junk, .junk, .junk, .junk, .junk, .junk, .junk, .junk, .junk, .junk, .junk, .junk, .junk, .junk, .junk, .junk, .junk, .junk, .junk, .junk, .junk, .junk, .junk, .junk, .junk, .junk, .junk, .junk, .junk, .junk, .junk, .junk, .junk, .junk, .junk, .junk, .junk, .junk, .junk, .junk, .junk, .junk, .junk, .junk, .junk, .junk, .junk, .junk] ∧ ∃ (b st' : Int) (pl' : ByteArray) (kd' : Int), L = [(g0, .cells 24 [.int .i64 0, .str ⟨#[]⟩, .int .i64 0, .nils]), (gc, .cells 82 [rdb d n, .int .i64 b, .bool true]), (gs, .cells 24 [.int .i64 st', .str pl', .int .i64 kd', .nils])]) 0 [rdb d n, .junk, .ptr 0 g0 0, .junk, .ptr 1 gc 0, .ptr 2 gs 0, .int .i64 0, .int .i64 (0 : Nat), .junk, .junk, .junk, .junk, .junk, .junk, .junk, .junk, .junk, .junk, .junk, .junk, .junk, .junk, .junk, .junk, .junk, .junk, .junk, .junk, .junk, .junk, .junk, .junk, .junk, .junk, .junk, .junk, .junk, .junk, .junk, .junk, .junk, .junk, .junk, .junk, .junk, .junk, .junk, .junk, .junk, .junk, .junk, .junk, .junk, .junk, .junk, .junk, .junk, .junk, .junk, .junk, .junk, .junk, .junk, .junk, .junk, .junk, .junk, .junk, .junk, .junk, .junk, .junk, .junk, .junk, .junk, .junk, .junk, .junk, .junk, .junk, .junk, .junk, .junk, .junk, .junk, .junk, .junk] ?_ ⟨rfl, _, _, _, _, rfl⟩ ?_
    · repeat (first | exact trivial | refine ⟨.inl rfl, ?_⟩ | refine ⟨.inr rfl, ?_⟩)
    rintro k env L ⟨rfl, b, st', pl', kd', rfl⟩
    repeat (first | refine Ops.go ?_ | refine And.intro rfl ?_ | refine And.intro (Nat.le_of_ble_eq_true rfl) ?_ | refine And.intro (Int.natCast_nonneg _) ?_ | refine fun (_ : Nat) => ?_ | refine Ord.go ?_ | refine Run.go rfl ?_ | refine Cont.go rfl ?_ | refine OrdP.go ?_)
    refine ⟨fun h => absurd h (by decide), fun _ => ?_⟩
    repeat (first | refine Ops.go ?_ | refine And.intro rfl ?_ | refine And.intro (Nat.le_of_ble_eq_true rfl) ?_ | refine And.intro (Int.natCast_nonneg _) ?_ | refine fun (_ : Nat) => ?_ | refine Ord.go ?_ | refine Run.go rfl ?_ | refine Cont.go rfl ?_ | refine OrdP.go ?_)
    exact ⟨_, [], FinOk.drop _ _, bad_ hnone⟩
  have q1 := readT_spec hbt h1
  rw [tl] at q1
  refine ⟨_, Sub.refl _, ?_⟩
  repeat (first | refine Ops.go ?_ | refine And.intro rfl ?_ | refine And.intro (Nat.le_of_ble_eq_true rfl) ?_ | refine And.intro (Int.natCast_nonneg _) ?_ | refine fun (_ : Nat) => ?_ | refine Ord.go ?_ | refine Run.go rfl ?_ | refine Cont.go rfl ?_ | refine OrdP.go ?_)
  refine ACall.sel [1] (by decide) [.ptr 0 gc 0] _ (.one (Sub.ptr _ _ _ _)) (cNum_spec d n a2 hn hb (by omega) hN gc false) ?_
  rintro r L' (⟨_, kd, a3, h2, rfl, rfl⟩ | ⟨hbad, rfl, rfl⟩)
  case' inr =>
    have h2 := hbad.resolve_left (by decide)
    have hnone := decD_none1 (rdHead_none3 h0 h1 h2)
    refine ⟨_, Sub.refl _, ?_⟩
    repeat (first | refine Ops.go ?_ | refine And.intro rfl ?_ | refine And.intro (Nat.le_of_ble_eq_true rfl) ?_ | refine And.intro (Int.natCast_nonneg _) ?_ | refine fun (_ : Nat) => ?_ | refine Ord.go ?_ | refine Run.go rfl ?_ | refine Cont.go rfl ?_ | refine OrdP.go ?_)
    refine ACall.sel [1] (by decide) [.ptr 0 gc 0] _ (.one (Sub.ptr _ _ _ _)) (cNum_spec d n a2 hn hb (by omega) hN gc true) ?_
    rintro r L' (⟨h, _⟩ | ⟨_, rfl, rfl⟩)
    · cases h
    refine ⟨_, Sub.refl _, ?_⟩
    repeat (first | refine Ops.go ?_ | refine And.intro rfl ?_ | refine And.intro (Nat.le_of_ble_eq_true rfl) ?_ | refine And.intro (Int.natCast_nonneg _) ?_ | refine fun (_ : Nat) => ?_ | refine Ord.go ?_ | refine Run.go rfl ?_ | refine Cont.go rfl ?_ | refine OrdP.go ?_)
    refine Run.loop (fun _ env L => env = [rdb d n, .junk, .ptr 0 g0 0, .junk, .ptr 1 gc 0, .ptr 2 gs 0, .int .i64 0, .int .i64 (0 : Nat), .junk, .junk, .junk, .junk, .junk, .junk, .junk, .junk, .junk, .junk, .junk, .junk, .junk, .junk, .junk, .junk, .junk, .junk, .junk, .junk, .junk, .junk, .junk, .junk, .junk, .junk, .junk, .junk, .junk, .junk, .junk, .junk, .junk, .junk, .junk, .junk, .junk, .junk, .junk, .junk, .junk, .junk, .junk, .junk, .junk, .junk, .junk, .junk, .junk, .junk, .junk, .junk, .junk, .junk, .junk, .junk, .junk, .junk, .junk, .junk, .junk, .junk, .junk, .junk, .junk, .junk, .junk, .junk, .junk, .junk, .junk, .junk, .junk, .junk, .junk, .junk, .junk, .junk, .junk] ∧ ∃ (b st' : Int) (pl' : ByteArray) (kd' : Int), L = [(g0, .cells 24 [.int .i64 0, .str ⟨#[]⟩, .int .i64 0, .nils]), (gc, .cells 82 [rdb d n, .int .i64 b, .bool true]), (gs, .cells 24 [.int .i64 st', .str pl', .int .i64 kd', .nils])]) 0 [rdb d n, .junk, .ptr 0 g0 0, .junk, .ptr 1 gc 0, .ptr 2 gs 0, .int .i64 0, .int .i64 (0 : Nat), .junk, .junk, .junk, .junk, .junk, .junk, .junk, .junk, .junk, .junk, .junk, .junk, .junk, .junk, .junk, .junk, .junk, .junk, .junk, .junk, .junk, .junk, .junk, .junk, .junk, .junk, .junk, .junk, .junk, .junk, .junk, .junk, .junk, .junk, .junk, .junk, .junk, .junk, .junk, .junk, .junk, .junk, .junk, .junk, .junk, .junk, .junk, .junk, .junk, .junk, .junk, .junk, .junk, .junk, .junk, .junk, .junk, .junk, .junk, .junk, .junk, .junk, .junk, .junk, .junk, .junk, .junk, .junk, .junk, .junk, .junk, .junk, .junk, .junk, .junk, .junk, .junk, .junk, .junk] ?_ ⟨rfl, _, _, _, _, rfl⟩ ?_
    · repeat (first | exact trivial | refine ⟨.inl rfl, ?_⟩ | refine ⟨.inr rfl, ?_⟩)
    rintro k env L ⟨rfl, b, st', pl', kd', rfl⟩
    repeat (first | refine Ops.go ?_ | refine And.intro rfl ?_ | refine And.intro (Nat.le_of_ble_eq_true rfl) ?_ | refine And.intro (Int.natCast_nonneg _) ?_ | refine fun (_ : Nat) => ?_ | refine Ord.go ?_ | refine Run.go rfl ?_ | refine Cont.go rfl ?_ | refine OrdP.go ?_)
    refine ⟨fun h => absurd h (by decide), fun _ => ?_⟩
    repeat (first | refine Ops.go ?_ | refine And.intro rfl ?_ | refine And.intro (Nat.le_of_ble_eq_true rfl) ?_ | refine And.intro (Int.natCast_nonneg _) ?_ | refine fun (_ : Nat) => ?_ | refine Ord.go ?_ | refine Run.go rfl ?_ | refine Cont.go rfl ?_ | refine OrdP.go ?_)
    exact ⟨_, [], FinOk.drop _ _, bad_ hnone⟩
  have q2 := readN_spec hbt h2
  rw [tl] at q2
  refine ⟨_, Sub.refl _, ?_⟩
  repeat (first | refine Ops.go ?_ | refine And.intro rfl ?_ | refine And.intro (Nat.le_of_ble_eq_true rfl) ?_ | refine And.intro (Int.natCast_nonneg _) ?_ | refine fun (_ : Nat) => ?_ | refine Ord.go ?_ | refine Run.go rfl ?_ | refine Cont.go rfl ?_ | refine OrdP.go ?_)
  refine ACall.sel [1] (by decide) [.ptr 0 gc 0] _ (.one (Sub.ptr _ _ _ _)) (cNum_spec d n a3 hn hb (by omega) hN gc false) ?_
  rintro r L' (⟨_, cnt, a4, h3, rfl, rfl⟩ | ⟨hbad, rfl, rfl⟩)
  case' inr =>
    have h3 := hbad.resolve_left (by decide)
    have hnone := decD_none1 (rdHead_none4 h0 h1 h2 h3)
    refine ⟨_, Sub.refl _, ?_⟩
    repeat (first | refine Ops.go ?_ | refine And.intro rfl ?_ | refine And.intro (Nat.le_of_ble_eq_true rfl) ?_ | refine And.intro (Int.natCast_nonneg _) ?_ | refine fun (_ : Nat) => ?_ | refine Ord.go ?_ | refine Run.go rfl ?_ | refine Cont.go rfl ?_ | refine OrdP.go ?_)
    refine Run.loop (fun _ env L => env = [rdb d n, .junk, .ptr 0 g0 0, .junk, .ptr 1 gc 0, .ptr 2 gs 0, .int .i64 0, .int .i64 (0 : Nat), .junk, .junk, .junk, .junk, .junk, .junk, .junk, .junk, .junk, .junk, .junk, .junk, .junk, .junk, .junk, .junk, .junk, .junk, .junk, .junk, .junk, .junk, .junk, .junk, .junk, .junk, .junk, .junk, .junk, .junk, .junk, .junk, .junk, .junk, .junk, .junk, .junk, .junk, .junk, .junk, .junk, .junk, .junk, .junk, .junk, .junk, .junk, .junk, .junk, .junk, .junk, .junk, .junk, .junk, .junk, .junk, .junk, .junk, .junk, .junk, .junk, .junk, .junk, .junk, .junk, .junk, .junk, .junk, .junk, .junk, .junk, .junk, .junk, .junk, .junk, .junk, .junk, .junk, .junk] ∧ ∃ (b st' : Int) (pl' : ByteArray) (kd' : Int), L = [(g0, .cells 24 [.int .i64 0, .str ⟨#[]⟩, .int .i64 0, .nils]), (gc, .cells 82 [rdb d n, .int .i64 b, .bool true]), (gs, .cells 24 [.int .i64 st', .str pl', .int .i64 kd', .nils])]) 0 [rdb d n, .junk, .ptr 0 g0 0, .junk, .ptr 1 gc 0, .ptr 2 gs 0, .int .i64 0, .int .i64 (0 : Nat), .junk, .junk, .junk, .junk, .junk, .junk, .junk, .junk, .junk, .junk, .junk, .junk, .junk, .junk, .junk, .junk, .junk, .junk, .junk, .junk, .junk, .junk, .junk, .junk, .junk, .junk, .junk, .junk, .junk, .junk, .junk, .junk, .junk, .junk, .junk, .junk, .junk, .junk, .junk, .junk, .junk, .junk, .junk, .junk, .junk, .junk, .junk, .junk, .junk, .junk, .junk, .junk, .junk, .junk, .junk, .junk, .junk, .junk, .junk, .junk, .junk, .junk, .junk, .junk, .junk, .junk, .junk, .junk, .junk, .junk, .junk, .junk, .junk, .junk, .junk, .junk, .junk, .junk, .junk] ?_ ⟨rfl, _, _, _, _, rfl⟩ ?_
    · repeat (first | exact trivial | refine ⟨.inl rfl, ?_⟩ | refine ⟨.inr rfl, ?_⟩)
    rintro k env L ⟨rfl, b, st', pl', kd', rfl⟩
    repeat (first | refine Ops.go ?_ | refine And.intro rfl ?_ | refine And.intro (Nat.le_of_ble_eq_true rfl) ?_ | refine And.intro (Int.natCast_nonneg _) ?_ | refine fun (_ : Nat) => ?_ | refine Ord.go ?_ | refine Run.go rfl ?_ | refine Cont.go rfl ?_ | refine OrdP.go ?_)
    refine ⟨fun h => absurd h (by decide), fun _ => ?_⟩
    repeat (first | refine Ops.go ?_ | refine And.intro rfl ?_ | refine And.intro (Nat.le_of_ble_eq_true rfl) ?_ | refine And.intro (Int.natCast_nonneg _) ?_ | refine fun (_ : Nat) => ?_ | refine Ord.go ?_ | refine Run.go rfl ?_ | refine Cont.go rfl ?_ | refine OrdP.go ?_)
    exact ⟨_, [], FinOk.drop _ _, bad_ hnone⟩
  have q3 := readN_spec hbt h3
  rw [tl] at q3
  refine ⟨_, Sub.refl _, ?_⟩
  repeat (first | refine Ops.go ?_ | refine And.intro rfl ?_ | refine And.intro (Nat.le_of_ble_eq_true rfl) ?_ | refine And.intro (Int.natCast_nonneg _) ?_ | refine fun (_ : Nat) => ?_ | refine Ord.go ?_ | refine Run.go rfl ?_ | refine Cont.go rfl ?_ | refine OrdP.go ?_)
  have hh := rdHead_some h0 h1 h2 h3
  refine Run.loopW (fun k env L => ∃ (i : Nat) (l : List Sn) (v : AV) (o : AObj) (g at_ : Nat) (bad : Bool), k = 66 - i ∧ i ≤ 65 ∧ l.length = i ∧ LN 3 l v g o ∧ at_ ≤ n ∧ (bad = false → i ≤ cnt ∧ rdNs (d.take n) a4 i = some (l, at_)) ∧ (bad = true → decD (d.take n) = none) ∧ env = [rdb d n, .junk, .ptr 0 g0 0, .junk, .ptr 1 gc 0, .ptr 2 gs 0, .int .i64 cnt, .int .i64 i, .junk, .junk, .junk, .junk, .junk, .junk, .junk, .junk, .junk, .junk, .junk, .junk, .junk, .junk, .junk, .junk, .junk, .junk, .junk, .junk, .junk, .junk, .junk, .junk, .junk, .junk, .junk, .junk, .junk, .junk, .junk, .junk, .junk, .junk, .junk, .junk, .junk, .junk, .junk, .junk, .junk, .junk, .junk, .junk, .junk, .junk, .junk, .junk, .junk, .junk, .junk, .junk, .junk, .junk, .junk, .junk, .junk, .junk, .junk, .junk, .junk, .junk, .junk, .junk, .junk, .junk, .junk, .junk, .junk, .junk, .junk, .junk, .junk, .junk, .junk, .junk, .junk, .junk, .junk] ∧ L = [(g0, .cells 24 [.int .i64 0, .str ⟨#[]⟩, .int .i64 0, .nils]), (gc, .cells 82 [rdb d n, .int .i64 (at_ : Nat), .bool bad]), (gs, .cells 24 [.int .i64 st, .str pl, .int .i64 kd, v]), (g, o)]) 66
    [rdb d n, .junk, .ptr 0 g0 0, .junk, .ptr 1 gc 0, .ptr 2 gs 0, .int .i64 cnt, .int .i64 (0 : Nat), .junk, .junk, .junk, .junk, .junk, .junk, .junk, .junk, .junk, .junk, .junk, .junk, .junk, .junk, .junk, .junk, .junk, .junk, .junk, .junk, .junk, .junk, .junk, .junk, .junk, .junk, .junk, .junk, .junk, .junk, .junk, .junk, .junk, .junk, .junk, .junk, .junk, .junk, .junk, .junk, .junk, .junk, .junk, .junk, .junk, .junk, .junk, .junk, .junk, .junk, .junk, .junk, .junk, .junk, .junk, .junk, .junk, .junk, .junk, .junk, .junk, .junk, .junk, .junk, .junk, .junk, .junk, .junk, .junk, .junk, .junk, .junk, .junk, .junk, .junk, .junk, .junk, .junk, .junk]
    [(g0, .cells 24 [.int .i64 0, .str ⟨#[]⟩, .int .i64 0, .nils]), (gc, .cells 82 [rdb d n, .int .i64 (a4 : Nat), .bool false]), (gs, .cells 24 [.int .i64 st, .str pl, .int .i64 kd, .nils]), (0, .dead)]
    (Weak.sel ?_ [0, 1, 2, 9] (by decide) ⟨rfl, SubO.refl _, rfl, SubO.refl _, rfl, SubO.refl _, rfl, trivial, trivial⟩)
    ⟨0, [], .nils, .dead, 0, a4, false, by omega, by omega, rfl, .inl ⟨rfl, rfl, rfl⟩, by omega, fun _ => ⟨by omega, rfl⟩, (fun h => by cases h), rfl, rfl⟩ ?_
  · repeat (first | exact trivial | refine And.intro (Sub.junk _) ?_ | refine And.intro (Sub.refl _) ?_ | refine And.intro (Sub.sl _ _ _ _ _) ?_ | refine And.intro (Sub.ptr _ _ _ _) ?_)
  rintro k env L ⟨i, l, v, o, g, at_, bad, rfl, hi, hli, hv, hat, hgd, hbd, rfl, rfl⟩
  rcases hv with ⟨hl0, rfl, rfl⟩ | ⟨Cp, rfl, rfl⟩
  · cases bad with
    | true =>
      have hnone := hbd rfl
      repeat (first | refine Ops.go ?_ | refine And.intro rfl ?_ | refine And.intro (Nat.le_of_ble_eq_true rfl) ?_ | refine And.intro (Int.natCast_nonneg _) ?_ | refine fun (_ : Nat) => ?_ | refine Ord.go ?_ | refine Run.go rfl ?_ | refine Cont.go rfl ?_ | refine OrdP.go ?_)
      refine ⟨fun h => ?_, fun h => ?_⟩
      · repeat (first | refine Ops.go ?_ | refine And.intro rfl ?_ | refine And.intro (Nat.le_of_ble_eq_true rfl) ?_ | refine And.intro (Int.natCast_nonneg _) ?_ | refine fun (_ : Nat) => ?_ | refine Ord.go ?_ | refine Run.go rfl ?_ | refine Cont.go rfl ?_ | refine OrdP.go ?_)
        refine ⟨fun h => ?_, fun h => ?_⟩
        · repeat (first | refine Ops.go ?_ | refine And.intro rfl ?_ | refine And.intro (Nat.le_of_ble_eq_true rfl) ?_ | refine And.intro (Int.natCast_nonneg _) ?_ | refine fun (_ : Nat) => ?_ | refine Ord.go ?_ | refine Run.go rfl ?_ | refine Cont.go rfl ?_ | refine OrdP.go ?_)
          exact ⟨_, [], FinOk.drop _ _, bad_ hnone⟩
        · repeat (first | refine Ops.go ?_ | refine And.intro rfl ?_ | refine And.intro (Nat.le_of_ble_eq_true rfl) ?_ | refine And.intro (Int.natCast_nonneg _) ?_ | refine fun (_ : Nat) => ?_ | refine Ord.go ?_ | refine Run.go rfl ?_ | refine Cont.go rfl ?_ | refine OrdP.go ?_)
          exact ⟨_, [], FinOk.drop _ _, bad_ hnone⟩
      · repeat (first | refine Ops.go ?_ | refine And.intro rfl ?_ | refine And.intro (Nat.le_of_ble_eq_true rfl) ?_ | refine And.intro (Int.natCast_nonneg _) ?_ | refine fun (_ : Nat) => ?_ | refine Ord.go ?_ | refine Run.go rfl ?_ | refine Cont.go rfl ?_ | refine OrdP.go ?_)
        exact ⟨_, [], FinOk.drop _ _, bad_ hnone⟩
    | false =>
      obtain ⟨hic, hns⟩ := hgd rfl
      repeat (first | refine Ops.go ?_ | refine And.intro rfl ?_ | refine And.intro (Nat.le_of_ble_eq_true rfl) ?_ | refine And.intro (Int.natCast_nonneg _) ?_ | refine fun (_ : Nat) => ?_ | refine Ord.go ?_ | refine Run.go rfl ?_ | refine Cont.go rfl ?_ | refine OrdP.go ?_)
      refine ⟨fun h => ?_, fun h => ?_⟩
      · have h1 : (i : Int) < (cnt : Int) := h
        repeat (first | refine Ops.go ?_ | refine And.intro rfl ?_ | refine And.intro (Nat.le_of_ble_eq_true rfl) ?_ | refine And.intro (Int.natCast_nonneg _) ?_ | refine fun (_ : Nat) => ?_ | refine Ord.go ?_ | refine Run.go rfl ?_ | refine Cont.go rfl ?_ | refine OrdP.go ?_)
        refine ⟨fun h => ?_, fun h => ?_⟩
        · have h2 : (i : Int) ≤ 64 := h
          repeat (first | refine Ops.go ?_ | refine And.intro rfl ?_ | refine And.intro (Nat.le_of_ble_eq_true rfl) ?_ | refine And.intro (Int.natCast_nonneg _) ?_ | refine fun (_ : Nat) => ?_ | refine Ord.go ?_ | refine Run.go rfl ?_ | refine Cont.go rfl ?_ | refine OrdP.go ?_)
          rename_i gx
          refine ACall.sel [1] (by decide) [.ptr 0 gc 0] _ (.one (Sub.ptr _ _ _ _)) (cTxt_spec d n at_ hn hb (by omega) hN gc false) ?_
          rintro r L' (⟨_, p, b1, e1, rfl, rfl⟩ | ⟨hbad, rfl, rfl⟩)
          case' inr =>
            have e1 := hbad.resolve_left (by decide)
            have hnone := decD_none2 hh (rdNs_fail hns (rdNode_none1 e1) (by omega))
            refine ⟨_, Sub.refl _, ?_⟩
            repeat (first | refine Ops.go ?_ | refine And.intro rfl ?_ | refine And.intro (Nat.le_of_ble_eq_true rfl) ?_ | refine And.intro (Int.natCast_nonneg _) ?_ | refine fun (_ : Nat) => ?_ | refine Ord.go ?_ | refine Run.go rfl ?_ | refine Cont.go rfl ?_ | refine OrdP.go ?_)
            refine ACall.sel [1] (by decide) [.ptr 0 gc 0] _ (.one (Sub.ptr _ _ _ _)) (cTxt_spec d n at_ hn hb (by omega) hN gc true) ?_
            rintro r L' (⟨h, _⟩ | ⟨_, rfl, rfl⟩)
            · cases h
            refine ⟨_, Sub.refl _, ?_⟩
            repeat (first | refine Ops.go ?_ | refine And.intro rfl ?_ | refine And.intro (Nat.le_of_ble_eq_true rfl) ?_ | refine And.intro (Int.natCast_nonneg _) ?_ | refine fun (_ : Nat) => ?_ | refine Ord.go ?_ | refine Run.go rfl ?_ | refine Cont.go rfl ?_ | refine OrdP.go ?_)
            refine ACall.sel [1] (by decide) [.ptr 0 gc 0] _ (.one (Sub.ptr _ _ _ _)) (cNum_spec d n at_ hn hb (by omega) hN gc true) ?_
            rintro r L' (⟨h, _⟩ | ⟨_, rfl, rfl⟩)
            · cases h
            refine ⟨_, Sub.refl _, ?_⟩
            repeat (first | refine Ops.go ?_ | refine And.intro rfl ?_ | refine And.intro (Nat.le_of_ble_eq_true rfl) ?_ | refine And.intro (Int.natCast_nonneg _) ?_ | refine fun (_ : Nat) => ?_ | refine Ord.go ?_ | refine Run.go rfl ?_ | refine Cont.go rfl ?_ | refine OrdP.go ?_)
            refine ⟨fun h => absurd h (List.cons_ne_nil _ _), fun _ => ?_⟩
            repeat (first | refine Ops.go ?_ | refine And.intro rfl ?_ | refine And.intro (Nat.le_of_ble_eq_true rfl) ?_ | refine And.intro (Int.natCast_nonneg _) ?_ | refine fun (_ : Nat) => ?_ | refine Ord.go ?_ | refine Run.go rfl ?_ | refine Cont.go rfl ?_ | refine OrdP.go ?_)
            rename_i gb g2 C2
            refine fun r hr => ?_
            obtain rfl := add1 hr (by omega)
            repeat (first | refine Ops.go ?_ | refine And.intro rfl ?_ | refine And.intro (Nat.le_of_ble_eq_true rfl) ?_ | refine And.intro (Int.natCast_nonneg _) ?_ | refine fun (_ : Nat) => ?_ | refine Ord.go ?_ | refine Run.go rfl ?_ | refine Cont.go rfl ?_ | refine OrdP.go ?_)
            refine Cont.lpW ?_
            refine ⟨66 - (i + 1), [rdb d n, .junk, .ptr 0 g0 0, .junk, .ptr 1 gc 0, .ptr 2 gs 0, .int .i64 cnt, .int .i64 (i + 1 : Nat), .junk, .junk, .junk, .junk, .junk, .junk, .junk, .junk, .junk, .junk, .junk, .junk, .junk, .junk, .junk, .junk, .junk, .junk, .junk, .junk, .junk, .junk, .junk, .junk, .junk, .junk, .junk, .junk, .junk, .junk, .junk, .junk, .junk, .junk, .junk, .junk, .junk, .junk, .junk, .junk, .junk, .junk, .junk, .junk, .junk, .junk, .junk, .junk, .junk, .junk, .junk, .junk, .junk, .junk, .junk, .junk, .junk, .junk, .junk, .junk, .junk, .junk, .junk, .junk, .junk, .junk, .junk, .junk, .junk, .junk, .junk, .junk, .junk, .junk, .junk, .junk, .junk, .junk, .junk], [(g0, .cells 24 [.int .i64 0, .str ⟨#[]⟩, .int .i64 0, .nils]), (gc, .cells 82 [rdb d n, .int .i64 (at_ : Nat), .bool true]), (gs, .cells 24 [.int .i64 st, .str pl, .int .i64 kd, .sl 3 g2 C2 1]), (g2, .row 50 3 C2 [enc ⟨⟨#[]⟩, ⟨#[]⟩, 0⟩])], by omega, Weak.sel ?_ [0, 1, 2, 6] (by decide) ⟨rfl, SubO.refl _, rfl, SubO.refl _, rfl, SubO.cells ⟨Sub.refl _, Sub.refl _, Sub.refl _, Sub.sl _ 3 _ _ _, trivial⟩, rfl, SubO.refl _, trivial⟩,
              ⟨i + 1, [⟨⟨#[]⟩, ⟨#[]⟩, 0⟩], .sl 3 g2 C2 1, .row 50 3 C2 [enc ⟨⟨#[]⟩, ⟨#[]⟩, 0⟩], g2, at_, true, rfl, by omega, by rw [hl0] at hli; simp at hli ⊢; omega, .inr ⟨C2, rfl, rfl⟩, by omega, (fun h => by cases h), (fun _ => hnone), rfl, rfl⟩⟩
            repeat (first | exact trivial | refine And.intro (Sub.junk _) ?_ | refine And.intro (Sub.refl _) ?_ | refine And.intro (Sub.sl _ _ _ _ _) ?_ | refine And.intro (Sub.ptr _ _ _ _) ?_)
          have w1 := readT_spec hbt e1
          rw [tl] at w1
          refine ⟨_, Sub.refl _, ?_⟩
          repeat (first | refine Ops.go ?_ | refine And.intro rfl ?_ | refine And.intro (Nat.le_of_ble_eq_true rfl) ?_ | refine And.intro (Int.natCast_nonneg _) ?_ | refine fun (_ : Nat) => ?_ | refine Ord.go ?_ | refine Run.go rfl ?_ | refine Cont.go rfl ?_ | refine OrdP.go ?_)
          refine ACall.sel [1] (by decide) [.ptr 0 gc 0] _ (.one (Sub.ptr _ _ _ _)) (cTxt_spec d n b1 hn hb (by omega) hN gc false) ?_
          rintro r L' (⟨_, q, b2, e2, rfl, rfl⟩ | ⟨hbad, rfl, rfl⟩)
          case' inr =>
            have e2 := hbad.resolve_left (by decide)
            have hnone := decD_none2 hh (rdNs_fail hns (rdNode_none2 e1 e2) (by omega))
            refine ⟨_, Sub.refl _, ?_⟩
            repeat (first | refine Ops.go ?_ | refine And.intro rfl ?_ | refine And.intro (Nat.le_of_ble_eq_true rfl) ?_ | refine And.intro (Int.natCast_nonneg _) ?_ | refine fun (_ : Nat) => ?_ | refine Ord.go ?_ | refine Run.go rfl ?_ | refine Cont.go rfl ?_ | refine OrdP.go ?_)
            refine ACall.sel [1] (by decide) [.ptr 0 gc 0] _ (.one (Sub.ptr _ _ _ _)) (cNum_spec d n b1 hn hb (by omega) hN gc true) ?_
            rintro r L' (⟨h, _⟩ | ⟨_, rfl, rfl⟩)
            · cases h
            refine ⟨_, Sub.refl _, ?_⟩
            repeat (first | refine Ops.go ?_ | refine And.intro rfl ?_ | refine And.intro (Nat.le_of_ble_eq_true rfl) ?_ | refine And.intro (Int.natCast_nonneg _) ?_ | refine fun (_ : Nat) => ?_ | refine Ord.go ?_ | refine Run.go rfl ?_ | refine Cont.go rfl ?_ | refine OrdP.go ?_)
            refine ⟨fun h => absurd h (List.cons_ne_nil _ _), fun _ => ?_⟩
            repeat (first | refine Ops.go ?_ | refine And.intro rfl ?_ | refine And.intro (Nat.le_of_ble_eq_true rfl) ?_ | refine And.intro (Int.natCast_nonneg _) ?_ | refine fun (_ : Nat) => ?_ | refine Ord.go ?_ | refine Run.go rfl ?_ | refine Cont.go rfl ?_ | refine OrdP.go ?_)
            rename_i gb g2 C2
            refine fun r hr => ?_
            obtain rfl := add1 hr (by omega)
            repeat (first | refine Ops.go ?_ | refine And.intro rfl ?_ | refine And.intro (Nat.le_of_ble_eq_true rfl) ?_ | refine And.intro (Int.natCast_nonneg _) ?_ | refine fun (_ : Nat) => ?_ | refine Ord.go ?_ | refine Run.go rfl ?_ | refine Cont.go rfl ?_ | refine OrdP.go ?_)
            refine Cont.lpW ?_
            refine ⟨66 - (i + 1), [rdb d n, .junk, .ptr 0 g0 0, .junk, .ptr 1 gc 0, .ptr 2 gs 0, .int .i64 cnt, .int .i64 (i + 1 : Nat), .junk, .junk, .junk, .junk, .junk, .junk, .junk, .junk, .junk, .junk, .junk, .junk, .junk, .junk, .junk, .junk, .junk, .junk, .junk, .junk, .junk, .junk, .junk, .junk, .junk, .junk, .junk, .junk, .junk, .junk, .junk, .junk, .junk, .junk, .junk, .junk, .junk, .junk, .junk, .junk, .junk, .junk, .junk, .junk, .junk, .junk, .junk, .junk, .junk, .junk, .junk, .junk, .junk, .junk, .junk, .junk, .junk, .junk, .junk, .junk, .junk, .junk, .junk, .junk, .junk, .junk, .junk, .junk, .junk, .junk, .junk, .junk, .junk, .junk, .junk, .junk, .junk, .junk, .junk], [(g0, .cells 24 [.int .i64 0, .str ⟨#[]⟩, .int .i64 0, .nils]), (gc, .cells 82 [rdb d n, .int .i64 (b1 : Nat), .bool true]), (gs, .cells 24 [.int .i64 st, .str pl, .int .i64 kd, .sl 3 g2 C2 1]), (g2, .row 50 3 C2 [enc ⟨p, ⟨#[]⟩, 0⟩])], by omega, Weak.sel ?_ [0, 1, 2, 6] (by decide) ⟨rfl, SubO.refl _, rfl, SubO.refl _, rfl, SubO.cells ⟨Sub.refl _, Sub.refl _, Sub.refl _, Sub.sl _ 3 _ _ _, trivial⟩, rfl, SubO.refl _, trivial⟩,
              ⟨i + 1, [⟨p, ⟨#[]⟩, 0⟩], .sl 3 g2 C2 1, .row 50 3 C2 [enc ⟨p, ⟨#[]⟩, 0⟩], g2, b1, true, rfl, by omega, by rw [hl0] at hli; simp at hli ⊢; omega, .inr ⟨C2, rfl, rfl⟩, by omega, (fun h => by cases h), (fun _ => hnone), rfl, rfl⟩⟩
            repeat (first | exact trivial | refine And.intro (Sub.junk _) ?_ | refine And.intro (Sub.refl _) ?_ | refine And.intro (Sub.sl _ _ _ _ _) ?_ | refine And.intro (Sub.ptr _ _ _ _) ?_)
          have w2 := readT_spec hbt e2
          rw [tl] at w2
          refine ⟨_, Sub.refl _, ?_⟩
          repeat (first | refine Ops.go ?_ | refine And.intro rfl ?_ | refine And.intro (Nat.le_of_ble_eq_true rfl) ?_ | refine And.intro (Int.natCast_nonneg _) ?_ | refine fun (_ : Nat) => ?_ | refine Ord.go ?_ | refine Run.go rfl ?_ | refine Cont.go rfl ?_ | refine OrdP.go ?_)
          refine ACall.sel [1] (by decide) [.ptr 0 gc 0] _ (.one (Sub.ptr _ _ _ _)) (cNum_spec d n b2 hn hb (by omega) hN gc false) ?_
          rintro r L' (⟨_, w, b3, e3, rfl, rfl⟩ | ⟨hbad, rfl, rfl⟩)
          case' inr =>
            have e3 := hbad.resolve_left (by decide)
            have hnone := decD_none2 hh (rdNs_fail hns (rdNode_none3 e1 e2 e3) (by omega))
            refine ⟨_, Sub.refl _, ?_⟩
            repeat (first | refine Ops.go ?_ | refine And.intro rfl ?_ | refine And.intro (Nat.le_of_ble_eq_true rfl) ?_ | refine And.intro (Int.natCast_nonneg _) ?_ | refine fun (_ : Nat) => ?_ | refine Ord.go ?_ | refine Run.go rfl ?_ | refine Cont.go rfl ?_ | refine OrdP.go ?_)
            refine ⟨fun h => absurd h (List.cons_ne_nil _ _), fun _ => ?_⟩
            repeat (first | refine Ops.go ?_ | refine And.intro rfl ?_ | refine And.intro (Nat.le_of_ble_eq_true rfl) ?_ | refine And.intro (Int.natCast_nonneg _) ?_ | refine fun (_ : Nat) => ?_ | refine Ord.go ?_ | refine Run.go rfl ?_ | refine Cont.go rfl ?_ | refine OrdP.go ?_)
            rename_i gb g2 C2
            refine fun r hr => ?_
            obtain rfl := add1 hr (by omega)
            repeat (first | refine Ops.go ?_ | refine And.intro rfl ?_ | refine And.intro (Nat.le_of_ble_eq_true rfl) ?_ | refine And.intro (Int.natCast_nonneg _) ?_ | refine fun (_ : Nat) => ?_ | refine Ord.go ?_ | refine Run.go rfl ?_ | refine Cont.go rfl ?_ | refine OrdP.go ?_)
            refine Cont.lpW ?_
            refine ⟨66 - (i + 1), [rdb d n, .junk, .ptr 0 g0 0, .junk, .ptr 1 gc 0, .ptr 2 gs 0, .int .i64 cnt, .int .i64 (i + 1 : Nat), .junk, .junk, .junk, .junk, .junk, .junk, .junk, .junk, .junk, .junk, .junk, .junk, .junk, .junk, .junk, .junk, .junk, .junk, .junk, .junk, .junk, .junk, .junk, .junk, .junk, .junk, .junk, .junk, .junk, .junk, .junk, .junk, .junk, .junk, .junk, .junk, .junk, .junk, .junk, .junk, .junk, .junk, .junk, .junk, .junk, .junk, .junk, .junk, .junk, .junk, .junk, .junk, .junk, .junk, .junk, .junk, .junk, .junk, .junk, .junk, .junk, .junk, .junk, .junk, .junk, .junk, .junk, .junk, .junk, .junk, .junk, .junk, .junk, .junk, .junk, .junk, .junk, .junk, .junk], [(g0, .cells 24 [.int .i64 0, .str ⟨#[]⟩, .int .i64 0, .nils]), (gc, .cells 82 [rdb d n, .int .i64 (b2 : Nat), .bool true]), (gs, .cells 24 [.int .i64 st, .str pl, .int .i64 kd, .sl 3 g2 C2 1]), (g2, .row 50 3 C2 [enc ⟨p, q, 0⟩])], by omega, Weak.sel ?_ [0, 1, 2, 6] (by decide) ⟨rfl, SubO.refl _, rfl, SubO.refl _, rfl, SubO.cells ⟨Sub.refl _, Sub.refl _, Sub.refl _, Sub.sl _ 3 _ _ _, trivial⟩, rfl, SubO.refl _, trivial⟩,
              ⟨i + 1, [⟨p, q, 0⟩], .sl 3 g2 C2 1, .row 50 3 C2 [enc ⟨p, q, 0⟩], g2, b2, true, rfl, by omega, by rw [hl0] at hli; simp at hli ⊢; omega, .inr ⟨C2, rfl, rfl⟩, by omega, (fun h => by cases h), (fun _ => hnone), rfl, rfl⟩⟩
            repeat (first | exact trivial | refine And.intro (Sub.junk _) ?_ | refine And.intro (Sub.refl _) ?_ | refine And.intro (Sub.sl _ _ _ _ _) ?_ | refine And.intro (Sub.ptr _ _ _ _) ?_)
          have w3 := readN_spec hbt e3
          rw [tl] at w3
          have hx := rdNode_some e1 e2 e3
          refine ⟨_, Sub.refl _, ?_⟩
          repeat (first | refine Ops.go ?_ | refine And.intro rfl ?_ | refine And.intro (Nat.le_of_ble_eq_true rfl) ?_ | refine And.intro (Int.natCast_nonneg _) ?_ | refine fun (_ : Nat) => ?_ | refine Ord.go ?_ | refine Run.go rfl ?_ | refine Cont.go rfl ?_ | refine OrdP.go ?_)
          refine ⟨fun h => absurd h (List.cons_ne_nil _ _), fun _ => ?_⟩
          repeat (first | refine Ops.go ?_ | refine And.intro rfl ?_ | refine And.intro (Nat.le_of_ble_eq_true rfl) ?_ | refine And.intro (Int.natCast_nonneg _) ?_ | refine fun (_ : Nat) => ?_ | refine Ord.go ?_ | refine Run.go rfl ?_ | refine Cont.go rfl ?_ | refine OrdP.go ?_)
          rename_i gb g2 C2
          refine fun r hr => ?_
          obtain rfl := add1 hr (by omega)
          repeat (first | refine Ops.go ?_ | refine And.intro rfl ?_ | refine And.intro (Nat.le_of_ble_eq_true rfl) ?_ | refine And.intro (Int.natCast_nonneg _) ?_ | refine fun (_ : Nat) => ?_ | refine Ord.go ?_ | refine Run.go rfl ?_ | refine Cont.go rfl ?_ | refine OrdP.go ?_)
          refine Cont.lpW ?_
          refine ⟨66 - (i + 1), [rdb d n, .junk, .ptr 0 g0 0, .junk, .ptr 1 gc 0, .ptr 2 gs 0, .int .i64 cnt, .int .i64 (i + 1 : Nat), .junk, .junk, .junk, .junk, .junk, .junk, .junk, .junk, .junk, .junk, .junk, .junk, .junk, .junk, .junk, .junk, .junk, .junk, .junk, .junk, .junk, .junk, .junk, .junk, .junk, .junk, .junk, .junk, .junk, .junk, .junk, .junk, .junk, .junk, .junk, .junk, .junk, .junk, .junk, .junk, .junk, .junk, .junk, .junk, .junk, .junk, .junk, .junk, .junk, .junk, .junk, .junk, .junk, .junk, .junk, .junk, .junk, .junk, .junk, .junk, .junk, .junk, .junk, .junk, .junk, .junk, .junk, .junk, .junk, .junk, .junk, .junk, .junk, .junk, .junk, .junk, .junk, .junk, .junk], [(g0, .cells 24 [.int .i64 0, .str ⟨#[]⟩, .int .i64 0, .nils]), (gc, .cells 82 [rdb d n, .int .i64 (b3 : Nat), .bool false]), (gs, .cells 24 [.int .i64 st, .str pl, .int .i64 kd, .sl 3 g2 C2 1]), (g2, .row 50 3 C2 [enc ⟨p, q, w⟩])], by omega, Weak.sel ?_ [0, 1, 2, 6] (by decide) ⟨rfl, SubO.refl _, rfl, SubO.refl _, rfl, SubO.cells ⟨Sub.refl _, Sub.refl _, Sub.refl _, Sub.sl _ 3 _ _ _, trivial⟩, rfl, SubO.refl _, trivial⟩,
            ⟨i + 1, [⟨p, q, w⟩], .sl 3 g2 C2 1, .row 50 3 C2 [enc ⟨p, q, w⟩], g2, b3, false, rfl, by omega, by rw [hl0] at hli; simp at hli ⊢; omega, .inr ⟨C2, rfl, rfl⟩, by omega, (fun _ => ⟨by omega, by have := rdNs_step hns hx; rw [hl0] at this; exact this⟩), (fun h => by cases h), rfl, rfl⟩⟩
          repeat (first | exact trivial | refine And.intro (Sub.junk _) ?_ | refine And.intro (Sub.refl _) ?_ | refine And.intro (Sub.sl _ _ _ _ _) ?_ | refine And.intro (Sub.ptr _ _ _ _) ?_)
        · have h2 : ¬ (i : Int) ≤ 64 := h
          repeat (first | refine Ops.go ?_ | refine And.intro rfl ?_ | refine And.intro (Nat.le_of_ble_eq_true rfl) ?_ | refine And.intro (Int.natCast_nonneg _) ?_ | refine fun (_ : Nat) => ?_ | refine Ord.go ?_ | refine Run.go rfl ?_ | refine Cont.go rfl ?_ | refine OrdP.go ?_)
          have hbig : decD (d.take n) = none := by
            cases hc : rdNs (d.take n) a4 cnt with
            | none => exact decD_none2 hh hc
            | some q' =>
              obtain ⟨l', a'⟩ := q'
              refine (decD_eq hh hc).2 (fun h => ?_)
              have h5 := (rdNs_spec hbt (by rw [tl]; omega) hc).1
              have h6 := h.2.2.2.2.1
              omega
          refine ⟨fun h => ?_, fun h => ?_⟩
          · repeat (first | refine Ops.go ?_ | refine And.intro rfl ?_ | refine And.intro (Nat.le_of_ble_eq_true rfl) ?_ | refine And.intro (Int.natCast_nonneg _) ?_ | refine fun (_ : Nat) => ?_ | refine Ord.go ?_ | refine Run.go rfl ?_ | refine Cont.go rfl ?_ | refine OrdP.go ?_)
            exact ⟨_, [], FinOk.drop _ _, bad_ hbig⟩
          · repeat (first | refine Ops.go ?_ | refine And.intro rfl ?_ | refine And.intro (Nat.le_of_ble_eq_true rfl) ?_ | refine And.intro (Int.natCast_nonneg _) ?_ | refine fun (_ : Nat) => ?_ | refine Ord.go ?_ | refine Run.go rfl ?_ | refine Cont.go rfl ?_ | refine OrdP.go ?_)
            refine ⟨fun h => ?_, fun h => ?_⟩
            · repeat (first | refine Ops.go ?_ | refine And.intro rfl ?_ | refine And.intro (Nat.le_of_ble_eq_true rfl) ?_ | refine And.intro (Int.natCast_nonneg _) ?_ | refine fun (_ : Nat) => ?_ | refine Ord.go ?_ | refine Run.go rfl ?_ | refine Cont.go rfl ?_ | refine OrdP.go ?_)
              exact ⟨_, [], FinOk.drop _ _, bad_ hbig⟩
            · have h4 : ¬ (((0 : Nat) : Int) ≠ (cnt : Int)) := h
              exfalso
              rw [hl0] at hli; simp at hli; omega
      · have h1 : ¬ (i : Int) < (cnt : Int) := h
        repeat (first | refine Ops.go ?_ | refine And.intro rfl ?_ | refine And.intro (Nat.le_of_ble_eq_true rfl) ?_ | refine And.intro (Int.natCast_nonneg _) ?_ | refine fun (_ : Nat) => ?_ | refine Ord.go ?_ | refine Run.go rfl ?_ | refine Cont.go rfl ?_ | refine OrdP.go ?_)
        have hic2 : i = cnt := by omega
        rw [hic2] at hns hli
        have px := (rdNs_spec hbt (by rw [tl]; omega) hns).2.2.2.1
        subst hl0
        refine ⟨fun h => ?_, fun h => ?_⟩
        · have h3 : (at_ : Int) ≠ (n : Int) := h
          repeat (first | refine Ops.go ?_ | refine And.intro rfl ?_ | refine And.intro (Nat.le_of_ble_eq_true rfl) ?_ | refine And.intro (Int.natCast_nonneg _) ?_ | refine fun (_ : Nat) => ?_ | refine Ord.go ?_ | refine Run.go rfl ?_ | refine Cont.go rfl ?_ | refine OrdP.go ?_)
          exact ⟨_, [], FinOk.drop _ _, bad_ ((decD_eq hh hns).2 (fun hc => by rw [tl] at hc; omega))⟩
        · have h3 : ¬ (at_ : Int) ≠ (n : Int) := h
          repeat (first | refine Ops.go ?_ | refine And.intro rfl ?_ | refine And.intro (Nat.le_of_ble_eq_true rfl) ?_ | refine And.intro (Int.natCast_nonneg _) ?_ | refine fun (_ : Nat) => ?_ | refine Ord.go ?_ | refine Run.go rfl ?_ | refine Cont.go rfl ?_ | refine OrdP.go ?_)
          refine ⟨fun h => ?_, fun h => ?_⟩
          · have h4 : ((0 : Nat) : Int) ≠ (cnt : Int) := h
            exfalso
            simp at hli; omega
          · repeat (first | refine Ops.go ?_ | refine And.intro rfl ?_ | refine And.intro (Nat.le_of_ble_eq_true rfl) ?_ | refine And.intro (Int.natCast_nonneg _) ?_ | refine fun (_ : Nat) => ?_ | refine Ord.go ?_ | refine Run.go rfl ?_ | refine Cont.go rfl ?_ | refine OrdP.go ?_)
            have ck := refCheck_spec st pl kd [] ([] : List Sn).length (Nat.le_refl _) (fun x hx => by have := px x hx; omega)
            by_cases hck : refP st pl kd [] ([] : List Sn).length
            · rw [if_pos hck] at ck
              refine ACall.ret_lend (args' := [shot st pl kd (rdo [] ([] : List Sn).length)]) (.one (Lend.aggs ⟨.same _, .same _, .same _, (.nils 3), trivial⟩)) ck rfl ?_
              repeat (first | refine Ops.go ?_ | refine And.intro rfl ?_ | refine And.intro (Nat.le_of_ble_eq_true rfl) ?_ | refine And.intro (Int.natCast_nonneg _) ?_ | refine fun (_ : Nat) => ?_ | refine Ord.go ?_ | refine Run.go rfl ?_ | refine Cont.go rfl ?_ | refine OrdP.go ?_)
              refine ⟨fun h => absurd rfl h, fun _ => ?_⟩
              repeat (first | refine Ops.go ?_ | refine And.intro rfl ?_ | refine And.intro (Nat.le_of_ble_eq_true rfl) ?_ | refine And.intro (Int.natCast_nonneg _) ?_ | refine fun (_ : Nat) => ?_ | refine Ord.go ?_ | refine Run.go rfl ?_ | refine Cont.go rfl ?_ | refine OrdP.go ?_)
              exact ⟨.tuple [shot st pl kd (.nils), .int .i64 0], _, FinOk.keep _ [3] (Sub.refl _) (by decide) rfl, .inr (.inr ⟨hlen, st, pl, kd, [], (decD_eq hh hns).1 ⟨by rw [tl]; omega, (check_ref _ _ _ _ _ (Nat.le_refl _)).2 hck⟩, .nils, g, _, .inl ⟨rfl, rfl, rfl⟩, rfl, rfl⟩)⟩
            · rw [if_neg hck] at ck
              refine ACall.ret_lend (args' := [shot st pl kd (rdo [] ([] : List Sn).length)]) (.one (Lend.aggs ⟨.same _, .same _, .same _, (.nils 3), trivial⟩)) ck rfl ?_
              repeat (first | refine Ops.go ?_ | refine And.intro rfl ?_ | refine And.intro (Nat.le_of_ble_eq_true rfl) ?_ | refine And.intro (Int.natCast_nonneg _) ?_ | refine fun (_ : Nat) => ?_ | refine Ord.go ?_ | refine Run.go rfl ?_ | refine Cont.go rfl ?_ | refine OrdP.go ?_)
              refine ⟨fun _ => ?_, fun h => absurd (by decide) h⟩
              repeat (first | refine Ops.go ?_ | refine And.intro rfl ?_ | refine And.intro (Nat.le_of_ble_eq_true rfl) ?_ | refine And.intro (Int.natCast_nonneg _) ?_ | refine fun (_ : Nat) => ?_ | refine Ord.go ?_ | refine Run.go rfl ?_ | refine Cont.go rfl ?_ | refine OrdP.go ?_)
              exact ⟨_, [], FinOk.drop _ _, bad_ ((decD_eq hh hns).2 (fun hc => hck ((check_ref _ _ _ _ _ (Nat.le_refl _)).1 hc.2)))⟩
  · cases bad with
    | true =>
      have hnone := hbd rfl
      repeat (first | refine Ops.go ?_ | refine And.intro rfl ?_ | refine And.intro (Nat.le_of_ble_eq_true rfl) ?_ | refine And.intro (Int.natCast_nonneg _) ?_ | refine fun (_ : Nat) => ?_ | refine Ord.go ?_ | refine Run.go rfl ?_ | refine Cont.go rfl ?_ | refine OrdP.go ?_)
      refine ⟨fun h => ?_, fun h => ?_⟩
      · repeat (first | refine Ops.go ?_ | refine And.intro rfl ?_ | refine And.intro (Nat.le_of_ble_eq_true rfl) ?_ | refine And.intro (Int.natCast_nonneg _) ?_ | refine fun (_ : Nat) => ?_ | refine Ord.go ?_ | refine Run.go rfl ?_ | refine Cont.go rfl ?_ | refine OrdP.go ?_)
        refine ⟨fun h => ?_, fun h => ?_⟩
        · repeat (first | refine Ops.go ?_ | refine And.intro rfl ?_ | refine And.intro (Nat.le_of_ble_eq_true rfl) ?_ | refine And.intro (Int.natCast_nonneg _) ?_ | refine fun (_ : Nat) => ?_ | refine Ord.go ?_ | refine Run.go rfl ?_ | refine Cont.go rfl ?_ | refine OrdP.go ?_)
          exact ⟨_, [], FinOk.drop _ _, bad_ hnone⟩
        · repeat (first | refine Ops.go ?_ | refine And.intro rfl ?_ | refine And.intro (Nat.le_of_ble_eq_true rfl) ?_ | refine And.intro (Int.natCast_nonneg _) ?_ | refine fun (_ : Nat) => ?_ | refine Ord.go ?_ | refine Run.go rfl ?_ | refine Cont.go rfl ?_ | refine OrdP.go ?_)
          exact ⟨_, [], FinOk.drop _ _, bad_ hnone⟩
      · repeat (first | refine Ops.go ?_ | refine And.intro rfl ?_ | refine And.intro (Nat.le_of_ble_eq_true rfl) ?_ | refine And.intro (Int.natCast_nonneg _) ?_ | refine fun (_ : Nat) => ?_ | refine Ord.go ?_ | refine Run.go rfl ?_ | refine Cont.go rfl ?_ | refine OrdP.go ?_)
        exact ⟨_, [], FinOk.drop _ _, bad_ hnone⟩
    | false =>
      obtain ⟨hic, hns⟩ := hgd rfl
      repeat (first | refine Ops.go ?_ | refine And.intro rfl ?_ | refine And.intro (Nat.le_of_ble_eq_true rfl) ?_ | refine And.intro (Int.natCast_nonneg _) ?_ | refine fun (_ : Nat) => ?_ | refine Ord.go ?_ | refine Run.go rfl ?_ | refine Cont.go rfl ?_ | refine OrdP.go ?_)
      refine ⟨fun h => ?_, fun h => ?_⟩
      · have h1 : (i : Int) < (cnt : Int) := h
        repeat (first | refine Ops.go ?_ | refine And.intro rfl ?_ | refine And.intro (Nat.le_of_ble_eq_true rfl) ?_ | refine And.intro (Int.natCast_nonneg _) ?_ | refine fun (_ : Nat) => ?_ | refine Ord.go ?_ | refine Run.go rfl ?_ | refine Cont.go rfl ?_ | refine OrdP.go ?_)
        refine ⟨fun h => ?_, fun h => ?_⟩
        · have h2 : (i : Int) ≤ 64 := h
          repeat (first | refine Ops.go ?_ | refine And.intro rfl ?_ | refine And.intro (Nat.le_of_ble_eq_true rfl) ?_ | refine And.intro (Int.natCast_nonneg _) ?_ | refine fun (_ : Nat) => ?_ | refine Ord.go ?_ | refine Run.go rfl ?_ | refine Cont.go rfl ?_ | refine OrdP.go ?_)
          rename_i gx
          refine ACall.sel [1] (by decide) [.ptr 0 gc 0] _ (.one (Sub.ptr _ _ _ _)) (cTxt_spec d n at_ hn hb (by omega) hN gc false) ?_
          rintro r L' (⟨_, p, b1, e1, rfl, rfl⟩ | ⟨hbad, rfl, rfl⟩)
          case' inr =>
            have e1 := hbad.resolve_left (by decide)
            have hnone := decD_none2 hh (rdNs_fail hns (rdNode_none1 e1) (by omega))
            refine ⟨_, Sub.refl _, ?_⟩
            repeat (first | refine Ops.go ?_ | refine And.intro rfl ?_ | refine And.intro (Nat.le_of_ble_eq_true rfl) ?_ | refine And.intro (Int.natCast_nonneg _) ?_ | refine fun (_ : Nat) => ?_ | refine Ord.go ?_ | refine Run.go rfl ?_ | refine Cont.go rfl ?_ | refine OrdP.go ?_)
            refine ACall.sel [1] (by decide) [.ptr 0 gc 0] _ (.one (Sub.ptr _ _ _ _)) (cTxt_spec d n at_ hn hb (by omega) hN gc true) ?_
            rintro r L' (⟨h, _⟩ | ⟨_, rfl, rfl⟩)
            · cases h
            refine ⟨_, Sub.refl _, ?_⟩
            repeat (first | refine Ops.go ?_ | refine And.intro rfl ?_ | refine And.intro (Nat.le_of_ble_eq_true rfl) ?_ | refine And.intro (Int.natCast_nonneg _) ?_ | refine fun (_ : Nat) => ?_ | refine Ord.go ?_ | refine Run.go rfl ?_ | refine Cont.go rfl ?_ | refine OrdP.go ?_)
            refine ACall.sel [1] (by decide) [.ptr 0 gc 0] _ (.one (Sub.ptr _ _ _ _)) (cNum_spec d n at_ hn hb (by omega) hN gc true) ?_
            rintro r L' (⟨h, _⟩ | ⟨_, rfl, rfl⟩)
            · cases h
            refine ⟨_, Sub.refl _, ?_⟩
            repeat (first | refine Ops.go ?_ | refine And.intro rfl ?_ | refine And.intro (Nat.le_of_ble_eq_true rfl) ?_ | refine And.intro (Int.natCast_nonneg _) ?_ | refine fun (_ : Nat) => ?_ | refine Ord.go ?_ | refine Run.go rfl ?_ | refine Cont.go rfl ?_ | refine OrdP.go ?_)
            refine ⟨(List.length_map ..).symm, ?_⟩
            repeat (first | refine Ops.go ?_ | refine And.intro rfl ?_ | refine And.intro (Nat.le_of_ble_eq_true rfl) ?_ | refine And.intro (Int.natCast_nonneg _) ?_ | refine fun (_ : Nat) => ?_ | refine Ord.go ?_ | refine Run.go rfl ?_ | refine Cont.go rfl ?_ | refine OrdP.go ?_)
            refine ⟨show ((l.map enc).length + 1) * 40 ≤ _ by rw [List.length_map]; omega, ?_⟩
            repeat (first | refine Ops.go ?_ | refine And.intro rfl ?_ | refine And.intro (Nat.le_of_ble_eq_true rfl) ?_ | refine And.intro (Int.natCast_nonneg _) ?_ | refine fun (_ : Nat) => ?_ | refine Ord.go ?_ | refine Run.go rfl ?_ | refine Cont.go rfl ?_ | refine OrdP.go ?_)
            rename_i gb g2 C2
            refine fun r hr => ?_
            obtain rfl := add1 hr (by omega)
            repeat (first | refine Ops.go ?_ | refine And.intro rfl ?_ | refine And.intro (Nat.le_of_ble_eq_true rfl) ?_ | refine And.intro (Int.natCast_nonneg _) ?_ | refine fun (_ : Nat) => ?_ | refine Ord.go ?_ | refine Run.go rfl ?_ | refine Cont.go rfl ?_ | refine OrdP.go ?_)
            refine Cont.lpW ?_
            refine ⟨66 - (i + 1), [rdb d n, .junk, .ptr 0 g0 0, .junk, .ptr 1 gc 0, .ptr 2 gs 0, .int .i64 cnt, .int .i64 (i + 1 : Nat), .junk, .junk, .junk, .junk, .junk, .junk, .junk, .junk, .junk, .junk, .junk, .junk, .junk, .junk, .junk, .junk, .junk, .junk, .junk, .junk, .junk, .junk, .junk, .junk, .junk, .junk, .junk, .junk, .junk, .junk, .junk, .junk, .junk, .junk, .junk, .junk, .junk, .junk, .junk, .junk, .junk, .junk, .junk, .junk, .junk, .junk, .junk, .junk, .junk, .junk, .junk, .junk, .junk, .junk, .junk, .junk, .junk, .junk, .junk, .junk, .junk, .junk, .junk, .junk, .junk, .junk, .junk, .junk, .junk, .junk, .junk, .junk, .junk, .junk, .junk, .junk, .junk, .junk, .junk], [(g0, .cells 24 [.int .i64 0, .str ⟨#[]⟩, .int .i64 0, .nils]), (gc, .cells 82 [rdb d n, .int .i64 (at_ : Nat), .bool true]), (gs, .cells 24 [.int .i64 st, .str pl, .int .i64 kd, .sl 3 g2 C2 ((l.map enc).length + 1)]), (g2, .row 50 3 C2 (l.map enc ++ [enc ⟨⟨#[]⟩, ⟨#[]⟩, 0⟩]))], by omega, Weak.sel ?_ [0, 1, 2, 3] (by decide) ⟨rfl, SubO.refl _, rfl, SubO.refl _, rfl, SubO.refl _, rfl, SubO.refl _, trivial⟩,
              ⟨i + 1, l ++ [⟨⟨#[]⟩, ⟨#[]⟩, 0⟩], (.sl 3 g2 C2 ((l.map enc).length + 1)), (.row 50 3 C2 (l.map enc ++ [enc ⟨⟨#[]⟩, ⟨#[]⟩, 0⟩])), g2, at_, true, rfl, by omega, by simp; omega, .inr ⟨C2, by simp, by simp⟩, by omega, (fun h => by cases h), (fun _ => hnone), rfl, rfl⟩⟩
            repeat (first | exact trivial | refine And.intro (Sub.junk _) ?_ | refine And.intro (Sub.refl _) ?_ | refine And.intro (Sub.sl _ _ _ _ _) ?_ | refine And.intro (Sub.ptr _ _ _ _) ?_)
          have w1 := readT_spec hbt e1
          rw [tl] at w1
          refine ⟨_, Sub.refl _, ?_⟩
          repeat (first | refine Ops.go ?_ | refine And.intro rfl ?_ | refine And.intro (Nat.le_of_ble_eq_true rfl) ?_ | refine And.intro (Int.natCast_nonneg _) ?_ | refine fun (_ : Nat) => ?_ | refine Ord.go ?_ | refine Run.go rfl ?_ | refine Cont.go rfl ?_ | refine OrdP.go ?_)
          refine ACall.sel [1] (by decide) [.ptr 0 gc 0] _ (.one (Sub.ptr _ _ _ _)) (cTxt_spec d n b1 hn hb (by omega) hN gc false) ?_
          rintro r L' (⟨_, q, b2, e2, rfl, rfl⟩ | ⟨hbad, rfl, rfl⟩)
          case' inr =>
            have e2 := hbad.resolve_left (by decide)
            have hnone := decD_none2 hh (rdNs_fail hns (rdNode_none2 e1 e2) (by omega))
            refine ⟨_, Sub.refl _, ?_⟩
            repeat (first | refine Ops.go ?_ | refine And.intro rfl ?_ | refine And.intro (Nat.le_of_ble_eq_true rfl) ?_ | refine And.intro (Int.natCast_nonneg _) ?_ | refine fun (_ : Nat) => ?_ | refine Ord.go ?_ | refine Run.go rfl ?_ | refine Cont.go rfl ?_ | refine OrdP.go ?_)
            refine ACall.sel [1] (by decide) [.ptr 0 gc 0] _ (.one (Sub.ptr _ _ _ _)) (cNum_spec d n b1 hn hb (by omega) hN gc true) ?_
            rintro r L' (⟨h, _⟩ | ⟨_, rfl, rfl⟩)
            · cases h
            refine ⟨_, Sub.refl _, ?_⟩
            repeat (first | refine Ops.go ?_ | refine And.intro rfl ?_ | refine And.intro (Nat.le_of_ble_eq_true rfl) ?_ | refine And.intro (Int.natCast_nonneg _) ?_ | refine fun (_ : Nat) => ?_ | refine Ord.go ?_ | refine Run.go rfl ?_ | refine Cont.go rfl ?_ | refine OrdP.go ?_)
            refine ⟨(List.length_map ..).symm, ?_⟩
            repeat (first | refine Ops.go ?_ | refine And.intro rfl ?_ | refine And.intro (Nat.le_of_ble_eq_true rfl) ?_ | refine And.intro (Int.natCast_nonneg _) ?_ | refine fun (_ : Nat) => ?_ | refine Ord.go ?_ | refine Run.go rfl ?_ | refine Cont.go rfl ?_ | refine OrdP.go ?_)
            refine ⟨show ((l.map enc).length + 1) * 40 ≤ _ by rw [List.length_map]; omega, ?_⟩
            repeat (first | refine Ops.go ?_ | refine And.intro rfl ?_ | refine And.intro (Nat.le_of_ble_eq_true rfl) ?_ | refine And.intro (Int.natCast_nonneg _) ?_ | refine fun (_ : Nat) => ?_ | refine Ord.go ?_ | refine Run.go rfl ?_ | refine Cont.go rfl ?_ | refine OrdP.go ?_)
            rename_i gb g2 C2
            refine fun r hr => ?_
            obtain rfl := add1 hr (by omega)
            repeat (first | refine Ops.go ?_ | refine And.intro rfl ?_ | refine And.intro (Nat.le_of_ble_eq_true rfl) ?_ | refine And.intro (Int.natCast_nonneg _) ?_ | refine fun (_ : Nat) => ?_ | refine Ord.go ?_ | refine Run.go rfl ?_ | refine Cont.go rfl ?_ | refine OrdP.go ?_)
            refine Cont.lpW ?_
            refine ⟨66 - (i + 1), [rdb d n, .junk, .ptr 0 g0 0, .junk, .ptr 1 gc 0, .ptr 2 gs 0, .int .i64 cnt, .int .i64 (i + 1 : Nat), .junk, .junk, .junk, .junk, .junk, .junk, .junk, .junk, .junk, .junk, .junk, .junk, .junk, .junk, .junk, .junk, .junk, .junk, .junk, .junk, .junk, .junk, .junk, .junk, .junk, .junk, .junk, .junk, .junk, .junk, .junk, .junk, .junk, .junk, .junk, .junk, .junk, .junk, .junk, .junk, .junk, .junk, .junk, .junk, .junk, .junk, .junk, .junk, .junk, .junk, .junk, .junk, .junk, .junk, .junk, .junk, .junk, .junk, .junk, .junk, .junk, .junk, .junk, .junk, .junk, .junk, .junk, .junk, .junk, .junk, .junk, .junk, .junk, .junk, .junk, .junk, .junk, .junk, .junk], [(g0, .cells 24 [.int .i64 0, .str ⟨#[]⟩, .int .i64 0, .nils]), (gc, .cells 82 [rdb d n, .int .i64 (b1 : Nat), .bool true]), (gs, .cells 24 [.int .i64 st, .str pl, .int .i64 kd, .sl 3 g2 C2 ((l.map enc).length + 1)]), (g2, .row 50 3 C2 (l.map enc ++ [enc ⟨p, ⟨#[]⟩, 0⟩]))], by omega, Weak.sel ?_ [0, 1, 2, 3] (by decide) ⟨rfl, SubO.refl _, rfl, SubO.refl _, rfl, SubO.refl _, rfl, SubO.refl _, trivial⟩,
              ⟨i + 1, l ++ [⟨p, ⟨#[]⟩, 0⟩], (.sl 3 g2 C2 ((l.map enc).length + 1)), (.row 50 3 C2 (l.map enc ++ [enc ⟨p, ⟨#[]⟩, 0⟩])), g2, b1, true, rfl, by omega, by simp; omega, .inr ⟨C2, by simp, by simp⟩, by omega, (fun h => by cases h), (fun _ => hnone), rfl, rfl⟩⟩
            repeat (first | exact trivial | refine And.intro (Sub.junk _) ?_ | refine And.intro (Sub.refl _) ?_ | refine And.intro (Sub.sl _ _ _ _ _) ?_ | refine And.intro (Sub.ptr _ _ _ _) ?_)
          have w2 := readT_spec hbt e2
          rw [tl] at w2
          refine ⟨_, Sub.refl _, ?_⟩
          repeat (first | refine Ops.go ?_ | refine And.intro rfl ?_ | refine And.intro (Nat.le_of_ble_eq_true rfl) ?_ | refine And.intro (Int.natCast_nonneg _) ?_ | refine fun (_ : Nat) => ?_ | refine Ord.go ?_ | refine Run.go rfl ?_ | refine Cont.go rfl ?_ | refine OrdP.go ?_)
          refine ACall.sel [1] (by decide) [.ptr 0 gc 0] _ (.one (Sub.ptr _ _ _ _)) (cNum_spec d n b2 hn hb (by omega) hN gc false) ?_
          rintro r L' (⟨_, w, b3, e3, rfl, rfl⟩ | ⟨hbad, rfl, rfl⟩)
          case' inr =>
            have e3 := hbad.resolve_left (by decide)
            have hnone := decD_none2 hh (rdNs_fail hns (rdNode_none3 e1 e2 e3) (by omega))
            refine ⟨_, Sub.refl _, ?_⟩
            repeat (first | refine Ops.go ?_ | refine And.intro rfl ?_ | refine And.intro (Nat.le_of_ble_eq_true rfl) ?_ | refine And.intro (Int.natCast_nonneg _) ?_ | refine fun (_ : Nat) => ?_ | refine Ord.go ?_ | refine Run.go rfl ?_ | refine Cont.go rfl ?_ | refine OrdP.go ?_)
            refine ⟨(List.length_map ..).symm, ?_⟩
            repeat (first | refine Ops.go ?_ | refine And.intro rfl ?_ | refine And.intro (Nat.le_of_ble_eq_true rfl) ?_ | refine And.intro (Int.natCast_nonneg _) ?_ | refine fun (_ : Nat) => ?_ | refine Ord.go ?_ | refine Run.go rfl ?_ | refine Cont.go rfl ?_ | refine OrdP.go ?_)
            refine ⟨show ((l.map enc).length + 1) * 40 ≤ _ by rw [List.length_map]; omega, ?_⟩
            repeat (first | refine Ops.go ?_ | refine And.intro rfl ?_ | refine And.intro (Nat.le_of_ble_eq_true rfl) ?_ | refine And.intro (Int.natCast_nonneg _) ?_ | refine fun (_ : Nat) => ?_ | refine Ord.go ?_ | refine Run.go rfl ?_ | refine Cont.go rfl ?_ | refine OrdP.go ?_)
            rename_i gb g2 C2
            refine fun r hr => ?_
            obtain rfl := add1 hr (by omega)
            repeat (first | refine Ops.go ?_ | refine And.intro rfl ?_ | refine And.intro (Nat.le_of_ble_eq_true rfl) ?_ | refine And.intro (Int.natCast_nonneg _) ?_ | refine fun (_ : Nat) => ?_ | refine Ord.go ?_ | refine Run.go rfl ?_ | refine Cont.go rfl ?_ | refine OrdP.go ?_)
            refine Cont.lpW ?_
            refine ⟨66 - (i + 1), [rdb d n, .junk, .ptr 0 g0 0, .junk, .ptr 1 gc 0, .ptr 2 gs 0, .int .i64 cnt, .int .i64 (i + 1 : Nat), .junk, .junk, .junk, .junk, .junk, .junk, .junk, .junk, .junk, .junk, .junk, .junk, .junk, .junk, .junk, .junk, .junk, .junk, .junk, .junk, .junk, .junk, .junk, .junk, .junk, .junk, .junk, .junk, .junk, .junk, .junk, .junk, .junk, .junk, .junk, .junk, .junk, .junk, .junk, .junk, .junk, .junk, .junk, .junk, .junk, .junk, .junk, .junk, .junk, .junk, .junk, .junk, .junk, .junk, .junk, .junk, .junk, .junk, .junk, .junk, .junk, .junk, .junk, .junk, .junk, .junk, .junk, .junk, .junk, .junk, .junk, .junk, .junk, .junk, .junk, .junk, .junk, .junk, .junk], [(g0, .cells 24 [.int .i64 0, .str ⟨#[]⟩, .int .i64 0, .nils]), (gc, .cells 82 [rdb d n, .int .i64 (b2 : Nat), .bool true]), (gs, .cells 24 [.int .i64 st, .str pl, .int .i64 kd, .sl 3 g2 C2 ((l.map enc).length + 1)]), (g2, .row 50 3 C2 (l.map enc ++ [enc ⟨p, q, 0⟩]))], by omega, Weak.sel ?_ [0, 1, 2, 3] (by decide) ⟨rfl, SubO.refl _, rfl, SubO.refl _, rfl, SubO.refl _, rfl, SubO.refl _, trivial⟩,
              ⟨i + 1, l ++ [⟨p, q, 0⟩], (.sl 3 g2 C2 ((l.map enc).length + 1)), (.row 50 3 C2 (l.map enc ++ [enc ⟨p, q, 0⟩])), g2, b2, true, rfl, by omega, by simp; omega, .inr ⟨C2, by simp, by simp⟩, by omega, (fun h => by cases h), (fun _ => hnone), rfl, rfl⟩⟩
            repeat (first | exact trivial | refine And.intro (Sub.junk _) ?_ | refine And.intro (Sub.refl _) ?_ | refine And.intro (Sub.sl _ _ _ _ _) ?_ | refine And.intro (Sub.ptr _ _ _ _) ?_)
          have w3 := readN_spec hbt e3
          rw [tl] at w3
          have hx := rdNode_some e1 e2 e3
          refine ⟨_, Sub.refl _, ?_⟩
          repeat (first | refine Ops.go ?_ | refine And.intro rfl ?_ | refine And.intro (Nat.le_of_ble_eq_true rfl) ?_ | refine And.intro (Int.natCast_nonneg _) ?_ | refine fun (_ : Nat) => ?_ | refine Ord.go ?_ | refine Run.go rfl ?_ | refine Cont.go rfl ?_ | refine OrdP.go ?_)
          refine ⟨(List.length_map ..).symm, ?_⟩
          repeat (first | refine Ops.go ?_ | refine And.intro rfl ?_ | refine And.intro (Nat.le_of_ble_eq_true rfl) ?_ | refine And.intro (Int.natCast_nonneg _) ?_ | refine fun (_ : Nat) => ?_ | refine Ord.go ?_ | refine Run.go rfl ?_ | refine Cont.go rfl ?_ | refine OrdP.go ?_)
          refine ⟨show ((l.map enc).length + 1) * 40 ≤ _ by rw [List.length_map]; omega, ?_⟩
          repeat (first | refine Ops.go ?_ | refine And.intro rfl ?_ | refine And.intro (Nat.le_of_ble_eq_true rfl) ?_ | refine And.intro (Int.natCast_nonneg _) ?_ | refine fun (_ : Nat) => ?_ | refine Ord.go ?_ | refine Run.go rfl ?_ | refine Cont.go rfl ?_ | refine OrdP.go ?_)
          rename_i gb g2 C2
          refine fun r hr => ?_
          obtain rfl := add1 hr (by omega)
          repeat (first | refine Ops.go ?_ | refine And.intro rfl ?_ | refine And.intro (Nat.le_of_ble_eq_true rfl) ?_ | refine And.intro (Int.natCast_nonneg _) ?_ | refine fun (_ : Nat) => ?_ | refine Ord.go ?_ | refine Run.go rfl ?_ | refine Cont.go rfl ?_ | refine OrdP.go ?_)
          refine Cont.lpW ?_
          refine ⟨66 - (i + 1), [rdb d n, .junk, .ptr 0 g0 0, .junk, .ptr 1 gc 0, .ptr 2 gs 0, .int .i64 cnt, .int .i64 (i + 1 : Nat), .junk, .junk, .junk, .junk, .junk, .junk, .junk, .junk, .junk, .junk, .junk, .junk, .junk, .junk, .junk, .junk, .junk, .junk, .junk, .junk, .junk, .junk, .junk, .junk, .junk, .junk, .junk, .junk, .junk, .junk, .junk, .junk, .junk, .junk, .junk, .junk, .junk, .junk, .junk, .junk, .junk, .junk, .junk, .junk, .junk, .junk, .junk, .junk, .junk, .junk, .junk, .junk, .junk, .junk, .junk, .junk, .junk, .junk, .junk, .junk, .junk, .junk, .junk, .junk, .junk, .junk, .junk, .junk, .junk, .junk, .junk, .junk, .junk, .junk, .junk, .junk, .junk, .junk, .junk], [(g0, .cells 24 [.int .i64 0, .str ⟨#[]⟩, .int .i64 0, .nils]), (gc, .cells 82 [rdb d n, .int .i64 (b3 : Nat), .bool false]), (gs, .cells 24 [.int .i64 st, .str pl, .int .i64 kd, .sl 3 g2 C2 ((l.map enc).length + 1)]), (g2, .row 50 3 C2 (l.map enc ++ [enc ⟨p, q, w⟩]))], by omega, Weak.sel ?_ [0, 1, 2, 3] (by decide) ⟨rfl, SubO.refl _, rfl, SubO.refl _, rfl, SubO.refl _, rfl, SubO.refl _, trivial⟩,
            ⟨i + 1, l ++ [⟨p, q, w⟩], (.sl 3 g2 C2 ((l.map enc).length + 1)), (.row 50 3 C2 (l.map enc ++ [enc ⟨p, q, w⟩])), g2, b3, false, rfl, by omega, by simp; omega, .inr ⟨C2, by simp, by simp⟩, by omega, (fun _ => ⟨by omega, rdNs_step hns hx⟩), (fun h => by cases h), rfl, rfl⟩⟩
          repeat (first | exact trivial | refine And.intro (Sub.junk _) ?_ | refine And.intro (Sub.refl _) ?_ | refine And.intro (Sub.sl _ _ _ _ _) ?_ | refine And.intro (Sub.ptr _ _ _ _) ?_)
        · have h2 : ¬ (i : Int) ≤ 64 := h
          repeat (first | refine Ops.go ?_ | refine And.intro rfl ?_ | refine And.intro (Nat.le_of_ble_eq_true rfl) ?_ | refine And.intro (Int.natCast_nonneg _) ?_ | refine fun (_ : Nat) => ?_ | refine Ord.go ?_ | refine Run.go rfl ?_ | refine Cont.go rfl ?_ | refine OrdP.go ?_)
          have hbig : decD (d.take n) = none := by
            cases hc : rdNs (d.take n) a4 cnt with
            | none => exact decD_none2 hh hc
            | some q' =>
              obtain ⟨l', a'⟩ := q'
              refine (decD_eq hh hc).2 (fun h => ?_)
              have h5 := (rdNs_spec hbt (by rw [tl]; omega) hc).1
              have h6 := h.2.2.2.2.1
              omega
          refine ⟨fun h => ?_, fun h => ?_⟩
          · repeat (first | refine Ops.go ?_ | refine And.intro rfl ?_ | refine And.intro (Nat.le_of_ble_eq_true rfl) ?_ | refine And.intro (Int.natCast_nonneg _) ?_ | refine fun (_ : Nat) => ?_ | refine Ord.go ?_ | refine Run.go rfl ?_ | refine Cont.go rfl ?_ | refine OrdP.go ?_)
            exact ⟨_, [], FinOk.drop _ _, bad_ hbig⟩
          · repeat (first | refine Ops.go ?_ | refine And.intro rfl ?_ | refine And.intro (Nat.le_of_ble_eq_true rfl) ?_ | refine And.intro (Int.natCast_nonneg _) ?_ | refine fun (_ : Nat) => ?_ | refine Ord.go ?_ | refine Run.go rfl ?_ | refine Cont.go rfl ?_ | refine OrdP.go ?_)
            refine ⟨fun h => ?_, fun h => ?_⟩
            · repeat (first | refine Ops.go ?_ | refine And.intro rfl ?_ | refine And.intro (Nat.le_of_ble_eq_true rfl) ?_ | refine And.intro (Int.natCast_nonneg _) ?_ | refine fun (_ : Nat) => ?_ | refine Ord.go ?_ | refine Run.go rfl ?_ | refine Cont.go rfl ?_ | refine OrdP.go ?_)
              exact ⟨_, [], FinOk.drop _ _, bad_ hbig⟩
            · have h4 : ¬ (((l.length : Nat) : Int) ≠ (cnt : Int)) := h
              exfalso
              omega
      · have h1 : ¬ (i : Int) < (cnt : Int) := h
        repeat (first | refine Ops.go ?_ | refine And.intro rfl ?_ | refine And.intro (Nat.le_of_ble_eq_true rfl) ?_ | refine And.intro (Int.natCast_nonneg _) ?_ | refine fun (_ : Nat) => ?_ | refine Ord.go ?_ | refine Run.go rfl ?_ | refine Cont.go rfl ?_ | refine OrdP.go ?_)
        have hic2 : i = cnt := by omega
        rw [hic2] at hns hli
        have px := (rdNs_spec hbt (by rw [tl]; omega) hns).2.2.2.1

        refine ⟨fun h => ?_, fun h => ?_⟩
        · have h3 : (at_ : Int) ≠ (n : Int) := h
          repeat (first | refine Ops.go ?_ | refine And.intro rfl ?_ | refine And.intro (Nat.le_of_ble_eq_true rfl) ?_ | refine And.intro (Int.natCast_nonneg _) ?_ | refine fun (_ : Nat) => ?_ | refine Ord.go ?_ | refine Run.go rfl ?_ | refine Cont.go rfl ?_ | refine OrdP.go ?_)
          exact ⟨_, [], FinOk.drop _ _, bad_ ((decD_eq hh hns).2 (fun hc => by rw [tl] at hc; omega))⟩
        · have h3 : ¬ (at_ : Int) ≠ (n : Int) := h
          repeat (first | refine Ops.go ?_ | refine And.intro rfl ?_ | refine And.intro (Nat.le_of_ble_eq_true rfl) ?_ | refine And.intro (Int.natCast_nonneg _) ?_ | refine fun (_ : Nat) => ?_ | refine Ord.go ?_ | refine Run.go rfl ?_ | refine Cont.go rfl ?_ | refine OrdP.go ?_)
          refine ⟨fun h => ?_, fun h => ?_⟩
          · have h4 : ((l.length : Nat) : Int) ≠ (cnt : Int) := h
            exfalso
            omega
          · repeat (first | refine Ops.go ?_ | refine And.intro rfl ?_ | refine And.intro (Nat.le_of_ble_eq_true rfl) ?_ | refine And.intro (Int.natCast_nonneg _) ?_ | refine fun (_ : Nat) => ?_ | refine Ord.go ?_ | refine Run.go rfl ?_ | refine Cont.go rfl ?_ | refine OrdP.go ?_)
            have ck := refCheck_spec st pl kd l (l : List Sn).length (Nat.le_refl _) (fun x hx => by have := px x hx; omega)
            by_cases hck : refP st pl kd l (l : List Sn).length
            · rw [if_pos hck] at ck
              refine ACall.ret_lend (args' := [shot st pl kd (rdo l (l : List Sn).length)]) (.one (Lend.aggs ⟨.same _, .same _, .same _, (.row _ _ _ _ _ _ _ rfl (by rw [List.length_map]; exact Nat.le_refl _)), trivial⟩)) ck rfl ?_
              repeat (first | refine Ops.go ?_ | refine And.intro rfl ?_ | refine And.intro (Nat.le_of_ble_eq_true rfl) ?_ | refine And.intro (Int.natCast_nonneg _) ?_ | refine fun (_ : Nat) => ?_ | refine Ord.go ?_ | refine Run.go rfl ?_ | refine Cont.go rfl ?_ | refine OrdP.go ?_)
              refine ⟨fun h => absurd rfl h, fun _ => ?_⟩
              repeat (first | refine Ops.go ?_ | refine And.intro rfl ?_ | refine And.intro (Nat.le_of_ble_eq_true rfl) ?_ | refine And.intro (Int.natCast_nonneg _) ?_ | refine fun (_ : Nat) => ?_ | refine Ord.go ?_ | refine Run.go rfl ?_ | refine Cont.go rfl ?_ | refine OrdP.go ?_)
              exact ⟨.tuple [shot st pl kd (.sl 0 g Cp l.length), .int .i64 0], _, FinOk.keep _ [3] (Sub.tuples ⟨Sub.aggs ⟨Sub.refl _, Sub.refl _, Sub.refl _, Sub.sl _ 0 _ _ _, trivial⟩, Sub.refl _, trivial⟩) (by decide) rfl, .inr (.inr ⟨hlen, st, pl, kd, l, (decD_eq hh hns).1 ⟨by rw [tl]; omega, (check_ref _ _ _ _ _ (Nat.le_refl _)).2 hck⟩, .sl 0 g Cp l.length, g, _, .inr ⟨Cp, rfl, rfl⟩, rfl, rfl⟩)⟩
            · rw [if_neg hck] at ck
              refine ACall.ret_lend (args' := [shot st pl kd (rdo l (l : List Sn).length)]) (.one (Lend.aggs ⟨.same _, .same _, .same _, (.row _ _ _ _ _ _ _ rfl (by rw [List.length_map]; exact Nat.le_refl _)), trivial⟩)) ck rfl ?_
              repeat (first | refine Ops.go ?_ | refine And.intro rfl ?_ | refine And.intro (Nat.le_of_ble_eq_true rfl) ?_ | refine And.intro (Int.natCast_nonneg _) ?_ | refine fun (_ : Nat) => ?_ | refine Ord.go ?_ | refine Run.go rfl ?_ | refine Cont.go rfl ?_ | refine OrdP.go ?_)
              refine ⟨fun _ => ?_, fun h => absurd (by decide) h⟩
              repeat (first | refine Ops.go ?_ | refine And.intro rfl ?_ | refine And.intro (Nat.le_of_ble_eq_true rfl) ?_ | refine And.intro (Int.natCast_nonneg _) ?_ | refine fun (_ : Nat) => ?_ | refine Ord.go ?_ | refine Run.go rfl ?_ | refine Cont.go rfl ?_ | refine OrdP.go ?_)
              exact ⟨_, [], FinOk.drop _ _, bad_ ((decD_eq hh hns).2 (fun hc => hck ((check_ref _ _ _ _ _ (Nat.le_refl _)).1 hc.2)))⟩
end Go.Proofs.YtfohedaadncefaaDoor.HBT
