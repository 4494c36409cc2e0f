/- The contracts of the library's Grow and Concat at lists of changes, of the law's comparison of two such lists, and of the document's search, once more. -/
import Derived.Test.YtfohedaadncefaaDoorHbD8
import Derived.Lib.Overlaps
namespace Go.Proofs.YtfohedaadncefaaDoor.HBT
open Go Go.Proofs.YtfohedaadncefaaDoor.HB Go.RowKit
set_option maxRecDepth 8000

theorem mapC_len (l : List Ch) : (l.map encC).length = l.length := List.length_map ..
theorem grow_spec (n : Nat) (hn : n ≤ 1000) : FnSpec C 69 [.nils, .int .i64 n] [] (fun r L' => (n = 0 ∧ r = .nils ∧ L' = []) ∨ (0 < n ∧ ∃ g Cp, r = .sl 0 g Cp 0 ∧ L' = [(g, .row 69 4 Cp [])])) := by
  refine FnSpec.start C_ok Tryd.func69 rfl rfl Tryd.ntmps69 ?_
  repeat (first | refine Ops.go ?_ | refine And.intro rfl ?_ | refine And.intro (Nat.le_of_ble_eq_true rfl) ?_ | refine And.intro (Int.natCast_nonneg _) ?_ | refine fun (_ : Nat) => ?_ | refine Ord.go ?_ | refine Run.go rfl ?_ | refine Cont.go rfl ?_ | refine OrdP.go ?_)
  refine ⟨fun h => absurd (show (n : Int) < 0 from h) (by omega), fun _ => ?_⟩
  repeat (first | refine Ops.go ?_ | refine And.intro rfl ?_ | refine And.intro (Nat.le_of_ble_eq_true rfl) ?_ | refine And.intro (Int.natCast_nonneg _) ?_ | refine fun (_ : Nat) => ?_ | refine Ord.go ?_ | refine Run.go rfl ?_ | refine Cont.go rfl ?_ | refine OrdP.go ?_)
  refine fun r hr => ?_
  obtain rfl : r = 0 := by rw [hr]; decide
  repeat (first | refine Ops.go ?_ | refine And.intro rfl ?_ | refine And.intro (Nat.le_of_ble_eq_true rfl) ?_ | refine And.intro (Int.natCast_nonneg _) ?_ | refine fun (_ : Nat) => ?_ | refine Ord.go ?_ | refine Run.go rfl ?_ | refine Cont.go rfl ?_ | refine OrdP.go ?_)
  refine fun r hr => ?_
  obtain rfl : r = (n : Int) := by rw [hr, IntKind.wrap_i64]; omega
  repeat (first | refine Ops.go ?_ | refine And.intro rfl ?_ | refine And.intro (Nat.le_of_ble_eq_true rfl) ?_ | refine And.intro (Int.natCast_nonneg _) ?_ | refine fun (_ : Nat) => ?_ | refine Ord.go ?_ | refine Run.go rfl ?_ | refine Cont.go rfl ?_ | refine OrdP.go ?_)
  refine ⟨fun h => ?_, fun h => ?_⟩
  · have h : (0 : Int) < (n : Int) := h
    repeat (first | refine Ops.go ?_ | refine And.intro rfl ?_ | refine And.intro (Nat.le_of_ble_eq_true rfl) ?_ | refine And.intro (Int.natCast_nonneg _) ?_ | refine fun (_ : Nat) => ?_ | refine Ord.go ?_ | refine Run.go rfl ?_ | refine Cont.go rfl ?_ | refine OrdP.go ?_)
    refine ⟨h, by omega, fun g Cp => ?_⟩
    repeat (first | refine Ops.go ?_ | refine And.intro rfl ?_ | refine And.intro (Nat.le_of_ble_eq_true rfl) ?_ | refine And.intro (Int.natCast_nonneg _) ?_ | refine fun (_ : Nat) => ?_ | refine Ord.go ?_ | refine Run.go rfl ?_ | refine Cont.go rfl ?_ | refine OrdP.go ?_)
    exact ⟨.sl 0 g Cp 0, _, FinOk.keep _ [0] (Sub.sl _ _ _ _ _) (by decide) rfl, .inr ⟨by omega, g, Cp, rfl, rfl⟩⟩
  · have h : ¬ (0 : Int) < (n : Int) := h
    repeat (first | refine Ops.go ?_ | refine And.intro rfl ?_ | refine And.intro (Nat.le_of_ble_eq_true rfl) ?_ | refine And.intro (Int.natCast_nonneg _) ?_ | refine fun (_ : Nat) => ?_ | refine Ord.go ?_ | refine Run.go rfl ?_ | refine Cont.go rfl ?_ | refine OrdP.go ?_)
    exact ⟨_, [], FinOk.drop _ _, .inl ⟨by omega, rfl, rfl⟩⟩

theorem ch_eq (x y : Ch) : allEq [.int .i64 x.k, .str x.p, .str x.d, .int .i64 x.v] [.int .i64 y.k, .str y.p, .str y.d, .int .i64 y.v] ↔ x = y := by
  cases x; cases y; simp [allEq, eq1]

theorem sameChanges_spec (xs ys : List Ch) (n m : Nat) (hx : n ≤ xs.length) (hy : m ≤ ys.length) (hn : n ≤ 1000) : FnSpec C 37 [rdc xs n, rdc ys m] [] (fun r L' => (xs.take n = ys.take m → r = .bool true) ∧ (¬ xs.take n = ys.take m → r = .bool false) ∧ L' = []) := by
  refine FnSpec.start C_ok Tryd.func37 rfl rfl Tryd.ntmps37 ?_
  repeat (first | refine Ops.go ?_ | refine And.intro rfl ?_ | refine And.intro (Nat.le_of_ble_eq_true rfl) ?_ | refine And.intro (Int.natCast_nonneg _) ?_ | refine fun (_ : Nat) => ?_ | refine Ord.go ?_ | refine Run.go rfl ?_ | refine Cont.go rfl ?_ | refine OrdP.go ?_)
  refine ⟨fun h => ?_, fun h => ?_⟩
  · have h : (n : Int) ≠ (m : Int) := h
    repeat (first | refine Ops.go ?_ | refine And.intro rfl ?_ | refine And.intro (Nat.le_of_ble_eq_true rfl) ?_ | refine And.intro (Int.natCast_nonneg _) ?_ | refine fun (_ : Nat) => ?_ | refine Ord.go ?_ | refine Run.go rfl ?_ | refine Cont.go rfl ?_ | refine OrdP.go ?_)
    exact ⟨_, [], FinOk.drop _ _, fun e => by
      have := congrArg List.length e
      rw [List.length_take, List.length_take] at this
      omega, fun _ => rfl, rfl⟩
  have h : ¬ (n : Int) ≠ (m : Int) := h
  have h : n = m := by omega
  subst h
  repeat (first | refine Ops.go ?_ | refine And.intro rfl ?_ | refine And.intro (Nat.le_of_ble_eq_true rfl) ?_ | refine And.intro (Int.natCast_nonneg _) ?_ | refine fun (_ : Nat) => ?_ | refine Ord.go ?_ | refine Run.go rfl ?_ | refine Cont.go rfl ?_ | refine OrdP.go ?_)
  refine Run.loop (fun k env L => ∃ i : Nat, k = n - i ∧ i ≤ n ∧ (∀ j < i, xs[j]? = ys[j]?) ∧ env = [rdc xs n, rdc ys n, .junk, .junk, .junk, .int .i64 i, .junk, .junk, .junk, .junk, .junk, .junk, .junk, .junk, .junk, .junk, .junk, .junk, .junk, .junk, .junk, .junk, .junk, .junk, .junk, .junk] ∧ L = []) n
    [rdc xs n, rdc ys n, .junk, .junk, .junk, .int .i64 (0 : Nat), .junk, .junk, .junk, .junk, .junk, .junk, .junk, .junk, .junk, .junk, .junk, .junk, .junk, .junk, .junk, .junk, .junk, .junk, .junk, .junk] ?_ ⟨0, by omega, by omega, (fun j hj => absurd hj (Nat.not_lt_zero j)), rfl, rfl⟩ ?_
  · repeat (first | exact trivial | refine ⟨.inl rfl, ?_⟩ | refine ⟨.inr rfl, ?_⟩)
  rintro k env L ⟨i, rfl, hi, hP, rfl, rfl⟩
  repeat (first | refine Ops.go ?_ | refine And.intro rfl ?_ | refine And.intro (Nat.le_of_ble_eq_true rfl) ?_ | refine And.intro (Int.natCast_nonneg _) ?_ | refine fun (_ : Nat) => ?_ | refine Ord.go ?_ | refine Run.go rfl ?_ | refine Cont.go rfl ?_ | refine OrdP.go ?_)
  refine ⟨fun h => ?_, fun h => ?_⟩
  · have h : (i : Int) < (n : Int) := h
    have hin : i < n := by omega
    obtain ⟨x, ex⟩ : ∃ x, xs[i]? = some x := ⟨xs[i], List.getElem?_eq_getElem (by omega)⟩
    obtain ⟨y, ey⟩ : ∃ y, ys[i]? = some y := ⟨ys[i], List.getElem?_eq_getElem (by omega)⟩
    repeat (first | refine Ops.go ?_ | refine And.intro rfl ?_ | refine And.intro (Nat.le_of_ble_eq_true rfl) ?_ | refine And.intro (Int.natCast_nonneg _) ?_ | refine fun (_ : Nat) => ?_ | refine Ord.go ?_ | refine Run.go rfl ?_ | refine Cont.go rfl ?_ | refine OrdP.go ?_)
    refine Run.drawn true [0, 1, 2, 3, 4, 5, 6, 7, 8] (by kernel_rfl) ?_
    repeat (first | refine Ops.go ?_ | refine And.intro rfl ?_ | refine And.intro (Nat.le_of_ble_eq_true rfl) ?_ | refine And.intro (Int.natCast_nonneg _) ?_ | refine fun (_ : Nat) => ?_ | refine Ord.go ?_ | refine Run.go rfl ?_ | refine Cont.go rfl ?_ | refine OrdP.go ?_)
    refine ⟨h, encC x, encC_at _ _ _ ex, ?_⟩
    repeat (first | refine Ops.go ?_ | refine And.intro rfl ?_ | refine And.intro (Nat.le_of_ble_eq_true rfl) ?_ | refine And.intro (Int.natCast_nonneg _) ?_ | refine fun (_ : Nat) => ?_ | refine Ord.go ?_ | refine Run.go rfl ?_ | refine Cont.go rfl ?_ | refine OrdP.go ?_)
    refine ⟨h, encC y, encC_at _ _ _ ey, ?_⟩
    repeat (first | refine Ops.go ?_ | refine And.intro rfl ?_ | refine And.intro (Nat.le_of_ble_eq_true rfl) ?_ | refine And.intro (Int.natCast_nonneg _) ?_ | refine fun (_ : Nat) => ?_ | refine Ord.go ?_ | refine Run.go rfl ?_ | refine Cont.go rfl ?_ | refine OrdP.go ?_)
    refine ⟨fun hne => ?_, fun heq => ?_⟩
    · have hne : ¬ x = y := fun e => hne ((ch_eq x y).2 e)
      repeat (first | refine Ops.go ?_ | refine And.intro rfl ?_ | refine And.intro (Nat.le_of_ble_eq_true rfl) ?_ | refine And.intro (Int.natCast_nonneg _) ?_ | refine fun (_ : Nat) => ?_ | refine Ord.go ?_ | refine Run.go rfl ?_ | refine Cont.go rfl ?_ | refine OrdP.go ?_)
      exact ⟨_, [], FinOk.drop _ _, fun e => by
        have := congrArg (·[i]?) e
        simp only [List.getElem?_take, hin, if_true, ex, ey, Option.some.injEq] at this
        exact absurd this hne, fun _ => rfl, rfl⟩
    · have heq : x = y := (ch_eq x y).1 (Classical.not_not.1 heq)
      repeat (first | refine Ops.go ?_ | refine And.intro rfl ?_ | refine And.intro (Nat.le_of_ble_eq_true rfl) ?_ | refine And.intro (Int.natCast_nonneg _) ?_ | refine fun (_ : Nat) => ?_ | refine Ord.go ?_ | refine Run.go rfl ?_ | refine Cont.go rfl ?_ | refine OrdP.go ?_)
      refine fun r hr => ?_
      obtain rfl := add1 hr (by omega)
      repeat (first | refine Ops.go ?_ | refine And.intro rfl ?_ | refine And.intro (Nat.le_of_ble_eq_true rfl) ?_ | refine And.intro (Int.natCast_nonneg _) ?_ | refine fun (_ : Nat) => ?_ | refine Ord.go ?_ | refine Run.go rfl ?_ | refine Cont.go rfl ?_ | refine OrdP.go ?_)
      refine Cont.lp ?_
      refine ⟨n - (i + 1), _, 99, by omega, ?_, ⟨i + 1, rfl, by omega, ?_, rfl, rfl⟩⟩
      · repeat (first | exact trivial | refine ⟨.inl rfl, ?_⟩ | refine ⟨.inr rfl, ?_⟩)
      · intro j hj
        by_cases e : j = i
        · subst e; rw [ex, ey, heq]
        · exact hP j (by omega)
  · have h : ¬ (i : Int) < (n : Int) := h
    repeat (first | refine Ops.go ?_ | refine And.intro rfl ?_ | refine And.intro (Nat.le_of_ble_eq_true rfl) ?_ | refine And.intro (Int.natCast_nonneg _) ?_ | refine fun (_ : Nat) => ?_ | refine Ord.go ?_ | refine Run.go rfl ?_ | refine Cont.go rfl ?_ | refine OrdP.go ?_)
    exact ⟨_, [], FinOk.drop _ _, fun _ => rfl, fun hne => absurd (by
      apply List.ext_getElem?
      intro j
      rw [List.getElem?_take, List.getElem?_take]
      split
      · exact hP j (by omega)
      · rfl) hne, rfl⟩

theorem find2_spec (xs : List Sn) (n : Nat) (hn : n ≤ xs.length) (hm : n ≤ 1000) (p : ByteArray) : FnSpec C 58 [rdo xs n, .str p] [] (fun r L' => ((¬ inL (xs.take n) p ∧ r = .int .i64 (-1)) ∨ (∃ (k : Nat) (x : Sn), k < n ∧ xs[k]? = some x ∧ x.p = p ∧ r = .int .i64 k)) ∧ L' = []) := by
  refine FnSpec.start C_ok Tryd.func58 rfl rfl Tryd.ntmps58 ?_
  repeat (first | refine Ops.go ?_ | refine And.intro rfl ?_ | refine And.intro (Nat.le_of_ble_eq_true rfl) ?_ | refine And.intro (Int.natCast_nonneg _) ?_ | refine fun (_ : Nat) => ?_ | refine Ord.go ?_ | refine Run.go rfl ?_ | refine Cont.go rfl ?_ | refine OrdP.go ?_)
  refine Run.loop (fun k env L => ∃ i : Nat, k = n - i ∧ i ≤ n ∧ (∀ (j : Nat) (x : Sn), j < i → xs[j]? = some x → x.p ≠ p) ∧ env = [rdo xs n, .str p, .junk, .junk, .junk, .int .i64 i, .junk, .junk, .junk, .junk, .junk, .junk, .junk, .junk, .junk, .junk, .junk, .junk, .junk, .junk] ∧ L = []) n
    [rdo xs n, .str p, .junk, .junk, .junk, .int .i64 0, .junk, .junk, .junk, .junk, .junk, .junk, .junk, .junk, .junk, .junk, .junk, .junk, .junk, .junk] ?_ ⟨0, by omega, by omega, (fun j _ hj => absurd hj (Nat.not_lt_zero j)), rfl, rfl⟩ ?_
  · repeat (first | exact trivial | refine ⟨.inl rfl, ?_⟩ | refine ⟨.inr rfl, ?_⟩)
  rintro k env L ⟨i, rfl, hi, hP, rfl, rfl⟩
  repeat (first | refine Ops.go ?_ | refine And.intro rfl ?_ | refine And.intro (Nat.le_of_ble_eq_true rfl) ?_ | refine And.intro (Int.natCast_nonneg _) ?_ | refine fun (_ : Nat) => ?_ | refine Ord.go ?_ | refine Run.go rfl ?_ | refine Cont.go rfl ?_ | refine OrdP.go ?_)
  refine ⟨fun h => ?_, fun h => ?_⟩
  · have h : (i : Int) < (n : Int) := h
    obtain ⟨x, ex⟩ : ∃ x, xs[i]? = some x := ⟨xs[i], List.getElem?_eq_getElem (by omega)⟩
    repeat (first | refine Ops.go ?_ | refine And.intro rfl ?_ | refine And.intro (Nat.le_of_ble_eq_true rfl) ?_ | refine And.intro (Int.natCast_nonneg _) ?_ | refine fun (_ : Nat) => ?_ | refine Ord.go ?_ | refine Run.go rfl ?_ | refine Cont.go rfl ?_ | refine OrdP.go ?_)
    refine ⟨h, enc x, enc_at _ _ _ ex, ?_⟩
    repeat (first | refine Ops.go ?_ | refine And.intro rfl ?_ | refine And.intro (Nat.le_of_ble_eq_true rfl) ?_ | refine And.intro (Int.natCast_nonneg _) ?_ | refine fun (_ : Nat) => ?_ | refine Ord.go ?_ | refine Run.go rfl ?_ | refine Cont.go rfl ?_ | refine OrdP.go ?_)
    refine ⟨fun he => ?_, fun he => ?_⟩
    · have he : x.p = p := he
      repeat (first | refine Ops.go ?_ | refine And.intro rfl ?_ | refine And.intro (Nat.le_of_ble_eq_true rfl) ?_ | refine And.intro (Int.natCast_nonneg _) ?_ | refine fun (_ : Nat) => ?_ | refine Ord.go ?_ | refine Run.go rfl ?_ | refine Cont.go rfl ?_ | refine OrdP.go ?_)
      exact ⟨_, [], FinOk.drop _ _, .inr ⟨i, x, by omega, ex, he, rfl⟩, rfl⟩
    · have he : ¬ x.p = p := he
      repeat (first | refine Ops.go ?_ | refine And.intro rfl ?_ | refine And.intro (Nat.le_of_ble_eq_true rfl) ?_ | refine And.intro (Int.natCast_nonneg _) ?_ | refine fun (_ : Nat) => ?_ | refine Ord.go ?_ | refine Run.go rfl ?_ | refine Cont.go rfl ?_ | refine OrdP.go ?_)
      refine fun r hr => ?_
      obtain rfl := add1 hr (by omega)
      repeat (first | refine Ops.go ?_ | refine And.intro rfl ?_ | refine And.intro (Nat.le_of_ble_eq_true rfl) ?_ | refine And.intro (Int.natCast_nonneg _) ?_ | refine fun (_ : Nat) => ?_ | refine Ord.go ?_ | refine Run.go rfl ?_ | refine Cont.go rfl ?_ | refine OrdP.go ?_)
      refine Cont.lp ?_
      refine ⟨n - (i + 1), [rdo xs n, .str p, .junk, .junk, .junk, .int .i64 (i + 1 : Nat), .junk, .junk, .junk, .junk, .junk, .junk, .junk, .junk, .junk, .junk, .junk, .junk, .junk, .junk], 99, by omega, ?_, ⟨i + 1, rfl, by omega, ?_, rfl, rfl⟩⟩
      · repeat (first | exact trivial | refine ⟨.inl rfl, ?_⟩ | refine ⟨.inr rfl, ?_⟩)
      · intro j y hj ey
        by_cases e : j = i
        · subst e; rw [ex] at ey; cases ey; exact he
        · exact hP j y (by omega) ey
  · have h : ¬ (i : Int) < (n : Int) := h
    repeat (first | refine Ops.go ?_ | refine And.intro rfl ?_ | refine And.intro (Nat.le_of_ble_eq_true rfl) ?_ | refine And.intro (Int.natCast_nonneg _) ?_ | refine fun (_ : Nat) => ?_ | refine Ord.go ?_ | refine Run.go rfl ?_ | refine Cont.go rfl ?_ | refine OrdP.go ?_)
    exact ⟨_, [], FinOk.drop _ _, .inl ⟨fun ⟨x, hx, hp⟩ => by
      obtain ⟨k, hk, ek⟩ := mem_take.1 hx
      exact hP k x (by omega) ek hp, rfl⟩, rfl⟩

theorem concat_spec (xs ys : List Ch) (n m : Nat) (hx : n ≤ xs.length) (hy : m ≤ ys.length) (hn : n ≤ 400) (hm : m ≤ 400) : FnSpec C 40 [.ro 1 [rdc xs n, rdc ys m] 2] [] (fun r L' =>
    (xs.take n ++ ys.take m = [] ∧ r = .nils ∧ L' = []) ∨ (xs.take n ++ ys.take m ≠ [] ∧ ∃ g Cp, r = .sl 0 g Cp (xs.take n ++ ys.take m).length ∧ L' = [(g, .row 69 4 Cp ((xs.take n ++ ys.take m).map encC))])) := by
  refine FnSpec.start C_ok Tryd.func40 rfl rfl Tryd.ntmps40 ?_
  repeat (first | refine Ops.go ?_ | refine And.intro rfl ?_ | refine And.intro (Nat.le_of_ble_eq_true rfl) ?_ | refine And.intro (Int.natCast_nonneg _) ?_ | refine fun (_ : Nat) => ?_ | refine Ord.go ?_ | refine Run.go rfl ?_ | refine Cont.go rfl ?_ | refine OrdP.go ?_)
  refine Run.loop (fun k env L => ∃ (i sz : Nat), ((i = 0 ∧ k = 2 ∧ sz = 0) ∨ (i = 1 ∧ k = 1 ∧ sz = n) ∨ (i = 2 ∧ k = 0 ∧ sz = n + m)) ∧
      env = [.ro 1 [rdc xs n, rdc ys m] 2, .junk, .junk, .int .i64 sz, .junk, .junk, .junk, .junk, .junk, .ro 1 [rdc xs n, rdc ys m] 2, .int .i64 2, .int .i64 i, .junk, .junk, .junk, .junk, .junk, .junk, .junk, .junk, .junk, .junk, .junk, .junk, .junk, .junk, .junk, .junk, .junk, .junk, .junk, .junk, .junk, .junk, .junk, .junk] ∧ L = []) 2
    [.ro 1 [rdc xs n, rdc ys m] 2, .junk, .junk, .int .i64 (0 : Nat), .junk, .junk, .junk, .junk, .junk, .ro 1 [rdc xs n, rdc ys m] 2, .int .i64 2, .int .i64 (0 : Nat), .junk, .junk, .junk, .junk, .junk, .junk, .junk, .junk, .junk, .junk, .junk, .junk, .junk, .junk, .junk, .junk, .junk, .junk, .junk, .junk, .junk, .junk, .junk, .junk] ?_ ⟨0, 0, .inl ⟨rfl, rfl, rfl⟩, rfl, rfl⟩ ?_
  · repeat (first | exact trivial | refine ⟨.inl rfl, ?_⟩ | refine ⟨.inr rfl, ?_⟩)
  rintro k env L ⟨i, sz, hc, rfl, rfl⟩
  repeat (first | refine Ops.go ?_ | refine And.intro rfl ?_ | refine And.intro (Nat.le_of_ble_eq_true rfl) ?_ | refine And.intro (Int.natCast_nonneg _) ?_ | refine fun (_ : Nat) => ?_ | refine Ord.go ?_ | refine Run.go rfl ?_ | refine Cont.go rfl ?_ | refine OrdP.go ?_)
  refine ⟨fun h => ?_, fun h => ?_⟩
  · have h : (i : Int) < 2 := h
    rcases hc with ⟨rfl, rfl, rfl⟩ | ⟨rfl, rfl, rfl⟩ | ⟨rfl, rfl, rfl⟩
    · repeat (first | refine Ops.go ?_ | refine And.intro rfl ?_ | refine And.intro (Nat.le_of_ble_eq_true rfl) ?_ | refine And.intro (Int.natCast_nonneg _) ?_ | refine fun (_ : Nat) => ?_ | refine Ord.go ?_ | refine Run.go rfl ?_ | refine Cont.go rfl ?_ | refine OrdP.go ?_)
      refine ⟨rdc xs n, rfl, ?_⟩
      repeat (first | refine Ops.go ?_ | refine And.intro rfl ?_ | refine And.intro (Nat.le_of_ble_eq_true rfl) ?_ | refine And.intro (Int.natCast_nonneg _) ?_ | refine fun (_ : Nat) => ?_ | refine Ord.go ?_ | refine Run.go rfl ?_ | refine Cont.go rfl ?_ | refine OrdP.go ?_)
      refine fun r hr => ?_
      obtain rfl : r = (n : Int) := by rw [hr, IntKind.wrap_i64]; omega
      repeat (first | refine Ops.go ?_ | refine And.intro rfl ?_ | refine And.intro (Nat.le_of_ble_eq_true rfl) ?_ | refine And.intro (Int.natCast_nonneg _) ?_ | refine fun (_ : Nat) => ?_ | refine Ord.go ?_ | refine Run.go rfl ?_ | refine Cont.go rfl ?_ | refine OrdP.go ?_)
      refine ⟨fun h => absurd (show (n : Int) < 0 from h) (by omega), fun _ => ?_⟩
      repeat (first | refine Ops.go ?_ | refine And.intro rfl ?_ | refine And.intro (Nat.le_of_ble_eq_true rfl) ?_ | refine And.intro (Int.natCast_nonneg _) ?_ | refine fun (_ : Nat) => ?_ | refine Ord.go ?_ | refine Run.go rfl ?_ | refine Cont.go rfl ?_ | refine OrdP.go ?_)
      refine fun r hr => ?_
      obtain rfl : r = ((1 : Nat) : Int) := by rw [hr]; decide
      repeat (first | refine Ops.go ?_ | refine And.intro rfl ?_ | refine And.intro (Nat.le_of_ble_eq_true rfl) ?_ | refine And.intro (Int.natCast_nonneg _) ?_ | refine fun (_ : Nat) => ?_ | refine Ord.go ?_ | refine Run.go rfl ?_ | refine Cont.go rfl ?_ | refine OrdP.go ?_)
      refine Cont.lp ?_
      refine ⟨1, [.ro 1 [rdc xs n, rdc ys m] 2, .junk, .junk, .int .i64 n, .junk, .junk, .junk, .junk, .junk, .ro 1 [rdc xs n, rdc ys m] 2, .int .i64 2, .int .i64 (1 : Nat), .junk, .junk, .junk, .junk, .junk, .junk, .junk, .junk, .junk, .junk, .junk, .junk, .junk, .junk, .junk, .junk, .junk, .junk, .junk, .junk, .junk, .junk, .junk, .junk], 99, by omega, ?_, ⟨1, n, .inr (.inl ⟨rfl, rfl, rfl⟩), rfl, rfl⟩⟩
      repeat (first | exact trivial | refine ⟨.inl rfl, ?_⟩ | refine ⟨.inr rfl, ?_⟩)
    · repeat (first | refine Ops.go ?_ | refine And.intro rfl ?_ | refine And.intro (Nat.le_of_ble_eq_true rfl) ?_ | refine And.intro (Int.natCast_nonneg _) ?_ | refine fun (_ : Nat) => ?_ | refine Ord.go ?_ | refine Run.go rfl ?_ | refine Cont.go rfl ?_ | refine OrdP.go ?_)
      refine ⟨rdc ys m, rfl, ?_⟩
      repeat (first | refine Ops.go ?_ | refine And.intro rfl ?_ | refine And.intro (Nat.le_of_ble_eq_true rfl) ?_ | refine And.intro (Int.natCast_nonneg _) ?_ | refine fun (_ : Nat) => ?_ | refine Ord.go ?_ | refine Run.go rfl ?_ | refine Cont.go rfl ?_ | refine OrdP.go ?_)
      refine fun r hr => ?_
      obtain rfl : r = ((sz + m : Nat) : Int) := by rw [hr, IntKind.wrap_i64]; omega
      repeat (first | refine Ops.go ?_ | refine And.intro rfl ?_ | refine And.intro (Nat.le_of_ble_eq_true rfl) ?_ | refine And.intro (Int.natCast_nonneg _) ?_ | refine fun (_ : Nat) => ?_ | refine Ord.go ?_ | refine Run.go rfl ?_ | refine Cont.go rfl ?_ | refine OrdP.go ?_)
      refine ⟨fun h => absurd (show ((sz + m : Nat) : Int) < 0 from h) (by omega), fun _ => ?_⟩
      repeat (first | refine Ops.go ?_ | refine And.intro rfl ?_ | refine And.intro (Nat.le_of_ble_eq_true rfl) ?_ | refine And.intro (Int.natCast_nonneg _) ?_ | refine fun (_ : Nat) => ?_ | refine Ord.go ?_ | refine Run.go rfl ?_ | refine Cont.go rfl ?_ | refine OrdP.go ?_)
      refine fun r hr => ?_
      obtain rfl : r = ((2 : Nat) : Int) := by rw [hr]; decide
      repeat (first | refine Ops.go ?_ | refine And.intro rfl ?_ | refine And.intro (Nat.le_of_ble_eq_true rfl) ?_ | refine And.intro (Int.natCast_nonneg _) ?_ | refine fun (_ : Nat) => ?_ | refine Ord.go ?_ | refine Run.go rfl ?_ | refine Cont.go rfl ?_ | refine OrdP.go ?_)
      refine Cont.lp ?_
      refine ⟨0, [.ro 1 [rdc xs sz, rdc ys m] 2, .junk, .junk, .int .i64 (sz + m : Nat), .junk, .junk, .junk, .junk, .junk, .ro 1 [rdc xs sz, rdc ys m] 2, .int .i64 2, .int .i64 (2 : Nat), .junk, .junk, .junk, .junk, .junk, .junk, .junk, .junk, .junk, .junk, .junk, .junk, .junk, .junk, .junk, .junk, .junk, .junk, .junk, .junk, .junk, .junk, .junk, .junk], 99, by omega, ?_, ⟨2, sz + m, .inr (.inr ⟨rfl, rfl, rfl⟩), rfl, rfl⟩⟩
      repeat (first | exact trivial | refine ⟨.inl rfl, ?_⟩ | refine ⟨.inr rfl, ?_⟩)
    · exact absurd h (by decide)
  · have h : ¬ (i : Int) < 2 := h
    obtain ⟨rfl, rfl⟩ : i = 2 ∧ sz = n + m := by rcases hc with ⟨rfl, _⟩ | ⟨rfl, _⟩ | ⟨rfl, _, rfl⟩ <;> first | omega | exact ⟨rfl, rfl⟩
    have tl1 : (xs.take n).length = n := by rw [List.length_take]; omega
    have tl2 : (ys.take m).length = m := by rw [List.length_take]; omega
    repeat (first | refine Ops.go ?_ | refine And.intro rfl ?_ | refine And.intro (Nat.le_of_ble_eq_true rfl) ?_ | refine And.intro (Int.natCast_nonneg _) ?_ | refine fun (_ : Nat) => ?_ | refine Ord.go ?_ | refine Run.go rfl ?_ | refine Cont.go rfl ?_ | refine OrdP.go ?_)
    refine ACall.pure _ (grow_spec (n + m) (by omega)) ?_
    rintro r L' (⟨h0, rfl, rfl⟩ | ⟨h0, g, Cp, rfl, rfl⟩)
    · refine ⟨_, Sub.refl _, ?_⟩
      obtain rfl : n = 0 := by omega
      obtain rfl : m = 0 := by omega
      repeat (first | refine Ops.go ?_ | refine And.intro rfl ?_ | refine And.intro (Nat.le_of_ble_eq_true rfl) ?_ | refine And.intro (Int.natCast_nonneg _) ?_ | refine fun (_ : Nat) => ?_ | refine Ord.go ?_ | refine Run.go rfl ?_ | refine Cont.go rfl ?_ | refine OrdP.go ?_)
      refine Run.loop (fun k env L => ∃ (i : Nat), k = 2 - i ∧ i ≤ 2 ∧
          env = [.junk, .junk, .junk, .junk, .junk, .junk, .nils, .junk, .junk, .junk, .junk, .junk, .junk, .junk, .junk, .junk, .junk, .junk, .junk, .junk, .junk, .junk, .junk, .junk, .junk, .ro 1 [rdc xs 0, rdc ys 0] 2, .int .i64 2, .int .i64 i, .junk, .junk, .junk, .junk, .junk, .junk, .junk, .junk] ∧ L = []) 2
        [.junk, .junk, .junk, .junk, .junk, .junk, .nils, .junk, .junk, .junk, .junk, .junk, .junk, .junk, .junk, .junk, .junk, .junk, .junk, .junk, .junk, .junk, .junk, .junk, .junk, .ro 1 [rdc xs 0, rdc ys 0] 2, .int .i64 2, .int .i64 (0 : Nat), .junk, .junk, .junk, .junk, .junk, .junk, .junk, .junk] ?_ ⟨0, by omega, by omega, rfl, rfl⟩ ?_
      · repeat (first | exact trivial | refine ⟨.inl rfl, ?_⟩ | refine ⟨.inr rfl, ?_⟩)
      rintro k env L ⟨i, rfl, hi, rfl, rfl⟩
      repeat (first | refine Ops.go ?_ | refine And.intro rfl ?_ | refine And.intro (Nat.le_of_ble_eq_true rfl) ?_ | refine And.intro (Int.natCast_nonneg _) ?_ | refine fun (_ : Nat) => ?_ | refine Ord.go ?_ | refine Run.go rfl ?_ | refine Cont.go rfl ?_ | refine OrdP.go ?_)
      refine ⟨fun h => ?_, fun h => ?_⟩
      · have h : (i : Int) < 2 := h
        obtain ⟨z, ez⟩ : ∃ z : List Ch, [rdc xs 0, rdc ys 0][i]? = some (.ro 4 (z.map encC) 0) := by
          rcases (show i = 0 ∨ i = 1 by omega) with rfl | rfl
          · exact ⟨xs, rfl⟩
          · exact ⟨ys, rfl⟩
        repeat (first | refine Ops.go ?_ | refine And.intro rfl ?_ | refine And.intro (Nat.le_of_ble_eq_true rfl) ?_ | refine And.intro (Int.natCast_nonneg _) ?_ | refine fun (_ : Nat) => ?_ | refine Ord.go ?_ | refine Run.go rfl ?_ | refine Cont.go rfl ?_ | refine OrdP.go ?_)
        refine ⟨h, _, ez, ?_⟩
        repeat (first | refine Ops.go ?_ | refine And.intro rfl ?_ | refine And.intro (Nat.le_of_ble_eq_true rfl) ?_ | refine And.intro (Int.natCast_nonneg _) ?_ | refine fun (_ : Nat) => ?_ | refine Ord.go ?_ | refine Run.go rfl ?_ | refine Cont.go rfl ?_ | refine OrdP.go ?_)
        refine ⟨fun _ => ?_, fun h => absurd (by simp) h⟩
        repeat (first | refine Ops.go ?_ | refine And.intro rfl ?_ | refine And.intro (Nat.le_of_ble_eq_true rfl) ?_ | refine And.intro (Int.natCast_nonneg _) ?_ | refine fun (_ : Nat) => ?_ | refine Ord.go ?_ | refine Run.go rfl ?_ | refine Cont.go rfl ?_ | refine OrdP.go ?_)
        refine fun r hr => ?_
        obtain rfl := add1 hr (by omega)
        repeat (first | refine Ops.go ?_ | refine And.intro rfl ?_ | refine And.intro (Nat.le_of_ble_eq_true rfl) ?_ | refine And.intro (Int.natCast_nonneg _) ?_ | refine fun (_ : Nat) => ?_ | refine Ord.go ?_ | refine Run.go rfl ?_ | refine Cont.go rfl ?_ | refine OrdP.go ?_)
        refine Cont.lp ?_
        refine ⟨2 - (i + 1), [.junk, .junk, .junk, .junk, .junk, .junk, .nils, .junk, .junk, .junk, .junk, .junk, .junk, .junk, .junk, .junk, .junk, .junk, .junk, .junk, .junk, .junk, .junk, .junk, .junk, .ro 1 [rdc xs 0, rdc ys 0] 2, .int .i64 2, .int .i64 (i + 1 : Nat), .junk, .junk, .junk, .junk, .junk, .junk, .junk, .junk], 99, by omega, ?_, ⟨i + 1, rfl, by omega, rfl, rfl⟩⟩
        repeat (first | exact trivial | refine ⟨.inl rfl, ?_⟩ | refine ⟨.inr rfl, ?_⟩)
      · repeat (first | refine Ops.go ?_ | refine And.intro rfl ?_ | refine And.intro (Nat.le_of_ble_eq_true rfl) ?_ | refine And.intro (Int.natCast_nonneg _) ?_ | refine fun (_ : Nat) => ?_ | refine Ord.go ?_ | refine Run.go rfl ?_ | refine Cont.go rfl ?_ | refine OrdP.go ?_)
        exact ⟨_, [], FinOk.drop _ _, .inl ⟨by simp, rfl, rfl⟩⟩
    · refine ⟨.sl 0 g Cp 0, Sub.refl _, ?_⟩
      repeat (first | refine Ops.go ?_ | refine And.intro rfl ?_ | refine And.intro (Nat.le_of_ble_eq_true rfl) ?_ | refine And.intro (Int.natCast_nonneg _) ?_ | refine fun (_ : Nat) => ?_ | refine Ord.go ?_ | refine Run.go rfl ?_ | refine Cont.go rfl ?_ | refine OrdP.go ?_)
      refine Run.loop (fun k env L => ∃ (i : Nat) (zs : List Ch) (g Cp : Nat), ((i = 0 ∧ k = 2 ∧ zs = []) ∨ (i = 1 ∧ k = 1 ∧ zs = xs.take n) ∨ (i = 2 ∧ k = 0 ∧ zs = xs.take n ++ ys.take m)) ∧
          env = [.junk, .junk, .junk, .junk, .junk, .junk, .sl 0 g Cp zs.length, .junk, .junk, .junk, .junk, .junk, .junk, .junk, .junk, .junk, .junk, .junk, .junk, .junk, .junk, .junk, .junk, .junk, .junk, .ro 1 [rdc xs n, rdc ys m] 2, .int .i64 2, .int .i64 i, .junk, .junk, .junk, .junk, .junk, .junk, .junk, .junk] ∧ L = [(g, .row 69 4 Cp (zs.map encC))]) 2
        [.junk, .junk, .junk, .junk, .junk, .junk, .sl 0 g Cp 0, .junk, .junk, .junk, .junk, .junk, .junk, .junk, .junk, .junk, .junk, .junk, .junk, .junk, .junk, .junk, .junk, .junk, .junk, .ro 1 [rdc xs n, rdc ys m] 2, .int .i64 2, .int .i64 (0 : Nat), .junk, .junk, .junk, .junk, .junk, .junk, .junk, .junk] ?_ ⟨0, [], g, Cp, .inl ⟨rfl, rfl, rfl⟩, rfl, rfl⟩ ?_
      · repeat (first | exact trivial | refine ⟨.inl rfl, ?_⟩ | refine ⟨.inr rfl, ?_⟩)
      rintro k env L ⟨i, zs, g, Cp, hc, rfl, rfl⟩
      repeat (first | refine Ops.go ?_ | refine And.intro rfl ?_ | refine And.intro (Nat.le_of_ble_eq_true rfl) ?_ | refine And.intro (Int.natCast_nonneg _) ?_ | refine fun (_ : Nat) => ?_ | refine Ord.go ?_ | refine Run.go rfl ?_ | refine Cont.go rfl ?_ | refine OrdP.go ?_)
      refine ⟨fun h => ?_, fun h => ?_⟩
      · have h : (i : Int) < 2 := h
        rcases hc with ⟨rfl, rfl, rfl⟩ | ⟨rfl, rfl, rfl⟩ | ⟨rfl, rfl, rfl⟩
        · repeat (first | refine Ops.go ?_ | refine And.intro rfl ?_ | refine And.intro (Nat.le_of_ble_eq_true rfl) ?_ | refine And.intro (Int.natCast_nonneg _) ?_ | refine fun (_ : Nat) => ?_ | refine Ord.go ?_ | refine Run.go rfl ?_ | refine Cont.go rfl ?_ | refine OrdP.go ?_)
          refine ⟨rdc xs n, rfl, ?_⟩
          repeat (first | refine Ops.go ?_ | refine And.intro rfl ?_ | refine And.intro (Nat.le_of_ble_eq_true rfl) ?_ | refine And.intro (Int.natCast_nonneg _) ?_ | refine fun (_ : Nat) => ?_ | refine Ord.go ?_ | refine Run.go rfl ?_ | refine Cont.go rfl ?_ | refine OrdP.go ?_)
          refine ⟨show ((([] : List Ch).map encC).length + ((xs.map encC).take n).length) * 48 ≤ _ by simp; omega, fun g2 C2 => ?_⟩
          repeat (first | refine Ops.go ?_ | refine And.intro rfl ?_ | refine And.intro (Nat.le_of_ble_eq_true rfl) ?_ | refine And.intro (Int.natCast_nonneg _) ?_ | refine fun (_ : Nat) => ?_ | refine Ord.go ?_ | refine Run.go rfl ?_ | refine Cont.go rfl ?_ | refine OrdP.go ?_)
          refine fun r hr => ?_
          obtain rfl : r = ((1 : Nat) : Int) := by rw [hr]; decide
          repeat (first | refine Ops.go ?_ | refine And.intro rfl ?_ | refine And.intro (Nat.le_of_ble_eq_true rfl) ?_ | refine And.intro (Int.natCast_nonneg _) ?_ | refine fun (_ : Nat) => ?_ | refine Ord.go ?_ | refine Run.go rfl ?_ | refine Cont.go rfl ?_ | refine OrdP.go ?_)
          refine Cont.lp ?_
          refine ⟨1, [.junk, .junk, .junk, .junk, .junk, .junk, .sl 0 g2 C2 ((([] : List Ch).map encC).length + ((xs.map encC).take n).length), .junk, .junk, .junk, .junk, .junk, .junk, .junk, .junk, .junk, .junk, .junk, .junk, .junk, .junk, .junk, .junk, .junk, .junk, .ro 1 [rdc xs n, rdc ys m] 2, .int .i64 2, .int .i64 (1 : Nat), .junk, .junk, .junk, .junk, .junk, .junk, .junk, .junk], 99, by omega, ?_,
            ⟨1, xs.take n, g2, C2, .inr (.inl ⟨rfl, rfl, rfl⟩), by simp, congrArg (fun l => [(g2, AObj.row 69 4 C2 l)]) (show ([] : List Ch).map encC ++ (xs.map encC).take n = _ by simp [List.map_take])⟩⟩
          repeat (first | exact trivial | refine ⟨.inl rfl, ?_⟩ | refine ⟨.inr rfl, ?_⟩)
        · repeat (first | refine Ops.go ?_ | refine And.intro rfl ?_ | refine And.intro (Nat.le_of_ble_eq_true rfl) ?_ | refine And.intro (Int.natCast_nonneg _) ?_ | refine fun (_ : Nat) => ?_ | refine Ord.go ?_ | refine Run.go rfl ?_ | refine Cont.go rfl ?_ | refine OrdP.go ?_)
          refine ⟨rdc ys m, rfl, ?_⟩
          repeat (first | refine Ops.go ?_ | refine And.intro rfl ?_ | refine And.intro (Nat.le_of_ble_eq_true rfl) ?_ | refine And.intro (Int.natCast_nonneg _) ?_ | refine fun (_ : Nat) => ?_ | refine Ord.go ?_ | refine Run.go rfl ?_ | refine Cont.go rfl ?_ | refine OrdP.go ?_)
          refine ⟨(mapC_len _).symm, show (((xs.take n).map encC).length + ((ys.map encC).take m).length) * 48 ≤ _ by simp; omega, fun g2 C2 => ?_⟩
          repeat (first | refine Ops.go ?_ | refine And.intro rfl ?_ | refine And.intro (Nat.le_of_ble_eq_true rfl) ?_ | refine And.intro (Int.natCast_nonneg _) ?_ | refine fun (_ : Nat) => ?_ | refine Ord.go ?_ | refine Run.go rfl ?_ | refine Cont.go rfl ?_ | refine OrdP.go ?_)
          refine fun r hr => ?_
          obtain rfl : r = ((2 : Nat) : Int) := by rw [hr]; decide
          repeat (first | refine Ops.go ?_ | refine And.intro rfl ?_ | refine And.intro (Nat.le_of_ble_eq_true rfl) ?_ | refine And.intro (Int.natCast_nonneg _) ?_ | refine fun (_ : Nat) => ?_ | refine Ord.go ?_ | refine Run.go rfl ?_ | refine Cont.go rfl ?_ | refine OrdP.go ?_)
          refine Cont.lp ?_
          refine ⟨0, [.junk, .junk, .junk, .junk, .junk, .junk, .sl 0 g2 C2 (((xs.take n).map encC).length + ((ys.map encC).take m).length), .junk, .junk, .junk, .junk, .junk, .junk, .junk, .junk, .junk, .junk, .junk, .junk, .junk, .junk, .junk, .junk, .junk, .junk, .ro 1 [rdc xs n, rdc ys m] 2, .int .i64 2, .int .i64 (2 : Nat), .junk, .junk, .junk, .junk, .junk, .junk, .junk, .junk], 99, by omega, ?_,
            ⟨2, xs.take n ++ ys.take m, g2, C2, .inr (.inr ⟨rfl, rfl, rfl⟩), by simp, congrArg (fun l => [(g2, AObj.row 69 4 C2 l)]) (show (xs.take n).map encC ++ (ys.map encC).take m = _ by simp [List.map_take])⟩⟩
          repeat (first | exact trivial | refine ⟨.inl rfl, ?_⟩ | refine ⟨.inr rfl, ?_⟩)
        · exact absurd h (by decide)
      · have h : ¬ (i : Int) < 2 := h
        obtain ⟨rfl, rfl⟩ : i = 2 ∧ zs = xs.take n ++ ys.take m := by rcases hc with ⟨rfl, _⟩ | ⟨rfl, _⟩ | ⟨rfl, _, rfl⟩ <;> first | omega | exact ⟨rfl, rfl⟩
        repeat (first | refine Ops.go ?_ | refine And.intro rfl ?_ | refine And.intro (Nat.le_of_ble_eq_true rfl) ?_ | refine And.intro (Int.natCast_nonneg _) ?_ | refine fun (_ : Nat) => ?_ | refine Ord.go ?_ | refine Run.go rfl ?_ | refine Cont.go rfl ?_ | refine OrdP.go ?_)
        exact ⟨.sl 0 g Cp _, _, FinOk.keep _ [0] (Sub.sl _ _ _ _ _) (by decide) rfl, .inr ⟨fun e => by have := congrArg List.length e; rw [List.length_append, tl1, tl2] at this; simp at this; omega, g, Cp, rfl, rfl⟩⟩

theorem scal_chs (g Cp : Nat) (l : List Ch) : scalL [(g, .row 69 4 Cp (l.map encC))] = true := by
  have : (flats (l.map encC)).all scal = true := by
    induction l with
    | nil => rfl
    | cons x l ih =>
      have e : flats ((x :: l).map encC) = [.int .i64 x.k, .str x.p, .str x.d, .int .i64 x.v] ++ flats (l.map encC) := by simp [flats, flat, encC]
      rw [e, List.all_append, ih]
      rfl
  simp [scalL, scalO, this]
theorem merge_none (L' : AHeap) : ∀ (L : AHeap) (j : Nat), mergeA [] L' j L = L ++ L'
  | [], j => rfl
  | x :: L, j => by
    simp only [mergeA, idxN]
    rw [merge_none L' L (j + 1)]
    rfl
theorem concat_step {L : AHeap} {kk gg : Nat} {gv mv : AV} {G M : List Ch} {K : AV → AHeap → Prop} (hk : L[kk]? = some (gg, .row 35 1 2 [gv, mv])) (hg : Lend L gv (rdc G G.length)) (hm : Lend L mv (rdc M M.length)) (hfx : flats [gv, mv] = [gv, mv])
    (lG : G.length ≤ 400) (lM : M.length ≤ 400) (k1 : G ++ M = [] → K .nils L) (k2 : G ++ M ≠ [] → ∀ g Cp, K (.sl L.length g Cp (G ++ M).length) (L ++ [(g, .row 69 4 Cp ((G ++ M).map encC))])) : ACall C 40 [.sl kk gg 2 2] L K := by
  have hr : restL L [] = L := by unfold restL mergeL; rw [merge_none]; simp
  have c := concat_spec G M G.length M.length (Nat.le_refl _) (Nat.le_refl _) lG lM
  rw [List.take_length, List.take_length] at c
  refine ACall.selLend [] (by decide) [.ro 1 [rdc G G.length, rdc M M.length] 2] [.ro 1 [rdc G G.length, rdc M M.length] 2] _ ?_ (.one (.refl _)) c ?_
  · rw [hr]
    exact .one (Lend.rows kk gg 2 2 35 [gv, mv] [rdc G G.length, rdc M M.length] hk (Nat.le_refl _) hfx rfl (by intro y hy; simp at hy; rcases hy with rfl | rfl <;> rfl) rfl (Lends.two hg hm).at_.2)
  · intro r L' h
    unfold mergeL
    rw [merge_none]
    rcases h with ⟨h0, rfl, rfl⟩ | ⟨h0, g, Cp, rfl, rfl⟩
    · exact ⟨rfl, rfl, _, Sub.refl _, by rw [List.append_nil]; exact k1 h0⟩
    · exact ⟨rfl, scal_chs _ _ _, _, Sub.sl _ L.length _ _ _, k2 h0 g Cp⟩

end Go.Proofs.YtfohedaadncefaaDoor.HBT
/- What a row's end says of its room; the model's own slices.overlaps at two rows. -/
namespace Go.Proofs.YtfohedaadncefaaDoor.HB
open Go

theorem FnSpec.capOf {C : Cx} {f : FuncId} {fn : Func} {args : List AV} {L : AHeap} {Q : AV → AHeap → Prop} (hf : C.P.funcs[f]? = some fn) (hb : fn.body.isSome = true) (hname : (fn.name == "runtime.NumGoroutine") = false)
    {k g e sz Cp : Nat} {xs : List AV} (hk : L[k]? = some (g, .row e sz Cp xs)) (h : xs.length ≤ Cp → FnSpec C f args L Q) : FnSpec C f args L Q := by
  refine ⟨⟨fn, hf, hname, hb⟩, fun imm w vs hG hs hl hv => ?_⟩
  have hle : xs.length ≤ Cp := by
    cases hs.holds k g _ hk trivial
    assumption
  exact (h hle).2 imm w vs hG hs hl hv

/-- Two rows of one's own lie apart. -/
theorem overlaps_ext {C : Cx} (hC : C.Ok) {f : FuncId} {fn : Func} {t tR : TypeId} (hf : C.P.funcs[f]? = some fn) (hname : (fn.name == "runtime.NumGoroutine") = false) (hb : fn.body.isNone = true) (hn : Extern.findNext fn = none) (he : Extern.find fn = some (Extern.SlicesOverlaps.overlaps #[t, t] #[tR]))
    {e sz by_ : Nat} {ea : Bool} {zs : List AV} (ht : C.T t = some (.slice e sz by_ ea zs))
    {L : AHeap} {k g Cp lo n k' g' Cp' lo' n' e1 sz1 e2 sz2 : Nat} {xs ys : List AV} (hk : L[k]? = some (g, .row e1 sz1 Cp xs)) (hk' : L[k']? = some (g', .row e2 sz2 Cp' ys)) (hne : k ≠ k') (hpos : 0 < Cp') :
    ExtSpec C f [.sb k g Cp sz1 lo n, .sb k' g' Cp' sz2 lo' n'] L (.bool false) := by
  intro imm w vs hG hs hl hv
  obtain ⟨v1, v2, rfl⟩ : ∃ v1 v2, vs = [v1, v2] := by
    cases vs with
    | nil => simp at hl
    | cons v1 r => cases r with
      | nil => simp at hl
      | cons v2 r => cases r with
        | nil => exact ⟨v1, v2, rfl⟩
        | cons => simp at hl
  have h1 := hv 0 _ _ rfl rfl
  have h2 := hv 1 _ _ rfl rfl
  obtain ⟨hu, j, ze, hj, hsz, _⟩ := tiOf_slice (hC.types _ _ ht)
  cases h1 with
  | sb _ _ _ _ _ _ off a1 a0 =>
  cases h2 with
  | sb _ _ _ _ _ _ off' b1 b0 =>
  cases hs.holds k g _ hk trivial with
  | row _ _ _ _ vs1 spare1 hg1 hs1 hsz1 hC1 hm1 hx1 hv1 =>
  cases hs.holds k' g' _ hk' trivial with
  | row _ _ _ _ vs2 spare2 hg2 hs2 hsz2 hC2 hm2 hx2 hv2 =>
  have hgg : g ≠ g' := fun e => hne (hs.apart k k' g (.row e1 sz1 Cp xs) (.row e2 sz2 Cp' ys) hk trivial (by rw [e]; exact hk') trivial)
  refine ⟨.bool false, ?_, .bool _⟩
  rw [show ([Value.slice (some ⟨g, off, none⟩) n (Cp - lo), Value.slice (some ⟨g', off', none⟩) n' (Cp' - lo')].toArray) = #[Value.slice (some ⟨g, off, none⟩) n (Cp - lo), Value.slice (some ⟨g', off', none⟩) n' (Cp' - lo')] from rfl]
  rw [run_callFunc_extern hf hname hb hn he, Lib.run_overlaps_apart w t tR e hu j.size (fun w' => run_sizeOf w' hj) ⟨g, off, none⟩ ⟨g', off', none⟩ n (Cp - lo) n' (Cp' - lo') hgg e1 e2 (Cp * sz1) (Cp' * sz2)
    (by simp [World.shape?, hg1, ← hC1]) (by simp [World.shape?, hg2, ← hC2]) (by have := Nat.mul_pos hpos hs2; omega) (by simp [World.frozen?, hg1]) (by simp [World.frozen?, hg1])]
  rfl
end Go.Proofs.YtfohedaadncefaaDoor.HB
/- The contracts of the library's Clone, Insert and Delete at lists of nodes. -/
namespace Go.Proofs.YtfohedaadncefaaDoor.HBT
open Go Go.Proofs.YtfohedaadncefaaDoor.HB Go.RowKit
set_option maxRecDepth 8000

theorem clone_spec (xs : List Sn) (n : Nat) (hn : n ≤ xs.length) (hm : n ≤ 1000) : FnSpec C 51 [rdo xs n] [] (fun r L' => (∃ g Cp, r = .sl 0 g Cp n ∧ L' = [(g, .row 50 3 Cp ((xs.take n).map enc))]) ∨ (xs = [] ∧ r = .nils ∧ L' = [])) := by
  refine FnSpec.start C_ok Tryd.func51 rfl rfl Tryd.ntmps51 ?_
  repeat (first | refine Ops.go ?_ | refine And.intro rfl ?_ | refine And.intro (Nat.le_of_ble_eq_true rfl) ?_ | refine And.intro (Int.natCast_nonneg _) ?_ | refine fun (_ : Nat) => ?_ | refine Ord.go ?_ | refine Run.go rfl ?_ | refine Cont.go rfl ?_ | refine OrdP.go ?_)
  refine ⟨fun hne => ?_, fun he b => ?_⟩
  · repeat (first | refine Ops.go ?_ | refine And.intro rfl ?_ | refine And.intro (Nat.le_of_ble_eq_true rfl) ?_ | refine And.intro (Int.natCast_nonneg _) ?_ | refine fun (_ : Nat) => ?_ | refine Ord.go ?_ | refine Run.go rfl ?_ | refine Cont.go rfl ?_ | refine OrdP.go ?_)
    have hl : ([] : List AV).length + (List.take n (List.map enc xs)).length = n := by simp; omega
    refine ⟨by rw [hl]; omega, ?_⟩
    repeat (first | refine Ops.go ?_ | refine And.intro rfl ?_ | refine And.intro (Nat.le_of_ble_eq_true rfl) ?_ | refine And.intro (Int.natCast_nonneg _) ?_ | refine fun (_ : Nat) => ?_ | refine Ord.go ?_ | refine Run.go rfl ?_ | refine Cont.go rfl ?_ | refine OrdP.go ?_)
    refine ⟨_, _, FinOk.keep _ [0] (Sub.sl _ 0 _ _ _) (by decide) rfl, .inl ⟨_, _, congrArg (AV.sl 0 _ _) hl, ?_⟩⟩
    exact congrArg (fun l => [(_, AObj.row 50 3 _ l)]) (show [] ++ List.take n (List.map enc xs) = _ by simp [List.map_take])
  · have he : xs = [] := List.map_eq_nil_iff.1 he
    subst he
    obtain rfl : n = 0 := by simpa using hn
    cases b
    · repeat (first | refine Ops.go ?_ | refine And.intro rfl ?_ | refine And.intro (Nat.le_of_ble_eq_true rfl) ?_ | refine And.intro (Int.natCast_nonneg _) ?_ | refine fun (_ : Nat) => ?_ | refine Ord.go ?_ | refine Run.go rfl ?_ | refine Cont.go rfl ?_ | refine OrdP.go ?_)
      exact ⟨_, _, FinOk.keep _ [0] (Sub.sl _ 0 _ _ _) (by decide) rfl, .inl ⟨_, _, rfl, rfl⟩⟩
    · repeat (first | refine Ops.go ?_ | refine And.intro rfl ?_ | refine And.intro (Nat.le_of_ble_eq_true rfl) ?_ | refine And.intro (Int.natCast_nonneg _) ?_ | refine fun (_ : Nat) => ?_ | refine Ord.go ?_ | refine Run.go rfl ?_ | refine Cont.go rfl ?_ | refine OrdP.go ?_)
      exact ⟨_, [], FinOk.drop _ _, .inr ⟨rfl, rfl, rfl⟩⟩

theorem delete_own (g Cp : Nat) (l : List Sn) (i : Nat) (hi : i < l.length) (hm : l.length ≤ 1000) : FnSpec C 77 [.sb 0 g Cp 3 0 l.length, .int .i64 i, .int .i64 (i + 1 : Nat)] [(g, .row 50 3 Cp (l.map enc))]
    (fun r L' => ∃ g' C', r = .sb 0 g' C' 3 0 (l.length - 1) ∧ L' = [(g', .row 50 3 C' ((l.take i ++ l.drop (i + 1)).map enc))]) := by
  refine FnSpec.capOf (k := 0) Tryd.func77 rfl rfl rfl fun hC => ?_
  rw [List.length_map] at hC
  refine FnSpec.start C_ok Tryd.func77 rfl rfl Tryd.ntmps77 ?_
  repeat (first | refine Ops.go ?_ | refine And.intro rfl ?_ | refine And.intro (Nat.le_of_ble_eq_true rfl) ?_ | refine And.intro (Int.natCast_nonneg _) ?_ | refine fun (_ : Nat) => ?_ | refine Ord.go ?_ | refine Run.go rfl ?_ | refine Cont.go rfl ?_ | refine OrdP.go ?_)
  refine ⟨by omega, ?_⟩
  repeat (first | refine Ops.go ?_ | refine And.intro rfl ?_ | refine And.intro (Nat.le_of_ble_eq_true rfl) ?_ | refine And.intro (Int.natCast_nonneg _) ?_ | refine fun (_ : Nat) => ?_ | refine Ord.go ?_ | refine Run.go rfl ?_ | refine Cont.go rfl ?_ | refine OrdP.go ?_)
  refine ⟨by omega, ?_⟩
  repeat (first | refine Ops.go ?_ | refine And.intro rfl ?_ | refine And.intro (Nat.le_of_ble_eq_true rfl) ?_ | refine And.intro (Int.natCast_nonneg _) ?_ | refine fun (_ : Nat) => ?_ | refine Ord.go ?_ | refine Run.go rfl ?_ | refine Cont.go rfl ?_ | refine OrdP.go ?_)
  refine ⟨by omega, ?_⟩
  repeat (first | refine Ops.go ?_ | refine And.intro rfl ?_ | refine And.intro (Nat.le_of_ble_eq_true rfl) ?_ | refine And.intro (Int.natCast_nonneg _) ?_ | refine fun (_ : Nat) => ?_ | refine Ord.go ?_ | refine Run.go rfl ?_ | refine Cont.go rfl ?_ | refine OrdP.go ?_)
  refine ⟨fun h => absurd h (by omega), fun _ => ?_⟩
  repeat (first | refine Ops.go ?_ | refine And.intro rfl ?_ | refine And.intro (Nat.le_of_ble_eq_true rfl) ?_ | refine And.intro (Int.natCast_nonneg _) ?_ | refine fun (_ : Nat) => ?_ | refine Ord.go ?_ | refine Run.go rfl ?_ | refine Cont.go rfl ?_ | refine OrdP.go ?_)
  refine Run.drawn false [0, 1, 2, 3, 4, 5, 6, 7] (by kernel_rfl) ?_
  repeat (first | refine Ops.go ?_ | refine And.intro rfl ?_ | refine And.intro (Nat.le_of_ble_eq_true rfl) ?_ | refine And.intro (Int.natCast_nonneg _) ?_ | refine fun (_ : Nat) => ?_ | refine Ord.go ?_ | refine Run.go rfl ?_ | refine Cont.go rfl ?_ | refine OrdP.go ?_)
  refine ⟨by omega, ?_⟩
  repeat (first | refine Ops.go ?_ | refine And.intro rfl ?_ | refine And.intro (Nat.le_of_ble_eq_true rfl) ?_ | refine And.intro (Int.natCast_nonneg _) ?_ | refine fun (_ : Nat) => ?_ | refine Ord.go ?_ | refine Run.go rfl ?_ | refine Cont.go rfl ?_ | refine OrdP.go ?_)
  refine ⟨by omega, ?_⟩
  repeat (first | refine Ops.go ?_ | refine And.intro rfl ?_ | refine And.intro (Nat.le_of_ble_eq_true rfl) ?_ | refine And.intro (Int.natCast_nonneg _) ?_ | refine fun (_ : Nat) => ?_ | refine Ord.go ?_ | refine Run.go rfl ?_ | refine Cont.go rfl ?_ | refine OrdP.go ?_)
  refine ⟨by omega, ?_⟩
  repeat (first | refine Ops.go ?_ | refine And.intro rfl ?_ | refine And.intro (Nat.le_of_ble_eq_true rfl) ?_ | refine And.intro (Int.natCast_nonneg _) ?_ | refine fun (_ : Nat) => ?_ | refine Ord.go ?_ | refine Run.go rfl ?_ | refine Cont.go rfl ?_ | refine OrdP.go ?_)
  refine ⟨by rw [List.length_map]; omega, ?_⟩
  repeat (first | refine Ops.go ?_ | refine And.intro rfl ?_ | refine And.intro (Nat.le_of_ble_eq_true rfl) ?_ | refine And.intro (Int.natCast_nonneg _) ?_ | refine fun (_ : Nat) => ?_ | refine Ord.go ?_ | refine Run.go rfl ?_ | refine Cont.go rfl ?_ | refine OrdP.go ?_)
  have e1 : List.take ((l.length : Int) - (i + 1 : Nat)).toNat (List.drop (0 + ((i + 1 : Nat) : Int).toNat) (l.map enc)) = (l.drop (i + 1)).map enc := by
    rw [Int.toNat_natCast, Nat.zero_add, List.take_of_length_le (by simp; omega), List.map_drop]
  rw [e1]
  refine ⟨by rw [List.length_map]; omega, ?_⟩
  have e2 : ((i : Int) - 0).toNat + ((l.drop (i + 1)).map enc).length = l.length - 1 := by rw [List.length_map, List.length_drop]; omega
  have e3 : List.take ((i : Int) - 0).toNat (l.map enc) ++ (l.drop (i + 1)).map enc = (l.take i ++ l.drop (i + 1)).map enc := by
    rw [show ((i : Int) - 0).toNat = i by omega, List.map_append, List.map_take]
  rw [e2, e3]
  refine ⟨by omega, ?_⟩
  refine ⟨fun _ => ?_, fun h => absurd h (by omega)⟩
  repeat (first | refine Ops.go ?_ | refine And.intro rfl ?_ | refine And.intro (Nat.le_of_ble_eq_true rfl) ?_ | refine And.intro (Int.natCast_nonneg _) ?_ | refine fun (_ : Nat) => ?_ | refine Ord.go ?_ | refine Run.go rfl ?_ | refine Cont.go rfl ?_ | refine OrdP.go ?_)
  refine ⟨by omega, ?_⟩
  repeat (first | refine Ops.go ?_ | refine And.intro rfl ?_ | refine And.intro (Nat.le_of_ble_eq_true rfl) ?_ | refine And.intro (Int.natCast_nonneg _) ?_ | refine fun (_ : Nat) => ?_ | refine Ord.go ?_ | refine Run.go rfl ?_ | refine Cont.go rfl ?_ | refine OrdP.go ?_)
  refine ⟨by omega, ?_⟩
  repeat (first | refine Ops.go ?_ | refine And.intro rfl ?_ | refine And.intro (Nat.le_of_ble_eq_true rfl) ?_ | refine And.intro (Int.natCast_nonneg _) ?_ | refine fun (_ : Nat) => ?_ | refine Ord.go ?_ | refine Run.go rfl ?_ | refine Cont.go rfl ?_ | refine OrdP.go ?_)
  refine ⟨by rw [List.length_map, List.length_append, List.length_take, List.length_drop]; omega, ?_⟩
  repeat (first | refine Ops.go ?_ | refine And.intro rfl ?_ | refine And.intro (Nat.le_of_ble_eq_true rfl) ?_ | refine And.intro (Int.natCast_nonneg _) ?_ | refine fun (_ : Nat) => ?_ | refine Ord.go ?_ | refine Run.go rfl ?_ | refine Cont.go rfl ?_ | refine OrdP.go ?_)
  refine ⟨by omega, ?_⟩
  repeat (first | refine Ops.go ?_ | refine And.intro rfl ?_ | refine And.intro (Nat.le_of_ble_eq_true rfl) ?_ | refine And.intro (Int.natCast_nonneg _) ?_ | refine fun (_ : Nat) => ?_ | refine Ord.go ?_ | refine Run.go rfl ?_ | refine Cont.go rfl ?_ | refine OrdP.go ?_)
  have e5 : List.take (0 + ((l.length - 1 : Nat) : Int).toNat) ((l.take i ++ l.drop (i + 1)).map enc) = (l.take i ++ l.drop (i + 1)).map enc :=
    List.take_of_length_le (by rw [List.length_map, List.length_append, List.length_take, List.length_drop]; omega)
  exact ⟨_, _, FinOk.keep _ [0] (Sub.sb _ 0 _ _ _ _ _) (by decide) rfl, _, _, rfl, congrArg (fun q => [(_, AObj.row 50 3 _ q)]) e5⟩

theorem ins1 {α : Type} (A : List α) (y : α) (i : Nat) (hi : i ≤ A.length) :
    List.take (i + 1) (List.take i (List.take i A) ++ List.take 1 (List.drop 0 [y]) ++ List.drop (i + 1) (List.take i A)) ++ List.take (A.length - i) (List.drop i A) ++ List.drop (i + 1 + (A.length - i)) (List.take i (List.take i A) ++ List.take 1 (List.drop 0 [y]) ++ List.drop (i + 1) (List.take i A)) = List.take i A ++ y :: List.drop i A := by
  have a1 : List.drop (i + 1) (List.take i A) = [] := List.drop_eq_nil_of_le (by rw [List.length_take]; omega)
  have a2 : List.take (A.length - i) (List.drop i A) = List.drop i A := List.take_of_length_le (by rw [List.length_drop]; omega)
  have a3 : List.take 1 (List.drop 0 [y]) = [y] := rfl
  have r : List.take i (List.take i A) ++ List.take 1 (List.drop 0 [y]) ++ List.drop (i + 1) (List.take i A) = List.take i A ++ [y] := by
    rw [a1, a3, List.take_take, Nat.min_self, List.append_nil]
  have hl : (List.take i A ++ [y]).length = i + 1 := by rw [List.length_append, List.length_take]; simp; omega
  have a4 : List.take (i + 1) (List.take i A ++ [y]) = List.take i A ++ [y] := List.take_of_length_le (by omega)
  have a5 : List.drop (i + 1 + (A.length - i)) (List.take i A ++ [y]) = [] := List.drop_eq_nil_of_le (by omega)
  rw [r, a2, a4, a5]
  simp
theorem ins2 {α : Type} (A : List α) (y : α) (i : Nat) (hi : i < A.length) :
    List.take i (List.take (i + 1) A ++ List.take (A.length - i) (List.drop i A) ++ List.drop (i + 1 + (A.length - i)) A) ++ List.take 1 (List.drop 0 [y]) ++ List.drop (i + 1) (List.take (i + 1) A ++ List.take (A.length - i) (List.drop i A) ++ List.drop (i + 1 + (A.length - i)) A) = List.take i A ++ y :: List.drop i A := by
  have a2 : List.take (A.length - i) (List.drop i A) = List.drop i A := List.take_of_length_le (by rw [List.length_drop]; omega)
  have a1 : List.drop (i + 1 + (A.length - i)) A = [] := List.drop_eq_nil_of_le (by omega)
  have a3 : List.take 1 (List.drop 0 [y]) = [y] := rfl
  have hl : (List.take (i + 1) A).length = i + 1 := by rw [List.length_take]; omega
  have a4 : List.take i (List.take (i + 1) A ++ List.drop i A) = List.take i A := by
    rw [List.take_append_of_le_length (by omega), List.take_take, Nat.min_eq_left (by omega)]
  have a5 : List.drop (i + 1) (List.take (i + 1) A ++ List.drop i A) = List.drop i A := by
    rw [List.drop_append_of_le_length (by omega), List.drop_of_length_le (by omega), List.nil_append]
  rw [a1, a2, a3, List.append_nil, a4, a5]
  simp

set_option maxHeartbeats 8000000 in
theorem insert_own (g Cp g1 : Nat) (l : List Sn) (i : Nat) (x : Sn) (hi : i ≤ l.length) (hm : l.length ≤ 1000) : FnSpec C 76 [.sb 0 g Cp 3 0 l.length, .int .i64 i, .sb 1 g1 1 3 0 1] [(g, .row 50 3 Cp (l.map enc)), (g1, .row 50 3 1 [enc x])]
    (fun r L' => ∃ g' C', r = .sb 0 g' C' 3 0 (l.length + 1) ∧ L' = [(g', .row 50 3 C' ((l.take i ++ x :: l.drop i).map enc))]) := by
  refine FnSpec.capOf (k := 0) Tryd.func76 rfl rfl rfl fun hC => ?_
  rw [List.length_map] at hC
  refine FnSpec.start C_ok Tryd.func76 rfl rfl Tryd.ntmps76 ?_
  repeat (first | refine Ops.go ?_ | refine And.intro rfl ?_ | refine And.intro (Nat.le_of_ble_eq_true rfl) ?_ | refine And.intro (Int.natCast_nonneg _) ?_ | refine fun (_ : Nat) => ?_ | refine Ord.go ?_ | refine Run.go rfl ?_ | refine Cont.go rfl ?_ | refine OrdP.go ?_)
  refine ⟨by omega, ?_⟩
  repeat (first | refine Ops.go ?_ | refine And.intro rfl ?_ | refine And.intro (Nat.le_of_ble_eq_true rfl) ?_ | refine And.intro (Int.natCast_nonneg _) ?_ | refine fun (_ : Nat) => ?_ | refine Ord.go ?_ | refine Run.go rfl ?_ | refine Cont.go rfl ?_ | refine OrdP.go ?_)
  refine ⟨by omega, ?_⟩
  repeat (first | refine Ops.go ?_ | refine And.intro rfl ?_ | refine And.intro (Nat.le_of_ble_eq_true rfl) ?_ | refine And.intro (Int.natCast_nonneg _) ?_ | refine fun (_ : Nat) => ?_ | refine Ord.go ?_ | refine Run.go rfl ?_ | refine Cont.go rfl ?_ | refine OrdP.go ?_)
  refine ⟨fun h => absurd h (by decide), fun _ => ?_⟩
  repeat (first | refine Ops.go ?_ | refine And.intro rfl ?_ | refine And.intro (Nat.le_of_ble_eq_true rfl) ?_ | refine And.intro (Int.natCast_nonneg _) ?_ | refine fun (_ : Nat) => ?_ | refine Ord.go ?_ | refine Run.go rfl ?_ | refine Cont.go rfl ?_ | refine OrdP.go ?_)
  refine ⟨fun h => ?_, fun h => ?_⟩
  · have h : (i : Int) = (l.length : Int) := h
    repeat (first | refine Ops.go ?_ | refine And.intro rfl ?_ | refine And.intro (Nat.le_of_ble_eq_true rfl) ?_ | refine And.intro (Int.natCast_nonneg _) ?_ | refine fun (_ : Nat) => ?_ | refine Ord.go ?_ | refine Run.go rfl ?_ | refine Cont.go rfl ?_ | refine OrdP.go ?_)
    refine ⟨by simp, ?_⟩
    repeat (first | refine Ops.go ?_ | refine And.intro rfl ?_ | refine And.intro (Nat.le_of_ble_eq_true rfl) ?_ | refine And.intro (Int.natCast_nonneg _) ?_ | refine fun (_ : Nat) => ?_ | refine Ord.go ?_ | refine Run.go rfl ?_ | refine Cont.go rfl ?_ | refine OrdP.go ?_)
    have hl1 : (List.take 1 (List.drop 0 [enc x])).length = 1 := rfl
    have hrow : List.take l.length (l.map enc) ++ List.take 1 (List.drop 0 [enc x]) = (l.take i ++ x :: l.drop i).map enc := by
      have : i = l.length := by omega
      subst this
      rw [List.take_length, List.drop_length, List.take_of_length_le (by simp)]
      simp
    refine ⟨by rw [hl1]; omega, ?_⟩
    refine ⟨fun _ => ?_, fun _ g2 C2 hC2 => ?_⟩
    · repeat (first | refine Ops.go ?_ | refine And.intro rfl ?_ | refine And.intro (Nat.le_of_ble_eq_true rfl) ?_ | refine And.intro (Int.natCast_nonneg _) ?_ | refine fun (_ : Nat) => ?_ | refine Ord.go ?_ | refine Run.go rfl ?_ | refine Cont.go rfl ?_ | refine OrdP.go ?_)
      exact ⟨_, _, FinOk.keep _ [0] (Sub.sb _ 0 _ _ _ _ _) (by decide) rfl, _, _, rfl, congrArg (fun q => [(_, AObj.row 50 3 _ q)]) hrow⟩
    · repeat (first | refine Ops.go ?_ | refine And.intro rfl ?_ | refine And.intro (Nat.le_of_ble_eq_true rfl) ?_ | refine And.intro (Int.natCast_nonneg _) ?_ | refine fun (_ : Nat) => ?_ | refine Ord.go ?_ | refine Run.go rfl ?_ | refine Cont.go rfl ?_ | refine OrdP.go ?_)
      exact ⟨_, _, FinOk.keep _ [0] (Sub.sb _ 0 _ _ _ _ _) (by decide) rfl, _, _, rfl, congrArg (fun q => [(_, AObj.row 50 3 _ q)]) hrow⟩
  · have h : ¬ (i : Int) = (l.length : Int) := h
    repeat (first | refine Ops.go ?_ | refine And.intro rfl ?_ | refine And.intro (Nat.le_of_ble_eq_true rfl) ?_ | refine And.intro (Int.natCast_nonneg _) ?_ | refine fun (_ : Nat) => ?_ | refine Ord.go ?_ | refine Run.go rfl ?_ | refine Cont.go rfl ?_ | refine OrdP.go ?_)
    refine fun r hr => ?_
    obtain rfl := add1 hr (by omega)
    repeat (first | refine Ops.go ?_ | refine And.intro rfl ?_ | refine And.intro (Nat.le_of_ble_eq_true rfl) ?_ | refine And.intro (Int.natCast_nonneg _) ?_ | refine fun (_ : Nat) => ?_ | refine Ord.go ?_ | refine Run.go rfl ?_ | refine Cont.go rfl ?_ | refine OrdP.go ?_)
    refine ⟨fun h => ?_, fun h => ?_⟩
    · repeat (first | refine Ops.go ?_ | refine And.intro rfl ?_ | refine And.intro (Nat.le_of_ble_eq_true rfl) ?_ | refine And.intro (Int.natCast_nonneg _) ?_ | refine fun (_ : Nat) => ?_ | refine Ord.go ?_ | refine Run.go rfl ?_ | refine Cont.go rfl ?_ | refine OrdP.go ?_)
      refine ⟨by omega, ?_⟩
      repeat (first | refine Ops.go ?_ | refine And.intro rfl ?_ | refine And.intro (Nat.le_of_ble_eq_true rfl) ?_ | refine And.intro (Int.natCast_nonneg _) ?_ | refine fun (_ : Nat) => ?_ | refine Ord.go ?_ | refine Run.go rfl ?_ | refine Cont.go rfl ?_ | refine OrdP.go ?_)
      refine fun r hr => ?_
      obtain rfl := add1 hr (by omega)
      repeat (first | refine Ops.go ?_ | refine And.intro rfl ?_ | refine And.intro (Nat.le_of_ble_eq_true rfl) ?_ | refine And.intro (Int.natCast_nonneg _) ?_ | refine fun (_ : Nat) => ?_ | refine Ord.go ?_ | refine Run.go rfl ?_ | refine Cont.go rfl ?_ | refine OrdP.go ?_)
      refine fun r hr => ?_
      obtain rfl : r = ((l.length + 1 - i : Nat) : Int) := by rw [hr, IntKind.wrap_i64]; omega
      repeat (first | refine Ops.go ?_ | refine And.intro rfl ?_ | refine And.intro (Nat.le_of_ble_eq_true rfl) ?_ | refine And.intro (Int.natCast_nonneg _) ?_ | refine fun (_ : Nat) => ?_ | refine Ord.go ?_ | refine Run.go rfl ?_ | refine Cont.go rfl ?_ | refine OrdP.go ?_)
      refine ⟨by rw [List.length_map]; omega, ?_⟩
      repeat (first | refine Ops.go ?_ | refine And.intro rfl ?_ | refine And.intro (Nat.le_of_ble_eq_true rfl) ?_ | refine And.intro (Int.natCast_nonneg _) ?_ | refine fun (_ : Nat) => ?_ | refine Ord.go ?_ | refine Run.go rfl ?_ | refine Cont.go rfl ?_ | refine OrdP.go ?_)
      refine ⟨by omega, ?_⟩
      repeat (first | refine Ops.go ?_ | refine And.intro rfl ?_ | refine And.intro (Nat.le_of_ble_eq_true rfl) ?_ | refine And.intro (Int.natCast_nonneg _) ?_ | refine fun (_ : Nat) => ?_ | refine Ord.go ?_ | refine Run.go rfl ?_ | refine Cont.go rfl ?_ | refine OrdP.go ?_)
      refine ⟨by omega, ?_⟩
      repeat (first | refine Ops.go ?_ | refine And.intro rfl ?_ | refine And.intro (Nat.le_of_ble_eq_true rfl) ?_ | refine And.intro (Int.natCast_nonneg _) ?_ | refine fun (_ : Nat) => ?_ | refine Ord.go ?_ | refine Run.go rfl ?_ | refine Cont.go rfl ?_ | refine OrdP.go ?_)
      refine ⟨by omega, ?_⟩
      repeat (first | refine Ops.go ?_ | refine And.intro rfl ?_ | refine And.intro (Nat.le_of_ble_eq_true rfl) ?_ | refine And.intro (Int.natCast_nonneg _) ?_ | refine fun (_ : Nat) => ?_ | refine Ord.go ?_ | refine Run.go rfl ?_ | refine Cont.go rfl ?_ | refine OrdP.go ?_)
      have e4 : ((i : Int) - 0).toNat + ((l.length + 1 - i : Nat) : Int).toNat = l.length + 1 := by omega
      have e5 : List.take ((i : Int) - 0).toNat (l.map enc) = (l.take i).map enc := by rw [show ((i : Int) - 0).toNat = i by omega, List.map_take]
      rw [e4, e5]
      refine fun hC2 => ?_
      repeat (first | refine Ops.go ?_ | refine And.intro rfl ?_ | refine And.intro (Nat.le_of_ble_eq_true rfl) ?_ | refine And.intro (Int.natCast_nonneg _) ?_ | refine fun (_ : Nat) => ?_ | refine Ord.go ?_ | refine Run.go rfl ?_ | refine Cont.go rfl ?_ | refine OrdP.go ?_)
      refine ⟨by omega, ?_⟩
      repeat (first | refine Ops.go ?_ | refine And.intro rfl ?_ | refine And.intro (Nat.le_of_ble_eq_true rfl) ?_ | refine And.intro (Int.natCast_nonneg _) ?_ | refine fun (_ : Nat) => ?_ | refine Ord.go ?_ | refine Run.go rfl ?_ | refine Cont.go rfl ?_ | refine OrdP.go ?_)
      refine ⟨by omega, ?_⟩
      repeat (first | refine Ops.go ?_ | refine And.intro rfl ?_ | refine And.intro (Nat.le_of_ble_eq_true rfl) ?_ | refine And.intro (Int.natCast_nonneg _) ?_ | refine fun (_ : Nat) => ?_ | refine Ord.go ?_ | refine Run.go rfl ?_ | refine Cont.go rfl ?_ | refine OrdP.go ?_)
      intro hmm
      rename_i mm
      obtain rfl : mm = 1 := by omega
      refine ⟨rfl, rfl, rfl, rfl, by rw [List.length_map, List.length_take]; omega, by omega, Nat.le_refl 1, ?_⟩
      repeat (first | refine Ops.go ?_ | refine And.intro rfl ?_ | refine And.intro (Nat.le_of_ble_eq_true rfl) ?_ | refine And.intro (Int.natCast_nonneg _) ?_ | refine fun (_ : Nat) => ?_ | refine Ord.go ?_ | refine Run.go rfl ?_ | refine Cont.go rfl ?_ | refine OrdP.go ?_)
      refine Run.drawn false [0, 1, 2, 3, 4, 5, 6, 7, 8] (by kernel_rfl) ?_
      repeat (first | refine Ops.go ?_ | refine And.intro rfl ?_ | refine And.intro (Nat.le_of_ble_eq_true rfl) ?_ | refine And.intro (Int.natCast_nonneg _) ?_ | refine fun (_ : Nat) => ?_ | refine Ord.go ?_ | refine Run.go rfl ?_ | refine Cont.go rfl ?_ | refine OrdP.go ?_)
      refine fun r hr => ?_
      obtain rfl := add1 hr (by omega)
      repeat (first | refine Ops.go ?_ | refine And.intro rfl ?_ | refine And.intro (Nat.le_of_ble_eq_true rfl) ?_ | refine And.intro (Int.natCast_nonneg _) ?_ | refine fun (_ : Nat) => ?_ | refine Ord.go ?_ | refine Run.go rfl ?_ | refine Cont.go rfl ?_ | refine OrdP.go ?_)
      refine ⟨by omega, ?_⟩
      repeat (first | refine Ops.go ?_ | refine And.intro rfl ?_ | refine And.intro (Nat.le_of_ble_eq_true rfl) ?_ | refine And.intro (Int.natCast_nonneg _) ?_ | refine fun (_ : Nat) => ?_ | refine Ord.go ?_ | refine Run.go rfl ?_ | refine Cont.go rfl ?_ | refine OrdP.go ?_)
      refine ⟨by omega, ?_⟩
      repeat (first | refine Ops.go ?_ | refine And.intro rfl ?_ | refine And.intro (Nat.le_of_ble_eq_true rfl) ?_ | refine And.intro (Int.natCast_nonneg _) ?_ | refine fun (_ : Nat) => ?_ | refine Ord.go ?_ | refine Run.go rfl ?_ | refine Cont.go rfl ?_ | refine OrdP.go ?_)
      refine ⟨by omega, ?_⟩
      repeat (first | refine Ops.go ?_ | refine And.intro rfl ?_ | refine And.intro (Nat.le_of_ble_eq_true rfl) ?_ | refine And.intro (Int.natCast_nonneg _) ?_ | refine fun (_ : Nat) => ?_ | refine Ord.go ?_ | refine Run.go rfl ?_ | refine Cont.go rfl ?_ | refine OrdP.go ?_)
      refine ⟨by omega, ?_⟩
      repeat (first | refine Ops.go ?_ | refine And.intro rfl ?_ | refine And.intro (Nat.le_of_ble_eq_true rfl) ?_ | refine And.intro (Int.natCast_nonneg _) ?_ | refine fun (_ : Nat) => ?_ | refine Ord.go ?_ | refine Run.go rfl ?_ | refine Cont.go rfl ?_ | refine OrdP.go ?_)
      intro hmm
      rename_i mm
      obtain rfl : mm = l.length - i := by omega
      refine ⟨rfl, rfl, rfl, rfl, by simp; omega, by omega, by rw [List.length_map]; omega, ?_⟩
      repeat (first | refine Ops.go ?_ | refine And.intro rfl ?_ | refine And.intro (Nat.le_of_ble_eq_true rfl) ?_ | refine And.intro (Int.natCast_nonneg _) ?_ | refine fun (_ : Nat) => ?_ | refine Ord.go ?_ | refine Run.go rfl ?_ | refine Cont.go rfl ?_ | refine OrdP.go ?_)
      refine ⟨_, _, FinOk.keep _ [2] (Sub.sb _ 0 _ _ _ _ _) (by decide) rfl, _, _, rfl, congrArg (fun q => [(_, AObj.row 50 3 _ q)]) ?_⟩
      have := ins1 (l.map enc) (enc x) i (by rw [List.length_map]; omega)
      rw [List.length_map] at this
      simp only [Int.toNat_natCast, Nat.zero_add, List.map_take, List.map_append, List.map_cons, List.map_drop] at this ⊢
      exact this
    · repeat (first | refine Ops.go ?_ | refine And.intro rfl ?_ | refine And.intro (Nat.le_of_ble_eq_true rfl) ?_ | refine And.intro (Int.natCast_nonneg _) ?_ | refine fun (_ : Nat) => ?_ | refine Ord.go ?_ | refine Run.go rfl ?_ | refine Cont.go rfl ?_ | refine OrdP.go ?_)
      refine fun r hr => ?_
      obtain rfl := add1 hr (by omega)
      repeat (first | refine Ops.go ?_ | refine And.intro rfl ?_ | refine And.intro (Nat.le_of_ble_eq_true rfl) ?_ | refine And.intro (Int.natCast_nonneg _) ?_ | refine fun (_ : Nat) => ?_ | refine Ord.go ?_ | refine Run.go rfl ?_ | refine Cont.go rfl ?_ | refine OrdP.go ?_)
      refine ⟨by omega, ?_⟩
      repeat (first | refine Ops.go ?_ | refine And.intro rfl ?_ | refine And.intro (Nat.le_of_ble_eq_true rfl) ?_ | refine And.intro (Int.natCast_nonneg _) ?_ | refine fun (_ : Nat) => ?_ | refine Ord.go ?_ | refine Run.go rfl ?_ | refine Cont.go rfl ?_ | refine OrdP.go ?_)
      refine fun r hr => ?_
      obtain rfl := add1 hr (by omega)
      repeat (first | refine Ops.go ?_ | refine And.intro rfl ?_ | refine And.intro (Nat.le_of_ble_eq_true rfl) ?_ | refine And.intro (Int.natCast_nonneg _) ?_ | refine fun (_ : Nat) => ?_ | refine Ord.go ?_ | refine Run.go rfl ?_ | refine Cont.go rfl ?_ | refine OrdP.go ?_)
      refine ⟨by omega, ?_⟩
      repeat (first | refine Ops.go ?_ | refine And.intro rfl ?_ | refine And.intro (Nat.le_of_ble_eq_true rfl) ?_ | refine And.intro (Int.natCast_nonneg _) ?_ | refine fun (_ : Nat) => ?_ | refine Ord.go ?_ | refine Run.go rfl ?_ | refine Cont.go rfl ?_ | refine OrdP.go ?_)
      refine ⟨by omega, ?_⟩
      repeat (first | refine Ops.go ?_ | refine And.intro rfl ?_ | refine And.intro (Nat.le_of_ble_eq_true rfl) ?_ | refine And.intro (Int.natCast_nonneg _) ?_ | refine fun (_ : Nat) => ?_ | refine Ord.go ?_ | refine Run.go rfl ?_ | refine Cont.go rfl ?_ | refine OrdP.go ?_)
      refine ACall.ext _ (overlaps_ext C_ok Tryd.func93 rfl rfl (by kernel_rfl) (t := 22) (tR := 4) (by kernel_rfl) (e := 50) rfl (k := 1) (k' := 0) rfl rfl (by decide) (by omega)) ?_
      repeat (first | refine Ops.go ?_ | refine And.intro rfl ?_ | refine And.intro (Nat.le_of_ble_eq_true rfl) ?_ | refine And.intro (Int.natCast_nonneg _) ?_ | refine fun (_ : Nat) => ?_ | refine Ord.go ?_ | refine Run.go rfl ?_ | refine Cont.go rfl ?_ | refine OrdP.go ?_)
      refine Run.drawn false [0, 1, 2, 3, 4, 5, 6, 7, 8] (by kernel_rfl) ?_
      repeat (first | refine Ops.go ?_ | refine And.intro rfl ?_ | refine And.intro (Nat.le_of_ble_eq_true rfl) ?_ | refine And.intro (Int.natCast_nonneg _) ?_ | refine fun (_ : Nat) => ?_ | refine Ord.go ?_ | refine Run.go rfl ?_ | refine Cont.go rfl ?_ | refine OrdP.go ?_)
      refine fun r hr => ?_
      obtain rfl := add1 hr (by omega)
      repeat (first | refine Ops.go ?_ | refine And.intro rfl ?_ | refine And.intro (Nat.le_of_ble_eq_true rfl) ?_ | refine And.intro (Int.natCast_nonneg _) ?_ | refine fun (_ : Nat) => ?_ | refine Ord.go ?_ | refine Run.go rfl ?_ | refine Cont.go rfl ?_ | refine OrdP.go ?_)
      refine ⟨by omega, ?_⟩
      repeat (first | refine Ops.go ?_ | refine And.intro rfl ?_ | refine And.intro (Nat.le_of_ble_eq_true rfl) ?_ | refine And.intro (Int.natCast_nonneg _) ?_ | refine fun (_ : Nat) => ?_ | refine Ord.go ?_ | refine Run.go rfl ?_ | refine Cont.go rfl ?_ | refine OrdP.go ?_)
      refine ⟨by omega, ?_⟩
      repeat (first | refine Ops.go ?_ | refine And.intro rfl ?_ | refine And.intro (Nat.le_of_ble_eq_true rfl) ?_ | refine And.intro (Int.natCast_nonneg _) ?_ | refine fun (_ : Nat) => ?_ | refine Ord.go ?_ | refine Run.go rfl ?_ | refine Cont.go rfl ?_ | refine OrdP.go ?_)
      refine ⟨by omega, ?_⟩
      repeat (first | refine Ops.go ?_ | refine And.intro rfl ?_ | refine And.intro (Nat.le_of_ble_eq_true rfl) ?_ | refine And.intro (Int.natCast_nonneg _) ?_ | refine fun (_ : Nat) => ?_ | refine Ord.go ?_ | refine Run.go rfl ?_ | refine Cont.go rfl ?_ | refine OrdP.go ?_)
      refine ⟨by omega, ?_⟩
      repeat (first | refine Ops.go ?_ | refine And.intro rfl ?_ | refine And.intro (Nat.le_of_ble_eq_true rfl) ?_ | refine And.intro (Int.natCast_nonneg _) ?_ | refine fun (_ : Nat) => ?_ | refine Ord.go ?_ | refine Run.go rfl ?_ | refine Cont.go rfl ?_ | refine OrdP.go ?_)
      intro hmm
      rename_i mm
      obtain rfl : mm = l.length - i := by omega
      refine ⟨rfl, rfl, rfl, rfl, by rw [List.length_map]; omega, by omega, by rw [List.length_map]; omega, ?_⟩
      repeat (first | refine Ops.go ?_ | refine And.intro rfl ?_ | refine And.intro (Nat.le_of_ble_eq_true rfl) ?_ | refine And.intro (Int.natCast_nonneg _) ?_ | refine fun (_ : Nat) => ?_ | refine Ord.go ?_ | refine Run.go rfl ?_ | refine Cont.go rfl ?_ | refine OrdP.go ?_)
      refine ⟨by omega, ?_⟩
      repeat (first | refine Ops.go ?_ | refine And.intro rfl ?_ | refine And.intro (Nat.le_of_ble_eq_true rfl) ?_ | refine And.intro (Int.natCast_nonneg _) ?_ | refine fun (_ : Nat) => ?_ | refine Ord.go ?_ | refine Run.go rfl ?_ | refine Cont.go rfl ?_ | refine OrdP.go ?_)
      refine ⟨by omega, ?_⟩
      repeat (first | refine Ops.go ?_ | refine And.intro rfl ?_ | refine And.intro (Nat.le_of_ble_eq_true rfl) ?_ | refine And.intro (Int.natCast_nonneg _) ?_ | refine fun (_ : Nat) => ?_ | refine Ord.go ?_ | refine Run.go rfl ?_ | refine Cont.go rfl ?_ | refine OrdP.go ?_)
      intro hmm
      rename_i mm
      obtain rfl : mm = 1 := by omega
      refine ⟨rfl, rfl, rfl, rfl, by simp; omega, by omega, Nat.le_refl 1, ?_⟩
      repeat (first | refine Ops.go ?_ | refine And.intro rfl ?_ | refine And.intro (Nat.le_of_ble_eq_true rfl) ?_ | refine And.intro (Int.natCast_nonneg _) ?_ | refine fun (_ : Nat) => ?_ | refine Ord.go ?_ | refine Run.go rfl ?_ | refine Cont.go rfl ?_ | refine OrdP.go ?_)
      refine ⟨_, _, FinOk.keep _ [0] (Sub.sb _ 0 _ _ _ _ _) (by decide) rfl, _, _, congrArg (AV.sb 0 _ _ 3 0) (by omega), congrArg (fun q => [(_, AObj.row 50 3 _ q)]) ?_⟩
      have := ins2 (l.map enc) (enc x) i (by rw [List.length_map]; omega)
      rw [List.length_map] at this
      simp only [Int.toNat_natCast, Int.toNat_zero, Nat.zero_add, List.map_take, List.map_append, List.map_cons, List.map_drop] at this ⊢
      exact this
end Go.Proofs.YtfohedaadncefaaDoor.HBT
