/- The contracts of the program's own texts on names and places, part one. -/
import Derived.Test.YtfohedaadncefaaDoorHbO
namespace Go.Proofs.YtfohedaadncefaaDoor.HBT
open Go Go.Proofs.YtfohedaadncefaaDoor.HB Go.RowKit
set_option maxRecDepth 8000

theorem add1 {r : Int} {i : Nat} (h : r = IntKind.i64.wrap ((i : Int) + 1)) (hb : i < 9223372036854775807) : r = ((i + 1 : Nat) : Int) := by
  rw [h, IntKind.wrap_i64]; omega

/-- A byte's rank. -/
def rank (c : UInt8) : Int := if c.toNat = 47 then -1 else c.toNat
theorem weight_spec (c : UInt8) : FnSpec C 68 [.int .u8 c.toNat] [] (fun r L' => r = .int .i64 (rank c) ∧ L' = []) := by
  have hc := c.toNat_lt
  refine FnSpec.start C_ok Tryd.func68 rfl rfl Tryd.ntmps68 ?_
  repeat (first | refine Ops.go ?_ | refine And.intro rfl ?_ | refine And.intro (Nat.le_of_ble_eq_true rfl) ?_ | refine And.intro (Int.natCast_nonneg _) ?_ | refine fun (_ : Nat) => ?_ | refine Ord.go ?_ | refine Run.go rfl ?_ | refine Cont.go rfl ?_ | refine OrdP.go ?_)
  refine ⟨fun h => ?_, fun h => ?_⟩
  · have h : (c.toNat : Int) = 47 := h
    repeat (first | refine Ops.go ?_ | refine And.intro rfl ?_ | refine And.intro (Nat.le_of_ble_eq_true rfl) ?_ | refine And.intro (Int.natCast_nonneg _) ?_ | refine fun (_ : Nat) => ?_ | refine Ord.go ?_ | refine Run.go rfl ?_ | refine Cont.go rfl ?_ | refine OrdP.go ?_)
    exact ⟨_, [], FinOk.drop _ _, congrArg (AV.int .i64) (show (-1 : Int) = _ by unfold rank; rw [if_pos (by omega)]), rfl⟩
  · have h : ¬ (c.toNat : Int) = 47 := h
    repeat (first | refine Ops.go ?_ | refine And.intro rfl ?_ | refine And.intro (Nat.le_of_ble_eq_true rfl) ?_ | refine And.intro (Int.natCast_nonneg _) ?_ | refine fun (_ : Nat) => ?_ | refine Ord.go ?_ | refine Run.go rfl ?_ | refine Cont.go rfl ?_ | refine OrdP.go ?_)
    refine fun r hr => ?_
    have hr : r = (c.toNat : Int) := by rw [hr, IntKind.wrap_i64]; omega
    subst hr
    repeat (first | refine Ops.go ?_ | refine And.intro rfl ?_ | refine And.intro (Nat.le_of_ble_eq_true rfl) ?_ | refine And.intro (Int.natCast_nonneg _) ?_ | refine fun (_ : Nat) => ?_ | refine Ord.go ?_ | refine Run.go rfl ?_ | refine Cont.go rfl ?_ | refine OrdP.go ?_)
    exact ⟨_, [], FinOk.drop _ _, congrArg (AV.int .i64) (show (c.toNat : Int) = _ by unfold rank; rw [if_neg (by omega)]), rfl⟩

/-- A name, as the program asks. -/
def isNameB (s : ByteArray) : Bool := decide (s ≠ ⟨#[]⟩) && decide (s.size ≤ 16) && decide (s ≠ ⟨#[46]⟩) && decide (s ≠ ⟨#[46, 46]⟩) && s.data.toList.all fun b => nameByte b.toNat

theorem tab_at (c : Nat) (h : c < 128) : namedTab[c]? = some (.int .u8 (if nameByte c then 1 else 0)) := by
  unfold namedTab namedRow
  rw [List.getElem?_map, List.getElem?_map, List.getElem?_range h]
  rfl
theorem byte_all (s : ByteArray) (p : UInt8 → Bool) : s.data.toList.all p = true ↔ ∀ (i : Nat) (h : i < s.size), p s[i] = true := by
  rw [List.all_eq_true]
  constructor
  · intro h i hi
    have hi' : i < s.data.toList.length := by rw [Array.length_toList]; exact hi
    have := h (s.data.toList[i]) (List.getElem_mem hi')
    rw [Array.getElem_toList] at this
    exact this
  · intro h x hx
    obtain ⟨i, hi, rfl⟩ := List.mem_iff_getElem.1 hx
    have hi' : i < s.size := by rw [Array.length_toList] at hi; exact hi
    rw [Array.getElem_toList]
    exact h i hi'
theorem nameByte_lt {c : Nat} (h : nameByte c = true) : c < 128 := by
  unfold nameByte at h
  simp at h
  omega

theorem isName_spec (s : ByteArray) : FnSpec C 84 [.str s] [] (fun r L' => r = .bool (isNameB s) ∧ L' = []) := by
  refine FnSpec.start C_ok Tryd.func84 rfl rfl Tryd.ntmps84 ?_
  repeat (first | refine Ops.go ?_ | refine And.intro rfl ?_ | refine And.intro (Nat.le_of_ble_eq_true rfl) ?_ | refine And.intro (Int.natCast_nonneg _) ?_ | refine fun (_ : Nat) => ?_ | refine Ord.go ?_ | refine Run.go rfl ?_ | refine Cont.go rfl ?_ | refine OrdP.go ?_)
  refine ⟨fun h => ?_, fun h => ?_⟩
  case' refine_1 =>
    repeat (first | refine Ops.go ?_ | refine And.intro rfl ?_ | refine And.intro (Nat.le_of_ble_eq_true rfl) ?_ | refine And.intro (Int.natCast_nonneg _) ?_ | refine fun (_ : Nat) => ?_ | refine Ord.go ?_ | refine Run.go rfl ?_ | refine Cont.go rfl ?_ | refine OrdP.go ?_)
    exact ⟨_, [], FinOk.drop _ _, congrArg AV.bool (show false = _ by
      have h : s = ⟨#[]⟩ := h
      simp [isNameB, h]), rfl⟩
  have h0 : ¬ s = ⟨#[]⟩ := h
  repeat (first | refine Ops.go ?_ | refine And.intro rfl ?_ | refine And.intro (Nat.le_of_ble_eq_true rfl) ?_ | refine And.intro (Int.natCast_nonneg _) ?_ | refine fun (_ : Nat) => ?_ | refine Ord.go ?_ | refine Run.go rfl ?_ | refine Cont.go rfl ?_ | refine OrdP.go ?_)
  refine ⟨fun h => ?_, fun h => ?_⟩
  case' refine_1 =>
    repeat (first | refine Ops.go ?_ | refine And.intro rfl ?_ | refine And.intro (Nat.le_of_ble_eq_true rfl) ?_ | refine And.intro (Int.natCast_nonneg _) ?_ | refine fun (_ : Nat) => ?_ | refine Ord.go ?_ | refine Run.go rfl ?_ | refine Cont.go rfl ?_ | refine OrdP.go ?_)
    exact ⟨_, [], FinOk.drop _ _, congrArg AV.bool (show false = _ by
      have h : (16 : Int) < (s.size : Int) := h
      have : ¬ s.size ≤ 16 := by omega
      simp [isNameB, this]), rfl⟩
  have h : ¬ (16 : Int) < (s.size : Int) := h
  have h1 : s.size ≤ 16 := by omega
  repeat (first | refine Ops.go ?_ | refine And.intro rfl ?_ | refine And.intro (Nat.le_of_ble_eq_true rfl) ?_ | refine And.intro (Int.natCast_nonneg _) ?_ | refine fun (_ : Nat) => ?_ | refine Ord.go ?_ | refine Run.go rfl ?_ | refine Cont.go rfl ?_ | refine OrdP.go ?_)
  refine ⟨fun h => ?_, fun h => ?_⟩
  case' refine_1 =>
    repeat (first | refine Ops.go ?_ | refine And.intro rfl ?_ | refine And.intro (Nat.le_of_ble_eq_true rfl) ?_ | refine And.intro (Int.natCast_nonneg _) ?_ | refine fun (_ : Nat) => ?_ | refine Ord.go ?_ | refine Run.go rfl ?_ | refine Cont.go rfl ?_ | refine OrdP.go ?_)
    exact ⟨_, [], FinOk.drop _ _, congrArg AV.bool (show false = _ by
      have h : s = ⟨#[46]⟩ := h
      subst h
      decide), rfl⟩
  have h2 : ¬ s = ⟨#[46]⟩ := h
  repeat (first | refine Ops.go ?_ | refine And.intro rfl ?_ | refine And.intro (Nat.le_of_ble_eq_true rfl) ?_ | refine And.intro (Int.natCast_nonneg _) ?_ | refine fun (_ : Nat) => ?_ | refine Ord.go ?_ | refine Run.go rfl ?_ | refine Cont.go rfl ?_ | refine OrdP.go ?_)
  refine ⟨fun h => ?_, fun h => ?_⟩
  case' refine_1 =>
    repeat (first | refine Ops.go ?_ | refine And.intro rfl ?_ | refine And.intro (Nat.le_of_ble_eq_true rfl) ?_ | refine And.intro (Int.natCast_nonneg _) ?_ | refine fun (_ : Nat) => ?_ | refine Ord.go ?_ | refine Run.go rfl ?_ | refine Cont.go rfl ?_ | refine OrdP.go ?_)
    exact ⟨_, [], FinOk.drop _ _, congrArg AV.bool (show false = _ by
      have h : s = ⟨#[46, 46]⟩ := h
      subst h
      decide), rfl⟩
  have h3 : ¬ s = ⟨#[46, 46]⟩ := h
  repeat (first | refine Ops.go ?_ | refine And.intro rfl ?_ | refine And.intro (Nat.le_of_ble_eq_true rfl) ?_ | refine And.intro (Int.natCast_nonneg _) ?_ | refine fun (_ : Nat) => ?_ | refine Ord.go ?_ | refine Run.go rfl ?_ | refine Cont.go rfl ?_ | refine OrdP.go ?_)
  refine Run.loop (fun k env L => ∃ i : Nat, k = s.size - i ∧ i ≤ s.size ∧ (∀ (j : Nat) (h : j < s.size), j < i → nameByte s[j].toNat = true) ∧ env = [.str s, .junk, .junk, .junk, .junk, .junk, .junk, .junk, .junk, .junk, .junk, .junk, .junk, .junk, .junk, .junk, .junk, .junk, .junk, .junk, .int .i64 s.size, .int .i64 i, .junk, .junk, .junk, .junk, .junk, .junk, .junk, .junk, .junk, .junk, .junk, .junk, .junk, .junk, .junk] ∧ L = []) s.size [.str s, .junk, .junk, .junk, .junk, .junk, .junk, .junk, .junk, .junk, .junk, .junk, .junk, .junk, .junk, .junk, .junk, .junk, .junk, .junk, .int .i64 s.size, .int .i64 0, .junk, .junk, .junk, .junk, .junk, .junk, .junk, .junk, .junk, .junk, .junk, .junk, .junk, .junk, .junk] ?_ ⟨0, by omega, by omega, (fun j _ hj => absurd hj (Nat.not_lt_zero j)), rfl, rfl⟩ ?_
  · repeat (first | exact trivial | refine ⟨.inl rfl, ?_⟩ | refine ⟨.inr rfl, ?_⟩)
  rintro k env L ⟨i, rfl, hi, hP, rfl, rfl⟩
  repeat (first | refine Ops.go ?_ | refine And.intro rfl ?_ | refine And.intro (Nat.le_of_ble_eq_true rfl) ?_ | refine And.intro (Int.natCast_nonneg _) ?_ | refine fun (_ : Nat) => ?_ | refine Ord.go ?_ | refine Run.go rfl ?_ | refine Cont.go rfl ?_ | refine OrdP.go ?_)
  refine ⟨fun h => ?_, fun h => ?_⟩
  · have h : (i : Int) < (s.size : Int) := h
    have hin : i < s.size := by omega
    repeat (first | refine Ops.go ?_ | refine And.intro rfl ?_ | refine And.intro (Nat.le_of_ble_eq_true rfl) ?_ | refine And.intro (Int.natCast_nonneg _) ?_ | refine fun (_ : Nat) => ?_ | refine Ord.go ?_ | refine Run.go rfl ?_ | refine Cont.go rfl ?_ | refine OrdP.go ?_)
    refine ⟨hin, ?_⟩
    repeat (first | refine Ops.go ?_ | refine And.intro rfl ?_ | refine And.intro (Nat.le_of_ble_eq_true rfl) ?_ | refine And.intro (Int.natCast_nonneg _) ?_ | refine fun (_ : Nat) => ?_ | refine Ord.go ?_ | refine Run.go rfl ?_ | refine Cont.go rfl ?_ | refine OrdP.go ?_)
    have hbad : nameByte s[i].toNat = false → isNameB s = false := fun hb => by
      rw [Bool.eq_false_iff]
      intro e
      unfold isNameB at e
      simp only [Bool.and_eq_true] at e
      have := (byte_all s _).1 e.2 i hin
      rw [hb] at this
      cases this
    refine ⟨fun hc => ?_, fun hc => ?_⟩
    · have hc : (128 : Int) ≤ (s[i].toNat : Int) := hc
      repeat (first | refine Ops.go ?_ | refine And.intro rfl ?_ | refine And.intro (Nat.le_of_ble_eq_true rfl) ?_ | refine And.intro (Int.natCast_nonneg _) ?_ | refine fun (_ : Nat) => ?_ | refine Ord.go ?_ | refine Run.go rfl ?_ | refine Cont.go rfl ?_ | refine OrdP.go ?_)
      exact ⟨_, [], FinOk.drop _ _, congrArg AV.bool (show false = _ by
        refine (hbad ?_).symm
        cases hb : nameByte s[i].toNat with
        | false => rfl
        | true => have := nameByte_lt hb; omega), rfl⟩
    · have hc : ¬ (128 : Int) ≤ (s[i].toNat : Int) := hc
      repeat (first | refine Ops.go ?_ | refine And.intro rfl ?_ | refine And.intro (Nat.le_of_ble_eq_true rfl) ?_ | refine And.intro (Int.natCast_nonneg _) ?_ | refine fun (_ : Nat) => ?_ | refine Ord.go ?_ | refine Run.go rfl ?_ | refine Cont.go rfl ?_ | refine OrdP.go ?_)
      refine ⟨hin, ?_⟩
      repeat (first | refine Ops.go ?_ | refine And.intro rfl ?_ | refine And.intro (Nat.le_of_ble_eq_true rfl) ?_ | refine And.intro (Int.natCast_nonneg _) ?_ | refine fun (_ : Nat) => ?_ | refine Ord.go ?_ | refine Run.go rfl ?_ | refine Cont.go rfl ?_ | refine OrdP.go ?_)
      refine ⟨show (s[i].toNat : Int) < ((128 : Nat) : Int) by omega, _, tab_at s[i].toNat (by omega), ?_⟩
      repeat (first | refine Ops.go ?_ | refine And.intro rfl ?_ | refine And.intro (Nat.le_of_ble_eq_true rfl) ?_ | refine And.intro (Int.natCast_nonneg _) ?_ | refine fun (_ : Nat) => ?_ | refine Ord.go ?_ | refine Run.go rfl ?_ | refine Cont.go rfl ?_ | refine OrdP.go ?_)
      cases hb : nameByte s[i].toNat with
      | false =>
        refine ⟨fun _ => ?_, fun hh => absurd rfl hh⟩
        repeat (first | refine Ops.go ?_ | refine And.intro rfl ?_ | refine And.intro (Nat.le_of_ble_eq_true rfl) ?_ | refine And.intro (Int.natCast_nonneg _) ?_ | refine fun (_ : Nat) => ?_ | refine Ord.go ?_ | refine Run.go rfl ?_ | refine Cont.go rfl ?_ | refine OrdP.go ?_)
        exact ⟨_, [], FinOk.drop _ _, congrArg AV.bool (show false = _ from (hbad hb).symm), rfl⟩
      | true =>
        refine ⟨fun hh => absurd hh (by decide), fun _ => ?_⟩
        repeat (first | refine Ops.go ?_ | refine And.intro rfl ?_ | refine And.intro (Nat.le_of_ble_eq_true rfl) ?_ | refine And.intro (Int.natCast_nonneg _) ?_ | refine fun (_ : Nat) => ?_ | refine Ord.go ?_ | refine Run.go rfl ?_ | refine Cont.go rfl ?_ | refine OrdP.go ?_)
        refine fun r hr => ?_
        obtain rfl := add1 hr (by omega)
        repeat (first | refine Ops.go ?_ | refine And.intro rfl ?_ | refine And.intro (Nat.le_of_ble_eq_true rfl) ?_ | refine And.intro (Int.natCast_nonneg _) ?_ | refine fun (_ : Nat) => ?_ | refine Ord.go ?_ | refine Run.go rfl ?_ | refine Cont.go rfl ?_ | refine OrdP.go ?_)
        refine Cont.lp ?_
        refine ⟨s.size - (i + 1), [.str s, .junk, .junk, .junk, .junk, .junk, .junk, .junk, .junk, .junk, .junk, .junk, .junk, .junk, .junk, .junk, .junk, .junk, .junk, .junk, .int .i64 s.size, .int .i64 (i + 1 : Nat), .junk, .junk, .junk, .junk, .junk, .junk, .junk, .junk, .junk, .junk, .junk, .junk, .junk, .junk, .junk], 99, by omega, ?_, ⟨i + 1, rfl, by omega, ?_, rfl, rfl⟩⟩
        · repeat (first | exact trivial | refine ⟨.inl rfl, ?_⟩ | refine ⟨.inr rfl, ?_⟩)
        · intro j hj hji
          by_cases e : j = i
          · subst e; exact hb
          · exact hP j hj (by omega)
  · have h : ¬ (i : Int) < (s.size : Int) := h
    repeat (first | refine Ops.go ?_ | refine And.intro rfl ?_ | refine And.intro (Nat.le_of_ble_eq_true rfl) ?_ | refine And.intro (Int.natCast_nonneg _) ?_ | refine fun (_ : Nat) => ?_ | refine Ord.go ?_ | refine Run.go rfl ?_ | refine Cont.go rfl ?_ | refine OrdP.go ?_)
    exact ⟨_, [], FinOk.drop _ _, congrArg AV.bool (show true = _ by
      symm
      unfold isNameB
      simp only [Bool.and_eq_true, decide_eq_true_eq]
      exact ⟨⟨⟨⟨h0, h1⟩, h2⟩, h3⟩, (byte_all s _).2 fun j hj => hP j hj (by omega)⟩), rfl⟩

/-- Which of two places comes first. -/
def orderL : List UInt8 → List UInt8 → Int
  | [], [] => 0
  | [], _ :: _ => -1
  | _ :: _, [] => 1
  | x :: a, y :: b => if rank x < rank y then -1 else if rank y < rank x then 1 else orderL a b
abbrev orderB (a b : ByteArray) : Int := orderL a.data.toList b.data.toList
theorem orderL_at {a b : List UInt8} {n : Nat} (hn : n ≤ a.length) (hm : n ≤ b.length) (h : ∀ j (h1 : j < a.length) (h2 : j < b.length), j < n → rank a[j] = rank b[j]) : orderL a b = orderL (a.drop n) (b.drop n) := by
  induction n generalizing a b with
  | zero => rfl
  | succ n ih =>
    match a, b with
    | x :: a, y :: b =>
      have h0 := h 0 (by simp) (by simp) (by omega)
      simp only [List.getElem_cons_zero] at h0
      simp only [orderL, h0, Int.lt_irrefl, if_false, List.drop_succ_cons]
      exact ih (by simpa using hn) (by simpa using hm) (fun j h1 h2 hj => by
        have := h (j + 1) (by simpa using h1) (by simpa using h2) (by omega)
        simpa using this)
theorem byte_at (s : ByteArray) (i : Nat) (h : i < s.size) : s.data.toList.drop i = s[i] :: s.data.toList.drop (i + 1) := by
  have hi' : i < s.data.toList.length := by rw [Array.length_toList]; exact h
  rw [List.drop_eq_getElem_cons hi', Array.getElem_toList]
  rfl

theorem order_spec (a b : ByteArray) (ha : a.size ≤ 9223372036854775807) : FnSpec C 38 [.str a, .str b] [] (fun r L' => r = .int .i64 (orderB a b) ∧ L' = []) := by
  refine FnSpec.start C_ok Tryd.func38 rfl rfl Tryd.ntmps38 ?_
  repeat (first | refine Ops.go ?_ | refine And.intro rfl ?_ | refine And.intro (Nat.le_of_ble_eq_true rfl) ?_ | refine And.intro (Int.natCast_nonneg _) ?_ | refine fun (_ : Nat) => ?_ | refine Ord.go ?_ | refine Run.go rfl ?_ | refine Cont.go rfl ?_ | refine OrdP.go ?_)
  refine fun m hm => ?_
  obtain ⟨n, rfl, hna, hnb, hnn⟩ : ∃ n : Nat, m = n ∧ n ≤ a.size ∧ n ≤ b.size ∧ (n = a.size ∨ n = b.size) := by
    refine ⟨min a.size b.size, ?_, by omega, by omega, by omega⟩
    rw [hm]
    split <;> omega
  repeat (first | refine Ops.go ?_ | refine And.intro rfl ?_ | refine And.intro (Nat.le_of_ble_eq_true rfl) ?_ | refine And.intro (Int.natCast_nonneg _) ?_ | refine fun (_ : Nat) => ?_ | refine Ord.go ?_ | refine Run.go rfl ?_ | refine Cont.go rfl ?_ | refine OrdP.go ?_)
  have hla : a.data.toList.length = a.size := by rw [Array.length_toList]; rfl
  have hlb : b.data.toList.length = b.size := by rw [Array.length_toList]; rfl
  refine Run.loop (fun k env L => ∃ i : Nat, k = n - i ∧ i ≤ n ∧ (orderB a b = orderL (a.data.toList.drop i) (b.data.toList.drop i)) ∧ env = [.str a, .str b, .junk, .junk, .junk, .junk, .junk, .junk, .junk, .junk, .junk, .junk, .int .i64 n, .int .i64 i, .junk, .junk, .junk, .junk, .junk, .junk, .junk, .junk, .junk, .junk, .junk, .junk, .junk, .junk, .junk, .junk, .junk, .junk, .junk, .junk, .junk, .junk, .junk, .junk, .junk, .junk, .junk, .junk, .junk] ∧ L = []) n [.str a, .str b, .junk, .junk, .junk, .junk, .junk, .junk, .junk, .junk, .junk, .junk, .int .i64 n, .int .i64 0, .junk, .junk, .junk, .junk, .junk, .junk, .junk, .junk, .junk, .junk, .junk, .junk, .junk, .junk, .junk, .junk, .junk, .junk, .junk, .junk, .junk, .junk, .junk, .junk, .junk, .junk, .junk, .junk, .junk] ?_ ⟨0, by omega, by omega, rfl, rfl, rfl⟩ ?_
  · repeat (first | exact trivial | refine ⟨.inl rfl, ?_⟩ | refine ⟨.inr rfl, ?_⟩)
  rintro k env L ⟨i, rfl, hi, hP, rfl, rfl⟩
  repeat (first | refine Ops.go ?_ | refine And.intro rfl ?_ | refine And.intro (Nat.le_of_ble_eq_true rfl) ?_ | refine And.intro (Int.natCast_nonneg _) ?_ | refine fun (_ : Nat) => ?_ | refine Ord.go ?_ | refine Run.go rfl ?_ | refine Cont.go rfl ?_ | refine OrdP.go ?_)
  refine ⟨fun h => ?_, fun h => ?_⟩
  · have h : (i : Int) < (n : Int) := h
    have hin : i < n := by omega
    have hia : i < a.size := by omega
    have hib : i < b.size := by omega
    have e1 := byte_at a i hia
    have e2 := byte_at b i hib
    repeat (first | refine Ops.go ?_ | refine And.intro rfl ?_ | refine And.intro (Nat.le_of_ble_eq_true rfl) ?_ | refine And.intro (Int.natCast_nonneg _) ?_ | refine fun (_ : Nat) => ?_ | refine Ord.go ?_ | refine Run.go rfl ?_ | refine Cont.go rfl ?_ | refine OrdP.go ?_)
    refine Run.drawn true [0, 1, 2, 4, 5, 6, 3, 7, 8, 9] (by kernel_rfl) ?_
    repeat (first | refine Ops.go ?_ | refine And.intro rfl ?_ | refine And.intro (Nat.le_of_ble_eq_true rfl) ?_ | refine And.intro (Int.natCast_nonneg _) ?_ | refine fun (_ : Nat) => ?_ | refine Ord.go ?_ | refine Run.go rfl ?_ | refine Cont.go rfl ?_ | refine OrdP.go ?_)
    refine ⟨hia, ?_⟩
    repeat (first | refine Ops.go ?_ | refine And.intro rfl ?_ | refine And.intro (Nat.le_of_ble_eq_true rfl) ?_ | refine And.intro (Int.natCast_nonneg _) ?_ | refine fun (_ : Nat) => ?_ | refine Ord.go ?_ | refine Run.go rfl ?_ | refine Cont.go rfl ?_ | refine OrdP.go ?_)
    refine ⟨hib, ?_⟩
    repeat (first | refine Ops.go ?_ | refine And.intro rfl ?_ | refine And.intro (Nat.le_of_ble_eq_true rfl) ?_ | refine And.intro (Int.natCast_nonneg _) ?_ | refine fun (_ : Nat) => ?_ | refine Ord.go ?_ | refine Run.go rfl ?_ | refine Cont.go rfl ?_ | refine OrdP.go ?_)
    refine ACallQ.ret (weight_spec a[i]) ?_
    repeat (first | refine Ops.go ?_ | refine And.intro rfl ?_ | refine And.intro (Nat.le_of_ble_eq_true rfl) ?_ | refine And.intro (Int.natCast_nonneg _) ?_ | refine fun (_ : Nat) => ?_ | refine Ord.go ?_ | refine Run.go rfl ?_ | refine Cont.go rfl ?_ | refine OrdP.go ?_)
    refine ACallQ.ret (weight_spec b[i]) ?_
    repeat (first | refine Ops.go ?_ | refine And.intro rfl ?_ | refine And.intro (Nat.le_of_ble_eq_true rfl) ?_ | refine And.intro (Int.natCast_nonneg _) ?_ | refine fun (_ : Nat) => ?_ | refine Ord.go ?_ | refine Run.go rfl ?_ | refine Cont.go rfl ?_ | refine OrdP.go ?_)
    refine ⟨fun hl => ?_, fun hl => ?_⟩
    · have hl : rank a[i] < rank b[i] := hl
      repeat (first | refine Ops.go ?_ | refine And.intro rfl ?_ | refine And.intro (Nat.le_of_ble_eq_true rfl) ?_ | refine And.intro (Int.natCast_nonneg _) ?_ | refine fun (_ : Nat) => ?_ | refine Ord.go ?_ | refine Run.go rfl ?_ | refine Cont.go rfl ?_ | refine OrdP.go ?_)
      exact ⟨_, [], FinOk.drop _ _, congrArg (AV.int .i64) (show (-1 : Int) = _ by rw [hP, e1, e2]; simp only [orderL, hl, if_true]), rfl⟩
    · have hl : ¬ rank a[i] < rank b[i] := hl
      repeat (first | refine Ops.go ?_ | refine And.intro rfl ?_ | refine And.intro (Nat.le_of_ble_eq_true rfl) ?_ | refine And.intro (Int.natCast_nonneg _) ?_ | refine fun (_ : Nat) => ?_ | refine Ord.go ?_ | refine Run.go rfl ?_ | refine Cont.go rfl ?_ | refine OrdP.go ?_)
      refine ⟨fun hg => ?_, fun hg => ?_⟩
      · have hg : rank b[i] < rank a[i] := hg
        repeat (first | refine Ops.go ?_ | refine And.intro rfl ?_ | refine And.intro (Nat.le_of_ble_eq_true rfl) ?_ | refine And.intro (Int.natCast_nonneg _) ?_ | refine fun (_ : Nat) => ?_ | refine Ord.go ?_ | refine Run.go rfl ?_ | refine Cont.go rfl ?_ | refine OrdP.go ?_)
        exact ⟨_, [], FinOk.drop _ _, congrArg (AV.int .i64) (show (1 : Int) = _ by rw [hP, e1, e2]; simp only [orderL, hl, hg, if_true, if_false]), rfl⟩
      · have hg : ¬ rank b[i] < rank a[i] := hg
        repeat (first | refine Ops.go ?_ | refine And.intro rfl ?_ | refine And.intro (Nat.le_of_ble_eq_true rfl) ?_ | refine And.intro (Int.natCast_nonneg _) ?_ | refine fun (_ : Nat) => ?_ | refine Ord.go ?_ | refine Run.go rfl ?_ | refine Cont.go rfl ?_ | refine OrdP.go ?_)
        refine fun r hr => ?_
        obtain rfl := add1 hr (by omega)
        repeat (first | refine Ops.go ?_ | refine And.intro rfl ?_ | refine And.intro (Nat.le_of_ble_eq_true rfl) ?_ | refine And.intro (Int.natCast_nonneg _) ?_ | refine fun (_ : Nat) => ?_ | refine Ord.go ?_ | refine Run.go rfl ?_ | refine Cont.go rfl ?_ | refine OrdP.go ?_)
        refine Cont.lp ?_
        refine ⟨n - (i + 1), [.str a, .str b, .junk, .junk, .junk, .junk, .junk, .junk, .junk, .junk, .junk, .junk, .int .i64 n, .int .i64 (i + 1 : Nat), .junk, .junk, .junk, .junk, .junk, .junk, .junk, .junk, .junk, .junk, .junk, .junk, .junk, .junk, .junk, .junk, .junk, .junk, .junk, .junk, .junk, .junk, .junk, .junk, .junk, .junk, .junk, .junk, .junk], 99, by omega, ?_, ⟨i + 1, rfl, by omega, ?_, rfl, rfl⟩⟩
        · repeat (first | exact trivial | refine ⟨.inl rfl, ?_⟩ | refine ⟨.inr rfl, ?_⟩)
        · rw [hP, e1, e2]; simp only [orderL, hl, hg, if_false]
  · have h : ¬ (i : Int) < (n : Int) := h
    have hin : i = n := by omega
    subst hin
    have fin : orderB a b = if (a.size : Int) < b.size then -1 else if (b.size : Int) < a.size then 1 else 0 := by
      rw [hP]
      rcases hnn with e | e
      · rw [List.drop_of_length_le (l := a.data.toList) (by omega)]
        by_cases hab : a.size < b.size
        · rw [byte_at b i (by omega), if_pos (by omega)]; rfl
        · rw [List.drop_of_length_le (l := b.data.toList) (by omega), if_neg (by omega), if_neg (by omega)]; rfl
      · rw [List.drop_of_length_le (l := b.data.toList) (by omega)]
        by_cases hab : b.size < a.size
        · rw [byte_at a i (by omega), if_neg (by omega), if_pos (by omega)]; rfl
        · rw [List.drop_of_length_le (l := a.data.toList) (by omega), if_neg (by omega), if_neg (by omega)]; rfl
    repeat (first | refine Ops.go ?_ | refine And.intro rfl ?_ | refine And.intro (Nat.le_of_ble_eq_true rfl) ?_ | refine And.intro (Int.natCast_nonneg _) ?_ | refine fun (_ : Nat) => ?_ | refine Ord.go ?_ | refine Run.go rfl ?_ | refine Cont.go rfl ?_ | refine OrdP.go ?_)
    refine ⟨fun h => ?_, fun h => ?_⟩
    · have h : (a.size : Int) < (b.size : Int) := h
      repeat (first | refine Ops.go ?_ | refine And.intro rfl ?_ | refine And.intro (Nat.le_of_ble_eq_true rfl) ?_ | refine And.intro (Int.natCast_nonneg _) ?_ | refine fun (_ : Nat) => ?_ | refine Ord.go ?_ | refine Run.go rfl ?_ | refine Cont.go rfl ?_ | refine OrdP.go ?_)
      exact ⟨_, [], FinOk.drop _ _, congrArg (AV.int .i64) (show (-1 : Int) = _ by rw [fin, if_pos h]), rfl⟩
    · have h : ¬ (a.size : Int) < (b.size : Int) := h
      repeat (first | refine Ops.go ?_ | refine And.intro rfl ?_ | refine And.intro (Nat.le_of_ble_eq_true rfl) ?_ | refine And.intro (Int.natCast_nonneg _) ?_ | refine fun (_ : Nat) => ?_ | refine Ord.go ?_ | refine Run.go rfl ?_ | refine Cont.go rfl ?_ | refine OrdP.go ?_)
      refine ⟨fun h2 => ?_, fun h2 => ?_⟩
      · have h2 : (b.size : Int) < (a.size : Int) := h2
        repeat (first | refine Ops.go ?_ | refine And.intro rfl ?_ | refine And.intro (Nat.le_of_ble_eq_true rfl) ?_ | refine And.intro (Int.natCast_nonneg _) ?_ | refine fun (_ : Nat) => ?_ | refine Ord.go ?_ | refine Run.go rfl ?_ | refine Cont.go rfl ?_ | refine OrdP.go ?_)
        exact ⟨_, [], FinOk.drop _ _, congrArg (AV.int .i64) (show (1 : Int) = _ by rw [fin, if_neg h, if_pos h2]), rfl⟩
      · have h2 : ¬ (b.size : Int) < (a.size : Int) := h2
        repeat (first | refine Ops.go ?_ | refine And.intro rfl ?_ | refine And.intro (Nat.le_of_ble_eq_true rfl) ?_ | refine And.intro (Int.natCast_nonneg _) ?_ | refine fun (_ : Nat) => ?_ | refine Ord.go ?_ | refine Run.go rfl ?_ | refine Cont.go rfl ?_ | refine OrdP.go ?_)
        exact ⟨_, [], FinOk.drop _ _, congrArg (AV.int .i64) (show (0 : Int) = _ by rw [fin, if_neg h, if_neg h2]), rfl⟩

end Go.Proofs.YtfohedaadncefaaDoor.HBT
/- The contracts of the program's own texts on names and places, part two: Parse. -/
namespace Go.Proofs.YtfohedaadncefaaDoor.HBT
open Go Go.Proofs.YtfohedaadncefaaDoor.HB Go.RowKit
set_option maxRecDepth 8000

def slash : ByteArray := ⟨#[47]⟩
def begins47 (s : ByteArray) : Bool := Lib.hasPrefix s.data.toList [47]
/-- What a text holds behind its first slash, cut. -/
def cutB (s : ByteArray) : List ByteArray := pieces (s.extract 1 s.size)
/-- The code that Parse answers. -/
def parseE (s : ByteArray) : Int :=
  if 102 < s.size then 2 else if s = slash then 0 else if begins47 s = false then 10 else if 6 < (cutB s).length then 10 else if (cutB s).all isNameB then 0 else 10
def namesOf (s : ByteArray) : List ByteArray := if s = slash then [] else cutB s

def ParseQ (s : ByteArray) (r : AV) (L' : AHeap) : Prop :=
  (parseE s ≠ 0 ∧ r = .tuple [.nils, .int .i64 (parseE s)] ∧ L' = []) ∨ (parseE s = 0 ∧ namesOf s = [] ∧ r = .tuple [.nils, .int .i64 0] ∧ L' = []) ∨
  (parseE s = 0 ∧ (namesOf s).length ≤ 6 ∧ ∃ g, r = .tuple [.sl 0 g (namesOf s).length (namesOf s).length, .int .i64 0] ∧ L' = [(g, .row 9 1 (namesOf s).length ((namesOf s).map .str))])

theorem hasPrefix_size {l : List UInt8} (h : Lib.hasPrefix l [47] = true) : 1 ≤ l.length := by
  cases l with
  | nil => cases h
  | cons => simp

theorem parse_spec (s : ByteArray) : FnSpec C 60 [.str s] [] (ParseQ s) := by
  refine FnSpec.start C_ok Tryd.func60 rfl rfl Tryd.ntmps60 ?_
  repeat (first | refine Ops.go ?_ | refine And.intro rfl ?_ | refine And.intro (Nat.le_of_ble_eq_true rfl) ?_ | refine And.intro (Int.natCast_nonneg _) ?_ | refine fun (_ : Nat) => ?_ | refine Ord.go ?_ | refine Run.go rfl ?_ | refine Cont.go rfl ?_ | refine OrdP.go ?_)
  refine ⟨fun h => ?_, fun h => ?_⟩
  case' refine_1 =>
    have h : (102 : Int) < (s.size : Int) := h
    have e : parseE s = 2 := by unfold parseE; rw [if_pos (by omega)]
    repeat (first | refine Ops.go ?_ | refine And.intro rfl ?_ | refine And.intro (Nat.le_of_ble_eq_true rfl) ?_ | refine And.intro (Int.natCast_nonneg _) ?_ | refine fun (_ : Nat) => ?_ | refine Ord.go ?_ | refine Run.go rfl ?_ | refine Cont.go rfl ?_ | refine OrdP.go ?_)
    exact ⟨_, [], FinOk.drop _ _, .inl ⟨by rw [e]; decide, by rw [e]; rfl, rfl⟩⟩
  have h : ¬ (102 : Int) < (s.size : Int) := h
  have h1 : ¬ 102 < s.size := by omega
  repeat (first | refine Ops.go ?_ | refine And.intro rfl ?_ | refine And.intro (Nat.le_of_ble_eq_true rfl) ?_ | refine And.intro (Int.natCast_nonneg _) ?_ | refine fun (_ : Nat) => ?_ | refine Ord.go ?_ | refine Run.go rfl ?_ | refine Cont.go rfl ?_ | refine OrdP.go ?_)
  refine ⟨fun h => ?_, fun h => ?_⟩
  case' refine_1 =>
    have h : s = slash := h
    repeat (first | refine Ops.go ?_ | refine And.intro rfl ?_ | refine And.intro (Nat.le_of_ble_eq_true rfl) ?_ | refine And.intro (Int.natCast_nonneg _) ?_ | refine fun (_ : Nat) => ?_ | refine Ord.go ?_ | refine Run.go rfl ?_ | refine Cont.go rfl ?_ | refine OrdP.go ?_)
    exact ⟨_, [], FinOk.drop _ _, .inr (.inl ⟨by unfold parseE; rw [if_neg h1, if_pos h], by unfold namesOf; rw [if_pos h], rfl, rfl⟩)⟩
  have h2 : ¬ s = slash := h
  have hp := hasPrefix_spec s slash []
  cases hb : begins47 s with
  | false =>
    rw [show Lib.hasPrefix s.data.toList slash.data.toList = false from hb] at hp
    repeat (first | refine Ops.go ?_ | refine And.intro rfl ?_ | refine And.intro (Nat.le_of_ble_eq_true rfl) ?_ | refine And.intro (Int.natCast_nonneg _) ?_ | refine fun (_ : Nat) => ?_ | refine Ord.go ?_ | refine Run.go rfl ?_ | refine Cont.go rfl ?_ | refine OrdP.go ?_)
    refine ACall.ret hp ?_
    repeat (first | refine Ops.go ?_ | refine And.intro rfl ?_ | refine And.intro (Nat.le_of_ble_eq_true rfl) ?_ | refine And.intro (Int.natCast_nonneg _) ?_ | refine fun (_ : Nat) => ?_ | refine Ord.go ?_ | refine Run.go rfl ?_ | refine Cont.go rfl ?_ | refine OrdP.go ?_)
    have e : parseE s = 10 := by unfold parseE; rw [if_neg h1, if_neg h2, if_pos hb]
    exact ⟨_, [], FinOk.drop _ _, .inl ⟨by rw [e]; decide, by rw [e]; rfl, rfl⟩⟩
  | true =>
    rw [show Lib.hasPrefix s.data.toList slash.data.toList = true from hb] at hp
    repeat (first | refine Ops.go ?_ | refine And.intro rfl ?_ | refine And.intro (Nat.le_of_ble_eq_true rfl) ?_ | refine And.intro (Int.natCast_nonneg _) ?_ | refine fun (_ : Nat) => ?_ | refine Ord.go ?_ | refine Run.go rfl ?_ | refine Cont.go rfl ?_ | refine OrdP.go ?_)
    refine ACall.ret hp ?_
    repeat (first | refine Ops.go ?_ | refine And.intro rfl ?_ | refine And.intro (Nat.le_of_ble_eq_true rfl) ?_ | refine And.intro (Int.natCast_nonneg _) ?_ | refine fun (_ : Nat) => ?_ | refine Ord.go ?_ | refine Run.go rfl ?_ | refine Cont.go rfl ?_ | refine OrdP.go ?_)
    have hs1 : 1 ≤ s.size := by have := hasPrefix_size hb; rw [Array.length_toList] at this; exact this
    refine ⟨show (1 : Int) ≤ (s.size : Int) by omega, Int.le_refl _, ?_⟩
    repeat (first | refine Ops.go ?_ | refine And.intro rfl ?_ | refine And.intro (Nat.le_of_ble_eq_true rfl) ?_ | refine And.intro (Int.natCast_nonneg _) ?_ | refine fun (_ : Nat) => ?_ | refine Ord.go ?_ | refine Run.go rfl ?_ | refine Cont.go rfl ?_ | refine OrdP.go ?_)
    refine ACall.pure _ (split_spec (s.extract 1 s.size) (by rw [ByteArray.size_extract]; omega)) ?_
    rintro r L' ⟨g, rfl, rfl⟩
    refine ⟨_, Sub.refl _, ?_⟩
    repeat (first | refine Ops.go ?_ | refine And.intro rfl ?_ | refine And.intro (Nat.le_of_ble_eq_true rfl) ?_ | refine And.intro (Int.natCast_nonneg _) ?_ | refine fun (_ : Nat) => ?_ | refine Ord.go ?_ | refine Run.go rfl ?_ | refine Cont.go rfl ?_ | refine OrdP.go ?_)
    have ed : pieces (s.extract 1 s.size) = cutB s := rfl
    rw [ed]
    refine ⟨fun h => ?_, fun h => ?_⟩
    case' refine_1 =>
      have h : (6 : Int) < ((cutB s).length : Int) := h
      have e : parseE s = 10 := by unfold parseE; rw [if_neg h1, if_neg h2, if_neg (by rw [hb]; decide), if_pos (by omega)]
      repeat (first | refine Ops.go ?_ | refine And.intro rfl ?_ | refine And.intro (Nat.le_of_ble_eq_true rfl) ?_ | refine And.intro (Int.natCast_nonneg _) ?_ | refine fun (_ : Nat) => ?_ | refine Ord.go ?_ | refine Run.go rfl ?_ | refine Cont.go rfl ?_ | refine OrdP.go ?_)
      exact ⟨_, [], FinOk.drop _ _, .inl ⟨by rw [e]; decide, by rw [e]; rfl, rfl⟩⟩
    have h : ¬ (6 : Int) < ((cutB s).length : Int) := h
    have h3 : ¬ 6 < (cutB s).length := by omega
    repeat (first | refine Ops.go ?_ | refine And.intro rfl ?_ | refine And.intro (Nat.le_of_ble_eq_true rfl) ?_ | refine And.intro (Int.natCast_nonneg _) ?_ | refine fun (_ : Nat) => ?_ | refine Ord.go ?_ | refine Run.go rfl ?_ | refine Cont.go rfl ?_ | refine OrdP.go ?_)
    generalize hl : cutB s = l at h3 ⊢
    refine Run.loop (fun k env L => ∃ i : Nat, k = l.length - i ∧ i ≤ l.length ∧ (∀ (j : Nat) (x : ByteArray), l[j]? = some x → j < i → isNameB x = true) ∧
        env = [.junk, .junk, .junk, .junk, .sl 0 g l.length l.length, .junk, .junk, .junk, .junk, .junk, .junk, .junk, .junk, .junk, .junk, .junk, .junk, .junk, .junk, .junk, .junk, .sl 0 g l.length l.length, .int .i64 l.length, .int .i64 i, .junk, .junk, .junk, .junk, .junk, .junk, .junk, .junk] ∧ L = [(g, .row 9 1 l.length (l.map .str))]) l.length
      [.junk, .junk, .junk, .junk, .sl 0 g l.length l.length, .junk, .junk, .junk, .junk, .junk, .junk, .junk, .junk, .junk, .junk, .junk, .junk, .junk, .junk, .junk, .junk, .sl 0 g l.length l.length, .int .i64 l.length, .int .i64 0, .junk, .junk, .junk, .junk, .junk, .junk, .junk, .junk] ?_ ⟨0, by omega, by omega, (fun j _ _ hj => absurd hj (Nat.not_lt_zero j)), rfl, rfl⟩ ?_
    · repeat (first | exact trivial | refine ⟨.inl rfl, ?_⟩ | refine ⟨.inr rfl, ?_⟩)
    rintro k env L ⟨i, rfl, hi, hP, rfl, rfl⟩
    repeat (first | refine Ops.go ?_ | refine And.intro rfl ?_ | refine And.intro (Nat.le_of_ble_eq_true rfl) ?_ | refine And.intro (Int.natCast_nonneg _) ?_ | refine fun (_ : Nat) => ?_ | refine Ord.go ?_ | refine Run.go rfl ?_ | refine Cont.go rfl ?_ | refine OrdP.go ?_)
    refine ⟨fun h => ?_, fun h => ?_⟩
    · have h : (i : Int) < (l.length : Int) := h
      have hin : i < l.length := by omega
      obtain ⟨x, ex⟩ : ∃ x, l[i]? = some x := ⟨l[i], List.getElem?_eq_getElem hin⟩
      have ex' : (l.map AV.str)[i]? = some (.str x) := by rw [List.getElem?_map, ex]; rfl
      have hn := isName_spec x
      repeat (first | refine Ops.go ?_ | refine And.intro rfl ?_ | refine And.intro (Nat.le_of_ble_eq_true rfl) ?_ | refine And.intro (Int.natCast_nonneg _) ?_ | refine fun (_ : Nat) => ?_ | refine Ord.go ?_ | refine Run.go rfl ?_ | refine Cont.go rfl ?_ | refine OrdP.go ?_)
      refine ⟨h, ?_⟩
      repeat (first | refine Ops.go ?_ | refine And.intro rfl ?_ | refine And.intro (Nat.le_of_ble_eq_true rfl) ?_ | refine And.intro (Int.natCast_nonneg _) ?_ | refine fun (_ : Nat) => ?_ | refine Ord.go ?_ | refine Run.go rfl ?_ | refine Cont.go rfl ?_ | refine OrdP.go ?_)
      refine ⟨_, ex', ?_⟩
      repeat (first | refine Ops.go ?_ | refine And.intro rfl ?_ | refine And.intro (Nat.le_of_ble_eq_true rfl) ?_ | refine And.intro (Int.natCast_nonneg _) ?_ | refine fun (_ : Nat) => ?_ | refine Ord.go ?_ | refine Run.go rfl ?_ | refine Cont.go rfl ?_ | refine OrdP.go ?_)
      cases hx : isNameB x with
      | false =>
        rw [hx] at hn
        refine ACall.ret hn ?_
        repeat (first | refine Ops.go ?_ | refine And.intro rfl ?_ | refine And.intro (Nat.le_of_ble_eq_true rfl) ?_ | refine And.intro (Int.natCast_nonneg _) ?_ | refine fun (_ : Nat) => ?_ | refine Ord.go ?_ | refine Run.go rfl ?_ | refine Cont.go rfl ?_ | refine OrdP.go ?_)
        have e : parseE s = 10 := by
          have : l.all isNameB = false := by
            rw [Bool.eq_false_iff]
            intro e
            rw [List.all_eq_true] at e
            have := e x (List.mem_of_getElem? ex)
            rw [hx] at this
            cases this
          unfold parseE
          rw [hl, if_neg h1, if_neg h2, if_neg (by rw [hb]; decide), if_neg h3, this]
          rfl
        exact ⟨_, [], FinOk.drop _ _, .inl ⟨by rw [e]; decide, by rw [e]; rfl, rfl⟩⟩
      | true =>
        rw [hx] at hn
        refine ACall.ret hn ?_
        repeat (first | refine Ops.go ?_ | refine And.intro rfl ?_ | refine And.intro (Nat.le_of_ble_eq_true rfl) ?_ | refine And.intro (Int.natCast_nonneg _) ?_ | refine fun (_ : Nat) => ?_ | refine Ord.go ?_ | refine Run.go rfl ?_ | refine Cont.go rfl ?_ | refine OrdP.go ?_)
        refine fun r hr => ?_
        obtain rfl := add1 hr (by omega)
        repeat (first | refine Ops.go ?_ | refine And.intro rfl ?_ | refine And.intro (Nat.le_of_ble_eq_true rfl) ?_ | refine And.intro (Int.natCast_nonneg _) ?_ | refine fun (_ : Nat) => ?_ | refine Ord.go ?_ | refine Run.go rfl ?_ | refine Cont.go rfl ?_ | refine OrdP.go ?_)
        refine Cont.lp ?_
        refine ⟨l.length - (i + 1), [.junk, .junk, .junk, .junk, .sl 0 g l.length l.length, .junk, .junk, .junk, .junk, .junk, .junk, .junk, .junk, .junk, .junk, .junk, .junk, .junk, .junk, .junk, .junk, .sl 0 g l.length l.length, .int .i64 l.length, .int .i64 (i + 1 : Nat), .junk, .junk, .junk, .junk, .junk, .junk, .junk, .junk], 99, by omega, ?_, ⟨i + 1, rfl, by omega, ?_, rfl, rfl⟩⟩
        · repeat (first | exact trivial | refine ⟨.inl rfl, ?_⟩ | refine ⟨.inr rfl, ?_⟩)
        · intro j y hj hji
          by_cases e : j = i
          · subst e; rw [ex] at hj; cases hj; exact hx
          · exact hP j y hj (by omega)
    · have h : ¬ (i : Int) < (l.length : Int) := h
      repeat (first | refine Ops.go ?_ | refine And.intro rfl ?_ | refine And.intro (Nat.le_of_ble_eq_true rfl) ?_ | refine And.intro (Int.natCast_nonneg _) ?_ | refine fun (_ : Nat) => ?_ | refine Ord.go ?_ | refine Run.go rfl ?_ | refine Cont.go rfl ?_ | refine OrdP.go ?_)
      have hall : l.all isNameB = true := by
        rw [List.all_eq_true]
        intro x hx
        obtain ⟨j, hj, rfl⟩ := List.mem_iff_getElem.1 hx
        exact hP j _ (List.getElem?_eq_getElem hj) (by omega)
      have e : parseE s = 0 := by
        unfold parseE
        rw [hl, if_neg h1, if_neg h2, if_neg (by rw [hb]; decide), if_neg h3, if_pos hall]
      have en : namesOf s = l := by unfold namesOf; rw [if_neg h2]; exact hl
      exact ⟨_, _, FinOk.refl _ _, .inr (.inr ⟨e, by rw [en]; omega, g, by rw [en]; rfl, by rw [en]⟩)⟩

end Go.Proofs.YtfohedaadncefaaDoor.HBT
/- The contracts of the program's own texts on names and places, part three: placed, Parent, isPlace. -/
namespace Go.Proofs.YtfohedaadncefaaDoor.HBT
open Go Go.Proofs.YtfohedaadncefaaDoor.HB Go.RowKit
set_option maxRecDepth 8000

def joinB (l : List ByteArray) : List UInt8 := Lib.join (l.map (·.data.toList)) [47]
/-- The place of names. -/
def placedB (l : List ByteArray) : ByteArray := slash ++ ⟨(joinB l).toArray⟩

theorem placed_spec (g Cp : Nat) (xs : List ByteArray) (n : Nat) (hn : n ≤ xs.length) (h100 : xs.length ≤ 1000) (hsz : (joinB (xs.take n)).length ≤ 100000) :
    FnSpec C 85 [.sl 0 g Cp n] [(g, .row 9 1 Cp (xs.map .str))] (fun r L' => r = .str (placedB (xs.take n)) ∧ L' = [(g, .row 9 1 Cp (xs.map .str))]) := by
  refine FnSpec.start C_ok Tryd.func85 rfl rfl Tryd.ntmps85 ?_
  repeat (first | refine Ops.go ?_ | refine And.intro rfl ?_ | refine And.intro (Nat.le_of_ble_eq_true rfl) ?_ | refine And.intro (Int.natCast_nonneg _) ?_ | refine fun (_ : Nat) => ?_ | refine Ord.go ?_ | refine Run.go rfl ?_ | refine Cont.go rfl ?_ | refine OrdP.go ?_)
  refine ACall.all _ (join_spec g Cp xs n hn h100 (by have : (joinB (xs.take n)).length ≤ 100000 := hsz; unfold joinB at this; omega)) ?_
  rintro r L' ⟨rfl, rfl⟩
  repeat (first | refine Ops.go ?_ | refine And.intro rfl ?_ | refine And.intro (Nat.le_of_ble_eq_true rfl) ?_ | refine And.intro (Int.natCast_nonneg _) ?_ | refine fun (_ : Nat) => ?_ | refine Ord.go ?_ | refine Run.go rfl ?_ | refine Cont.go rfl ?_ | refine OrdP.go ?_)
  refine ⟨show slash.size + (ByteArray.mk (joinB (xs.take n)).toArray).size ≤ 9223372036854775807 by
    have e : (ByteArray.mk (joinB (xs.take n)).toArray).size = (joinB (xs.take n)).length := by show (joinB (xs.take n)).toArray.size = _; simp
    have e2 : slash.size = 1 := rfl
    omega, ?_⟩
  repeat (first | refine Ops.go ?_ | refine And.intro rfl ?_ | refine And.intro (Nat.le_of_ble_eq_true rfl) ?_ | refine And.intro (Int.natCast_nonneg _) ?_ | refine fun (_ : Nat) => ?_ | refine Ord.go ?_ | refine Run.go rfl ?_ | refine Cont.go rfl ?_ | refine OrdP.go ?_)
  exact ⟨_, _, FinOk.refl _ _, rfl, rfl⟩

theorem isPlace_spec (s : ByteArray) : FnSpec C 29 [.str s] [] (fun r L' => r = .bool (decide (parseE s = 0)) ∧ L' = []) := by
  refine FnSpec.start C_ok Tryd.func29 rfl rfl Tryd.ntmps29 ?_
  repeat (first | refine Ops.go ?_ | refine And.intro rfl ?_ | refine And.intro (Nat.le_of_ble_eq_true rfl) ?_ | refine And.intro (Int.natCast_nonneg _) ?_ | refine fun (_ : Nat) => ?_ | refine Ord.go ?_ | refine Run.go rfl ?_ | refine Cont.go rfl ?_ | refine OrdP.go ?_)
  refine ACall.pure _ (parse_spec s) ?_
  rintro r L' (⟨h, rfl, rfl⟩ | ⟨h, _, rfl, rfl⟩ | ⟨h, _, g, rfl, rfl⟩)
  · refine ⟨_, Sub.refl _, ?_⟩
    repeat (first | refine Ops.go ?_ | refine And.intro rfl ?_ | refine And.intro (Nat.le_of_ble_eq_true rfl) ?_ | refine And.intro (Int.natCast_nonneg _) ?_ | refine fun (_ : Nat) => ?_ | refine Ord.go ?_ | refine Run.go rfl ?_ | refine Cont.go rfl ?_ | refine OrdP.go ?_)
    refine ⟨fun e => absurd e h, fun _ => ?_⟩
    repeat (first | refine Ops.go ?_ | refine And.intro rfl ?_ | refine And.intro (Nat.le_of_ble_eq_true rfl) ?_ | refine And.intro (Int.natCast_nonneg _) ?_ | refine fun (_ : Nat) => ?_ | refine Ord.go ?_ | refine Run.go rfl ?_ | refine Cont.go rfl ?_ | refine OrdP.go ?_)
    exact ⟨_, [], FinOk.drop _ _, congrArg AV.bool (show false = _ by simp [h]), rfl⟩
  · refine ⟨_, Sub.refl _, ?_⟩
    repeat (first | refine Ops.go ?_ | refine And.intro rfl ?_ | refine And.intro (Nat.le_of_ble_eq_true rfl) ?_ | refine And.intro (Int.natCast_nonneg _) ?_ | refine fun (_ : Nat) => ?_ | refine Ord.go ?_ | refine Run.go rfl ?_ | refine Cont.go rfl ?_ | refine OrdP.go ?_)
    refine ⟨fun _ => ?_, fun e => absurd rfl e⟩
    repeat (first | refine Ops.go ?_ | refine And.intro rfl ?_ | refine And.intro (Nat.le_of_ble_eq_true rfl) ?_ | refine And.intro (Int.natCast_nonneg _) ?_ | refine fun (_ : Nat) => ?_ | refine Ord.go ?_ | refine Run.go rfl ?_ | refine Cont.go rfl ?_ | refine OrdP.go ?_)
    exact ⟨_, [], FinOk.drop _ _, congrArg AV.bool (show true = _ by simp [h]), rfl⟩
  · refine ⟨_, Sub.refl _, ?_⟩
    repeat (first | refine Ops.go ?_ | refine And.intro rfl ?_ | refine And.intro (Nat.le_of_ble_eq_true rfl) ?_ | refine And.intro (Int.natCast_nonneg _) ?_ | refine fun (_ : Nat) => ?_ | refine Ord.go ?_ | refine Run.go rfl ?_ | refine Cont.go rfl ?_ | refine OrdP.go ?_)
    refine ⟨fun _ => ?_, fun e => absurd rfl e⟩
    repeat (first | refine Ops.go ?_ | refine And.intro rfl ?_ | refine And.intro (Nat.le_of_ble_eq_true rfl) ?_ | refine And.intro (Int.natCast_nonneg _) ?_ | refine fun (_ : Nat) => ?_ | refine Ord.go ?_ | refine Run.go rfl ?_ | refine Cont.go rfl ?_ | refine OrdP.go ?_)
    exact ⟨_, [], FinOk.drop _ _, congrArg AV.bool (show true = _ by simp [h]), rfl⟩

def parentE (s : ByteArray) : Int := if parseE s ≠ 0 then parseE s else if namesOf s = [] then 47 else 0
def parentB (s : ByteArray) : ByteArray := if parentE s ≠ 0 then ⟨#[]⟩ else placedB ((namesOf s).take ((namesOf s).length - 1))

theorem join_le : ∀ (l : List (List UInt8)) (n : Nat), (∀ x ∈ l, x.length ≤ n) → (Lib.join l [47]).length ≤ l.length * (n + 1)
  | [], _, _ => by simp [Lib.join]
  | [x], n, h => by have := h x (by simp); simp [Lib.join]; omega
  | x :: y :: l, n, h => by
    have h0 := h x (by simp)
    have ih := join_le (y :: l) n (fun z hz => h z (List.mem_cons_of_mem _ hz))
    have e : Lib.join (x :: y :: l) [47] = x ++ ([47] ++ Lib.join (y :: l) [47]) := by simp [Lib.join, List.intercalate, List.intersperse]
    have e3 : (x :: y :: l).length * (n + 1) = (y :: l).length * (n + 1) + (n + 1) := by rw [List.length_cons, Nat.succ_mul]
    rw [e, List.length_append, List.length_append, e3]
    have : ([47] : List UInt8).length = 1 := rfl
    omega
theorem names_ok {s : ByteArray} (h : parseE s = 0) : (namesOf s).length ≤ 6 ∧ ∀ x ∈ namesOf s, isNameB x = true := by
  unfold parseE at h
  unfold namesOf
  split at h
  · cases h
  split at h
  · rename_i e; rw [if_pos e]; exact ⟨by simp, by simp⟩
  rename_i e
  rw [if_neg e]
  split at h
  · cases h
  split at h
  · cases h
  split at h
  · rename_i hall; exact ⟨by omega, fun x hx => (List.all_eq_true.1 hall) x hx⟩
  · cases h
theorem isNameB_size {x : ByteArray} (h : isNameB x = true) : x.size ≤ 16 := by
  unfold isNameB at h
  simp only [Bool.and_eq_true, decide_eq_true_eq] at h
  exact h.1.1.1.2
theorem join_names {l : List ByteArray} (h6 : l.length ≤ 6) (h : ∀ x ∈ l, isNameB x = true) (n : Nat) : (joinB (l.take n)).length ≤ 102 := by
  have := join_le ((l.take n).map (·.data.toList)) 16 (fun x hx => by
    obtain ⟨y, hy, rfl⟩ := List.mem_map.1 hx
    have := isNameB_size (h y (List.mem_of_mem_take hy))
    rw [Array.length_toList]
    exact this)
  have hl : ((l.take n).map (·.data.toList)).length ≤ 6 := by rw [List.length_map, List.length_take]; omega
  have h2 : ((l.take n).map (·.data.toList)).length * (16 + 1) ≤ 6 * 17 := Nat.mul_le_mul_right 17 hl
  unfold joinB
  omega

theorem parent_spec (s : ByteArray) : FnSpec C 62 [.str s] [] (fun r L' => r = .tuple [.str (parentB s), .int .i64 (parentE s)] ∧ L' = []) := by
  refine FnSpec.start C_ok Tryd.func62 rfl rfl Tryd.ntmps62 ?_
  repeat (first | refine Ops.go ?_ | refine And.intro rfl ?_ | refine And.intro (Nat.le_of_ble_eq_true rfl) ?_ | refine And.intro (Int.natCast_nonneg _) ?_ | refine fun (_ : Nat) => ?_ | refine Ord.go ?_ | refine Run.go rfl ?_ | refine Cont.go rfl ?_ | refine OrdP.go ?_)
  refine ACall.pure _ (parse_spec s) ?_
  rintro r L' (⟨h, rfl, rfl⟩ | ⟨h, hn, rfl, rfl⟩ | ⟨h, hn, g, rfl, rfl⟩)
  · refine ⟨_, Sub.refl _, ?_⟩
    have e : parentE s = parseE s := by unfold parentE; rw [if_pos h]
    have e2 : parentB s = ⟨#[]⟩ := by unfold parentB; rw [if_pos (by rw [e]; exact h)]
    repeat (first | refine Ops.go ?_ | refine And.intro rfl ?_ | refine And.intro (Nat.le_of_ble_eq_true rfl) ?_ | refine And.intro (Int.natCast_nonneg _) ?_ | refine fun (_ : Nat) => ?_ | refine Ord.go ?_ | refine Run.go rfl ?_ | refine Cont.go rfl ?_ | refine OrdP.go ?_)
    refine ⟨fun _ => ?_, fun e => absurd h e⟩
    repeat (first | refine Ops.go ?_ | refine And.intro rfl ?_ | refine And.intro (Nat.le_of_ble_eq_true rfl) ?_ | refine And.intro (Int.natCast_nonneg _) ?_ | refine fun (_ : Nat) => ?_ | refine Ord.go ?_ | refine Run.go rfl ?_ | refine Cont.go rfl ?_ | refine OrdP.go ?_)
    exact ⟨_, [], FinOk.drop _ _, by rw [e, e2]; rfl, rfl⟩
  · refine ⟨_, Sub.refl _, ?_⟩
    have e : parentE s = 47 := by unfold parentE; rw [if_neg (by rw [h]; decide), if_pos hn]
    have e2 : parentB s = ⟨#[]⟩ := by unfold parentB; rw [if_pos (by rw [e]; decide)]
    repeat (first | refine Ops.go ?_ | refine And.intro rfl ?_ | refine And.intro (Nat.le_of_ble_eq_true rfl) ?_ | refine And.intro (Int.natCast_nonneg _) ?_ | refine fun (_ : Nat) => ?_ | refine Ord.go ?_ | refine Run.go rfl ?_ | refine Cont.go rfl ?_ | refine OrdP.go ?_)
    refine ⟨fun e => absurd rfl e, fun _ => ?_⟩
    repeat (first | refine Ops.go ?_ | refine And.intro rfl ?_ | refine And.intro (Nat.le_of_ble_eq_true rfl) ?_ | refine And.intro (Int.natCast_nonneg _) ?_ | refine fun (_ : Nat) => ?_ | refine Ord.go ?_ | refine Run.go rfl ?_ | refine Cont.go rfl ?_ | refine OrdP.go ?_)
    refine ⟨fun _ => ?_, fun e => absurd rfl e⟩
    repeat (first | refine Ops.go ?_ | refine And.intro rfl ?_ | refine And.intro (Nat.le_of_ble_eq_true rfl) ?_ | refine And.intro (Int.natCast_nonneg _) ?_ | refine fun (_ : Nat) => ?_ | refine Ord.go ?_ | refine Run.go rfl ?_ | refine Cont.go rfl ?_ | refine OrdP.go ?_)
    exact ⟨_, [], FinOk.drop _ _, by rw [e, e2]; rfl, rfl⟩
  · refine ⟨_, Sub.refl _, ?_⟩
    obtain ⟨h6, hall⟩ := names_ok h
    generalize hl : namesOf s = l at h6 hall ⊢
    repeat (first | refine Ops.go ?_ | refine And.intro rfl ?_ | refine And.intro (Nat.le_of_ble_eq_true rfl) ?_ | refine And.intro (Int.natCast_nonneg _) ?_ | refine fun (_ : Nat) => ?_ | refine Ord.go ?_ | refine Run.go rfl ?_ | refine Cont.go rfl ?_ | refine OrdP.go ?_)
    refine ⟨fun e => absurd rfl e, fun _ => ?_⟩
    repeat (first | refine Ops.go ?_ | refine And.intro rfl ?_ | refine And.intro (Nat.le_of_ble_eq_true rfl) ?_ | refine And.intro (Int.natCast_nonneg _) ?_ | refine fun (_ : Nat) => ?_ | refine Ord.go ?_ | refine Run.go rfl ?_ | refine Cont.go rfl ?_ | refine OrdP.go ?_)
    refine ⟨fun h0 => ?_, fun h0 => ?_⟩
    · have h0 : (l.length : Int) = 0 := h0
      have hnil : l = [] := List.eq_nil_of_length_eq_zero (by omega)
      have e : parentE s = 47 := by unfold parentE; rw [if_neg (by rw [h]; decide), if_pos (by rw [hl]; exact hnil)]
      have e2 : parentB s = ⟨#[]⟩ := by unfold parentB; rw [if_pos (by rw [e]; decide)]
      repeat (first | refine Ops.go ?_ | refine And.intro rfl ?_ | refine And.intro (Nat.le_of_ble_eq_true rfl) ?_ | refine And.intro (Int.natCast_nonneg _) ?_ | refine fun (_ : Nat) => ?_ | refine Ord.go ?_ | refine Run.go rfl ?_ | refine Cont.go rfl ?_ | refine OrdP.go ?_)
      exact ⟨_, [], FinOk.drop _ _, by rw [e, e2]; rfl, rfl⟩
    · have h0 : ¬ (l.length : Int) = 0 := h0
      have hne : l ≠ [] := fun e => h0 (by rw [e]; rfl)
      have e : parentE s = 0 := by unfold parentE; rw [if_neg (by rw [h]; decide), if_neg (by rw [hl]; exact hne)]
      have e2 : parentB s = placedB (l.take (l.length - 1)) := by unfold parentB; rw [if_neg (by rw [e]; decide), hl]
      repeat (first | refine Ops.go ?_ | refine And.intro rfl ?_ | refine And.intro (Nat.le_of_ble_eq_true rfl) ?_ | refine And.intro (Int.natCast_nonneg _) ?_ | refine fun (_ : Nat) => ?_ | refine Ord.go ?_ | refine Run.go rfl ?_ | refine Cont.go rfl ?_ | refine OrdP.go ?_)
      refine fun r hr => ?_
      have hr : r = ((l.length - 1 : Nat) : Int) := by rw [hr, IntKind.wrap_i64]; omega
      subst hr
      repeat (first | refine Ops.go ?_ | refine And.intro rfl ?_ | refine And.intro (Nat.le_of_ble_eq_true rfl) ?_ | refine And.intro (Int.natCast_nonneg _) ?_ | refine fun (_ : Nat) => ?_ | refine Ord.go ?_ | refine Run.go rfl ?_ | refine Cont.go rfl ?_ | refine OrdP.go ?_)
      refine ⟨show ((l.length - 1 : Nat) : Int) ≤ ((l.map AV.str).length : Int) by rw [List.length_map]; omega, ?_⟩
      repeat (first | refine Ops.go ?_ | refine And.intro rfl ?_ | refine And.intro (Nat.le_of_ble_eq_true rfl) ?_ | refine And.intro (Int.natCast_nonneg _) ?_ | refine fun (_ : Nat) => ?_ | refine Ord.go ?_ | refine Run.go rfl ?_ | refine Cont.go rfl ?_ | refine OrdP.go ?_)
      refine ACall.all _ (placed_spec g l.length l (l.length - 1) (by omega) (by omega) (by have := join_names h6 hall (l.length - 1); omega)) ?_
      rintro r L' ⟨rfl, rfl⟩
      repeat (first | refine Ops.go ?_ | refine And.intro rfl ?_ | refine And.intro (Nat.le_of_ble_eq_true rfl) ?_ | refine And.intro (Int.natCast_nonneg _) ?_ | refine fun (_ : Nat) => ?_ | refine Ord.go ?_ | refine Run.go rfl ?_ | refine Cont.go rfl ?_ | refine OrdP.go ?_)
      exact ⟨_, [], FinOk.drop _ _, by rw [e, e2]; rfl, rfl⟩

end Go.Proofs.YtfohedaadncefaaDoor.HBT
/- Plain laws on texts that are cut at their slashes: no program in sight. -/
namespace Go.Proofs.YtfohedaadncefaaDoor.HBT
open Go Go.Proofs.YtfohedaadncefaaDoor.HB Go.RowKit
set_option maxRecDepth 8000

/-- A text, cut at its slashes. -/
def cut : List UInt8 → List (List UInt8)
  | [] => [[]]
  | c :: l => if c = 47 then [] :: cut l else match cut l with
    | [] => [[c]]
    | p :: ps => (c :: p) :: ps

theorem cut_ne_nil (l : List UInt8) : cut l ≠ [] := by
  cases l with
  | nil => simp [cut]
  | cons c l => simp only [cut]; split <;> (try split) <;> simp

theorem splitK_cut : ∀ l : List UInt8, Lib.splitK [47] 0 (Lib.count l [47]) l = cut l
  | [] => by
    rw [show Lib.count [] [47] = 0 from by rw [Lib.count_miss (by simp [Lib.index])]]
    rfl
  | c :: l => by
    have ih := splitK_cut l
    by_cases hc : c = 47
    · subst hc
      rw [Lib.count_cons_eq, Nat.add_comm]
      have hix : Lib.index (47 :: l) [47] = 0 := by rw [Lib.index]; simp [List.isPrefixOf]
      simp only [Lib.splitK, hix, cut, if_true]
      rw [← ih]
      rfl
    · rw [Lib.count_cons_ne c 47 l hc]
      have hp : ([47] : List UInt8).isPrefixOf (c :: l) = false := by simp [List.isPrefixOf, Ne.symm hc]
      have hix : Lib.index (c :: l) [47] = if Lib.index l [47] == -1 then -1 else Lib.index l [47] + 1 := by rw [Lib.index, hp]; simp
      simp only [cut, hc, if_false]
      rw [← ih]
      by_cases hm : Lib.index l [47] = -1
      · rw [Lib.count_miss hm]
        rfl
      · have hge := Lib.index_ge l [47]
        obtain ⟨j, hj⟩ : ∃ j : Nat, Lib.index l [47] = j := ⟨(Lib.index l [47]).toNat, by omega⟩
        have hcount : ∃ k, Lib.count l [47] = k + 1 := by
          rw [Lib.count_hit (by simp) hj]
          exact ⟨_, Nat.add_comm _ _⟩
        obtain ⟨k, hk⟩ := hcount
        rw [hk]
        have h1 : (Lib.index l [47] == -1) = false := by simpa using hm
        have h2 : (Lib.index (c :: l) [47] == -1) = false := by rw [hix, h1]; simp; omega
        have h3 : (Lib.index (c :: l) [47]).toNat = j + 1 := by rw [hix, h1]; simp; omega
        have h4 : (Lib.index l [47]).toNat = j := by omega
        simp only [Lib.splitK, h1, h2, h3, h4]
        simp

theorem pieces_cut (s : ByteArray) : (pieces s).map (·.data.toList) = cut s.data.toList := by
  unfold pieces
  rw [Lib.splitB_data]
  exact splitK_cut s.data.toList

/-- Names put together, cut again. -/
theorem cut_join : ∀ (l : List (List UInt8)), l ≠ [] → (∀ x ∈ l, (47 : UInt8) ∉ x) → cut (Lib.join l [47]) = l := by
  have one : ∀ (x t : List UInt8), (47 : UInt8) ∉ x → cut (x ++ 47 :: t) = x :: cut t := by
    intro x
    induction x with
    | nil => intro t _; simp [cut]
    | cons c x ih =>
      intro t h
      have hc : ¬ c = 47 := fun e => h (by simp [e])
      have := ih t (fun hx => h (List.mem_cons_of_mem _ hx))
      rw [List.cons_append]
      simp only [cut, hc, if_false, this]
  have last : ∀ (x : List UInt8), (47 : UInt8) ∉ x → cut x = [x] := by
    intro x
    induction x with
    | nil => intro _; rfl
    | cons c x ih =>
      intro h
      have hc : ¬ c = 47 := fun e => h (by simp [e])
      have := ih (fun hx => h (List.mem_cons_of_mem _ hx))
      simp only [cut, hc, if_false, this]
  intro l
  induction l with
  | nil => intro h; exact absurd rfl h
  | cons x l ih =>
    intro _ h
    cases l with
    | nil => rw [Lib.join_one]; exact last x (h x (by simp))
    | cons y l =>
      have e : Lib.join (x :: y :: l) [47] = x ++ 47 :: Lib.join (y :: l) [47] := by simp [Lib.join, List.intercalate, List.intersperse]
      rw [e, one x _ (h x (by simp)), ih (by simp) (fun z hz => h z (List.mem_cons_of_mem _ hz))]

/-- A text is its pieces put together. -/
theorem join_cut : ∀ l : List UInt8, Lib.join (cut l) [47] = l
  | [] => by simp [cut, Lib.join, List.intercalate]
  | c :: l => by
    have ih := join_cut l
    have hne := cut_ne_nil l
    by_cases hc : c = 47
    · subst hc
      simp only [cut, if_true]
      cases hl : cut l with
      | nil => exact absurd hl hne
      | cons p ps =>
        rw [hl] at ih
        have e : Lib.join ([] :: p :: ps) [47] = [] ++ 47 :: Lib.join (p :: ps) [47] := by simp [Lib.join, List.intercalate, List.intersperse]
        rw [e, ih]
        rfl
    · simp only [cut, hc, if_false]
      cases hl : cut l with
      | nil => exact absurd hl hne
      | cons p ps =>
        rw [hl] at ih
        cases ps with
        | nil => rw [Lib.join_one] at ih ⊢; rw [ih]
        | cons q ps =>
          have e : ∀ x : List UInt8, Lib.join (x :: q :: ps) [47] = x ++ 47 :: Lib.join (q :: ps) [47] := fun x => by simp [Lib.join, List.intercalate, List.intersperse]
          rw [e] at ih ⊢
          rw [List.cons_append, ih]

end Go.Proofs.YtfohedaadncefaaDoor.HBT
/- Places and their names: plain laws. -/
namespace Go.Proofs.YtfohedaadncefaaDoor.HBT
open Go Go.Proofs.YtfohedaadncefaaDoor.HB Go.RowKit
set_option maxRecDepth 8000

theorem bytes_inj {x y : ByteArray} (h : x.data.toList = y.data.toList) : x = y := ByteArray.ext (Array.toList_inj.mp h)
theorem map_bytes_inj : ∀ {l m : List ByteArray}, l.map (·.data.toList) = m.map (·.data.toList) → l = m
  | [], [], _ => rfl
  | [], _ :: _, h => by simp at h
  | _ :: _, [], h => by simp at h
  | x :: l, y :: m, h => by
    simp only [List.map_cons, List.cons.injEq] at h
    rw [bytes_inj h.1, map_bytes_inj h.2]

theorem name_no_slash {x : ByteArray} (h : isNameB x = true) : (47 : UInt8) ∉ x.data.toList := fun hm => by
  unfold isNameB at h
  simp only [Bool.and_eq_true] at h
  have := (List.all_eq_true.1 h.2) 47 hm
  exact absurd this (by decide)
theorem name_ne_nil {x : ByteArray} (h : isNameB x = true) : x.data.toList ≠ [] := fun e => by
  unfold isNameB at h
  simp only [Bool.and_eq_true, decide_eq_true_eq] at h
  exact h.1.1.1.1 (bytes_inj e)

/-- Names that may make a place. -/
def okNames (l : List ByteArray) : Prop := l.length ≤ 6 ∧ ∀ x ∈ l, isNameB x = true
theorem okNames.take {l : List ByteArray} (h : okNames l) (n : Nat) : okNames (l.take n) := ⟨by rw [List.length_take]; have := h.1; omega, fun x hx => h.2 x (List.mem_of_mem_take hx)⟩

theorem placed_data (l : List ByteArray) : (placedB l).data.toList = 47 :: joinB l := by
  unfold placedB slash
  simp
theorem cutB_cut (s : ByteArray) : (cutB s).map (·.data.toList) = cut (s.data.toList.drop 1) := by
  unfold cutB
  rw [pieces_cut]
  rw [Lib.extract_to_end]

theorem joinB_ne_nil {l : List ByteArray} (h : okNames l) (hne : l ≠ []) : joinB l ≠ [] := by
  cases l with
  | nil => exact absurd rfl hne
  | cons x l =>
    have hx := name_ne_nil (h.2 x (by simp))
    unfold joinB
    rw [List.map_cons]
    cases l with
    | nil => rw [List.map_nil, Lib.join_one]; exact hx
    | cons y l =>
      rw [List.map_cons]
      simp [Lib.join, List.intercalate, List.intersperse, hx]

theorem placed_slash {l : List ByteArray} (h : okNames l) : placedB l = slash ↔ l = [] := by
  constructor
  · intro e
    by_cases hl : l = []
    · exact hl
    · have := congrArg (·.data.toList) e
      simp only [placed_data] at this
      have h2 : slash.data.toList = [47] := rfl
      rw [h2] at this
      simp at this
      exact absurd this (joinB_ne_nil h hl)
  · intro e
    subst e
    apply bytes_inj
    rw [placed_data]
    rfl

theorem join_lt : ∀ (l : List (List UInt8)) (n : Nat), l ≠ [] → (∀ x ∈ l, x.length ≤ n) → (Lib.join l [47]).length + 1 ≤ l.length * (n + 1)
  | [], _, h, _ => absurd rfl h
  | [x], n, _, h => by have := h x (by simp); rw [Lib.join_one]; simp; omega
  | x :: y :: l, n, _, h => by
    have h0 := h x (by simp)
    have ih := join_lt (y :: l) n (by simp) (fun z hz => h z (List.mem_cons_of_mem _ hz))
    have e : Lib.join (x :: y :: l) [47] = x ++ ([47] ++ Lib.join (y :: l) [47]) := by simp [Lib.join, List.intercalate, List.intersperse]
    have e3 : (x :: y :: l).length * (n + 1) = (y :: l).length * (n + 1) + (n + 1) := by rw [List.length_cons, Nat.succ_mul]
    rw [e, List.length_append, List.length_append, e3]
    have : ([47] : List UInt8).length = 1 := rfl
    omega

theorem names_placed {l : List ByteArray} (h : okNames l) : parseE (placedB l) = 0 ∧ namesOf (placedB l) = l := by
  by_cases hl : l = []
  · have e := (placed_slash h).2 hl
    refine ⟨?_, ?_⟩
    · rw [e]; unfold parseE; rw [if_neg (by decide), if_pos rfl]
    · rw [e, hl]; unfold namesOf; rw [if_pos rfl]
  · have e : ¬ placedB l = slash := fun e => hl ((placed_slash h).1 e)
    have hcut : cutB (placedB l) = l := by
      apply map_bytes_inj
      rw [cutB_cut, placed_data]
      show cut (joinB l) = _
      unfold joinB
      exact cut_join _ (by simpa using hl) (fun x hx => by
        obtain ⟨y, hy, rfl⟩ := List.mem_map.1 hx
        exact name_no_slash (h.2 y hy))
    have hsz : (placedB l).size ≤ 102 := by
      have h1 : (placedB l).size = (placedB l).data.toList.length := by rw [Array.length_toList]; rfl
      have h2 := join_lt (l.map (·.data.toList)) 16 (by simpa using hl) (fun x hx => by
        obtain ⟨y, hy, rfl⟩ := List.mem_map.1 hx
        have := isNameB_size (h.2 y hy)
        rw [Array.length_toList]
        exact this)
      have h3 : (l.map (·.data.toList)).length * (16 + 1) ≤ 6 * 17 := Nat.mul_le_mul_right 17 (by rw [List.length_map]; exact h.1)
      rw [h1, placed_data, List.length_cons]
      unfold joinB
      omega
    have hb : begins47 (placedB l) = true := by unfold begins47; rw [placed_data]; rfl
    refine ⟨?_, by unfold namesOf; rw [if_neg e]; exact hcut⟩
    unfold parseE
    rw [if_neg (by omega), if_neg e, if_neg (by rw [hb]; decide), hcut, if_neg (by have := h.1; omega), if_pos (List.all_eq_true.2 h.2)]

/-- A place is the place of its names. -/
theorem place_names {s : ByteArray} (h : parseE s = 0) : okNames (namesOf s) ∧ s = placedB (namesOf s) := by
  have hok : okNames (namesOf s) := names_ok h
  refine ⟨hok, ?_⟩
  unfold parseE at h
  split at h
  · cases h
  split at h
  · rename_i e
    have en : namesOf s = [] := by unfold namesOf; rw [if_pos e]
    rw [en]
    exact e.trans ((placed_slash ⟨by simp, by simp⟩).2 rfl).symm
  rename_i e
  have en : namesOf s = cutB s := by unfold namesOf; rw [if_neg e]
  split at h
  · cases h
  rename_i hb
  have hb : begins47 s = true := by simpa using hb
  apply bytes_inj
  rw [placed_data, en]
  unfold joinB
  rw [cutB_cut, join_cut]
  unfold begins47 at hb
  cases hs : s.data.toList with
  | nil => rw [hs] at hb; cases hb
  | cons c t =>
    rw [hs] at hb
    have hb' : ((47 : UInt8) == c && ([] : List UInt8).isPrefixOf t) = true := hb
    rw [Bool.and_eq_true] at hb'
    have hc : c = 47 := (beq_iff_eq.1 hb'.1).symm
    rw [hc]
    rfl
theorem placed_inj {l m : List ByteArray} (hl : okNames l) (hm : okNames m) (h : placedB l = placedB m) : l = m := by
  rw [← (names_placed hl).2, h, (names_placed hm).2]
theorem parent_placed {l : List ByteArray} (h : okNames l) : parentE (placedB l) = (if l = [] then 47 else 0) ∧ (l ≠ [] → parentB (placedB l) = placedB (l.take (l.length - 1))) := by
  obtain ⟨h1, h2⟩ := names_placed h
  have e : parentE (placedB l) = (if l = [] then 47 else 0) := by unfold parentE; rw [if_neg (by rw [h1]; decide), h2]
  refine ⟨e, fun hne => ?_⟩
  unfold parentB
  rw [if_neg (by rw [e, if_neg hne]; decide), h2]

end Go.Proofs.YtfohedaadncefaaDoor.HBT
/- The contracts of the shot's small texts: kinds, sizes, below, search. -/
namespace Go.Proofs.YtfohedaadncefaaDoor.HBT
open Go Go.Proofs.YtfohedaadncefaaDoor.HB Go.RowKit
set_option maxRecDepth 8000

theorem isKind_spec (k : Int) : FnSpec C 30 [.int .i64 k] [] (fun r L' => r = .bool (decide (k = 1 ∨ k = 2 ∨ k = 3)) ∧ L' = []) := by
  refine FnSpec.start C_ok Tryd.func30 rfl rfl Tryd.ntmps30 ?_
  repeat (first | refine Ops.go ?_ | refine And.intro rfl ?_ | refine And.intro (Nat.le_of_ble_eq_true rfl) ?_ | refine And.intro (Int.natCast_nonneg _) ?_ | refine fun (_ : Nat) => ?_ | refine Ord.go ?_ | refine Run.go rfl ?_ | refine Cont.go rfl ?_ | refine OrdP.go ?_)
  refine ⟨fun h => ?_, fun h => ?_⟩
  · have h : k = 1 := h
    repeat (first | refine Ops.go ?_ | refine And.intro rfl ?_ | refine And.intro (Nat.le_of_ble_eq_true rfl) ?_ | refine And.intro (Int.natCast_nonneg _) ?_ | refine fun (_ : Nat) => ?_ | refine Ord.go ?_ | refine Run.go rfl ?_ | refine Cont.go rfl ?_ | refine OrdP.go ?_)
    exact ⟨_, [], FinOk.drop _ _, congrArg AV.bool (show true = _ by simp [h]), rfl⟩
  have h1 : ¬ k = 1 := h
  repeat (first | refine Ops.go ?_ | refine And.intro rfl ?_ | refine And.intro (Nat.le_of_ble_eq_true rfl) ?_ | refine And.intro (Int.natCast_nonneg _) ?_ | refine fun (_ : Nat) => ?_ | refine Ord.go ?_ | refine Run.go rfl ?_ | refine Cont.go rfl ?_ | refine OrdP.go ?_)
  refine ⟨fun h => ?_, fun h => ?_⟩
  · have h : k = 2 := h
    repeat (first | refine Ops.go ?_ | refine And.intro rfl ?_ | refine And.intro (Nat.le_of_ble_eq_true rfl) ?_ | refine And.intro (Int.natCast_nonneg _) ?_ | refine fun (_ : Nat) => ?_ | refine Ord.go ?_ | refine Run.go rfl ?_ | refine Cont.go rfl ?_ | refine OrdP.go ?_)
    exact ⟨_, [], FinOk.drop _ _, congrArg AV.bool (show true = _ by simp [h]), rfl⟩
  have h2 : ¬ k = 2 := h
  repeat (first | refine Ops.go ?_ | refine And.intro rfl ?_ | refine And.intro (Nat.le_of_ble_eq_true rfl) ?_ | refine And.intro (Int.natCast_nonneg _) ?_ | refine fun (_ : Nat) => ?_ | refine Ord.go ?_ | refine Run.go rfl ?_ | refine Cont.go rfl ?_ | refine OrdP.go ?_)
  refine ⟨fun h => ?_, fun h => ?_⟩
  · have h : k = 3 := h
    repeat (first | refine Ops.go ?_ | refine And.intro rfl ?_ | refine And.intro (Nat.le_of_ble_eq_true rfl) ?_ | refine And.intro (Int.natCast_nonneg _) ?_ | refine fun (_ : Nat) => ?_ | refine Ord.go ?_ | refine Run.go rfl ?_ | refine Cont.go rfl ?_ | refine OrdP.go ?_)
    exact ⟨_, [], FinOk.drop _ _, congrArg AV.bool (show true = _ by simp [h]), rfl⟩
  have h3 : ¬ k = 3 := h
  repeat (first | refine Ops.go ?_ | refine And.intro rfl ?_ | refine And.intro (Nat.le_of_ble_eq_true rfl) ?_ | refine And.intro (Int.natCast_nonneg _) ?_ | refine fun (_ : Nat) => ?_ | refine Ord.go ?_ | refine Run.go rfl ?_ | refine Cont.go rfl ?_ | refine OrdP.go ?_)
  exact ⟨_, [], FinOk.drop _ _, congrArg AV.bool (show false = _ by simp [h1, h2, h3]), rfl⟩

theorem fits_spec (d : ByteArray) (v : Int) : FnSpec C 31 [.str d, .int .i64 v] [] (fun r L' => r = .bool (decide (d.size ≤ 64 ∧ 0 ≤ v ∧ v ≤ 2147483647)) ∧ L' = []) := by
  refine FnSpec.start C_ok Tryd.func31 rfl rfl Tryd.ntmps31 ?_
  repeat (first | refine Ops.go ?_ | refine And.intro rfl ?_ | refine And.intro (Nat.le_of_ble_eq_true rfl) ?_ | refine And.intro (Int.natCast_nonneg _) ?_ | refine fun (_ : Nat) => ?_ | refine Ord.go ?_ | refine Run.go rfl ?_ | refine Cont.go rfl ?_ | refine OrdP.go ?_)
  refine ⟨fun h => ?_, fun h => ?_⟩
  case' refine_2 =>
    repeat (first | refine Ops.go ?_ | refine And.intro rfl ?_ | refine And.intro (Nat.le_of_ble_eq_true rfl) ?_ | refine And.intro (Int.natCast_nonneg _) ?_ | refine fun (_ : Nat) => ?_ | refine Ord.go ?_ | refine Run.go rfl ?_ | refine Cont.go rfl ?_ | refine OrdP.go ?_)
    exact ⟨_, [], FinOk.drop _ _, congrArg AV.bool (show false = _ by
      have h : ¬ (d.size : Int) ≤ 64 := h
      symm; rw [decide_eq_false_iff_not]; omega), rfl⟩
  have h1 : (d.size : Int) ≤ 64 := h
  repeat (first | refine Ops.go ?_ | refine And.intro rfl ?_ | refine And.intro (Nat.le_of_ble_eq_true rfl) ?_ | refine And.intro (Int.natCast_nonneg _) ?_ | refine fun (_ : Nat) => ?_ | refine Ord.go ?_ | refine Run.go rfl ?_ | refine Cont.go rfl ?_ | refine OrdP.go ?_)
  refine ⟨fun h => ?_, fun h => ?_⟩
  case' refine_2 =>
    repeat (first | refine Ops.go ?_ | refine And.intro rfl ?_ | refine And.intro (Nat.le_of_ble_eq_true rfl) ?_ | refine And.intro (Int.natCast_nonneg _) ?_ | refine fun (_ : Nat) => ?_ | refine Ord.go ?_ | refine Run.go rfl ?_ | refine Cont.go rfl ?_ | refine OrdP.go ?_)
    exact ⟨_, [], FinOk.drop _ _, congrArg AV.bool (show false = _ by
      have h : ¬ (0 : Int) ≤ v := h
      symm; rw [decide_eq_false_iff_not]; omega), rfl⟩
  have h2 : (0 : Int) ≤ v := h
  repeat (first | refine Ops.go ?_ | refine And.intro rfl ?_ | refine And.intro (Nat.le_of_ble_eq_true rfl) ?_ | refine And.intro (Int.natCast_nonneg _) ?_ | refine fun (_ : Nat) => ?_ | refine Ord.go ?_ | refine Run.go rfl ?_ | refine Cont.go rfl ?_ | refine OrdP.go ?_)
  refine ⟨fun h => ?_, fun h => ?_⟩
  case' refine_2 =>
    repeat (first | refine Ops.go ?_ | refine And.intro rfl ?_ | refine And.intro (Nat.le_of_ble_eq_true rfl) ?_ | refine And.intro (Int.natCast_nonneg _) ?_ | refine fun (_ : Nat) => ?_ | refine Ord.go ?_ | refine Run.go rfl ?_ | refine Cont.go rfl ?_ | refine OrdP.go ?_)
    exact ⟨_, [], FinOk.drop _ _, congrArg AV.bool (show false = _ by
      have h : ¬ v ≤ 2147483647 := h
      symm; rw [decide_eq_false_iff_not]; omega), rfl⟩
  have h3 : v ≤ 2147483647 := h
  repeat (first | refine Ops.go ?_ | refine And.intro rfl ?_ | refine And.intro (Nat.le_of_ble_eq_true rfl) ?_ | refine And.intro (Int.natCast_nonneg _) ?_ | refine fun (_ : Nat) => ?_ | refine Ord.go ?_ | refine Run.go rfl ?_ | refine Cont.go rfl ?_ | refine OrdP.go ?_)
  exact ⟨_, [], FinOk.drop _ _, congrArg AV.bool (show true = _ by symm; rw [decide_eq_true_iff]; omega), rfl⟩

/-- Is the first place below the second one; is that its parent? -/
def belowB (low high : ByteArray) : Prop := parseE low = 0 ∧ ∃ j, j < (namesOf low).length ∧ high = placedB ((namesOf low).take j)
def childB (low high : ByteArray) : Prop := parentE low = 0 ∧ parentB low = high
noncomputable instance (low high : ByteArray) : Decidable (belowB low high) := Classical.propDecidable _
noncomputable instance (low high : ByteArray) : Decidable (childB low high) := Classical.propDecidable _

theorem parent_of {s : ByteArray} (h : parseE s = 0) : parentE s = (if namesOf s = [] then 47 else 0) ∧ (namesOf s ≠ [] → parentB s = placedB ((namesOf s).take ((namesOf s).length - 1))) := by
  obtain ⟨hok, e⟩ := place_names h
  have := parent_placed hok
  rw [← e] at this
  exact this
theorem parent_bad {s : ByteArray} (h : parseE s ≠ 0) : parentE s = parseE s := by unfold parentE; rw [if_pos h]
theorem child_below {low high : ByteArray} (h : childB low high) : belowB low high := by
  obtain ⟨h1, h2⟩ := h
  by_cases hp : parseE low = 0
  · obtain ⟨e1, e2⟩ := parent_of hp
    by_cases hn : namesOf low = []
    · rw [e1, if_pos hn] at h1; cases h1
    · have : 0 < (namesOf low).length := List.length_pos_iff.2 hn
      exact ⟨hp, (namesOf low).length - 1, by omega, by rw [← h2, e2 hn]⟩
  · rw [parent_bad hp] at h1; exact absurd h1 hp

theorem isBelow_spec (low high : ByteArray) : FnSpec C 61 [.str low, .str high] [] (fun r L' => r = .tuple [.bool (decide (belowB low high)), .bool (decide (childB low high))] ∧ L' = []) := by
  refine FnSpec.start C_ok Tryd.func61 rfl rfl Tryd.ntmps61 ?_
  repeat (first | refine Ops.go ?_ | refine And.intro rfl ?_ | refine And.intro (Nat.le_of_ble_eq_true rfl) ?_ | refine And.intro (Int.natCast_nonneg _) ?_ | refine fun (_ : Nat) => ?_ | refine Ord.go ?_ | refine Run.go rfl ?_ | refine Cont.go rfl ?_ | refine OrdP.go ?_)
  refine ACall.ret (parent_spec low) ?_
  repeat (first | refine Ops.go ?_ | refine And.intro rfl ?_ | refine And.intro (Nat.le_of_ble_eq_true rfl) ?_ | refine And.intro (Int.natCast_nonneg _) ?_ | refine fun (_ : Nat) => ?_ | refine Ord.go ?_ | refine Run.go rfl ?_ | refine Cont.go rfl ?_ | refine OrdP.go ?_)
  let S : Nat → Bool → ByteArray → Int → Prop := fun k b up e => (k = 0 ∧ e ≠ 0 ∧ ¬ belowB low high) ∨ (∃ j, k = j + 1 ∧ parseE low = 0 ∧ j < (namesOf low).length ∧ up = placedB ((namesOf low).take j) ∧ e = 0 ∧ b = decide (j + 1 < (namesOf low).length) ∧ ∀ j', j < j' → j' < (namesOf low).length → high ≠ placedB ((namesOf low).take j'))
  have start : ∃ k, S k false (parentB low) (parentE low) := by
    by_cases hp : parseE low = 0
    · obtain ⟨e1, e2⟩ := parent_of hp
      by_cases hn : namesOf low = []
      · exact ⟨0, .inl ⟨rfl, by rw [e1, if_pos hn]; decide, fun ⟨_, j, hj, _⟩ => by rw [hn] at hj; cases hj⟩⟩
      · have hpos : 0 < (namesOf low).length := List.length_pos_iff.2 hn
        exact ⟨_, .inr ⟨(namesOf low).length - 1, rfl, hp, by omega, e2 hn, by rw [e1, if_neg hn], by symm; rw [decide_eq_false_iff_not]; omega, fun j' h1 h2 => by omega⟩⟩
    · exact ⟨0, .inl ⟨rfl, by rw [parent_bad hp]; exact hp, fun h => hp h.1⟩⟩
  obtain ⟨k0, hk0⟩ := start
  refine Run.loop (fun k env L => ∃ b up e, S k b up e ∧ env = [.junk, .str high, .junk, .junk, .bool b, .junk, .str up, .int .i64 e, .junk, .junk, .junk, .junk, .junk, .junk, .junk, .junk, .junk, .junk, .junk, .junk, .junk, .junk, .junk, .junk, .junk] ∧ L = []) k0 [.junk, .str high, .junk, .junk, .bool false, .junk, .str (parentB low), .int .i64 (parentE low), .junk, .junk, .junk, .junk, .junk, .junk, .junk, .junk, .junk, .junk, .junk, .junk, .junk, .junk, .junk, .junk, .junk] ?_ ⟨_, _, _, hk0, rfl, rfl⟩ ?_
  · repeat (first | exact trivial | refine ⟨.inl rfl, ?_⟩ | refine ⟨.inr rfl, ?_⟩)
  rintro k env L ⟨b, up, e, hS, rfl, rfl⟩
  repeat (first | refine Ops.go ?_ | refine And.intro rfl ?_ | refine And.intro (Nat.le_of_ble_eq_true rfl) ?_ | refine And.intro (Int.natCast_nonneg _) ?_ | refine fun (_ : Nat) => ?_ | refine Ord.go ?_ | refine Run.go rfl ?_ | refine Cont.go rfl ?_ | refine OrdP.go ?_)
  refine ⟨fun h => ?_, fun h => ?_⟩
  · have h : e = 0 := h
    rcases hS with ⟨_, he, _⟩ | ⟨j, rfl, hp, hj, rfl, _, rfl, hup⟩
    · exact absurd h he
    subst h
    obtain ⟨hok, hlow⟩ := place_names hp
    repeat (first | refine Ops.go ?_ | refine And.intro rfl ?_ | refine And.intro (Nat.le_of_ble_eq_true rfl) ?_ | refine And.intro (Int.natCast_nonneg _) ?_ | refine fun (_ : Nat) => ?_ | refine Ord.go ?_ | refine Run.go rfl ?_ | refine Cont.go rfl ?_ | refine OrdP.go ?_)
    refine ⟨fun hh => ?_, fun hh => ?_⟩
    · have hh : placedB ((namesOf low).take j) = high := hh
      have hb : belowB low high := ⟨hp, j, hj, hh.symm⟩
      have hc : childB low high ↔ ¬ j + 1 < (namesOf low).length := by
        obtain ⟨e1, e2⟩ := parent_of hp
        have hn : namesOf low ≠ [] := fun e => by rw [e] at hj; cases hj
        unfold childB
        rw [e1, if_neg hn, e2 hn, ← hh]
        constructor
        · rintro ⟨_, h2⟩ h3
          have := congrArg List.length (placed_inj (hok.take _) (hok.take _) h2)
          rw [List.length_take, List.length_take] at this
          omega
        · intro h3
          exact ⟨rfl, by rw [show (namesOf low).length - 1 = j by omega]⟩
      have hcb : decide (childB low high) = !decide (j + 1 < (namesOf low).length) := by
        rw [Bool.eq_iff_iff, decide_eq_true_iff, Bool.not_eq_true', decide_eq_false_iff_not]
        exact hc
      repeat (first | refine Ops.go ?_ | refine And.intro rfl ?_ | refine And.intro (Nat.le_of_ble_eq_true rfl) ?_ | refine And.intro (Int.natCast_nonneg _) ?_ | refine fun (_ : Nat) => ?_ | refine Ord.go ?_ | refine Run.go rfl ?_ | refine Cont.go rfl ?_ | refine OrdP.go ?_)
      exact ⟨_, [], FinOk.drop _ _, by rw [decide_eq_true hb, hcb]; rfl, rfl⟩
    · have hh : ¬ placedB ((namesOf low).take j) = high := hh
      have hok' := hok.take j
      obtain ⟨q1, q2⟩ := names_placed hok'
      obtain ⟨p1, p2⟩ := parent_placed hok'
      repeat (first | refine Ops.go ?_ | refine And.intro rfl ?_ | refine And.intro (Nat.le_of_ble_eq_true rfl) ?_ | refine And.intro (Int.natCast_nonneg _) ?_ | refine fun (_ : Nat) => ?_ | refine Ord.go ?_ | refine Run.go rfl ?_ | refine Cont.go rfl ?_ | refine OrdP.go ?_)
      refine ACall.ret (parent_spec _) ?_
      repeat (first | refine Ops.go ?_ | refine And.intro rfl ?_ | refine And.intro (Nat.le_of_ble_eq_true rfl) ?_ | refine And.intro (Int.natCast_nonneg _) ?_ | refine fun (_ : Nat) => ?_ | refine Ord.go ?_ | refine Run.go rfl ?_ | refine Cont.go rfl ?_ | refine OrdP.go ?_)
      refine Cont.lp ?_
      by_cases h0 : j = 0
      · subst h0
        refine ⟨0, [.junk, .str high, .junk, .junk, .bool true, .junk, .str (parentB (placedB ((namesOf low).take 0))), .int .i64 (parentE (placedB ((namesOf low).take 0))), .junk, .junk, .junk, .junk, .junk, .junk, .junk, .junk, .junk, .junk, .junk, .junk, .junk, .junk, .junk, .junk, .junk], 99, by omega, ?_, ⟨_, _, _, .inl ⟨rfl, ?_, ?_⟩, rfl, rfl⟩⟩
        · repeat (first | exact trivial | refine ⟨.inl rfl, ?_⟩ | refine ⟨.inr rfl, ?_⟩)
        · rw [p1]; simp
        · rintro ⟨_, j', h1, h2⟩
          by_cases h3 : j' = 0
          · subst h3; exact hh h2.symm
          · exact hup j' (by omega) h1 h2
      · have hne : (namesOf low).take j ≠ [] := fun e => by
          have := congrArg List.length e
          rw [List.length_take, List.length_nil] at this
          omega
        have hlen : ((namesOf low).take j).length = j := by rw [List.length_take]; omega
        have htt : ((namesOf low).take j).take (((namesOf low).take j).length - 1) = (namesOf low).take (j - 1) := by rw [hlen, List.take_take]; congr 1; omega
        refine ⟨j - 1 + 1, [.junk, .str high, .junk, .junk, .bool true, .junk, .str (parentB (placedB ((namesOf low).take j))), .int .i64 (parentE (placedB ((namesOf low).take j))), .junk, .junk, .junk, .junk, .junk, .junk, .junk, .junk, .junk, .junk, .junk, .junk, .junk, .junk, .junk, .junk, .junk], 99, by omega, ?_, ⟨_, _, _, .inr ⟨j - 1, rfl, hp, by omega, ?_, ?_, ?_, ?_⟩, rfl, rfl⟩⟩
        · repeat (first | exact trivial | refine ⟨.inl rfl, ?_⟩ | refine ⟨.inr rfl, ?_⟩)
        · rw [p2 hne, htt]
        · rw [p1, if_neg hne]
        · symm; rw [decide_eq_true_iff]; omega
        · intro j' h1 h2 h3
          by_cases h4 : j' = j
          · subst h4; exact hh h3.symm
          · exact hup j' (by omega) h2 h3
  · have h : ¬ e = 0 := h
    rcases hS with ⟨_, _, hb⟩ | ⟨j, _, _, _, _, he, _⟩
    case inr => exact absurd he h
    have hc : ¬ childB low high := fun hc => hb (child_below hc)
    repeat (first | refine Ops.go ?_ | refine And.intro rfl ?_ | refine And.intro (Nat.le_of_ble_eq_true rfl) ?_ | refine And.intro (Int.natCast_nonneg _) ?_ | refine fun (_ : Nat) => ?_ | refine Ord.go ?_ | refine Run.go rfl ?_ | refine Cont.go rfl ?_ | refine OrdP.go ?_)
    exact ⟨_, [], FinOk.drop _ _, by rw [decide_eq_false hb, decide_eq_false hc]; rfl, rfl⟩

theorem has1_spec (p d : ByteArray) (v : Int) (at_ : ByteArray) (hp : p.size ≤ 9223372036854775807) : FnSpec C 87 [.agg [.str p, .str d, .int .i64 v], .str at_] [] (fun r L' => r = .int .i64 (orderB p at_) ∧ L' = []) := by
  refine FnSpec.start C_ok Tryd.func87 rfl rfl Tryd.ntmps87 ?_
  repeat (first | refine Ops.go ?_ | refine And.intro rfl ?_ | refine And.intro (Nat.le_of_ble_eq_true rfl) ?_ | refine And.intro (Int.natCast_nonneg _) ?_ | refine fun (_ : Nat) => ?_ | refine Ord.go ?_ | refine Run.go rfl ?_ | refine Cont.go rfl ?_ | refine OrdP.go ?_)
  refine ACall.ret (order_spec p at_ hp) ?_
  repeat (first | refine Ops.go ?_ | refine And.intro rfl ?_ | refine And.intro (Nat.le_of_ble_eq_true rfl) ?_ | refine And.intro (Int.natCast_nonneg _) ?_ | refine fun (_ : Nat) => ?_ | refine Ord.go ?_ | refine Run.go rfl ?_ | refine Cont.go rfl ?_ | refine OrdP.go ?_)
  exact ⟨_, [], FinOk.drop _ _, rfl, rfl⟩

structure Sn where
  p : ByteArray
  d : ByteArray
  v : Int
  deriving DecidableEq
def enc (s : Sn) : AV := .agg [.str s.p, .str s.d, .int .i64 s.v]
abbrev rdo (xs : List Sn) (n : Nat) : AV := .ro 3 (xs.map enc) n

theorem enc_at (xs : List Sn) (i : Nat) (x : Sn) (h : xs[i]? = some x) : (xs.map enc)[i]? = some (enc x) := by
  rw [List.getElem?_map, h]; rfl

/-- What a search finds: where the part that is less ends, if the list is in order; and whether the place stands there. -/
def Found (xs : List Sn) (n : Nat) (at_ : ByteArray) (i : Nat) (b : Bool) : Prop :=
  i ≤ n ∧ (i = 0 ∨ ∃ x, xs[i - 1]? = some x ∧ orderB x.p at_ < 0) ∧ (i = n ∨ ∃ x, xs[i]? = some x ∧ ¬ orderB x.p at_ < 0) ∧ (b = true ↔ i < n ∧ ∃ x, xs[i]? = some x ∧ orderB x.p at_ = 0)

theorem search_spec (xs : List Sn) (n : Nat) (hn : n ≤ xs.length) (hm : n ≤ 1000) (at_ : ByteArray) (hps : ∀ x ∈ xs, x.p.size ≤ 9223372036854775807) :
    FnSpec C 86 [rdo xs n, .str at_, .any (.func (.func 87) #[] #[])] [] (fun r L' => (∃ i b, Found xs n at_ i b ∧ r = .tuple [.int .i64 (i : Nat), .bool b]) ∧ L' = []) := by
  refine FnSpec.start C_ok Tryd.func86 rfl rfl Tryd.ntmps86 ?_
  repeat (first | refine Ops.go ?_ | refine And.intro rfl ?_ | refine And.intro (Nat.le_of_ble_eq_true rfl) ?_ | refine And.intro (Int.natCast_nonneg _) ?_ | refine fun (_ : Nat) => ?_ | refine Ord.go ?_ | refine Run.go rfl ?_ | refine Cont.go rfl ?_ | refine OrdP.go ?_)
  refine Run.loop (fun k env L => ∃ i j : Nat, k = j - i ∧ i ≤ j ∧ j ≤ n ∧ (i = 0 ∨ ∃ x, xs[i - 1]? = some x ∧ orderB x.p at_ < 0) ∧ (j = n ∨ ∃ x, xs[j]? = some x ∧ ¬ orderB x.p at_ < 0) ∧
      env = [rdo xs n, .str at_, .any (.func (.func 87) #[] #[]), .junk, .junk, .junk, .junk, .junk, .int .i64 n, .int .i64 i, .int .i64 j, .junk, .junk, .junk, .junk, .junk, .junk, .junk, .junk, .junk, .junk, .junk, .junk, .junk, .junk, .junk, .junk, .junk, .junk, .junk, .junk, .junk, .junk, .junk, .junk, .junk, .junk, .junk, .junk, .junk, .junk, .junk, .junk, .junk, .junk, .junk, .junk, .junk, .junk] ∧ L = []) n
    [rdo xs n, .str at_, .any (.func (.func 87) #[] #[]), .junk, .junk, .junk, .junk, .junk, .int .i64 n, .int .i64 0, .int .i64 n, .junk, .junk, .junk, .junk, .junk, .junk, .junk, .junk, .junk, .junk, .junk, .junk, .junk, .junk, .junk, .junk, .junk, .junk, .junk, .junk, .junk, .junk, .junk, .junk, .junk, .junk, .junk, .junk, .junk, .junk, .junk, .junk, .junk, .junk, .junk, .junk, .junk, .junk] ?_ ⟨0, n, by omega, by omega, by omega, .inl rfl, .inl rfl, rfl, rfl⟩ ?_
  · repeat (first | exact trivial | refine ⟨.inl rfl, ?_⟩ | refine ⟨.inr rfl, ?_⟩)
  rintro k env L ⟨i, j, rfl, hij, hjn, hi, hj, rfl, rfl⟩
  repeat (first | refine Ops.go ?_ | refine And.intro rfl ?_ | refine And.intro (Nat.le_of_ble_eq_true rfl) ?_ | refine And.intro (Int.natCast_nonneg _) ?_ | refine fun (_ : Nat) => ?_ | refine Ord.go ?_ | refine Run.go rfl ?_ | refine Cont.go rfl ?_ | refine OrdP.go ?_)
  refine ⟨fun h => ?_, fun h => ?_⟩
  · have h : (i : Int) < (j : Int) := h
    repeat (first | refine Ops.go ?_ | refine And.intro rfl ?_ | refine And.intro (Nat.le_of_ble_eq_true rfl) ?_ | refine And.intro (Int.natCast_nonneg _) ?_ | refine fun (_ : Nat) => ?_ | refine Ord.go ?_ | refine Run.go rfl ?_ | refine Cont.go rfl ?_ | refine OrdP.go ?_)
    refine fun r hr => ?_
    obtain rfl : r = ((i + j : Nat) : Int) := by rw [hr, IntKind.wrap_i64]; omega
    repeat (first | refine Ops.go ?_ | refine And.intro rfl ?_ | refine And.intro (Nat.le_of_ble_eq_true rfl) ?_ | refine And.intro (Int.natCast_nonneg _) ?_ | refine fun (_ : Nat) => ?_ | refine Ord.go ?_ | refine Run.go rfl ?_ | refine Cont.go rfl ?_ | refine OrdP.go ?_)
    refine fun r2 hr2 => ?_
    obtain rfl : r2 = ((i + j : Nat) : Int) := by rw [hr2, IntKind.wrap_u64]; omega
    repeat (first | refine Ops.go ?_ | refine And.intro rfl ?_ | refine And.intro (Nat.le_of_ble_eq_true rfl) ?_ | refine And.intro (Int.natCast_nonneg _) ?_ | refine fun (_ : Nat) => ?_ | refine Ord.go ?_ | refine Run.go rfl ?_ | refine Cont.go rfl ?_ | refine OrdP.go ?_)
    refine fun r3 hr3 => ?_
    obtain rfl : r3 = (((i + j) / 2 : Nat) : Int) := by
      rw [hr3]
      show Int.fdiv ((i + j : Nat) : Int) (2 ^ 1) = _
      rw [Int.fdiv_eq_ediv_of_nonneg _ (by decide)]
      omega
    repeat (first | refine Ops.go ?_ | refine And.intro rfl ?_ | refine And.intro (Nat.le_of_ble_eq_true rfl) ?_ | refine And.intro (Int.natCast_nonneg _) ?_ | refine fun (_ : Nat) => ?_ | refine Ord.go ?_ | refine Run.go rfl ?_ | refine Cont.go rfl ?_ | refine OrdP.go ?_)
    refine fun r4 hr4 => ?_
    obtain rfl : r4 = (((i + j) / 2 : Nat) : Int) := by rw [hr4, IntKind.wrap_i64]; omega
    generalize hmid : (i + j) / 2 = m
    have hm1 : i ≤ m := by omega
    have hm2 : m < j := by omega
    obtain ⟨x, ex⟩ : ∃ x, xs[m]? = some x := ⟨xs[m], List.getElem?_eq_getElem (by omega)⟩
    have hsz := hps x (List.mem_of_getElem? ex)
    repeat (first | refine Ops.go ?_ | refine And.intro rfl ?_ | refine And.intro (Nat.le_of_ble_eq_true rfl) ?_ | refine And.intro (Int.natCast_nonneg _) ?_ | refine fun (_ : Nat) => ?_ | refine Ord.go ?_ | refine Run.go rfl ?_ | refine Cont.go rfl ?_ | refine OrdP.go ?_)
    refine ⟨show (m : Int) < (n : Int) by omega, enc x, enc_at _ _ _ ex, ?_⟩
    repeat (first | refine Ops.go ?_ | refine And.intro rfl ?_ | refine And.intro (Nat.le_of_ble_eq_true rfl) ?_ | refine And.intro (Int.natCast_nonneg _) ?_ | refine fun (_ : Nat) => ?_ | refine Ord.go ?_ | refine Run.go rfl ?_ | refine Cont.go rfl ?_ | refine OrdP.go ?_)
    refine ACall.ret (has1_spec x.p x.d x.v at_ hsz) ?_
    repeat (first | refine Ops.go ?_ | refine And.intro rfl ?_ | refine And.intro (Nat.le_of_ble_eq_true rfl) ?_ | refine And.intro (Int.natCast_nonneg _) ?_ | refine fun (_ : Nat) => ?_ | refine Ord.go ?_ | refine Run.go rfl ?_ | refine Cont.go rfl ?_ | refine OrdP.go ?_)
    refine ⟨fun hc => ?_, fun hc => ?_⟩
    · have hc : orderB x.p at_ < 0 := hc
      repeat (first | refine Ops.go ?_ | refine And.intro rfl ?_ | refine And.intro (Nat.le_of_ble_eq_true rfl) ?_ | refine And.intro (Int.natCast_nonneg _) ?_ | refine fun (_ : Nat) => ?_ | refine Ord.go ?_ | refine Run.go rfl ?_ | refine Cont.go rfl ?_ | refine OrdP.go ?_)
      refine fun r5 hr5 => ?_
      obtain rfl := add1 hr5 (by omega)
      repeat (first | refine Ops.go ?_ | refine And.intro rfl ?_ | refine And.intro (Nat.le_of_ble_eq_true rfl) ?_ | refine And.intro (Int.natCast_nonneg _) ?_ | refine fun (_ : Nat) => ?_ | refine Ord.go ?_ | refine Run.go rfl ?_ | refine Cont.go rfl ?_ | refine OrdP.go ?_)
      refine Cont.lp ?_
      refine ⟨j - (m + 1), [rdo xs n, .str at_, .any (.func (.func 87) #[] #[]), .junk, .junk, .junk, .junk, .junk, .int .i64 n, .int .i64 (m + 1 : Nat), .int .i64 j, .junk, .junk, .junk, .junk, .junk, .junk, .junk, .junk, .junk, .junk, .junk, .junk, .junk, .junk, .junk, .junk, .junk, .junk, .junk, .junk, .junk, .junk, .junk, .junk, .junk, .junk, .junk, .junk, .junk, .junk, .junk, .junk, .junk, .junk, .junk, .junk, .junk, .junk], 99, by omega, ?_, ⟨m + 1, j, rfl, by omega, by omega, .inr ⟨x, ex, hc⟩, hj, rfl, rfl⟩⟩
      repeat (first | exact trivial | refine ⟨.inl rfl, ?_⟩ | refine ⟨.inr rfl, ?_⟩)
    · have hc : ¬ orderB x.p at_ < 0 := hc
      repeat (first | refine Ops.go ?_ | refine And.intro rfl ?_ | refine And.intro (Nat.le_of_ble_eq_true rfl) ?_ | refine And.intro (Int.natCast_nonneg _) ?_ | refine fun (_ : Nat) => ?_ | refine Ord.go ?_ | refine Run.go rfl ?_ | refine Cont.go rfl ?_ | refine OrdP.go ?_)
      refine Cont.lp ?_
      refine ⟨m - i, [rdo xs n, .str at_, .any (.func (.func 87) #[] #[]), .junk, .junk, .junk, .junk, .junk, .int .i64 n, .int .i64 i, .int .i64 m, .junk, .junk, .junk, .junk, .junk, .junk, .junk, .junk, .junk, .junk, .junk, .junk, .junk, .junk, .junk, .junk, .junk, .junk, .junk, .junk, .junk, .junk, .junk, .junk, .junk, .junk, .junk, .junk, .junk, .junk, .junk, .junk, .junk, .junk, .junk, .junk, .junk, .junk], 99, by omega, ?_, ⟨i, m, rfl, by omega, by omega, hi, .inr ⟨x, ex, hc⟩, rfl, rfl⟩⟩
      repeat (first | exact trivial | refine ⟨.inl rfl, ?_⟩ | refine ⟨.inr rfl, ?_⟩)
  · have h : ¬ (i : Int) < (j : Int) := h
    have hij2 : i = j := by omega
    subst hij2
    repeat (first | refine Ops.go ?_ | refine And.intro rfl ?_ | refine And.intro (Nat.le_of_ble_eq_true rfl) ?_ | refine And.intro (Int.natCast_nonneg _) ?_ | refine fun (_ : Nat) => ?_ | refine Ord.go ?_ | refine Run.go rfl ?_ | refine Cont.go rfl ?_ | refine OrdP.go ?_)
    refine ⟨fun h2 => ?_, fun h2 => ?_⟩
    · have h2 : (i : Int) < (n : Int) := h2
      obtain ⟨x, ex⟩ : ∃ x, xs[i]? = some x := ⟨xs[i], List.getElem?_eq_getElem (by omega)⟩
      have hsz := hps x (List.mem_of_getElem? ex)
      repeat (first | refine Ops.go ?_ | refine And.intro rfl ?_ | refine And.intro (Nat.le_of_ble_eq_true rfl) ?_ | refine And.intro (Int.natCast_nonneg _) ?_ | refine fun (_ : Nat) => ?_ | refine Ord.go ?_ | refine Run.go rfl ?_ | refine Cont.go rfl ?_ | refine OrdP.go ?_)
      refine ⟨h2, enc x, enc_at _ _ _ ex, ?_⟩
      repeat (first | refine Ops.go ?_ | refine And.intro rfl ?_ | refine And.intro (Nat.le_of_ble_eq_true rfl) ?_ | refine And.intro (Int.natCast_nonneg _) ?_ | refine fun (_ : Nat) => ?_ | refine Ord.go ?_ | refine Run.go rfl ?_ | refine Cont.go rfl ?_ | refine OrdP.go ?_)
      refine ACall.ret (has1_spec x.p x.d x.v at_ hsz) ?_
      repeat (first | refine Ops.go ?_ | refine And.intro rfl ?_ | refine And.intro (Nat.le_of_ble_eq_true rfl) ?_ | refine And.intro (Int.natCast_nonneg _) ?_ | refine fun (_ : Nat) => ?_ | refine Ord.go ?_ | refine Run.go rfl ?_ | refine Cont.go rfl ?_ | refine OrdP.go ?_)
      refine ⟨fun hc => ?_, fun hc => ?_⟩
      · have hc : orderB x.p at_ = 0 := hc
        repeat (first | refine Ops.go ?_ | refine And.intro rfl ?_ | refine And.intro (Nat.le_of_ble_eq_true rfl) ?_ | refine And.intro (Int.natCast_nonneg _) ?_ | refine fun (_ : Nat) => ?_ | refine Ord.go ?_ | refine Run.go rfl ?_ | refine Cont.go rfl ?_ | refine OrdP.go ?_)
        exact ⟨_, [], FinOk.drop _ _, ⟨i, true, ⟨by omega, hi, hj, by simp only [true_iff]; exact ⟨by omega, x, ex, hc⟩⟩, rfl⟩, rfl⟩
      · have hc : ¬ orderB x.p at_ = 0 := hc
        repeat (first | refine Ops.go ?_ | refine And.intro rfl ?_ | refine And.intro (Nat.le_of_ble_eq_true rfl) ?_ | refine And.intro (Int.natCast_nonneg _) ?_ | refine fun (_ : Nat) => ?_ | refine Ord.go ?_ | refine Run.go rfl ?_ | refine Cont.go rfl ?_ | refine OrdP.go ?_)
        exact ⟨_, [], FinOk.drop _ _, ⟨i, false, ⟨by omega, hi, hj, by
          simp only [Bool.false_eq_true, false_iff]
          rintro ⟨_, y, ey, hy⟩
          rw [ex] at ey; cases ey; exact hc hy⟩, rfl⟩, rfl⟩
    · have h2 : ¬ (i : Int) < (n : Int) := h2
      repeat (first | refine Ops.go ?_ | refine And.intro rfl ?_ | refine And.intro (Nat.le_of_ble_eq_true rfl) ?_ | refine And.intro (Int.natCast_nonneg _) ?_ | refine fun (_ : Nat) => ?_ | refine Ord.go ?_ | refine Run.go rfl ?_ | refine Cont.go rfl ?_ | refine OrdP.go ?_)
      exact ⟨_, [], FinOk.drop _ _, ⟨i, false, ⟨by omega, hi, hj, by
        simp only [Bool.false_eq_true, false_iff]
        rintro ⟨h3, _⟩
        omega⟩, rfl⟩, rfl⟩

theorem has_spec (xs : List Sn) (n : Nat) (hn : n ≤ xs.length) (hm : n ≤ 1000) (at_ : ByteArray) (hps : ∀ x ∈ xs, x.p.size ≤ 9223372036854775807) :
    FnSpec C 63 [rdo xs n, .str at_] [] (fun r L' => (∃ i b, Found xs n at_ i b ∧ r = .tuple [.int .i64 (i : Nat), .bool b]) ∧ L' = []) := by
  refine FnSpec.start C_ok Tryd.func63 rfl rfl Tryd.ntmps63 ?_
  repeat (first | refine Ops.go ?_ | refine And.intro rfl ?_ | refine And.intro (Nat.le_of_ble_eq_true rfl) ?_ | refine And.intro (Int.natCast_nonneg _) ?_ | refine fun (_ : Nat) => ?_ | refine Ord.go ?_ | refine Run.go rfl ?_ | refine Cont.go rfl ?_ | refine OrdP.go ?_)
  refine ACall.pure _ (search_spec xs n hn hm at_ hps) ?_
  rintro r L' ⟨⟨i, b, hf, rfl⟩, rfl⟩
  refine ⟨_, Sub.refl _, ?_⟩
  repeat (first | refine Ops.go ?_ | refine And.intro rfl ?_ | refine And.intro (Nat.le_of_ble_eq_true rfl) ?_ | refine And.intro (Int.natCast_nonneg _) ?_ | refine fun (_ : Nat) => ?_ | refine Ord.go ?_ | refine Run.go rfl ?_ | refine Cont.go rfl ?_ | refine OrdP.go ?_)
  exact ⟨_, [], FinOk.drop _ _, ⟨i, b, hf, rfl⟩, rfl⟩

end Go.Proofs.YtfohedaadncefaaDoor.HBT
/- The order of places: plain laws. -/
namespace Go.Proofs.YtfohedaadncefaaDoor.HBT
open Go Go.Proofs.YtfohedaadncefaaDoor.HB Go.RowKit
set_option maxRecDepth 8000

theorem rank_inj {a b : UInt8} (h : rank a = rank b) : a = b := by
  unfold rank at h
  apply UInt8.toNat_inj.1
  split at h <;> split at h <;> omega

theorem orderL_eq : ∀ {a b : List UInt8}, orderL a b = 0 ↔ a = b
  | [], [] => by simp [orderL]
  | [], _ :: _ => by simp [orderL]
  | _ :: _, [] => by simp [orderL]
  | x :: a, y :: b => by
    have ih := @orderL_eq a b
    simp only [orderL, List.cons.injEq]
    by_cases h1 : rank x < rank y
    · rw [if_pos h1]
      constructor
      · intro h; cases h
      · rintro ⟨rfl, _⟩; omega
    · rw [if_neg h1]
      by_cases h2 : rank y < rank x
      · rw [if_pos h2]
        constructor
        · intro h; cases h
        · rintro ⟨rfl, _⟩; omega
      · rw [if_neg h2, ih]
        have : x = y := rank_inj (by omega)
        simp [this]
theorem orderL_swap : ∀ (a b : List UInt8), orderL b a = - orderL a b
  | [], [] => rfl
  | [], _ :: _ => rfl
  | _ :: _, [] => rfl
  | x :: a, y :: b => by
    have ih := orderL_swap a b
    simp only [orderL]
    by_cases h1 : rank x < rank y
    · rw [if_pos h1, if_neg (by omega), if_pos h1]; rfl
    · by_cases h2 : rank y < rank x
      · rw [if_pos h2, if_neg h1, if_pos h2]
      · rw [if_neg h1, if_neg h2, if_neg h2, if_neg h1, ih]
theorem orderL_trans : ∀ {a b c : List UInt8}, orderL a b < 0 → orderL b c < 0 → orderL a c < 0
  | [], [], _, h, _ => by simp [orderL] at h
  | [], _ :: _, [], _, h => by simp [orderL] at h
  | [], _ :: _, _ :: _, _, _ => by simp [orderL]
  | _ :: _, [], _, h, _ => by simp [orderL] at h
  | _ :: _, _ :: _, [], _, h => by simp [orderL] at h
  | x :: a, y :: b, z :: c, h, k => by
    have ih := @orderL_trans a b c
    simp only [orderL] at h k ⊢
    by_cases h1 : rank x < rank y
    · by_cases k1 : rank y < rank z
      · rw [if_pos (by omega)]; decide
      · rw [if_neg k1] at k
        by_cases k2 : rank z < rank y
        · rw [if_pos k2] at k; exact absurd k (by decide)
        · rw [if_pos (by omega)]; decide
    · rw [if_neg h1] at h
      by_cases h2 : rank y < rank x
      · rw [if_pos h2] at h; exact absurd h (by decide)
      · rw [if_neg h2] at h
        by_cases k1 : rank y < rank z
        · rw [if_pos (by omega)]; decide
        · rw [if_neg k1] at k
          by_cases k2 : rank z < rank y
          · rw [if_pos k2] at k; exact absurd k (by decide)
          · rw [if_neg k2] at k
            rw [if_neg (by omega), if_neg (by omega)]
            exact ih h k
theorem orderL_prefix : ∀ (a b : List UInt8), b ≠ [] → orderL a (a ++ b) < 0
  | [], [], h => absurd rfl h
  | [], _ :: _, _ => by simp [orderL]
  | x :: a, b, h => by
    have := orderL_prefix a b h
    simp only [List.cons_append, orderL, Int.lt_irrefl, if_false]
    exact this

/-- In order, none twice. -/
def Sorted (xs : List Sn) (n : Nat) : Prop := ∀ (j k : Nat) (x y : Sn), j < k → k < n → xs[j]? = some x → xs[k]? = some y → orderB x.p y.p < 0

theorem found_iff {xs : List Sn} {n : Nat} {at_ : ByteArray} {i : Nat} {b : Bool} (h : Found xs n at_ i b) (hs : Sorted xs n) : b = true ↔ ∃ k x, k < n ∧ xs[k]? = some x ∧ x.p = at_ := by
  obtain ⟨h0, h1, h2, h3⟩ := h
  rw [h3]
  constructor
  · rintro ⟨hi, x, ex, hx⟩
    exact ⟨i, x, hi, ex, bytes_inj (orderL_eq.1 hx)⟩
  · rintro ⟨k, x, hk, ex, hx⟩
    have hx0 : orderB x.p at_ = 0 := orderL_eq.2 (by rw [hx])
    have hki : k = i := by
      rcases Nat.lt_trichotomy k i with hlt | heq | hgt
      · exfalso
        rcases h1 with h1 | ⟨y, ey, hy⟩
        · omega
        · by_cases hk1 : k = i - 1
          · subst hk1; rw [ex] at ey; cases ey; rw [hx0] at hy; exact absurd hy (by decide)
          · have := hs k (i - 1) x y (by omega) (by omega) ex ey
            have h4 : orderB x.p at_ < 0 := orderL_trans this hy
            rw [hx0] at h4
            exact absurd h4 (by decide)
      · exact heq
      · exfalso
        rcases h2 with h2 | ⟨y, ey, hy⟩
        · omega
        · have := hs i k y x hgt hk ey ex
          rw [hx] at this
          exact hy this
    subst hki
    exact ⟨hk, x, ex, hx0⟩

end Go.Proofs.YtfohedaadncefaaDoor.HBT
