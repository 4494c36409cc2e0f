/- The contracts of the program's own texts on names and places, part one. -/
import Derived.Test.YtcbjcmigecocgaaGreatDoorTwTy
namespace Go.Proofs.YtcbjcmigecocgaaGreatDoor.HBT
open Go Go.Proofs.YtcbjcmigecocgaaGreatDoor.HB Go.RowKit
set_option maxRecDepth 8000

theorem add1 {r : Int} {i : Nat} (h : r = IntKind.i64.wrap ((i : Int) + 1)) (hb : i < 9223372036854775807) : r = ((i + 1 : Nat) : Int) := by
  rw [h, IntKind.wrap_i64]; omega

def rank (c : UInt8) : Int := if c.toNat = 47 then -1 else c.toNat
theorem weight_specD (c : UInt8) : FnSpec CD 70 [.int .u8 c.toNat] [] (fun r L' => r = .int .i64 (rank c) ∧ L' = []) := by
  have hc := c.toNat_lt
  refine FnSpec.start CD_ok Tryz.func70 rfl rfl Tryz.ntmps70 ?_
  repeat(first|refine Sp ?_|refine fun(_:Nat)=>?_)
  refine ⟨fun h => ?_, fun h => ?_⟩
  · have h : (c.toNat : Int) = 47 := h
    repeat(first|refine Sp ?_|refine fun(_:Nat)=>?_)
    exact ⟨_, [], FinOk.drop _ _, congrArg (AV.int .i64) (show (-1 : Int) = _ by unfold rank; rw [if_pos (by omega)]), rfl⟩
  · have h : ¬ (c.toNat : Int) = 47 := h
    repeat(first|refine Sp ?_|refine fun(_:Nat)=>?_)
    refine fun r hr => ?_
    have hr : r = (c.toNat : Int) := by rw [hr, IntKind.wrap_i64]; omega
    subst hr
    repeat(first|refine Sp ?_|refine fun(_:Nat)=>?_)
    exact ⟨_, [], FinOk.drop _ _, congrArg (AV.int .i64) (show (c.toNat : Int) = _ by unfold rank; rw [if_neg (by omega)]), rfl⟩
def isNameB (s : ByteArray) : Bool := decide (s ≠ ⟨#[]⟩) && decide (s.size ≤ 16) && decide (s ≠ ⟨#[46]⟩) && decide (s ≠ ⟨#[46, 46]⟩) && s.data.toList.all fun b => nameByte b.toNat

theorem tab_at (c : Nat) (h : c < 128) : namedTab[c]? = some (.int .u8 (if nameByte c then 1 else 0)) := by
  unfold namedTab namedRow
  rw [List.getElem?_map, List.getElem?_map, List.getElem?_range h]
  rfl
theorem byte_all (s : ByteArray) (p : UInt8 → Bool) : s.data.toList.all p = true ↔ ∀ (i : Nat) (h : i < s.size), p s[i] = true := by
  rw [List.all_eq_true]
  constructor
  · intro h i hi
    have hi' : i < s.data.toList.length := by rw [Array.length_toList]; exact hi
    have := h (s.data.toList[i]) (List.getElem_mem hi')
    rw [Array.getElem_toList] at this
    exact this
  · intro h x hx
    obtain ⟨i, hi, rfl⟩ := List.mem_iff_getElem.1 hx
    have hi' : i < s.size := by rw [Array.length_toList] at hi; exact hi
    rw [Array.getElem_toList]
    exact h i hi'
theorem nameByte_lt {c : Nat} (h : nameByte c = true) : c < 128 := by
  unfold nameByte at h
  simp at h
  omega

theorem isName_spec (s : ByteArray) : FnSpec C 51 [.str s] [] (fun r L' => r = .bool (isNameB s) ∧ L' = []) := by
  refine FnSpec.start C_ok Tryz.func51 rfl rfl Tryz.ntmps51 ?_
  repeat(first|refine Sp ?_|refine fun(_:Nat)=>?_)
  refine ⟨fun h => ?_, fun h => ?_⟩
  case' refine_1 =>
    repeat(first|refine Sp ?_|refine fun(_:Nat)=>?_)
    exact ⟨_, [], FinOk.drop _ _, congrArg AV.bool (show false = _ by
      have h : s = ⟨#[]⟩ := h
      simp [isNameB, h]), rfl⟩
  have h0 : ¬ s = ⟨#[]⟩ := h
  repeat(first|refine Sp ?_|refine fun(_:Nat)=>?_)
  refine ⟨fun h => ?_, fun h => ?_⟩
  case' refine_1 =>
    repeat(first|refine Sp ?_|refine fun(_:Nat)=>?_)
    exact ⟨_, [], FinOk.drop _ _, congrArg AV.bool (show false = _ by
      have h : (16 : Int) < (s.size : Int) := h
      have : ¬ s.size ≤ 16 := by omega
      simp [isNameB, this]), rfl⟩
  have h : ¬ (16 : Int) < (s.size : Int) := h
  have h1 : s.size ≤ 16 := by omega
  repeat(first|refine Sp ?_|refine fun(_:Nat)=>?_)
  refine ⟨fun h => ?_, fun h => ?_⟩
  case' refine_1 =>
    repeat(first|refine Sp ?_|refine fun(_:Nat)=>?_)
    exact ⟨_, [], FinOk.drop _ _, congrArg AV.bool (show false = _ by
      have h : s = ⟨#[46]⟩ := h
      subst h
      decide), rfl⟩
  have h2 : ¬ s = ⟨#[46]⟩ := h
  repeat(first|refine Sp ?_|refine fun(_:Nat)=>?_)
  refine ⟨fun h => ?_, fun h => ?_⟩
  case' refine_1 =>
    repeat(first|refine Sp ?_|refine fun(_:Nat)=>?_)
    exact ⟨_, [], FinOk.drop _ _, congrArg AV.bool (show false = _ by
      have h : s = ⟨#[46, 46]⟩ := h
      subst h
      decide), rfl⟩
  have h3 : ¬ s = ⟨#[46, 46]⟩ := h
  repeat(first|refine Sp ?_|refine fun(_:Nat)=>?_)
  refine Run.loop (fun k env L => ∃ i : Nat, k = s.size - i ∧ i ≤ s.size ∧ (∀ (j : Nat) (h : j < s.size), j < i → nameByte s[j].toNat = true) ∧ env = [.str s, .junk, .junk, .junk, .junk, .junk, .junk, .junk, .junk, .junk, .junk, .junk, .junk, .junk, .junk, .junk, .junk, .junk, .junk, .junk, .int .i64 s.size, .int .i64 i, .junk, .junk, .junk, .junk, .junk, .junk, .junk, .junk, .junk, .junk, .junk, .junk, .junk, .junk, .junk] ∧ L = []) s.size [.str s, .junk, .junk, .junk, .junk, .junk, .junk, .junk, .junk, .junk, .junk, .junk, .junk, .junk, .junk, .junk, .junk, .junk, .junk, .junk, .int .i64 s.size, .int .i64 0, .junk, .junk, .junk, .junk, .junk, .junk, .junk, .junk, .junk, .junk, .junk, .junk, .junk, .junk, .junk] ?_ ⟨0, by omega, by omega, (fun j _ hj => absurd hj (Nat.not_lt_zero j)), rfl, rfl⟩ ?_
  · repeat(first|exact trivial|refine ⟨.inl rfl, ?_⟩|refine ⟨.inr rfl, ?_⟩)
  rintro k env L ⟨i, rfl, hi, hP, rfl, rfl⟩
  repeat(first|refine Sp ?_|refine fun(_:Nat)=>?_)
  refine ⟨fun h => ?_, fun h => ?_⟩
  · have h : (i : Int) < (s.size : Int) := h
    have hin : i < s.size := by omega
    repeat(first|refine Sp ?_|refine fun(_:Nat)=>?_)
    refine ⟨hin, ?_⟩
    repeat(first|refine Sp ?_|refine fun(_:Nat)=>?_)
    have hbad : nameByte s[i].toNat = false → isNameB s = false := fun hb => by
      rw [Bool.eq_false_iff]
      intro e
      unfold isNameB at e
      simp only [Bool.and_eq_true] at e
      have := (byte_all s _).1 e.2 i hin
      rw [hb] at this
      cases this
    refine ⟨fun hc => ?_, fun hc => ?_⟩
    · have hc : (128 : Int) ≤ (s[i].toNat : Int) := hc
      repeat(first|refine Sp ?_|refine fun(_:Nat)=>?_)
      exact ⟨_, [], FinOk.drop _ _, congrArg AV.bool (show false = _ by
        refine (hbad ?_).symm
        cases hb : nameByte s[i].toNat with
        | false => rfl
        | true => have := nameByte_lt hb; omega), rfl⟩
    · have hc : ¬ (128 : Int) ≤ (s[i].toNat : Int) := hc
      repeat(first|refine Sp ?_|refine fun(_:Nat)=>?_)
      refine ⟨hin, ?_⟩
      repeat(first|refine Sp ?_|refine fun(_:Nat)=>?_)
      refine ⟨show (s[i].toNat : Int) < ((128 : Nat) : Int) by omega, _, tab_at s[i].toNat (by omega), ?_⟩
      repeat(first|refine Sp ?_|refine fun(_:Nat)=>?_)
      cases hb : nameByte s[i].toNat with
      | false =>
        refine ⟨fun _ => ?_, fun hh => absurd rfl hh⟩
        repeat(first|refine Sp ?_|refine fun(_:Nat)=>?_)
        exact ⟨_, [], FinOk.drop _ _, congrArg AV.bool (show false = _ from (hbad hb).symm), rfl⟩
      | true =>
        refine ⟨fun hh => absurd hh (by decide), fun _ => ?_⟩
        repeat(first|refine Sp ?_|refine fun(_:Nat)=>?_)
        refine fun r hr => ?_
        obtain rfl := add1 hr (by omega)
        repeat(first|refine Sp ?_|refine fun(_:Nat)=>?_)
        refine Cont.lp ?_
        refine ⟨s.size - (i + 1), [.str s, .junk, .junk, .junk, .junk, .junk, .junk, .junk, .junk, .junk, .junk, .junk, .junk, .junk, .junk, .junk, .junk, .junk, .junk, .junk, .int .i64 s.size, .int .i64 (i + 1 : Nat), .junk, .junk, .junk, .junk, .junk, .junk, .junk, .junk, .junk, .junk, .junk, .junk, .junk, .junk, .junk], 99, by omega, ?_, ⟨i + 1, rfl, by omega, ?_, rfl, rfl⟩⟩
        · repeat(first|exact trivial|refine ⟨.inl rfl, ?_⟩|refine ⟨.inr rfl, ?_⟩)
        · intro j hj hji
          by_cases e : j = i
          · subst e; exact hb
          · exact hP j hj (by omega)
  · have h : ¬ (i : Int) < (s.size : Int) := h
    repeat(first|refine Sp ?_|refine fun(_:Nat)=>?_)
    exact ⟨_, [], FinOk.drop _ _, congrArg AV.bool (show true = _ by
      symm
      unfold isNameB
      simp only [Bool.and_eq_true, decide_eq_true_eq]
      exact ⟨⟨⟨⟨h0, h1⟩, h2⟩, h3⟩, (byte_all s _).2 fun j hj => hP j hj (by omega)⟩), rfl⟩

def orderL : List UInt8 → List UInt8 → Int
  | [], [] => 0
  | [], _ :: _ => -1
  | _ :: _, [] => 1
  | x :: a, y :: b => if rank x < rank y then -1 else if rank y < rank x then 1 else orderL a b
abbrev orderB (a b : ByteArray) : Int := orderL a.data.toList b.data.toList
theorem byte_at (s : ByteArray) (i : Nat) (h : i < s.size) : s.data.toList.drop i = s[i] :: s.data.toList.drop (i + 1) := by
  have hi' : i < s.data.toList.length := by rw [Array.length_toList]; exact h
  rw [List.drop_eq_getElem_cons hi', Array.getElem_toList]
  rfl

theorem order_specD (a b : ByteArray) (ha : a.size ≤ 9223372036854775807) : FnSpec CD 58 [.str a, .str b] [] (fun r L' => r = .int .i64 (orderB a b) ∧ L' = []) := by
  refine FnSpec.start CD_ok Tryz.func58 rfl rfl Tryz.ntmps58 ?_
  repeat(first|refine Sp ?_|refine fun(_:Nat)=>?_)
  refine fun m hm => ?_
  obtain ⟨n, rfl, hna, hnb, hnn⟩ : ∃ n : Nat, m = n ∧ n ≤ a.size ∧ n ≤ b.size ∧ (n = a.size ∨ n = b.size) := by
    refine ⟨min a.size b.size, ?_, by omega, by omega, by omega⟩
    rw [hm]
    split <;> omega
  repeat(first|refine Sp ?_|refine fun(_:Nat)=>?_)
  have hla : a.data.toList.length = a.size := by rw [Array.length_toList]; rfl
  have hlb : b.data.toList.length = b.size := by rw [Array.length_toList]; rfl
  refine Run.loop (fun k env L => ∃ i : Nat, k = n - i ∧ i ≤ n ∧ (orderB a b = orderL (a.data.toList.drop i) (b.data.toList.drop i)) ∧ env = [.str a, .str b, .junk, .junk, .junk, .junk, .junk, .junk, .junk, .junk, .junk, .junk, .int .i64 n, .int .i64 i, .junk, .junk, .junk, .junk, .junk, .junk, .junk, .junk, .junk, .junk, .junk, .junk, .junk, .junk, .junk, .junk, .junk, .junk, .junk, .junk, .junk, .junk, .junk, .junk, .junk, .junk, .junk, .junk, .junk] ∧ L = []) n [.str a, .str b, .junk, .junk, .junk, .junk, .junk, .junk, .junk, .junk, .junk, .junk, .int .i64 n, .int .i64 0, .junk, .junk, .junk, .junk, .junk, .junk, .junk, .junk, .junk, .junk, .junk, .junk, .junk, .junk, .junk, .junk, .junk, .junk, .junk, .junk, .junk, .junk, .junk, .junk, .junk, .junk, .junk, .junk, .junk] ?_ ⟨0, by omega, by omega, rfl, rfl, rfl⟩ ?_
  · repeat(first|exact trivial|refine ⟨.inl rfl, ?_⟩|refine ⟨.inr rfl, ?_⟩)
  rintro k env L ⟨i, rfl, hi, hP, rfl, rfl⟩
  repeat(first|refine Sp ?_|refine fun(_:Nat)=>?_)
  refine ⟨fun h => ?_, fun h => ?_⟩
  · have h : (i : Int) < (n : Int) := h
    have hin : i < n := by omega
    have hia : i < a.size := by omega
    have hib : i < b.size := by omega
    have e1 := byte_at a i hia
    have e2 := byte_at b i hib
    repeat(first|refine Sp ?_|refine fun(_:Nat)=>?_)
    refine Run.drawn true [0, 1, 2, 4, 5, 6, 3, 7, 8, 9] (by kernel_rfl) ?_
    repeat(first|refine Sp ?_|refine fun(_:Nat)=>?_)
    refine ⟨hia, ?_⟩
    repeat(first|refine Sp ?_|refine fun(_:Nat)=>?_)
    refine ⟨hib, ?_⟩
    repeat(first|refine Sp ?_|refine fun(_:Nat)=>?_)
    refine ACallQ.ret (weight_specD a[i]) ?_
    repeat(first|refine Sp ?_|refine fun(_:Nat)=>?_)
    refine ACallQ.ret (weight_specD b[i]) ?_
    repeat(first|refine Sp ?_|refine fun(_:Nat)=>?_)
    refine ⟨fun hl => ?_, fun hl => ?_⟩
    · have hl : rank a[i] < rank b[i] := hl
      repeat(first|refine Sp ?_|refine fun(_:Nat)=>?_)
      exact ⟨_, [], FinOk.drop _ _, congrArg (AV.int .i64) (show (-1 : Int) = _ by rw [hP, e1, e2]; simp only [orderL, hl, if_true]), rfl⟩
    · have hl : ¬ rank a[i] < rank b[i] := hl
      repeat(first|refine Sp ?_|refine fun(_:Nat)=>?_)
      refine ⟨fun hg => ?_, fun hg => ?_⟩
      · have hg : rank b[i] < rank a[i] := hg
        repeat(first|refine Sp ?_|refine fun(_:Nat)=>?_)
        exact ⟨_, [], FinOk.drop _ _, congrArg (AV.int .i64) (show (1 : Int) = _ by rw [hP, e1, e2]; simp only [orderL, hl, hg, if_true, if_false]), rfl⟩
      · have hg : ¬ rank b[i] < rank a[i] := hg
        repeat(first|refine Sp ?_|refine fun(_:Nat)=>?_)
        refine fun r hr => ?_
        obtain rfl := add1 hr (by omega)
        repeat(first|refine Sp ?_|refine fun(_:Nat)=>?_)
        refine Cont.lp ?_
        refine ⟨n - (i + 1), [.str a, .str b, .junk, .junk, .junk, .junk, .junk, .junk, .junk, .junk, .junk, .junk, .int .i64 n, .int .i64 (i + 1 : Nat), .junk, .junk, .junk, .junk, .junk, .junk, .junk, .junk, .junk, .junk, .junk, .junk, .junk, .junk, .junk, .junk, .junk, .junk, .junk, .junk, .junk, .junk, .junk, .junk, .junk, .junk, .junk, .junk, .junk], 99, by omega, ?_, ⟨i + 1, rfl, by omega, ?_, rfl, rfl⟩⟩
        · repeat(first|exact trivial|refine ⟨.inl rfl, ?_⟩|refine ⟨.inr rfl, ?_⟩)
        · rw [hP, e1, e2]; simp only [orderL, hl, hg, if_false]
  · have h : ¬ (i : Int) < (n : Int) := h
    have hin : i = n := by omega
    subst hin
    have fin : orderB a b = if (a.size : Int) < b.size then -1 else if (b.size : Int) < a.size then 1 else 0 := by
      rw [hP]
      rcases hnn with e | e
      · rw [List.drop_of_length_le (l := a.data.toList) (by omega)]
        by_cases hab : a.size < b.size
        · rw [byte_at b i (by omega), if_pos (by omega)]; rfl
        · rw [List.drop_of_length_le (l := b.data.toList) (by omega), if_neg (by omega), if_neg (by omega)]; rfl
      · rw [List.drop_of_length_le (l := b.data.toList) (by omega)]
        by_cases hab : b.size < a.size
        · rw [byte_at a i (by omega), if_neg (by omega), if_pos (by omega)]; rfl
        · rw [List.drop_of_length_le (l := a.data.toList) (by omega), if_neg (by omega), if_neg (by omega)]; rfl
    repeat(first|refine Sp ?_|refine fun(_:Nat)=>?_)
    refine ⟨fun h => ?_, fun h => ?_⟩
    · have h : (a.size : Int) < (b.size : Int) := h
      repeat(first|refine Sp ?_|refine fun(_:Nat)=>?_)
      exact ⟨_, [], FinOk.drop _ _, congrArg (AV.int .i64) (show (-1 : Int) = _ by rw [fin, if_pos h]), rfl⟩
    · have h : ¬ (a.size : Int) < (b.size : Int) := h
      repeat(first|refine Sp ?_|refine fun(_:Nat)=>?_)
      refine ⟨fun h2 => ?_, fun h2 => ?_⟩
      · have h2 : (b.size : Int) < (a.size : Int) := h2
        repeat(first|refine Sp ?_|refine fun(_:Nat)=>?_)
        exact ⟨_, [], FinOk.drop _ _, congrArg (AV.int .i64) (show (1 : Int) = _ by rw [fin, if_neg h, if_pos h2]), rfl⟩
      · have h2 : ¬ (b.size : Int) < (a.size : Int) := h2
        repeat(first|refine Sp ?_|refine fun(_:Nat)=>?_)
        exact ⟨_, [], FinOk.drop _ _, congrArg (AV.int .i64) (show (0 : Int) = _ by rw [fin, if_neg h, if_neg h2]), rfl⟩

end Go.Proofs.YtcbjcmigecocgaaGreatDoor.HBT
/- The contracts of the program's own texts on names and places, part two: Parse. -/
namespace Go.Proofs.YtcbjcmigecocgaaGreatDoor.HBT
open Go Go.Proofs.YtcbjcmigecocgaaGreatDoor.HB Go.RowKit
set_option maxRecDepth 8000

def slash : ByteArray := ⟨#[47]⟩
def begins47 (s : ByteArray) : Bool := Lib.hasPrefix s.data.toList [47]
def cutB (s : ByteArray) : List ByteArray := pieces (s.extract 1 s.size)
def parseE (s : ByteArray) : Int :=
  if 102 < s.size then 2 else if s = slash then 0 else if begins47 s = false then 10 else if 6 < (cutB s).length then 10 else if (cutB s).all isNameB then 0 else 10
def namesOf (s : ByteArray) : List ByteArray := if s = slash then [] else cutB s

def ParseQ (s : ByteArray) (r : AV) (L' : AHeap) : Prop :=
  (parseE s ≠ 0 ∧ r = .tuple [.nils, .int .i64 (parseE s)] ∧ L' = []) ∨ (parseE s = 0 ∧ namesOf s = [] ∧ r = .tuple [.nils, .int .i64 0] ∧ L' = []) ∨
  (parseE s = 0 ∧ (namesOf s).length ≤ 6 ∧ ∃ g, r = .tuple [.sl 0 g (namesOf s).length (namesOf s).length, .int .i64 0] ∧ L' = [(g, .row 9 1 (namesOf s).length ((namesOf s).map .str))])

theorem hasPrefix_size {l : List UInt8} (h : Lib.hasPrefix l [47] = true) : 1 ≤ l.length := by
  cases l with
  | nil => cases h
  | cons => simp

theorem parse_spec (s : ByteArray) : FnSpec C 28 [.str s] [] (ParseQ s) := by
  refine FnSpec.start C_ok Tryz.func28 rfl rfl Tryz.ntmps28 ?_
  repeat(first|refine Sp ?_|refine fun(_:Nat)=>?_)
  refine ⟨fun h => ?_, fun h => ?_⟩
  case' refine_1 =>
    have h : (102 : Int) < (s.size : Int) := h
    have e : parseE s = 2 := by unfold parseE; rw [if_pos (by omega)]
    repeat(first|refine Sp ?_|refine fun(_:Nat)=>?_)
    exact ⟨_, [], FinOk.drop _ _, .inl ⟨by rw [e]; decide, by rw [e]; rfl, rfl⟩⟩
  have h : ¬ (102 : Int) < (s.size : Int) := h
  have h1 : ¬ 102 < s.size := by omega
  repeat(first|refine Sp ?_|refine fun(_:Nat)=>?_)
  refine ⟨fun h => ?_, fun h => ?_⟩
  case' refine_1 =>
    have h : s = slash := h
    repeat(first|refine Sp ?_|refine fun(_:Nat)=>?_)
    exact ⟨_, [], FinOk.drop _ _, .inr (.inl ⟨by unfold parseE; rw [if_neg h1, if_pos h], by unfold namesOf; rw [if_pos h], rfl, rfl⟩)⟩
  have h2 : ¬ s = slash := h
  have hp := hasPrefix_spec s slash []
  cases hb : begins47 s with
  | false =>
    rw [show Lib.hasPrefix s.data.toList slash.data.toList = false from hb] at hp
    repeat(first|refine Sp ?_|refine fun(_:Nat)=>?_)
    refine ACall.ret hp ?_
    repeat(first|refine Sp ?_|refine fun(_:Nat)=>?_)
    have e : parseE s = 10 := by unfold parseE; rw [if_neg h1, if_neg h2, if_pos hb]
    exact ⟨_, [], FinOk.drop _ _, .inl ⟨by rw [e]; decide, by rw [e]; rfl, rfl⟩⟩
  | true =>
    rw [show Lib.hasPrefix s.data.toList slash.data.toList = true from hb] at hp
    repeat(first|refine Sp ?_|refine fun(_:Nat)=>?_)
    refine ACall.ret hp ?_
    repeat(first|refine Sp ?_|refine fun(_:Nat)=>?_)
    have hs1 : 1 ≤ s.size := by have := hasPrefix_size hb; rw [Array.length_toList] at this; exact this
    refine ⟨show (1 : Int) ≤ (s.size : Int) by omega, Int.le_refl _, ?_⟩
    repeat(first|refine Sp ?_|refine fun(_:Nat)=>?_)
    refine ACall.pure _ (split_spec (s.extract 1 s.size) (by rw [ByteArray.size_extract]; omega)) ?_
    rintro r L' ⟨g, rfl, rfl⟩
    refine ⟨_, Sub.refl _, ?_⟩
    repeat(first|refine Sp ?_|refine fun(_:Nat)=>?_)
    have ed : pieces (s.extract 1 s.size) = cutB s := rfl
    rw [ed]
    refine ⟨fun h => ?_, fun h => ?_⟩
    case' refine_1 =>
      have h : (6 : Int) < ((cutB s).length : Int) := h
      have e : parseE s = 10 := by unfold parseE; rw [if_neg h1, if_neg h2, if_neg (by rw [hb]; decide), if_pos (by omega)]
      repeat(first|refine Sp ?_|refine fun(_:Nat)=>?_)
      exact ⟨_, [], FinOk.drop _ _, .inl ⟨by rw [e]; decide, by rw [e]; rfl, rfl⟩⟩
    have h : ¬ (6 : Int) < ((cutB s).length : Int) := h
    have h3 : ¬ 6 < (cutB s).length := by omega
    repeat(first|refine Sp ?_|refine fun(_:Nat)=>?_)
    generalize hl : cutB s = l at h3 ⊢
    refine Run.loop (fun k env L => ∃ i : Nat, k = l.length - i ∧ i ≤ l.length ∧ (∀ (j : Nat) (x : ByteArray), l[j]? = some x → j < i → isNameB x = true) ∧
        env = [.junk, .junk, .junk, .junk, .sl 0 g l.length l.length, .junk, .junk, .junk, .junk, .junk, .junk, .junk, .junk, .junk, .junk, .junk, .junk, .junk, .junk, .junk, .junk, .sl 0 g l.length l.length, .int .i64 l.length, .int .i64 i, .junk, .junk, .junk, .junk, .junk, .junk, .junk, .junk] ∧ L = [(g, .row 9 1 l.length (l.map .str))]) l.length
      [.junk, .junk, .junk, .junk, .sl 0 g l.length l.length, .junk, .junk, .junk, .junk, .junk, .junk, .junk, .junk, .junk, .junk, .junk, .junk, .junk, .junk, .junk, .junk, .sl 0 g l.length l.length, .int .i64 l.length, .int .i64 0, .junk, .junk, .junk, .junk, .junk, .junk, .junk, .junk] ?_ ⟨0, by omega, by omega, (fun j _ _ hj => absurd hj (Nat.not_lt_zero j)), rfl, rfl⟩ ?_
    · repeat(first|exact trivial|refine ⟨.inl rfl, ?_⟩|refine ⟨.inr rfl, ?_⟩)
    rintro k env L ⟨i, rfl, hi, hP, rfl, rfl⟩
    repeat(first|refine Sp ?_|refine fun(_:Nat)=>?_)
    refine ⟨fun h => ?_, fun h => ?_⟩
    · have h : (i : Int) < (l.length : Int) := h
      have hin : i < l.length := by omega
      obtain ⟨x, ex⟩ : ∃ x, l[i]? = some x := ⟨l[i], List.getElem?_eq_getElem hin⟩
      have ex' : (l.map AV.str)[i]? = some (.str x) := by rw [List.getElem?_map, ex]; rfl
      have hn := isName_spec x
      repeat(first|refine Sp ?_|refine fun(_:Nat)=>?_)
      refine ⟨h, ?_⟩
      repeat(first|refine Sp ?_|refine fun(_:Nat)=>?_)
      refine ⟨_, ex', ?_⟩
      repeat(first|refine Sp ?_|refine fun(_:Nat)=>?_)
      cases hx : isNameB x with
      | false =>
        rw [hx] at hn
        refine ACall.ret hn ?_
        repeat(first|refine Sp ?_|refine fun(_:Nat)=>?_)
        have e : parseE s = 10 := by
          have : l.all isNameB = false := by
            rw [Bool.eq_false_iff]
            intro e
            rw [List.all_eq_true] at e
            have := e x (List.mem_of_getElem? ex)
            rw [hx] at this
            cases this
          unfold parseE
          rw [hl, if_neg h1, if_neg h2, if_neg (by rw [hb]; decide), if_neg h3, this]
          rfl
        exact ⟨_, [], FinOk.drop _ _, .inl ⟨by rw [e]; decide, by rw [e]; rfl, rfl⟩⟩
      | true =>
        rw [hx] at hn
        refine ACall.ret hn ?_
        repeat(first|refine Sp ?_|refine fun(_:Nat)=>?_)
        refine fun r hr => ?_
        obtain rfl := add1 hr (by omega)
        repeat(first|refine Sp ?_|refine fun(_:Nat)=>?_)
        refine Cont.lp ?_
        refine ⟨l.length - (i + 1), [.junk, .junk, .junk, .junk, .sl 0 g l.length l.length, .junk, .junk, .junk, .junk, .junk, .junk, .junk, .junk, .junk, .junk, .junk, .junk, .junk, .junk, .junk, .junk, .sl 0 g l.length l.length, .int .i64 l.length, .int .i64 (i + 1 : Nat), .junk, .junk, .junk, .junk, .junk, .junk, .junk, .junk], 99, by omega, ?_, ⟨i + 1, rfl, by omega, ?_, rfl, rfl⟩⟩
        · repeat(first|exact trivial|refine ⟨.inl rfl, ?_⟩|refine ⟨.inr rfl, ?_⟩)
        · intro j y hj hji
          by_cases e : j = i
          · subst e; rw [ex] at hj; cases hj; exact hx
          · exact hP j y hj (by omega)
    · have h : ¬ (i : Int) < (l.length : Int) := h
      repeat(first|refine Sp ?_|refine fun(_:Nat)=>?_)
      have hall : l.all isNameB = true := by
        rw [List.all_eq_true]
        intro x hx
        obtain ⟨j, hj, rfl⟩ := List.mem_iff_getElem.1 hx
        exact hP j _ (List.getElem?_eq_getElem hj) (by omega)
      have e : parseE s = 0 := by
        unfold parseE
        rw [hl, if_neg h1, if_neg h2, if_neg (by rw [hb]; decide), if_neg h3, if_pos hall]
      have en : namesOf s = l := by unfold namesOf; rw [if_neg h2]; exact hl
      exact ⟨_, _, FinOk.refl _ _, .inr (.inr ⟨e, by rw [en]; omega, g, by rw [en]; rfl, by rw [en]⟩)⟩

end Go.Proofs.YtcbjcmigecocgaaGreatDoor.HBT
/- The contracts of the program's own texts on names and places, part three: placed, Parent, isPlace. -/
namespace Go.Proofs.YtcbjcmigecocgaaGreatDoor.HBT
open Go Go.Proofs.YtcbjcmigecocgaaGreatDoor.HB Go.RowKit
set_option maxRecDepth 8000

def joinB (l : List ByteArray) : List UInt8 := Lib.join (l.map (·.data.toList)) [47]
def placedB (l : List ByteArray) : ByteArray := slash ++ ⟨(joinB l).toArray⟩

theorem placed_spec (g Cp : Nat) (xs : List ByteArray) (n : Nat) (hn : n ≤ xs.length) (h100 : xs.length ≤ 1000) (hsz : (joinB (xs.take n)).length ≤ 100000) :
    FnSpec C 71 [.sl 0 g Cp n] [(g, .row 9 1 Cp (xs.map .str))] (fun r L' => r = .str (placedB (xs.take n)) ∧ L' = [(g, .row 9 1 Cp (xs.map .str))]) := by
  refine FnSpec.start C_ok Tryz.func71 rfl rfl Tryz.ntmps71 ?_
  repeat(first|refine Sp ?_|refine fun(_:Nat)=>?_)
  refine ACall.all _ (join_spec g Cp xs n hn h100 (by have : (joinB (xs.take n)).length ≤ 100000 := hsz; unfold joinB at this; omega)) ?_
  rintro r L' ⟨rfl, rfl⟩
  repeat(first|refine Sp ?_|refine fun(_:Nat)=>?_)
  refine ⟨show slash.size + (ByteArray.mk (joinB (xs.take n)).toArray).size ≤ 9223372036854775807 by
    have e : (ByteArray.mk (joinB (xs.take n)).toArray).size = (joinB (xs.take n)).length := by show (joinB (xs.take n)).toArray.size = _; simp
    have e2 : slash.size = 1 := rfl
    omega, ?_⟩
  repeat(first|refine Sp ?_|refine fun(_:Nat)=>?_)
  exact ⟨_, _, FinOk.refl _ _, rfl, rfl⟩

def parentE (s : ByteArray) : Int := if parseE s ≠ 0 then parseE s else if namesOf s = [] then 47 else 0
def parentB (s : ByteArray) : ByteArray := if parentE s ≠ 0 then ⟨#[]⟩ else placedB ((namesOf s).take ((namesOf s).length - 1))

theorem join_le : ∀ (l : List (List UInt8)) (n : Nat), (∀ x ∈ l, x.length ≤ n) → (Lib.join l [47]).length ≤ l.length * (n + 1)
  | [], _, _ => by simp [Lib.join]
  | [x], n, h => by have := h x (by simp); simp [Lib.join]; omega
  | x :: y :: l, n, h => by
    have h0 := h x (by simp)
    have ih := join_le (y :: l) n (fun z hz => h z (List.mem_cons_of_mem _ hz))
    have e : Lib.join (x :: y :: l) [47] = x ++ ([47] ++ Lib.join (y :: l) [47]) := by simp [Lib.join, List.intercalate, List.intersperse]
    have e3 : (x :: y :: l).length * (n + 1) = (y :: l).length * (n + 1) + (n + 1) := by rw [List.length_cons, Nat.succ_mul]
    rw [e, List.length_append, List.length_append, e3]
    have : ([47] : List UInt8).length = 1 := rfl
    omega
theorem names_ok {s : ByteArray} (h : parseE s = 0) : (namesOf s).length ≤ 6 ∧ ∀ x ∈ namesOf s, isNameB x = true := by
  unfold parseE at h
  unfold namesOf
  split at h
  · cases h
  split at h
  · rename_i e; rw [if_pos e]; exact ⟨by simp, by simp⟩
  rename_i e
  rw [if_neg e]
  split at h
  · cases h
  split at h
  · cases h
  split at h
  · rename_i hall; exact ⟨by omega, fun x hx => (List.all_eq_true.1 hall) x hx⟩
  · cases h
theorem isNameB_size {x : ByteArray} (h : isNameB x = true) : x.size ≤ 16 := by
  unfold isNameB at h
  simp only [Bool.and_eq_true, decide_eq_true_eq] at h
  exact h.1.1.1.2
theorem join_names {l : List ByteArray} (h6 : l.length ≤ 6) (h : ∀ x ∈ l, isNameB x = true) (n : Nat) : (joinB (l.take n)).length ≤ 102 := by
  have := join_le ((l.take n).map (·.data.toList)) 16 (fun x hx => by
    obtain ⟨y, hy, rfl⟩ := List.mem_map.1 hx
    have := isNameB_size (h y (List.mem_of_mem_take hy))
    rw [Array.length_toList]
    exact this)
  have hl : ((l.take n).map (·.data.toList)).length ≤ 6 := by rw [List.length_map, List.length_take]; omega
  have h2 : ((l.take n).map (·.data.toList)).length * (16 + 1) ≤ 6 * 17 := Nat.mul_le_mul_right 17 hl
  unfold joinB
  omega

theorem parent_spec (s : ByteArray) : FnSpec C 59 [.str s] [] (fun r L' => r = .tuple [.str (parentB s), .int .i64 (parentE s)] ∧ L' = []) := by
  refine FnSpec.start C_ok Tryz.func59 rfl rfl Tryz.ntmps59 ?_
  repeat(first|refine Sp ?_|refine fun(_:Nat)=>?_)
  refine ACall.pure _ (parse_spec s) ?_
  rintro r L' (⟨h, rfl, rfl⟩ | ⟨h, hn, rfl, rfl⟩ | ⟨h, hn, g, rfl, rfl⟩)
  · refine ⟨_, Sub.refl _, ?_⟩
    have e : parentE s = parseE s := by unfold parentE; rw [if_pos h]
    have e2 : parentB s = ⟨#[]⟩ := by unfold parentB; rw [if_pos (by rw [e]; exact h)]
    repeat(first|refine Sp ?_|refine fun(_:Nat)=>?_)
    refine ⟨fun _ => ?_, fun e => absurd h e⟩
    repeat(first|refine Sp ?_|refine fun(_:Nat)=>?_)
    exact ⟨_, [], FinOk.drop _ _, by rw [e, e2]; rfl, rfl⟩
  · refine ⟨_, Sub.refl _, ?_⟩
    have e : parentE s = 47 := by unfold parentE; rw [if_neg (by rw [h]; decide), if_pos hn]
    have e2 : parentB s = ⟨#[]⟩ := by unfold parentB; rw [if_pos (by rw [e]; decide)]
    repeat(first|refine Sp ?_|refine fun(_:Nat)=>?_)
    refine ⟨fun e => absurd rfl e, fun _ => ?_⟩
    repeat(first|refine Sp ?_|refine fun(_:Nat)=>?_)
    refine ⟨fun _ => ?_, fun e => absurd rfl e⟩
    repeat(first|refine Sp ?_|refine fun(_:Nat)=>?_)
    exact ⟨_, [], FinOk.drop _ _, by rw [e, e2]; rfl, rfl⟩
  · refine ⟨_, Sub.refl _, ?_⟩
    obtain ⟨h6, hall⟩ := names_ok h
    generalize hl : namesOf s = l at h6 hall ⊢
    repeat(first|refine Sp ?_|refine fun(_:Nat)=>?_)
    refine ⟨fun e => absurd rfl e, fun _ => ?_⟩
    repeat(first|refine Sp ?_|refine fun(_:Nat)=>?_)
    refine ⟨fun h0 => ?_, fun h0 => ?_⟩
    · have h0 : (l.length : Int) = 0 := h0
      have hnil : l = [] := List.eq_nil_of_length_eq_zero (by omega)
      have e : parentE s = 47 := by unfold parentE; rw [if_neg (by rw [h]; decide), if_pos (by rw [hl]; exact hnil)]
      have e2 : parentB s = ⟨#[]⟩ := by unfold parentB; rw [if_pos (by rw [e]; decide)]
      repeat(first|refine Sp ?_|refine fun(_:Nat)=>?_)
      exact ⟨_, [], FinOk.drop _ _, by rw [e, e2]; rfl, rfl⟩
    · have h0 : ¬ (l.length : Int) = 0 := h0
      have hne : l ≠ [] := fun e => h0 (by rw [e]; rfl)
      have e : parentE s = 0 := by unfold parentE; rw [if_neg (by rw [h]; decide), if_neg (by rw [hl]; exact hne)]
      have e2 : parentB s = placedB (l.take (l.length - 1)) := by unfold parentB; rw [if_neg (by rw [e]; decide), hl]
      repeat(first|refine Sp ?_|refine fun(_:Nat)=>?_)
      refine fun r hr => ?_
      have hr : r = ((l.length - 1 : Nat) : Int) := by rw [hr, IntKind.wrap_i64]; omega
      subst hr
      repeat(first|refine Sp ?_|refine fun(_:Nat)=>?_)
      refine ⟨show ((l.length - 1 : Nat) : Int) ≤ ((l.map AV.str).length : Int) by rw [List.length_map]; omega, ?_⟩
      repeat(first|refine Sp ?_|refine fun(_:Nat)=>?_)
      refine ACall.all _ (placed_spec g l.length l (l.length - 1) (by omega) (by omega) (by have := join_names h6 hall (l.length - 1); omega)) ?_
      rintro r L' ⟨rfl, rfl⟩
      repeat(first|refine Sp ?_|refine fun(_:Nat)=>?_)
      exact ⟨_, [], FinOk.drop _ _, by rw [e, e2]; rfl, rfl⟩

end Go.Proofs.YtcbjcmigecocgaaGreatDoor.HBT
/- Plain laws on texts that are cut at their slashes: no program in sight. -/
namespace Go.Proofs.YtcbjcmigecocgaaGreatDoor.HBT
open Go Go.Proofs.YtcbjcmigecocgaaGreatDoor.HB Go.RowKit
set_option maxRecDepth 8000

def cut : List UInt8 → List (List UInt8)
  | [] => [[]]
  | c :: l => if c = 47 then [] :: cut l else match cut l with
    | [] => [[c]]
    | p :: ps => (c :: p) :: ps

theorem cut_ne_nil (l : List UInt8) : cut l ≠ [] := by
  cases l with
  | nil => simp [cut]
  | cons c l => simp only [cut]; split <;> (try split) <;> simp

theorem splitK_cut : ∀ l : List UInt8, Lib.splitK [47] 0 (Lib.count l [47]) l = cut l
  | [] => by
    rw [show Lib.count [] [47] = 0 from by rw [Lib.count_miss (by simp [Lib.index])]]
    rfl
  | c :: l => by
    have ih := splitK_cut l
    by_cases hc : c = 47
    · subst hc
      rw [Lib.count_cons_eq, Nat.add_comm]
      have hix : Lib.index (47 :: l) [47] = 0 := by rw [Lib.index]; simp [List.isPrefixOf]
      simp only [Lib.splitK, hix, cut, if_true]
      rw [← ih]
      rfl
    · rw [Lib.count_cons_ne c 47 l hc]
      have hp : ([47] : List UInt8).isPrefixOf (c :: l) = false := by simp [List.isPrefixOf, Ne.symm hc]
      have hix : Lib.index (c :: l) [47] = if Lib.index l [47] == -1 then -1 else Lib.index l [47] + 1 := by rw [Lib.index, hp]; simp
      simp only [cut, hc, if_false]
      rw [← ih]
      by_cases hm : Lib.index l [47] = -1
      · rw [Lib.count_miss hm]
        rfl
      · have hge := Lib.index_ge l [47]
        obtain ⟨j, hj⟩ : ∃ j : Nat, Lib.index l [47] = j := ⟨(Lib.index l [47]).toNat, by omega⟩
        have hcount : ∃ k, Lib.count l [47] = k + 1 := by
          rw [Lib.count_hit (by simp) hj]
          exact ⟨_, Nat.add_comm _ _⟩
        obtain ⟨k, hk⟩ := hcount
        rw [hk]
        have h1 : (Lib.index l [47] == -1) = false := by simpa using hm
        have h2 : (Lib.index (c :: l) [47] == -1) = false := by rw [hix, h1]; simp; omega
        have h3 : (Lib.index (c :: l) [47]).toNat = j + 1 := by rw [hix, h1]; simp; omega
        have h4 : (Lib.index l [47]).toNat = j := by omega
        simp only [Lib.splitK, h1, h2, h3, h4]
        simp

theorem pieces_cut (s : ByteArray) : (pieces s).map (·.data.toList) = cut s.data.toList := by
  unfold pieces
  rw [Lib.splitB_data]
  exact splitK_cut s.data.toList

theorem cut_join : ∀ (l : List (List UInt8)), l ≠ [] → (∀ x ∈ l, (47 : UInt8) ∉ x) → cut (Lib.join l [47]) = l := by
  have one : ∀ (x t : List UInt8), (47 : UInt8) ∉ x → cut (x ++ 47 :: t) = x :: cut t := by
    intro x
    induction x with
    | nil => intro t _; simp [cut]
    | cons c x ih =>
      intro t h
      have hc : ¬ c = 47 := fun e => h (by simp [e])
      have := ih t (fun hx => h (List.mem_cons_of_mem _ hx))
      rw [List.cons_append]
      simp only [cut, hc, if_false, this]
  have last : ∀ (x : List UInt8), (47 : UInt8) ∉ x → cut x = [x] := by
    intro x
    induction x with
    | nil => intro _; rfl
    | cons c x ih =>
      intro h
      have hc : ¬ c = 47 := fun e => h (by simp [e])
      have := ih (fun hx => h (List.mem_cons_of_mem _ hx))
      simp only [cut, hc, if_false, this]
  intro l
  induction l with
  | nil => intro h; exact absurd rfl h
  | cons x l ih =>
    intro _ h
    cases l with
    | nil => rw [Lib.join_one]; exact last x (h x (by simp))
    | cons y l =>
      have e : Lib.join (x :: y :: l) [47] = x ++ 47 :: Lib.join (y :: l) [47] := by simp [Lib.join, List.intercalate, List.intersperse]
      rw [e, one x _ (h x (by simp)), ih (by simp) (fun z hz => h z (List.mem_cons_of_mem _ hz))]

theorem join_cut : ∀ l : List UInt8, Lib.join (cut l) [47] = l
  | [] => by simp [cut, Lib.join, List.intercalate]
  | c :: l => by
    have ih := join_cut l
    have hne := cut_ne_nil l
    by_cases hc : c = 47
    · subst hc
      simp only [cut, if_true]
      cases hl : cut l with
      | nil => exact absurd hl hne
      | cons p ps =>
        rw [hl] at ih
        have e : Lib.join ([] :: p :: ps) [47] = [] ++ 47 :: Lib.join (p :: ps) [47] := by simp [Lib.join, List.intercalate, List.intersperse]
        rw [e, ih]
        rfl
    · simp only [cut, hc, if_false]
      cases hl : cut l with
      | nil => exact absurd hl hne
      | cons p ps =>
        rw [hl] at ih
        cases ps with
        | nil => rw [Lib.join_one] at ih ⊢; rw [ih]
        | cons q ps =>
          have e : ∀ x : List UInt8, Lib.join (x :: q :: ps) [47] = x ++ 47 :: Lib.join (q :: ps) [47] := fun x => by simp [Lib.join, List.intercalate, List.intersperse]
          rw [e] at ih ⊢
          rw [List.cons_append, ih]

end Go.Proofs.YtcbjcmigecocgaaGreatDoor.HBT
/- Places and their names: plain laws. -/
namespace Go.Proofs.YtcbjcmigecocgaaGreatDoor.HBT
open Go Go.Proofs.YtcbjcmigecocgaaGreatDoor.HB Go.RowKit
set_option maxRecDepth 8000

theorem bytes_inj {x y : ByteArray} (h : x.data.toList = y.data.toList) : x = y := ByteArray.ext (Array.toList_inj.mp h)
theorem map_bytes_inj : ∀ {l m : List ByteArray}, l.map (·.data.toList) = m.map (·.data.toList) → l = m
  | [], [], _ => rfl
  | [], _ :: _, h => by simp at h
  | _ :: _, [], h => by simp at h
  | x :: l, y :: m, h => by
    simp only [List.map_cons, List.cons.injEq] at h
    rw [bytes_inj h.1, map_bytes_inj h.2]

theorem name_no_slash {x : ByteArray} (h : isNameB x = true) : (47 : UInt8) ∉ x.data.toList := fun hm => by
  unfold isNameB at h
  simp only [Bool.and_eq_true] at h
  have := (List.all_eq_true.1 h.2) 47 hm
  exact absurd this (by decide)
theorem name_ne_nil {x : ByteArray} (h : isNameB x = true) : x.data.toList ≠ [] := fun e => by
  unfold isNameB at h
  simp only [Bool.and_eq_true, decide_eq_true_eq] at h
  exact h.1.1.1.1 (bytes_inj e)

def okNames (l : List ByteArray) : Prop := l.length ≤ 6 ∧ ∀ x ∈ l, isNameB x = true
theorem okNames.take {l : List ByteArray} (h : okNames l) (n : Nat) : okNames (l.take n) := ⟨by rw [List.length_take]; have := h.1; omega, fun x hx => h.2 x (List.mem_of_mem_take hx)⟩

theorem placed_data (l : List ByteArray) : (placedB l).data.toList = 47 :: joinB l := by
  unfold placedB slash
  simp
theorem cutB_cut (s : ByteArray) : (cutB s).map (·.data.toList) = cut (s.data.toList.drop 1) := by
  unfold cutB
  rw [pieces_cut]
  rw [Lib.extract_to_end]

theorem joinB_ne_nil {l : List ByteArray} (h : okNames l) (hne : l ≠ []) : joinB l ≠ [] := by
  cases l with
  | nil => exact absurd rfl hne
  | cons x l =>
    have hx := name_ne_nil (h.2 x (by simp))
    unfold joinB
    rw [List.map_cons]
    cases l with
    | nil => rw [List.map_nil, Lib.join_one]; exact hx
    | cons y l =>
      rw [List.map_cons]
      simp [Lib.join, List.intercalate, List.intersperse, hx]

theorem placed_slash {l : List ByteArray} (h : okNames l) : placedB l = slash ↔ l = [] := by
  constructor
  · intro e
    by_cases hl : l = []
    · exact hl
    · have := congrArg (·.data.toList) e
      simp only [placed_data] at this
      have h2 : slash.data.toList = [47] := rfl
      rw [h2] at this
      simp at this
      exact absurd this (joinB_ne_nil h hl)
  · intro e
    subst e
    apply bytes_inj
    rw [placed_data]
    rfl

theorem join_lt : ∀ (l : List (List UInt8)) (n : Nat), l ≠ [] → (∀ x ∈ l, x.length ≤ n) → (Lib.join l [47]).length + 1 ≤ l.length * (n + 1)
  | [], _, h, _ => absurd rfl h
  | [x], n, _, h => by have := h x (by simp); rw [Lib.join_one]; simp; omega
  | x :: y :: l, n, _, h => by
    have h0 := h x (by simp)
    have ih := join_lt (y :: l) n (by simp) (fun z hz => h z (List.mem_cons_of_mem _ hz))
    have e : Lib.join (x :: y :: l) [47] = x ++ ([47] ++ Lib.join (y :: l) [47]) := by simp [Lib.join, List.intercalate, List.intersperse]
    have e3 : (x :: y :: l).length * (n + 1) = (y :: l).length * (n + 1) + (n + 1) := by rw [List.length_cons, Nat.succ_mul]
    rw [e, List.length_append, List.length_append, e3]
    have : ([47] : List UInt8).length = 1 := rfl
    omega

theorem names_placed {l : List ByteArray} (h : okNames l) : parseE (placedB l) = 0 ∧ namesOf (placedB l) = l := by
  by_cases hl : l = []
  · have e := (placed_slash h).2 hl
    refine ⟨?_, ?_⟩
    · rw [e]; unfold parseE; rw [if_neg (by decide), if_pos rfl]
    · rw [e, hl]; unfold namesOf; rw [if_pos rfl]
  · have e : ¬ placedB l = slash := fun e => hl ((placed_slash h).1 e)
    have hcut : cutB (placedB l) = l := by
      apply map_bytes_inj
      rw [cutB_cut, placed_data]
      show cut (joinB l) = _
      unfold joinB
      exact cut_join _ (by simpa using hl) (fun x hx => by
        obtain ⟨y, hy, rfl⟩ := List.mem_map.1 hx
        exact name_no_slash (h.2 y hy))
    have hsz : (placedB l).size ≤ 102 := by
      have h1 : (placedB l).size = (placedB l).data.toList.length := by rw [Array.length_toList]; rfl
      have h2 := join_lt (l.map (·.data.toList)) 16 (by simpa using hl) (fun x hx => by
        obtain ⟨y, hy, rfl⟩ := List.mem_map.1 hx
        have := isNameB_size (h.2 y hy)
        rw [Array.length_toList]
        exact this)
      have h3 : (l.map (·.data.toList)).length * (16 + 1) ≤ 6 * 17 := Nat.mul_le_mul_right 17 (by rw [List.length_map]; exact h.1)
      rw [h1, placed_data, List.length_cons]
      unfold joinB
      omega
    have hb : begins47 (placedB l) = true := by unfold begins47; rw [placed_data]; rfl
    refine ⟨?_, by unfold namesOf; rw [if_neg e]; exact hcut⟩
    unfold parseE
    rw [if_neg (by omega), if_neg e, if_neg (by rw [hb]; decide), hcut, if_neg (by have := h.1; omega), if_pos (List.all_eq_true.2 h.2)]

theorem place_names {s : ByteArray} (h : parseE s = 0) : okNames (namesOf s) ∧ s = placedB (namesOf s) := by
  have hok : okNames (namesOf s) := names_ok h
  refine ⟨hok, ?_⟩
  unfold parseE at h
  split at h
  · cases h
  split at h
  · rename_i e
    have en : namesOf s = [] := by unfold namesOf; rw [if_pos e]
    rw [en]
    exact e.trans ((placed_slash ⟨by simp, by simp⟩).2 rfl).symm
  rename_i e
  have en : namesOf s = cutB s := by unfold namesOf; rw [if_neg e]
  split at h
  · cases h
  rename_i hb
  have hb : begins47 s = true := by simpa using hb
  apply bytes_inj
  rw [placed_data, en]
  unfold joinB
  rw [cutB_cut, join_cut]
  unfold begins47 at hb
  cases hs : s.data.toList with
  | nil => rw [hs] at hb; cases hb
  | cons c t =>
    rw [hs] at hb
    have hb' : ((47 : UInt8) == c && ([] : List UInt8).isPrefixOf t) = true := hb
    rw [Bool.and_eq_true] at hb'
    have hc : c = 47 := (beq_iff_eq.1 hb'.1).symm
    rw [hc]
    rfl
theorem placed_inj {l m : List ByteArray} (hl : okNames l) (hm : okNames m) (h : placedB l = placedB m) : l = m := by
  rw [← (names_placed hl).2, h, (names_placed hm).2]
theorem parent_placed {l : List ByteArray} (h : okNames l) : parentE (placedB l) = (if l = [] then 47 else 0) ∧ (l ≠ [] → parentB (placedB l) = placedB (l.take (l.length - 1))) := by
  obtain ⟨h1, h2⟩ := names_placed h
  have e : parentE (placedB l) = (if l = [] then 47 else 0) := by unfold parentE; rw [if_neg (by rw [h1]; decide), h2]
  refine ⟨e, fun hne => ?_⟩
  unfold parentB
  rw [if_neg (by rw [e, if_neg hne]; decide), h2]

end Go.Proofs.YtcbjcmigecocgaaGreatDoor.HBT
/- The contracts of the shot's small texts: kinds, sizes, below, search. -/
namespace Go.Proofs.YtcbjcmigecocgaaGreatDoor.HBT
open Go Go.Proofs.YtcbjcmigecocgaaGreatDoor.HB Go.RowKit
set_option maxRecDepth 8000

def belowB (low high : ByteArray) : Prop := parseE low = 0 ∧ ∃ j, j < (namesOf low).length ∧ high = placedB ((namesOf low).take j)
def childB (low high : ByteArray) : Prop := parentE low = 0 ∧ parentB low = high
noncomputable instance (low high : ByteArray) : Decidable (belowB low high) := Classical.propDecidable _
noncomputable instance (low high : ByteArray) : Decidable (childB low high) := Classical.propDecidable _

theorem parent_bad {s : ByteArray} (h : parseE s ≠ 0) : parentE s = parseE s := by unfold parentE; rw [if_pos h]
end Go.Proofs.YtcbjcmigecocgaaGreatDoor.HBT
/- The order of places: plain laws. -/
namespace Go.Proofs.YtcbjcmigecocgaaGreatDoor.HBT
open Go Go.Proofs.YtcbjcmigecocgaaGreatDoor.HB Go.RowKit
set_option maxRecDepth 8000

theorem rank_inj {a b : UInt8} (h : rank a = rank b) : a = b := by
  unfold rank at h
  apply UInt8.toNat_inj.1
  split at h <;> split at h <;> omega

theorem orderL_eq : ∀ {a b : List UInt8}, orderL a b = 0 ↔ a = b
  | [], [] => by simp [orderL]
  | [], _ :: _ => by simp [orderL]
  | _ :: _, [] => by simp [orderL]
  | x :: a, y :: b => by
    have ih := @orderL_eq a b
    simp only [orderL, List.cons.injEq]
    by_cases h1 : rank x < rank y
    · rw [if_pos h1]
      constructor
      · intro h; cases h
      · rintro ⟨rfl, _⟩; omega
    · rw [if_neg h1]
      by_cases h2 : rank y < rank x
      · rw [if_pos h2]
        constructor
        · intro h; cases h
        · rintro ⟨rfl, _⟩; omega
      · rw [if_neg h2, ih]
        have : x = y := rank_inj (by omega)
        simp [this]
theorem orderL_swap : ∀ (a b : List UInt8), orderL b a = - orderL a b
  | [], [] => rfl
  | [], _ :: _ => rfl
  | _ :: _, [] => rfl
  | x :: a, y :: b => by
    have ih := orderL_swap a b
    simp only [orderL]
    by_cases h1 : rank x < rank y
    · rw [if_pos h1, if_neg (by omega), if_pos h1]; rfl
    · by_cases h2 : rank y < rank x
      · rw [if_pos h2, if_neg h1, if_pos h2]
      · rw [if_neg h1, if_neg h2, if_neg h2, if_neg h1, ih]
theorem orderL_trans : ∀ {a b c : List UInt8}, orderL a b < 0 → orderL b c < 0 → orderL a c < 0
  | [], [], _, h, _ => by simp [orderL] at h
  | [], _ :: _, [], _, h => by simp [orderL] at h
  | [], _ :: _, _ :: _, _, _ => by simp [orderL]
  | _ :: _, [], _, h, _ => by simp [orderL] at h
  | _ :: _, _ :: _, [], _, h => by simp [orderL] at h
  | x :: a, y :: b, z :: c, h, k => by
    have ih := @orderL_trans a b c
    simp only [orderL] at h k ⊢
    by_cases h1 : rank x < rank y
    · by_cases k1 : rank y < rank z
      · rw [if_pos (by omega)]; decide
      · rw [if_neg k1] at k
        by_cases k2 : rank z < rank y
        · rw [if_pos k2] at k; exact absurd k (by decide)
        · rw [if_pos (by omega)]; decide
    · rw [if_neg h1] at h
      by_cases h2 : rank y < rank x
      · rw [if_pos h2] at h; exact absurd h (by decide)
      · rw [if_neg h2] at h
        by_cases k1 : rank y < rank z
        · rw [if_pos (by omega)]; decide
        · rw [if_neg k1] at k
          by_cases k2 : rank z < rank y
          · rw [if_pos k2] at k; exact absurd k (by decide)
          · rw [if_neg k2] at k
            rw [if_neg (by omega), if_neg (by omega)]
            exact ih h k
end Go.Proofs.YtcbjcmigecocgaaGreatDoor.HBT
/- The tree, plainly: nodes in the order of their places; what one op, a request, a session's end make of them. -/
namespace Go.Proofs.YtcbjcmigecocgaaGreatDoor.HBT
open Go Go.Proofs.YtcbjcmigecocgaaGreatDoor.HB Go.RowKit
set_option maxRecDepth 8000

structure Fu where
  p : ByteArray
  d : ByteArray
  v : Int
  m : Int
  c : Int
  o : Int
  k : Int
  deriving DecidableEq, Inhabited
structure Opp where
  k : Int
  p : ByteArray
  d : ByteArray
  v : Int
  f : Int
  deriving DecidableEq
structure Res where
  p : ByteArray
  d : ByteArray
  v : Int
  m : Int
  c : Int
  o : Int
  kids : List ByteArray
  deriving DecidableEq
structure Chg where
  k : Int
  p : ByteArray
  d : ByteArray
  v : Int
  deriving DecidableEq

def eS : ByteArray := ⟨#[]⟩
instance (low high : ByteArray) : Decidable (childB low high) := inferInstanceAs (Decidable (_ ∧ _))
def digs (n : Nat) : List UInt8 := [n / 10000 % 10, n / 1000 % 10, n / 100 % 10, n / 10 % 10, n % 10].map fun d => UInt8.ofNat (48 + d)
def countedB (p : ByteArray) (k : Int) : ByteArray := p ++ ⟨(digs k.toNat).toArray⟩
def longB (p : ByteArray) : Bool := match (namesOf p).getLast? with
  | some n => decide (11 < n.size)
  | none => false
def nameB (p : ByteArray) : ByteArray := if parseE p ≠ 0 then eS else (namesOf p).getLast?.getD eS
def countedE (p : ByteArray) (k : Int) : Int := if parseE p ≠ 0 then parseE p else if namesOf p = [] then 47 else if longB p then 10 else if k < 0 ∨ 99999 < k then 1 else 0

def isCnt (f : Int) : Bool := decide (f = 2 ∨ f = 3)
def isBrf (f : Int) : Bool := decide (f = 1 ∨ f = 3)
def findF (l : List Fu) (p : ByteArray) : Option Fu := l.find? fun x => decide (x.p = p)
def kidsF (l : List Fu) (p : ByteArray) : List Fu := l.filter fun x => decide (childB x.p p)
def ins (x : Fu) : List Fu → List Fu
  | [] => [x]
  | y :: l => if orderB x.p y.p < 0 then x :: y :: l else y :: ins x l
def upd (l : List Fu) (a : Fu) : List Fu := l.map fun y => if y.p = a.p then a else y
def del (l : List Fu) (p : ByteArray) : List Fu := l.filter fun y => decide (y.p ≠ p)
def told (x : Fu) : Res := ⟨x.p, eS, x.v, x.m, x.c, x.o, []⟩
def goneC (x : Fu) : Chg := ⟨3, x.p, eS, x.v⟩

abbrev One := Except Int (List Fu × Res × List Chg)
def madeX (s st : Int) (a : Fu) (o : Opp) : Fu := ⟨if isCnt o.f then countedB o.p a.k else o.p, o.d, 0, st, st, if isBrf o.f then s else 0, 0⟩
def madeA (a : Fu) (o : Opp) : Fu := if isCnt o.f then { a with k := a.k + 1 } else a
def makeF (l : List Fu) (s st : Int) (o : Opp) : One :=
  if o.f < 0 ∨ 3 < o.f then .error 48
  else if parentE o.p = 47 then .error 47
  else if parentE o.p ≠ 0 ∨ (isCnt o.f = true ∧ longB o.p = true) then .error 10
  else if isBrf o.f = true ∧ s = 0 then .error 44
  else if 64 < o.d.size then .error 45
  else match findF l (parentB o.p) with
    | none => .error 40
    | some a =>
      if a.o ≠ 0 then .error 44
      else if isCnt o.f = true ∧ 99999 < a.k then .error 46
      else if (findF l (madeX s st a o).p).isSome then .error 41
      else if 64 ≤ l.length then .error 46
      else .ok (upd (ins (madeX s st a o) l) (madeA a o), told (madeX s st a o), [⟨1, (madeX s st a o).p, o.d, 0⟩])
def playF (l : List Fu) (s st : Int) (o : Opp) : One :=
  if o.k < 1 ∨ 7 < o.k then .error 48
  else if o.k = 1 then makeF l s st o
  else if parseE o.p ≠ 0 then .error 10
  else if o.k = 3 ∧ o.p = slash then .error 47
  else if o.k = 2 ∧ 64 < o.d.size then .error 45
  else match findF l o.p with
    | none => .error 40
    | some x =>
      if o.k ≤ 4 ∧ o.v ≠ -1 ∧ o.v ≠ x.v then .error 42
      else if o.k = 2 then
        if 2147483647 ≤ x.v then .error 46
        else .ok (upd l { x with d := o.d, c := st, v := x.v + 1 }, told { x with d := o.d, c := st, v := x.v + 1 }, [⟨2, x.p, o.d, x.v + 1⟩])
      else if o.k = 3 then
        if kidsF l x.p ≠ [] then .error 43
        else .ok (del l x.p, ⟨x.p, eS, 0, 0, 0, 0, []⟩, [goneC x])
      else if o.k = 5 then .ok (l, { told x with d := x.d }, [])
      else if o.k = 7 then .ok (l, { told x with kids := (kidsF l x.p).map fun y => nameB y.p }, [])
      else .ok (l, told x, [])

def goF (s st : Int) : List Fu → List Res → List Chg → Nat → List Opp → Except (Int × Nat) (List Fu × List Res × List Chg)
  | l, rs, cs, _, [] => .ok (l, rs, cs)
  | l, rs, cs, i, o :: os => match playF l s st o with
    | .error e => .error (e, i)
    | .ok (l', r, c) => goF s st l' (rs ++ [r]) (cs ++ c) (i + 1) os

structure Rep where
  st : Int
  code : Int
  at_ : Int
  rs : List Res
  deriving DecidableEq
def playR (l : List Fu) (s st : Int) (ops : List Opp) : List Fu × Rep × List Chg :=
  if 4 < ops.length then (l, ⟨st, 2, 0, []⟩, [])
  else if s < 0 ∨ 2147483647 < s ∨ st < 1 ∨ 2147483647 < st then (l, ⟨st, 3, 0, []⟩, [])
  else if ops = [] then (l, ⟨st, 48, 0, []⟩, [])
  else match goF s st l [] [] 0 ops with
    | .error (e, i) => (l, ⟨st, e, i, []⟩, [])
    | .ok (l', rs, cs) => (l', ⟨st, 0, 0, rs⟩, cs)
def endF (l : List Fu) (s : Int) : List Fu × List Chg :=
  if s < 1 then (l, []) else (l.filter fun x => decide (x.o ≠ s), (l.filter fun x => decide (x.o = s)).map goneC)

/-! ### Order -/
def Sorted (l : List Fu) : Prop := l.Pairwise fun a b => orderB a.p b.p < 0
theorem orderB_irrefl (a : ByteArray) : ¬ orderB a a < 0 := by
  have : orderB a a = 0 := orderL_eq.2 rfl
  omega
theorem orderB_eq {a b : ByteArray} : orderB a b = 0 ↔ a = b := ⟨fun h => ByteArray.ext (Array.toList_inj.mp (orderL_eq.1 h)), fun h => by subst h; exact orderL_eq.2 rfl⟩
theorem orderB_swap (a b : ByteArray) : orderB b a = - orderB a b := orderL_swap _ _
theorem orderB_trans {a b c : ByteArray} (h : orderB a b < 0) (k : orderB b c < 0) : orderB a c < 0 := orderL_trans h k
theorem Sorted.nodup {l : List Fu} (h : Sorted l) : (l.map (·.p)).Nodup := by
  rw [List.nodup_iff_pairwise_ne, List.pairwise_map]
  refine List.Pairwise.imp ?_ (show List.Pairwise (fun a b => orderB a.p b.p < 0) l from h)
  intro a b hab e
  rw [e] at hab
  exact orderB_irrefl _ hab
theorem Sorted.uniq {l m : List Fu} (hl : Sorted l) (hm : Sorted m) (h : l.Perm m) : l = m := by
  refine List.Perm.eq_of_pairwise (le := fun (a b : Fu) => orderB a.p b.p < 0) (fun a b _ _ h1 h2 => ?_) hl hm h
  exact (orderB_irrefl _ (orderB_trans h1 h2)).elim

theorem ins_perm (x : Fu) : ∀ l : List Fu, (ins x l).Perm (x :: l)
  | [] => .refl _
  | y :: l => by
    unfold ins
    split
    · exact .refl _
    · exact ((ins_perm x l).cons y).trans (List.Perm.swap x y l)
theorem ins_sorted {x : Fu} : ∀ {l : List Fu}, Sorted l → (∀ y ∈ l, y.p ≠ x.p) → Sorted (ins x l)
  | [], _, _ => List.pairwise_singleton _ _
  | y :: l, h, hne => by
    unfold ins
    have h' := List.pairwise_cons.1 h
    split
    · rename_i hlt
      refine List.pairwise_cons.2 ⟨fun z hz => ?_, h⟩
      rcases List.mem_cons.1 hz with rfl | hz
      · exact hlt
      · exact orderB_trans hlt (h'.1 z hz)
    · rename_i hlt
      refine List.pairwise_cons.2 ⟨fun z hz => ?_, ins_sorted h'.2 fun z hz => hne z (.tail _ hz)⟩
      rcases List.mem_cons.1 ((ins_perm x l).mem_iff.1 hz) with rfl | hz
      · have h1 := hne y (.head _)
        have h2 : orderB z.p y.p ≠ 0 := fun e => h1 (orderB_eq.1 e).symm
        have := orderB_swap z.p y.p
        omega
      · exact h'.1 z hz
theorem upd_sorted {l : List Fu} {a : Fu} (h : Sorted l) : Sorted (upd l a) := by
  unfold Sorted upd
  rw [List.pairwise_map]
  refine h.imp fun {x y} hxy => ?_
  have e : ∀ z : Fu, (if z.p = a.p then a else z).p = z.p := fun z => by split <;> simp_all
  rw [e, e]; exact hxy
theorem upd_places (l : List Fu) (a : Fu) : (upd l a).map (·.p) = l.map (·.p) := by
  unfold upd
  rw [List.map_map]
  refine List.map_congr_left fun z _ => ?_
  simp only [Function.comp]
  split <;> simp_all
theorem del_sorted {l : List Fu} {p : ByteArray} (h : Sorted l) : Sorted (del l p) := h.filter _

theorem findF_some {l : List Fu} {p : ByteArray} {x : Fu} (h : findF l p = some x) : x ∈ l ∧ x.p = p := by
  unfold findF at h
  exact ⟨List.mem_of_find?_eq_some h, by simpa using List.find?_some h⟩
theorem findF_none {l : List Fu} {p : ByteArray} (h : findF l p = none) : ∀ x ∈ l, x.p ≠ p := by
  unfold findF at h
  simpa using h
theorem mem_uniq {l : List Fu} (h : (l.map (·.p)).Nodup) {x y : Fu} (hx : x ∈ l) (hy : y ∈ l) (e : x.p = y.p) : x = y := by
  obtain ⟨i, hi, ei⟩ := List.mem_iff_getElem.1 hx
  obtain ⟨j, hj, ej⟩ := List.mem_iff_getElem.1 hy
  have : i = j := by
    refine (List.getElem?_inj (by simpa using hi) h).1 ?_
    simp [hi, hj, ei, ej, e]
  subst this
  rw [← ei, ← ej]
theorem nodup_perm {l m : List Fu} (h : l.Perm m) (hn : (m.map (·.p)).Nodup) : (l.map (·.p)).Nodup := (h.map _).nodup_iff.2 hn
end Go.Proofs.YtcbjcmigecocgaaGreatDoor.HBT
