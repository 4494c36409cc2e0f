/- The contracts of the program's own texts on names and places, part one. -/
import Derived.Test.YtgpbppkmmlclfaaDoorTtTy
namespace Go.Proofs.YtgpbppkmmlclfaaDoor.HBT
open Go Go.Proofs.YtgpbppkmmlclfaaDoor.HB Go.RowKit
set_option maxRecDepth 8000

theorem add1 {r : Int} {i : Nat} (h : r = IntKind.i64.wrap ((i : Int) + 1)) (hb : i < 9223372036854775807) : r = ((i + 1 : Nat) : Int) := by
  rw [h, IntKind.wrap_i64]; omega

def rank (c : UInt8) : Int := if c.toNat = 47 then -1 else c.toNat
theorem weight_specD (c : UInt8) : FnSpec CD 29 [.int .u8 c.toNat] [] (fun r L' => r = .int .i64 (rank c) ∧ L' = []) := by
  have hc := c.toNat_lt
  refine FnSpec.start CD_ok Tryd.func29 rfl rfl Tryd.ntmps29 ?_
  repeat(first|refine Sp ?_|refine fun(_:Nat)=>?_)
  refine ⟨fun h => ?_, fun h => ?_⟩
  · have h : (c.toNat : Int) = 47 := h
    repeat(first|refine Sp ?_|refine fun(_:Nat)=>?_)
    exact ⟨_, [], FinOk.drop _ _, congrArg (AV.int .i64) (show (-1 : Int) = _ by unfold rank; rw [if_pos (by omega)]), rfl⟩
  · have h : ¬ (c.toNat : Int) = 47 := h
    repeat(first|refine Sp ?_|refine fun(_:Nat)=>?_)
    refine fun r hr => ?_
    have hr : r = (c.toNat : Int) := by rw [hr, IntKind.wrap_i64]; omega
    subst hr
    repeat(first|refine Sp ?_|refine fun(_:Nat)=>?_)
    exact ⟨_, [], FinOk.drop _ _, congrArg (AV.int .i64) (show (c.toNat : Int) = _ by unfold rank; rw [if_neg (by omega)]), rfl⟩
def isNameB (s : ByteArray) : Bool := decide (s ≠ ⟨#[]⟩) && decide (s.size ≤ 16) && decide (s ≠ ⟨#[46]⟩) && decide (s ≠ ⟨#[46, 46]⟩) && s.data.toList.all fun b => nameByte b.toNat

theorem tab_at (c : Nat) (h : c < 128) : namedTab[c]? = some (.int .u8 (if nameByte c then 1 else 0)) := by
  unfold namedTab namedRow
  rw [List.getElem?_map, List.getElem?_map, List.getElem?_range h]
  rfl
theorem byte_all (s : ByteArray) (p : UInt8 → Bool) : s.data.toList.all p = true ↔ ∀ (i : Nat) (h : i < s.size), p s[i] = true := by
  rw [List.all_eq_true]
  constructor
  · intro h i hi
    have hi' : i < s.data.toList.length := by rw [Array.length_toList]; exact hi
    have := h (s.data.toList[i]) (List.getElem_mem hi')
    rw [Array.getElem_toList] at this
    exact this
  · intro h x hx
    obtain ⟨i, hi, rfl⟩ := List.mem_iff_getElem.1 hx
    have hi' : i < s.size := by rw [Array.length_toList] at hi; exact hi
    rw [Array.getElem_toList]
    exact h i hi'
theorem nameByte_lt {c : Nat} (h : nameByte c = true) : c < 128 := by
  unfold nameByte at h
  simp at h
  omega

theorem isName_spec (s : ByteArray) : FnSpec C 47 [.str s] [] (fun r L' => r = .bool (isNameB s) ∧ L' = []) := by
  refine FnSpec.start C_ok Tryd.func47 rfl rfl Tryd.ntmps47 ?_
  repeat(first|refine Sp ?_|refine fun(_:Nat)=>?_)
  refine ⟨fun h => ?_, fun h => ?_⟩
  case' refine_1 =>
    repeat(first|refine Sp ?_|refine fun(_:Nat)=>?_)
    exact ⟨_, [], FinOk.drop _ _, congrArg AV.bool (show false = _ by
      have h : s = ⟨#[]⟩ := h
      simp [isNameB, h]), rfl⟩
  have h0 : ¬ s = ⟨#[]⟩ := h
  repeat(first|refine Sp ?_|refine fun(_:Nat)=>?_)
  refine ⟨fun h => ?_, fun h => ?_⟩
  case' refine_1 =>
    repeat(first|refine Sp ?_|refine fun(_:Nat)=>?_)
    exact ⟨_, [], FinOk.drop _ _, congrArg AV.bool (show false = _ by
      have h : (16 : Int) < (s.size : Int) := h
      have : ¬ s.size ≤ 16 := by omega
      simp [isNameB, this]), rfl⟩
  have h : ¬ (16 : Int) < (s.size : Int) := h
  have h1 : s.size ≤ 16 := by omega
  repeat(first|refine Sp ?_|refine fun(_:Nat)=>?_)
  refine ⟨fun h => ?_, fun h => ?_⟩
  case' refine_1 =>
    repeat(first|refine Sp ?_|refine fun(_:Nat)=>?_)
    exact ⟨_, [], FinOk.drop _ _, congrArg AV.bool (show false = _ by
      have h : s = ⟨#[46]⟩ := h
      subst h
      decide), rfl⟩
  have h2 : ¬ s = ⟨#[46]⟩ := h
  repeat(first|refine Sp ?_|refine fun(_:Nat)=>?_)
  refine ⟨fun h => ?_, fun h => ?_⟩
  case' refine_1 =>
    repeat(first|refine Sp ?_|refine fun(_:Nat)=>?_)
    exact ⟨_, [], FinOk.drop _ _, congrArg AV.bool (show false = _ by
      have h : s = ⟨#[46, 46]⟩ := h
      subst h
      decide), rfl⟩
  have h3 : ¬ s = ⟨#[46, 46]⟩ := h
  repeat(first|refine Sp ?_|refine fun(_:Nat)=>?_)
  refine Run.loop (fun k env L => ∃ i : Nat, k = s.size - i ∧ i ≤ s.size ∧ (∀ (j : Nat) (h : j < s.size), j < i → nameByte s[j].toNat = true) ∧ env = [.str s, .junk, .junk, .junk, .junk, .junk, .junk, .junk, .junk, .junk, .junk, .junk, .junk, .junk, .junk, .junk, .junk, .junk, .junk, .junk, .int .i64 s.size, .int .i64 i, .junk, .junk, .junk, .junk, .junk, .junk, .junk, .junk, .junk, .junk, .junk, .junk, .junk, .junk, .junk] ∧ L = []) s.size [.str s, .junk, .junk, .junk, .junk, .junk, .junk, .junk, .junk, .junk, .junk, .junk, .junk, .junk, .junk, .junk, .junk, .junk, .junk, .junk, .int .i64 s.size, .int .i64 0, .junk, .junk, .junk, .junk, .junk, .junk, .junk, .junk, .junk, .junk, .junk, .junk, .junk, .junk, .junk] ?_ ⟨0, by omega, by omega, (fun j _ hj => absurd hj (Nat.not_lt_zero j)), rfl, rfl⟩ ?_
  · repeat(first|exact trivial|refine ⟨.inl rfl, ?_⟩|refine ⟨.inr rfl, ?_⟩)
  rintro k env L ⟨i, rfl, hi, hP, rfl, rfl⟩
  repeat(first|refine Sp ?_|refine fun(_:Nat)=>?_)
  refine ⟨fun h => ?_, fun h => ?_⟩
  · have h : (i : Int) < (s.size : Int) := h
    have hin : i < s.size := by omega
    repeat(first|refine Sp ?_|refine fun(_:Nat)=>?_)
    refine ⟨hin, ?_⟩
    repeat(first|refine Sp ?_|refine fun(_:Nat)=>?_)
    have hbad : nameByte s[i].toNat = false → isNameB s = false := fun hb => by
      rw [Bool.eq_false_iff]
      intro e
      unfold isNameB at e
      simp only [Bool.and_eq_true] at e
      have := (byte_all s _).1 e.2 i hin
      rw [hb] at this
      cases this
    refine ⟨fun hc => ?_, fun hc => ?_⟩
    · have hc : (128 : Int) ≤ (s[i].toNat : Int) := hc
      repeat(first|refine Sp ?_|refine fun(_:Nat)=>?_)
      exact ⟨_, [], FinOk.drop _ _, congrArg AV.bool (show false = _ by
        refine (hbad ?_).symm
        cases hb : nameByte s[i].toNat with
        | false => rfl
        | true => have := nameByte_lt hb; omega), rfl⟩
    · have hc : ¬ (128 : Int) ≤ (s[i].toNat : Int) := hc
      repeat(first|refine Sp ?_|refine fun(_:Nat)=>?_)
      refine ⟨hin, ?_⟩
      repeat(first|refine Sp ?_|refine fun(_:Nat)=>?_)
      refine ⟨show (s[i].toNat : Int) < ((128 : Nat) : Int) by omega, _, tab_at s[i].toNat (by omega), ?_⟩
      repeat(first|refine Sp ?_|refine fun(_:Nat)=>?_)
      cases hb : nameByte s[i].toNat with
      | false =>
        refine ⟨fun _ => ?_, fun hh => absurd rfl hh⟩
        repeat(first|refine Sp ?_|refine fun(_:Nat)=>?_)
        exact ⟨_, [], FinOk.drop _ _, congrArg AV.bool (show false = _ from (hbad hb).symm), rfl⟩
      | true =>
        refine ⟨fun hh => absurd hh (by decide), fun _ => ?_⟩
        repeat(first|refine Sp ?_|refine fun(_:Nat)=>?_)
        refine fun r hr => ?_
        obtain rfl := add1 hr (by omega)
        repeat(first|refine Sp ?_|refine fun(_:Nat)=>?_)
        refine Cont.lp ?_
        refine ⟨s.size - (i + 1), [.str s, .junk, .junk, .junk, .junk, .junk, .junk, .junk, .junk, .junk, .junk, .junk, .junk, .junk, .junk, .junk, .junk, .junk, .junk, .junk, .int .i64 s.size, .int .i64 (i + 1 : Nat), .junk, .junk, .junk, .junk, .junk, .junk, .junk, .junk, .junk, .junk, .junk, .junk, .junk, .junk, .junk], 99, by omega, ?_, ⟨i + 1, rfl, by omega, ?_, rfl, rfl⟩⟩
        · repeat(first|exact trivial|refine ⟨.inl rfl, ?_⟩|refine ⟨.inr rfl, ?_⟩)
        · intro j hj hji
          by_cases e : j = i
          · subst e; exact hb
          · exact hP j hj (by omega)
  · have h : ¬ (i : Int) < (s.size : Int) := h
    repeat(first|refine Sp ?_|refine fun(_:Nat)=>?_)
    exact ⟨_, [], FinOk.drop _ _, congrArg AV.bool (show true = _ by
      symm
      unfold isNameB
      simp only [Bool.and_eq_true, decide_eq_true_eq]
      exact ⟨⟨⟨⟨h0, h1⟩, h2⟩, h3⟩, (byte_all s _).2 fun j hj => hP j hj (by omega)⟩), rfl⟩

def orderL : List UInt8 → List UInt8 → Int
  | [], [] => 0
  | [], _ :: _ => -1
  | _ :: _, [] => 1
  | x :: a, y :: b => if rank x < rank y then -1 else if rank y < rank x then 1 else orderL a b
abbrev orderB (a b : ByteArray) : Int := orderL a.data.toList b.data.toList
theorem byte_at (s : ByteArray) (i : Nat) (h : i < s.size) : s.data.toList.drop i = s[i] :: s.data.toList.drop (i + 1) := by
  have hi' : i < s.data.toList.length := by rw [Array.length_toList]; exact h
  rw [List.drop_eq_getElem_cons hi', Array.getElem_toList]
  rfl

theorem order_specD (a b : ByteArray) (ha : a.size ≤ 9223372036854775807) : FnSpec CD 13 [.str a, .str b] [] (fun r L' => r = .int .i64 (orderB a b) ∧ L' = []) := by
  refine FnSpec.start CD_ok Tryd.func13 rfl rfl Tryd.ntmps13 ?_
  repeat(first|refine Sp ?_|refine fun(_:Nat)=>?_)
  refine fun m hm => ?_
  obtain ⟨n, rfl, hna, hnb, hnn⟩ : ∃ n : Nat, m = n ∧ n ≤ a.size ∧ n ≤ b.size ∧ (n = a.size ∨ n = b.size) := by
    refine ⟨min a.size b.size, ?_, by omega, by omega, by omega⟩
    rw [hm]
    split <;> omega
  repeat(first|refine Sp ?_|refine fun(_:Nat)=>?_)
  have hla : a.data.toList.length = a.size := by rw [Array.length_toList]; rfl
  have hlb : b.data.toList.length = b.size := by rw [Array.length_toList]; rfl
  refine Run.loop (fun k env L => ∃ i : Nat, k = n - i ∧ i ≤ n ∧ (orderB a b = orderL (a.data.toList.drop i) (b.data.toList.drop i)) ∧ env = [.str a, .str b, .junk, .junk, .junk, .junk, .junk, .junk, .junk, .junk, .junk, .junk, .int .i64 n, .int .i64 i, .junk, .junk, .junk, .junk, .junk, .junk, .junk, .junk, .junk, .junk, .junk, .junk, .junk, .junk, .junk, .junk, .junk, .junk, .junk, .junk, .junk, .junk, .junk, .junk, .junk, .junk, .junk, .junk, .junk] ∧ L = []) n [.str a, .str b, .junk, .junk, .junk, .junk, .junk, .junk, .junk, .junk, .junk, .junk, .int .i64 n, .int .i64 0, .junk, .junk, .junk, .junk, .junk, .junk, .junk, .junk, .junk, .junk, .junk, .junk, .junk, .junk, .junk, .junk, .junk, .junk, .junk, .junk, .junk, .junk, .junk, .junk, .junk, .junk, .junk, .junk, .junk] ?_ ⟨0, by omega, by omega, rfl, rfl, rfl⟩ ?_
  · repeat(first|exact trivial|refine ⟨.inl rfl, ?_⟩|refine ⟨.inr rfl, ?_⟩)
  rintro k env L ⟨i, rfl, hi, hP, rfl, rfl⟩
  repeat(first|refine Sp ?_|refine fun(_:Nat)=>?_)
  refine ⟨fun h => ?_, fun h => ?_⟩
  · have h : (i : Int) < (n : Int) := h
    have hin : i < n := by omega
    have hia : i < a.size := by omega
    have hib : i < b.size := by omega
    have e1 := byte_at a i hia
    have e2 := byte_at b i hib
    repeat(first|refine Sp ?_|refine fun(_:Nat)=>?_)
    refine Run.drawn true [0, 1, 2, 4, 5, 6, 3, 7, 8, 9] (by kernel_rfl) ?_
    repeat(first|refine Sp ?_|refine fun(_:Nat)=>?_)
    refine ⟨hia, ?_⟩
    repeat(first|refine Sp ?_|refine fun(_:Nat)=>?_)
    refine ⟨hib, ?_⟩
    repeat(first|refine Sp ?_|refine fun(_:Nat)=>?_)
    refine ACallQ.ret (weight_specD a[i]) ?_
    repeat(first|refine Sp ?_|refine fun(_:Nat)=>?_)
    refine ACallQ.ret (weight_specD b[i]) ?_
    repeat(first|refine Sp ?_|refine fun(_:Nat)=>?_)
    refine ⟨fun hl => ?_, fun hl => ?_⟩
    · have hl : rank a[i] < rank b[i] := hl
      repeat(first|refine Sp ?_|refine fun(_:Nat)=>?_)
      exact ⟨_, [], FinOk.drop _ _, congrArg (AV.int .i64) (show (-1 : Int) = _ by rw [hP, e1, e2]; simp only [orderL, hl, if_true]), rfl⟩
    · have hl : ¬ rank a[i] < rank b[i] := hl
      repeat(first|refine Sp ?_|refine fun(_:Nat)=>?_)
      refine ⟨fun hg => ?_, fun hg => ?_⟩
      · have hg : rank b[i] < rank a[i] := hg
        repeat(first|refine Sp ?_|refine fun(_:Nat)=>?_)
        exact ⟨_, [], FinOk.drop _ _, congrArg (AV.int .i64) (show (1 : Int) = _ by rw [hP, e1, e2]; simp only [orderL, hl, hg, if_true, if_false]), rfl⟩
      · have hg : ¬ rank b[i] < rank a[i] := hg
        repeat(first|refine Sp ?_|refine fun(_:Nat)=>?_)
        refine fun r hr => ?_
        obtain rfl := add1 hr (by omega)
        repeat(first|refine Sp ?_|refine fun(_:Nat)=>?_)
        refine Cont.lp ?_
        refine ⟨n - (i + 1), [.str a, .str b, .junk, .junk, .junk, .junk, .junk, .junk, .junk, .junk, .junk, .junk, .int .i64 n, .int .i64 (i + 1 : Nat), .junk, .junk, .junk, .junk, .junk, .junk, .junk, .junk, .junk, .junk, .junk, .junk, .junk, .junk, .junk, .junk, .junk, .junk, .junk, .junk, .junk, .junk, .junk, .junk, .junk, .junk, .junk, .junk, .junk], 99, by omega, ?_, ⟨i + 1, rfl, by omega, ?_, rfl, rfl⟩⟩
        · repeat(first|exact trivial|refine ⟨.inl rfl, ?_⟩|refine ⟨.inr rfl, ?_⟩)
        · rw [hP, e1, e2]; simp only [orderL, hl, hg, if_false]
  · have h : ¬ (i : Int) < (n : Int) := h
    have hin : i = n := by omega
    subst hin
    have fin : orderB a b = if (a.size : Int) < b.size then -1 else if (b.size : Int) < a.size then 1 else 0 := by
      rw [hP]
      rcases hnn with e | e
      · rw [List.drop_of_length_le (l := a.data.toList) (by omega)]
        by_cases hab : a.size < b.size
        · rw [byte_at b i (by omega), if_pos (by omega)]; rfl
        · rw [List.drop_of_length_le (l := b.data.toList) (by omega), if_neg (by omega), if_neg (by omega)]; rfl
      · rw [List.drop_of_length_le (l := b.data.toList) (by omega)]
        by_cases hab : b.size < a.size
        · rw [byte_at a i (by omega), if_neg (by omega), if_pos (by omega)]; rfl
        · rw [List.drop_of_length_le (l := a.data.toList) (by omega), if_neg (by omega), if_neg (by omega)]; rfl
    repeat(first|refine Sp ?_|refine fun(_:Nat)=>?_)
    refine ⟨fun h => ?_, fun h => ?_⟩
    · have h : (a.size : Int) < (b.size : Int) := h
      repeat(first|refine Sp ?_|refine fun(_:Nat)=>?_)
      exact ⟨_, [], FinOk.drop _ _, congrArg (AV.int .i64) (show (-1 : Int) = _ by rw [fin, if_pos h]), rfl⟩
    · have h : ¬ (a.size : Int) < (b.size : Int) := h
      repeat(first|refine Sp ?_|refine fun(_:Nat)=>?_)
      refine ⟨fun h2 => ?_, fun h2 => ?_⟩
      · have h2 : (b.size : Int) < (a.size : Int) := h2
        repeat(first|refine Sp ?_|refine fun(_:Nat)=>?_)
        exact ⟨_, [], FinOk.drop _ _, congrArg (AV.int .i64) (show (1 : Int) = _ by rw [fin, if_neg h, if_pos h2]), rfl⟩
      · have h2 : ¬ (b.size : Int) < (a.size : Int) := h2
        repeat(first|refine Sp ?_|refine fun(_:Nat)=>?_)
        exact ⟨_, [], FinOk.drop _ _, congrArg (AV.int .i64) (show (0 : Int) = _ by rw [fin, if_neg h, if_neg h2]), rfl⟩

theorem order_spec (a b : ByteArray) (ha : a.size ≤ 9223372036854775807) : FnSpec C 13 [.str a, .str b] [] (fun r L' => r = .int .i64 (orderB a b) ∧ L' = []) := (order_specD a b ha).undraw

end Go.Proofs.YtgpbppkmmlclfaaDoor.HBT
/- The contracts of the program's own texts on names and places, part two: Parse. -/
namespace Go.Proofs.YtgpbppkmmlclfaaDoor.HBT
open Go Go.Proofs.YtgpbppkmmlclfaaDoor.HB Go.RowKit
set_option maxRecDepth 8000

def slash : ByteArray := ⟨#[47]⟩
def begins47 (s : ByteArray) : Bool := Lib.hasPrefix s.data.toList [47]
def cutB (s : ByteArray) : List ByteArray := pieces (s.extract 1 s.size)
def parseE (s : ByteArray) : Int :=
  if 102 < s.size then 2 else if s = slash then 0 else if begins47 s = false then 10 else if 6 < (cutB s).length then 10 else if (cutB s).all isNameB then 0 else 10
def namesOf (s : ByteArray) : List ByteArray := if s = slash then [] else cutB s

def ParseQ (s : ByteArray) (r : AV) (L' : AHeap) : Prop :=
  (parseE s ≠ 0 ∧ r = .tuple [.nils, .int .i64 (parseE s)] ∧ L' = []) ∨ (parseE s = 0 ∧ namesOf s = [] ∧ r = .tuple [.nils, .int .i64 0] ∧ L' = []) ∨
  (parseE s = 0 ∧ (namesOf s).length ≤ 6 ∧ ∃ g, r = .tuple [.sl 0 g (namesOf s).length (namesOf s).length, .int .i64 0] ∧ L' = [(g, .row 9 1 (namesOf s).length ((namesOf s).map .str))])

theorem hasPrefix_size {l : List UInt8} (h : Lib.hasPrefix l [47] = true) : 1 ≤ l.length := by
  cases l with
  | nil => cases h
  | cons => simp

theorem parse_spec (s : ByteArray) : FnSpec C 24 [.str s] [] (ParseQ s) := by
  refine FnSpec.start C_ok Tryd.func24 rfl rfl Tryd.ntmps24 ?_
  repeat(first|refine Sp ?_|refine fun(_:Nat)=>?_)
  refine ⟨fun h => ?_, fun h => ?_⟩
  case' refine_1 =>
    have h : (102 : Int) < (s.size : Int) := h
    have e : parseE s = 2 := by unfold parseE; rw [if_pos (by omega)]
    repeat(first|refine Sp ?_|refine fun(_:Nat)=>?_)
    exact ⟨_, [], FinOk.drop _ _, .inl ⟨by rw [e]; decide, by rw [e]; rfl, rfl⟩⟩
  have h : ¬ (102 : Int) < (s.size : Int) := h
  have h1 : ¬ 102 < s.size := by omega
  repeat(first|refine Sp ?_|refine fun(_:Nat)=>?_)
  refine ⟨fun h => ?_, fun h => ?_⟩
  case' refine_1 =>
    have h : s = slash := h
    repeat(first|refine Sp ?_|refine fun(_:Nat)=>?_)
    exact ⟨_, [], FinOk.drop _ _, .inr (.inl ⟨by unfold parseE; rw [if_neg h1, if_pos h], by unfold namesOf; rw [if_pos h], rfl, rfl⟩)⟩
  have h2 : ¬ s = slash := h
  have hp := hasPrefix_spec s slash []
  cases hb : begins47 s with
  | false =>
    rw [show Lib.hasPrefix s.data.toList slash.data.toList = false from hb] at hp
    repeat(first|refine Sp ?_|refine fun(_:Nat)=>?_)
    refine ACall.ret hp ?_
    repeat(first|refine Sp ?_|refine fun(_:Nat)=>?_)
    have e : parseE s = 10 := by unfold parseE; rw [if_neg h1, if_neg h2, if_pos hb]
    exact ⟨_, [], FinOk.drop _ _, .inl ⟨by rw [e]; decide, by rw [e]; rfl, rfl⟩⟩
  | true =>
    rw [show Lib.hasPrefix s.data.toList slash.data.toList = true from hb] at hp
    repeat(first|refine Sp ?_|refine fun(_:Nat)=>?_)
    refine ACall.ret hp ?_
    repeat(first|refine Sp ?_|refine fun(_:Nat)=>?_)
    have hs1 : 1 ≤ s.size := by have := hasPrefix_size hb; rw [Array.length_toList] at this; exact this
    refine ⟨show (1 : Int) ≤ (s.size : Int) by omega, Int.le_refl _, ?_⟩
    repeat(first|refine Sp ?_|refine fun(_:Nat)=>?_)
    refine ACall.pure _ (split_spec (s.extract 1 s.size) (by rw [ByteArray.size_extract]; omega)) ?_
    rintro r L' ⟨g, rfl, rfl⟩
    refine ⟨_, Sub.refl _, ?_⟩
    repeat(first|refine Sp ?_|refine fun(_:Nat)=>?_)
    have ed : pieces (s.extract 1 s.size) = cutB s := rfl
    rw [ed]
    refine ⟨fun h => ?_, fun h => ?_⟩
    case' refine_1 =>
      have h : (6 : Int) < ((cutB s).length : Int) := h
      have e : parseE s = 10 := by unfold parseE; rw [if_neg h1, if_neg h2, if_neg (by rw [hb]; decide), if_pos (by omega)]
      repeat(first|refine Sp ?_|refine fun(_:Nat)=>?_)
      exact ⟨_, [], FinOk.drop _ _, .inl ⟨by rw [e]; decide, by rw [e]; rfl, rfl⟩⟩
    have h : ¬ (6 : Int) < ((cutB s).length : Int) := h
    have h3 : ¬ 6 < (cutB s).length := by omega
    repeat(first|refine Sp ?_|refine fun(_:Nat)=>?_)
    generalize hl : cutB s = l at h3 ⊢
    refine Run.loop (fun k env L => ∃ i : Nat, k = l.length - i ∧ i ≤ l.length ∧ (∀ (j : Nat) (x : ByteArray), l[j]? = some x → j < i → isNameB x = true) ∧
        env = [.junk, .junk, .junk, .junk, .sl 0 g l.length l.length, .junk, .junk, .junk, .junk, .junk, .junk, .junk, .junk, .junk, .junk, .junk, .junk, .junk, .junk, .junk, .junk, .sl 0 g l.length l.length, .int .i64 l.length, .int .i64 i, .junk, .junk, .junk, .junk, .junk, .junk, .junk, .junk] ∧ L = [(g, .row 9 1 l.length (l.map .str))]) l.length
      [.junk, .junk, .junk, .junk, .sl 0 g l.length l.length, .junk, .junk, .junk, .junk, .junk, .junk, .junk, .junk, .junk, .junk, .junk, .junk, .junk, .junk, .junk, .junk, .sl 0 g l.length l.length, .int .i64 l.length, .int .i64 0, .junk, .junk, .junk, .junk, .junk, .junk, .junk, .junk] ?_ ⟨0, by omega, by omega, (fun j _ _ hj => absurd hj (Nat.not_lt_zero j)), rfl, rfl⟩ ?_
    · repeat(first|exact trivial|refine ⟨.inl rfl, ?_⟩|refine ⟨.inr rfl, ?_⟩)
    rintro k env L ⟨i, rfl, hi, hP, rfl, rfl⟩
    repeat(first|refine Sp ?_|refine fun(_:Nat)=>?_)
    refine ⟨fun h => ?_, fun h => ?_⟩
    · have h : (i : Int) < (l.length : Int) := h
      have hin : i < l.length := by omega
      obtain ⟨x, ex⟩ : ∃ x, l[i]? = some x := ⟨l[i], List.getElem?_eq_getElem hin⟩
      have ex' : (l.map AV.str)[i]? = some (.str x) := by rw [List.getElem?_map, ex]; rfl
      have hn := isName_spec x
      repeat(first|refine Sp ?_|refine fun(_:Nat)=>?_)
      refine ⟨h, ?_⟩
      repeat(first|refine Sp ?_|refine fun(_:Nat)=>?_)
      refine ⟨_, ex', ?_⟩
      repeat(first|refine Sp ?_|refine fun(_:Nat)=>?_)
      cases hx : isNameB x with
      | false =>
        rw [hx] at hn
        refine ACall.ret hn ?_
        repeat(first|refine Sp ?_|refine fun(_:Nat)=>?_)
        have e : parseE s = 10 := by
          have : l.all isNameB = false := by
            rw [Bool.eq_false_iff]
            intro e
            rw [List.all_eq_true] at e
            have := e x (List.mem_of_getElem? ex)
            rw [hx] at this
            cases this
          unfold parseE
          rw [hl, if_neg h1, if_neg h2, if_neg (by rw [hb]; decide), if_neg h3, this]
          rfl
        exact ⟨_, [], FinOk.drop _ _, .inl ⟨by rw [e]; decide, by rw [e]; rfl, rfl⟩⟩
      | true =>
        rw [hx] at hn
        refine ACall.ret hn ?_
        repeat(first|refine Sp ?_|refine fun(_:Nat)=>?_)
        refine fun r hr => ?_
        obtain rfl := add1 hr (by omega)
        repeat(first|refine Sp ?_|refine fun(_:Nat)=>?_)
        refine Cont.lp ?_
        refine ⟨l.length - (i + 1), [.junk, .junk, .junk, .junk, .sl 0 g l.length l.length, .junk, .junk, .junk, .junk, .junk, .junk, .junk, .junk, .junk, .junk, .junk, .junk, .junk, .junk, .junk, .junk, .sl 0 g l.length l.length, .int .i64 l.length, .int .i64 (i + 1 : Nat), .junk, .junk, .junk, .junk, .junk, .junk, .junk, .junk], 99, by omega, ?_, ⟨i + 1, rfl, by omega, ?_, rfl, rfl⟩⟩
        · repeat(first|exact trivial|refine ⟨.inl rfl, ?_⟩|refine ⟨.inr rfl, ?_⟩)
        · intro j y hj hji
          by_cases e : j = i
          · subst e; rw [ex] at hj; cases hj; exact hx
          · exact hP j y hj (by omega)
    · have h : ¬ (i : Int) < (l.length : Int) := h
      repeat(first|refine Sp ?_|refine fun(_:Nat)=>?_)
      have hall : l.all isNameB = true := by
        rw [List.all_eq_true]
        intro x hx
        obtain ⟨j, hj, rfl⟩ := List.mem_iff_getElem.1 hx
        exact hP j _ (List.getElem?_eq_getElem hj) (by omega)
      have e : parseE s = 0 := by
        unfold parseE
        rw [hl, if_neg h1, if_neg h2, if_neg (by rw [hb]; decide), if_neg h3, if_pos hall]
      have en : namesOf s = l := by unfold namesOf; rw [if_neg h2]; exact hl
      exact ⟨_, _, FinOk.refl _ _, .inr (.inr ⟨e, by rw [en]; omega, g, by rw [en]; rfl, by rw [en]⟩)⟩

end Go.Proofs.YtgpbppkmmlclfaaDoor.HBT
/- The contracts of the program's own texts on names and places, part three: placed, Parent, isPlace. -/
namespace Go.Proofs.YtgpbppkmmlclfaaDoor.HBT
open Go Go.Proofs.YtgpbppkmmlclfaaDoor.HB Go.RowKit
set_option maxRecDepth 8000

def joinB (l : List ByteArray) : List UInt8 := Lib.join (l.map (·.data.toList)) [47]
def placedB (l : List ByteArray) : ByteArray := slash ++ ⟨(joinB l).toArray⟩

def parentE (s : ByteArray) : Int := if parseE s ≠ 0 then parseE s else if namesOf s = [] then 47 else 0
def parentB (s : ByteArray) : ByteArray := if parentE s ≠ 0 then ⟨#[]⟩ else placedB ((namesOf s).take ((namesOf s).length - 1))

end Go.Proofs.YtgpbppkmmlclfaaDoor.HBT
/- Plain laws on texts that are cut at their slashes: no program in sight. -/
namespace Go.Proofs.YtgpbppkmmlclfaaDoor.HBT
open Go Go.Proofs.YtgpbppkmmlclfaaDoor.HB Go.RowKit
set_option maxRecDepth 8000

def cut : List UInt8 → List (List UInt8)
  | [] => [[]]
  | c :: l => if c = 47 then [] :: cut l else match cut l with
    | [] => [[c]]
    | p :: ps => (c :: p) :: ps

end Go.Proofs.YtgpbppkmmlclfaaDoor.HBT
/- Places and their names: plain laws. -/
namespace Go.Proofs.YtgpbppkmmlclfaaDoor.HBT
open Go Go.Proofs.YtgpbppkmmlclfaaDoor.HB Go.RowKit
set_option maxRecDepth 8000

def okNames (l : List ByteArray) : Prop := l.length ≤ 6 ∧ ∀ x ∈ l, isNameB x = true
theorem okNames.take {l : List ByteArray} (h : okNames l) (n : Nat) : okNames (l.take n) := ⟨by rw [List.length_take]; have := h.1; omega, fun x hx => h.2 x (List.mem_of_mem_take hx)⟩

end Go.Proofs.YtgpbppkmmlclfaaDoor.HBT
/- The contracts of the shot's small texts: kinds, sizes, below, search. -/
namespace Go.Proofs.YtgpbppkmmlclfaaDoor.HBT
open Go Go.Proofs.YtgpbppkmmlclfaaDoor.HB Go.RowKit
set_option maxRecDepth 8000

def belowB (low high : ByteArray) : Prop := parseE low = 0 ∧ ∃ j, j < (namesOf low).length ∧ high = placedB ((namesOf low).take j)
def childB (low high : ByteArray) : Prop := parentE low = 0 ∧ parentB low = high
noncomputable instance (low high : ByteArray) : Decidable (belowB low high) := Classical.propDecidable _
noncomputable instance (low high : ByteArray) : Decidable (childB low high) := Classical.propDecidable _

end Go.Proofs.YtgpbppkmmlclfaaDoor.HBT
/- The order of places: plain laws. -/
namespace Go.Proofs.YtgpbppkmmlclfaaDoor.HBT
open Go Go.Proofs.YtgpbppkmmlclfaaDoor.HB Go.RowKit
set_option maxRecDepth 8000

theorem rank_inj {a b : UInt8} (h : rank a = rank b) : a = b := by
  unfold rank at h
  apply UInt8.toNat_inj.1
  split at h <;> split at h <;> omega

theorem orderL_eq : ∀ {a b : List UInt8}, orderL a b = 0 ↔ a = b
  | [], [] => by simp [orderL]
  | [], _ :: _ => by simp [orderL]
  | _ :: _, [] => by simp [orderL]
  | x :: a, y :: b => by
    have ih := @orderL_eq a b
    simp only [orderL, List.cons.injEq]
    by_cases h1 : rank x < rank y
    · rw [if_pos h1]
      constructor
      · intro h; cases h
      · rintro ⟨rfl, _⟩; omega
    · rw [if_neg h1]
      by_cases h2 : rank y < rank x
      · rw [if_pos h2]
        constructor
        · intro h; cases h
        · rintro ⟨rfl, _⟩; omega
      · rw [if_neg h2, ih]
        have : x = y := rank_inj (by omega)
        simp [this]
theorem orderL_swap : ∀ (a b : List UInt8), orderL b a = - orderL a b
  | [], [] => rfl
  | [], _ :: _ => rfl
  | _ :: _, [] => rfl
  | x :: a, y :: b => by
    have ih := orderL_swap a b
    simp only [orderL]
    by_cases h1 : rank x < rank y
    · rw [if_pos h1, if_neg (by omega), if_pos h1]; rfl
    · by_cases h2 : rank y < rank x
      · rw [if_pos h2, if_neg h1, if_pos h2]
      · rw [if_neg h1, if_neg h2, if_neg h2, if_neg h1, ih]
theorem orderL_trans : ∀ {a b c : List UInt8}, orderL a b < 0 → orderL b c < 0 → orderL a c < 0
  | [], [], _, h, _ => by simp [orderL] at h
  | [], _ :: _, [], _, h => by simp [orderL] at h
  | [], _ :: _, _ :: _, _, _ => by simp [orderL]
  | _ :: _, [], _, h, _ => by simp [orderL] at h
  | _ :: _, _ :: _, [], _, h => by simp [orderL] at h
  | x :: a, y :: b, z :: c, h, k => by
    have ih := @orderL_trans a b c
    simp only [orderL] at h k ⊢
    by_cases h1 : rank x < rank y
    · by_cases k1 : rank y < rank z
      · rw [if_pos (by omega)]; decide
      · rw [if_neg k1] at k
        by_cases k2 : rank z < rank y
        · rw [if_pos k2] at k; exact absurd k (by decide)
        · rw [if_pos (by omega)]; decide
    · rw [if_neg h1] at h
      by_cases h2 : rank y < rank x
      · rw [if_pos h2] at h; exact absurd h (by decide)
      · rw [if_neg h2] at h
        by_cases k1 : rank y < rank z
        · rw [if_pos (by omega)]; decide
        · rw [if_neg k1] at k
          by_cases k2 : rank z < rank y
          · rw [if_pos k2] at k; exact absurd k (by decide)
          · rw [if_neg k2] at k
            rw [if_neg (by omega), if_neg (by omega)]
            exact ih h k
end Go.Proofs.YtgpbppkmmlclfaaDoor.HBT
