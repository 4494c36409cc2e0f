/- Two shots' difference, in plain words: what the document's text lists, and that the program's text, which goes along both lists at once, lists the same. -/
import Derived.Test.YtfohedaadncefaaDoorHbD9
import Derived.Test.YtfohedaadncefaaDoorHbW1
namespace Go.Proofs.YtfohedaadncefaaDoor.HBT
open Go Go.Proofs.YtfohedaadncefaaDoor.HB Go.RowKit
set_option maxRecDepth 8000

structure Ch where
  k : Int
  p : ByteArray
  d : ByteArray
  v : Int
def encC (c : Ch) : AV := .agg [.int .i64 c.k, .str c.p, .str c.d, .int .i64 c.v]
abbrev rdc (xs : List Ch) (n : Nat) : AV := .ro 4 (xs.map encC) n
def goneC (x : Sn) : Ch := ⟨3, x.p, ⟨#[]⟩, 0⟩
def madeC (x : Sn) : Ch := ⟨1, x.p, x.d, x.v⟩
def setC (x : Sn) : Ch := ⟨2, x.p, x.d, x.v⟩
/-- Is the place in the list? -/
def inL (l : List Sn) (p : ByteArray) : Prop := ∃ x ∈ l, x.p = p
noncomputable instance (l : List Sn) (p : ByteArray) : Decidable (inL l p) := Classical.propDecidable _
noncomputable instance decMemSn (x : Sn) (l : List Sn) : Decidable (x ∈ l) := Classical.propDecidable _
/-- What is gone, in the first list's order; what is new or other, in the second one's. -/
noncomputable def goneL (a b : List Sn) : List Ch := (a.filter fun x => !decide (inL b x.p)).map goneC
noncomputable def moreOf (a : List Sn) (y : Sn) : List Ch := if inL a y.p then (if y ∈ a then [] else [setC y]) else [madeC y]
noncomputable def moreL (a b : List Sn) : List Ch := (b.map (moreOf a)).flatten
noncomputable def diffL (a b : List Sn) : List Ch := (goneL a b).reverse ++ moreL a b

theorem goneL_take {a b : List Sn} {i : Nat} {x : Sn} (ex : a[i]? = some x) : goneL (a.take (i + 1)) b = goneL (a.take i) b ++ (if inL b x.p then [] else [goneC x]) := by
  unfold goneL
  rw [List.take_add_one, ex]
  simp only [Option.toList_some, List.filter_append, List.map_append]
  congr 1
  by_cases h : inL b x.p <;> simp [h]
theorem moreL_take {a b : List Sn} {j : Nat} {y : Sn} (ey : b[j]? = some y) : moreL a (b.take (j + 1)) = moreL a (b.take j) ++ moreOf a y := by
  unfold moreL
  rw [List.take_add_one, ey]
  simp

theorem orderB_self (p : ByteArray) : orderB p p = 0 := orderL_eq.2 rfl
theorem orderB_eq {p q : ByteArray} : orderB p q = 0 ↔ p = q := ⟨fun h => bytes_inj (orderL_eq.1 h), fun h => by rw [h]; exact orderB_self q⟩
theorem orderB_swap (p q : ByteArray) : orderB q p = - orderB p q := orderL_swap _ _
theorem orderB_trans {p q r : ByteArray} (h : orderB p q < 0) (k : orderB q r < 0) : orderB p r < 0 := orderL_trans h k
theorem orderL_vals : ∀ a b : List UInt8, orderL a b = -1 ∨ orderL a b = 0 ∨ orderL a b = 1
  | [], [] => by simp [orderL]
  | [], _ :: _ => by simp [orderL]
  | _ :: _, [] => by simp [orderL]
  | x :: a, y :: b => by
    have ih := orderL_vals a b
    simp only [orderL]
    split
    · simp
    · split
      · simp
      · exact ih
theorem orderB_vals (p q : ByteArray) : orderB p q = -1 ∨ orderB p q = 0 ∨ orderB p q = 1 := orderL_vals _ _

/-- Where both walks stand: 'i' of the first list are behind, 'j' of the second. -/
structure At2 (a b : List Sn) (n m i j : Nat) : Prop where
  hi : i ≤ n
  hj : j ≤ m
  low : ∀ (k l : Nat) (x y : Sn), k < i → j ≤ l → l < m → a[k]? = some x → b[l]? = some y → orderB x.p y.p < 0
  up : ∀ (k l : Nat) (x y : Sn), i ≤ k → k < n → l < j → a[k]? = some x → b[l]? = some y → orderB y.p x.p < 0
theorem At2.zero (a b : List Sn) (n m : Nat) : At2 a b n m 0 0 := ⟨by omega, by omega, fun _ _ _ _ h => absurd h (Nat.not_lt_zero _), fun _ _ _ _ _ _ h => absurd h (Nat.not_lt_zero _)⟩

section
variable {a b : List Sn} {n m i j : Nat} {x y : Sn}
theorem mem_take {l : List Sn} {n : Nat} {x : Sn} : x ∈ l.take n ↔ ∃ k, k < n ∧ l[k]? = some x := by
  rw [List.mem_iff_getElem?]
  constructor
  · rintro ⟨k, hk⟩
    rw [List.getElem?_take] at hk
    split at hk
    · exact ⟨k, by assumption, hk⟩
    · cases hk
  · rintro ⟨k, hk, e⟩
    exact ⟨k, by rw [List.getElem?_take, if_pos hk]; exact e⟩
theorem sorted_uniq (ha : Sorted a n) {k l : Nat} {x y : Sn} (hk : k < n) (hl : l < n) (ex : a[k]? = some x) (ey : a[l]? = some y) (h : x.p = y.p) : k = l := by
  rcases Nat.lt_trichotomy k l with h1 | h1 | h1
  · have := ha k l x y h1 hl ex ey
    rw [h, orderB_self] at this
    omega
  · exact h1
  · have := ha l k y x h1 hk ey ex
    rw [h, orderB_self] at this
    omega

/-- The two nodes stand at one place. -/
theorem At2.same (h : At2 a b n m i j) (ha : Sorted a n) (hb : Sorted b m) (hi : i < n) (hj : j < m) (ex : a[i]? = some x) (ey : b[j]? = some y) (he : orderB x.p y.p = 0) :
    At2 a b n m (i + 1) (j + 1) ∧ inL (b.take m) x.p ∧ moreOf (a.take n) y = (if x = y then [] else [setC y]) := by
  have hp : x.p = y.p := orderB_eq.1 he
  refine ⟨⟨by omega, by omega, fun k l x' y' hk hl hlm ex' ey' => ?_, fun k l x' y' hk hkn hl ex' ey' => ?_⟩, ⟨y, mem_take.2 ⟨j, hj, ey⟩, hp.symm⟩, ?_⟩
  · have hjl := hb j l y y' (by omega) hlm ey ey'
    by_cases e : k = i
    · subst e; rw [ex] at ex'; cases ex'; rw [hp]; exact hjl
    · exact h.low k l x' y' (by omega) (by omega) hlm ex' ey'
  · have hik := ha i k x x' (by omega) hkn ex ex'
    by_cases e : l = j
    · subst e; rw [ey] at ey'; cases ey'; rw [← hp]; exact hik
    · exact h.up k l x' y' (by omega) hkn (by omega) ex' ey'
  · unfold moreOf
    rw [if_pos ⟨x, mem_take.2 ⟨i, hi, ex⟩, hp⟩]
    by_cases e : x = y
    · rw [if_pos (show y ∈ a.take n from mem_take.2 ⟨i, hi, e ▸ ex⟩), if_pos e]
    · rw [if_neg (fun hm => ?_), if_neg e]
      obtain ⟨k, hk, ek⟩ := mem_take.1 hm
      have := sorted_uniq ha hi hk ex ek hp
      subst this
      rw [ex] at ek
      exact e (Option.some.inj ek)
/-- The second list's node stands first. -/
theorem At2.made (h : At2 a b n m i j) (ha : Sorted a n) (hj : j < m) (ey : b[j]? = some y) (hx : ∀ x, i < n → a[i]? = some x → orderB y.p x.p < 0) :
    At2 a b n m i (j + 1) ∧ moreOf (a.take n) y = [madeC y] := by
  have up : ∀ (k : Nat) (x' : Sn), i ≤ k → k < n → a[k]? = some x' → orderB y.p x'.p < 0 := fun k x' hk hkn ex' => by
    by_cases e : k = i
    · subst e; exact hx x' hkn ex'
    · obtain ⟨z, ez⟩ : ∃ z, a[i]? = some z := by
        have hlt : k < a.length := (List.getElem?_eq_some_iff.1 ex').1
        exact ⟨a[i]'(by omega), List.getElem?_eq_getElem (by omega)⟩
      exact orderB_trans (hx z (by omega) ez) (ha i k z x' (by omega) hkn ez ex')
  refine ⟨⟨h.hi, by omega, fun k l x' y' hk hl hlm ex' ey' => h.low k l x' y' hk (by omega) hlm ex' ey', fun k l x' y' hk hkn hl ex' ey' => ?_⟩, ?_⟩
  · by_cases e : l = j
    · subst e; rw [ey] at ey'; cases ey'; exact up k x' hk hkn ex'
    · exact h.up k l x' y' hk hkn (by omega) ex' ey'
  · unfold moreOf
    rw [if_neg]
    rintro ⟨x', hm, hp⟩
    obtain ⟨k, hk, ek⟩ := mem_take.1 hm
    by_cases hki : k < i
    · have := h.low k j x' y hki (Nat.le_refl _) hj ek ey
      rw [hp, orderB_self] at this
      omega
    · have := up k x' (by omega) hk ek
      rw [hp, orderB_self] at this
      omega
/-- The first list's node stands first: it is gone. -/
theorem At2.gone (h : At2 a b n m i j) (hb : Sorted b m) (hi : i < n) (ex : a[i]? = some x) (hy : ∀ y, j < m → b[j]? = some y → orderB x.p y.p < 0) (hbl : m ≤ b.length) :
    At2 a b n m (i + 1) j ∧ ¬ inL (b.take m) x.p := by
  have low : ∀ (l : Nat) (y' : Sn), j ≤ l → l < m → b[l]? = some y' → orderB x.p y'.p < 0 := fun l y' hl hlm ey' => by
    by_cases e : l = j
    · subst e; exact hy y' hlm ey'
    · obtain ⟨z, ez⟩ : ∃ z, b[j]? = some z := ⟨b[j]'(by omega), List.getElem?_eq_getElem (by omega)⟩
      exact orderB_trans (hy z (by omega) ez) (hb j l z y' (by omega) hlm ez ey')
  refine ⟨⟨by omega, h.hj, fun k l x' y' hk hl hlm ex' ey' => ?_, fun k l x' y' hk hkn hl ex' ey' => h.up k l x' y' (by omega) hkn hl ex' ey'⟩, ?_⟩
  · by_cases e : k = i
    · subst e; rw [ex] at ex'; cases ex'; exact low l y' hl hlm ey'
    · exact h.low k l x' y' (by omega) hl hlm ex' ey'
  · rintro ⟨y', hm, hp⟩
    obtain ⟨l, hl, el⟩ := mem_take.1 hm
    by_cases hlj : l < j
    · have := h.up i l x y' (Nat.le_refl _) hi hlj ex el
      rw [hp, orderB_self] at this
      omega
    · have := low l y' (by omega) hl el
      rw [hp, orderB_self] at this
      omega
end

end Go.Proofs.YtfohedaadncefaaDoor.HBT
