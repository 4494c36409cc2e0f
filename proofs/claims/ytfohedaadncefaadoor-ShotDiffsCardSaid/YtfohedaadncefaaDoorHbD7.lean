/- The order of places: plain laws. -/
import Derived.Test.YtfohedaadncefaaDoorHbD4
namespace Go.Proofs.YtfohedaadncefaaDoor.HBT
open Go Go.Proofs.YtfohedaadncefaaDoor.HB Go.RowKit
set_option maxRecDepth 8000

theorem rank_inj {a b : UInt8} (h : rank a = rank b) : a = b := by
  unfold rank at h
  apply UInt8.toNat_inj.1
  split at h <;> split at h <;> omega

theorem orderL_eq : ∀ {a b : List UInt8}, orderL a b = 0 ↔ a = b
  | [], [] => by simp [orderL]
  | [], _ :: _ => by simp [orderL]
  | _ :: _, [] => by simp [orderL]
  | x :: a, y :: b => by
    have ih := @orderL_eq a b
    simp only [orderL, List.cons.injEq]
    by_cases h1 : rank x < rank y
    · rw [if_pos h1]
      constructor
      · intro h; cases h
      · rintro ⟨rfl, _⟩; omega
    · rw [if_neg h1]
      by_cases h2 : rank y < rank x
      · rw [if_pos h2]
        constructor
        · intro h; cases h
        · rintro ⟨rfl, _⟩; omega
      · rw [if_neg h2, ih]
        have : x = y := rank_inj (by omega)
        simp [this]
theorem orderL_swap : ∀ (a b : List UInt8), orderL b a = - orderL a b
  | [], [] => rfl
  | [], _ :: _ => rfl
  | _ :: _, [] => rfl
  | x :: a, y :: b => by
    have ih := orderL_swap a b
    simp only [orderL]
    by_cases h1 : rank x < rank y
    · rw [if_pos h1, if_neg (by omega), if_pos h1]; rfl
    · by_cases h2 : rank y < rank x
      · rw [if_pos h2, if_neg h1, if_pos h2]
      · rw [if_neg h1, if_neg h2, if_neg h2, if_neg h1, ih]
theorem orderL_trans : ∀ {a b c : List UInt8}, orderL a b < 0 → orderL b c < 0 → orderL a c < 0
  | [], [], _, h, _ => by simp [orderL] at h
  | [], _ :: _, [], _, h => by simp [orderL] at h
  | [], _ :: _, _ :: _, _, _ => by simp [orderL]
  | _ :: _, [], _, h, _ => by simp [orderL] at h
  | _ :: _, _ :: _, [], _, h => by simp [orderL] at h
  | x :: a, y :: b, z :: c, h, k => by
    have ih := @orderL_trans a b c
    simp only [orderL] at h k ⊢
    by_cases h1 : rank x < rank y
    · by_cases k1 : rank y < rank z
      · rw [if_pos (by omega)]; decide
      · rw [if_neg k1] at k
        by_cases k2 : rank z < rank y
        · rw [if_pos k2] at k; exact absurd k (by decide)
        · rw [if_pos (by omega)]; decide
    · rw [if_neg h1] at h
      by_cases h2 : rank y < rank x
      · rw [if_pos h2] at h; exact absurd h (by decide)
      · rw [if_neg h2] at h
        by_cases k1 : rank y < rank z
        · rw [if_pos (by omega)]; decide
        · rw [if_neg k1] at k
          by_cases k2 : rank z < rank y
          · rw [if_pos k2] at k; exact absurd k (by decide)
          · rw [if_neg k2] at k
            rw [if_neg (by omega), if_neg (by omega)]
            exact ih h k
theorem orderL_prefix : ∀ (a b : List UInt8), b ≠ [] → orderL a (a ++ b) < 0
  | [], [], h => absurd rfl h
  | [], _ :: _, _ => by simp [orderL]
  | x :: a, b, h => by
    have := orderL_prefix a b h
    simp only [List.cons_append, orderL, Int.lt_irrefl, if_false]
    exact this

/-- In order, none twice. -/
def Sorted (xs : List Sn) (n : Nat) : Prop := ∀ (j k : Nat) (x y : Sn), j < k → k < n → xs[j]? = some x → xs[k]? = some y → orderB x.p y.p < 0

theorem found_iff {xs : List Sn} {n : Nat} {at_ : ByteArray} {i : Nat} {b : Bool} (h : Found xs n at_ i b) (hs : Sorted xs n) : b = true ↔ ∃ k x, k < n ∧ xs[k]? = some x ∧ x.p = at_ := by
  obtain ⟨h0, h1, h2, h3⟩ := h
  rw [h3]
  constructor
  · rintro ⟨hi, x, ex, hx⟩
    exact ⟨i, x, hi, ex, bytes_inj (orderL_eq.1 hx)⟩
  · rintro ⟨k, x, hk, ex, hx⟩
    have hx0 : orderB x.p at_ = 0 := orderL_eq.2 (by rw [hx])
    have hki : k = i := by
      rcases Nat.lt_trichotomy k i with hlt | heq | hgt
      · exfalso
        rcases h1 with h1 | ⟨y, ey, hy⟩
        · omega
        · by_cases hk1 : k = i - 1
          · subst hk1; rw [ex] at ey; cases ey; rw [hx0] at hy; exact absurd hy (by decide)
          · have := hs k (i - 1) x y (by omega) (by omega) ex ey
            have h4 : orderB x.p at_ < 0 := orderL_trans this hy
            rw [hx0] at h4
            exact absurd h4 (by decide)
      · exact heq
      · exfalso
        rcases h2 with h2 | ⟨y, ey, hy⟩
        · omega
        · have := hs i k y x hgt hk ey ex
          rw [hx] at this
          exact hy this
    subst hki
    exact ⟨hk, x, ex, hx0⟩

end Go.Proofs.YtfohedaadncefaaDoor.HBT
