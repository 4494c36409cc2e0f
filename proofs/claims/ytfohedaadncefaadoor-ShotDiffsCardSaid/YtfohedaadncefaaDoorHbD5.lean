/- Plain laws on texts that are cut at their slashes: no program in sight. -/
import Derived.Test.YtfohedaadncefaaDoorHbD3
namespace Go.Proofs.YtfohedaadncefaaDoor.HBT
open Go Go.Proofs.YtfohedaadncefaaDoor.HB Go.RowKit
set_option maxRecDepth 8000

/-- A text, cut at its slashes. -/
def cut : List UInt8 → List (List UInt8)
  | [] => [[]]
  | c :: l => if c = 47 then [] :: cut l else match cut l with
    | [] => [[c]]
    | p :: ps => (c :: p) :: ps

theorem cut_ne_nil (l : List UInt8) : cut l ≠ [] := by
  cases l with
  | nil => simp [cut]
  | cons c l => simp only [cut]; split <;> (try split) <;> simp

theorem splitK_cut : ∀ l : List UInt8, Lib.splitK [47] 0 (Lib.count l [47]) l = cut l
  | [] => by
    rw [show Lib.count [] [47] = 0 from by rw [Lib.count_miss (by simp [Lib.index])]]
    rfl
  | c :: l => by
    have ih := splitK_cut l
    by_cases hc : c = 47
    · subst hc
      rw [Lib.count_cons_eq, Nat.add_comm]
      have hix : Lib.index (47 :: l) [47] = 0 := by rw [Lib.index]; simp [List.isPrefixOf]
      simp only [Lib.splitK, hix, cut, if_true]
      rw [← ih]
      rfl
    · rw [Lib.count_cons_ne c 47 l hc]
      have hp : ([47] : List UInt8).isPrefixOf (c :: l) = false := by simp [List.isPrefixOf, Ne.symm hc]
      have hix : Lib.index (c :: l) [47] = if Lib.index l [47] == -1 then -1 else Lib.index l [47] + 1 := by rw [Lib.index, hp]; simp
      simp only [cut, hc, if_false]
      rw [← ih]
      by_cases hm : Lib.index l [47] = -1
      · rw [Lib.count_miss hm]
        rfl
      · have hge := Lib.index_ge l [47]
        obtain ⟨j, hj⟩ : ∃ j : Nat, Lib.index l [47] = j := ⟨(Lib.index l [47]).toNat, by omega⟩
        have hcount : ∃ k, Lib.count l [47] = k + 1 := by
          rw [Lib.count_hit (by simp) hj]
          exact ⟨_, Nat.add_comm _ _⟩
        obtain ⟨k, hk⟩ := hcount
        rw [hk]
        have h1 : (Lib.index l [47] == -1) = false := by simpa using hm
        have h2 : (Lib.index (c :: l) [47] == -1) = false := by rw [hix, h1]; simp; omega
        have h3 : (Lib.index (c :: l) [47]).toNat = j + 1 := by rw [hix, h1]; simp; omega
        have h4 : (Lib.index l [47]).toNat = j := by omega
        simp only [Lib.splitK, h1, h2, h3, h4]
        simp

theorem pieces_cut (s : ByteArray) : (pieces s).map (·.data.toList) = cut s.data.toList := by
  unfold pieces
  rw [Lib.splitB_data]
  exact splitK_cut s.data.toList

/-- Names put together, cut again. -/
theorem cut_join : ∀ (l : List (List UInt8)), l ≠ [] → (∀ x ∈ l, (47 : UInt8) ∉ x) → cut (Lib.join l [47]) = l := by
  have one : ∀ (x t : List UInt8), (47 : UInt8) ∉ x → cut (x ++ 47 :: t) = x :: cut t := by
    intro x
    induction x with
    | nil => intro t _; simp [cut]
    | cons c x ih =>
      intro t h
      have hc : ¬ c = 47 := fun e => h (by simp [e])
      have := ih t (fun hx => h (List.mem_cons_of_mem _ hx))
      rw [List.cons_append]
      simp only [cut, hc, if_false, this]
  have last : ∀ (x : List UInt8), (47 : UInt8) ∉ x → cut x = [x] := by
    intro x
    induction x with
    | nil => intro _; rfl
    | cons c x ih =>
      intro h
      have hc : ¬ c = 47 := fun e => h (by simp [e])
      have := ih (fun hx => h (List.mem_cons_of_mem _ hx))
      simp only [cut, hc, if_false, this]
  intro l
  induction l with
  | nil => intro h; exact absurd rfl h
  | cons x l ih =>
    intro _ h
    cases l with
    | nil => rw [Lib.join_one]; exact last x (h x (by simp))
    | cons y l =>
      have e : Lib.join (x :: y :: l) [47] = x ++ 47 :: Lib.join (y :: l) [47] := by simp [Lib.join, List.intercalate, List.intersperse]
      rw [e, one x _ (h x (by simp)), ih (by simp) (fun z hz => h z (List.mem_cons_of_mem _ hz))]

/-- A text is its pieces put together. -/
theorem join_cut : ∀ l : List UInt8, Lib.join (cut l) [47] = l
  | [] => by simp [cut, Lib.join, List.intercalate]
  | c :: l => by
    have ih := join_cut l
    have hne := cut_ne_nil l
    by_cases hc : c = 47
    · subst hc
      simp only [cut, if_true]
      cases hl : cut l with
      | nil => exact absurd hl hne
      | cons p ps =>
        rw [hl] at ih
        have e : Lib.join ([] :: p :: ps) [47] = [] ++ 47 :: Lib.join (p :: ps) [47] := by simp [Lib.join, List.intercalate, List.intersperse]
        rw [e, ih]
        rfl
    · simp only [cut, hc, if_false]
      cases hl : cut l with
      | nil => exact absurd hl hne
      | cons p ps =>
        rw [hl] at ih
        cases ps with
        | nil => rw [Lib.join_one] at ih ⊢; rw [ih]
        | cons q ps =>
          have e : ∀ x : List UInt8, Lib.join (x :: q :: ps) [47] = x ++ 47 :: Lib.join (q :: ps) [47] := fun x => by simp [Lib.join, List.intercalate, List.intersperse]
          rw [e] at ih ⊢
          rw [List.cons_append, ih]

end Go.Proofs.YtfohedaadncefaaDoor.HBT
