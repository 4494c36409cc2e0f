/- The plain law of Check: what the program's text asks and what the document's text asks is the same. -/
import Derived.Test.YtfohedaadncefaaDoorHbR11
namespace Go.Proofs.YtfohedaadncefaaDoor.HBT
open Go Go.Proofs.YtfohedaadncefaaDoor.HB Go.RowKit
set_option maxRecDepth 8000

theorem parent_place {s : ByteArray} (h : parseE s = 0) (hp : parseE (parentB s) = 0) : namesOf s ≠ [] ∧ parentE s = 0 := by
  have h1 := parent_of h
  by_cases hn : namesOf s = []
  · have : parentE s = 47 := by rw [h1.1, if_pos hn]
    have h2 : parentB s = ⟨#[]⟩ := by unfold parentB; rw [if_pos (by omega)]
    rw [h2] at hp
    exact absurd hp (by decide)
  · exact ⟨hn, by rw [h1.1, if_neg hn]⟩

theorem join_take : ∀ (l : List (List UInt8)) (n : Nat), n < l.length → (∀ x ∈ l, x ≠ []) → ∃ t, t ≠ [] ∧ Lib.join l [47] = Lib.join (l.take n) [47] ++ t
  | [], n, h, _ => absurd h (Nat.not_lt_zero n)
  | x :: l, 0, _, hx => by
    refine ⟨Lib.join (x :: l) [47], ?_, by simp [Lib.join, List.intercalate]⟩
    cases l with
    | nil => rw [Lib.join_one]; exact hx x (by simp)
    | cons y l => simp [Lib.join, List.intercalate, List.intersperse, hx x (by simp)]
  | [x], n + 1, h, _ => by simp at h
  | x :: y :: l, n + 1, h, hx => by
    obtain ⟨t, ht, e⟩ := join_take (y :: l) n (by simp at h ⊢; omega) (fun z hz => hx z (by simp at hz ⊢; right; exact hz))
    cases n with
    | zero =>
      refine ⟨47 :: Lib.join (y :: l) [47], by simp, ?_⟩
      simp [Lib.join, List.intercalate]
    | succ n =>
      refine ⟨t, ht, ?_⟩
      have h1 : Lib.join (x :: y :: l) [47] = x ++ 47 :: Lib.join (y :: l) [47] := by simp [Lib.join, List.intercalate, List.intersperse]
      have h2 : Lib.join ((x :: y :: l).take (n + 1 + 1)) [47] = x ++ 47 :: Lib.join ((y :: l).take (n + 1)) [47] := by simp [Lib.join, List.intercalate]
      rw [h1, h2, e]
      simp

/-- A place stands behind its parent. -/
theorem parent_lt {s : ByteArray} (h : parseE s = 0) (hp : parseE (parentB s) = 0) : orderB (parentB s) s < 0 := by
  obtain ⟨hn, _⟩ := parent_place h hp
  obtain ⟨hok, hs⟩ := place_names h
  have hl : 0 < (namesOf s).length := List.length_pos_iff.2 hn
  rw [(parent_of h).2 hn]
  unfold orderB
  rw [congrArg (fun z : ByteArray => z.data.toList) hs, placed_data, placed_data]
  obtain ⟨t, ht, e⟩ := join_take ((namesOf s).map (·.data.toList)) ((namesOf s).length - 1) (by simp; omega) (fun x hx => by
    obtain ⟨y, hy, rfl⟩ := List.mem_map.1 hx
    exact name_ne_nil (hok.2 y hy))
  have e2 : joinB (namesOf s) = joinB ((namesOf s).take ((namesOf s).length - 1)) ++ t := by unfold joinB; rw [e, List.map_take]
  rw [e2, ← List.cons_append]
  exact orderL_prefix _ _ ht

theorem below_places {low high : ByteArray} (hl : parseE low = 0) (hh : parseE high = 0) : belowR low high ↔ belowB low high := by
  unfold belowR belowB namesR
  rw [if_pos hl, if_pos hh]
  obtain ⟨okh, eh⟩ := place_names hh
  obtain ⟨okl, el⟩ := place_names hl
  constructor
  · rintro ⟨h1, h2⟩
    exact ⟨hl, _, h1, by rw [h2]; exact eh⟩
  · rintro ⟨_, j, hj, e⟩
    have := placed_inj okh (okl.take j) (eh.symm.trans e)
    rw [this, List.length_take, Nat.min_eq_left (by omega)]
    exact ⟨hj, rfl⟩

theorem check_ref (st : Int) (pl : ByteArray) (kd : Int) (xs : List Sn) (n : Nat) (hn : n ≤ xs.length) : checkP st pl kd xs n ↔ refP st pl kd xs n := by
  unfold checkP refP
  refine and_congr_right fun _ => and_congr_right fun hpl => and_congr_right fun hkd => and_congr_right fun _ => and_congr_right fun _ => ?_
  constructor
  · intro H i x hi ex
    obtain ⟨h1, h2, h3⟩ := H i x hi ex
    obtain ⟨x0, e0⟩ : ∃ x0, xs[0]? = some x0 := ⟨xs[0], List.getElem?_eq_getElem (by omega)⟩
    have first : x0.p = pl := by
      rcases (H 0 x0 (by omega) e0).2.2 with ⟨_, h, _⟩ | ⟨h, _⟩
      · exact h
      · exact absurd rfl h
    rcases h3 with ⟨rfl, hp, hb⟩ | ⟨hi0, y, ey, hy, hb⟩
    · exact ⟨h1, .inl hp, h2, fun h => absurd rfl h, fun hk => hb.resolve_left (fun h => h hk), fun h => absurd hp h⟩
    · refine ⟨h1, ?_, h2, fun _ => ⟨y, ey, hy⟩, ?_, fun hne => ?_⟩
      · rcases hb with ⟨hk, hc, _⟩ | ⟨hk, hc, _⟩
        · exact .inr (.inl ⟨hk, hc.2⟩)
        · exact .inr (.inr ⟨by omega, hk, (below_places h1 hpl).2 hc⟩)
      · intro hk
        rcases hb with ⟨_, _, hb⟩ | ⟨hk3, _⟩
        · exact hb
        · omega
      · rcases hb with ⟨hk, hc, _⟩ | ⟨_, _, k, z, hk, ez, hz⟩
        · exact ⟨0, x0, by omega, e0, first.trans hc.2.symm⟩
        · exact ⟨k, z, by omega, ez, hz⟩
  · intro H i x hi ex
    have hs : Sorted xs n := sorted_of hn (fun k x y hk ex ey => by
      obtain ⟨_, _, _, h4, _⟩ := H (k + 1) y (by omega) ey
      obtain ⟨z, ez, hz⟩ := h4 (by omega)
      rw [Nat.add_sub_cancel, ex] at ez
      cases ez
      exact hz)
    have up : ∀ (i : Nat) (x : Sn), i < n → xs[i]? = some x → x.p ≠ pl → ∃ k z, k < i ∧ xs[k]? = some z ∧ z.p = parentB x.p := fun i x hi ex hne => by
      obtain ⟨h1, _, _, _, _, h6⟩ := H i x hi ex
      obtain ⟨k, z, hk, ez, hz⟩ := h6 hne
      have hzp := (H k z hk ez).1
      have hlt := parent_lt h1 (by rw [← hz]; exact hzp)
      rw [← hz] at hlt
      refine ⟨k, z, ?_, ez, hz⟩
      rcases Nat.lt_trichotomy k i with h | h | h
      · exact h
      · subst h
        rw [ex] at ez; cases ez
        have := (@orderL_eq x.p.data.toList x.p.data.toList).2 rfl
        unfold orderB at hlt
        omega
      · have h7 := hs i k x z h hk ex ez
        have h8 := orderL_swap x.p.data.toList z.p.data.toList
        unfold orderB at hlt h7
        omega
    obtain ⟨x0, e0⟩ : ∃ x0, xs[0]? = some x0 := ⟨xs[0], List.getElem?_eq_getElem (by omega)⟩
    have first : x0.p = pl := by
      apply Classical.byContradiction
      intro hne
      obtain ⟨k, _, hk, _⟩ := up 0 x0 (by omega) e0 hne
      exact absurd hk (Nat.not_lt_zero k)
    obtain ⟨h1, h2, h3, h4, h5, h6⟩ := H i x hi ex
    refine ⟨h1, h3, ?_⟩
    by_cases hi0 : i = 0
    · subst hi0
      rw [e0] at ex; cases ex
      refine .inl ⟨rfl, first, ?_⟩
      by_cases hk : kd = 2
      · exact .inr (h5 hk)
      · exact .inl hk
    · obtain ⟨y, ey, hy⟩ := h4 hi0
      refine .inr ⟨hi0, y, ey, hy, ?_⟩
      have hne : x.p ≠ pl := fun e => by
        have h7 := hs 0 i x0 x (by omega) hi e0 ex
        rw [first, e] at h7
        have := (@orderL_eq pl.data.toList pl.data.toList).2 rfl
        unfold orderB at h7
        omega
      rcases h2 with h2 | ⟨hk, h2⟩ | ⟨_, hk, h2⟩
      · exact absurd h2 hne
      · exact .inl ⟨hk, ⟨(parent_place h1 (by rw [h2]; exact hpl)).2, h2⟩, h5 hk⟩
      · exact .inr ⟨hk, (below_places h1 hpl).1 h2, up i x hi ex hne⟩

end Go.Proofs.YtfohedaadncefaaDoor.HBT
