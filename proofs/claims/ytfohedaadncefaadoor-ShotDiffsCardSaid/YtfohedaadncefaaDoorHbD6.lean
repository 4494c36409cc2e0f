/- Places and their names: plain laws. -/
import Derived.Test.YtfohedaadncefaaDoorHbD5
namespace Go.Proofs.YtfohedaadncefaaDoor.HBT
open Go Go.Proofs.YtfohedaadncefaaDoor.HB Go.RowKit
set_option maxRecDepth 8000

theorem bytes_inj {x y : ByteArray} (h : x.data.toList = y.data.toList) : x = y := ByteArray.ext (Array.toList_inj.mp h)
theorem map_bytes_inj : ∀ {l m : List ByteArray}, l.map (·.data.toList) = m.map (·.data.toList) → l = m
  | [], [], _ => rfl
  | [], _ :: _, h => by simp at h
  | _ :: _, [], h => by simp at h
  | x :: l, y :: m, h => by
    simp only [List.map_cons, List.cons.injEq] at h
    rw [bytes_inj h.1, map_bytes_inj h.2]

theorem name_no_slash {x : ByteArray} (h : isNameB x = true) : (47 : UInt8) ∉ x.data.toList := fun hm => by
  unfold isNameB at h
  simp only [Bool.and_eq_true] at h
  have := (List.all_eq_true.1 h.2) 47 hm
  exact absurd this (by decide)
theorem name_ne_nil {x : ByteArray} (h : isNameB x = true) : x.data.toList ≠ [] := fun e => by
  unfold isNameB at h
  simp only [Bool.and_eq_true, decide_eq_true_eq] at h
  exact h.1.1.1.1 (bytes_inj e)

/-- Names that may make a place. -/
def okNames (l : List ByteArray) : Prop := l.length ≤ 6 ∧ ∀ x ∈ l, isNameB x = true
theorem okNames.take {l : List ByteArray} (h : okNames l) (n : Nat) : okNames (l.take n) := ⟨by rw [List.length_take]; have := h.1; omega, fun x hx => h.2 x (List.mem_of_mem_take hx)⟩

theorem placed_data (l : List ByteArray) : (placedB l).data.toList = 47 :: joinB l := by
  unfold placedB slash
  simp
theorem cutB_cut (s : ByteArray) : (cutB s).map (·.data.toList) = cut (s.data.toList.drop 1) := by
  unfold cutB
  rw [pieces_cut]
  rw [Lib.extract_to_end]

theorem joinB_ne_nil {l : List ByteArray} (h : okNames l) (hne : l ≠ []) : joinB l ≠ [] := by
  cases l with
  | nil => exact absurd rfl hne
  | cons x l =>
    have hx := name_ne_nil (h.2 x (by simp))
    unfold joinB
    rw [List.map_cons]
    cases l with
    | nil => rw [List.map_nil, Lib.join_one]; exact hx
    | cons y l =>
      rw [List.map_cons]
      simp [Lib.join, List.intercalate, List.intersperse, hx]

theorem placed_slash {l : List ByteArray} (h : okNames l) : placedB l = slash ↔ l = [] := by
  constructor
  · intro e
    by_cases hl : l = []
    · exact hl
    · have := congrArg (·.data.toList) e
      simp only [placed_data] at this
      have h2 : slash.data.toList = [47] := rfl
      rw [h2] at this
      simp at this
      exact absurd this (joinB_ne_nil h hl)
  · intro e
    subst e
    apply bytes_inj
    rw [placed_data]
    rfl

theorem join_lt : ∀ (l : List (List UInt8)) (n : Nat), l ≠ [] → (∀ x ∈ l, x.length ≤ n) → (Lib.join l [47]).length + 1 ≤ l.length * (n + 1)
  | [], _, h, _ => absurd rfl h
  | [x], n, _, h => by have := h x (by simp); rw [Lib.join_one]; simp; omega
  | x :: y :: l, n, _, h => by
    have h0 := h x (by simp)
    have ih := join_lt (y :: l) n (by simp) (fun z hz => h z (List.mem_cons_of_mem _ hz))
    have e : Lib.join (x :: y :: l) [47] = x ++ ([47] ++ Lib.join (y :: l) [47]) := by simp [Lib.join, List.intercalate, List.intersperse]
    have e3 : (x :: y :: l).length * (n + 1) = (y :: l).length * (n + 1) + (n + 1) := by rw [List.length_cons, Nat.succ_mul]
    rw [e, List.length_append, List.length_append, e3]
    have : ([47] : List UInt8).length = 1 := rfl
    omega

theorem names_placed {l : List ByteArray} (h : okNames l) : parseE (placedB l) = 0 ∧ namesOf (placedB l) = l := by
  by_cases hl : l = []
  · have e := (placed_slash h).2 hl
    refine ⟨?_, ?_⟩
    · rw [e]; unfold parseE; rw [if_neg (by decide), if_pos rfl]
    · rw [e, hl]; unfold namesOf; rw [if_pos rfl]
  · have e : ¬ placedB l = slash := fun e => hl ((placed_slash h).1 e)
    have hcut : cutB (placedB l) = l := by
      apply map_bytes_inj
      rw [cutB_cut, placed_data]
      show cut (joinB l) = _
      unfold joinB
      exact cut_join _ (by simpa using hl) (fun x hx => by
        obtain ⟨y, hy, rfl⟩ := List.mem_map.1 hx
        exact name_no_slash (h.2 y hy))
    have hsz : (placedB l).size ≤ 102 := by
      have h1 : (placedB l).size = (placedB l).data.toList.length := by rw [Array.length_toList]; rfl
      have h2 := join_lt (l.map (·.data.toList)) 16 (by simpa using hl) (fun x hx => by
        obtain ⟨y, hy, rfl⟩ := List.mem_map.1 hx
        have := isNameB_size (h.2 y hy)
        rw [Array.length_toList]
        exact this)
      have h3 : (l.map (·.data.toList)).length * (16 + 1) ≤ 6 * 17 := Nat.mul_le_mul_right 17 (by rw [List.length_map]; exact h.1)
      rw [h1, placed_data, List.length_cons]
      unfold joinB
      omega
    have hb : begins47 (placedB l) = true := by unfold begins47; rw [placed_data]; rfl
    refine ⟨?_, by unfold namesOf; rw [if_neg e]; exact hcut⟩
    unfold parseE
    rw [if_neg (by omega), if_neg e, if_neg (by rw [hb]; decide), hcut, if_neg (by have := h.1; omega), if_pos (List.all_eq_true.2 h.2)]

/-- A place is the place of its names. -/
theorem place_names {s : ByteArray} (h : parseE s = 0) : okNames (namesOf s) ∧ s = placedB (namesOf s) := by
  have hok : okNames (namesOf s) := names_ok h
  refine ⟨hok, ?_⟩
  unfold parseE at h
  split at h
  · cases h
  split at h
  · rename_i e
    have en : namesOf s = [] := by unfold namesOf; rw [if_pos e]
    rw [en]
    exact e.trans ((placed_slash ⟨by simp, by simp⟩).2 rfl).symm
  rename_i e
  have en : namesOf s = cutB s := by unfold namesOf; rw [if_neg e]
  split at h
  · cases h
  rename_i hb
  have hb : begins47 s = true := by simpa using hb
  apply bytes_inj
  rw [placed_data, en]
  unfold joinB
  rw [cutB_cut, join_cut]
  unfold begins47 at hb
  cases hs : s.data.toList with
  | nil => rw [hs] at hb; cases hb
  | cons c t =>
    rw [hs] at hb
    have hb' : ((47 : UInt8) == c && ([] : List UInt8).isPrefixOf t) = true := hb
    rw [Bool.and_eq_true] at hb'
    have hc : c = 47 := (beq_iff_eq.1 hb'.1).symm
    rw [hc]
    rfl
theorem placed_inj {l m : List ByteArray} (hl : okNames l) (hm : okNames m) (h : placedB l = placedB m) : l = m := by
  rw [← (names_placed hl).2, h, (names_placed hm).2]
theorem parent_placed {l : List ByteArray} (h : okNames l) : parentE (placedB l) = (if l = [] then 47 else 0) ∧ (l ≠ [] → parentB (placedB l) = placedB (l.take (l.length - 1))) := by
  obtain ⟨h1, h2⟩ := names_placed h
  have e : parentE (placedB l) = (if l = [] then 47 else 0) := by unfold parentE; rw [if_neg (by rw [h1]; decide), h2]
  refine ⟨e, fun hne => ?_⟩
  unfold parentB
  rw [if_neg (by rw [e, if_neg hne]; decide), h2]

end Go.Proofs.YtfohedaadncefaaDoor.HBT
