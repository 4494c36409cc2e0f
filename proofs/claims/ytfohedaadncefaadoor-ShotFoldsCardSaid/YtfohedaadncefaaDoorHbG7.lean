/- The contract of the document's own text 'without'. -/
import Derived.Test.YtfohedaadncefaaDoorHbR2
namespace Go.Proofs.YtfohedaadncefaaDoor.HBT
open Go Go.Proofs.YtfohedaadncefaaDoor.HB Go.RowKit
set_option maxRecDepth 8000

theorem erase_step {T : List Sn} {q i : Nat} {y : Sn} (ey : T[i]? = some y) : (T.take (i + 1)).eraseIdx q = if i = q then (T.take i).eraseIdx q else (T.take i).eraseIdx q ++ [y] := by
  have hi := (List.getElem?_eq_some_iff.1 ey).1
  have e : T.take (i + 1) = T.take i ++ [y] := by rw [List.take_add_one, ey]; rfl
  have hl : (T.take i).length = i := by rw [List.length_take]; omega
  rw [e]
  rcases Nat.lt_trichotomy i q with h | h | h
  · rw [if_neg (by omega), List.eraseIdx_of_length_le (by rw [List.length_append, hl]; simp; omega), List.eraseIdx_of_length_le (by omega)]
  · subst h
    have e1 : (T.take i ++ [y]).eraseIdx i = T.take i := by
      rw [List.eraseIdx_append_of_length_le (by omega), hl, Nat.sub_self]
      simp
    rw [if_pos rfl, e1, List.eraseIdx_of_length_le (by omega)]
  · rw [if_neg (by omega), List.eraseIdx_append_of_lt_length (by omega)]

set_option maxHeartbeats 8000000 in
theorem without_spec (xs : List Sn) (n q : Nat) (hn : n ≤ xs.length) (hm : n ≤ 1000) :
    FnSpec C 92 [rdo xs n, .int .i64 q] [] (fun r L' => ∃ v g o, LN 0 ((xs.take n).eraseIdx q) v g o ∧ r = v ∧ L' = [(g, o)]) := by
  refine FnSpec.start C_ok Tryd.func92 rfl rfl Tryd.ntmps92 ?_
  repeat (first | refine Ops.go ?_ | refine And.intro rfl ?_ | refine And.intro (Nat.le_of_ble_eq_true rfl) ?_ | refine And.intro (Int.natCast_nonneg _) ?_ | refine fun (_ : Nat) => ?_ | refine Ord.go ?_ | refine Run.go rfl ?_ | refine Cont.go rfl ?_ | refine OrdP.go ?_)
  refine Run.loopW (fun k env L => ∃ (i : Nat) (out : List Sn) (v : AV) (o : AObj) (gl : Nat), k = n - i ∧ i ≤ n ∧ out.length ≤ i ∧ out = ((xs.take n).take i).eraseIdx q ∧ LN 0 out v gl o ∧
      env = [rdo xs n, .int .i64 q, .junk, .junk, .junk, v, .int .i64 i, .junk, .junk, .junk, .junk, .junk, .junk, .junk, .junk, .junk, .junk, .junk, .junk, .junk, .junk, .junk, .junk, .junk] ∧ L = [(gl, o)]) n
    [rdo xs n, .int .i64 q, .junk, .junk, .junk, .nils, .int .i64 (0 : Nat), .junk, .junk, .junk, .junk, .junk, .junk, .junk, .junk, .junk, .junk, .junk, .junk, .junk, .junk, .junk, .junk, .junk]
    [(0, .dead)]
    (Weak.sel ?_ [9] (by decide) ⟨rfl, trivial, trivial⟩)
    ⟨0, [], .nils, .dead, 0, by omega, by omega, by simp, by simp, .inl ⟨rfl, rfl, rfl⟩, rfl, rfl⟩ ?_
  · repeat (first | exact trivial | refine And.intro (Sub.junk _) ?_ | refine And.intro (Sub.refl _) ?_ | refine And.intro (Sub.sl _ _ _ _ _) ?_ | refine And.intro (Sub.ptr _ _ _ _) ?_)
  rintro k env L ⟨i, out, v, o, gl, rfl, hi, hol, hP, hv, rfl, rfl⟩
  repeat (first | refine Ops.go ?_ | refine And.intro rfl ?_ | refine And.intro (Nat.le_of_ble_eq_true rfl) ?_ | refine And.intro (Int.natCast_nonneg _) ?_ | refine fun (_ : Nat) => ?_ | refine Ord.go ?_ | refine Run.go rfl ?_ | refine Cont.go rfl ?_ | refine OrdP.go ?_)
  refine ⟨fun h => ?_, fun h => ?_⟩
  · have h : (i : Int) < (n : Int) := h
    obtain ⟨y, ey⟩ : ∃ y, xs[i]? = some y := ⟨xs[i], List.getElem?_eq_getElem (by omega)⟩
    have ey' : (xs.take n)[i]? = some y := by rw [List.getElem?_take, if_pos (by omega)]; exact ey
    have hs := erase_step (q := q) ey'
    rw [← hP] at hs
    repeat (first | refine Ops.go ?_ | refine And.intro rfl ?_ | refine And.intro (Nat.le_of_ble_eq_true rfl) ?_ | refine And.intro (Int.natCast_nonneg _) ?_ | refine fun (_ : Nat) => ?_ | refine Ord.go ?_ | refine Run.go rfl ?_ | refine Cont.go rfl ?_ | refine OrdP.go ?_)
    refine ⟨fun hne => ?_, fun he => ?_⟩
    · have hne : (i : Int) ≠ (q : Int) := hne
      rw [if_neg (by omega)] at hs
      rcases hv with ⟨rfl, rfl, rfl⟩ | ⟨Cp, rfl, rfl⟩
      · repeat (first | refine Ops.go ?_ | refine And.intro rfl ?_ | refine And.intro (Nat.le_of_ble_eq_true rfl) ?_ | refine And.intro (Int.natCast_nonneg _) ?_ | refine fun (_ : Nat) => ?_ | refine Ord.go ?_ | refine Run.go rfl ?_ | refine Cont.go rfl ?_ | refine OrdP.go ?_)
        refine ⟨h, enc y, enc_at _ _ _ ey, ?_⟩
        repeat (first | refine Ops.go ?_ | refine And.intro rfl ?_ | refine And.intro (Nat.le_of_ble_eq_true rfl) ?_ | refine And.intro (Int.natCast_nonneg _) ?_ | refine fun (_ : Nat) => ?_ | refine Ord.go ?_ | refine Run.go rfl ?_ | refine Cont.go rfl ?_ | refine OrdP.go ?_)
        refine ⟨fun h => absurd h (List.cons_ne_nil _ _), fun _ g3 C3 => ?_⟩
        repeat (first | refine Ops.go ?_ | refine And.intro rfl ?_ | refine And.intro (Nat.le_of_ble_eq_true rfl) ?_ | refine And.intro (Int.natCast_nonneg _) ?_ | refine fun (_ : Nat) => ?_ | refine Ord.go ?_ | refine Run.go rfl ?_ | refine Cont.go rfl ?_ | refine OrdP.go ?_)
        refine fun r hr => ?_
        obtain rfl := add1 hr (by omega)
        repeat (first | refine Ops.go ?_ | refine And.intro rfl ?_ | refine And.intro (Nat.le_of_ble_eq_true rfl) ?_ | refine And.intro (Int.natCast_nonneg _) ?_ | refine fun (_ : Nat) => ?_ | refine Ord.go ?_ | refine Run.go rfl ?_ | refine Cont.go rfl ?_ | refine OrdP.go ?_)
        refine Cont.lpW ?_
        refine ⟨n - (i + 1), [rdo xs n, .int .i64 q, .junk, .junk, .junk, .sl 0 g3 C3 1, .int .i64 (i + 1 : Nat), .junk, .junk, .junk, .junk, .junk, .junk, .junk, .junk, .junk, .junk, .junk, .junk, .junk, .junk, .junk, .junk, .junk], [(g3, .row 50 3 C3 ([y].map enc))], by omega, Weak.sel ?_ [2] (by decide) ⟨rfl, subRow (by simp [enc]), trivial⟩,
          ⟨i + 1, [y], _, _, g3, rfl, by omega, by simp, by rw [hs]; rfl, .inr ⟨C3, rfl, rfl⟩, rfl, rfl⟩⟩
        repeat (first | exact trivial | refine And.intro (Sub.junk _) ?_ | refine And.intro (Sub.refl _) ?_ | refine And.intro (Sub.sl _ _ _ _ _) ?_ | refine And.intro (Sub.ptr _ _ _ _) ?_)
      · repeat (first | refine Ops.go ?_ | refine And.intro rfl ?_ | refine And.intro (Nat.le_of_ble_eq_true rfl) ?_ | refine And.intro (Int.natCast_nonneg _) ?_ | refine fun (_ : Nat) => ?_ | refine Ord.go ?_ | refine Run.go rfl ?_ | refine Cont.go rfl ?_ | refine OrdP.go ?_)
        refine ⟨h, enc y, enc_at _ _ _ ey, ?_⟩
        repeat (first | refine Ops.go ?_ | refine And.intro rfl ?_ | refine And.intro (Nat.le_of_ble_eq_true rfl) ?_ | refine And.intro (Int.natCast_nonneg _) ?_ | refine fun (_ : Nat) => ?_ | refine Ord.go ?_ | refine Run.go rfl ?_ | refine Cont.go rfl ?_ | refine OrdP.go ?_)
        refine ⟨by simp, by simp at hol ⊢; omega, fun g3 C3 => ?_⟩
        repeat (first | refine Ops.go ?_ | refine And.intro rfl ?_ | refine And.intro (Nat.le_of_ble_eq_true rfl) ?_ | refine And.intro (Int.natCast_nonneg _) ?_ | refine fun (_ : Nat) => ?_ | refine Ord.go ?_ | refine Run.go rfl ?_ | refine Cont.go rfl ?_ | refine OrdP.go ?_)
        refine fun r hr => ?_
        obtain rfl := add1 hr (by omega)
        repeat (first | refine Ops.go ?_ | refine And.intro rfl ?_ | refine And.intro (Nat.le_of_ble_eq_true rfl) ?_ | refine And.intro (Int.natCast_nonneg _) ?_ | refine fun (_ : Nat) => ?_ | refine Ord.go ?_ | refine Run.go rfl ?_ | refine Cont.go rfl ?_ | refine OrdP.go ?_)
        refine Cont.lpW ?_
        refine ⟨n - (i + 1), [rdo xs n, .int .i64 q, .junk, .junk, .junk, .sl 0 g3 C3 ((out.map enc).length + 1), .int .i64 (i + 1 : Nat), .junk, .junk, .junk, .junk, .junk, .junk, .junk, .junk, .junk, .junk, .junk, .junk, .junk, .junk, .junk, .junk, .junk], [(g3, .row 50 3 C3 ((out ++ [y]).map enc))], by omega, Weak.sel ?_ [0] (by decide) ⟨rfl, subRow (by simp [enc]), trivial⟩,
          ⟨i + 1, out ++ [y], _, _, g3, rfl, by omega, by simp at hol ⊢; omega, by rw [hs], .inr ⟨C3, congrArg (AV.sl 0 g3 C3) (by simp), rfl⟩, rfl, rfl⟩⟩
        repeat (first | exact trivial | refine And.intro (Sub.junk _) ?_ | refine And.intro (Sub.refl _) ?_ | refine And.intro (Sub.sl _ _ _ _ _) ?_ | refine And.intro (Sub.ptr _ _ _ _) ?_)
    · have he : (i : Int) = (q : Int) := Classical.not_not.1 he
      rw [if_pos (by omega)] at hs
      repeat (first | refine Ops.go ?_ | refine And.intro rfl ?_ | refine And.intro (Nat.le_of_ble_eq_true rfl) ?_ | refine And.intro (Int.natCast_nonneg _) ?_ | refine fun (_ : Nat) => ?_ | refine Ord.go ?_ | refine Run.go rfl ?_ | refine Cont.go rfl ?_ | refine OrdP.go ?_)
      refine fun r hr => ?_
      obtain rfl := add1 hr (by omega)
      repeat (first | refine Ops.go ?_ | refine And.intro rfl ?_ | refine And.intro (Nat.le_of_ble_eq_true rfl) ?_ | refine And.intro (Int.natCast_nonneg _) ?_ | refine fun (_ : Nat) => ?_ | refine Ord.go ?_ | refine Run.go rfl ?_ | refine Cont.go rfl ?_ | refine OrdP.go ?_)
      refine Cont.lpW ?_
      refine ⟨n - (i + 1), [rdo xs n, .int .i64 q, .junk, .junk, .junk, v, .int .i64 (i + 1 : Nat), .junk, .junk, .junk, .junk, .junk, .junk, .junk, .junk, .junk, .junk, .junk, .junk, .junk, .junk, .junk, .junk, .junk], [(gl, o)], by omega, Weak.sel ?_ [0] (by decide) ⟨rfl, SubO.refl _, trivial⟩,
        ⟨i + 1, out, v, o, gl, rfl, by omega, by omega, by rw [hs], hv, rfl, rfl⟩⟩
      repeat (first | exact trivial | refine And.intro (Sub.junk _) ?_ | refine And.intro (Sub.refl _) ?_ | refine And.intro (Sub.sl _ _ _ _ _) ?_ | refine And.intro (Sub.ptr _ _ _ _) ?_)
  · have h : ¬ (i : Int) < (n : Int) := h
    obtain rfl : i = n := by omega
    have e0 : (xs.take i).take i = xs.take i := by rw [List.take_take, Nat.min_self]
    rw [e0] at hP
    repeat (first | refine Ops.go ?_ | refine And.intro rfl ?_ | refine And.intro (Nat.le_of_ble_eq_true rfl) ?_ | refine And.intro (Int.natCast_nonneg _) ?_ | refine fun (_ : Nat) => ?_ | refine Ord.go ?_ | refine Run.go rfl ?_ | refine Cont.go rfl ?_ | refine OrdP.go ?_)
    rw [← hP]
    exact ⟨_, _, FinOk.keep _ [0] (Sub.refl _) (by decide) rfl, v, gl, o, hv, rfl, rfl⟩
end Go.Proofs.YtfohedaadncefaaDoor.HBT
/- The contract of the document's own Below. -/
namespace Go.Proofs.YtfohedaadncefaaDoor.HBT
open Go Go.Proofs.YtfohedaadncefaaDoor.HB Go.RowKit
set_option maxRecDepth 8000

/-- What Parse hands on, whatever it answers. -/
def namesR (s : ByteArray) : List ByteArray := if parseE s = 0 then namesOf s else []
def belowR (s above : ByteArray) : Prop := (namesR above).length < (namesR s).length ∧ (namesR s).take (namesR above).length = namesR above
noncomputable instance (s above : ByteArray) : Decidable (belowR s above) := Classical.propDecidable _

theorem namesR_le (s : ByteArray) : (namesR s).length ≤ 6 := by
  unfold namesR
  split
  · rename_i h; exact (names_ok h).1
  · simp
/-- What Parse hands on: nothing, or a row. -/
theorem parse_cases {s : ByteArray} {r : AV} {L' : AHeap} (hq : ParseR s r L') : ∃ e, (namesR s = [] ∧ r = .tuple [.nils, .int .i64 e] ∧ L' = []) ∨ (∃ g Cp, r = .tuple [.sl 0 g Cp (namesR s).length, .int .i64 e] ∧ L' = [(g, .row 9 1 Cp ((namesR s).map .str))]) := by
  rcases hq with ⟨h, rfl, rfl⟩ | ⟨h, hn, rfl, rfl⟩ | ⟨h, _, g, Cp, rfl, rfl⟩
  · exact ⟨_, .inl ⟨by unfold namesR; rw [if_neg h], rfl, rfl⟩⟩
  · exact ⟨_, .inl ⟨by unfold namesR; rw [if_pos h]; exact hn, rfl, rfl⟩⟩
  · have : namesR s = namesOf s := by unfold namesR; rw [if_pos h]
    exact ⟨_, .inr ⟨g, Cp, by rw [this], by rw [this]⟩⟩

set_option maxHeartbeats 1000000 in
theorem refBelow_spec (s above : ByteArray) : FnSpec C 79 [.str s, .str above] [] (fun r L' => r = .bool (decide (belowR s above)) ∧ L' = []) := by
  refine FnSpec.start C_ok Tryd.func79 rfl rfl Tryd.ntmps79 ?_
  have no : ¬ belowR s above → false = decide (belowR s above) := fun h => (decide_eq_false h).symm
  have yes : belowR s above → true = decide (belowR s above) := fun h => (decide_eq_true h).symm
  have hs6 := namesR_le s
  have ha6 := namesR_le above
  repeat (first | refine Ops.go ?_ | refine And.intro rfl ?_ | refine And.intro (Nat.le_of_ble_eq_true rfl) ?_ | refine And.intro (Int.natCast_nonneg _) ?_ | refine fun (_ : Nat) => ?_ | refine Ord.go ?_ | refine Run.go rfl ?_ | refine Cont.go rfl ?_ | refine OrdP.go ?_)
  refine ACall.pure _ (refParse_spec s) ?_
  intro r L' hq
  obtain ⟨e, ⟨hn, rfl, rfl⟩ | ⟨g, Cp, rfl, rfl⟩⟩ := parse_cases hq
  · refine ⟨_, Sub.refl _, ?_⟩
    have hb : ¬ belowR s above := fun h => by have := h.1; rw [hn] at this; cases this
    repeat (first | refine Ops.go ?_ | refine And.intro rfl ?_ | refine And.intro (Nat.le_of_ble_eq_true rfl) ?_ | refine And.intro (Int.natCast_nonneg _) ?_ | refine fun (_ : Nat) => ?_ | refine Ord.go ?_ | refine Run.go rfl ?_ | refine Cont.go rfl ?_ | refine OrdP.go ?_)
    refine ACall.pure _ (refParse_spec above) ?_
    intro r L' hq
    obtain ⟨e, ⟨hn2, rfl, rfl⟩ | ⟨g2, C2, rfl, rfl⟩⟩ := parse_cases hq
    · refine ⟨_, Sub.refl _, ?_⟩
      repeat (first | refine Ops.go ?_ | refine And.intro rfl ?_ | refine And.intro (Nat.le_of_ble_eq_true rfl) ?_ | refine And.intro (Int.natCast_nonneg _) ?_ | refine fun (_ : Nat) => ?_ | refine Ord.go ?_ | refine Run.go rfl ?_ | refine Cont.go rfl ?_ | refine OrdP.go ?_)
      refine ⟨fun _ => ?_, fun h => absurd (show (0 : Int) ≤ 0 by decide) h⟩
      repeat (first | refine Ops.go ?_ | refine And.intro rfl ?_ | refine And.intro (Nat.le_of_ble_eq_true rfl) ?_ | refine And.intro (Int.natCast_nonneg _) ?_ | refine fun (_ : Nat) => ?_ | refine Ord.go ?_ | refine Run.go rfl ?_ | refine Cont.go rfl ?_ | refine OrdP.go ?_)
      exact ⟨_, [], FinOk.drop _ _, congrArg AV.bool (no hb), rfl⟩
    · refine ⟨_, Sub.refl _, ?_⟩
      repeat (first | refine Ops.go ?_ | refine And.intro rfl ?_ | refine And.intro (Nat.le_of_ble_eq_true rfl) ?_ | refine And.intro (Int.natCast_nonneg _) ?_ | refine fun (_ : Nat) => ?_ | refine Ord.go ?_ | refine Run.go rfl ?_ | refine Cont.go rfl ?_ | refine OrdP.go ?_)
      refine ⟨fun _ => ?_, fun h => absurd (show (0 : Int) ≤ ((namesR above).length : Int) by omega) h⟩
      repeat (first | refine Ops.go ?_ | refine And.intro rfl ?_ | refine And.intro (Nat.le_of_ble_eq_true rfl) ?_ | refine And.intro (Int.natCast_nonneg _) ?_ | refine fun (_ : Nat) => ?_ | refine Ord.go ?_ | refine Run.go rfl ?_ | refine Cont.go rfl ?_ | refine OrdP.go ?_)
      exact ⟨_, [], FinOk.drop _ _, congrArg AV.bool (no hb), rfl⟩
  · refine ⟨_, Sub.refl _, ?_⟩
    repeat (first | refine Ops.go ?_ | refine And.intro rfl ?_ | refine And.intro (Nat.le_of_ble_eq_true rfl) ?_ | refine And.intro (Int.natCast_nonneg _) ?_ | refine fun (_ : Nat) => ?_ | refine Ord.go ?_ | refine Run.go rfl ?_ | refine Cont.go rfl ?_ | refine OrdP.go ?_)
    refine ACall.pure _ (refParse_spec above) ?_
    intro r L' hq
    obtain ⟨e2, ⟨hn2, rfl, rfl⟩ | ⟨g2, C2, rfl, rfl⟩⟩ := parse_cases hq
    · refine ⟨_, Sub.refl _, ?_⟩
      repeat (first | refine Ops.go ?_ | refine And.intro rfl ?_ | refine And.intro (Nat.le_of_ble_eq_true rfl) ?_ | refine And.intro (Int.natCast_nonneg _) ?_ | refine fun (_ : Nat) => ?_ | refine Ord.go ?_ | refine Run.go rfl ?_ | refine Cont.go rfl ?_ | refine OrdP.go ?_)
      refine ⟨fun h => ?_, fun h => ?_⟩
      · have h : ((namesR s).length : Int) ≤ 0 := h
        repeat (first | refine Ops.go ?_ | refine And.intro rfl ?_ | refine And.intro (Nat.le_of_ble_eq_true rfl) ?_ | refine And.intro (Int.natCast_nonneg _) ?_ | refine fun (_ : Nat) => ?_ | refine Ord.go ?_ | refine Run.go rfl ?_ | refine Cont.go rfl ?_ | refine OrdP.go ?_)
        exact ⟨_, [], FinOk.drop _ _, congrArg AV.bool (no (fun h2 => by have := h2.1; omega)), rfl⟩
      · have h : ¬ ((namesR s).length : Int) ≤ 0 := h
        have hb : belowR s above := ⟨by rw [hn2]; simp; omega, by rw [hn2]; rfl⟩
        repeat (first | refine Ops.go ?_ | refine And.intro rfl ?_ | refine And.intro (Nat.le_of_ble_eq_true rfl) ?_ | refine And.intro (Int.natCast_nonneg _) ?_ | refine fun (_ : Nat) => ?_ | refine Ord.go ?_ | refine Run.go rfl ?_ | refine Cont.go rfl ?_ | refine OrdP.go ?_)
        refine Run.loop (fun _ env L => env = [.junk, .junk, .junk, .junk, .junk, .junk, .junk, .nils, .junk, .int .i64 0, .junk, .junk, .junk, .junk, .junk, .junk, .junk, .junk, .junk, .junk, .junk, .junk, .junk, .junk, .junk, .junk, .junk, .junk, .junk, .junk, .junk, .junk, .junk, .junk, .junk, .junk, .junk, .junk, .junk, .junk] ∧ L = [(g, .row 9 1 Cp ((namesR s).map .str))]) 0 [.junk, .junk, .junk, .junk, .junk, .junk, .junk, .nils, .junk, .int .i64 0, .junk, .junk, .junk, .junk, .junk, .junk, .junk, .junk, .junk, .junk, .junk, .junk, .junk, .junk, .junk, .junk, .junk, .junk, .junk, .junk, .junk, .junk, .junk, .junk, .junk, .junk, .junk, .junk, .junk, .junk] ?_ ⟨rfl, rfl⟩ ?_
        · repeat (first | exact trivial | refine ⟨.inl rfl, ?_⟩ | refine ⟨.inr rfl, ?_⟩)
        rintro k env L ⟨rfl, rfl⟩
        repeat (first | refine Ops.go ?_ | refine And.intro rfl ?_ | refine And.intro (Nat.le_of_ble_eq_true rfl) ?_ | refine And.intro (Int.natCast_nonneg _) ?_ | refine fun (_ : Nat) => ?_ | refine Ord.go ?_ | refine Run.go rfl ?_ | refine Cont.go rfl ?_ | refine OrdP.go ?_)
        refine ⟨fun h => absurd h (by decide), fun _ => ?_⟩
        repeat (first | refine Ops.go ?_ | refine And.intro rfl ?_ | refine And.intro (Nat.le_of_ble_eq_true rfl) ?_ | refine And.intro (Int.natCast_nonneg _) ?_ | refine fun (_ : Nat) => ?_ | refine Ord.go ?_ | refine Run.go rfl ?_ | refine Cont.go rfl ?_ | refine OrdP.go ?_)
        exact ⟨_, [], FinOk.drop _ _, congrArg AV.bool (yes hb), rfl⟩
    · refine ⟨.tuple [.sl 1 g2 C2 (namesR above).length, .int .i64 e2], Sub.tuples (.two (.sl _ _ _ _ _) (.refl _)), ?_⟩
      repeat (first | refine Ops.go ?_ | refine And.intro rfl ?_ | refine And.intro (Nat.le_of_ble_eq_true rfl) ?_ | refine And.intro (Int.natCast_nonneg _) ?_ | refine fun (_ : Nat) => ?_ | refine Ord.go ?_ | refine Run.go rfl ?_ | refine Cont.go rfl ?_ | refine OrdP.go ?_)
      refine ⟨fun h => ?_, fun h => ?_⟩
      · have h : ((namesR s).length : Int) ≤ ((namesR above).length : Int) := h
        repeat (first | refine Ops.go ?_ | refine And.intro rfl ?_ | refine And.intro (Nat.le_of_ble_eq_true rfl) ?_ | refine And.intro (Int.natCast_nonneg _) ?_ | refine fun (_ : Nat) => ?_ | refine Ord.go ?_ | refine Run.go rfl ?_ | refine Cont.go rfl ?_ | refine OrdP.go ?_)
        exact ⟨_, [], FinOk.drop _ _, congrArg AV.bool (no (fun h2 => by have := h2.1; omega)), rfl⟩
      · have h : ¬ ((namesR s).length : Int) ≤ ((namesR above).length : Int) := h
        repeat (first | refine Ops.go ?_ | refine And.intro rfl ?_ | refine And.intro (Nat.le_of_ble_eq_true rfl) ?_ | refine And.intro (Int.natCast_nonneg _) ?_ | refine fun (_ : Nat) => ?_ | refine Ord.go ?_ | refine Run.go rfl ?_ | refine Cont.go rfl ?_ | refine OrdP.go ?_)
        refine Run.loop (fun k env L => ∃ i : Nat, k = (namesR above).length - i ∧ i ≤ (namesR above).length ∧ (∀ j < i, (namesR s)[j]? = (namesR above)[j]?) ∧ env = [.junk, .junk, .junk, .junk, .junk, .sl 0 g Cp (namesR s).length, .junk, .sl 1 g2 C2 (namesR above).length, .junk, .int .i64 i, .junk, .junk, .junk, .junk, .junk, .junk, .junk, .junk, .junk, .junk, .junk, .junk, .junk, .junk, .junk, .junk, .junk, .junk, .junk, .junk, .junk, .junk, .junk, .junk, .junk, .junk, .junk, .junk, .junk, .junk] ∧ L = [(g, .row 9 1 Cp ((namesR s).map .str)), (g2, .row 9 1 C2 ((namesR above).map .str))]) (namesR above).length
          [.junk, .junk, .junk, .junk, .junk, .sl 0 g Cp (namesR s).length, .junk, .sl 1 g2 C2 (namesR above).length, .junk, .int .i64 0, .junk, .junk, .junk, .junk, .junk, .junk, .junk, .junk, .junk, .junk, .junk, .junk, .junk, .junk, .junk, .junk, .junk, .junk, .junk, .junk, .junk, .junk, .junk, .junk, .junk, .junk, .junk, .junk, .junk, .junk] ?_ ⟨0, by omega, by omega, (fun j hj => absurd hj (Nat.not_lt_zero j)), rfl, rfl⟩ ?_
        · repeat (first | exact trivial | refine ⟨.inl rfl, ?_⟩ | refine ⟨.inr rfl, ?_⟩)
        rintro k env L ⟨i, rfl, hi, hP, rfl, rfl⟩
        repeat (first | refine Ops.go ?_ | refine And.intro rfl ?_ | refine And.intro (Nat.le_of_ble_eq_true rfl) ?_ | refine And.intro (Int.natCast_nonneg _) ?_ | refine fun (_ : Nat) => ?_ | refine Ord.go ?_ | refine Run.go rfl ?_ | refine Cont.go rfl ?_ | refine OrdP.go ?_)
        refine ⟨fun h2 => ?_, fun h2 => ?_⟩
        · have h2 : (i : Int) < ((namesR above).length : Int) := h2
          obtain ⟨x, ex⟩ : ∃ x, (namesR s)[i]? = some x := ⟨(namesR s)[i], List.getElem?_eq_getElem (by omega)⟩
          obtain ⟨y, ey⟩ : ∃ y, (namesR above)[i]? = some y := ⟨(namesR above)[i], List.getElem?_eq_getElem (by omega)⟩
          have ex' : ((namesR s).map AV.str)[i]? = some (.str x) := by rw [List.getElem?_map, ex]; rfl
          have ey' : ((namesR above).map AV.str)[i]? = some (.str y) := by rw [List.getElem?_map, ey]; rfl
          repeat (first | refine Ops.go ?_ | refine And.intro rfl ?_ | refine And.intro (Nat.le_of_ble_eq_true rfl) ?_ | refine And.intro (Int.natCast_nonneg _) ?_ | refine fun (_ : Nat) => ?_ | refine Ord.go ?_ | refine Run.go rfl ?_ | refine Cont.go rfl ?_ | refine OrdP.go ?_)
          refine Run.drawn true [0, 1, 2, 3, 4, 5, 6, 7, 8] (by kernel_rfl) ?_
          repeat (first | refine Ops.go ?_ | refine And.intro rfl ?_ | refine And.intro (Nat.le_of_ble_eq_true rfl) ?_ | refine And.intro (Int.natCast_nonneg _) ?_ | refine fun (_ : Nat) => ?_ | refine Ord.go ?_ | refine Run.go rfl ?_ | refine Cont.go rfl ?_ | refine OrdP.go ?_)
          refine ⟨show (i : Int) < ((namesR s).length : Int) by omega, ?_⟩
          repeat (first | refine Ops.go ?_ | refine And.intro rfl ?_ | refine And.intro (Nat.le_of_ble_eq_true rfl) ?_ | refine And.intro (Int.natCast_nonneg _) ?_ | refine fun (_ : Nat) => ?_ | refine Ord.go ?_ | refine Run.go rfl ?_ | refine Cont.go rfl ?_ | refine OrdP.go ?_)
          refine ⟨_, ex', ?_⟩
          repeat (first | refine Ops.go ?_ | refine And.intro rfl ?_ | refine And.intro (Nat.le_of_ble_eq_true rfl) ?_ | refine And.intro (Int.natCast_nonneg _) ?_ | refine fun (_ : Nat) => ?_ | refine Ord.go ?_ | refine Run.go rfl ?_ | refine Cont.go rfl ?_ | refine OrdP.go ?_)
          refine ⟨h2, ?_⟩
          repeat (first | refine Ops.go ?_ | refine And.intro rfl ?_ | refine And.intro (Nat.le_of_ble_eq_true rfl) ?_ | refine And.intro (Int.natCast_nonneg _) ?_ | refine fun (_ : Nat) => ?_ | refine Ord.go ?_ | refine Run.go rfl ?_ | refine Cont.go rfl ?_ | refine OrdP.go ?_)
          refine ⟨_, ey', ?_⟩
          repeat (first | refine Ops.go ?_ | refine And.intro rfl ?_ | refine And.intro (Nat.le_of_ble_eq_true rfl) ?_ | refine And.intro (Int.natCast_nonneg _) ?_ | refine fun (_ : Nat) => ?_ | refine Ord.go ?_ | refine Run.go rfl ?_ | refine Cont.go rfl ?_ | refine OrdP.go ?_)
          refine ⟨fun hne => ?_, fun heq => ?_⟩
          · have hne : x ≠ y := hne
            repeat (first | refine Ops.go ?_ | refine And.intro rfl ?_ | refine And.intro (Nat.le_of_ble_eq_true rfl) ?_ | refine And.intro (Int.natCast_nonneg _) ?_ | refine fun (_ : Nat) => ?_ | refine Ord.go ?_ | refine Run.go rfl ?_ | refine Cont.go rfl ?_ | refine OrdP.go ?_)
            exact ⟨_, [], FinOk.drop _ _, congrArg AV.bool (no (fun h3 => by
              have := congrArg (·[i]?) h3.2
              simp only [List.getElem?_take, show i < (namesR above).length by omega, if_true, ex, ey, Option.some.injEq] at this
              exact hne this)), rfl⟩
          · have heq : x = y := Classical.not_not.1 heq
            repeat (first | refine Ops.go ?_ | refine And.intro rfl ?_ | refine And.intro (Nat.le_of_ble_eq_true rfl) ?_ | refine And.intro (Int.natCast_nonneg _) ?_ | refine fun (_ : Nat) => ?_ | refine Ord.go ?_ | refine Run.go rfl ?_ | refine Cont.go rfl ?_ | refine OrdP.go ?_)
            refine fun r hr => ?_
            obtain rfl := add1 hr (by omega)
            repeat (first | refine Ops.go ?_ | refine And.intro rfl ?_ | refine And.intro (Nat.le_of_ble_eq_true rfl) ?_ | refine And.intro (Int.natCast_nonneg _) ?_ | refine fun (_ : Nat) => ?_ | refine Ord.go ?_ | refine Run.go rfl ?_ | refine Cont.go rfl ?_ | refine OrdP.go ?_)
            refine Cont.lp ?_
            refine ⟨(namesR above).length - (i + 1), [.junk, .junk, .junk, .junk, .junk, .sl 0 g Cp (namesR s).length, .junk, .sl 1 g2 C2 (namesR above).length, .junk, .int .i64 (i + 1 : Nat), .junk, .junk, .junk, .junk, .junk, .junk, .junk, .junk, .junk, .junk, .junk, .junk, .junk, .junk, .junk, .junk, .junk, .junk, .junk, .junk, .junk, .junk, .junk, .junk, .junk, .junk, .junk, .junk, .junk, .junk], 99, by omega, ?_, ⟨i + 1, rfl, by omega, ?_, rfl, rfl⟩⟩
            · repeat (first | exact trivial | refine ⟨.inl rfl, ?_⟩ | refine ⟨.inr rfl, ?_⟩)
            · intro j hj
              by_cases e : j = i
              · subst e; rw [ex, ey, heq]
              · exact hP j (by omega)
        · have h2 : ¬ (i : Int) < ((namesR above).length : Int) := h2
          have hb : belowR s above := ⟨by omega, by
            apply List.ext_getElem?
            intro j
            rw [List.getElem?_take]
            split
            · exact hP j (by omega)
            · rw [List.getElem?_eq_none (by omega)]⟩
          repeat (first | refine Ops.go ?_ | refine And.intro rfl ?_ | refine And.intro (Nat.le_of_ble_eq_true rfl) ?_ | refine And.intro (Int.natCast_nonneg _) ?_ | refine fun (_ : Nat) => ?_ | refine Ord.go ?_ | refine Run.go rfl ?_ | refine Cont.go rfl ?_ | refine OrdP.go ?_)
          exact ⟨_, [], FinOk.drop _ _, congrArg AV.bool (yes hb), rfl⟩

end Go.Proofs.YtfohedaadncefaaDoor.HBT
/- The contract of the document's own text 'Covers'. -/
namespace Go.Proofs.YtfohedaadncefaaDoor.HBT
open Go Go.Proofs.YtfohedaadncefaaDoor.HB Go.RowKit
set_option maxRecDepth 8000

noncomputable instance (s above : ByteArray) : Decidable (belowR s above) := Classical.propDecidable _
/-- Is a change of that kind at a place one for the watch, as the document says? -/
def coversR (kd : Int) (pl : ByteArray) (k : Int) (p : ByteArray) : Prop :=
  (parseE pl = 0 ∧ parseE p = 0) ∧ (1 ≤ k ∧ k ≤ 3) ∧ (1 ≤ kd ∧ kd ≤ 3) ∧
    ((p = pl ∧ (kd ≠ 2 ∨ k ≠ 2)) ∨ (p ≠ pl ∧ belowR p pl ∧ kd ≠ 1 ∧ (kd = 3 ∨ (k ≠ 2 ∧ parentB p = pl))))
noncomputable instance (kd : Int) (pl : ByteArray) (k : Int) (p : ByteArray) : Decidable (coversR kd pl k p) := Classical.propDecidable _

set_option maxHeartbeats 8000000 in
theorem refCovers_spec (kd : Int) (pl : ByteArray) (k : Int) (p : ByteArray) : FnSpec C 90 [.int .i64 kd, .str pl, .int .i64 k, .str p] [] (fun r L' => r = .bool (decide (coversR kd pl k p)) ∧ L' = []) := by
  have no : ¬ coversR kd pl k p → AV.bool false = AV.bool (decide (coversR kd pl k p)) := fun h => congrArg AV.bool (decide_eq_false h).symm
  have yes : coversR kd pl k p → AV.bool true = AV.bool (decide (coversR kd pl k p)) := fun h => congrArg AV.bool (decide_eq_true h).symm
  refine FnSpec.start C_ok Tryd.func90 rfl rfl Tryd.ntmps90 ?_
  have c1 := refIs_spec pl
  have c2 := refIs_spec p
  repeat (first | refine Ops.go ?_ | refine And.intro rfl ?_ | refine And.intro (Nat.le_of_ble_eq_true rfl) ?_ | refine And.intro (Int.natCast_nonneg _) ?_ | refine fun (_ : Nat) => ?_ | refine Ord.go ?_ | refine Run.go rfl ?_ | refine Cont.go rfl ?_ | refine OrdP.go ?_)
  by_cases h1 : parseE pl = 0
  case neg =>
    rw [decide_eq_false h1] at c1
    refine ACall.ret c1 ?_
    repeat (first | refine Ops.go ?_ | refine And.intro rfl ?_ | refine And.intro (Nat.le_of_ble_eq_true rfl) ?_ | refine And.intro (Int.natCast_nonneg _) ?_ | refine fun (_ : Nat) => ?_ | refine Ord.go ?_ | refine Run.go rfl ?_ | refine Cont.go rfl ?_ | refine OrdP.go ?_)
    exact ⟨_, [], FinOk.drop _ _, no (fun hc => h1 hc.1.1), rfl⟩
  rw [decide_eq_true h1] at c1
  refine ACall.ret c1 ?_
  repeat (first | refine Ops.go ?_ | refine And.intro rfl ?_ | refine And.intro (Nat.le_of_ble_eq_true rfl) ?_ | refine And.intro (Int.natCast_nonneg _) ?_ | refine fun (_ : Nat) => ?_ | refine Ord.go ?_ | refine Run.go rfl ?_ | refine Cont.go rfl ?_ | refine OrdP.go ?_)
  by_cases h2 : parseE p = 0
  case neg =>
    rw [decide_eq_false h2] at c2
    refine ACall.ret c2 ?_
    repeat (first | refine Ops.go ?_ | refine And.intro rfl ?_ | refine And.intro (Nat.le_of_ble_eq_true rfl) ?_ | refine And.intro (Int.natCast_nonneg _) ?_ | refine fun (_ : Nat) => ?_ | refine Ord.go ?_ | refine Run.go rfl ?_ | refine Cont.go rfl ?_ | refine OrdP.go ?_)
    exact ⟨_, [], FinOk.drop _ _, no (fun hc => h2 hc.1.2), rfl⟩
  rw [decide_eq_true h2] at c2
  refine ACall.ret c2 ?_
  repeat (first | refine Ops.go ?_ | refine And.intro rfl ?_ | refine And.intro (Nat.le_of_ble_eq_true rfl) ?_ | refine And.intro (Int.natCast_nonneg _) ?_ | refine fun (_ : Nat) => ?_ | refine Ord.go ?_ | refine Run.go rfl ?_ | refine Cont.go rfl ?_ | refine OrdP.go ?_)
  refine ⟨fun h => ?_, fun h => ?_⟩
  · have h : k < 1 := h
    repeat (first | refine Ops.go ?_ | refine And.intro rfl ?_ | refine And.intro (Nat.le_of_ble_eq_true rfl) ?_ | refine And.intro (Int.natCast_nonneg _) ?_ | refine fun (_ : Nat) => ?_ | refine Ord.go ?_ | refine Run.go rfl ?_ | refine Cont.go rfl ?_ | refine OrdP.go ?_)
    exact ⟨_, [], FinOk.drop _ _, no (fun hc => by have := hc.2.1; omega), rfl⟩
  have h3 : ¬ k < 1 := h
  repeat (first | refine Ops.go ?_ | refine And.intro rfl ?_ | refine And.intro (Nat.le_of_ble_eq_true rfl) ?_ | refine And.intro (Int.natCast_nonneg _) ?_ | refine fun (_ : Nat) => ?_ | refine Ord.go ?_ | refine Run.go rfl ?_ | refine Cont.go rfl ?_ | refine OrdP.go ?_)
  refine ⟨fun h => ?_, fun h => ?_⟩
  · have h : (3 : Int) < k := h
    repeat (first | refine Ops.go ?_ | refine And.intro rfl ?_ | refine And.intro (Nat.le_of_ble_eq_true rfl) ?_ | refine And.intro (Int.natCast_nonneg _) ?_ | refine fun (_ : Nat) => ?_ | refine Ord.go ?_ | refine Run.go rfl ?_ | refine Cont.go rfl ?_ | refine OrdP.go ?_)
    exact ⟨_, [], FinOk.drop _ _, no (fun hc => by have := hc.2.1; omega), rfl⟩
  have h4 : ¬ (3 : Int) < k := h
  repeat (first | refine Ops.go ?_ | refine And.intro rfl ?_ | refine And.intro (Nat.le_of_ble_eq_true rfl) ?_ | refine And.intro (Int.natCast_nonneg _) ?_ | refine fun (_ : Nat) => ?_ | refine Ord.go ?_ | refine Run.go rfl ?_ | refine Cont.go rfl ?_ | refine OrdP.go ?_)
  refine ⟨fun h => ?_, fun h => ?_⟩
  · have h : kd < 1 := h
    repeat (first | refine Ops.go ?_ | refine And.intro rfl ?_ | refine And.intro (Nat.le_of_ble_eq_true rfl) ?_ | refine And.intro (Int.natCast_nonneg _) ?_ | refine fun (_ : Nat) => ?_ | refine Ord.go ?_ | refine Run.go rfl ?_ | refine Cont.go rfl ?_ | refine OrdP.go ?_)
    exact ⟨_, [], FinOk.drop _ _, no (fun hc => by have := hc.2.2.1; omega), rfl⟩
  have h5 : ¬ kd < 1 := h
  repeat (first | refine Ops.go ?_ | refine And.intro rfl ?_ | refine And.intro (Nat.le_of_ble_eq_true rfl) ?_ | refine And.intro (Int.natCast_nonneg _) ?_ | refine fun (_ : Nat) => ?_ | refine Ord.go ?_ | refine Run.go rfl ?_ | refine Cont.go rfl ?_ | refine OrdP.go ?_)
  refine ⟨fun h => ?_, fun h => ?_⟩
  · have h : (3 : Int) < kd := h
    repeat (first | refine Ops.go ?_ | refine And.intro rfl ?_ | refine And.intro (Nat.le_of_ble_eq_true rfl) ?_ | refine And.intro (Int.natCast_nonneg _) ?_ | refine fun (_ : Nat) => ?_ | refine Ord.go ?_ | refine Run.go rfl ?_ | refine Cont.go rfl ?_ | refine OrdP.go ?_)
    exact ⟨_, [], FinOk.drop _ _, no (fun hc => by have := hc.2.2.1; omega), rfl⟩
  have h6 : ¬ (3 : Int) < kd := h
  have base : (parseE pl = 0 ∧ parseE p = 0) ∧ (1 ≤ k ∧ k ≤ 3) ∧ (1 ≤ kd ∧ kd ≤ 3) := ⟨⟨h1, h2⟩, by omega, by omega⟩
  have mk : ((p = pl ∧ (kd ≠ 2 ∨ k ≠ 2)) ∨ (p ≠ pl ∧ belowR p pl ∧ kd ≠ 1 ∧ (kd = 3 ∨ (k ≠ 2 ∧ parentB p = pl)))) → coversR kd pl k p := fun h => ⟨base.1, base.2.1, base.2.2, h⟩
  repeat (first | refine Ops.go ?_ | refine And.intro rfl ?_ | refine And.intro (Nat.le_of_ble_eq_true rfl) ?_ | refine And.intro (Int.natCast_nonneg _) ?_ | refine fun (_ : Nat) => ?_ | refine Ord.go ?_ | refine Run.go rfl ?_ | refine Cont.go rfl ?_ | refine OrdP.go ?_)
  refine ⟨fun hp => ?_, fun hp => ?_⟩
  · have hp : p = pl := hp
    repeat (first | refine Ops.go ?_ | refine And.intro rfl ?_ | refine And.intro (Nat.le_of_ble_eq_true rfl) ?_ | refine And.intro (Int.natCast_nonneg _) ?_ | refine fun (_ : Nat) => ?_ | refine Ord.go ?_ | refine Run.go rfl ?_ | refine Cont.go rfl ?_ | refine OrdP.go ?_)
    refine ⟨fun h => ?_, fun h => ?_⟩
    · have h : kd ≠ 2 := h
      repeat (first | refine Ops.go ?_ | refine And.intro rfl ?_ | refine And.intro (Nat.le_of_ble_eq_true rfl) ?_ | refine And.intro (Int.natCast_nonneg _) ?_ | refine fun (_ : Nat) => ?_ | refine Ord.go ?_ | refine Run.go rfl ?_ | refine Cont.go rfl ?_ | refine OrdP.go ?_)
      exact ⟨_, [], FinOk.drop _ _, yes (mk (.inl ⟨hp, .inl h⟩)), rfl⟩
    have h7 : ¬ kd ≠ 2 := h
    repeat (first | refine Ops.go ?_ | refine And.intro rfl ?_ | refine And.intro (Nat.le_of_ble_eq_true rfl) ?_ | refine And.intro (Int.natCast_nonneg _) ?_ | refine fun (_ : Nat) => ?_ | refine Ord.go ?_ | refine Run.go rfl ?_ | refine Cont.go rfl ?_ | refine OrdP.go ?_)
    refine ⟨fun h => ?_, fun h => ?_⟩
    · have h : k ≠ 2 := h
      repeat (first | refine Ops.go ?_ | refine And.intro rfl ?_ | refine And.intro (Nat.le_of_ble_eq_true rfl) ?_ | refine And.intro (Int.natCast_nonneg _) ?_ | refine fun (_ : Nat) => ?_ | refine Ord.go ?_ | refine Run.go rfl ?_ | refine Cont.go rfl ?_ | refine OrdP.go ?_)
      exact ⟨_, [], FinOk.drop _ _, yes (mk (.inl ⟨hp, .inr h⟩)), rfl⟩
    · have h : ¬ k ≠ 2 := h
      repeat (first | refine Ops.go ?_ | refine And.intro rfl ?_ | refine And.intro (Nat.le_of_ble_eq_true rfl) ?_ | refine And.intro (Int.natCast_nonneg _) ?_ | refine fun (_ : Nat) => ?_ | refine Ord.go ?_ | refine Run.go rfl ?_ | refine Cont.go rfl ?_ | refine OrdP.go ?_)
      exact ⟨_, [], FinOk.drop _ _, no (fun hc => by
        rcases hc.2.2.2 with ⟨_, hc | hc⟩ | ⟨hc, _⟩
        · exact h7 hc
        · exact h hc
        · exact hc hp), rfl⟩
  have hp : ¬ p = pl := hp
  repeat (first | refine Ops.go ?_ | refine And.intro rfl ?_ | refine And.intro (Nat.le_of_ble_eq_true rfl) ?_ | refine And.intro (Int.natCast_nonneg _) ?_ | refine fun (_ : Nat) => ?_ | refine Ord.go ?_ | refine Run.go rfl ?_ | refine Cont.go rfl ?_ | refine OrdP.go ?_)
  have c3 := refBelow_spec p pl
  by_cases hb : belowR p pl
  case neg =>
    rw [decide_eq_false hb] at c3
    refine ACall.ret c3 ?_
    repeat (first | refine Ops.go ?_ | refine And.intro rfl ?_ | refine And.intro (Nat.le_of_ble_eq_true rfl) ?_ | refine And.intro (Int.natCast_nonneg _) ?_ | refine fun (_ : Nat) => ?_ | refine Ord.go ?_ | refine Run.go rfl ?_ | refine Cont.go rfl ?_ | refine OrdP.go ?_)
    exact ⟨_, [], FinOk.drop _ _, no (fun hc => by
      rcases hc.2.2.2 with ⟨hc, _⟩ | ⟨_, hc, _⟩
      · exact hp hc
      · exact hb hc), rfl⟩
  rw [decide_eq_true hb] at c3
  refine ACall.ret c3 ?_
  repeat (first | refine Ops.go ?_ | refine And.intro rfl ?_ | refine And.intro (Nat.le_of_ble_eq_true rfl) ?_ | refine And.intro (Int.natCast_nonneg _) ?_ | refine fun (_ : Nat) => ?_ | refine Ord.go ?_ | refine Run.go rfl ?_ | refine Cont.go rfl ?_ | refine OrdP.go ?_)
  refine ⟨fun h => ?_, fun h => ?_⟩
  · have h : kd = 1 := h
    repeat (first | refine Ops.go ?_ | refine And.intro rfl ?_ | refine And.intro (Nat.le_of_ble_eq_true rfl) ?_ | refine And.intro (Int.natCast_nonneg _) ?_ | refine fun (_ : Nat) => ?_ | refine Ord.go ?_ | refine Run.go rfl ?_ | refine Cont.go rfl ?_ | refine OrdP.go ?_)
    exact ⟨_, [], FinOk.drop _ _, no (fun hc => by
      rcases hc.2.2.2 with ⟨hc, _⟩ | ⟨_, _, hc, _⟩
      · exact hp hc
      · exact hc h), rfl⟩
  have h7 : ¬ kd = 1 := h
  repeat (first | refine Ops.go ?_ | refine And.intro rfl ?_ | refine And.intro (Nat.le_of_ble_eq_true rfl) ?_ | refine And.intro (Int.natCast_nonneg _) ?_ | refine fun (_ : Nat) => ?_ | refine Ord.go ?_ | refine Run.go rfl ?_ | refine Cont.go rfl ?_ | refine OrdP.go ?_)
  refine ⟨fun h => ?_, fun h => ?_⟩
  · have h : kd = 3 := h
    repeat (first | refine Ops.go ?_ | refine And.intro rfl ?_ | refine And.intro (Nat.le_of_ble_eq_true rfl) ?_ | refine And.intro (Int.natCast_nonneg _) ?_ | refine fun (_ : Nat) => ?_ | refine Ord.go ?_ | refine Run.go rfl ?_ | refine Cont.go rfl ?_ | refine OrdP.go ?_)
    exact ⟨_, [], FinOk.drop _ _, yes (mk (.inr ⟨hp, hb, h7, .inl h⟩)), rfl⟩
  have h8 : ¬ kd = 3 := h
  repeat (first | refine Ops.go ?_ | refine And.intro rfl ?_ | refine And.intro (Nat.le_of_ble_eq_true rfl) ?_ | refine And.intro (Int.natCast_nonneg _) ?_ | refine fun (_ : Nat) => ?_ | refine Ord.go ?_ | refine Run.go rfl ?_ | refine Cont.go rfl ?_ | refine OrdP.go ?_)
  refine ACall.ret (refParent_spec p) ?_
  repeat (first | refine Ops.go ?_ | refine And.intro rfl ?_ | refine And.intro (Nat.le_of_ble_eq_true rfl) ?_ | refine And.intro (Int.natCast_nonneg _) ?_ | refine fun (_ : Nat) => ?_ | refine Ord.go ?_ | refine Run.go rfl ?_ | refine Cont.go rfl ?_ | refine OrdP.go ?_)
  refine ⟨fun h => ?_, fun h => ?_⟩
  · have h9 : k ≠ 2 := h
    repeat (first | refine Ops.go ?_ | refine And.intro rfl ?_ | refine And.intro (Nat.le_of_ble_eq_true rfl) ?_ | refine And.intro (Int.natCast_nonneg _) ?_ | refine fun (_ : Nat) => ?_ | refine Ord.go ?_ | refine Run.go rfl ?_ | refine Cont.go rfl ?_ | refine OrdP.go ?_)
    refine ⟨fun h => ?_, fun h => ?_⟩
    · have h : parentB p = pl := h
      repeat (first | refine Ops.go ?_ | refine And.intro rfl ?_ | refine And.intro (Nat.le_of_ble_eq_true rfl) ?_ | refine And.intro (Int.natCast_nonneg _) ?_ | refine fun (_ : Nat) => ?_ | refine Ord.go ?_ | refine Run.go rfl ?_ | refine Cont.go rfl ?_ | refine OrdP.go ?_)
      exact ⟨_, [], FinOk.drop _ _, yes (mk (.inr ⟨hp, hb, h7, .inr ⟨h9, h⟩⟩)), rfl⟩
    · have h : ¬ parentB p = pl := h
      repeat (first | refine Ops.go ?_ | refine And.intro rfl ?_ | refine And.intro (Nat.le_of_ble_eq_true rfl) ?_ | refine And.intro (Int.natCast_nonneg _) ?_ | refine fun (_ : Nat) => ?_ | refine Ord.go ?_ | refine Run.go rfl ?_ | refine Cont.go rfl ?_ | refine OrdP.go ?_)
      exact ⟨_, [], FinOk.drop _ _, no (fun hc => by
        rcases hc.2.2.2 with ⟨hc, _⟩ | ⟨_, _, _, hc | hc⟩
        · exact hp hc
        · exact h8 hc
        · exact h hc.2), rfl⟩
  · have h : ¬ k ≠ 2 := h
    repeat (first | refine Ops.go ?_ | refine And.intro rfl ?_ | refine And.intro (Nat.le_of_ble_eq_true rfl) ?_ | refine And.intro (Int.natCast_nonneg _) ?_ | refine fun (_ : Nat) => ?_ | refine Ord.go ?_ | refine Run.go rfl ?_ | refine Cont.go rfl ?_ | refine OrdP.go ?_)
    exact ⟨_, [], FinOk.drop _ _, no (fun hc => by
      rcases hc.2.2.2 with ⟨hc, _⟩ | ⟨_, _, _, hc | hc⟩
      · exact hp hc
      · exact h8 hc
      · exact h hc.1), rfl⟩
end Go.Proofs.YtfohedaadncefaaDoor.HBT
/- The contract of the document's own text 'change'. -/
namespace Go.Proofs.YtfohedaadncefaaDoor.HBT
open Go Go.Proofs.YtfohedaadncefaaDoor.HB Go.RowKit
set_option maxRecDepth 8000

theorem ACall.lendNew {C : Cx} {f : FuncId} {args args' : List AV} {L : AHeap} {K : AV → AHeap → Prop} {Q : AV → AHeap → Prop} (hl : Lends L args args') (h : FnSpec C f args' [] Q)
    (k : ∀ r L', Q r L' → scals r = true ∧ scalL L' = true ∧ ∃ r', Sub r r' ∧ K r' (L ++ L')) : ACall C f args L K := by
  have hr : restL L [] = L := by unfold restL mergeL; rw [merge_none]; simp
  refine ACall.selLend [] (by decide) args' args' Q (by rw [hr]; exact hl) (Subs.refl _) h fun r L' hq => ?_
  unfold mergeL
  rw [merge_none]
  exact k r L' hq

theorem scal_sns (g Cp : Nat) (l : List Sn) : scalL [(g, .row 50 3 Cp (l.map enc))] = true := by
  have : (flats (l.map enc)).all scal = true := by
    induction l with
    | nil => rfl
    | cons x l ih =>
      rw [List.map_cons, flats_cons, List.all_append, ih]
      rfl
  simp [scalL, scalO, this]
theorem LN.scal {k g : Nat} {l : List Sn} {v : AV} {o : AObj} (h : LN k l v g o) : scals v = true ∧ scalL [(g, o)] = true := by
  rcases h with ⟨_, rfl, rfl⟩ | ⟨Cp, rfl, rfl⟩
  · exact ⟨rfl, rfl⟩
  · exact ⟨rfl, scal_sns _ _ _⟩
theorem LN.move {k g : Nat} {l : List Sn} {v : AV} {o : AObj} (h : LN k l v g o) (k' : Nat) : ∃ v', Sub v v' ∧ LN k' l v' g o := by
  rcases h with ⟨rfl, rfl, rfl⟩ | ⟨Cp, rfl, rfl⟩
  · exact ⟨_, Sub.refl _, .inl ⟨rfl, rfl, rfl⟩⟩
  · exact ⟨_, Sub.sl _ k' _ _ _, .inr ⟨Cp, rfl, rfl⟩⟩
theorem LN.lend {k g : Nat} {l : List Sn} {v : AV} {o : AObj} {L : AHeap} (h : LN k l v g o) (hk : L[k]? = some (g, o)) : Lend L v (rdo l l.length) := by
  rcases h with ⟨rfl, rfl, rfl⟩ | ⟨Cp, rfl, rfl⟩
  · exact .nils 3
  · exact .row k g Cp _ 50 3 _ hk (by rw [List.length_map]; exact Nat.le_refl _)

/-- One change played, as the document says; 'q': where the place stands. -/
noncomputable def stepR (kd : Int) (pl : ByteArray) (l : List Sn) (c : Ch) (q : Nat) : Option (List Sn) :=
  open Classical in
  if c.k < 1 ∨ 3 < c.k ∨ parseE c.p ≠ 0 then none
  else if ¬ coversR kd pl c.k c.p then some l
  else if c.k = 1 then (if inL l c.p ∨ (c.p ≠ pl ∧ ¬ inL l (parentB c.p)) ∨ ¬ fitC c ∨ 64 ≤ l.length then none else some (putL (nodeC kd c) l))
  else if c.k = 2 then (if ¬ inL l c.p ∨ ¬ fitC c then none else some (putL ⟨c.p, c.d, c.v⟩ (l.eraseIdx q)))
  else if ¬ inL l c.p ∨ c.p = slash then none
  else if ∃ y ∈ l, belowR y.p c.p then none
  else some (l.eraseIdx q)

set_option maxHeartbeats 16000000 in
theorem change_spec (st : Int) (pl : ByteArray) (kd : Int) (nv : AV) (g : Nat) (l : List Sn) (v : AV) (o : AObj) (hv : LN 0 l v g o) (c : Ch) (hm : l.length ≤ 900) (hcp : c.p.size ≤ 9223372036854775807) :
    FnSpec C 74 [shot st pl kd nv, v, encC c] [(g, o)] (fun r L' => ∃ q : Nat, (inL l c.p → ∃ x : Sn, l[q]? = some x ∧ x.p = c.p) ∧ StepQ (stepR kd pl l c q) r L') := by
  have hfind := fun p => find2_spec l l.length (Nat.le_refl _) (by omega) p
  simp only [List.take_length] at hfind
  have fitY : fitC c → FnSpec C 56 [.str c.d, .int .i64 c.v] [] (fun r L' => r = .bool true ∧ L' = []) := fun h => by
    have := refHolds_spec c.d c.v
    rwa [show decide (c.d.size ≤ 64 ∧ 0 ≤ c.v ∧ c.v ≤ 2147483647) = true from decide_eq_true h] at this
  have fitN : ¬ fitC c → FnSpec C 56 [.str c.d, .int .i64 c.v] [] (fun r L' => r = .bool false ∧ L' = []) := fun h => by
    have := refHolds_spec c.d c.v
    rwa [show decide (c.d.size ≤ 64 ∧ 0 ≤ c.v ∧ c.v ≤ 2147483647) = false from decide_eq_false h] at this
  have hwit : ∃ q : Nat, inL l c.p → ∃ x : Sn, l[q]? = some x ∧ x.p = c.p := by
    by_cases h : inL l c.p
    · obtain ⟨x, hx, e⟩ := h
      obtain ⟨q, hq⟩ := List.getElem?_of_mem hx
      exact ⟨q, fun _ => ⟨x, hq, e⟩⟩
    · exact ⟨0, fun h' => absurd h' h⟩
  obtain ⟨q0, hq0⟩ := hwit
  have none_ : ∀ {r : AV}, stepR kd pl l c q0 = none → r = .tuple [.nils, .bool false] → ∃ q : Nat, (inL l c.p → ∃ x : Sn, l[q]? = some x ∧ x.p = c.p) ∧ StepQ (stepR kd pl l c q) r [] := fun {r} h e => ⟨q0, hq0, by rw [h]; exact ⟨e, rfl⟩⟩
  refine FnSpec.start C_ok Tryd.func74 rfl rfl Tryd.ntmps74 ?_
  repeat (first | refine Ops.go ?_ | refine And.intro rfl ?_ | refine And.intro (Nat.le_of_ble_eq_true rfl) ?_ | refine And.intro (Int.natCast_nonneg _) ?_ | refine fun (_ : Nat) => ?_ | refine Ord.go ?_ | refine Run.go rfl ?_ | refine Cont.go rfl ?_ | refine OrdP.go ?_)
  rename_i gs0 gc0
  refine ⟨fun h => ?_, fun h => ?_⟩
  · have h : c.k < 1 := h
    repeat (first | refine Ops.go ?_ | refine And.intro rfl ?_ | refine And.intro (Nat.le_of_ble_eq_true rfl) ?_ | refine And.intro (Int.natCast_nonneg _) ?_ | refine fun (_ : Nat) => ?_ | refine Ord.go ?_ | refine Run.go rfl ?_ | refine Cont.go rfl ?_ | refine OrdP.go ?_)
    exact ⟨_, [], FinOk.drop _ _, none_ (by unfold stepR; rw [if_pos (.inl h)]) rfl⟩
  have h1 : ¬ c.k < 1 := h
  repeat (first | refine Ops.go ?_ | refine And.intro rfl ?_ | refine And.intro (Nat.le_of_ble_eq_true rfl) ?_ | refine And.intro (Int.natCast_nonneg _) ?_ | refine fun (_ : Nat) => ?_ | refine Ord.go ?_ | refine Run.go rfl ?_ | refine Cont.go rfl ?_ | refine OrdP.go ?_)
  refine ⟨fun h => ?_, fun h => ?_⟩
  · have h : 3 < c.k := h
    repeat (first | refine Ops.go ?_ | refine And.intro rfl ?_ | refine And.intro (Nat.le_of_ble_eq_true rfl) ?_ | refine And.intro (Int.natCast_nonneg _) ?_ | refine fun (_ : Nat) => ?_ | refine Ord.go ?_ | refine Run.go rfl ?_ | refine Cont.go rfl ?_ | refine OrdP.go ?_)
    exact ⟨_, [], FinOk.drop _ _, none_ (by unfold stepR; rw [if_pos (.inr (.inl h))]) rfl⟩
  have h2 : ¬ 3 < c.k := h
  repeat (first | refine Ops.go ?_ | refine And.intro rfl ?_ | refine And.intro (Nat.le_of_ble_eq_true rfl) ?_ | refine And.intro (Int.natCast_nonneg _) ?_ | refine fun (_ : Nat) => ?_ | refine Ord.go ?_ | refine Run.go rfl ?_ | refine Cont.go rfl ?_ | refine OrdP.go ?_)
  have ci := refIs_spec c.p
  by_cases h3 : parseE c.p = 0
  case neg =>
    rw [decide_eq_false h3] at ci
    refine ACall.ret ci ?_
    repeat (first | refine Ops.go ?_ | refine And.intro rfl ?_ | refine And.intro (Nat.le_of_ble_eq_true rfl) ?_ | refine And.intro (Int.natCast_nonneg _) ?_ | refine fun (_ : Nat) => ?_ | refine Ord.go ?_ | refine Run.go rfl ?_ | refine Cont.go rfl ?_ | refine OrdP.go ?_)
    exact ⟨_, [], FinOk.drop _ _, none_ (by unfold stepR; rw [if_pos (.inr (.inr h3))]) rfl⟩
  rw [decide_eq_true h3] at ci
  refine ACall.ret ci ?_
  have hg : ¬ (c.k < 1 ∨ 3 < c.k ∨ parseE c.p ≠ 0) := by rintro (h | h | h); exact h1 h; exact h2 h; exact h h3
  repeat (first | refine Ops.go ?_ | refine And.intro rfl ?_ | refine And.intro (Nat.le_of_ble_eq_true rfl) ?_ | refine And.intro (Int.natCast_nonneg _) ?_ | refine fun (_ : Nat) => ?_ | refine Ord.go ?_ | refine Run.go rfl ?_ | refine Cont.go rfl ?_ | refine OrdP.go ?_)
  have cc := refCovers_spec kd pl c.k c.p
  by_cases h4 : coversR kd pl c.k c.p
  case neg =>
    rw [decide_eq_false h4] at cc
    refine ACall.ret cc ?_
    repeat (first | refine Ops.go ?_ | refine And.intro rfl ?_ | refine And.intro (Nat.le_of_ble_eq_true rfl) ?_ | refine And.intro (Int.natCast_nonneg _) ?_ | refine fun (_ : Nat) => ?_ | refine Ord.go ?_ | refine Run.go rfl ?_ | refine Cont.go rfl ?_ | refine OrdP.go ?_)
    exact ⟨.tuple [v, .bool true], _, FinOk.keep _ [0] (Sub.tuples ⟨Sub.refl _, Sub.refl _, trivial⟩) (by decide) rfl, q0, hq0, by
      rw [show stepR kd pl l c q0 = some l from by unfold stepR; rw [if_neg hg, if_pos h4]]
      exact ⟨g, v, o, hv, rfl, rfl⟩⟩
  rw [decide_eq_true h4] at cc
  refine ACall.ret cc ?_
  have hg4 : ¬ ¬ coversR kd pl c.k c.p := fun h => h h4
  repeat (first | refine Ops.go ?_ | refine And.intro rfl ?_ | refine And.intro (Nat.le_of_ble_eq_true rfl) ?_ | refine And.intro (Int.natCast_nonneg _) ?_ | refine fun (_ : Nat) => ?_ | refine Ord.go ?_ | refine Run.go rfl ?_ | refine Cont.go rfl ?_ | refine OrdP.go ?_)
  refine ACall.lend [rdo l l.length, .str c.p] _ (.two (hv.lend rfl) (.same _)) (hfind c.p) ?_
  rintro r L' ⟨(⟨hno, rfl⟩ | ⟨q, x, hq, eq, hxp, rfl⟩), rfl⟩
  · refine ⟨rfl, ?_⟩
    repeat (first | refine Ops.go ?_ | refine And.intro rfl ?_ | refine And.intro (Nat.le_of_ble_eq_true rfl) ?_ | refine And.intro (Int.natCast_nonneg _) ?_ | refine fun (_ : Nat) => ?_ | refine Ord.go ?_ | refine Run.go rfl ?_ | refine Cont.go rfl ?_ | refine OrdP.go ?_)
    refine ⟨fun h => ?_, fun h => ?_⟩
    · have hk : c.k = 1 := h
      repeat (first | refine Ops.go ?_ | refine And.intro rfl ?_ | refine And.intro (Nat.le_of_ble_eq_true rfl) ?_ | refine And.intro (Int.natCast_nonneg _) ?_ | refine fun (_ : Nat) => ?_ | refine Ord.go ?_ | refine Run.go rfl ?_ | refine Cont.go rfl ?_ | refine OrdP.go ?_)
      refine ⟨fun h => absurd h (by decide), fun _ => ?_⟩
      repeat (first | refine Ops.go ?_ | refine And.intro rfl ?_ | refine And.intro (Nat.le_of_ble_eq_true rfl) ?_ | refine And.intro (Int.natCast_nonneg _) ?_ | refine fun (_ : Nat) => ?_ | refine Ord.go ?_ | refine Run.go rfl ?_ | refine Cont.go rfl ?_ | refine OrdP.go ?_)
      refine ⟨fun h => ?_, fun h => ?_⟩
      · have hp : c.p ≠ pl := h
        repeat (first | refine Ops.go ?_ | refine And.intro rfl ?_ | refine And.intro (Nat.le_of_ble_eq_true rfl) ?_ | refine And.intro (Int.natCast_nonneg _) ?_ | refine fun (_ : Nat) => ?_ | refine Ord.go ?_ | refine Run.go rfl ?_ | refine Cont.go rfl ?_ | refine OrdP.go ?_)
        refine ACall.ret (above_spec c.p) ?_
        repeat (first | refine Ops.go ?_ | refine And.intro rfl ?_ | refine And.intro (Nat.le_of_ble_eq_true rfl) ?_ | refine And.intro (Int.natCast_nonneg _) ?_ | refine fun (_ : Nat) => ?_ | refine Ord.go ?_ | refine Run.go rfl ?_ | refine Cont.go rfl ?_ | refine OrdP.go ?_)
        refine ACall.lend [rdo l l.length, .str (parentB c.p)] _ (.two (hv.lend rfl) (.same _)) (hfind (parentB c.p)) ?_
        rintro r L' ⟨(⟨hno2, rfl⟩ | ⟨q2, x2, hq2, eq2, hxp2, rfl⟩), rfl⟩
        · refine ⟨rfl, ?_⟩
          repeat (first | refine Ops.go ?_ | refine And.intro rfl ?_ | refine And.intro (Nat.le_of_ble_eq_true rfl) ?_ | refine And.intro (Int.natCast_nonneg _) ?_ | refine fun (_ : Nat) => ?_ | refine Ord.go ?_ | refine Run.go rfl ?_ | refine Cont.go rfl ?_ | refine OrdP.go ?_)
          refine ⟨fun _ => ?_, fun h => absurd (by decide) h⟩
          repeat (first | refine Ops.go ?_ | refine And.intro rfl ?_ | refine And.intro (Nat.le_of_ble_eq_true rfl) ?_ | refine And.intro (Int.natCast_nonneg _) ?_ | refine fun (_ : Nat) => ?_ | refine Ord.go ?_ | refine Run.go rfl ?_ | refine Cont.go rfl ?_ | refine OrdP.go ?_)
          exact ⟨_, [], FinOk.drop _ _, none_ (by unfold stepR; rw [if_neg hg, if_neg hg4, if_pos hk, if_pos (.inr (.inl ⟨hp, hno2⟩))]) rfl⟩
        · have hpl : ¬ (c.p ≠ pl ∧ ¬ inL l (parentB c.p)) := fun h => h.2 ⟨x2, List.mem_of_getElem? eq2, hxp2⟩
          refine ⟨rfl, ?_⟩
          repeat (first | refine Ops.go ?_ | refine And.intro rfl ?_ | refine And.intro (Nat.le_of_ble_eq_true rfl) ?_ | refine And.intro (Int.natCast_nonneg _) ?_ | refine fun (_ : Nat) => ?_ | refine Ord.go ?_ | refine Run.go rfl ?_ | refine Cont.go rfl ?_ | refine OrdP.go ?_)
          refine ⟨fun h => absurd h (by omega), fun _ => ?_⟩
          repeat (first | refine Ops.go ?_ | refine And.intro rfl ?_ | refine And.intro (Nat.le_of_ble_eq_true rfl) ?_ | refine And.intro (Int.natCast_nonneg _) ?_ | refine fun (_ : Nat) => ?_ | refine Ord.go ?_ | refine Run.go rfl ?_ | refine Cont.go rfl ?_ | refine OrdP.go ?_)
          by_cases hfit : fitC c
          case neg =>
            refine ACall.ret (fitN hfit) ?_
            repeat (first | refine Ops.go ?_ | refine And.intro rfl ?_ | refine And.intro (Nat.le_of_ble_eq_true rfl) ?_ | refine And.intro (Int.natCast_nonneg _) ?_ | refine fun (_ : Nat) => ?_ | refine Ord.go ?_ | refine Run.go rfl ?_ | refine Cont.go rfl ?_ | refine OrdP.go ?_)
            exact ⟨_, [], FinOk.drop _ _, none_ (by unfold stepR; rw [if_neg hg, if_neg hg4, if_pos hk, if_pos (.inr (.inr (.inl hfit)))]) rfl⟩
          refine ACall.ret (fitY hfit) ?_
          rcases hv with ⟨rfl, rfl, rfl⟩ | ⟨Cp, rfl, rfl⟩
          · have hv1 : LN 0 [] .nils g .dead := .inl ⟨rfl, rfl, rfl⟩
            repeat (first | refine Ops.go ?_ | refine And.intro rfl ?_ | refine And.intro (Nat.le_of_ble_eq_true rfl) ?_ | refine And.intro (Int.natCast_nonneg _) ?_ | refine fun (_ : Nat) => ?_ | refine Ord.go ?_ | refine Run.go rfl ?_ | refine Cont.go rfl ?_ | refine OrdP.go ?_)
            refine ⟨fun h => absurd h (by decide), fun _ => ?_⟩
            repeat (first | refine Ops.go ?_ | refine And.intro rfl ?_ | refine And.intro (Nat.le_of_ble_eq_true rfl) ?_ | refine And.intro (Int.natCast_nonneg _) ?_ | refine fun (_ : Nat) => ?_ | refine Ord.go ?_ | refine Run.go rfl ?_ | refine Cont.go rfl ?_ | refine OrdP.go ?_)
            refine ⟨fun hd => ?_, fun hd => ?_⟩
            · repeat (first | refine Ops.go ?_ | refine And.intro rfl ?_ | refine And.intro (Nat.le_of_ble_eq_true rfl) ?_ | refine And.intro (Int.natCast_nonneg _) ?_ | refine fun (_ : Nat) => ?_ | refine Ord.go ?_ | refine Run.go rfl ?_ | refine Cont.go rfl ?_ | refine OrdP.go ?_)
              have hput := put_spec [] ([]).length ⟨c.p, ⟨#[]⟩, 0⟩ (Nat.le_refl _) (by first | (simp; done) | omega) hcp
              rw [List.take_length] at hput
              refine ACall.lendNew (args' := [rdo [] ([]).length, enc ⟨c.p, ⟨#[]⟩, 0⟩]) (.two (hv1.lend rfl) (.same _)) hput ?_
              rintro r L' ⟨g', C', rfl, rfl⟩
              refine ⟨rfl, scal_sns _ _ _, _, Sub.sl _ 4 _ _ _, ?_⟩
              repeat (first | refine Ops.go ?_ | refine And.intro rfl ?_ | refine And.intro (Nat.le_of_ble_eq_true rfl) ?_ | refine And.intro (Int.natCast_nonneg _) ?_ | refine fun (_ : Nat) => ?_ | refine Ord.go ?_ | refine Run.go rfl ?_ | refine Cont.go rfl ?_ | refine OrdP.go ?_)
              exact ⟨.tuple [.sl 0 g' C' _, .bool true], _, FinOk.keep _ [4] (Sub.tuples ⟨Sub.sl _ 0 _ _ _, Sub.refl _, trivial⟩) (by decide) rfl, q0, hq0, by
                rw [show stepR kd pl [] c q0 = some (putL ⟨c.p, ⟨#[]⟩, 0⟩ []) from by unfold stepR; rw [if_neg hg, if_neg hg4, if_pos hk, if_neg (by rintro (h | h | h | h); exact hno h; exact hpl h; exact h hfit; simp at h), show nodeC kd c = ⟨c.p, ⟨#[]⟩, 0⟩ from if_pos hd]]
                exact ⟨g', _, _, .inr ⟨C', rfl, rfl⟩, rfl, rfl⟩⟩
            · repeat (first | refine Ops.go ?_ | refine And.intro rfl ?_ | refine And.intro (Nat.le_of_ble_eq_true rfl) ?_ | refine And.intro (Int.natCast_nonneg _) ?_ | refine fun (_ : Nat) => ?_ | refine Ord.go ?_ | refine Run.go rfl ?_ | refine Cont.go rfl ?_ | refine OrdP.go ?_)
              have hput := put_spec [] ([]).length ⟨c.p, c.d, c.v⟩ (Nat.le_refl _) (by first | (simp; done) | omega) hcp
              rw [List.take_length] at hput
              refine ACall.lendNew (args' := [rdo [] ([]).length, enc ⟨c.p, c.d, c.v⟩]) (.two (hv1.lend rfl) (.same _)) hput ?_
              rintro r L' ⟨g', C', rfl, rfl⟩
              refine ⟨rfl, scal_sns _ _ _, _, Sub.sl _ 4 _ _ _, ?_⟩
              repeat (first | refine Ops.go ?_ | refine And.intro rfl ?_ | refine And.intro (Nat.le_of_ble_eq_true rfl) ?_ | refine And.intro (Int.natCast_nonneg _) ?_ | refine fun (_ : Nat) => ?_ | refine Ord.go ?_ | refine Run.go rfl ?_ | refine Cont.go rfl ?_ | refine OrdP.go ?_)
              exact ⟨.tuple [.sl 0 g' C' _, .bool true], _, FinOk.keep _ [4] (Sub.tuples ⟨Sub.sl _ 0 _ _ _, Sub.refl _, trivial⟩) (by decide) rfl, q0, hq0, by
                rw [show stepR kd pl [] c q0 = some (putL ⟨c.p, c.d, c.v⟩ []) from by unfold stepR; rw [if_neg hg, if_neg hg4, if_pos hk, if_neg (by rintro (h | h | h | h); exact hno h; exact hpl h; exact h hfit; simp at h), show nodeC kd c = ⟨c.p, c.d, c.v⟩ from if_neg hd]]
                exact ⟨g', _, _, .inr ⟨C', rfl, rfl⟩, rfl, rfl⟩⟩
          · have hv1 : LN 0 l (.sl 0 g Cp l.length) g (.row 50 3 Cp (l.map enc)) := .inr ⟨Cp, rfl, rfl⟩
            repeat (first | refine Ops.go ?_ | refine And.intro rfl ?_ | refine And.intro (Nat.le_of_ble_eq_true rfl) ?_ | refine And.intro (Int.natCast_nonneg _) ?_ | refine fun (_ : Nat) => ?_ | refine Ord.go ?_ | refine Run.go rfl ?_ | refine Cont.go rfl ?_ | refine OrdP.go ?_)
            refine ⟨fun h => ?_, fun h => ?_⟩
            · have h64 : (64 : Int) ≤ (l.length : Int) := h
              repeat (first | refine Ops.go ?_ | refine And.intro rfl ?_ | refine And.intro (Nat.le_of_ble_eq_true rfl) ?_ | refine And.intro (Int.natCast_nonneg _) ?_ | refine fun (_ : Nat) => ?_ | refine Ord.go ?_ | refine Run.go rfl ?_ | refine Cont.go rfl ?_ | refine OrdP.go ?_)
              exact ⟨_, [], FinOk.drop _ _, none_ (by unfold stepR; rw [if_neg hg, if_neg hg4, if_pos hk, if_pos (.inr (.inr (.inr (by omega))))]) rfl⟩
            · have h64 : ¬ (64 : Int) ≤ (l.length : Int) := h
              repeat (first | refine Ops.go ?_ | refine And.intro rfl ?_ | refine And.intro (Nat.le_of_ble_eq_true rfl) ?_ | refine And.intro (Int.natCast_nonneg _) ?_ | refine fun (_ : Nat) => ?_ | refine Ord.go ?_ | refine Run.go rfl ?_ | refine Cont.go rfl ?_ | refine OrdP.go ?_)
              refine ⟨fun hd => ?_, fun hd => ?_⟩
              · repeat (first | refine Ops.go ?_ | refine And.intro rfl ?_ | refine And.intro (Nat.le_of_ble_eq_true rfl) ?_ | refine And.intro (Int.natCast_nonneg _) ?_ | refine fun (_ : Nat) => ?_ | refine Ord.go ?_ | refine Run.go rfl ?_ | refine Cont.go rfl ?_ | refine OrdP.go ?_)
                have hput := put_spec l (l).length ⟨c.p, ⟨#[]⟩, 0⟩ (Nat.le_refl _) (by first | (simp; done) | omega) hcp
                rw [List.take_length] at hput
                refine ACall.lendNew (args' := [rdo l (l).length, enc ⟨c.p, ⟨#[]⟩, 0⟩]) (.two (hv1.lend rfl) (.same _)) hput ?_
                rintro r L' ⟨g', C', rfl, rfl⟩
                refine ⟨rfl, scal_sns _ _ _, _, Sub.sl _ 4 _ _ _, ?_⟩
                repeat (first | refine Ops.go ?_ | refine And.intro rfl ?_ | refine And.intro (Nat.le_of_ble_eq_true rfl) ?_ | refine And.intro (Int.natCast_nonneg _) ?_ | refine fun (_ : Nat) => ?_ | refine Ord.go ?_ | refine Run.go rfl ?_ | refine Cont.go rfl ?_ | refine OrdP.go ?_)
                exact ⟨.tuple [.sl 0 g' C' _, .bool true], _, FinOk.keep _ [4] (Sub.tuples ⟨Sub.sl _ 0 _ _ _, Sub.refl _, trivial⟩) (by decide) rfl, q0, hq0, by
                  rw [show stepR kd pl l c q0 = some (putL ⟨c.p, ⟨#[]⟩, 0⟩ l) from by unfold stepR; rw [if_neg hg, if_neg hg4, if_pos hk, if_neg (by rintro (h | h | h | h); exact hno h; exact hpl h; exact h hfit; omega), show nodeC kd c = ⟨c.p, ⟨#[]⟩, 0⟩ from if_pos hd]]
                  exact ⟨g', _, _, .inr ⟨C', rfl, rfl⟩, rfl, rfl⟩⟩
              · repeat (first | refine Ops.go ?_ | refine And.intro rfl ?_ | refine And.intro (Nat.le_of_ble_eq_true rfl) ?_ | refine And.intro (Int.natCast_nonneg _) ?_ | refine fun (_ : Nat) => ?_ | refine Ord.go ?_ | refine Run.go rfl ?_ | refine Cont.go rfl ?_ | refine OrdP.go ?_)
                have hput := put_spec l (l).length ⟨c.p, c.d, c.v⟩ (Nat.le_refl _) (by first | (simp; done) | omega) hcp
                rw [List.take_length] at hput
                refine ACall.lendNew (args' := [rdo l (l).length, enc ⟨c.p, c.d, c.v⟩]) (.two (hv1.lend rfl) (.same _)) hput ?_
                rintro r L' ⟨g', C', rfl, rfl⟩
                refine ⟨rfl, scal_sns _ _ _, _, Sub.sl _ 4 _ _ _, ?_⟩
                repeat (first | refine Ops.go ?_ | refine And.intro rfl ?_ | refine And.intro (Nat.le_of_ble_eq_true rfl) ?_ | refine And.intro (Int.natCast_nonneg _) ?_ | refine fun (_ : Nat) => ?_ | refine Ord.go ?_ | refine Run.go rfl ?_ | refine Cont.go rfl ?_ | refine OrdP.go ?_)
                exact ⟨.tuple [.sl 0 g' C' _, .bool true], _, FinOk.keep _ [4] (Sub.tuples ⟨Sub.sl _ 0 _ _ _, Sub.refl _, trivial⟩) (by decide) rfl, q0, hq0, by
                  rw [show stepR kd pl l c q0 = some (putL ⟨c.p, c.d, c.v⟩ l) from by unfold stepR; rw [if_neg hg, if_neg hg4, if_pos hk, if_neg (by rintro (h | h | h | h); exact hno h; exact hpl h; exact h hfit; omega), show nodeC kd c = ⟨c.p, c.d, c.v⟩ from if_neg hd]]
                  exact ⟨g', _, _, .inr ⟨C', rfl, rfl⟩, rfl, rfl⟩⟩
      · have hp : ¬ c.p ≠ pl := h
        have hpl : ¬ (c.p ≠ pl ∧ ¬ inL l (parentB c.p)) := fun h => hp h.1
        repeat (first | refine Ops.go ?_ | refine And.intro rfl ?_ | refine And.intro (Nat.le_of_ble_eq_true rfl) ?_ | refine And.intro (Int.natCast_nonneg _) ?_ | refine fun (_ : Nat) => ?_ | refine Ord.go ?_ | refine Run.go rfl ?_ | refine Cont.go rfl ?_ | refine OrdP.go ?_)
        by_cases hfit : fitC c
        case neg =>
          refine ACall.ret (fitN hfit) ?_
          repeat (first | refine Ops.go ?_ | refine And.intro rfl ?_ | refine And.intro (Nat.le_of_ble_eq_true rfl) ?_ | refine And.intro (Int.natCast_nonneg _) ?_ | refine fun (_ : Nat) => ?_ | refine Ord.go ?_ | refine Run.go rfl ?_ | refine Cont.go rfl ?_ | refine OrdP.go ?_)
          exact ⟨_, [], FinOk.drop _ _, none_ (by unfold stepR; rw [if_neg hg, if_neg hg4, if_pos hk, if_pos (.inr (.inr (.inl hfit)))]) rfl⟩
        refine ACall.ret (fitY hfit) ?_
        rcases hv with ⟨rfl, rfl, rfl⟩ | ⟨Cp, rfl, rfl⟩
        · have hv1 : LN 0 [] .nils g .dead := .inl ⟨rfl, rfl, rfl⟩
          repeat (first | refine Ops.go ?_ | refine And.intro rfl ?_ | refine And.intro (Nat.le_of_ble_eq_true rfl) ?_ | refine And.intro (Int.natCast_nonneg _) ?_ | refine fun (_ : Nat) => ?_ | refine Ord.go ?_ | refine Run.go rfl ?_ | refine Cont.go rfl ?_ | refine OrdP.go ?_)
          refine ⟨fun h => absurd h (by decide), fun _ => ?_⟩
          repeat (first | refine Ops.go ?_ | refine And.intro rfl ?_ | refine And.intro (Nat.le_of_ble_eq_true rfl) ?_ | refine And.intro (Int.natCast_nonneg _) ?_ | refine fun (_ : Nat) => ?_ | refine Ord.go ?_ | refine Run.go rfl ?_ | refine Cont.go rfl ?_ | refine OrdP.go ?_)
          refine ⟨fun hd => ?_, fun hd => ?_⟩
          · repeat (first | refine Ops.go ?_ | refine And.intro rfl ?_ | refine And.intro (Nat.le_of_ble_eq_true rfl) ?_ | refine And.intro (Int.natCast_nonneg _) ?_ | refine fun (_ : Nat) => ?_ | refine Ord.go ?_ | refine Run.go rfl ?_ | refine Cont.go rfl ?_ | refine OrdP.go ?_)
            have hput := put_spec [] ([]).length ⟨c.p, ⟨#[]⟩, 0⟩ (Nat.le_refl _) (by first | (simp; done) | omega) hcp
            rw [List.take_length] at hput
            refine ACall.lendNew (args' := [rdo [] ([]).length, enc ⟨c.p, ⟨#[]⟩, 0⟩]) (.two (hv1.lend rfl) (.same _)) hput ?_
            rintro r L' ⟨g', C', rfl, rfl⟩
            refine ⟨rfl, scal_sns _ _ _, _, Sub.sl _ 4 _ _ _, ?_⟩
            repeat (first | refine Ops.go ?_ | refine And.intro rfl ?_ | refine And.intro (Nat.le_of_ble_eq_true rfl) ?_ | refine And.intro (Int.natCast_nonneg _) ?_ | refine fun (_ : Nat) => ?_ | refine Ord.go ?_ | refine Run.go rfl ?_ | refine Cont.go rfl ?_ | refine OrdP.go ?_)
            exact ⟨.tuple [.sl 0 g' C' _, .bool true], _, FinOk.keep _ [4] (Sub.tuples ⟨Sub.sl _ 0 _ _ _, Sub.refl _, trivial⟩) (by decide) rfl, q0, hq0, by
              rw [show stepR kd pl [] c q0 = some (putL ⟨c.p, ⟨#[]⟩, 0⟩ []) from by unfold stepR; rw [if_neg hg, if_neg hg4, if_pos hk, if_neg (by rintro (h | h | h | h); exact hno h; exact hpl h; exact h hfit; simp at h), show nodeC kd c = ⟨c.p, ⟨#[]⟩, 0⟩ from if_pos hd]]
              exact ⟨g', _, _, .inr ⟨C', rfl, rfl⟩, rfl, rfl⟩⟩
          · repeat (first | refine Ops.go ?_ | refine And.intro rfl ?_ | refine And.intro (Nat.le_of_ble_eq_true rfl) ?_ | refine And.intro (Int.natCast_nonneg _) ?_ | refine fun (_ : Nat) => ?_ | refine Ord.go ?_ | refine Run.go rfl ?_ | refine Cont.go rfl ?_ | refine OrdP.go ?_)
            have hput := put_spec [] ([]).length ⟨c.p, c.d, c.v⟩ (Nat.le_refl _) (by first | (simp; done) | omega) hcp
            rw [List.take_length] at hput
            refine ACall.lendNew (args' := [rdo [] ([]).length, enc ⟨c.p, c.d, c.v⟩]) (.two (hv1.lend rfl) (.same _)) hput ?_
            rintro r L' ⟨g', C', rfl, rfl⟩
            refine ⟨rfl, scal_sns _ _ _, _, Sub.sl _ 4 _ _ _, ?_⟩
            repeat (first | refine Ops.go ?_ | refine And.intro rfl ?_ | refine And.intro (Nat.le_of_ble_eq_true rfl) ?_ | refine And.intro (Int.natCast_nonneg _) ?_ | refine fun (_ : Nat) => ?_ | refine Ord.go ?_ | refine Run.go rfl ?_ | refine Cont.go rfl ?_ | refine OrdP.go ?_)
            exact ⟨.tuple [.sl 0 g' C' _, .bool true], _, FinOk.keep _ [4] (Sub.tuples ⟨Sub.sl _ 0 _ _ _, Sub.refl _, trivial⟩) (by decide) rfl, q0, hq0, by
              rw [show stepR kd pl [] c q0 = some (putL ⟨c.p, c.d, c.v⟩ []) from by unfold stepR; rw [if_neg hg, if_neg hg4, if_pos hk, if_neg (by rintro (h | h | h | h); exact hno h; exact hpl h; exact h hfit; simp at h), show nodeC kd c = ⟨c.p, c.d, c.v⟩ from if_neg hd]]
              exact ⟨g', _, _, .inr ⟨C', rfl, rfl⟩, rfl, rfl⟩⟩
        · have hv1 : LN 0 l (.sl 0 g Cp l.length) g (.row 50 3 Cp (l.map enc)) := .inr ⟨Cp, rfl, rfl⟩
          repeat (first | refine Ops.go ?_ | refine And.intro rfl ?_ | refine And.intro (Nat.le_of_ble_eq_true rfl) ?_ | refine And.intro (Int.natCast_nonneg _) ?_ | refine fun (_ : Nat) => ?_ | refine Ord.go ?_ | refine Run.go rfl ?_ | refine Cont.go rfl ?_ | refine OrdP.go ?_)
          refine ⟨fun h => ?_, fun h => ?_⟩
          · have h64 : (64 : Int) ≤ (l.length : Int) := h
            repeat (first | refine Ops.go ?_ | refine And.intro rfl ?_ | refine And.intro (Nat.le_of_ble_eq_true rfl) ?_ | refine And.intro (Int.natCast_nonneg _) ?_ | refine fun (_ : Nat) => ?_ | refine Ord.go ?_ | refine Run.go rfl ?_ | refine Cont.go rfl ?_ | refine OrdP.go ?_)
            exact ⟨_, [], FinOk.drop _ _, none_ (by unfold stepR; rw [if_neg hg, if_neg hg4, if_pos hk, if_pos (.inr (.inr (.inr (by omega))))]) rfl⟩
          · have h64 : ¬ (64 : Int) ≤ (l.length : Int) := h
            repeat (first | refine Ops.go ?_ | refine And.intro rfl ?_ | refine And.intro (Nat.le_of_ble_eq_true rfl) ?_ | refine And.intro (Int.natCast_nonneg _) ?_ | refine fun (_ : Nat) => ?_ | refine Ord.go ?_ | refine Run.go rfl ?_ | refine Cont.go rfl ?_ | refine OrdP.go ?_)
            refine ⟨fun hd => ?_, fun hd => ?_⟩
            · repeat (first | refine Ops.go ?_ | refine And.intro rfl ?_ | refine And.intro (Nat.le_of_ble_eq_true rfl) ?_ | refine And.intro (Int.natCast_nonneg _) ?_ | refine fun (_ : Nat) => ?_ | refine Ord.go ?_ | refine Run.go rfl ?_ | refine Cont.go rfl ?_ | refine OrdP.go ?_)
              have hput := put_spec l (l).length ⟨c.p, ⟨#[]⟩, 0⟩ (Nat.le_refl _) (by first | (simp; done) | omega) hcp
              rw [List.take_length] at hput
              refine ACall.lendNew (args' := [rdo l (l).length, enc ⟨c.p, ⟨#[]⟩, 0⟩]) (.two (hv1.lend rfl) (.same _)) hput ?_
              rintro r L' ⟨g', C', rfl, rfl⟩
              refine ⟨rfl, scal_sns _ _ _, _, Sub.sl _ 4 _ _ _, ?_⟩
              repeat (first | refine Ops.go ?_ | refine And.intro rfl ?_ | refine And.intro (Nat.le_of_ble_eq_true rfl) ?_ | refine And.intro (Int.natCast_nonneg _) ?_ | refine fun (_ : Nat) => ?_ | refine Ord.go ?_ | refine Run.go rfl ?_ | refine Cont.go rfl ?_ | refine OrdP.go ?_)
              exact ⟨.tuple [.sl 0 g' C' _, .bool true], _, FinOk.keep _ [4] (Sub.tuples ⟨Sub.sl _ 0 _ _ _, Sub.refl _, trivial⟩) (by decide) rfl, q0, hq0, by
                rw [show stepR kd pl l c q0 = some (putL ⟨c.p, ⟨#[]⟩, 0⟩ l) from by unfold stepR; rw [if_neg hg, if_neg hg4, if_pos hk, if_neg (by rintro (h | h | h | h); exact hno h; exact hpl h; exact h hfit; omega), show nodeC kd c = ⟨c.p, ⟨#[]⟩, 0⟩ from if_pos hd]]
                exact ⟨g', _, _, .inr ⟨C', rfl, rfl⟩, rfl, rfl⟩⟩
            · repeat (first | refine Ops.go ?_ | refine And.intro rfl ?_ | refine And.intro (Nat.le_of_ble_eq_true rfl) ?_ | refine And.intro (Int.natCast_nonneg _) ?_ | refine fun (_ : Nat) => ?_ | refine Ord.go ?_ | refine Run.go rfl ?_ | refine Cont.go rfl ?_ | refine OrdP.go ?_)
              have hput := put_spec l (l).length ⟨c.p, c.d, c.v⟩ (Nat.le_refl _) (by first | (simp; done) | omega) hcp
              rw [List.take_length] at hput
              refine ACall.lendNew (args' := [rdo l (l).length, enc ⟨c.p, c.d, c.v⟩]) (.two (hv1.lend rfl) (.same _)) hput ?_
              rintro r L' ⟨g', C', rfl, rfl⟩
              refine ⟨rfl, scal_sns _ _ _, _, Sub.sl _ 4 _ _ _, ?_⟩
              repeat (first | refine Ops.go ?_ | refine And.intro rfl ?_ | refine And.intro (Nat.le_of_ble_eq_true rfl) ?_ | refine And.intro (Int.natCast_nonneg _) ?_ | refine fun (_ : Nat) => ?_ | refine Ord.go ?_ | refine Run.go rfl ?_ | refine Cont.go rfl ?_ | refine OrdP.go ?_)
              exact ⟨.tuple [.sl 0 g' C' _, .bool true], _, FinOk.keep _ [4] (Sub.tuples ⟨Sub.sl _ 0 _ _ _, Sub.refl _, trivial⟩) (by decide) rfl, q0, hq0, by
                rw [show stepR kd pl l c q0 = some (putL ⟨c.p, c.d, c.v⟩ l) from by unfold stepR; rw [if_neg hg, if_neg hg4, if_pos hk, if_neg (by rintro (h | h | h | h); exact hno h; exact hpl h; exact h hfit; omega), show nodeC kd c = ⟨c.p, c.d, c.v⟩ from if_neg hd]]
                exact ⟨g', _, _, .inr ⟨C', rfl, rfl⟩, rfl, rfl⟩⟩
    have hk1 : ¬ c.k = 1 := h
    repeat (first | refine Ops.go ?_ | refine And.intro rfl ?_ | refine And.intro (Nat.le_of_ble_eq_true rfl) ?_ | refine And.intro (Int.natCast_nonneg _) ?_ | refine fun (_ : Nat) => ?_ | refine Ord.go ?_ | refine Run.go rfl ?_ | refine Cont.go rfl ?_ | refine OrdP.go ?_)
    refine ⟨fun h => ?_, fun h => ?_⟩
    · have hk2 : c.k = 2 := h
      repeat (first | refine Ops.go ?_ | refine And.intro rfl ?_ | refine And.intro (Nat.le_of_ble_eq_true rfl) ?_ | refine And.intro (Int.natCast_nonneg _) ?_ | refine fun (_ : Nat) => ?_ | refine Ord.go ?_ | refine Run.go rfl ?_ | refine Cont.go rfl ?_ | refine OrdP.go ?_)
      refine ⟨fun _ => ?_, fun h => absurd (by decide) h⟩
      repeat (first | refine Ops.go ?_ | refine And.intro rfl ?_ | refine And.intro (Nat.le_of_ble_eq_true rfl) ?_ | refine And.intro (Int.natCast_nonneg _) ?_ | refine fun (_ : Nat) => ?_ | refine Ord.go ?_ | refine Run.go rfl ?_ | refine Cont.go rfl ?_ | refine OrdP.go ?_)
      exact ⟨_, [], FinOk.drop _ _, none_ (by unfold stepR; rw [if_neg hg, if_neg hg4, if_neg hk1, if_pos hk2, if_pos (.inl hno)]) rfl⟩
    · have hk2 : ¬ c.k = 2 := h
      repeat (first | refine Ops.go ?_ | refine And.intro rfl ?_ | refine And.intro (Nat.le_of_ble_eq_true rfl) ?_ | refine And.intro (Int.natCast_nonneg _) ?_ | refine fun (_ : Nat) => ?_ | refine Ord.go ?_ | refine Run.go rfl ?_ | refine Cont.go rfl ?_ | refine OrdP.go ?_)
      refine ⟨fun _ => ?_, fun h => absurd (by decide) h⟩
      repeat (first | refine Ops.go ?_ | refine And.intro rfl ?_ | refine And.intro (Nat.le_of_ble_eq_true rfl) ?_ | refine And.intro (Int.natCast_nonneg _) ?_ | refine fun (_ : Nat) => ?_ | refine Ord.go ?_ | refine Run.go rfl ?_ | refine Cont.go rfl ?_ | refine OrdP.go ?_)
      exact ⟨_, [], FinOk.drop _ _, none_ (by unfold stepR; rw [if_neg hg, if_neg hg4, if_neg hk1, if_neg hk2, if_pos (.inl hno)]) rfl⟩
  · have hin : inL l c.p := ⟨x, List.mem_of_getElem? eq, hxp⟩
    refine ⟨rfl, ?_⟩
    repeat (first | refine Ops.go ?_ | refine And.intro rfl ?_ | refine And.intro (Nat.le_of_ble_eq_true rfl) ?_ | refine And.intro (Int.natCast_nonneg _) ?_ | refine fun (_ : Nat) => ?_ | refine Ord.go ?_ | refine Run.go rfl ?_ | refine Cont.go rfl ?_ | refine OrdP.go ?_)
    refine ⟨fun h => ?_, fun h => ?_⟩
    · have hk : c.k = 1 := h
      repeat (first | refine Ops.go ?_ | refine And.intro rfl ?_ | refine And.intro (Nat.le_of_ble_eq_true rfl) ?_ | refine And.intro (Int.natCast_nonneg _) ?_ | refine fun (_ : Nat) => ?_ | refine Ord.go ?_ | refine Run.go rfl ?_ | refine Cont.go rfl ?_ | refine OrdP.go ?_)
      refine ⟨fun _ => ?_, fun h => absurd (by omega) h⟩
      repeat (first | refine Ops.go ?_ | refine And.intro rfl ?_ | refine And.intro (Nat.le_of_ble_eq_true rfl) ?_ | refine And.intro (Int.natCast_nonneg _) ?_ | refine fun (_ : Nat) => ?_ | refine Ord.go ?_ | refine Run.go rfl ?_ | refine Cont.go rfl ?_ | refine OrdP.go ?_)
      exact ⟨_, [], FinOk.drop _ _, none_ (by unfold stepR; rw [if_neg hg, if_neg hg4, if_pos hk, if_pos (.inl hin)]) rfl⟩
    have hk1 : ¬ c.k = 1 := h
    repeat (first | refine Ops.go ?_ | refine And.intro rfl ?_ | refine And.intro (Nat.le_of_ble_eq_true rfl) ?_ | refine And.intro (Int.natCast_nonneg _) ?_ | refine fun (_ : Nat) => ?_ | refine Ord.go ?_ | refine Run.go rfl ?_ | refine Cont.go rfl ?_ | refine OrdP.go ?_)
    refine ⟨fun h => ?_, fun h => ?_⟩
    · have hk2 : c.k = 2 := h
      repeat (first | refine Ops.go ?_ | refine And.intro rfl ?_ | refine And.intro (Nat.le_of_ble_eq_true rfl) ?_ | refine And.intro (Int.natCast_nonneg _) ?_ | refine fun (_ : Nat) => ?_ | refine Ord.go ?_ | refine Run.go rfl ?_ | refine Cont.go rfl ?_ | refine OrdP.go ?_)
      refine ⟨fun h => absurd h (by omega), fun _ => ?_⟩
      repeat (first | refine Ops.go ?_ | refine And.intro rfl ?_ | refine And.intro (Nat.le_of_ble_eq_true rfl) ?_ | refine And.intro (Int.natCast_nonneg _) ?_ | refine fun (_ : Nat) => ?_ | refine Ord.go ?_ | refine Run.go rfl ?_ | refine Cont.go rfl ?_ | refine OrdP.go ?_)
      by_cases hfit : fitC c
      case neg =>
        refine ACall.ret (fitN hfit) ?_
        repeat (first | refine Ops.go ?_ | refine And.intro rfl ?_ | refine And.intro (Nat.le_of_ble_eq_true rfl) ?_ | refine And.intro (Int.natCast_nonneg _) ?_ | refine fun (_ : Nat) => ?_ | refine Ord.go ?_ | refine Run.go rfl ?_ | refine Cont.go rfl ?_ | refine OrdP.go ?_)
        exact ⟨_, [], FinOk.drop _ _, none_ (by unfold stepR; rw [if_neg hg, if_neg hg4, if_neg hk1, if_pos hk2, if_pos (.inr hfit)]) rfl⟩
      refine ACall.ret (fitY hfit) ?_
      repeat (first | refine Ops.go ?_ | refine And.intro rfl ?_ | refine And.intro (Nat.le_of_ble_eq_true rfl) ?_ | refine And.intro (Int.natCast_nonneg _) ?_ | refine fun (_ : Nat) => ?_ | refine Ord.go ?_ | refine Run.go rfl ?_ | refine Cont.go rfl ?_ | refine OrdP.go ?_)
      have hwo := without_spec l l.length q (Nat.le_refl _) (by omega)
      rw [List.take_length] at hwo
      refine ACall.lendNew (args' := [rdo l l.length, .int .i64 q]) (.two (hv.lend rfl) (.same _)) hwo ?_
      rintro r L' ⟨v1, g1, o1, hv1, rfl, rfl⟩
      obtain ⟨v2, hs2, hv2⟩ := hv1.move 3
      refine ⟨hv1.scal.1, hv1.scal.2, v2, hs2, ?_⟩
      have hel : (l.eraseIdx q).length ≤ 900 := by rw [List.length_eraseIdx]; split <;> omega
      repeat (first | refine Ops.go ?_ | refine And.intro rfl ?_ | refine And.intro (Nat.le_of_ble_eq_true rfl) ?_ | refine And.intro (Int.natCast_nonneg _) ?_ | refine fun (_ : Nat) => ?_ | refine Ord.go ?_ | refine Run.go rfl ?_ | refine Cont.go rfl ?_ | refine OrdP.go ?_)
      have hput := put_spec (l.eraseIdx q) ((l.eraseIdx q)).length ⟨c.p, c.d, c.v⟩ (Nat.le_refl _) (by omega) hcp
      rw [List.take_length] at hput
      refine ACall.lendNew (args' := [rdo (l.eraseIdx q) ((l.eraseIdx q)).length, enc ⟨c.p, c.d, c.v⟩]) (.two (hv2.lend rfl) (.same _)) hput ?_
      rintro r L' ⟨g', C', rfl, rfl⟩
      refine ⟨rfl, scal_sns _ _ _, _, Sub.sl _ 4 _ _ _, ?_⟩
      repeat (first | refine Ops.go ?_ | refine And.intro rfl ?_ | refine And.intro (Nat.le_of_ble_eq_true rfl) ?_ | refine And.intro (Int.natCast_nonneg _) ?_ | refine fun (_ : Nat) => ?_ | refine Ord.go ?_ | refine Run.go rfl ?_ | refine Cont.go rfl ?_ | refine OrdP.go ?_)
      exact ⟨.tuple [.sl 0 g' C' _, .bool true], _, FinOk.keep _ [4] (Sub.tuples ⟨Sub.sl _ 0 _ _ _, Sub.refl _, trivial⟩) (by decide) rfl, q, fun _ => ⟨x, eq, hxp⟩, by
        rw [show stepR kd pl l c q = some (putL ⟨c.p, c.d, c.v⟩ (l.eraseIdx q)) from by unfold stepR; rw [if_neg hg, if_neg hg4, if_neg hk1, if_pos hk2, if_neg (by rintro (h | h); exact h hin; exact h hfit)]]
        exact ⟨g', _, _, .inr ⟨C', rfl, rfl⟩, rfl, rfl⟩⟩
    · have hk2 : ¬ c.k = 2 := h
      repeat (first | refine Ops.go ?_ | refine And.intro rfl ?_ | refine And.intro (Nat.le_of_ble_eq_true rfl) ?_ | refine And.intro (Int.natCast_nonneg _) ?_ | refine fun (_ : Nat) => ?_ | refine Ord.go ?_ | refine Run.go rfl ?_ | refine Cont.go rfl ?_ | refine OrdP.go ?_)
      refine ⟨fun h => absurd h (by omega), fun _ => ?_⟩
      repeat (first | refine Ops.go ?_ | refine And.intro rfl ?_ | refine And.intro (Nat.le_of_ble_eq_true rfl) ?_ | refine And.intro (Int.natCast_nonneg _) ?_ | refine fun (_ : Nat) => ?_ | refine Ord.go ?_ | refine Run.go rfl ?_ | refine Cont.go rfl ?_ | refine OrdP.go ?_)
      refine ⟨fun h => ?_, fun h => ?_⟩
      · have hs : c.p = slash := h
        repeat (first | refine Ops.go ?_ | refine And.intro rfl ?_ | refine And.intro (Nat.le_of_ble_eq_true rfl) ?_ | refine And.intro (Int.natCast_nonneg _) ?_ | refine fun (_ : Nat) => ?_ | refine Ord.go ?_ | refine Run.go rfl ?_ | refine Cont.go rfl ?_ | refine OrdP.go ?_)
        exact ⟨_, [], FinOk.drop _ _, none_ (by unfold stepR; rw [if_neg hg, if_neg hg4, if_neg hk1, if_neg hk2, if_pos (.inr hs)]) rfl⟩
      have hs : ¬ c.p = slash := h
      have hg5 : ¬ (¬ inL l c.p ∨ c.p = slash) := by rintro (h | h); exact h hin; exact hs h
      rcases hv with ⟨rfl, rfl, rfl⟩ | ⟨Cp, rfl, rfl⟩
      · simp at eq
      have hv : LN 0 l (.sl 0 g Cp l.length) g (.row 50 3 Cp (l.map enc)) := .inr ⟨Cp, rfl, rfl⟩
      repeat (first | refine Ops.go ?_ | refine And.intro rfl ?_ | refine And.intro (Nat.le_of_ble_eq_true rfl) ?_ | refine And.intro (Int.natCast_nonneg _) ?_ | refine fun (_ : Nat) => ?_ | refine Ord.go ?_ | refine Run.go rfl ?_ | refine Cont.go rfl ?_ | refine OrdP.go ?_)
      refine Run.loop (fun k env L => ∃ (i gs gc : Nat), k = l.length - i ∧ i ≤ l.length ∧ (∀ (j : Nat) (y : Sn), j < i → l[j]? = some y → ¬ belowR y.p c.p) ∧
          env = [.junk, .sl 0 g Cp l.length, .junk, .ptr 1 gs 0, .junk, .ptr 2 gc 0, .junk, .junk, .int .i64 q, .junk, .junk, .int .i64 i, .junk, .junk, .junk, .junk, .junk, .junk, .junk, .junk, .junk, .junk, .junk, .junk, .junk, .junk, .junk, .junk, .junk, .junk, .junk, .junk, .junk, .junk, .junk, .junk, .junk, .junk, .junk, .junk, .junk, .junk, .junk, .junk, .junk, .junk, .junk, .junk, .junk, .junk, .junk, .junk, .junk, .junk, .junk, .junk, .junk, .junk, .junk, .junk, .junk, .junk, .junk, .junk, .junk, .junk, .junk, .junk, .junk, .junk, .junk, .junk, .junk, .junk, .junk, .junk, .junk, .junk, .junk, .junk, .junk, .junk, .junk, .junk, .junk, .junk, .junk, .junk, .junk, .junk, .junk, .junk, .junk, .junk, .junk, .junk, .junk, .junk, .junk, .junk, .junk, .junk, .junk, .junk, .junk, .junk, .junk, .junk, .junk, .junk, .junk, .junk, .junk, .junk, .junk, .junk, .junk, .junk, .junk, .junk, .junk, .junk, .junk, .junk, .junk, .junk, .junk, .junk, .junk, .junk, .junk, .junk, .junk, .junk, .junk, .junk, .junk, .junk, .junk] ∧ L = [(g, .row 50 3 Cp (l.map enc)), (gs, .cells 24 [.int .i64 st, .str pl, .int .i64 kd, nv]), (gc, .cells 69 [.int .i64 c.k, .str c.p, .str c.d, .int .i64 c.v])]) l.length
        [.junk, .sl 0 g Cp l.length, .junk, .ptr 1 gs0 0, .junk, .ptr 2 gc0 0, .junk, .junk, .int .i64 q, .junk, .junk, .int .i64 (0 : Nat), .junk, .junk, .junk, .junk, .junk, .junk, .junk, .junk, .junk, .junk, .junk, .junk, .junk, .junk, .junk, .junk, .junk, .junk, .junk, .junk, .junk, .junk, .junk, .junk, .junk, .junk, .junk, .junk, .junk, .junk, .junk, .junk, .junk, .junk, .junk, .junk, .junk, .junk, .junk, .junk, .junk, .junk, .junk, .junk, .junk, .junk, .junk, .junk, .junk, .junk, .junk, .junk, .junk, .junk, .junk, .junk, .junk, .junk, .junk, .junk, .junk, .junk, .junk, .junk, .junk, .junk, .junk, .junk, .junk, .junk, .junk, .junk, .junk, .junk, .junk, .junk, .junk, .junk, .junk, .junk, .junk, .junk, .junk, .junk, .junk, .junk, .junk, .junk, .junk, .junk, .junk, .junk, .junk, .junk, .junk, .junk, .junk, .junk, .junk, .junk, .junk, .junk, .junk, .junk, .junk, .junk, .junk, .junk, .junk, .junk, .junk, .junk, .junk, .junk, .junk, .junk, .junk, .junk, .junk, .junk, .junk, .junk, .junk, .junk, .junk, .junk, .junk] ?_ ⟨0, gs0, gc0, by omega, by omega, (fun j y hj => absurd hj (Nat.not_lt_zero j)), rfl, rfl⟩ ?_
      · repeat (first | exact trivial | refine ⟨.inl rfl, ?_⟩ | refine ⟨.inr rfl, ?_⟩)
      rintro k env L ⟨i, gs, gc, rfl, hi, hP, rfl, rfl⟩
      repeat (first | refine Ops.go ?_ | refine And.intro rfl ?_ | refine And.intro (Nat.le_of_ble_eq_true rfl) ?_ | refine And.intro (Int.natCast_nonneg _) ?_ | refine fun (_ : Nat) => ?_ | refine Ord.go ?_ | refine Run.go rfl ?_ | refine Cont.go rfl ?_ | refine OrdP.go ?_)
      refine ⟨fun h => ?_, fun h => ?_⟩
      · have h : (i : Int) < (l.length : Int) := h
        obtain ⟨y, ey⟩ : ∃ y, l[i]? = some y := ⟨l[i], List.getElem?_eq_getElem (by omega)⟩
        repeat (first | refine Ops.go ?_ | refine And.intro rfl ?_ | refine And.intro (Nat.le_of_ble_eq_true rfl) ?_ | refine And.intro (Int.natCast_nonneg _) ?_ | refine fun (_ : Nat) => ?_ | refine Ord.go ?_ | refine Run.go rfl ?_ | refine Cont.go rfl ?_ | refine OrdP.go ?_)
        refine Run.drawn true [0, 1, 2, 3, 4, 5, 6, 7] (by kernel_rfl) ?_
        repeat (first | refine Ops.go ?_ | refine And.intro rfl ?_ | refine And.intro (Nat.le_of_ble_eq_true rfl) ?_ | refine And.intro (Int.natCast_nonneg _) ?_ | refine fun (_ : Nat) => ?_ | refine Ord.go ?_ | refine Run.go rfl ?_ | refine Cont.go rfl ?_ | refine OrdP.go ?_)
        refine ⟨h, ?_⟩
        repeat (first | refine Ops.go ?_ | refine And.intro rfl ?_ | refine And.intro (Nat.le_of_ble_eq_true rfl) ?_ | refine And.intro (Int.natCast_nonneg _) ?_ | refine fun (_ : Nat) => ?_ | refine Ord.go ?_ | refine Run.go rfl ?_ | refine Cont.go rfl ?_ | refine OrdP.go ?_)
        refine ⟨enc y, enc_at _ _ _ ey, ?_⟩
        repeat (first | refine Ops.go ?_ | refine And.intro rfl ?_ | refine And.intro (Nat.le_of_ble_eq_true rfl) ?_ | refine And.intro (Int.natCast_nonneg _) ?_ | refine fun (_ : Nat) => ?_ | refine Ord.go ?_ | refine Run.go rfl ?_ | refine Cont.go rfl ?_ | refine OrdP.go ?_)
        have cb := refBelow_spec y.p c.p
        by_cases hb : belowR y.p c.p
        · rw [decide_eq_true hb] at cb
          refine ACallQ.ret cb ?_
          repeat (first | refine Ops.go ?_ | refine And.intro rfl ?_ | refine And.intro (Nat.le_of_ble_eq_true rfl) ?_ | refine And.intro (Int.natCast_nonneg _) ?_ | refine fun (_ : Nat) => ?_ | refine Ord.go ?_ | refine Run.go rfl ?_ | refine Cont.go rfl ?_ | refine OrdP.go ?_)
          exact ⟨_, [], FinOk.drop _ _, none_ (by unfold stepR; rw [if_neg hg, if_neg hg4, if_neg hk1, if_neg hk2, if_neg hg5, if_pos ⟨y, List.mem_of_getElem? ey, hb⟩]) rfl⟩
        · rw [decide_eq_false hb] at cb
          refine ACallQ.ret cb ?_
          repeat (first | refine Ops.go ?_ | refine And.intro rfl ?_ | refine And.intro (Nat.le_of_ble_eq_true rfl) ?_ | refine And.intro (Int.natCast_nonneg _) ?_ | refine fun (_ : Nat) => ?_ | refine Ord.go ?_ | refine Run.go rfl ?_ | refine Cont.go rfl ?_ | refine OrdP.go ?_)
          refine fun r hr => ?_
          obtain rfl := add1 hr (by omega)
          repeat (first | refine Ops.go ?_ | refine And.intro rfl ?_ | refine And.intro (Nat.le_of_ble_eq_true rfl) ?_ | refine And.intro (Int.natCast_nonneg _) ?_ | refine fun (_ : Nat) => ?_ | refine Ord.go ?_ | refine Run.go rfl ?_ | refine Cont.go rfl ?_ | refine OrdP.go ?_)
          refine Cont.lp ?_
          refine ⟨l.length - (i + 1), _, 99, by omega, ?_, ⟨i + 1, gs, gc, rfl, by omega, fun j z hj ez => ?_, rfl, rfl⟩⟩
          · repeat (first | exact trivial | refine ⟨.inl rfl, ?_⟩ | refine ⟨.inr rfl, ?_⟩)
          · by_cases e : j = i
            · subst e
              rw [ey] at ez; cases ez; exact hb
            · exact hP j z (by omega) ez
      · have h : ¬ (i : Int) < (l.length : Int) := h
        have hnb : ¬ ∃ y ∈ l, belowR y.p c.p := by
          rintro ⟨y, hy, hb⟩
          obtain ⟨j, hj⟩ := List.getElem?_of_mem hy
          exact hP j y (by have := (List.getElem?_eq_some_iff.1 hj).1; omega) hj hb
        repeat (first | refine Ops.go ?_ | refine And.intro rfl ?_ | refine And.intro (Nat.le_of_ble_eq_true rfl) ?_ | refine And.intro (Int.natCast_nonneg _) ?_ | refine fun (_ : Nat) => ?_ | refine Ord.go ?_ | refine Run.go rfl ?_ | refine Cont.go rfl ?_ | refine OrdP.go ?_)
        have hwo := without_spec l l.length q (Nat.le_refl _) (by omega)
        rw [List.take_length] at hwo
        refine ACall.lendNew (args' := [rdo l l.length, .int .i64 q]) (.two (hv.lend rfl) (.same _)) hwo ?_
        rintro r L' ⟨v1, g1, o1, hv1, rfl, rfl⟩
        obtain ⟨v2, hs2, hv2⟩ := hv1.move 3
        refine ⟨hv1.scal.1, hv1.scal.2, v2, hs2, ?_⟩
        repeat (first | refine Ops.go ?_ | refine And.intro rfl ?_ | refine And.intro (Nat.le_of_ble_eq_true rfl) ?_ | refine And.intro (Int.natCast_nonneg _) ?_ | refine fun (_ : Nat) => ?_ | refine Ord.go ?_ | refine Run.go rfl ?_ | refine Cont.go rfl ?_ | refine OrdP.go ?_)
        obtain ⟨v3, hs3, hv3⟩ := hv2.move 0
        exact ⟨.tuple [v3, .bool true], _, FinOk.keep _ [3] (Sub.tuples ⟨hs3, Sub.refl _, trivial⟩) (by decide) rfl, q, fun _ => ⟨x, eq, hxp⟩, by
          rw [show stepR kd pl l c q = some (l.eraseIdx q) from by unfold stepR; rw [if_neg hg, if_neg hg4, if_neg hk1, if_neg hk2, if_neg hg5, if_neg hnb]]
          exact ⟨g1, v3, o1, hv3, rfl, rfl⟩⟩
end Go.Proofs.YtfohedaadncefaaDoor.HBT
