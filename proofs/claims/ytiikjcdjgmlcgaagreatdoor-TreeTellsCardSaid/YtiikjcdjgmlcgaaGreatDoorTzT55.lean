/- The laws' helpers: at, alike, turned. -/
import Derived.Test.YtiikjcdjgmlcgaaGreatDoorTzG4
import Derived.Test.YtiikjcdjgmlcgaaGreatDoorTzT9
import Derived.Test.YtiikjcdjgmlcgaaGreatDoorCards
import Derived.Test.YtiikjcdjgmlcgaaGreatDoorTie
import Derived.SevenTiedAt
namespace Go.Proofs.YtiikjcdjgmlcgaaGreatDoor.HBT
open Go Go.Proofs.YtiikjcdjgmlcgaaGreatDoor.HB Go.RowKit
set_option maxRecDepth 8000

theorem drop_any {α : Type} {l : List α} {i : Nat} {x : α} (h : l[i]? = some x) : l.drop i = x :: l.drop (i + 1) := by
  obtain ⟨h1, h2⟩ := List.getElem?_eq_some_iff.1 h
  rw [List.drop_eq_getElem_cons h1, h2]
def idxN : List Sn → ByteArray → Nat → Int
  | [], _, _ => -1
  | x :: l, p, i => if x.p = p then i else idxN l p (i + 1)
theorem idxN_cons (x : Sn) (l : List Sn) (p : ByteArray) (i : Nat) : idxN (x :: l) p i = if x.p = p then (i : Int) else idxN l p (i + 1) := rfl
theorem idxN_cases : ∀ (l : List Sn) (p : ByteArray) (i : Nat), ((∀ x ∈ l, x.p ≠ p) ∧ idxN l p i = -1) ∨ ∃ j x, l[j]? = some x ∧ x.p = p ∧ idxN l p i = (i + j : Nat)
  | [], _, _ => .inl ⟨fun x hx => (by cases hx), rfl⟩
  | x :: l, p, i => by
    rw [idxN_cons]
    by_cases h : x.p = p
    · rw [if_pos h]
      exact .inr ⟨0, x, rfl, h, rfl⟩
    · rw [if_neg h]
      rcases idxN_cases l p (i + 1) with ⟨h1, h2⟩ | ⟨j, y, h1, h2, h3⟩
      · exact .inl ⟨fun z hz => by
          rcases List.mem_cons.1 hz with rfl | hz
          · exact h
          · exact h1 z hz, h2⟩
      · exact .inr ⟨j + 1, y, by simpa using h1, h2, by rw [h3]; congr 1; omega⟩
set_option maxHeartbeats 4000000 in
theorem at_spec (l : List Sn) (p : ByteArray) (hl : l.length ≤ 10000) : FnSpec C 52 [encNs l, .str p] [] (fun r L' => r = .int .i64 (idxN l p 0) ∧ L' = []) := by
  refine FnSpec.start C_ok Tryz.func52 rfl rfl Tryz.ntmps52 ?_
  repeat (first | refine OpsA.cons ?_ | refine OpsA.nil ?_ | refine Run.textA C_ok (aopC_sound C_ok) ?_ | refine And.intro rfl ?_ | refine And.intro (Nat.le_of_ble_eq_true rfl) ?_ | refine And.intro (Int.natCast_nonneg _) ?_ | refine fun (_ : Nat) => ?_ | refine Run.go rfl ?_ | refine Cont.go rfl ?_)
  refine Run.loop (fun k env L => ∃ i : Nat, k = l.length - i ∧ i ≤ l.length ∧ idxN l p 0 = idxN (l.drop i) p i ∧ env = [encNs l, .str p, .junk, .junk, .junk, .int .i64 i, .junk, .junk, .junk, .junk, .junk, .junk, .junk, .junk, .junk, .junk, .junk, .junk, .junk, .junk] ∧ L = []) l.length [encNs l, .str p, .junk, .junk, .junk, .int .i64 (0 : Nat), .junk, .junk, .junk, .junk, .junk, .junk, .junk, .junk, .junk, .junk, .junk, .junk, .junk, .junk] ?_ ⟨0, by omega, by omega, by rw [List.drop_zero], rfl, rfl⟩ ?_
  · repeat (first | exact trivial | refine ⟨.inl rfl, ?_⟩ | refine ⟨.inr rfl, ?_⟩)
  rintro k env L ⟨i, rfl, hi, hP, rfl, rfl⟩
  repeat (first | refine OpsA.cons ?_ | refine OpsA.nil ?_ | refine Run.textA C_ok (aopC_sound C_ok) ?_ | refine And.intro rfl ?_ | refine And.intro (Nat.le_of_ble_eq_true rfl) ?_ | refine And.intro (Int.natCast_nonneg _) ?_ | refine fun (_ : Nat) => ?_ | refine Run.go rfl ?_ | refine Cont.go rfl ?_)
  refine ⟨fun h => ?_, fun h => ?_⟩
  · have h : (i : Int) < (l.length : Int) := h
    have hil : i < l.length := by omega
    obtain ⟨x, ex⟩ : ∃ x, l[i]? = some x := ⟨_, List.getElem?_eq_getElem hil⟩
    rw [drop_any ex, idxN_cons] at hP
    repeat (first | refine OpsA.cons ?_ | refine OpsA.nil ?_ | refine Run.textA C_ok (aopC_sound C_ok) ?_ | refine And.intro rfl ?_ | refine And.intro (Nat.le_of_ble_eq_true rfl) ?_ | refine And.intro (Int.natCast_nonneg _) ?_ | refine fun (_ : Nat) => ?_ | refine Run.go rfl ?_ | refine Cont.go rfl ?_)
    refine ⟨h, encN x, map_at encN ex, ?_⟩
    repeat (first | refine OpsA.cons ?_ | refine OpsA.nil ?_ | refine Run.textA C_ok (aopC_sound C_ok) ?_ | refine And.intro rfl ?_ | refine And.intro (Nat.le_of_ble_eq_true rfl) ?_ | refine And.intro (Int.natCast_nonneg _) ?_ | refine fun (_ : Nat) => ?_ | refine Run.go rfl ?_ | refine Cont.go rfl ?_)
    refine ⟨fun hp => ?_, fun hp => ?_⟩
    · have hp : x.p = p := hp
      rw [if_pos hp] at hP
      repeat (first | refine OpsA.cons ?_ | refine OpsA.nil ?_ | refine Run.textA C_ok (aopC_sound C_ok) ?_ | refine And.intro rfl ?_ | refine And.intro (Nat.le_of_ble_eq_true rfl) ?_ | refine And.intro (Int.natCast_nonneg _) ?_ | refine fun (_ : Nat) => ?_ | refine Run.go rfl ?_ | refine Cont.go rfl ?_)
      exact ⟨_, [], FinOk.drop _ _, by rw [hP]; rfl, rfl⟩
    · have hp : ¬ x.p = p := hp
      rw [if_neg hp] at hP
      repeat (first | refine OpsA.cons ?_ | refine OpsA.nil ?_ | refine Run.textA C_ok (aopC_sound C_ok) ?_ | refine And.intro rfl ?_ | refine And.intro (Nat.le_of_ble_eq_true rfl) ?_ | refine And.intro (Int.natCast_nonneg _) ?_ | refine fun (_ : Nat) => ?_ | refine Run.go rfl ?_ | refine Cont.go rfl ?_)
      refine fun r hr => ?_
      obtain rfl := add1 hr (by omega)
      repeat (first | refine OpsA.cons ?_ | refine OpsA.nil ?_ | refine Run.textA C_ok (aopC_sound C_ok) ?_ | refine And.intro rfl ?_ | refine And.intro (Nat.le_of_ble_eq_true rfl) ?_ | refine And.intro (Int.natCast_nonneg _) ?_ | refine fun (_ : Nat) => ?_ | refine Run.go rfl ?_ | refine Cont.go rfl ?_)
      refine Cont.lp ?_
      refine ⟨l.length - (i + 1), _, 99, by omega, ?_, ⟨i + 1, rfl, by omega, hP, rfl, rfl⟩⟩
      · repeat (first | exact trivial | refine ⟨.inl rfl, ?_⟩ | refine ⟨.inr rfl, ?_⟩)
  · have h : ¬ (i : Int) < (l.length : Int) := h
    rw [List.drop_of_length_le (by omega)] at hP
    repeat (first | refine OpsA.cons ?_ | refine OpsA.nil ?_ | refine Run.textA C_ok (aopC_sound C_ok) ?_ | refine And.intro rfl ?_ | refine And.intro (Nat.le_of_ble_eq_true rfl) ?_ | refine And.intro (Int.natCast_nonneg _) ?_ | refine fun (_ : Nat) => ?_ | refine Run.go rfl ?_ | refine Cont.go rfl ?_)
    exact ⟨_, [], FinOk.drop _ _, by rw [hP]; rfl, rfl⟩
theorem sn_uniq {l : List Sn} (h : (l.map (·.p)).Nodup) {x y : Sn} (hx : x ∈ l) (hy : y ∈ l) (e : x.p = y.p) : x = y := by
  obtain ⟨i, hi, ei⟩ := List.mem_iff_getElem.1 hx
  obtain ⟨j, hj, ej⟩ := List.mem_iff_getElem.1 hy
  have : i = j := by
    refine (List.getElem?_inj (by simpa using hi) h).1 ?_
    simp [hi, hj, ei, ej, e]
  subst this
  rw [← ei, ← ej]
/-- The place of what is there, in a list of places that are all different. -/
theorem idx_there {l : List Sn} (h : (l.map (·.p)).Nodup) {x : Sn} (hx : x ∈ l) : ∃ j : Nat, l[j]? = some x ∧ idxN l x.p 0 = j := by
  rcases idxN_cases l x.p 0 with ⟨h1, _⟩ | ⟨j, y, h1, h2, h3⟩
  · exact absurd rfl (h1 x hx)
  · obtain rfl := sn_uniq h (List.mem_of_getElem? h1) hx h2
    exact ⟨j, h1, by rw [h3, Nat.zero_add]⟩
set_option maxHeartbeats 4000000 in
theorem alike_spec (a b : List Sn) (hp : a.Perm b) (hn : (b.map (·.p)).Nodup) (hl : b.length ≤ 10000) : FnSpec C 27 [encNs a, encNs b] [] (fun r L' => r = .bool true ∧ L' = []) := by
  have hlen := hp.length_eq
  refine FnSpec.start C_ok Tryz.func27 rfl rfl Tryz.ntmps27 ?_
  repeat (first | refine OpsA.cons ?_ | refine OpsA.nil ?_ | refine Run.textA C_ok (aopC_sound C_ok) ?_ | refine And.intro rfl ?_ | refine And.intro (Nat.le_of_ble_eq_true rfl) ?_ | refine And.intro (Int.natCast_nonneg _) ?_ | refine fun (_ : Nat) => ?_ | refine Run.go rfl ?_ | refine Cont.go rfl ?_)
  refine ⟨fun h => absurd (show (a.length : Int) = (b.length : Int) by omega) h, fun _ => ?_⟩
  repeat (first | refine OpsA.cons ?_ | refine OpsA.nil ?_ | refine Run.textA C_ok (aopC_sound C_ok) ?_ | refine And.intro rfl ?_ | refine And.intro (Nat.le_of_ble_eq_true rfl) ?_ | refine And.intro (Int.natCast_nonneg _) ?_ | refine fun (_ : Nat) => ?_ | refine Run.go rfl ?_ | refine Cont.go rfl ?_)
  refine Run.loop (fun k env L => ∃ i : Nat, k = a.length - i ∧ i ≤ a.length ∧ env = [encNs a, encNs b, .junk, .junk, .junk, .int .i64 i, .junk, .junk, .junk, .junk, .junk, .junk, .junk, .junk, .junk, .junk, .junk, .junk, .junk, .junk, .junk, .junk, .junk, .junk, .junk, .junk, .junk, .junk, .junk, .junk, .junk, .junk, .junk, .junk, .junk, .junk, .junk, .junk] ∧ L = []) a.length [encNs a, encNs b, .junk, .junk, .junk, .int .i64 (0 : Nat), .junk, .junk, .junk, .junk, .junk, .junk, .junk, .junk, .junk, .junk, .junk, .junk, .junk, .junk, .junk, .junk, .junk, .junk, .junk, .junk, .junk, .junk, .junk, .junk, .junk, .junk, .junk, .junk, .junk, .junk, .junk, .junk] ?_ ⟨0, by omega, by omega, rfl, rfl⟩ ?_
  · repeat (first | exact trivial | refine ⟨.inl rfl, ?_⟩ | refine ⟨.inr rfl, ?_⟩)
  rintro k env L ⟨i, rfl, hi, rfl, rfl⟩
  repeat (first | refine OpsA.cons ?_ | refine OpsA.nil ?_ | refine Run.textA C_ok (aopC_sound C_ok) ?_ | refine And.intro rfl ?_ | refine And.intro (Nat.le_of_ble_eq_true rfl) ?_ | refine And.intro (Int.natCast_nonneg _) ?_ | refine fun (_ : Nat) => ?_ | refine Run.go rfl ?_ | refine Cont.go rfl ?_)
  refine ⟨fun h => ?_, fun h => ?_⟩
  · have h : (i : Int) < (a.length : Int) := h
    obtain ⟨x, ex⟩ : ∃ x, a[i]? = some x := ⟨_, List.getElem?_eq_getElem (by omega)⟩
    obtain ⟨j, ej, hj⟩ := idx_there hn (hp.mem_iff.1 (List.mem_of_getElem? ex))
    have hjl : j < b.length := (List.getElem?_eq_some_iff.1 ej).1
    have hat := at_spec b x.p hl
    rw [hj] at hat
    repeat (first | refine OpsA.cons ?_ | refine OpsA.nil ?_ | refine Run.textA C_ok (aopC_sound C_ok) ?_ | refine And.intro rfl ?_ | refine And.intro (Nat.le_of_ble_eq_true rfl) ?_ | refine And.intro (Int.natCast_nonneg _) ?_ | refine fun (_ : Nat) => ?_ | refine Run.go rfl ?_ | refine Cont.go rfl ?_)
    refine ⟨h, encN x, map_at encN ex, ?_⟩
    repeat (first | refine OpsA.cons ?_ | refine OpsA.nil ?_ | refine Run.textA C_ok (aopC_sound C_ok) ?_ | refine And.intro rfl ?_ | refine And.intro (Nat.le_of_ble_eq_true rfl) ?_ | refine And.intro (Int.natCast_nonneg _) ?_ | refine fun (_ : Nat) => ?_ | refine Run.go rfl ?_ | refine Cont.go rfl ?_)
    refine ACallT.ok (ACall.ret hat ?_)
    repeat (first | refine OpsA.cons ?_ | refine OpsA.nil ?_ | refine Run.textA C_ok (aopC_sound C_ok) ?_ | refine And.intro rfl ?_ | refine And.intro (Nat.le_of_ble_eq_true rfl) ?_ | refine And.intro (Int.natCast_nonneg _) ?_ | refine fun (_ : Nat) => ?_ | refine Run.go rfl ?_ | refine Cont.go rfl ?_)
    refine Run.drawnK C_ok (aopC_sound C_ok) [] [0, 1, 2, 3, 4, 5, 6, 7, 8, 9, 10, 11, 12] (by kernel_rfl) ?_
    repeat (first | refine OpsA.cons ?_ | refine OpsA.nil ?_ | refine OrdK.cons rfl ?_ | refine OrdK.nil ?_ | refine Run.textA C_ok (aopC_sound C_ok) ?_ | refine And.intro rfl ?_ | refine And.intro (Nat.le_of_ble_eq_true rfl) ?_ | refine And.intro (Int.natCast_nonneg _) ?_ | refine fun (_ : Nat) => ?_ | refine Run.go rfl ?_ | refine Cont.go rfl ?_)
    refine ⟨fun h => absurd h (show ¬ (j : Int) < 0 by omega), fun _ => ?_⟩
    repeat (first | refine OpsA.cons ?_ | refine OpsA.nil ?_ | refine OrdK.cons rfl ?_ | refine OrdK.nil ?_ | refine Run.textA C_ok (aopC_sound C_ok) ?_ | refine And.intro rfl ?_ | refine And.intro (Nat.le_of_ble_eq_true rfl) ?_ | refine And.intro (Int.natCast_nonneg _) ?_ | refine fun (_ : Nat) => ?_ | refine Run.go rfl ?_ | refine Cont.go rfl ?_)
    refine ⟨show (j : Int) < (b.length : Int) by omega, encN x, map_at encN ej, ?_⟩
    repeat (first | refine OpsA.cons ?_ | refine OpsA.nil ?_ | refine OrdK.cons rfl ?_ | refine OrdK.nil ?_ | refine Run.textA C_ok (aopC_sound C_ok) ?_ | refine And.intro rfl ?_ | refine And.intro (Nat.le_of_ble_eq_true rfl) ?_ | refine And.intro (Int.natCast_nonneg _) ?_ | refine fun (_ : Nat) => ?_ | refine Run.go rfl ?_ | refine Cont.go rfl ?_)
    refine ⟨h, encN x, map_at encN ex, ?_⟩
    repeat (first | refine OpsA.cons ?_ | refine OpsA.nil ?_ | refine OrdK.cons rfl ?_ | refine OrdK.nil ?_ | refine Run.textA C_ok (aopC_sound C_ok) ?_ | refine And.intro rfl ?_ | refine And.intro (Nat.le_of_ble_eq_true rfl) ?_ | refine And.intro (Int.natCast_nonneg _) ?_ | refine fun (_ : Nat) => ?_ | refine Run.go rfl ?_ | refine Cont.go rfl ?_)
    refine ⟨fun hne => absurd ((sn_eq x x).2 rfl) hne, fun _ => ?_⟩
    repeat (first | refine OpsA.cons ?_ | refine OpsA.nil ?_ | refine OrdK.cons rfl ?_ | refine OrdK.nil ?_ | refine Run.textA C_ok (aopC_sound C_ok) ?_ | refine And.intro rfl ?_ | refine And.intro (Nat.le_of_ble_eq_true rfl) ?_ | refine And.intro (Int.natCast_nonneg _) ?_ | refine fun (_ : Nat) => ?_ | refine Run.go rfl ?_ | refine Cont.go rfl ?_)
    refine fun r hr => ?_
    obtain rfl := add1 hr (by omega)
    repeat (first | refine OpsA.cons ?_ | refine OpsA.nil ?_ | refine OrdK.cons rfl ?_ | refine OrdK.nil ?_ | refine Run.textA C_ok (aopC_sound C_ok) ?_ | refine And.intro rfl ?_ | refine And.intro (Nat.le_of_ble_eq_true rfl) ?_ | refine And.intro (Int.natCast_nonneg _) ?_ | refine fun (_ : Nat) => ?_ | refine Run.go rfl ?_ | refine Cont.go rfl ?_)
    refine Cont.lp ?_
    refine ⟨a.length - (i + 1), _, 99, by omega, ?_, ⟨i + 1, rfl, by omega, rfl, rfl⟩⟩
    · repeat (first | exact trivial | refine ⟨.inl rfl, ?_⟩ | refine ⟨.inr rfl, ?_⟩)
  · repeat (first | refine OpsA.cons ?_ | refine OpsA.nil ?_ | refine Run.textA C_ok (aopC_sound C_ok) ?_ | refine And.intro rfl ?_ | refine And.intro (Nat.le_of_ble_eq_true rfl) ?_ | refine And.intro (Int.natCast_nonneg _) ?_ | refine fun (_ : Nat) => ?_ | refine Run.go rfl ?_ | refine Cont.go rfl ?_)
    exact ⟨_, [], FinOk.drop _ _, rfl, rfl⟩
/-- An element taken out; written over. -/
theorem out_perm {α : Type} {l : List α} {j : Nat} {x : α} (h : l[j]? = some x) : l.Perm (x :: l.eraseIdx j) := by
  obtain ⟨h1, e⟩ := List.getElem?_eq_some_iff.1 h
  rw [List.eraseIdx_eq_take_drop_succ]
  have e2 : l = l.take j ++ x :: l.drop (j + 1) := by rw [← e, ← List.drop_eq_getElem_cons h1, List.take_append_drop]
  conv => lhs; rw [e2]
  exact List.perm_middle
theorem set_perm {α : Type} {l : List α} {j : Nat} (h : j < l.length) (n : α) : (l.set j n).Perm (n :: l.eraseIdx j) := by
  rw [List.eraseIdx_eq_take_drop_succ, List.set_eq_take_append_cons_drop, if_pos h]
  exact List.perm_middle
/-- Taken out, the last one put in its place. -/
theorem swap_perm {α : Type} {l : List α} {j : Nat} {z : α} (h : j < l.length) (hz : l[l.length - 1]? = some z) : ((l.set j z).take (l.length - 1)).Perm (l.eraseIdx j) := by
  obtain ⟨m, rfl⟩ : ∃ m, l = m ++ [z] := by
    refine ⟨l.take (l.length - 1), ?_⟩
    obtain ⟨h1, e⟩ := List.getElem?_eq_some_iff.1 hz
    have : l.take (l.length - 1 + 1) = l.take (l.length - 1) ++ [z] := by rw [List.take_succ_eq_append_getElem h1, e]
    rw [← this, List.take_of_length_le (by omega)]
  rw [List.length_append, List.length_singleton, Nat.add_sub_cancel]
  rw [List.length_append, List.length_singleton] at h
  by_cases hj : j = m.length
  · subst hj
    rw [List.set_append_right _ _ (Nat.le_refl _), List.take_left, List.eraseIdx_append_of_length_le (Nat.le_refl _), Nat.sub_self]
    simp
  · have hlt : j < m.length := by omega
    rw [List.set_append_left _ _ hlt, List.eraseIdx_append_of_lt_length hlt]
    have e : (m.set j z ++ [z]).take m.length = m.set j z := by
      rw [List.take_append_of_le_length (by rw [List.length_set]; exact Nat.le_refl _), List.take_of_length_le (by rw [List.length_set]; exact Nat.le_refl _)]
    rw [e]
    exact (set_perm hlt z).trans (show (z :: m.eraseIdx j).Perm (m.eraseIdx j ++ [z]) from List.perm_append_comm (l₁ := [z]))
set_option maxHeartbeats 4000000 in
theorem turned_spec (g0 C0 : Nat) (xs s s' : List Sn) (cs : List Chg) (hp : xs.Perm s) (hn : (s.map (·.p)).Nodup) (hf : Fol s cs s') (hx : xs.length ≤ 1000) (hc : cs.length ≤ 1000) :
    FnSpec C 26 [.sl 0 g0 C0 xs.length, encCs cs] [(g0, .row tN 3 C0 (xs.map encN))] (fun r L' => ∃ (ys : List Sn) (g Cp : Nat), ys.Perm s' ∧ r = .tuple [.sl 0 g Cp ys.length, .bool true] ∧ L' = [(g, .row tN 3 Cp (ys.map encN))]) := by
  refine FnSpec.start C_ok Tryz.func26 rfl rfl Tryz.ntmps26 ?_
  repeat (first | refine OpsA.cons ?_ | refine OpsA.nil ?_ | refine Run.textA C_ok (aopC_sound C_ok) ?_ | refine And.intro rfl ?_ | refine And.intro (Nat.le_of_ble_eq_true rfl) ?_ | refine And.intro (Int.natCast_nonneg _) ?_ | refine fun (_ : Nat) => ?_ | refine Run.go rfl ?_ | refine Cont.go rfl ?_)
  refine Run.loopW (fun k env L => ∃ (i : Nat) (ys s1 : List Sn) (g Cp : Nat) (v : AV) (o : AObj), k = cs.length - i ∧ i ≤ cs.length ∧ ys.Perm s1 ∧ (s1.map (·.p)).Nodup ∧ Fol s1 (cs.drop i) s' ∧ ys.length ≤ 1000 + i ∧ v = .sl 0 g Cp ys.length ∧ o = .row tN 3 Cp (ys.map encN) ∧ env = [v, encCs cs, .junk, .junk, .junk, .junk, .int .i64 i, .junk, .junk, .junk, .junk, .junk, .junk, .junk, .junk, .junk, .junk, .junk, .junk, .junk, .junk, .junk, .junk, .junk, .junk, .junk, .junk, .junk, .junk, .junk, .junk, .junk, .junk, .junk, .junk, .junk, .junk, .junk, .junk, .junk, .junk, .junk, .junk, .junk, .junk, .junk, .junk, .junk, .junk, .junk, .junk, .junk, .junk, .junk, .junk, .junk, .junk, .junk, .junk, .junk, .junk, .junk, .junk, .junk, .junk, .junk, .junk, .junk, .junk, .junk, .junk, .junk, .junk, .junk, .junk, .junk, .junk, .junk, .junk, .junk, .junk, .junk, .junk, .junk, .junk, .junk, .junk, .junk, .junk, .junk, .junk, .junk, .junk, .junk, .junk, .junk, .junk, .junk, .junk, .junk, .junk, .junk, .junk, .junk, .junk, .junk, .junk, .junk, .junk, .junk, .junk, .junk, .junk] ∧ L = [(g, o)]) cs.length
    [.sl 0 g0 C0 xs.length, encCs cs, .junk, .junk, .junk, .junk, .int .i64 (0 : Nat), .junk, .junk, .junk, .junk, .junk, .junk, .junk, .junk, .junk, .junk, .junk, .junk, .junk, .junk, .junk, .junk, .junk, .junk, .junk, .junk, .junk, .junk, .junk, .junk, .junk, .junk, .junk, .junk, .junk, .junk, .junk, .junk, .junk, .junk, .junk, .junk, .junk, .junk, .junk, .junk, .junk, .junk, .junk, .junk, .junk, .junk, .junk, .junk, .junk, .junk, .junk, .junk, .junk, .junk, .junk, .junk, .junk, .junk, .junk, .junk, .junk, .junk, .junk, .junk, .junk, .junk, .junk, .junk, .junk, .junk, .junk, .junk, .junk, .junk, .junk, .junk, .junk, .junk, .junk, .junk, .junk, .junk, .junk, .junk, .junk, .junk, .junk, .junk, .junk, .junk, .junk, .junk, .junk, .junk, .junk, .junk, .junk, .junk, .junk, .junk, .junk, .junk, .junk, .junk, .junk, .junk] [(g0, .row tN 3 C0 (xs.map encN))] (Weak.sel ?_ [0] (by decide) ?_) ⟨0, xs, s, g0, C0, _, _, by omega, by omega, hp, hn, hf, by omega, rfl, rfl, rfl, rfl⟩ ?_
  · repeat (first | exact trivial | refine And.intro (Sub.junk _) ?_ | refine And.intro (Sub.refl _) ?_ | refine And.intro (Sub.sl _ _ _ _ _) ?_ | refine And.intro (Sub.ptr _ _ _ _) ?_)
  · repeat (first | exact trivial | refine And.intro rfl ?_ | refine And.intro (SubO.refl _) ?_ | refine And.intro trivial ?_ | refine And.intro (SubO.cells (by repeat (first | exact trivial | refine And.intro (Sub.refl _) ?_ | refine And.intro (Sub.sl _ _ _ _ _) ?_ | refine And.intro (Sub.ptr _ _ _ _) ?_))) ?_)
  rintro k env L ⟨i, ys, s1, g, Cp, v, o, rfl, hi, hys, hn1, hf1, hyl, rfl, rfl, rfl, rfl⟩
  repeat (first | refine OpsA.cons ?_ | refine OpsA.nil ?_ | refine Run.textA C_ok (aopC_sound C_ok) ?_ | refine And.intro rfl ?_ | refine And.intro (Nat.le_of_ble_eq_true rfl) ?_ | refine And.intro (Int.natCast_nonneg _) ?_ | refine fun (_ : Nat) => ?_ | refine Run.go rfl ?_ | refine Cont.go rfl ?_)
  refine ⟨fun h => ?_, fun h => ?_⟩
  · have h : (i : Int) < (cs.length : Int) := h
    obtain ⟨c, ec⟩ : ∃ c, cs[i]? = some c := ⟨_, List.getElem?_eq_getElem (by omega)⟩
    rw [drop_any ec] at hf1
    cases hf1 with
    | cons hok hf2 =>
      rename_i s2
      obtain ⟨hn2, hok⟩ := hok
      have hny : (ys.map (·.p)).Nodup := (hys.map _).nodup_iff.2 hn1
      repeat (first | refine OpsA.cons ?_ | refine OpsA.nil ?_ | refine Run.textA C_ok (aopC_sound C_ok) ?_ | refine And.intro rfl ?_ | refine And.intro (Nat.le_of_ble_eq_true rfl) ?_ | refine And.intro (Int.natCast_nonneg _) ?_ | refine fun (_ : Nat) => ?_ | refine Run.go rfl ?_ | refine Cont.go rfl ?_)
      refine ⟨h, encC c, map_at encC ec, ?_⟩
      repeat (first | refine OpsA.cons ?_ | refine OpsA.nil ?_ | refine Run.textA C_ok (aopC_sound C_ok) ?_ | refine And.intro rfl ?_ | refine And.intro (Nat.le_of_ble_eq_true rfl) ?_ | refine And.intro (Int.natCast_nonneg _) ?_ | refine fun (_ : Nat) => ?_ | refine Run.go rfl ?_ | refine Cont.go rfl ?_)
      refine ACallT.ok (ACall.ret_lend (.two (.row 0 g Cp _ tN 3 _ rfl (by simp)) (.same _)) (at_spec ys c.p (by omega)) rfl ?_)
      repeat (first | refine OpsA.cons ?_ | refine OpsA.nil ?_ | refine Run.textA C_ok (aopC_sound C_ok) ?_ | refine And.intro rfl ?_ | refine And.intro (Nat.le_of_ble_eq_true rfl) ?_ | refine And.intro (Int.natCast_nonneg _) ?_ | refine fun (_ : Nat) => ?_ | refine Run.go rfl ?_ | refine Cont.go rfl ?_)
      refine Run.drawnK C_ok (aopC_sound C_ok) [] [0, 1, 2, 3, 4, 5, 6, 7, 8, 9, 10, 11, 12, 13, 14, 15, 16, 17] (by kernel_rfl) ?_
      repeat (first | refine OpsA.cons ?_ | refine OpsA.nil ?_ | refine OrdK.cons rfl ?_ | refine OrdK.nil ?_ | refine Run.textA C_ok (aopC_sound C_ok) ?_ | refine And.intro rfl ?_ | refine And.intro (Nat.le_of_ble_eq_true rfl) ?_ | refine And.intro (Int.natCast_nonneg _) ?_ | refine fun (_ : Nat) => ?_ | refine Run.go rfl ?_ | refine Cont.go rfl ?_)
      refine ⟨h, encC c, map_at encC ec, ?_⟩
      repeat (first | refine OpsA.cons ?_ | refine OpsA.nil ?_ | refine OrdK.cons rfl ?_ | refine OrdK.nil ?_ | refine Run.textA C_ok (aopC_sound C_ok) ?_ | refine And.intro rfl ?_ | refine And.intro (Nat.le_of_ble_eq_true rfl) ?_ | refine And.intro (Int.natCast_nonneg _) ?_ | refine fun (_ : Nat) => ?_ | refine Run.go rfl ?_ | refine Cont.go rfl ?_)
      refine ⟨h, encC c, map_at encC ec, ?_⟩
      repeat (first | refine OpsA.cons ?_ | refine OpsA.nil ?_ | refine OrdK.cons rfl ?_ | refine OrdK.nil ?_ | refine Run.textA C_ok (aopC_sound C_ok) ?_ | refine And.intro rfl ?_ | refine And.intro (Nat.le_of_ble_eq_true rfl) ?_ | refine And.intro (Int.natCast_nonneg _) ?_ | refine fun (_ : Nat) => ?_ | refine Run.go rfl ?_ | refine Cont.go rfl ?_)
      refine ⟨h, encC c, map_at encC ec, ?_⟩
      repeat (first | refine OpsA.cons ?_ | refine OpsA.nil ?_ | refine OrdK.cons rfl ?_ | refine OrdK.nil ?_ | refine Run.textA C_ok (aopC_sound C_ok) ?_ | refine And.intro rfl ?_ | refine And.intro (Nat.le_of_ble_eq_true rfl) ?_ | refine And.intro (Int.natCast_nonneg _) ?_ | refine fun (_ : Nat) => ?_ | refine Run.go rfl ?_ | refine Cont.go rfl ?_)
      refine ⟨h, encC c, map_at encC ec, ?_⟩
      repeat (first | refine OpsA.cons ?_ | refine OpsA.nil ?_ | refine OrdK.cons rfl ?_ | refine OrdK.nil ?_ | refine Run.textA C_ok (aopC_sound C_ok) ?_ | refine And.intro rfl ?_ | refine And.intro (Nat.le_of_ble_eq_true rfl) ?_ | refine And.intro (Int.natCast_nonneg _) ?_ | refine fun (_ : Nat) => ?_ | refine Run.go rfl ?_ | refine Cont.go rfl ?_)
      rcases hok with ⟨k1, k2, k3, k4⟩ | ⟨k1, x, hx, k2, k3, k5, k6, k4⟩ | ⟨k1, k2, x, hx, k3, k4, k5⟩
      · have hidx : idxN ys c.p 0 = -1 := by
          rcases idxN_cases ys c.p 0 with ⟨_, e⟩ | ⟨j, y, e1, e2, _⟩
          · exact e
          · exact absurd e2 (k3 y (hys.mem_iff.1 (List.mem_of_getElem? e1)))
        rw [hidx]
        refine ⟨fun _ => ?_, fun h => absurd k1 h⟩
        repeat (first | refine OpsA.cons ?_ | refine OpsA.nil ?_ | refine OrdK.cons rfl ?_ | refine OrdK.nil ?_ | refine Run.textA C_ok (aopC_sound C_ok) ?_ | refine And.intro rfl ?_ | refine And.intro (Nat.le_of_ble_eq_true rfl) ?_ | refine And.intro (Int.natCast_nonneg _) ?_ | refine fun (_ : Nat) => ?_ | refine Run.go rfl ?_ | refine Cont.go rfl ?_)
        refine ⟨fun h => absurd h (by decide), fun _ => ?_⟩
        repeat (first | refine OpsA.cons ?_ | refine OpsA.nil ?_ | refine OrdK.cons rfl ?_ | refine OrdK.nil ?_ | refine Run.textA C_ok (aopC_sound C_ok) ?_ | refine And.intro rfl ?_ | refine And.intro (Nat.le_of_ble_eq_true rfl) ?_ | refine And.intro (Int.natCast_nonneg _) ?_ | refine fun (_ : Nat) => ?_ | refine Run.go rfl ?_ | refine Cont.go rfl ?_)
        refine ⟨fun h => absurd k2 h, fun _ => ?_⟩
        repeat (first | refine OpsA.cons ?_ | refine OpsA.nil ?_ | refine OrdK.cons rfl ?_ | refine OrdK.nil ?_ | refine Run.textA C_ok (aopC_sound C_ok) ?_ | refine And.intro rfl ?_ | refine And.intro (Nat.le_of_ble_eq_true rfl) ?_ | refine And.intro (Int.natCast_nonneg _) ?_ | refine fun (_ : Nat) => ?_ | refine Run.go rfl ?_ | refine Cont.go rfl ?_)
        refine ⟨by simp, ?_⟩
        repeat (first | refine OpsA.cons ?_ | refine OpsA.nil ?_ | refine OrdK.cons rfl ?_ | refine OrdK.nil ?_ | refine Run.textA C_ok (aopC_sound C_ok) ?_ | refine And.intro rfl ?_ | refine And.intro (Nat.le_of_ble_eq_true rfl) ?_ | refine And.intro (Int.natCast_nonneg _) ?_ | refine fun (_ : Nat) => ?_ | refine Run.go rfl ?_ | refine Cont.go rfl ?_)
        refine ⟨by simp; omega, ?_⟩
        repeat (first | refine OpsA.cons ?_ | refine OpsA.nil ?_ | refine OrdK.cons rfl ?_ | refine OrdK.nil ?_ | refine Run.textA C_ok (aopC_sound C_ok) ?_ | refine And.intro rfl ?_ | refine And.intro (Nat.le_of_ble_eq_true rfl) ?_ | refine And.intro (Int.natCast_nonneg _) ?_ | refine fun (_ : Nat) => ?_ | refine Run.go rfl ?_ | refine Cont.go rfl ?_)
        rename_i g' Cp'
        repeat (first | refine OpsA.cons ?_ | refine OpsA.nil ?_ | refine OrdK.cons rfl ?_ | refine OrdK.nil ?_ | refine Run.textA C_ok (aopC_sound C_ok) ?_ | refine And.intro rfl ?_ | refine And.intro (Nat.le_of_ble_eq_true rfl) ?_ | refine And.intro (Int.natCast_nonneg _) ?_ | refine fun (_ : Nat) => ?_ | refine Run.go rfl ?_ | refine Cont.go rfl ?_)
        refine fun r hr => ?_
        obtain rfl := add1 hr (by omega)
        repeat (first | refine OpsA.cons ?_ | refine OpsA.nil ?_ | refine OrdK.cons rfl ?_ | refine OrdK.nil ?_ | refine Run.textA C_ok (aopC_sound C_ok) ?_ | refine And.intro rfl ?_ | refine And.intro (Nat.le_of_ble_eq_true rfl) ?_ | refine And.intro (Int.natCast_nonneg _) ?_ | refine fun (_ : Nat) => ?_ | refine Run.go rfl ?_ | refine Cont.go rfl ?_)
        refine Cont.lpW ?_
        refine ⟨cs.length - (i + 1), _, _, by omega, Weak.sel ?_ [0] (by decide) ?_, ⟨i + 1, ys ++ [chN c], s2, g', Cp', .sl 0 g' Cp' ((ys.map encN).length + 1), .row tN 3 Cp' (ys.map encN ++ [encN (chN c)]), rfl, by omega, (List.perm_append_comm.trans (hys.cons _)).trans k4.symm, hn2, hf2, by simp; omega, by simp, by simp, rfl, rfl⟩⟩
        · repeat (first | exact trivial | refine And.intro (Sub.junk _) ?_ | refine And.intro (Sub.refl _) ?_ | refine And.intro (Sub.sl _ _ _ _ _) ?_ | refine And.intro (Sub.ptr _ _ _ _) ?_)
        · repeat (first | exact trivial | refine And.intro rfl ?_ | refine And.intro (SubO.refl _) ?_ | refine And.intro trivial ?_ | refine And.intro (SubO.cells (by repeat (first | exact trivial | refine And.intro (Sub.refl _) ?_ | refine And.intro (Sub.sl _ _ _ _ _) ?_ | refine And.intro (Sub.ptr _ _ _ _) ?_))) ?_)
      · obtain ⟨j, ej, hj⟩ := idx_there hny (hys.mem_iff.2 hx)
        rw [k2] at hj
        have hjl : j < ys.length := (List.getElem?_eq_some_iff.1 ej).1
        rw [hj]
        refine ⟨fun h => absurd (k1.symm.trans h) (by decide), fun _ => ?_⟩
        repeat (first | refine OpsA.cons ?_ | refine OpsA.nil ?_ | refine OrdK.cons rfl ?_ | refine OrdK.nil ?_ | refine Run.textA C_ok (aopC_sound C_ok) ?_ | refine And.intro rfl ?_ | refine And.intro (Nat.le_of_ble_eq_true rfl) ?_ | refine And.intro (Int.natCast_nonneg _) ?_ | refine fun (_ : Nat) => ?_ | refine Run.go rfl ?_ | refine Cont.go rfl ?_)
        refine ⟨fun _ => ?_, fun h => absurd k1 h⟩
        repeat (first | refine OpsA.cons ?_ | refine OpsA.nil ?_ | refine OrdK.cons rfl ?_ | refine OrdK.nil ?_ | refine Run.textA C_ok (aopC_sound C_ok) ?_ | refine And.intro rfl ?_ | refine And.intro (Nat.le_of_ble_eq_true rfl) ?_ | refine And.intro (Int.natCast_nonneg _) ?_ | refine fun (_ : Nat) => ?_ | refine Run.go rfl ?_ | refine Cont.go rfl ?_)
        refine Run.drawnK C_ok (aopC_sound C_ok) [0, 1] [0, 1, 2, 3, 4, 5, 6, 7, 8, 9, 10, 11, 12] (by kernel_rfl) ?_
        repeat (first | refine OpsA.cons ?_ | refine OpsA.nil ?_ | refine OrdK.cons rfl ?_ | refine OrdK.nil ?_ | refine Run.textA C_ok (aopC_sound C_ok) ?_ | refine And.intro rfl ?_ | refine And.intro (Nat.le_of_ble_eq_true rfl) ?_ | refine And.intro (Int.natCast_nonneg _) ?_ | refine fun (_ : Nat) => ?_ | refine Run.go rfl ?_ | refine Cont.go rfl ?_)
        refine ⟨fun h => absurd h (show ¬ (j : Int) < 0 by omega), fun _ => ?_⟩
        repeat (first | refine OpsA.cons ?_ | refine OpsA.nil ?_ | refine OrdK.cons rfl ?_ | refine OrdK.nil ?_ | refine Run.textA C_ok (aopC_sound C_ok) ?_ | refine And.intro rfl ?_ | refine And.intro (Nat.le_of_ble_eq_true rfl) ?_ | refine And.intro (Int.natCast_nonneg _) ?_ | refine fun (_ : Nat) => ?_ | refine Run.go rfl ?_ | refine Cont.go rfl ?_)
        refine ⟨show (j : Int) < (ys.length : Int) by omega, ?_⟩
        repeat (first | refine OpsA.cons ?_ | refine OpsA.nil ?_ | refine OrdK.cons rfl ?_ | refine OrdK.nil ?_ | refine Run.textA C_ok (aopC_sound C_ok) ?_ | refine And.intro rfl ?_ | refine And.intro (Nat.le_of_ble_eq_true rfl) ?_ | refine And.intro (Int.natCast_nonneg _) ?_ | refine fun (_ : Nat) => ?_ | refine Run.go rfl ?_ | refine Cont.go rfl ?_)
        refine ⟨encN x, map_at encN ej, ?_⟩
        repeat (first | refine OpsA.cons ?_ | refine OpsA.nil ?_ | refine OrdK.cons rfl ?_ | refine OrdK.nil ?_ | refine Run.textA C_ok (aopC_sound C_ok) ?_ | refine And.intro rfl ?_ | refine And.intro (Nat.le_of_ble_eq_true rfl) ?_ | refine And.intro (Int.natCast_nonneg _) ?_ | refine fun (_ : Nat) => ?_ | refine Run.go rfl ?_ | refine Cont.go rfl ?_)
        refine fun r hr => ?_
        obtain rfl : r = x.v + 1 := by rw [hr, IntKind.wrap_i64]; omega
        repeat (first | refine OpsA.cons ?_ | refine OpsA.nil ?_ | refine OrdK.cons rfl ?_ | refine OrdK.nil ?_ | refine Run.textA C_ok (aopC_sound C_ok) ?_ | refine And.intro rfl ?_ | refine And.intro (Nat.le_of_ble_eq_true rfl) ?_ | refine And.intro (Int.natCast_nonneg _) ?_ | refine fun (_ : Nat) => ?_ | refine Run.go rfl ?_ | refine Cont.go rfl ?_)
        refine ⟨fun h => absurd k3 h, fun _ => ?_⟩
        repeat (first | refine OpsA.cons ?_ | refine OpsA.nil ?_ | refine OrdK.cons rfl ?_ | refine OrdK.nil ?_ | refine Run.textA C_ok (aopC_sound C_ok) ?_ | refine And.intro rfl ?_ | refine And.intro (Nat.le_of_ble_eq_true rfl) ?_ | refine And.intro (Int.natCast_nonneg _) ?_ | refine fun (_ : Nat) => ?_ | refine Run.go rfl ?_ | refine Cont.go rfl ?_)
        refine ⟨show (j : Int) < (ys.length : Int) by omega, ?_⟩
        repeat (first | refine OpsA.cons ?_ | refine OpsA.nil ?_ | refine OrdK.cons rfl ?_ | refine OrdK.nil ?_ | refine Run.textA C_ok (aopC_sound C_ok) ?_ | refine And.intro rfl ?_ | refine And.intro (Nat.le_of_ble_eq_true rfl) ?_ | refine And.intro (Int.natCast_nonneg _) ?_ | refine fun (_ : Nat) => ?_ | refine Run.go rfl ?_ | refine Cont.go rfl ?_)
        refine ⟨encN x, map_at encN ej, ?_⟩
        repeat (first | refine OpsA.cons ?_ | refine OpsA.nil ?_ | refine OrdK.cons rfl ?_ | refine OrdK.nil ?_ | refine Run.textA C_ok (aopC_sound C_ok) ?_ | refine And.intro rfl ?_ | refine And.intro (Nat.le_of_ble_eq_true rfl) ?_ | refine And.intro (Int.natCast_nonneg _) ?_ | refine fun (_ : Nat) => ?_ | refine Run.go rfl ?_ | refine Cont.go rfl ?_)
        refine fun r hr => ?_
        obtain rfl := add1 hr (by omega)
        repeat (first | refine OpsA.cons ?_ | refine OpsA.nil ?_ | refine OrdK.cons rfl ?_ | refine OrdK.nil ?_ | refine Run.textA C_ok (aopC_sound C_ok) ?_ | refine And.intro rfl ?_ | refine And.intro (Nat.le_of_ble_eq_true rfl) ?_ | refine And.intro (Int.natCast_nonneg _) ?_ | refine fun (_ : Nat) => ?_ | refine Run.go rfl ?_ | refine Cont.go rfl ?_)
        refine Cont.lpW ?_
        refine ⟨cs.length - (i + 1), _, _, by omega, Weak.sel ?_ [0] (by decide) ?_, ⟨i + 1, ys.set j (chN c), s2, g, Cp, .sl 0 g Cp ys.length, .row tN 3 Cp ((ys.map encN).set j (encN (chN c))), rfl, by omega, (set_perm hjl (chN c)).trans (k4 _ (hys.symm.trans (out_perm ej))).symm, hn2, hf2, by rw [List.length_set]; omega, by rw [List.length_set], by rw [List.map_set], rfl, rfl⟩⟩
        · repeat (first | exact trivial | refine And.intro (Sub.junk _) ?_ | refine And.intro (Sub.refl _) ?_ | refine And.intro (Sub.sl _ _ _ _ _) ?_ | refine And.intro (Sub.ptr _ _ _ _) ?_)
        · repeat (first | exact trivial | refine And.intro rfl ?_ | refine And.intro (SubO.refl _) ?_ | refine And.intro trivial ?_ | refine And.intro (SubO.cells (by repeat (first | exact trivial | refine And.intro (Sub.refl _) ?_ | refine And.intro (Sub.sl _ _ _ _ _) ?_ | refine And.intro (Sub.ptr _ _ _ _) ?_))) ?_)
      · obtain ⟨j, ej, hj⟩ := idx_there hny (hys.mem_iff.2 hx)
        rw [k3] at hj
        have hjl : j < ys.length := (List.getElem?_eq_some_iff.1 ej).1
        rw [hj]
        refine ⟨fun h => absurd (k1.symm.trans h) (by decide), fun _ => ?_⟩
        repeat (first | refine OpsA.cons ?_ | refine OpsA.nil ?_ | refine OrdK.cons rfl ?_ | refine OrdK.nil ?_ | refine Run.textA C_ok (aopC_sound C_ok) ?_ | refine And.intro rfl ?_ | refine And.intro (Nat.le_of_ble_eq_true rfl) ?_ | refine And.intro (Int.natCast_nonneg _) ?_ | refine fun (_ : Nat) => ?_ | refine Run.go rfl ?_ | refine Cont.go rfl ?_)
        refine ⟨fun h => absurd (k1.symm.trans h) (by decide), fun _ => ?_⟩
        repeat (first | refine OpsA.cons ?_ | refine OpsA.nil ?_ | refine OrdK.cons rfl ?_ | refine OrdK.nil ?_ | refine Run.textA C_ok (aopC_sound C_ok) ?_ | refine And.intro rfl ?_ | refine And.intro (Nat.le_of_ble_eq_true rfl) ?_ | refine And.intro (Int.natCast_nonneg _) ?_ | refine fun (_ : Nat) => ?_ | refine Run.go rfl ?_ | refine Cont.go rfl ?_)
        refine ⟨fun _ => ?_, fun h => absurd k1 h⟩
        repeat (first | refine OpsA.cons ?_ | refine OpsA.nil ?_ | refine OrdK.cons rfl ?_ | refine OrdK.nil ?_ | refine Run.textA C_ok (aopC_sound C_ok) ?_ | refine And.intro rfl ?_ | refine And.intro (Nat.le_of_ble_eq_true rfl) ?_ | refine And.intro (Int.natCast_nonneg _) ?_ | refine fun (_ : Nat) => ?_ | refine Run.go rfl ?_ | refine Cont.go rfl ?_)
        refine Run.drawnK C_ok (aopC_sound C_ok) [0, 1] [0, 1, 2, 3, 4, 5, 6, 7, 8, 9, 10, 11, 12, 13, 14, 15, 16] (by kernel_rfl) ?_
        repeat (first | refine OpsA.cons ?_ | refine OpsA.nil ?_ | refine OrdK.cons rfl ?_ | refine OrdK.nil ?_ | refine Run.textA C_ok (aopC_sound C_ok) ?_ | refine And.intro rfl ?_ | refine And.intro (Nat.le_of_ble_eq_true rfl) ?_ | refine And.intro (Int.natCast_nonneg _) ?_ | refine fun (_ : Nat) => ?_ | refine Run.go rfl ?_ | refine Cont.go rfl ?_)
        refine ⟨fun h => absurd h (show ¬ (j : Int) < 0 by omega), fun _ => ?_⟩
        repeat (first | refine OpsA.cons ?_ | refine OpsA.nil ?_ | refine OrdK.cons rfl ?_ | refine OrdK.nil ?_ | refine Run.textA C_ok (aopC_sound C_ok) ?_ | refine And.intro rfl ?_ | refine And.intro (Nat.le_of_ble_eq_true rfl) ?_ | refine And.intro (Int.natCast_nonneg _) ?_ | refine fun (_ : Nat) => ?_ | refine Run.go rfl ?_ | refine Cont.go rfl ?_)
        refine ⟨show (j : Int) < (ys.length : Int) by omega, ?_⟩
        repeat (first | refine OpsA.cons ?_ | refine OpsA.nil ?_ | refine OrdK.cons rfl ?_ | refine OrdK.nil ?_ | refine Run.textA C_ok (aopC_sound C_ok) ?_ | refine And.intro rfl ?_ | refine And.intro (Nat.le_of_ble_eq_true rfl) ?_ | refine And.intro (Int.natCast_nonneg _) ?_ | refine fun (_ : Nat) => ?_ | refine Run.go rfl ?_ | refine Cont.go rfl ?_)
        refine ⟨encN x, map_at encN ej, ?_⟩
        repeat (first | refine OpsA.cons ?_ | refine OpsA.nil ?_ | refine OrdK.cons rfl ?_ | refine OrdK.nil ?_ | refine Run.textA C_ok (aopC_sound C_ok) ?_ | refine And.intro rfl ?_ | refine And.intro (Nat.le_of_ble_eq_true rfl) ?_ | refine And.intro (Int.natCast_nonneg _) ?_ | refine fun (_ : Nat) => ?_ | refine Run.go rfl ?_ | refine Cont.go rfl ?_)
        refine ⟨fun h => absurd k4 h, fun _ => ?_⟩
        repeat (first | refine OpsA.cons ?_ | refine OpsA.nil ?_ | refine OrdK.cons rfl ?_ | refine OrdK.nil ?_ | refine Run.textA C_ok (aopC_sound C_ok) ?_ | refine And.intro rfl ?_ | refine And.intro (Nat.le_of_ble_eq_true rfl) ?_ | refine And.intro (Int.natCast_nonneg _) ?_ | refine fun (_ : Nat) => ?_ | refine Run.go rfl ?_ | refine Cont.go rfl ?_)
        refine ⟨fun h => absurd k2 h, fun _ => ?_⟩
        obtain ⟨z, ez⟩ : ∃ z, ys[ys.length - 1]? = some z := ⟨_, List.getElem?_eq_getElem (by omega)⟩
        repeat (first | refine OpsA.cons ?_ | refine OpsA.nil ?_ | refine OrdK.cons rfl ?_ | refine OrdK.nil ?_ | refine Run.textA C_ok (aopC_sound C_ok) ?_ | refine And.intro rfl ?_ | refine And.intro (Nat.le_of_ble_eq_true rfl) ?_ | refine And.intro (Int.natCast_nonneg _) ?_ | refine fun (_ : Nat) => ?_ | refine Run.go rfl ?_ | refine Cont.go rfl ?_)
        refine fun r hr => ?_
        obtain rfl : r = ((ys.length - 1 : Nat) : Int) := by rw [hr, IntKind.wrap_i64]; omega
        repeat (first | refine OpsA.cons ?_ | refine OpsA.nil ?_ | refine OrdK.cons rfl ?_ | refine OrdK.nil ?_ | refine Run.textA C_ok (aopC_sound C_ok) ?_ | refine And.intro rfl ?_ | refine And.intro (Nat.le_of_ble_eq_true rfl) ?_ | refine And.intro (Int.natCast_nonneg _) ?_ | refine fun (_ : Nat) => ?_ | refine Run.go rfl ?_ | refine Cont.go rfl ?_)
        refine ⟨show ((ys.length - 1 : Nat) : Int) < (ys.length : Int) by omega, ?_⟩
        repeat (first | refine OpsA.cons ?_ | refine OpsA.nil ?_ | refine OrdK.cons rfl ?_ | refine OrdK.nil ?_ | refine Run.textA C_ok (aopC_sound C_ok) ?_ | refine And.intro rfl ?_ | refine And.intro (Nat.le_of_ble_eq_true rfl) ?_ | refine And.intro (Int.natCast_nonneg _) ?_ | refine fun (_ : Nat) => ?_ | refine Run.go rfl ?_ | refine Cont.go rfl ?_)
        refine ⟨encN z, map_at encN ez, ?_⟩
        repeat (first | refine OpsA.cons ?_ | refine OpsA.nil ?_ | refine OrdK.cons rfl ?_ | refine OrdK.nil ?_ | refine Run.textA C_ok (aopC_sound C_ok) ?_ | refine And.intro rfl ?_ | refine And.intro (Nat.le_of_ble_eq_true rfl) ?_ | refine And.intro (Int.natCast_nonneg _) ?_ | refine fun (_ : Nat) => ?_ | refine Run.go rfl ?_ | refine Cont.go rfl ?_)
        refine ⟨show (j : Int) < (ys.length : Int) by omega, ?_⟩
        repeat (first | refine OpsA.cons ?_ | refine OpsA.nil ?_ | refine OrdK.cons rfl ?_ | refine OrdK.nil ?_ | refine Run.textA C_ok (aopC_sound C_ok) ?_ | refine And.intro rfl ?_ | refine And.intro (Nat.le_of_ble_eq_true rfl) ?_ | refine And.intro (Int.natCast_nonneg _) ?_ | refine fun (_ : Nat) => ?_ | refine Run.go rfl ?_ | refine Cont.go rfl ?_)
        refine ⟨encN x, map_at encN ej, ?_⟩
        repeat (first | refine OpsA.cons ?_ | refine OpsA.nil ?_ | refine OrdK.cons rfl ?_ | refine OrdK.nil ?_ | refine Run.textA C_ok (aopC_sound C_ok) ?_ | refine And.intro rfl ?_ | refine And.intro (Nat.le_of_ble_eq_true rfl) ?_ | refine And.intro (Int.natCast_nonneg _) ?_ | refine fun (_ : Nat) => ?_ | refine Run.go rfl ?_ | refine Cont.go rfl ?_)
        refine fun r hr => ?_
        obtain rfl : r = ((ys.length - 1 : Nat) : Int) := by rw [hr, IntKind.wrap_i64]; omega
        repeat (first | refine OpsA.cons ?_ | refine OpsA.nil ?_ | refine OrdK.cons rfl ?_ | refine OrdK.nil ?_ | refine Run.textA C_ok (aopC_sound C_ok) ?_ | refine And.intro rfl ?_ | refine And.intro (Nat.le_of_ble_eq_true rfl) ?_ | refine And.intro (Int.natCast_nonneg _) ?_ | refine fun (_ : Nat) => ?_ | refine Run.go rfl ?_ | refine Cont.go rfl ?_)
        refine ⟨by rw [List.length_set, List.length_map]; omega, ?_⟩
        repeat (first | refine OpsA.cons ?_ | refine OpsA.nil ?_ | refine OrdK.cons rfl ?_ | refine OrdK.nil ?_ | refine Run.textA C_ok (aopC_sound C_ok) ?_ | refine And.intro rfl ?_ | refine And.intro (Nat.le_of_ble_eq_true rfl) ?_ | refine And.intro (Int.natCast_nonneg _) ?_ | refine fun (_ : Nat) => ?_ | refine Run.go rfl ?_ | refine Cont.go rfl ?_)
        refine fun r hr => ?_
        obtain rfl := add1 hr (by omega)
        repeat (first | refine OpsA.cons ?_ | refine OpsA.nil ?_ | refine OrdK.cons rfl ?_ | refine OrdK.nil ?_ | refine Run.textA C_ok (aopC_sound C_ok) ?_ | refine And.intro rfl ?_ | refine And.intro (Nat.le_of_ble_eq_true rfl) ?_ | refine And.intro (Int.natCast_nonneg _) ?_ | refine fun (_ : Nat) => ?_ | refine Run.go rfl ?_ | refine Cont.go rfl ?_)
        refine Cont.lpW ?_
        have hsw := swap_perm (z := z) hjl ez
        have hlen : ((ys.set j z).take (ys.length - 1)).length = ys.length - 1 := by rw [List.length_take, List.length_set]; omega
        refine ⟨cs.length - (i + 1), _, _, by omega, Weak.sel ?_ [0] (by decide) ?_, ⟨i + 1, (ys.set j z).take (ys.length - 1), s2, g, Cp, .sl 0 g Cp (ys.length - 1), .row tN 3 Cp (((ys.map encN).set j (encN z)).take (ys.length - 1)), rfl, by omega, hsw.trans (k5 _ (hys.symm.trans (out_perm ej))).symm, hn2, hf2, by omega, by rw [hlen], by rw [List.map_take, List.map_set], rfl, rfl⟩⟩
        · repeat (first | exact trivial | refine And.intro (Sub.junk _) ?_ | refine And.intro (Sub.refl _) ?_ | refine And.intro (Sub.sl _ _ _ _ _) ?_ | refine And.intro (Sub.ptr _ _ _ _) ?_)
        · exact ⟨rfl, SubO.rowT _ _ _ _ (ys.length - 1), trivial⟩
  · have h : ¬ (i : Int) < (cs.length : Int) := h
    rw [List.drop_of_length_le (by omega)] at hf1
    cases hf1 with
    | nil hf1 =>
      repeat (first | refine OpsA.cons ?_ | refine OpsA.nil ?_ | refine Run.textA C_ok (aopC_sound C_ok) ?_ | refine And.intro rfl ?_ | refine And.intro (Nat.le_of_ble_eq_true rfl) ?_ | refine And.intro (Int.natCast_nonneg _) ?_ | refine fun (_ : Nat) => ?_ | refine Run.go rfl ?_ | refine Cont.go rfl ?_)
      exact ⟨.tuple [.sl 0 g Cp ys.length, .bool true], _, FinOk.keep _ [0] (Sub.refl _) (by decide) rfl, ys, g, Cp, hys.trans hf1.symm, rfl, rfl⟩
end Go.Proofs.YtiikjcdjgmlcgaaGreatDoor.HBT
/- The law TreeTells, walked. -/
namespace Go.Proofs.YtiikjcdjgmlcgaaGreatDoor.HBT
open Go Go.Proofs.YtiikjcdjgmlcgaaGreatDoor.HB Go.RowKit
set_option maxRecDepth 8000

set_option maxHeartbeats 4000000 in
theorem part_own (gt gm : Nat) {l : List Fu} {es : Array MapEntry} {cl : Nat} (hT : TM l es cl) (hI : TInv l) (a : ByteArray) (kd : Int) (hE : partE a kd = 0) (hne : partF l a kd ≠ []) :
    FnSpec C 25 [.ptr 0 gt 0, .str a, .int .i64 kd] (TreeL gt gm es cl) (fun r L' => ∃ g Cp, r = .tuple [.sl 2 g Cp (partF l a kd).length, .int .i64 0] ∧ L' = TreeL gt gm es cl ++ [(g, .row tN 3 Cp ((partF l a kd).map encN))]) := by
  have hL := hI.len
  refine FnSpec.start C_ok Tryz.func25 rfl rfl Tryz.ntmps25 ?_
  repeat (first | refine OpsA.cons ?_ | refine OpsA.nil ?_ | refine Run.textA C_ok (aopC_sound C_ok) ?_ | refine And.intro rfl ?_ | refine And.intro (Nat.le_of_ble_eq_true rfl) ?_ | refine And.intro (Int.natCast_nonneg _) ?_ | refine fun (_ : Nat) => ?_ | refine Run.go rfl ?_ | refine Cont.go rfl ?_)
  refine ACallT.ok (ACall.sel [0] (by decide) [.ptr 0 gt 0] _ (.one (Sub.refl _)) (none_spec gt (some gm)) ?_)
  rintro r L' ⟨rfl, rfl⟩
  refine ⟨.bool false, Sub.refl _, ?_⟩
  repeat (first | refine OpsA.cons ?_ | refine OpsA.nil ?_ | refine Run.textA C_ok (aopC_sound C_ok) ?_ | refine And.intro rfl ?_ | refine And.intro (Nat.le_of_ble_eq_true rfl) ?_ | refine And.intro (Int.natCast_nonneg _) ?_ | refine fun (_ : Nat) => ?_ | refine Run.go rfl ?_ | refine Cont.go rfl ?_)
  refine ACallT.ok (ACall.ret (parse_code a) ?_)
  repeat (first | refine OpsA.cons ?_ | refine OpsA.nil ?_ | refine Run.textA C_ok (aopC_sound C_ok) ?_ | refine And.intro rfl ?_ | refine And.intro (Nat.le_of_ble_eq_true rfl) ?_ | refine And.intro (Int.natCast_nonneg _) ?_ | refine fun (_ : Nat) => ?_ | refine Run.go rfl ?_ | refine Cont.go rfl ?_)
  have hp : parseE a = 0 := Classical.byContradiction fun h => by unfold partE at hE; rw [if_pos h] at hE; cases hE
  have hk : ¬ (kd < 1 ∨ 3 < kd) := fun h => by unfold partE at hE; rw [if_neg (fun e => e hp), if_pos h] at hE; cases hE
  refine ⟨fun h => absurd hp h, fun _ => ?_⟩
  repeat (first | refine OpsA.cons ?_ | refine OpsA.nil ?_ | refine Run.textA C_ok (aopC_sound C_ok) ?_ | refine And.intro rfl ?_ | refine And.intro (Nat.le_of_ble_eq_true rfl) ?_ | refine And.intro (Int.natCast_nonneg _) ?_ | refine fun (_ : Nat) => ?_ | refine Run.go rfl ?_ | refine Cont.go rfl ?_)
  refine ⟨fun h => absurd (show kd < 1 from h) (by omega), fun _ => ?_⟩
  repeat (first | refine OpsA.cons ?_ | refine OpsA.nil ?_ | refine Run.textA C_ok (aopC_sound C_ok) ?_ | refine And.intro rfl ?_ | refine And.intro (Nat.le_of_ble_eq_true rfl) ?_ | refine And.intro (Int.natCast_nonneg _) ?_ | refine fun (_ : Nat) => ?_ | refine Run.go rfl ?_ | refine Cont.go rfl ?_)
  refine ⟨fun h => absurd (show 3 < kd from h) (by omega), fun _ => ?_⟩
  repeat (first | refine OpsA.cons ?_ | refine OpsA.nil ?_ | refine Run.textA C_ok (aopC_sound C_ok) ?_ | refine And.intro rfl ?_ | refine And.intro (Nat.le_of_ble_eq_true rfl) ?_ | refine And.intro (Int.natCast_nonneg _) ?_ | refine fun (_ : Nat) => ?_ | refine Run.go rfl ?_ | refine Cont.go rfl ?_)
  refine ACallT.ok (ACall.sel [0, 1] (by decide) [.ptr 0 gt 0] _ (.one (Sub.refl _)) (nodes_spec gt gm hT hI) ?_)
  rintro r L' ⟨gn, Cn, rfl, rfl⟩
  refine ⟨.sl 2 gn Cn l.length, Sub.refl _, ?_⟩
  repeat (first | refine OpsA.cons ?_ | refine OpsA.nil ?_ | refine Run.textA C_ok (aopC_sound C_ok) ?_ | refine And.intro rfl ?_ | refine And.intro (Nat.le_of_ble_eq_true rfl) ?_ | refine And.intro (Int.natCast_nonneg _) ?_ | refine fun (_ : Nat) => ?_ | refine Run.go rfl ?_ | refine Cont.go rfl ?_)
  refine Run.loopW (fun k env L => ∃ (i : Nat) (v : AV) (gk : Nat) (o : AObj), k = l.length - i ∧ i ≤ l.length ∧ LS3 3 (partF (l.take i) a kd) v gk o ∧ env = [.junk, .str a, .int .i64 kd, .junk, .junk, .junk, .junk, .junk, .junk, .junk, v, .junk, .junk, .junk, .junk, .junk, .junk, .junk, .junk, .junk, .junk, .junk, .junk, .junk, .junk, .junk, .junk, .junk, .junk, .junk, .sl 2 gn Cn l.length, .int .i64 l.length, .int .i64 i, .junk, .junk, .junk, .junk, .junk, .junk, .junk, .junk, .junk, .junk, .junk, .junk, .junk, .junk, .junk, .junk, .junk, .junk, .junk, .junk, .junk, .junk, .junk, .junk, .junk, .junk, .junk] ∧ L = [(gt, .cells tT [.any (.map (some gm))]), (gm, .obj (.map es cl)), (gn, .row tX 7 Cn (l.map encX)), (gk, o)]) l.length
    [.junk, .str a, .int .i64 kd, .junk, .junk, .junk, .junk, .junk, .junk, .junk, .nils, .junk, .junk, .junk, .junk, .junk, .junk, .junk, .junk, .junk, .junk, .junk, .junk, .junk, .junk, .junk, .junk, .junk, .junk, .junk, .sl 2 gn Cn l.length, .int .i64 l.length, .int .i64 (0 : Nat), .junk, .junk, .junk, .junk, .junk, .junk, .junk, .junk, .junk, .junk, .junk, .junk, .junk, .junk, .junk, .junk, .junk, .junk, .junk, .junk, .junk, .junk, .junk, .junk, .junk, .junk, .junk] [(gt, .cells tT [.any (.map (some gm))]), (gm, .obj (.map es cl)), (gn, .row tX 7 Cn (l.map encX)), (0, .dead)] (Weak.sel ?_ [0, 1, 2, 9] (by decide) ?_) ⟨0, .nils, 0, .dead, by omega, by omega, .inl ⟨rfl, rfl, rfl⟩, rfl, rfl⟩ ?_
  · repeat (first | exact trivial | refine And.intro (Sub.junk _) ?_ | refine And.intro (Sub.refl _) ?_ | refine And.intro (Sub.sl _ _ _ _ _) ?_ | refine And.intro (Sub.ptr _ _ _ _) ?_)
  · repeat (first | exact trivial | refine And.intro rfl ?_ | refine And.intro (SubO.refl _) ?_ | refine And.intro trivial ?_ | refine And.intro (SubO.cells (by repeat (first | exact trivial | refine And.intro (Sub.refl _) ?_ | refine And.intro (Sub.sl _ _ _ _ _) ?_ | refine And.intro (Sub.ptr _ _ _ _) ?_))) ?_)
  rintro k env L ⟨i, v, gk, o, rfl, hi, hv, rfl, rfl⟩
  repeat (first | refine OpsA.cons ?_ | refine OpsA.nil ?_ | refine Run.textA C_ok (aopC_sound C_ok) ?_ | refine And.intro rfl ?_ | refine And.intro (Nat.le_of_ble_eq_true rfl) ?_ | refine And.intro (Int.natCast_nonneg _) ?_ | refine fun (_ : Nat) => ?_ | refine Run.go rfl ?_ | refine Cont.go rfl ?_)
  refine ⟨fun h => ?_, fun h => ?_⟩
  · have h : (i : Int) < (l.length : Int) := h
    obtain ⟨x, ex⟩ : ∃ x, l[i]? = some x := ⟨_, List.getElem?_eq_getElem (by omega)⟩
    have hm := part_more ex a kd
    have hml := part_len (l.take i) a kd
    rw [List.length_take] at hml
    generalize partF (l.take i) a kd = m at hv hm hml
    repeat (first | refine OpsA.cons ?_ | refine OpsA.nil ?_ | refine Run.textA C_ok (aopC_sound C_ok) ?_ | refine And.intro rfl ?_ | refine And.intro (Nat.le_of_ble_eq_true rfl) ?_ | refine And.intro (Int.natCast_nonneg _) ?_ | refine fun (_ : Nat) => ?_ | refine Run.go rfl ?_ | refine Cont.go rfl ?_)
    refine ⟨h, ?_⟩
    repeat (first | refine OpsA.cons ?_ | refine OpsA.nil ?_ | refine Run.textA C_ok (aopC_sound C_ok) ?_ | refine And.intro rfl ?_ | refine And.intro (Nat.le_of_ble_eq_true rfl) ?_ | refine And.intro (Int.natCast_nonneg _) ?_ | refine fun (_ : Nat) => ?_ | refine Run.go rfl ?_ | refine Cont.go rfl ?_)
    refine ⟨encX x, map_at encX ex, ?_⟩
    repeat (first | refine OpsA.cons ?_ | refine OpsA.nil ?_ | refine Run.textA C_ok (aopC_sound C_ok) ?_ | refine And.intro rfl ?_ | refine And.intro (Nat.le_of_ble_eq_true rfl) ?_ | refine And.intro (Int.natCast_nonneg _) ?_ | refine fun (_ : Nat) => ?_ | refine Run.go rfl ?_ | refine Cont.go rfl ?_)
    refine ACallT.ok (ACall.ret (covers_spec kd a 1 x.p) ?_)
    by_cases hc : coversP kd a 1 x.p
    · rw [decide_eq_true hc]
      rw [if_pos hc] at hm
      repeat (first | refine OpsA.cons ?_ | refine OpsA.nil ?_ | refine Run.textA C_ok (aopC_sound C_ok) ?_ | refine And.intro rfl ?_ | refine And.intro (Nat.le_of_ble_eq_true rfl) ?_ | refine And.intro (Int.natCast_nonneg _) ?_ | refine fun (_ : Nat) => ?_ | refine Run.go rfl ?_ | refine Cont.go rfl ?_)
      refine ⟨fun h2 => ?_, fun h2 => ?_⟩
      · have h2 : kd = 2 := h2
        have es : seenX kd x = ⟨x.p, eS, 0⟩ := by unfold seenX; rw [if_pos h2]
        rw [es] at hm
        repeat (first | refine OpsA.cons ?_ | refine OpsA.nil ?_ | refine Run.textA C_ok (aopC_sound C_ok) ?_ | refine And.intro rfl ?_ | refine And.intro (Nat.le_of_ble_eq_true rfl) ?_ | refine And.intro (Int.natCast_nonneg _) ?_ | refine fun (_ : Nat) => ?_ | refine Run.go rfl ?_ | refine Cont.go rfl ?_)
        rcases hv with ⟨e0, rfl, rfl⟩ | ⟨Cp, rfl, rfl⟩
        · repeat (first | refine OpsA.cons ?_ | refine OpsA.nil ?_ | refine Run.textA C_ok (aopC_sound C_ok) ?_ | refine And.intro rfl ?_ | refine And.intro (Nat.le_of_ble_eq_true rfl) ?_ | refine And.intro (Int.natCast_nonneg _) ?_ | refine fun (_ : Nat) => ?_ | refine Run.go rfl ?_ | refine Cont.go rfl ?_)
          refine ⟨fun h => absurd h (List.cons_ne_nil _ _), fun _ => ?_⟩
          repeat (first | refine OpsA.cons ?_ | refine OpsA.nil ?_ | refine Run.textA C_ok (aopC_sound C_ok) ?_ | refine And.intro rfl ?_ | refine And.intro (Nat.le_of_ble_eq_true rfl) ?_ | refine And.intro (Int.natCast_nonneg _) ?_ | refine fun (_ : Nat) => ?_ | refine Run.go rfl ?_ | refine Cont.go rfl ?_)
          rename_i g' Cp'
          refine fun r hr => ?_
          obtain rfl := add1 hr (by omega)
          repeat (first | refine OpsA.cons ?_ | refine OpsA.nil ?_ | refine Run.textA C_ok (aopC_sound C_ok) ?_ | refine And.intro rfl ?_ | refine And.intro (Nat.le_of_ble_eq_true rfl) ?_ | refine And.intro (Int.natCast_nonneg _) ?_ | refine fun (_ : Nat) => ?_ | refine Run.go rfl ?_ | refine Cont.go rfl ?_)
          refine Cont.lpW ?_
          refine ⟨l.length - (i + 1), _, _, by omega, Weak.sel ?_ [0, 1, 2, 7] (by decide) ?_, ⟨i + 1, .sl 3 g' Cp' 1, g', _, rfl, by omega, hm.symm ▸ LN.one e0, rfl, rfl⟩⟩
          · repeat (first | exact trivial | refine And.intro (Sub.junk _) ?_ | refine And.intro (Sub.refl _) ?_ | refine And.intro (Sub.sl _ _ _ _ _) ?_ | refine And.intro (Sub.ptr _ _ _ _) ?_)
          · repeat (first | exact trivial | refine And.intro rfl ?_ | refine And.intro (SubO.refl _) ?_ | refine And.intro trivial ?_ | refine And.intro (SubO.cells (by repeat (first | exact trivial | refine And.intro (Sub.refl _) ?_ | refine And.intro (Sub.sl _ _ _ _ _) ?_ | refine And.intro (Sub.ptr _ _ _ _) ?_))) ?_)
        · repeat (first | refine OpsA.cons ?_ | refine OpsA.nil ?_ | refine Run.textA C_ok (aopC_sound C_ok) ?_ | refine And.intro rfl ?_ | refine And.intro (Nat.le_of_ble_eq_true rfl) ?_ | refine And.intro (Int.natCast_nonneg _) ?_ | refine fun (_ : Nat) => ?_ | refine Run.go rfl ?_ | refine Cont.go rfl ?_)
          refine ⟨by simp, ?_⟩
          repeat (first | refine OpsA.cons ?_ | refine OpsA.nil ?_ | refine Run.textA C_ok (aopC_sound C_ok) ?_ | refine And.intro rfl ?_ | refine And.intro (Nat.le_of_ble_eq_true rfl) ?_ | refine And.intro (Int.natCast_nonneg _) ?_ | refine fun (_ : Nat) => ?_ | refine Run.go rfl ?_ | refine Cont.go rfl ?_)
          refine ⟨by simp; omega, ?_⟩
          repeat (first | refine OpsA.cons ?_ | refine OpsA.nil ?_ | refine Run.textA C_ok (aopC_sound C_ok) ?_ | refine And.intro rfl ?_ | refine And.intro (Nat.le_of_ble_eq_true rfl) ?_ | refine And.intro (Int.natCast_nonneg _) ?_ | refine fun (_ : Nat) => ?_ | refine Run.go rfl ?_ | refine Cont.go rfl ?_)
          rename_i g' Cp'
          refine fun r hr => ?_
          obtain rfl := add1 hr (by omega)
          repeat (first | refine OpsA.cons ?_ | refine OpsA.nil ?_ | refine Run.textA C_ok (aopC_sound C_ok) ?_ | refine And.intro rfl ?_ | refine And.intro (Nat.le_of_ble_eq_true rfl) ?_ | refine And.intro (Int.natCast_nonneg _) ?_ | refine fun (_ : Nat) => ?_ | refine Run.go rfl ?_ | refine Cont.go rfl ?_)
          refine Cont.lpW ?_
          refine ⟨l.length - (i + 1), _, _, by omega, Weak.sel ?_ [0, 1, 2, 3] (by decide) ?_, ⟨i + 1, .sl 3 g' Cp' ((m.map encN).length + 1), g', _, rfl, by omega, hm.symm ▸ LN.snoc, rfl, rfl⟩⟩
          · repeat (first | exact trivial | refine And.intro (Sub.junk _) ?_ | refine And.intro (Sub.refl _) ?_ | refine And.intro (Sub.sl _ _ _ _ _) ?_ | refine And.intro (Sub.ptr _ _ _ _) ?_)
          · repeat (first | exact trivial | refine And.intro rfl ?_ | refine And.intro (SubO.refl _) ?_ | refine And.intro trivial ?_ | refine And.intro (SubO.cells (by repeat (first | exact trivial | refine And.intro (Sub.refl _) ?_ | refine And.intro (Sub.sl _ _ _ _ _) ?_ | refine And.intro (Sub.ptr _ _ _ _) ?_))) ?_)
      · have h2 : ¬ kd = 2 := h2
        have es : seenX kd x = ⟨x.p, x.d, x.v⟩ := by unfold seenX; rw [if_neg h2]
        rw [es] at hm
        repeat (first | refine OpsA.cons ?_ | refine OpsA.nil ?_ | refine Run.textA C_ok (aopC_sound C_ok) ?_ | refine And.intro rfl ?_ | refine And.intro (Nat.le_of_ble_eq_true rfl) ?_ | refine And.intro (Int.natCast_nonneg _) ?_ | refine fun (_ : Nat) => ?_ | refine Run.go rfl ?_ | refine Cont.go rfl ?_)
        rcases hv with ⟨e0, rfl, rfl⟩ | ⟨Cp, rfl, rfl⟩
        · repeat (first | refine OpsA.cons ?_ | refine OpsA.nil ?_ | refine Run.textA C_ok (aopC_sound C_ok) ?_ | refine And.intro rfl ?_ | refine And.intro (Nat.le_of_ble_eq_true rfl) ?_ | refine And.intro (Int.natCast_nonneg _) ?_ | refine fun (_ : Nat) => ?_ | refine Run.go rfl ?_ | refine Cont.go rfl ?_)
          refine ⟨fun h => absurd h (List.cons_ne_nil _ _), fun _ => ?_⟩
          repeat (first | refine OpsA.cons ?_ | refine OpsA.nil ?_ | refine Run.textA C_ok (aopC_sound C_ok) ?_ | refine And.intro rfl ?_ | refine And.intro (Nat.le_of_ble_eq_true rfl) ?_ | refine And.intro (Int.natCast_nonneg _) ?_ | refine fun (_ : Nat) => ?_ | refine Run.go rfl ?_ | refine Cont.go rfl ?_)
          rename_i g' Cp'
          refine fun r hr => ?_
          obtain rfl := add1 hr (by omega)
          repeat (first | refine OpsA.cons ?_ | refine OpsA.nil ?_ | refine Run.textA C_ok (aopC_sound C_ok) ?_ | refine And.intro rfl ?_ | refine And.intro (Nat.le_of_ble_eq_true rfl) ?_ | refine And.intro (Int.natCast_nonneg _) ?_ | refine fun (_ : Nat) => ?_ | refine Run.go rfl ?_ | refine Cont.go rfl ?_)
          refine Cont.lpW ?_
          refine ⟨l.length - (i + 1), _, _, by omega, Weak.sel ?_ [0, 1, 2, 7] (by decide) ?_, ⟨i + 1, .sl 3 g' Cp' 1, g', _, rfl, by omega, hm.symm ▸ LN.one e0, rfl, rfl⟩⟩
          · repeat (first | exact trivial | refine And.intro (Sub.junk _) ?_ | refine And.intro (Sub.refl _) ?_ | refine And.intro (Sub.sl _ _ _ _ _) ?_ | refine And.intro (Sub.ptr _ _ _ _) ?_)
          · repeat (first | exact trivial | refine And.intro rfl ?_ | refine And.intro (SubO.refl _) ?_ | refine And.intro trivial ?_ | refine And.intro (SubO.cells (by repeat (first | exact trivial | refine And.intro (Sub.refl _) ?_ | refine And.intro (Sub.sl _ _ _ _ _) ?_ | refine And.intro (Sub.ptr _ _ _ _) ?_))) ?_)
        · repeat (first | refine OpsA.cons ?_ | refine OpsA.nil ?_ | refine Run.textA C_ok (aopC_sound C_ok) ?_ | refine And.intro rfl ?_ | refine And.intro (Nat.le_of_ble_eq_true rfl) ?_ | refine And.intro (Int.natCast_nonneg _) ?_ | refine fun (_ : Nat) => ?_ | refine Run.go rfl ?_ | refine Cont.go rfl ?_)
          refine ⟨by simp, ?_⟩
          repeat (first | refine OpsA.cons ?_ | refine OpsA.nil ?_ | refine Run.textA C_ok (aopC_sound C_ok) ?_ | refine And.intro rfl ?_ | refine And.intro (Nat.le_of_ble_eq_true rfl) ?_ | refine And.intro (Int.natCast_nonneg _) ?_ | refine fun (_ : Nat) => ?_ | refine Run.go rfl ?_ | refine Cont.go rfl ?_)
          refine ⟨by simp; omega, ?_⟩
          repeat (first | refine OpsA.cons ?_ | refine OpsA.nil ?_ | refine Run.textA C_ok (aopC_sound C_ok) ?_ | refine And.intro rfl ?_ | refine And.intro (Nat.le_of_ble_eq_true rfl) ?_ | refine And.intro (Int.natCast_nonneg _) ?_ | refine fun (_ : Nat) => ?_ | refine Run.go rfl ?_ | refine Cont.go rfl ?_)
          rename_i g' Cp'
          refine fun r hr => ?_
          obtain rfl := add1 hr (by omega)
          repeat (first | refine OpsA.cons ?_ | refine OpsA.nil ?_ | refine Run.textA C_ok (aopC_sound C_ok) ?_ | refine And.intro rfl ?_ | refine And.intro (Nat.le_of_ble_eq_true rfl) ?_ | refine And.intro (Int.natCast_nonneg _) ?_ | refine fun (_ : Nat) => ?_ | refine Run.go rfl ?_ | refine Cont.go rfl ?_)
          refine Cont.lpW ?_
          refine ⟨l.length - (i + 1), _, _, by omega, Weak.sel ?_ [0, 1, 2, 3] (by decide) ?_, ⟨i + 1, .sl 3 g' Cp' ((m.map encN).length + 1), g', _, rfl, by omega, hm.symm ▸ LN.snoc, rfl, rfl⟩⟩
          · repeat (first | exact trivial | refine And.intro (Sub.junk _) ?_ | refine And.intro (Sub.refl _) ?_ | refine And.intro (Sub.sl _ _ _ _ _) ?_ | refine And.intro (Sub.ptr _ _ _ _) ?_)
          · repeat (first | exact trivial | refine And.intro rfl ?_ | refine And.intro (SubO.refl _) ?_ | refine And.intro trivial ?_ | refine And.intro (SubO.cells (by repeat (first | exact trivial | refine And.intro (Sub.refl _) ?_ | refine And.intro (Sub.sl _ _ _ _ _) ?_ | refine And.intro (Sub.ptr _ _ _ _) ?_))) ?_)
    · rw [decide_eq_false hc]
      rw [if_neg hc, List.append_nil] at hm
      repeat (first | refine OpsA.cons ?_ | refine OpsA.nil ?_ | refine Run.textA C_ok (aopC_sound C_ok) ?_ | refine And.intro rfl ?_ | refine And.intro (Nat.le_of_ble_eq_true rfl) ?_ | refine And.intro (Int.natCast_nonneg _) ?_ | refine fun (_ : Nat) => ?_ | refine Run.go rfl ?_ | refine Cont.go rfl ?_)
      refine fun r hr => ?_
      obtain rfl := add1 hr (by omega)
      repeat (first | refine OpsA.cons ?_ | refine OpsA.nil ?_ | refine Run.textA C_ok (aopC_sound C_ok) ?_ | refine And.intro rfl ?_ | refine And.intro (Nat.le_of_ble_eq_true rfl) ?_ | refine And.intro (Int.natCast_nonneg _) ?_ | refine fun (_ : Nat) => ?_ | refine Run.go rfl ?_ | refine Cont.go rfl ?_)
      refine Cont.lpW ?_
      refine ⟨l.length - (i + 1), _, _, by omega, Weak.sel ?_ [0, 1, 2, 3] (by decide) ?_, ⟨i + 1, v, gk, o, rfl, by omega, hm.symm ▸ hv, rfl, rfl⟩⟩
      · repeat (first | exact trivial | refine And.intro (Sub.junk _) ?_ | refine And.intro (Sub.refl _) ?_ | refine And.intro (Sub.sl _ _ _ _ _) ?_ | refine And.intro (Sub.ptr _ _ _ _) ?_)
      · repeat (first | exact trivial | refine And.intro rfl ?_ | refine And.intro (SubO.refl _) ?_ | refine And.intro trivial ?_ | refine And.intro (SubO.cells (by repeat (first | exact trivial | refine And.intro (Sub.refl _) ?_ | refine And.intro (Sub.sl _ _ _ _ _) ?_ | refine And.intro (Sub.ptr _ _ _ _) ?_))) ?_)
  · have h : ¬ (i : Int) < (l.length : Int) := h
    have ei : l.take i = l := List.take_of_length_le (by omega)
    rw [ei] at hv
    rcases hv with ⟨e0, rfl, rfl⟩ | ⟨Cp, rfl, rfl⟩
    · exact absurd e0 hne
    · repeat (first | refine OpsA.cons ?_ | refine OpsA.nil ?_ | refine Run.textA C_ok (aopC_sound C_ok) ?_ | refine And.intro rfl ?_ | refine And.intro (Nat.le_of_ble_eq_true rfl) ?_ | refine And.intro (Int.natCast_nonneg _) ?_ | refine fun (_ : Nat) => ?_ | refine Run.go rfl ?_ | refine Cont.go rfl ?_)
      exact ⟨.tuple [.sl 2 gk Cp (partF l a kd).length, .int .i64 0], _, FinOk.keep _ [0, 1, 3] (Sub.tuples ⟨Sub.sl _ _ _ _ _, Sub.refl _, trivial⟩) (by decide) rfl, gk, Cp, rfl, rfl⟩
end Go.Proofs.YtiikjcdjgmlcgaaGreatDoor.HBT
/- The law TreeTells, walked. -/
namespace Go.Proofs.YtiikjcdjgmlcgaaGreatDoor.HBT
open Go Go.Proofs.YtiikjcdjgmlcgaaGreatDoor.HB Go.RowKit
set_option maxRecDepth 8000

set_option maxHeartbeats 4000000 in
theorem lawTells_spec (xs : List Stp) (n : Nat) (hn : n ≤ xs.length) (hok : ∀ x ∈ xs, x.ok) : FnSpec C 4 [rdS xs n] [] (fun r L' => r = .bool true ∧ L' = []) := by
  refine FnSpec.start C_ok Tryz.func4 rfl rfl Tryz.ntmps4 ?_
  have e0 : partE slash 3 = 0 := by kernel_rfl
  repeat (first | refine OpsA.cons ?_ | refine OpsA.nil ?_ | refine Run.textA C_ok (aopC_sound C_ok) ?_ | refine And.intro rfl ?_ | refine And.intro (Nat.le_of_ble_eq_true rfl) ?_ | refine And.intro (Int.natCast_nonneg _) ?_ | refine fun (_ : Nat) => ?_ | refine Run.go rfl ?_ | refine Cont.go rfl ?_)
  refine ACallT.ok (ACall.pure _ new_spec ?_)
  rintro r L' ⟨gt, gm, es, cl, hT, rfl, rfl⟩
  refine ⟨_, Sub.refl _, ?_⟩
  repeat (first | refine OpsA.cons ?_ | refine OpsA.nil ?_ | refine Run.textA C_ok (aopC_sound C_ok) ?_ | refine And.intro rfl ?_ | refine And.intro (Nat.le_of_ble_eq_true rfl) ?_ | refine And.intro (Int.natCast_nonneg _) ?_ | refine fun (_ : Nat) => ?_ | refine Run.go rfl ?_ | refine Cont.go rfl ?_)
  have hpo := part_own gt gm hT TInv.new slash 3 e0 (by rw [part_root TInv.new]; exact List.cons_ne_nil _ _)
  rw [part_root TInv.new] at hpo
  refine ACallT.ok (ACall.sel [0, 1] (by decide) [.ptr 0 gt 0, .str slash, .int .i64 3] _ ⟨Sub.refl _, Sub.refl _, Sub.refl _, trivial⟩ hpo ?_)
  rintro r L' ⟨gv0, Cv0, rfl, rfl⟩
  refine ⟨.tuple [.sl 2 gv0 Cv0 (seeL [rootF]).length, .int .i64 0], Sub.tuples ⟨Sub.sl _ _ _ _ _, Sub.refl _, trivial⟩, ?_⟩
  repeat (first | refine OpsA.cons ?_ | refine OpsA.nil ?_ | refine Run.textA C_ok (aopC_sound C_ok) ?_ | refine And.intro rfl ?_ | refine And.intro (Nat.le_of_ble_eq_true rfl) ?_ | refine And.intro (Int.natCast_nonneg _) ?_ | refine fun (_ : Nat) => ?_ | refine Run.go rfl ?_ | refine Cont.go rfl ?_)
  refine Run.loopW (fun k env L => ∃ (i : Nat) (l : List Fu) (gm : Nat) (es : Array MapEntry) (cl : Nat) (vs : List Sn) (gv Cv : Nat) (vv : AV) (oo : AObj), k = 121 - i ∧ i ≤ 120 ∧ TM l es cl ∧ TInv l ∧ vs.Perm (seeL l) ∧ vv = .sl 2 gv Cv vs.length ∧ oo = .row tN 3 Cv (vs.map encN) ∧ env = [rdS xs n, .junk, .junk, .ptr 0 gt 0, vv, .int .i64 0, .int .i64 i, .junk, .junk, .junk, .junk, .junk, .junk, .junk, .junk, .junk, .junk, .junk, .junk, .junk, .junk, .junk, .junk, .junk, .junk, .junk, .junk, .junk, .junk, .junk, .junk, .junk, .junk, .junk, .junk, .junk, .junk, .junk, .junk, .junk, .junk, .junk, .junk, .junk, .junk, .junk, .junk, .junk, .junk, .junk, .junk, .junk, .junk, .junk, .junk, .junk, .junk, .junk, .junk, .junk, .junk, .junk, .junk, .junk, .junk, .junk, .junk, .junk, .junk, .junk, .junk, .junk, .junk, .junk, .junk, .junk, .junk, .junk, .junk, .junk, .junk, .junk, .junk, .junk, .junk, .junk, .junk, .junk, .junk, .junk, .junk, .junk, .junk, .junk, .junk, .junk, .junk, .junk, .junk, .junk, .junk, .junk] ∧ L = [(gt, .cells tT [.any (.map (some gm))]), (gm, .obj (.map es cl)), (gv, oo)]) 121
    [rdS xs n, .junk, .junk, .ptr 0 gt 0, .sl 2 gv0 Cv0 (seeL [rootF]).length, .int .i64 0, .int .i64 (0 : Nat), .junk, .junk, .junk, .junk, .junk, .junk, .junk, .junk, .junk, .junk, .junk, .junk, .junk, .junk, .junk, .junk, .junk, .junk, .junk, .junk, .junk, .junk, .junk, .junk, .junk, .junk, .junk, .junk, .junk, .junk, .junk, .junk, .junk, .junk, .junk, .junk, .junk, .junk, .junk, .junk, .junk, .junk, .junk, .junk, .junk, .junk, .junk, .junk, .junk, .junk, .junk, .junk, .junk, .junk, .junk, .junk, .junk, .junk, .junk, .junk, .junk, .junk, .junk, .junk, .junk, .junk, .junk, .junk, .junk, .junk, .junk, .junk, .junk, .junk, .junk, .junk, .junk, .junk, .junk, .junk, .junk, .junk, .junk, .junk, .junk, .junk, .junk, .junk, .junk, .junk, .junk, .junk, .junk, .junk, .junk] [(gt, .cells tT [.any (.map (some gm))]), (gm, .obj (.map es cl)), (gv0, .row tN 3 Cv0 ((seeL [rootF]).map encN))] (Weak.sel ?_ [0, 1, 2] (by decide) ?_) ⟨0, [rootF], gm, es, cl, seeL [rootF], gv0, Cv0, _, _, by omega, by omega, hT, TInv.new, .refl _, rfl, rfl, rfl, rfl⟩ ?_
  · repeat (first | exact trivial | refine And.intro (Sub.junk _) ?_ | refine And.intro (Sub.refl _) ?_ | refine And.intro (Sub.sl _ _ _ _ _) ?_ | refine And.intro (Sub.ptr _ _ _ _) ?_)
  · repeat (first | exact trivial | refine And.intro rfl ?_ | refine And.intro (SubO.refl _) ?_ | refine And.intro trivial ?_ | refine And.intro (SubO.cells (by repeat (first | exact trivial | refine And.intro (Sub.refl _) ?_ | refine And.intro (Sub.sl _ _ _ _ _) ?_ | refine And.intro (Sub.ptr _ _ _ _) ?_))) ?_)
  rintro k env L ⟨i, l, gm, es, cl, vs, gv, Cv, vv, oo, rfl, hi, hT, hI, hvs, rfl, rfl, rfl, rfl⟩
  have hvl : vs.length ≤ 64 := by rw [hvs.length_eq, List.length_map]; exact hI.len
  repeat (first | refine OpsA.cons ?_ | refine OpsA.nil ?_ | refine Run.textA C_ok (aopC_sound C_ok) ?_ | refine And.intro rfl ?_ | refine And.intro (Nat.le_of_ble_eq_true rfl) ?_ | refine And.intro (Int.natCast_nonneg _) ?_ | refine fun (_ : Nat) => ?_ | refine Run.go rfl ?_ | refine Cont.go rfl ?_)
  refine ⟨fun h => ?_, fun h => ?_⟩
  rotate_left
  · repeat (first | refine OpsA.cons ?_ | refine OpsA.nil ?_ | refine Run.textA C_ok (aopC_sound C_ok) ?_ | refine And.intro rfl ?_ | refine And.intro (Nat.le_of_ble_eq_true rfl) ?_ | refine And.intro (Int.natCast_nonneg _) ?_ | refine fun (_ : Nat) => ?_ | refine Run.go rfl ?_ | refine Cont.go rfl ?_)
    refine ACallT.ok (ACall.ret (num_spec 0) ?_)
    repeat (first | refine OpsA.cons ?_ | refine OpsA.nil ?_ | refine Run.textA C_ok (aopC_sound C_ok) ?_ | refine And.intro rfl ?_ | refine And.intro (Nat.le_of_ble_eq_true rfl) ?_ | refine And.intro (Int.natCast_nonneg _) ?_ | refine fun (_ : Nat) => ?_ | refine Run.go rfl ?_ | refine Cont.go rfl ?_)
    refine ⟨fun _ => ?_, fun h => absurd rfl h⟩
    repeat (first | refine OpsA.cons ?_ | refine OpsA.nil ?_ | refine Run.textA C_ok (aopC_sound C_ok) ?_ | refine And.intro rfl ?_ | refine And.intro (Nat.le_of_ble_eq_true rfl) ?_ | refine And.intro (Int.natCast_nonneg _) ?_ | refine fun (_ : Nat) => ?_ | refine Run.go rfl ?_ | refine Cont.go rfl ?_)
    refine ACallT.ok (ACall.ret known_spec ?_)
    repeat (first | refine OpsA.cons ?_ | refine OpsA.nil ?_ | refine Run.textA C_ok (aopC_sound C_ok) ?_ | refine And.intro rfl ?_ | refine And.intro (Nat.le_of_ble_eq_true rfl) ?_ | refine And.intro (Int.natCast_nonneg _) ?_ | refine fun (_ : Nat) => ?_ | refine Run.go rfl ?_ | refine Cont.go rfl ?_)
    exact ⟨_, [], FinOk.drop _ _, rfl, rfl⟩
  have h : (i : Int) < (n : Int) := h
  repeat (first | refine OpsA.cons ?_ | refine OpsA.nil ?_ | refine Run.textA C_ok (aopC_sound C_ok) ?_ | refine And.intro rfl ?_ | refine And.intro (Nat.le_of_ble_eq_true rfl) ?_ | refine And.intro (Int.natCast_nonneg _) ?_ | refine fun (_ : Nat) => ?_ | refine Run.go rfl ?_ | refine Cont.go rfl ?_)
  refine ⟨fun h2 => ?_, fun h2 => ?_⟩
  rotate_left
  · repeat (first | refine OpsA.cons ?_ | refine OpsA.nil ?_ | refine Run.textA C_ok (aopC_sound C_ok) ?_ | refine And.intro rfl ?_ | refine And.intro (Nat.le_of_ble_eq_true rfl) ?_ | refine And.intro (Int.natCast_nonneg _) ?_ | refine fun (_ : Nat) => ?_ | refine Run.go rfl ?_ | refine Cont.go rfl ?_)
    refine ACallT.ok (ACall.ret (num_spec 0) ?_)
    repeat (first | refine OpsA.cons ?_ | refine OpsA.nil ?_ | refine Run.textA C_ok (aopC_sound C_ok) ?_ | refine And.intro rfl ?_ | refine And.intro (Nat.le_of_ble_eq_true rfl) ?_ | refine And.intro (Int.natCast_nonneg _) ?_ | refine fun (_ : Nat) => ?_ | refine Run.go rfl ?_ | refine Cont.go rfl ?_)
    refine ⟨fun _ => ?_, fun h => absurd rfl h⟩
    repeat (first | refine OpsA.cons ?_ | refine OpsA.nil ?_ | refine Run.textA C_ok (aopC_sound C_ok) ?_ | refine And.intro rfl ?_ | refine And.intro (Nat.le_of_ble_eq_true rfl) ?_ | refine And.intro (Int.natCast_nonneg _) ?_ | refine fun (_ : Nat) => ?_ | refine Run.go rfl ?_ | refine Cont.go rfl ?_)
    refine ACallT.ok (ACall.ret known_spec ?_)
    repeat (first | refine OpsA.cons ?_ | refine OpsA.nil ?_ | refine Run.textA C_ok (aopC_sound C_ok) ?_ | refine And.intro rfl ?_ | refine And.intro (Nat.le_of_ble_eq_true rfl) ?_ | refine And.intro (Int.natCast_nonneg _) ?_ | refine fun (_ : Nat) => ?_ | refine Run.go rfl ?_ | refine Cont.go rfl ?_)
    exact ⟨_, [], FinOk.drop _ _, rfl, rfl⟩
  have h2 : (i : Int) < 120 := h2
  obtain ⟨x, ex⟩ : ∃ x, xs[i]? = some x := ⟨_, List.getElem?_eq_getElem (by omega)⟩
  have hx := hok x (List.mem_of_getElem? ex)
  repeat (first | refine OpsA.cons ?_ | refine OpsA.nil ?_ | refine Run.textA C_ok (aopC_sound C_ok) ?_ | refine And.intro rfl ?_ | refine And.intro (Nat.le_of_ble_eq_true rfl) ?_ | refine And.intro (Int.natCast_nonneg _) ?_ | refine fun (_ : Nat) => ?_ | refine Run.go rfl ?_ | refine Cont.go rfl ?_)
  refine ACallT.ok (ACall.ret (num_spec 0) ?_)
  repeat (first | refine OpsA.cons ?_ | refine OpsA.nil ?_ | refine Run.textA C_ok (aopC_sound C_ok) ?_ | refine And.intro rfl ?_ | refine And.intro (Nat.le_of_ble_eq_true rfl) ?_ | refine And.intro (Int.natCast_nonneg _) ?_ | refine fun (_ : Nat) => ?_ | refine Run.go rfl ?_ | refine Cont.go rfl ?_)
  refine ⟨fun _ => ?_, fun h => absurd rfl h⟩
  repeat (first | refine OpsA.cons ?_ | refine OpsA.nil ?_ | refine Run.textA C_ok (aopC_sound C_ok) ?_ | refine And.intro rfl ?_ | refine And.intro (Nat.le_of_ble_eq_true rfl) ?_ | refine And.intro (Int.natCast_nonneg _) ?_ | refine fun (_ : Nat) => ?_ | refine Run.go rfl ?_ | refine Cont.go rfl ?_)
  refine ⟨h, encS x, map_at encS ex, ?_⟩
  repeat (first | refine OpsA.cons ?_ | refine OpsA.nil ?_ | refine Run.textA C_ok (aopC_sound C_ok) ?_ | refine And.intro rfl ?_ | refine And.intro (Nat.le_of_ble_eq_true rfl) ?_ | refine And.intro (Int.natCast_nonneg _) ?_ | refine fun (_ : Nat) => ?_ | refine Run.go rfl ?_ | refine Cont.go rfl ?_)
  refine ⟨fun hk => ?_, fun hk => ?_⟩
  · have hk : x.k = 1 := hk
    repeat (first | refine OpsA.cons ?_ | refine OpsA.nil ?_ | refine Run.textA C_ok (aopC_sound C_ok) ?_ | refine And.intro rfl ?_ | refine And.intro (Nat.le_of_ble_eq_true rfl) ?_ | refine And.intro (Int.natCast_nonneg _) ?_ | refine fun (_ : Nat) => ?_ | refine Run.go rfl ?_ | refine Cont.go rfl ?_)
    refine Run.drawnK C_ok (aopC_sound C_ok) [] [0, 1, 2, 3, 4, 5, 6, 7, 8, 9, 10, 11, 12, 13, 14, 15, 16, 17, 18, 19, 20] (by kernel_rfl) ?_
    repeat (first | refine OpsA.cons ?_ | refine OpsA.nil ?_ | refine OrdK.cons rfl ?_ | refine OrdK.nil ?_ | refine Run.textA C_ok (aopC_sound C_ok) ?_ | refine And.intro rfl ?_ | refine And.intro (Nat.le_of_ble_eq_true rfl) ?_ | refine And.intro (Int.natCast_nonneg _) ?_ | refine fun (_ : Nat) => ?_ | refine Run.go rfl ?_ | refine Cont.go rfl ?_)
    refine ⟨h, encS x, map_at encS ex, ?_⟩
    repeat (first | refine OpsA.cons ?_ | refine OpsA.nil ?_ | refine OrdK.cons rfl ?_ | refine OrdK.nil ?_ | refine Run.textA C_ok (aopC_sound C_ok) ?_ | refine And.intro rfl ?_ | refine And.intro (Nat.le_of_ble_eq_true rfl) ?_ | refine And.intro (Int.natCast_nonneg _) ?_ | refine fun (_ : Nat) => ?_ | refine Run.go rfl ?_ | refine Cont.go rfl ?_)
    refine ⟨h, encS x, map_at encS ex, ?_⟩
    repeat (first | refine OpsA.cons ?_ | refine OpsA.nil ?_ | refine OrdK.cons rfl ?_ | refine OrdK.nil ?_ | refine Run.textA C_ok (aopC_sound C_ok) ?_ | refine And.intro rfl ?_ | refine And.intro (Nat.le_of_ble_eq_true rfl) ?_ | refine And.intro (Int.natCast_nonneg _) ?_ | refine fun (_ : Nat) => ?_ | refine Run.go rfl ?_ | refine Cont.go rfl ?_)
    refine ⟨h, encS x, map_at encS ex, ?_⟩
    repeat (first | refine OpsA.cons ?_ | refine OpsA.nil ?_ | refine OrdK.cons rfl ?_ | refine OrdK.nil ?_ | refine Run.textA C_ok (aopC_sound C_ok) ?_ | refine And.intro rfl ?_ | refine And.intro (Nat.le_of_ble_eq_true rfl) ?_ | refine And.intro (Int.natCast_nonneg _) ?_ | refine fun (_ : Nat) => ?_ | refine Run.go rfl ?_ | refine Cont.go rfl ?_)
    refine ACallT.ok (ACall.sel [0, 1] (by decide) [.ptr 0 gt 0, .int .i64 x.s, .int .i64 x.st, .ro 5 (x.ops.map encO) x.no] _ ⟨Sub.refl _, Sub.refl _, Sub.refl _, Sub.refl _, trivial⟩ (play_spec gt gm hT hI x.s x.st x.ops x.no hx) ?_)
    intro r L' hq
    have hI2 : TInv (playR l x.s x.st (x.ops.take x.no)).1 := playR_inv hI
    have hF : Fol (seeL l) (playR l x.s x.st (x.ops.take x.no)).2.2 (seeL (playR l x.s x.st (x.ops.take x.no)).1) := playR_fol hI
    have hsm := (playR_small (s := x.s) (st := x.st) (ops := x.ops.take x.no) hI).2.2
    obtain ⟨gm2, es2, cl2, hT2, rfl, rfl⟩ := hq
    generalize (playR l x.s x.st (x.ops.take x.no)) = R at hT2 hI2 hF hsm ⊢
    obtain ⟨l2, ⟨rst, code, at_, rs⟩, cs⟩ := R
    refine ⟨.tuple [encP ⟨rst, code, at_, rs⟩, encCs cs], Sub.refl _, ?_⟩
    repeat (first | refine OpsA.cons ?_ | refine OpsA.nil ?_ | refine OrdK.cons rfl ?_ | refine OrdK.nil ?_ | refine Run.textA C_ok (aopC_sound C_ok) ?_ | refine And.intro rfl ?_ | refine And.intro (Nat.le_of_ble_eq_true rfl) ?_ | refine And.intro (Int.natCast_nonneg _) ?_ | refine fun (_ : Nat) => ?_ | refine Run.go rfl ?_ | refine Cont.go rfl ?_)
    refine ACallT.ok (ACall.sel [2] (by decide) [.sl 0 gv Cv vs.length, encCs cs] _ (.two (Sub.sl _ _ _ _ _) (Sub.refl _)) (turned_spec gv Cv vs (seeL l) (seeL l2) cs hvs (seeL_nodup hI) hF (by omega) hsm) ?_)
    rintro r L' ⟨ys, gy, Cy, hys, rfl, rfl⟩
    refine ⟨.tuple [.sl 2 gy Cy ys.length, .bool true], Sub.tuples ⟨Sub.sl _ _ _ _ _, Sub.refl _, trivial⟩, ?_⟩
    repeat (first | refine OpsA.cons ?_ | refine OpsA.nil ?_ | refine OrdK.cons rfl ?_ | refine OrdK.nil ?_ | refine Run.textA C_ok (aopC_sound C_ok) ?_ | refine And.intro rfl ?_ | refine And.intro (Nat.le_of_ble_eq_true rfl) ?_ | refine And.intro (Int.natCast_nonneg _) ?_ | refine fun (_ : Nat) => ?_ | refine Run.go rfl ?_ | refine Cont.go rfl ?_)
    have hps := part_spec gt gm2 hT2 hI2 slash 3
    rw [e0, if_pos rfl, part_root hI2] at hps
    refine ACallT.ok (ACall.sel [0, 1] (by decide) [.ptr 0 gt 0, .str slash, .int .i64 3] _ ⟨Sub.refl _, Sub.refl _, Sub.refl _, trivial⟩ hps ?_)
    rintro r L' ⟨rfl, rfl⟩
    refine ⟨_, Sub.refl _, ?_⟩
    repeat (first | refine OpsA.cons ?_ | refine OpsA.nil ?_ | refine OrdK.cons rfl ?_ | refine OrdK.nil ?_ | refine Run.textA C_ok (aopC_sound C_ok) ?_ | refine And.intro rfl ?_ | refine And.intro (Nat.le_of_ble_eq_true rfl) ?_ | refine And.intro (Int.natCast_nonneg _) ?_ | refine fun (_ : Nat) => ?_ | refine Run.go rfl ?_ | refine Cont.go rfl ?_)
    refine ACallT.ok (ACall.ret (num_spec 0) ?_)
    repeat (first | refine OpsA.cons ?_ | refine OpsA.nil ?_ | refine OrdK.cons rfl ?_ | refine OrdK.nil ?_ | refine Run.textA C_ok (aopC_sound C_ok) ?_ | refine And.intro rfl ?_ | refine And.intro (Nat.le_of_ble_eq_true rfl) ?_ | refine And.intro (Int.natCast_nonneg _) ?_ | refine fun (_ : Nat) => ?_ | refine Run.go rfl ?_ | refine Cont.go rfl ?_)
    refine ⟨fun h => absurd rfl h, fun _ => ?_⟩
    repeat (first | refine OpsA.cons ?_ | refine OpsA.nil ?_ | refine OrdK.cons rfl ?_ | refine OrdK.nil ?_ | refine Run.textA C_ok (aopC_sound C_ok) ?_ | refine And.intro rfl ?_ | refine And.intro (Nat.le_of_ble_eq_true rfl) ?_ | refine And.intro (Int.natCast_nonneg _) ?_ | refine fun (_ : Nat) => ?_ | refine Run.go rfl ?_ | refine Cont.go rfl ?_)
    refine ACallT.ok (ACall.ret_lend (.two (.row 2 gy Cy _ tN 3 _ rfl (by simp)) (.same _)) (alike_spec ys (seeL l2) hys (seeL_nodup hI2) (by rw [List.length_map]; have : l2.length ≤ 64 := hI2.len; omega)) rfl ?_)
    repeat (first | refine OpsA.cons ?_ | refine OpsA.nil ?_ | refine OrdK.cons rfl ?_ | refine OrdK.nil ?_ | refine Run.textA C_ok (aopC_sound C_ok) ?_ | refine And.intro rfl ?_ | refine And.intro (Nat.le_of_ble_eq_true rfl) ?_ | refine And.intro (Int.natCast_nonneg _) ?_ | refine fun (_ : Nat) => ?_ | refine Run.go rfl ?_ | refine Cont.go rfl ?_)
    refine fun r hr => ?_
    obtain rfl := add1 hr (by omega)
    repeat (first | refine OpsA.cons ?_ | refine OpsA.nil ?_ | refine OrdK.cons rfl ?_ | refine OrdK.nil ?_ | refine Run.textA C_ok (aopC_sound C_ok) ?_ | refine And.intro rfl ?_ | refine And.intro (Nat.le_of_ble_eq_true rfl) ?_ | refine And.intro (Int.natCast_nonneg _) ?_ | refine fun (_ : Nat) => ?_ | refine Run.go rfl ?_ | refine Cont.go rfl ?_)
    refine Cont.lpW ?_
    refine ⟨121 - (i + 1), _, _, by omega, Weak.sel ?_ [0, 1, 2] (by decide) ?_, ⟨i + 1, l2, gm2, es2, cl2, ys, gy, Cy, .sl 2 gy Cy ys.length, .row tN 3 Cy (ys.map encN), rfl, by omega, hT2, hI2, hys, rfl, rfl, rfl, rfl⟩⟩
    · repeat (first | exact trivial | refine And.intro (Sub.junk _) ?_ | refine And.intro (Sub.refl _) ?_ | refine And.intro (Sub.sl _ _ _ _ _) ?_ | refine And.intro (Sub.ptr _ _ _ _) ?_)
    · repeat (first | exact trivial | refine And.intro rfl ?_ | refine And.intro (SubO.refl _) ?_ | refine And.intro trivial ?_ | refine And.intro (SubO.cells (by repeat (first | exact trivial | refine And.intro (Sub.refl _) ?_ | refine And.intro (Sub.sl _ _ _ _ _) ?_ | refine And.intro (Sub.ptr _ _ _ _) ?_))) ?_)
  have hk1 : ¬ x.k = 1 := hk
  repeat (first | refine OpsA.cons ?_ | refine OpsA.nil ?_ | refine Run.textA C_ok (aopC_sound C_ok) ?_ | refine And.intro rfl ?_ | refine And.intro (Nat.le_of_ble_eq_true rfl) ?_ | refine And.intro (Int.natCast_nonneg _) ?_ | refine fun (_ : Nat) => ?_ | refine Run.go rfl ?_ | refine Cont.go rfl ?_)
  refine ⟨fun hk => ?_, fun hk => ?_⟩
  · have hk : x.k = 2 := hk
    repeat (first | refine OpsA.cons ?_ | refine OpsA.nil ?_ | refine Run.textA C_ok (aopC_sound C_ok) ?_ | refine And.intro rfl ?_ | refine And.intro (Nat.le_of_ble_eq_true rfl) ?_ | refine And.intro (Int.natCast_nonneg _) ?_ | refine fun (_ : Nat) => ?_ | refine Run.go rfl ?_ | refine Cont.go rfl ?_)
    refine ⟨h, encS x, map_at encS ex, ?_⟩
    repeat (first | refine OpsA.cons ?_ | refine OpsA.nil ?_ | refine Run.textA C_ok (aopC_sound C_ok) ?_ | refine And.intro rfl ?_ | refine And.intro (Nat.le_of_ble_eq_true rfl) ?_ | refine And.intro (Int.natCast_nonneg _) ?_ | refine fun (_ : Nat) => ?_ | refine Run.go rfl ?_ | refine Cont.go rfl ?_)
    refine ACallT.ok (ACall.sel [0, 1] (by decide) [.ptr 0 gt 0, .int .i64 x.s] _ (.two (Sub.refl _) (Sub.refl _)) (end_spec gt gm hT hI x.s) ?_)
    intro r L' hq
    have hI2 : TInv (endF l x.s).1 := endF_inv hI
    have hF : Fol (seeL l) (endF l x.s).2 (seeL (endF l x.s).1) := endF_fol hI
    have hsm := endF_small (s := x.s) hI
    obtain ⟨es2, cl2, hT2, rfl, rfl⟩ := hq
    generalize (endF l x.s) = R at hT2 hI2 hF hsm ⊢
    obtain ⟨l2, cs⟩ := R
    refine ⟨encCs cs, Sub.refl _, ?_⟩
    repeat (first | refine OpsA.cons ?_ | refine OpsA.nil ?_ | refine Run.textA C_ok (aopC_sound C_ok) ?_ | refine And.intro rfl ?_ | refine And.intro (Nat.le_of_ble_eq_true rfl) ?_ | refine And.intro (Int.natCast_nonneg _) ?_ | refine fun (_ : Nat) => ?_ | refine Run.go rfl ?_ | refine Cont.go rfl ?_)
    refine ACallT.ok (ACall.sel [2] (by decide) [.sl 0 gv Cv vs.length, encCs cs] _ (.two (Sub.sl _ _ _ _ _) (Sub.refl _)) (turned_spec gv Cv vs (seeL l) (seeL l2) cs hvs (seeL_nodup hI) hF (by omega) hsm) ?_)
    rintro r L' ⟨ys, gy, Cy, hys, rfl, rfl⟩
    refine ⟨.tuple [.sl 2 gy Cy ys.length, .bool true], Sub.tuples ⟨Sub.sl _ _ _ _ _, Sub.refl _, trivial⟩, ?_⟩
    repeat (first | refine OpsA.cons ?_ | refine OpsA.nil ?_ | refine Run.textA C_ok (aopC_sound C_ok) ?_ | refine And.intro rfl ?_ | refine And.intro (Nat.le_of_ble_eq_true rfl) ?_ | refine And.intro (Int.natCast_nonneg _) ?_ | refine fun (_ : Nat) => ?_ | refine Run.go rfl ?_ | refine Cont.go rfl ?_)
    have hps := part_spec gt gm hT2 hI2 slash 3
    rw [e0, if_pos rfl, part_root hI2] at hps
    refine ACallT.ok (ACall.sel [0, 1] (by decide) [.ptr 0 gt 0, .str slash, .int .i64 3] _ ⟨Sub.refl _, Sub.refl _, Sub.refl _, trivial⟩ hps ?_)
    rintro r L' ⟨rfl, rfl⟩
    refine ⟨_, Sub.refl _, ?_⟩
    repeat (first | refine OpsA.cons ?_ | refine OpsA.nil ?_ | refine Run.textA C_ok (aopC_sound C_ok) ?_ | refine And.intro rfl ?_ | refine And.intro (Nat.le_of_ble_eq_true rfl) ?_ | refine And.intro (Int.natCast_nonneg _) ?_ | refine fun (_ : Nat) => ?_ | refine Run.go rfl ?_ | refine Cont.go rfl ?_)
    refine ACallT.ok (ACall.ret (num_spec 0) ?_)
    repeat (first | refine OpsA.cons ?_ | refine OpsA.nil ?_ | refine Run.textA C_ok (aopC_sound C_ok) ?_ | refine And.intro rfl ?_ | refine And.intro (Nat.le_of_ble_eq_true rfl) ?_ | refine And.intro (Int.natCast_nonneg _) ?_ | refine fun (_ : Nat) => ?_ | refine Run.go rfl ?_ | refine Cont.go rfl ?_)
    refine ⟨fun h => absurd rfl h, fun _ => ?_⟩
    repeat (first | refine OpsA.cons ?_ | refine OpsA.nil ?_ | refine Run.textA C_ok (aopC_sound C_ok) ?_ | refine And.intro rfl ?_ | refine And.intro (Nat.le_of_ble_eq_true rfl) ?_ | refine And.intro (Int.natCast_nonneg _) ?_ | refine fun (_ : Nat) => ?_ | refine Run.go rfl ?_ | refine Cont.go rfl ?_)
    refine ACallT.ok (ACall.ret_lend (.two (.row 2 gy Cy _ tN 3 _ rfl (by simp)) (.same _)) (alike_spec ys (seeL l2) hys (seeL_nodup hI2) (by rw [List.length_map]; have : l2.length ≤ 64 := hI2.len; omega)) rfl ?_)
    repeat (first | refine OpsA.cons ?_ | refine OpsA.nil ?_ | refine Run.textA C_ok (aopC_sound C_ok) ?_ | refine And.intro rfl ?_ | refine And.intro (Nat.le_of_ble_eq_true rfl) ?_ | refine And.intro (Int.natCast_nonneg _) ?_ | refine fun (_ : Nat) => ?_ | refine Run.go rfl ?_ | refine Cont.go rfl ?_)
    refine fun r hr => ?_
    obtain rfl := add1 hr (by omega)
    repeat (first | refine OpsA.cons ?_ | refine OpsA.nil ?_ | refine Run.textA C_ok (aopC_sound C_ok) ?_ | refine And.intro rfl ?_ | refine And.intro (Nat.le_of_ble_eq_true rfl) ?_ | refine And.intro (Int.natCast_nonneg _) ?_ | refine fun (_ : Nat) => ?_ | refine Run.go rfl ?_ | refine Cont.go rfl ?_)
    refine Cont.lpW ?_
    refine ⟨121 - (i + 1), _, _, by omega, Weak.sel ?_ [0, 1, 2] (by decide) ?_, ⟨i + 1, l2, gm, es2, cl2, ys, gy, Cy, .sl 2 gy Cy ys.length, .row tN 3 Cy (ys.map encN), rfl, by omega, hT2, hI2, hys, rfl, rfl, rfl, rfl⟩⟩
    · repeat (first | exact trivial | refine And.intro (Sub.junk _) ?_ | refine And.intro (Sub.refl _) ?_ | refine And.intro (Sub.sl _ _ _ _ _) ?_ | refine And.intro (Sub.ptr _ _ _ _) ?_)
    · repeat (first | exact trivial | refine And.intro rfl ?_ | refine And.intro (SubO.refl _) ?_ | refine And.intro trivial ?_ | refine And.intro (SubO.cells (by repeat (first | exact trivial | refine And.intro (Sub.refl _) ?_ | refine And.intro (Sub.sl _ _ _ _ _) ?_ | refine And.intro (Sub.ptr _ _ _ _) ?_))) ?_)
  have hk2 : ¬ x.k = 2 := hk
  repeat (first | refine OpsA.cons ?_ | refine OpsA.nil ?_ | refine Run.textA C_ok (aopC_sound C_ok) ?_ | refine And.intro rfl ?_ | refine And.intro (Nat.le_of_ble_eq_true rfl) ?_ | refine And.intro (Int.natCast_nonneg _) ?_ | refine fun (_ : Nat) => ?_ | refine Run.go rfl ?_ | refine Cont.go rfl ?_)
  refine ACallT.ok (ACall.sel [2] (by decide) [.sl 0 gv Cv vs.length, encCs []] _ (.two (Sub.sl _ _ _ _ _) (Sub.nilsRo 4)) (turned_spec gv Cv vs (seeL l) (seeL l) [] hvs (seeL_nodup hI) (.nil (.refl _)) (by omega) (Nat.zero_le _)) ?_)
  rintro r L' ⟨ys, gy, Cy, hys, rfl, rfl⟩
  refine ⟨.tuple [.sl 2 gy Cy ys.length, .bool true], Sub.tuples ⟨Sub.sl _ _ _ _ _, Sub.refl _, trivial⟩, ?_⟩
  repeat (first | refine OpsA.cons ?_ | refine OpsA.nil ?_ | refine Run.textA C_ok (aopC_sound C_ok) ?_ | refine And.intro rfl ?_ | refine And.intro (Nat.le_of_ble_eq_true rfl) ?_ | refine And.intro (Int.natCast_nonneg _) ?_ | refine fun (_ : Nat) => ?_ | refine Run.go rfl ?_ | refine Cont.go rfl ?_)
  have hps := part_spec gt gm hT hI slash 3
  rw [e0, if_pos rfl, part_root hI] at hps
  refine ACallT.ok (ACall.sel [0, 1] (by decide) [.ptr 0 gt 0, .str slash, .int .i64 3] _ ⟨Sub.refl _, Sub.refl _, Sub.refl _, trivial⟩ hps ?_)
  rintro r L' ⟨rfl, rfl⟩
  refine ⟨_, Sub.refl _, ?_⟩
  repeat (first | refine OpsA.cons ?_ | refine OpsA.nil ?_ | refine Run.textA C_ok (aopC_sound C_ok) ?_ | refine And.intro rfl ?_ | refine And.intro (Nat.le_of_ble_eq_true rfl) ?_ | refine And.intro (Int.natCast_nonneg _) ?_ | refine fun (_ : Nat) => ?_ | refine Run.go rfl ?_ | refine Cont.go rfl ?_)
  refine ACallT.ok (ACall.ret (num_spec 0) ?_)
  repeat (first | refine OpsA.cons ?_ | refine OpsA.nil ?_ | refine Run.textA C_ok (aopC_sound C_ok) ?_ | refine And.intro rfl ?_ | refine And.intro (Nat.le_of_ble_eq_true rfl) ?_ | refine And.intro (Int.natCast_nonneg _) ?_ | refine fun (_ : Nat) => ?_ | refine Run.go rfl ?_ | refine Cont.go rfl ?_)
  refine ⟨fun h => absurd rfl h, fun _ => ?_⟩
  repeat (first | refine OpsA.cons ?_ | refine OpsA.nil ?_ | refine Run.textA C_ok (aopC_sound C_ok) ?_ | refine And.intro rfl ?_ | refine And.intro (Nat.le_of_ble_eq_true rfl) ?_ | refine And.intro (Int.natCast_nonneg _) ?_ | refine fun (_ : Nat) => ?_ | refine Run.go rfl ?_ | refine Cont.go rfl ?_)
  refine ACallT.ok (ACall.ret_lend (.two (.row 2 gy Cy _ tN 3 _ rfl (by simp)) (.same _)) (alike_spec ys (seeL l) hys (seeL_nodup hI) (by rw [List.length_map]; have : l.length ≤ 64 := hI.len; omega)) rfl ?_)
  repeat (first | refine OpsA.cons ?_ | refine OpsA.nil ?_ | refine Run.textA C_ok (aopC_sound C_ok) ?_ | refine And.intro rfl ?_ | refine And.intro (Nat.le_of_ble_eq_true rfl) ?_ | refine And.intro (Int.natCast_nonneg _) ?_ | refine fun (_ : Nat) => ?_ | refine Run.go rfl ?_ | refine Cont.go rfl ?_)
  refine fun r hr => ?_
  obtain rfl := add1 hr (by omega)
  repeat (first | refine OpsA.cons ?_ | refine OpsA.nil ?_ | refine Run.textA C_ok (aopC_sound C_ok) ?_ | refine And.intro rfl ?_ | refine And.intro (Nat.le_of_ble_eq_true rfl) ?_ | refine And.intro (Int.natCast_nonneg _) ?_ | refine fun (_ : Nat) => ?_ | refine Run.go rfl ?_ | refine Cont.go rfl ?_)
  refine Cont.lpW ?_
  refine ⟨121 - (i + 1), _, _, by omega, Weak.sel ?_ [0, 1, 2] (by decide) ?_, ⟨i + 1, l, gm, es, cl, ys, gy, Cy, .sl 2 gy Cy ys.length, .row tN 3 Cy (ys.map encN), rfl, by omega, hT, hI, hys, rfl, rfl, rfl, rfl⟩⟩
  · repeat (first | exact trivial | refine And.intro (Sub.junk _) ?_ | refine And.intro (Sub.refl _) ?_ | refine And.intro (Sub.sl _ _ _ _ _) ?_ | refine And.intro (Sub.ptr _ _ _ _) ?_)
  · repeat (first | exact trivial | refine And.intro rfl ?_ | refine And.intro (SubO.refl _) ?_ | refine And.intro trivial ?_ | refine And.intro (SubO.cells (by repeat (first | exact trivial | refine And.intro (Sub.refl _) ?_ | refine And.intro (Sub.sl _ _ _ _ _) ?_ | refine And.intro (Sub.ptr _ _ _ _) ?_))) ?_)
end Go.Proofs.YtiikjcdjgmlcgaaGreatDoor.HBT
/- Proved: the law TreeTells returns true for every input, and its argument reads behind the call as it read before; what the row lists is tied to the program's text. Conditions: none beside the card's own. -/
namespace Go.Proofs.YtiikjcdjgmlcgaaGreatDoor.HBT
open Go Go.Proofs.YtiikjcdjgmlcgaaGreatDoor.HB Go.Proofs.YtiikjcdjgmlcgaaGreatDoor Go.ChangeShapes Go.WideShapes Go.ChangeAt Go.RowKit Go.Lib
set_option maxRecDepth 8000

set_option maxRecDepth 100000 in
theorem tells_lifted (os : Os) (started : os.Started) (H : Type) (enc : TypeId × Value → H) :
    ReturnsInHanded {} Tryz.checked os 4 .any (fun w args => (Rows.treeTellsSpec.pre enc Tryz.prog Tryz.f4 [] false w args ∧ laidMetH Tryz.prog laid w) ∧ sizedMet enc Tryz.prog Tryz.f4 (OpenSpec.ofChange Rows.treeTellsSpec) false w args)
      (Rows.treeTellsSpec.post enc Tryz.prog Tryz.f4 false true false false) := by
  refine returns_and_shaped (C := Tryz.checked) (X := fun w _ => laidMetH Tryz.prog laid w) (fun _ _ _ hh h => h.of_heap hh) own started (by kernel_rfl) Tryz.func4
    (ChangeSpec.witness_shaped (enc := enc) (C := Tryz.checked) (os := os) (X := fun w _ => laidMetH Tryz.prog laid w) false (World.laidAll Tryz.prog os laid) #[.slice none 0 0] 8 (World.laidAll_os _ _ _)
      (door_shape os _) (by kernel_rfl) (by kernel_rfl) (by kernel_rfl) (door_met os _)) ?_
  intro W base args ds gs before hval hW hL hs
  refine law_contract (C := C) (tb := 4) 8 laidOut (by kernel_rfl) (by kernel_rfl) (by kernel_rfl) Tryz.underlying4 ?_ ?_ ?_ (G_of hL hs) hval hW
  · intro W W' gs q _ h
    cases gs with
    | nil => exact h
    | cons => exact h.elim
  · intro ds gs hd hg
    match ds, gs, hd, hg with
    | [d1], [], _, _ => exact ⟨rfl, rfl, rfl⟩
  · intro xs hxs
    have hxs : ArgsOk Tryz.prog [22] xs := hxs
    cases hxs with
    | cons h1 h =>
      cases h
      obtain ⟨xs, n, hn, hok, rfl⟩ := steps_arg h1
      exact lawTells_spec xs n hn hok

theorem tells_row : Rows.TreeTellsSaid :=
  OpenClaim.holds_of_wide 4 Tryz.f4 rfl rfl rfl rfl rfl rfl rfl ⟨rfl, rfl, rfl, rfl, rfl⟩ rfl rfl rfl rfl rfl (by kernel_rfl) Tryz.func4 (by kernel_rfl)
    (of_decide_eq_true (by kernel_rfl)) (by unfold Func.isWrapper; rw [if_neg (by decide +kernel)]; exact ⟨rfl, rfl⟩)
    (fun os started H enc _ => tells_lifted os started H enc)

theorem tells_holds : Rows.TreeTellsCardSaid :=
  Claim7.holds_tied_plain_at .later [] [.data, .data, .data, .data, .data, .pinned] true (true, "a173a9eb6dc21041d37dd500cfd57f3d5f89cb1d874a3f58c76021ed9cc7ddc1") true
    tells_row (fun _ h => by cases h) (by kernel_rfl) (fun _ h => by cases h) treeTells_row_tie rfl ⟨rfl, rfl⟩ (by kernel_rfl) rfl
    (fun f fn hf hfn => by
      obtain rfl : f = 4 := Option.some.inj ((show Tryz.prog.funcNamed "herald/heraldlaw4.TreeTells" = some 4 by kernel_rfl).symm.trans hf) |>.symm
      obtain rfl : fn = Tryz.f4 := (Option.some.inj (Tryz.func4.symm.trans hfn)).symm
      exact ⟨by kernel_rfl, fun j t ht => by
        rw [Tryz.params4] at ht
        have hm : t ∈ [22] := by simpa using Array.mem_of_getElem? ht
        have hall : ([22].all fun u => !Tryz.prog.wantsStandIn u) = true := by kernel_rfl
        exact (show Tryz.prog.wantsStandIn t = false by simpa using List.all_eq_true.1 hall t hm)⟩)
    (by kernel_rfl)

end Go.Proofs.YtiikjcdjgmlcgaaGreatDoor.HBT
