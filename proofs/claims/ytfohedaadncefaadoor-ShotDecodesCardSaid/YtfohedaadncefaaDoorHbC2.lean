/- Plain: numbers, texts, nodes and shots read from bytes; what is read is what would be written. -/
import Derived.Test.YtfohedaadncefaaDoorHbZa
import Derived.Test.YtfohedaadncefaaDoorHbE3
import Derived.Test.YtfohedaadncefaaDoorHbR6
import Derived.Test.YtfohedaadncefaaDoorHbD8
import Derived.Test.YtfohedaadncefaaDoorHbW2
namespace Go.Proofs.YtfohedaadncefaaDoor.HBT
open Go Go.Proofs.YtfohedaadncefaaDoor.HB Go.RowKit
set_option maxRecDepth 8000

theorem drop_cons {d : List Int} {k : Nat} {b : Int} (h : d[k]? = some b) : d.drop k = b :: d.drop (k + 1) := by
  obtain ⟨hk, e⟩ := List.getElem?_eq_some_iff.1 h
  rw [List.drop_eq_getElem_cons hk, e]
theorem rdF_spec {d : List Int} (hb : Bytes d) (at_ : Nat) : ∀ (f i v w nx : Nat), rdF d at_ f i v = some (w, nx) → ∃ u, w = v + u * 128 ^ i ∧ at_ + i < nx ∧ nx ≤ d.length ∧ (d.drop (at_ + i)).take (nx - (at_ + i)) = numF (f - 1) u ∧ w ≤ 2147483647 ∧ (0 < i → 0 < u)
  | 0, _, _, _, _, h => by cases h
  | f + 1, i, v, w, nx, h => by
    unfold rdF at h
    split at h
    · cases h
    rename_i b hbd
    have hlt := (List.getElem?_eq_some_iff.1 hbd).1
    obtain ⟨b0, b1⟩ := hb b (List.mem_of_getElem? hbd)
    have hd := drop_cons hbd
    split at h
    · rename_i hs
      split at h
      · cases h
      · rename_i hc
        simp only [Option.some.injEq, Prod.mk.injEq] at h
        obtain ⟨rfl, rfl⟩ := h
        have hm : b.toNat % 128 = b.toNat := by omega
        refine ⟨b.toNat, by rw [hm], by omega, by omega, ?_, by omega, fun hi => ?_⟩
        · rw [hd, show at_ + i + 1 - (at_ + i) = 1 by omega, Nat.add_sub_cancel, numF_small _ _ (by omega)]
          simp; omega
        · rcases Nat.eq_zero_or_pos b.toNat with h0 | h0
          · exact absurd (.inl ⟨by omega, hi⟩) hc
          · exact h0
    · rename_i hs
      obtain ⟨u, hw, h1, h2, h3, h4, h5⟩ := rdF_spec hb at_ f (i + 1) _ w nx h
      have hu : 0 < u := h5 (by omega)
      have hf : ∃ f', f = f' + 1 := by
        cases f with
        | zero => cases h
        | succ f' => exact ⟨f', rfl⟩
      obtain ⟨f', rfl⟩ := hf
      refine ⟨b.toNat % 128 + 128 * u, ?_, by omega, h2, ?_, h4, fun _ => by omega⟩
      · rw [hw, Nat.pow_succ, Nat.add_mul, Nat.add_assoc, Nat.mul_comm 128 u, Nat.mul_assoc, Nat.mul_comm 128 (128 ^ i)]
      · rw [hd, show nx - (at_ + i) = (nx - (at_ + (i + 1))) + 1 by omega, List.take_succ_cons, show at_ + i + 1 = at_ + (i + 1) by omega, h3]
        show b :: numF f' u = numF (f' + 1) (b.toNat % 128 + 128 * u)
        rw [numF_step _ _ (by omega)]
        have e1 : (b.toNat % 128 + 128 * u) % 128 = b.toNat % 128 := by omega
        have e2 : (b.toNat % 128 + 128 * u) / 128 = u := by omega
        rw [e1, e2]
        congr 1
        omega
theorem take_of_drop {d new : List Int} {a b : Nat} (hab : a ≤ b) (h : (d.drop a).take (b - a) = new) : d.take b = d.take a ++ new := by
  rw [← h, ← List.take_add, Nat.add_sub_cancel' hab]
theorem readN_spec {d : List Int} (hb : Bytes d) {at_ v nx : Nat} (h : readN d at_ = some (v, nx)) : at_ < nx ∧ nx ≤ d.length ∧ v ≤ 2147483647 ∧ d.take nx = d.take at_ ++ numI v := by
  obtain ⟨u, h1, h2, h3, h4, h5, _⟩ := rdF_spec hb at_ 5 0 0 v nx h
  have e : v = u := by simpa using h1
  subst e
  exact ⟨by omega, h3, h5, take_of_drop (by omega) h4⟩

/-- A text that begins at a place. -/
def readT (d : List Int) (at_ : Nat) : Option (ByteArray × Nat) :=
  match readN d at_ with
  | none => none
  | some (n, fr) => if 262144 < n then none else if d.length - fr < n then none else some (strI ((d.drop fr).take n), fr + n)
theorem bytesI_strI {l : List Int} (h : Bytes l) : bytesI (strI l) = l := by
  unfold bytesI strI
  simp only [List.map_map]
  conv => rhs; rw [← List.map_id l]
  refine List.map_congr_left fun b hb => ?_
  obtain ⟨h0, h1⟩ := h b hb
  simp only [Function.comp, id]
  have : (UInt8.ofNat b.toNat).toNat = b.toNat % 256 := UInt8.toNat_ofNat'
  omega
theorem strI_size (l : List Int) : (strI l).size = l.length := by
  unfold strI ByteArray.size
  simp
theorem Bytes.drop {d : List Int} (h : Bytes d) (k : Nat) : Bytes (d.drop k) := fun b hb => h b (List.mem_of_mem_drop hb)
theorem Bytes.take {d : List Int} (h : Bytes d) (k : Nat) : Bytes (d.take k) := fun b hb => h b (List.mem_of_mem_take hb)
theorem readT_spec {d : List Int} (hb : Bytes d) {at_ nx : Nat} {s : ByteArray} (h : readT d at_ = some (s, nx)) : at_ < nx ∧ nx ≤ d.length ∧ s.size ≤ 262144 ∧ d.take nx = d.take at_ ++ txtI s := by
  unfold readT at h
  split at h
  · cases h
  rename_i n fr hr
  obtain ⟨h1, h2, h3, h4⟩ := readN_spec hb hr
  split at h
  · cases h
  split at h
  · cases h
  rename_i g1 g2
  simp only [Option.some.injEq, Prod.mk.injEq] at h
  obtain ⟨rfl, rfl⟩ := h
  have hl : ((d.drop fr).take n).length = n := by rw [List.length_take, List.length_drop]; omega
  refine ⟨by omega, by omega, by rw [strI_size, hl]; omega, ?_⟩
  unfold txtI
  rw [bytesI_strI ((hb.drop fr).take n), strI_size, hl, ← List.append_assoc, ← h4]
  exact take_of_drop (by omega) (by rw [Nat.add_sub_cancel_left])

def rdHead (d : List Int) : Option (Nat × ByteArray × Nat × Nat × Nat) :=
  match readN d 0 with
  | none => none
  | some (st, a1) => match readT d a1 with
    | none => none
    | some (pl, a2) => match readN d a2 with
      | none => none
      | some (kd, a3) => match readN d a3 with
        | none => none
        | some (n, a4) => some (st, pl, kd, n, a4)
def rdNode (d : List Int) (at_ : Nat) : Option (Sn × Nat) :=
  match readT d at_ with
  | none => none
  | some (p, a1) => match readT d a1 with
    | none => none
    | some (q, a2) => match readN d a2 with
      | none => none
      | some (v, a3) => some (⟨p, q, v⟩, a3)
def rdNs (d : List Int) (a : Nat) : Nat → Option (List Sn × Nat)
  | 0 => some ([], a)
  | k + 1 => match rdNs d a k with
    | none => none
    | some (l, at_) => match rdNode d at_ with
      | none => none
      | some (x, at2) => some (l ++ [x], at2)
theorem rdNs_none {d : List Int} {a k : Nat} (h : rdNs d a k = none) : ∀ m, rdNs d a (k + m) = none
  | 0 => h
  | m + 1 => by rw [← Nat.add_assoc]; unfold rdNs; rw [rdNs_none h m]
theorem rdNs_fail {d : List Int} {a k n : Nat} {l : List Sn} {at_ : Nat} (h : rdNs d a k = some (l, at_)) (hx : rdNode d at_ = none) (hk : k < n) : rdNs d a n = none := by
  have h1 : rdNs d a (k + 1) = none := by unfold rdNs; rw [h]; simp only [hx]
  have := rdNs_none h1 (n - (k + 1))
  rwa [Nat.add_sub_cancel' hk] at this
theorem rdNs_step {d : List Int} {a k : Nat} {l : List Sn} {x : Sn} {at_ at2 : Nat} (h : rdNs d a k = some (l, at_)) (hx : rdNode d at_ = some (x, at2)) : rdNs d a (k + 1) = some (l ++ [x], at2) := by
  unfold rdNs; rw [h]; simp only [hx]

theorem rdNode_spec {d : List Int} (hb : Bytes d) {at_ nx : Nat} {x : Sn} (h : rdNode d at_ = some (x, nx)) : at_ + 3 ≤ nx ∧ nx ≤ d.length ∧ x.p.size ≤ 262144 ∧ d.take nx = d.take at_ ++ nodeI x := by
  unfold rdNode at h
  split at h
  · cases h
  rename_i p a1 h1
  split at h
  · cases h
  rename_i q a2 h2
  split at h
  · cases h
  rename_i v a3 h3
  simp only [Option.some.injEq, Prod.mk.injEq] at h
  obtain ⟨rfl, rfl⟩ := h
  obtain ⟨e1, e2, e3, e4⟩ := readT_spec hb h1
  obtain ⟨f1, f2, f3, f4⟩ := readT_spec hb h2
  obtain ⟨g1, g2, g3, g4⟩ := readN_spec hb h3
  refine ⟨by omega, g2, e3, ?_⟩
  rw [g4, f4, e4]
  simp [nodeI]
theorem rdNs_spec {d : List Int} (hb : Bytes d) {a : Nat} (ha : a ≤ d.length) : ∀ {k : Nat} {l : List Sn} {at_ : Nat}, rdNs d a k = some (l, at_) → l.length = k ∧ a + 3 * k ≤ at_ ∧ at_ ≤ d.length ∧ (∀ x ∈ l, x.p.size ≤ 262144) ∧ d.take at_ = d.take a ++ nodesI l
  | 0, l, at_, h => by
    simp only [rdNs, Option.some.injEq, Prod.mk.injEq] at h
    obtain ⟨rfl, rfl⟩ := h
    exact ⟨rfl, by omega, ha, by simp, by simp [nodesI]⟩
  | k + 1, l, at_, h => by
    unfold rdNs at h
    split at h
    · cases h
    rename_i l0 a0 h0
    split at h
    · cases h
    rename_i x a1 h1
    simp only [Option.some.injEq, Prod.mk.injEq] at h
    obtain ⟨rfl, rfl⟩ := h
    obtain ⟨i1, i2, i3, i4, i5⟩ := rdNs_spec hb ha h0
    obtain ⟨j1, j2, j3, j4⟩ := rdNode_spec hb h1
    refine ⟨by simp [i1], by omega, j2, fun y hy => ?_, ?_⟩
    · rcases List.mem_append.1 hy with hy | hy
      · exact i4 y hy
      · obtain rfl : y = x := by simpa using hy
        exact j3
    · rw [j4, i5, List.append_assoc]
      congr 1
      simp [nodesI]
theorem rdHead_spec {d : List Int} (hb : Bytes d) {st kd n a : Nat} {pl : ByteArray} (h : rdHead d = some (st, pl, kd, n, a)) : a ≤ d.length ∧ st ≤ 2147483647 ∧ kd ≤ 2147483647 ∧ n ≤ 2147483647 ∧ pl.size ≤ 262144 ∧ d.take a = headI st pl kd n := by
  unfold rdHead at h
  split at h
  · cases h
  rename_i v1 a1 h1
  split at h
  · cases h
  rename_i v2 a2 h2
  split at h
  · cases h
  rename_i v3 a3 h3
  split at h
  · cases h
  rename_i v4 a4 h4
  simp only [Option.some.injEq, Prod.mk.injEq] at h
  obtain ⟨rfl, rfl, rfl, rfl, rfl⟩ := h
  obtain ⟨_, b2, b3, b4⟩ := readN_spec hb h1
  obtain ⟨_, c2, c3, c4⟩ := readT_spec hb h2
  obtain ⟨_, d2, d3, d4⟩ := readN_spec hb h3
  obtain ⟨_, e2, e3, e4⟩ := readN_spec hb h4
  refine ⟨e2, b3, d3, e3, c3, ?_⟩
  rw [e4, d4, c4, b4]
  simp [headI]

/-- What bytes are read as. -/
noncomputable def decD (d : List Int) : Option (Int × ByteArray × Int × List Sn) :=
  open Classical in
  match rdHead d with
  | none => none
  | some (st, pl, kd, n, a) => match rdNs d a n with
    | none => none
    | some (l, at_) => if at_ = d.length ∧ checkP st pl kd l l.length then some (st, pl, kd, l) else none

/-- What was read wholly is what is written of it. -/
theorem enc_read {d : List Int} (hb : Bytes d) {st kd n a at_ : Nat} {pl : ByteArray} {l : List Sn} (h1 : rdHead d = some (st, pl, kd, n, a)) (h2 : rdNs d a n = some (l, at_)) : encI st pl kd l l.length = d.take at_ := by
  obtain ⟨e1, _, _, _, _, e2⟩ := rdHead_spec hb h1
  obtain ⟨f1, _, _, _, f2⟩ := rdNs_spec hb e1 h2
  unfold encI
  rw [f2, e2, List.take_length, f1]
end Go.Proofs.YtfohedaadncefaaDoor.HBT
/- The contracts of the texts that read a text from bytes, and of the two readers that stand on them. -/
namespace Go.Proofs.YtfohedaadncefaaDoor.HBT
open Go Go.Proofs.YtfohedaadncefaaDoor.HB Go.RowKit
set_option maxRecDepth 8000

def RtQ (o : Option (ByteArray × Nat)) (r : AV) (L' : AHeap) : Prop :=
  L' = [] ∧ match o with
  | some (s, nx) => r = .tuple [.str s, .int .i64 nx, .int .i64 0]
  | none => ∃ e : Int, e ≠ 0 ∧ r = .tuple [.str ⟨#[]⟩, .int .i64 0, .int .i64 e]
theorem readT_none {d : List Int} {at_ : Nat} (h : readN d at_ = none) : readT d at_ = none := by unfold readT; rw [h]
theorem readT_some {d : List Int} {at_ v fr : Nat} (h : readN d at_ = some (v, fr)) : readT d at_ = if 262144 < v then none else if d.length - fr < v then none else some (strI ((d.drop fr).take v), fr + v) := by unfold readT; rw [h]
theorem stretch (d : List Int) (n fr v : Nat) (h : fr + v ≤ n) : List.take (((fr + v : Nat) : Int) - ((fr : Nat) : Int)).toNat (List.drop fr (u8s d)) = (((d.take n).drop fr).take v).map (.int .u8) := by
  rw [show (((fr + v : Nat) : Int) - ((fr : Nat) : Int)).toNat = v by omega, ← List.map_drop, ← List.map_take]
  congr 1
  rw [List.drop_take, List.take_take, Nat.min_eq_left (by omega)]

theorem readText_spec (d : List Int) (n at_ : Nat) (hn : n ≤ d.length) (hb : Bytes d) (ha : at_ ≤ n) (hN : n ≤ 1000000) : FnSpec C 71 [rdb d n, .int .i64 at_] [] (RtQ (readT (d.take n) at_)) := by
  have c := readNumber_spec d n at_ hn hb ha hN
  have tl : (d.take n).length = n := by rw [List.length_take]; omega
  refine FnSpec.start C_ok Tryd.func71 rfl rfl Tryd.ntmps71 ?_
  repeat (first | refine OpsT.cons ?_ | refine OpsT.nil ?_ | refine OrdE.cons rfl ?_ | refine OrdE.nil ?_ | refine Run.textT C_ok ?_ | refine And.intro rfl ?_ | refine And.intro (Nat.le_of_ble_eq_true rfl) ?_ | refine And.intro (Int.natCast_nonneg _) ?_ | refine fun (_ : Nat) => ?_ | refine Ord.go ?_ | refine Run.go rfl ?_ | refine Cont.go rfl ?_ | refine OrdP.go ?_)
  cases ho : readN (d.take n) at_ with
  | none =>
    rw [ho] at c
    rw [readT_none ho]
    refine ACallT.ok (ACall.pure _ c ?_)
    rintro r L' ⟨rfl, e, he, rfl⟩
    refine ⟨_, Sub.refl _, ?_⟩
    repeat (first | refine OpsT.cons ?_ | refine OpsT.nil ?_ | refine OrdE.cons rfl ?_ | refine OrdE.nil ?_ | refine Run.textT C_ok ?_ | refine And.intro rfl ?_ | refine And.intro (Nat.le_of_ble_eq_true rfl) ?_ | refine And.intro (Int.natCast_nonneg _) ?_ | refine fun (_ : Nat) => ?_ | refine Ord.go ?_ | refine Run.go rfl ?_ | refine Cont.go rfl ?_ | refine OrdP.go ?_)
    refine ⟨fun _ => ?_, fun h => absurd he h⟩
    repeat (first | refine OpsT.cons ?_ | refine OpsT.nil ?_ | refine OrdE.cons rfl ?_ | refine OrdE.nil ?_ | refine Run.textT C_ok ?_ | refine And.intro rfl ?_ | refine And.intro (Nat.le_of_ble_eq_true rfl) ?_ | refine And.intro (Int.natCast_nonneg _) ?_ | refine fun (_ : Nat) => ?_ | refine Ord.go ?_ | refine Run.go rfl ?_ | refine Cont.go rfl ?_ | refine OrdP.go ?_)
    exact ⟨_, [], FinOk.drop _ _, rfl, e, he, rfl⟩
  | some q =>
    obtain ⟨v, fr⟩ := q
    rw [ho] at c
    obtain ⟨e1, e2, e3, _⟩ := readN_spec (hb.take n) ho
    rw [tl] at e2
    rw [readT_some ho, tl]
    refine ACallT.ok (ACall.pure _ c ?_)
    rintro r L' ⟨rfl, rfl⟩
    refine ⟨_, Sub.refl _, ?_⟩
    repeat (first | refine OpsT.cons ?_ | refine OpsT.nil ?_ | refine OrdE.cons rfl ?_ | refine OrdE.nil ?_ | refine Run.textT C_ok ?_ | refine And.intro rfl ?_ | refine And.intro (Nat.le_of_ble_eq_true rfl) ?_ | refine And.intro (Int.natCast_nonneg _) ?_ | refine fun (_ : Nat) => ?_ | refine Ord.go ?_ | refine Run.go rfl ?_ | refine Cont.go rfl ?_ | refine OrdP.go ?_)
    refine ⟨fun h => absurd rfl h, fun _ => ?_⟩
    repeat (first | refine OpsT.cons ?_ | refine OpsT.nil ?_ | refine OrdE.cons rfl ?_ | refine OrdE.nil ?_ | refine Run.textT C_ok ?_ | refine And.intro rfl ?_ | refine And.intro (Nat.le_of_ble_eq_true rfl) ?_ | refine And.intro (Int.natCast_nonneg _) ?_ | refine fun (_ : Nat) => ?_ | refine Ord.go ?_ | refine Run.go rfl ?_ | refine Cont.go rfl ?_ | refine OrdP.go ?_)
    refine ⟨fun h => ?_, fun h => ?_⟩
    · have h : (262144 : Int) < (v : Int) := h
      rw [if_pos (by omega)]
      repeat (first | refine OpsT.cons ?_ | refine OpsT.nil ?_ | refine OrdE.cons rfl ?_ | refine OrdE.nil ?_ | refine Run.textT C_ok ?_ | refine And.intro rfl ?_ | refine And.intro (Nat.le_of_ble_eq_true rfl) ?_ | refine And.intro (Int.natCast_nonneg _) ?_ | refine fun (_ : Nat) => ?_ | refine Ord.go ?_ | refine Run.go rfl ?_ | refine Cont.go rfl ?_ | refine OrdP.go ?_)
      exact ⟨_, [], FinOk.drop _ _, rfl, 2, by decide, rfl⟩
    have hs : ¬ (262144 : Int) < (v : Int) := h
    rw [if_neg (by omega)]
    repeat (first | refine OpsT.cons ?_ | refine OpsT.nil ?_ | refine OrdE.cons rfl ?_ | refine OrdE.nil ?_ | refine Run.textT C_ok ?_ | refine And.intro rfl ?_ | refine And.intro (Nat.le_of_ble_eq_true rfl) ?_ | refine And.intro (Int.natCast_nonneg _) ?_ | refine fun (_ : Nat) => ?_ | refine Ord.go ?_ | refine Run.go rfl ?_ | refine Cont.go rfl ?_ | refine OrdP.go ?_)
    refine fun r hr => ?_
    obtain rfl : r = ((n - fr : Nat) : Int) := by rw [hr, IntKind.wrap_i64]; omega
    repeat (first | refine OpsT.cons ?_ | refine OpsT.nil ?_ | refine OrdE.cons rfl ?_ | refine OrdE.nil ?_ | refine Run.textT C_ok ?_ | refine And.intro rfl ?_ | refine And.intro (Nat.le_of_ble_eq_true rfl) ?_ | refine And.intro (Int.natCast_nonneg _) ?_ | refine fun (_ : Nat) => ?_ | refine Ord.go ?_ | refine Run.go rfl ?_ | refine Cont.go rfl ?_ | refine OrdP.go ?_)
    refine ⟨fun h => ?_, fun h => ?_⟩
    · have h : ((n - fr : Nat) : Int) < (v : Int) := h
      rw [if_pos (by omega)]
      repeat (first | refine OpsT.cons ?_ | refine OpsT.nil ?_ | refine OrdE.cons rfl ?_ | refine OrdE.nil ?_ | refine Run.textT C_ok ?_ | refine And.intro rfl ?_ | refine And.intro (Nat.le_of_ble_eq_true rfl) ?_ | refine And.intro (Int.natCast_nonneg _) ?_ | refine fun (_ : Nat) => ?_ | refine Ord.go ?_ | refine Run.go rfl ?_ | refine Cont.go rfl ?_ | refine OrdP.go ?_)
      exact ⟨_, [], FinOk.drop _ _, rfl, 21, by decide, rfl⟩
    have hl : ¬ (((n - fr : Nat) : Int) < (v : Int)) := h
    rw [if_neg (by omega)]
    repeat (first | refine OpsT.cons ?_ | refine OpsT.nil ?_ | refine OrdE.cons rfl ?_ | refine OrdE.nil ?_ | refine Run.textT C_ok ?_ | refine And.intro rfl ?_ | refine And.intro (Nat.le_of_ble_eq_true rfl) ?_ | refine And.intro (Int.natCast_nonneg _) ?_ | refine fun (_ : Nat) => ?_ | refine Ord.go ?_ | refine Run.go rfl ?_ | refine Cont.go rfl ?_ | refine OrdP.go ?_)
    refine fun r hr => ?_
    obtain rfl : r = ((fr + v : Nat) : Int) := by rw [hr, IntKind.wrap_i64]; omega
    repeat (first | refine OpsT.cons ?_ | refine OpsT.nil ?_ | refine OrdE.cons rfl ?_ | refine OrdE.nil ?_ | refine Run.textT C_ok ?_ | refine And.intro rfl ?_ | refine And.intro (Nat.le_of_ble_eq_true rfl) ?_ | refine And.intro (Int.natCast_nonneg _) ?_ | refine fun (_ : Nat) => ?_ | refine Ord.go ?_ | refine Run.go rfl ?_ | refine Cont.go rfl ?_ | refine OrdP.go ?_)
    refine ⟨by omega, ?_⟩
    repeat (first | refine OpsT.cons ?_ | refine OpsT.nil ?_ | refine OrdE.cons rfl ?_ | refine OrdE.nil ?_ | refine Run.textT C_ok ?_ | refine And.intro rfl ?_ | refine And.intro (Nat.le_of_ble_eq_true rfl) ?_ | refine And.intro (Int.natCast_nonneg _) ?_ | refine fun (_ : Nat) => ?_ | refine Ord.go ?_ | refine Run.go rfl ?_ | refine Cont.go rfl ?_ | refine OrdP.go ?_)
    refine ⟨by rw [u8s_len]; omega, ?_⟩
    repeat (first | refine OpsT.cons ?_ | refine OpsT.nil ?_ | refine OrdE.cons rfl ?_ | refine OrdE.nil ?_ | refine Run.textT C_ok ?_ | refine And.intro rfl ?_ | refine And.intro (Nat.le_of_ble_eq_true rfl) ?_ | refine And.intro (Int.natCast_nonneg _) ?_ | refine fun (_ : Nat) => ?_ | refine Ord.go ?_ | refine Run.go rfl ?_ | refine Cont.go rfl ?_ | refine OrdP.go ?_)
    refine ⟨_, stretch d n fr v (by omega), ?_⟩
    repeat (first | refine OpsT.cons ?_ | refine OpsT.nil ?_ | refine OrdE.cons rfl ?_ | refine OrdE.nil ?_ | refine Run.textT C_ok ?_ | refine And.intro rfl ?_ | refine And.intro (Nat.le_of_ble_eq_true rfl) ?_ | refine And.intro (Int.natCast_nonneg _) ?_ | refine fun (_ : Nat) => ?_ | refine Ord.go ?_ | refine Run.go rfl ?_ | refine Cont.go rfl ?_ | refine OrdP.go ?_)
    refine fun r hr => ?_
    obtain rfl : r = ((fr + v : Nat) : Int) := by rw [hr, IntKind.wrap_i64]; omega
    repeat (first | refine OpsT.cons ?_ | refine OpsT.nil ?_ | refine OrdE.cons rfl ?_ | refine OrdE.nil ?_ | refine Run.textT C_ok ?_ | refine And.intro rfl ?_ | refine And.intro (Nat.le_of_ble_eq_true rfl) ?_ | refine And.intro (Int.natCast_nonneg _) ?_ | refine fun (_ : Nat) => ?_ | refine Ord.go ?_ | refine Run.go rfl ?_ | refine Cont.go rfl ?_ | refine OrdP.go ?_)
    exact ⟨_, [], FinOk.drop _ _, rfl, rfl⟩
theorem refReadText_spec (d : List Int) (n at_ : Nat) (hn : n ≤ d.length) (hb : Bytes d) (ha : at_ ≤ n) (hN : n ≤ 1000000) : FnSpec C 73 [rdb d n, .int .i64 at_] [] (RtQ (readT (d.take n) at_)) := by
  have c := refReadNumber_spec d n at_ hn hb ha hN
  have tl : (d.take n).length = n := by rw [List.length_take]; omega
  refine FnSpec.start C_ok Tryd.func73 rfl rfl Tryd.ntmps73 ?_
  repeat (first | refine OpsT.cons ?_ | refine OpsT.nil ?_ | refine OrdE.cons rfl ?_ | refine OrdE.nil ?_ | refine Run.textT C_ok ?_ | refine And.intro rfl ?_ | refine And.intro (Nat.le_of_ble_eq_true rfl) ?_ | refine And.intro (Int.natCast_nonneg _) ?_ | refine fun (_ : Nat) => ?_ | refine Ord.go ?_ | refine Run.go rfl ?_ | refine Cont.go rfl ?_ | refine OrdP.go ?_)
  cases ho : readN (d.take n) at_ with
  | none =>
    rw [ho] at c
    rw [readT_none ho]
    refine ACallT.ok (ACall.pure _ c ?_)
    rintro r L' ⟨rfl, e, he, rfl⟩
    refine ⟨_, Sub.refl _, ?_⟩
    repeat (first | refine OpsT.cons ?_ | refine OpsT.nil ?_ | refine OrdE.cons rfl ?_ | refine OrdE.nil ?_ | refine Run.textT C_ok ?_ | refine And.intro rfl ?_ | refine And.intro (Nat.le_of_ble_eq_true rfl) ?_ | refine And.intro (Int.natCast_nonneg _) ?_ | refine fun (_ : Nat) => ?_ | refine Ord.go ?_ | refine Run.go rfl ?_ | refine Cont.go rfl ?_ | refine OrdP.go ?_)
    refine ⟨fun _ => ?_, fun h => absurd he h⟩
    repeat (first | refine OpsT.cons ?_ | refine OpsT.nil ?_ | refine OrdE.cons rfl ?_ | refine OrdE.nil ?_ | refine Run.textT C_ok ?_ | refine And.intro rfl ?_ | refine And.intro (Nat.le_of_ble_eq_true rfl) ?_ | refine And.intro (Int.natCast_nonneg _) ?_ | refine fun (_ : Nat) => ?_ | refine Ord.go ?_ | refine Run.go rfl ?_ | refine Cont.go rfl ?_ | refine OrdP.go ?_)
    exact ⟨_, [], FinOk.drop _ _, rfl, e, he, rfl⟩
  | some q =>
    obtain ⟨v, fr⟩ := q
    rw [ho] at c
    obtain ⟨e1, e2, e3, _⟩ := readN_spec (hb.take n) ho
    rw [tl] at e2
    rw [readT_some ho, tl]
    refine ACallT.ok (ACall.pure _ c ?_)
    rintro r L' ⟨rfl, rfl⟩
    refine ⟨_, Sub.refl _, ?_⟩
    repeat (first | refine OpsT.cons ?_ | refine OpsT.nil ?_ | refine OrdE.cons rfl ?_ | refine OrdE.nil ?_ | refine Run.textT C_ok ?_ | refine And.intro rfl ?_ | refine And.intro (Nat.le_of_ble_eq_true rfl) ?_ | refine And.intro (Int.natCast_nonneg _) ?_ | refine fun (_ : Nat) => ?_ | refine Ord.go ?_ | refine Run.go rfl ?_ | refine Cont.go rfl ?_ | refine OrdP.go ?_)
    refine ⟨fun h => absurd rfl h, fun _ => ?_⟩
    repeat (first | refine OpsT.cons ?_ | refine OpsT.nil ?_ | refine OrdE.cons rfl ?_ | refine OrdE.nil ?_ | refine Run.textT C_ok ?_ | refine And.intro rfl ?_ | refine And.intro (Nat.le_of_ble_eq_true rfl) ?_ | refine And.intro (Int.natCast_nonneg _) ?_ | refine fun (_ : Nat) => ?_ | refine Ord.go ?_ | refine Run.go rfl ?_ | refine Cont.go rfl ?_ | refine OrdP.go ?_)
    refine ⟨fun h => ?_, fun h => ?_⟩
    · have h : (262144 : Int) < (v : Int) := h
      rw [if_pos (by omega)]
      repeat (first | refine OpsT.cons ?_ | refine OpsT.nil ?_ | refine OrdE.cons rfl ?_ | refine OrdE.nil ?_ | refine Run.textT C_ok ?_ | refine And.intro rfl ?_ | refine And.intro (Nat.le_of_ble_eq_true rfl) ?_ | refine And.intro (Int.natCast_nonneg _) ?_ | refine fun (_ : Nat) => ?_ | refine Ord.go ?_ | refine Run.go rfl ?_ | refine Cont.go rfl ?_ | refine OrdP.go ?_)
      exact ⟨_, [], FinOk.drop _ _, rfl, 2, by decide, rfl⟩
    have hs : ¬ (262144 : Int) < (v : Int) := h
    rw [if_neg (by omega)]
    repeat (first | refine OpsT.cons ?_ | refine OpsT.nil ?_ | refine OrdE.cons rfl ?_ | refine OrdE.nil ?_ | refine Run.textT C_ok ?_ | refine And.intro rfl ?_ | refine And.intro (Nat.le_of_ble_eq_true rfl) ?_ | refine And.intro (Int.natCast_nonneg _) ?_ | refine fun (_ : Nat) => ?_ | refine Ord.go ?_ | refine Run.go rfl ?_ | refine Cont.go rfl ?_ | refine OrdP.go ?_)
    refine fun r hr => ?_
    obtain rfl : r = ((n - fr : Nat) : Int) := by rw [hr, IntKind.wrap_i64]; omega
    repeat (first | refine OpsT.cons ?_ | refine OpsT.nil ?_ | refine OrdE.cons rfl ?_ | refine OrdE.nil ?_ | refine Run.textT C_ok ?_ | refine And.intro rfl ?_ | refine And.intro (Nat.le_of_ble_eq_true rfl) ?_ | refine And.intro (Int.natCast_nonneg _) ?_ | refine fun (_ : Nat) => ?_ | refine Ord.go ?_ | refine Run.go rfl ?_ | refine Cont.go rfl ?_ | refine OrdP.go ?_)
    refine ⟨fun h => ?_, fun h => ?_⟩
    · have h : ((n - fr : Nat) : Int) < (v : Int) := h
      rw [if_pos (by omega)]
      repeat (first | refine OpsT.cons ?_ | refine OpsT.nil ?_ | refine OrdE.cons rfl ?_ | refine OrdE.nil ?_ | refine Run.textT C_ok ?_ | refine And.intro rfl ?_ | refine And.intro (Nat.le_of_ble_eq_true rfl) ?_ | refine And.intro (Int.natCast_nonneg _) ?_ | refine fun (_ : Nat) => ?_ | refine Ord.go ?_ | refine Run.go rfl ?_ | refine Cont.go rfl ?_ | refine OrdP.go ?_)
      exact ⟨_, [], FinOk.drop _ _, rfl, 21, by decide, rfl⟩
    have hl : ¬ (((n - fr : Nat) : Int) < (v : Int)) := h
    rw [if_neg (by omega)]
    repeat (first | refine OpsT.cons ?_ | refine OpsT.nil ?_ | refine OrdE.cons rfl ?_ | refine OrdE.nil ?_ | refine Run.textT C_ok ?_ | refine And.intro rfl ?_ | refine And.intro (Nat.le_of_ble_eq_true rfl) ?_ | refine And.intro (Int.natCast_nonneg _) ?_ | refine fun (_ : Nat) => ?_ | refine Ord.go ?_ | refine Run.go rfl ?_ | refine Cont.go rfl ?_ | refine OrdP.go ?_)
    refine fun r hr => ?_
    obtain rfl : r = ((fr + v : Nat) : Int) := by rw [hr, IntKind.wrap_i64]; omega
    repeat (first | refine OpsT.cons ?_ | refine OpsT.nil ?_ | refine OrdE.cons rfl ?_ | refine OrdE.nil ?_ | refine Run.textT C_ok ?_ | refine And.intro rfl ?_ | refine And.intro (Nat.le_of_ble_eq_true rfl) ?_ | refine And.intro (Int.natCast_nonneg _) ?_ | refine fun (_ : Nat) => ?_ | refine Ord.go ?_ | refine Run.go rfl ?_ | refine Cont.go rfl ?_ | refine OrdP.go ?_)
    refine ⟨by omega, ?_⟩
    repeat (first | refine OpsT.cons ?_ | refine OpsT.nil ?_ | refine OrdE.cons rfl ?_ | refine OrdE.nil ?_ | refine Run.textT C_ok ?_ | refine And.intro rfl ?_ | refine And.intro (Nat.le_of_ble_eq_true rfl) ?_ | refine And.intro (Int.natCast_nonneg _) ?_ | refine fun (_ : Nat) => ?_ | refine Ord.go ?_ | refine Run.go rfl ?_ | refine Cont.go rfl ?_ | refine OrdP.go ?_)
    refine ⟨by rw [u8s_len]; omega, ?_⟩
    repeat (first | refine OpsT.cons ?_ | refine OpsT.nil ?_ | refine OrdE.cons rfl ?_ | refine OrdE.nil ?_ | refine Run.textT C_ok ?_ | refine And.intro rfl ?_ | refine And.intro (Nat.le_of_ble_eq_true rfl) ?_ | refine And.intro (Int.natCast_nonneg _) ?_ | refine fun (_ : Nat) => ?_ | refine Ord.go ?_ | refine Run.go rfl ?_ | refine Cont.go rfl ?_ | refine OrdP.go ?_)
    refine ⟨_, stretch d n fr v (by omega), ?_⟩
    repeat (first | refine OpsT.cons ?_ | refine OpsT.nil ?_ | refine OrdE.cons rfl ?_ | refine OrdE.nil ?_ | refine Run.textT C_ok ?_ | refine And.intro rfl ?_ | refine And.intro (Nat.le_of_ble_eq_true rfl) ?_ | refine And.intro (Int.natCast_nonneg _) ?_ | refine fun (_ : Nat) => ?_ | refine Ord.go ?_ | refine Run.go rfl ?_ | refine Cont.go rfl ?_ | refine OrdP.go ?_)
    refine fun r hr => ?_
    obtain rfl : r = ((fr + v : Nat) : Int) := by rw [hr, IntKind.wrap_i64]; omega
    repeat (first | refine OpsT.cons ?_ | refine OpsT.nil ?_ | refine OrdE.cons rfl ?_ | refine OrdE.nil ?_ | refine Run.textT C_ok ?_ | refine And.intro rfl ?_ | refine And.intro (Nat.le_of_ble_eq_true rfl) ?_ | refine And.intro (Int.natCast_nonneg _) ?_ | refine fun (_ : Nat) => ?_ | refine Ord.go ?_ | refine Run.go rfl ?_ | refine Cont.go rfl ?_ | refine OrdP.go ?_)
    exact ⟨_, [], FinOk.drop _ _, rfl, rfl⟩
end Go.Proofs.YtfohedaadncefaaDoor.HBT
/- The contracts of the two readers: the shot's, which panics, and the document's, which marks what is bad. -/
namespace Go.Proofs.YtfohedaadncefaaDoor.HBT
open Go Go.Proofs.YtfohedaadncefaaDoor.HB Go.RowKit
set_option maxRecDepth 8000

def T2 : TTab := fun t => match t with
  | 73 => some (.agg [] [])
  | t => T t
theorem T2_ok : TOk Tryd.prog T2 := by
  intro t ti h
  unfold T2 at h
  split at h
  · cases h; kernel_rfl
  · exact T_ok t ti h
noncomputable abbrev C2 : Cx := ⟨Tryd.prog, T2, E, GT, G⟩
theorem C2_ok : C2.Ok := ⟨T2_ok, C_ok.eqs, C_ok.mono, C_ok.globs, C_ok.mixed⟩
theorem toC2 {f : FuncId} {args : List AV} {L : AHeap} {Q : AV → AHeap → Prop} (h : FnSpec C f args L Q) : FnSpec C2 f args L Q := h
theorem toC1 {f : FuncId} {args : List AV} {L : AHeap} {Q : AV → AHeap → Prop} (h : FnSpec C2 f args L Q) : FnSpec C f args L Q := h
/-- What the shot's reader panics with. -/
def wrongV : Value := .iface 73 (.agg #[])

theorem rNumber_spec (d : List Int) (n at_ : Nat) (hn : n ≤ d.length) (hb : Bytes d) (ha : at_ ≤ n) (hN : n ≤ 1000000) (gr : Nat) : FnSpecE C2 42 [.ptr 0 gr 0] [(gr, .cells 77 [rdb d n, .int .i64 at_])]
    (fun r L' => ∃ v nx, readN (d.take n) at_ = some (v, nx) ∧ r = .int .i64 v ∧ L' = [(gr, .cells 77 [rdb d n, .int .i64 nx])])
    (fun pv L' => readN (d.take n) at_ = none ∧ pv = wrongV ∧ L' = [(gr, .cells 77 [rdb d n, .int .i64 at_])]) := by
  have c := toC2 (readNumber_spec d n at_ hn hb ha hN)
  refine FnSpecE.start C2_ok Tryd.func42 rfl rfl Tryd.ntmps42 ?_
  repeat (first | refine OpsT.cons ?_ | refine OpsT.nil ?_ | refine OrdE.cons rfl ?_ | refine OrdE.nil ?_ | refine Run.textT C2_ok ?_ | refine And.intro rfl ?_ | refine And.intro (Nat.le_of_ble_eq_true rfl) ?_ | refine And.intro (Int.natCast_nonneg _) ?_ | refine fun (_ : Nat) => ?_ | refine Ord.go ?_ | refine Run.go rfl ?_ | refine Cont.go rfl ?_ | refine OrdP.go ?_)
  refine Run.drawn true [0, 1, 2, 3, 4, 5, 6, 7, 8, 9, 10, 11, 12, 13, 14, 15] (by kernel_rfl) ?_
  repeat (first | refine OpsT.cons ?_ | refine OpsT.nil ?_ | refine OrdE.cons rfl ?_ | refine OrdE.nil ?_ | refine Run.textT C2_ok ?_ | refine And.intro rfl ?_ | refine And.intro (Nat.le_of_ble_eq_true rfl) ?_ | refine And.intro (Int.natCast_nonneg _) ?_ | refine fun (_ : Nat) => ?_ | refine Ord.go ?_ | refine Run.go rfl ?_ | refine Cont.go rfl ?_ | refine OrdP.go ?_)
  cases ho : readN (d.take n) at_ with
  | none =>
    rw [ho] at c
    refine ACallQ.pure _ c ?_
    rintro r L' ⟨rfl, e, he, rfl⟩
    repeat (first | refine OpsT.cons ?_ | refine OpsT.nil ?_ | refine OrdE.cons rfl ?_ | refine OrdE.nil ?_ | refine Run.textT C2_ok ?_ | refine And.intro rfl ?_ | refine And.intro (Nat.le_of_ble_eq_true rfl) ?_ | refine And.intro (Int.natCast_nonneg _) ?_ | refine fun (_ : Nat) => ?_ | refine Ord.go ?_ | refine Run.go rfl ?_ | refine Cont.go rfl ?_ | refine OrdP.go ?_)
    refine ⟨fun _ => ?_, fun h => absurd he h⟩
    repeat (first | refine OpsT.cons ?_ | refine OpsT.nil ?_ | refine OrdE.cons rfl ?_ | refine OrdE.nil ?_ | refine Run.textT C2_ok ?_ | refine And.intro rfl ?_ | refine And.intro (Nat.le_of_ble_eq_true rfl) ?_ | refine And.intro (Int.natCast_nonneg _) ?_ | refine fun (_ : Nat) => ?_ | refine Ord.go ?_ | refine Run.go rfl ?_ | refine Cont.go rfl ?_ | refine OrdP.go ?_)
    exact ⟨_, _, rfl, FinOk.keep _ [0] (Sub.refl _) (by decide) rfl, rfl, rfl, rfl⟩
  | some q =>
    obtain ⟨v, nx⟩ := q
    rw [ho] at c
    refine ACallQ.pure _ c ?_
    rintro r L' ⟨rfl, rfl⟩
    repeat (first | refine OpsT.cons ?_ | refine OpsT.nil ?_ | refine OrdE.cons rfl ?_ | refine OrdE.nil ?_ | refine Run.textT C2_ok ?_ | refine And.intro rfl ?_ | refine And.intro (Nat.le_of_ble_eq_true rfl) ?_ | refine And.intro (Int.natCast_nonneg _) ?_ | refine fun (_ : Nat) => ?_ | refine Ord.go ?_ | refine Run.go rfl ?_ | refine Cont.go rfl ?_ | refine OrdP.go ?_)
    refine ⟨fun h => absurd rfl h, fun _ => ?_⟩
    repeat (first | refine OpsT.cons ?_ | refine OpsT.nil ?_ | refine OrdE.cons rfl ?_ | refine OrdE.nil ?_ | refine Run.textT C2_ok ?_ | refine And.intro rfl ?_ | refine And.intro (Nat.le_of_ble_eq_true rfl) ?_ | refine And.intro (Int.natCast_nonneg _) ?_ | refine fun (_ : Nat) => ?_ | refine Ord.go ?_ | refine Run.go rfl ?_ | refine Cont.go rfl ?_ | refine OrdP.go ?_)
    exact ⟨_, _, FinOk.keep _ [0] (Sub.refl _) (by decide) rfl, v, nx, rfl, rfl, rfl⟩
theorem rText_spec (d : List Int) (n at_ : Nat) (hn : n ≤ d.length) (hb : Bytes d) (ha : at_ ≤ n) (hN : n ≤ 1000000) (gr : Nat) : FnSpecE C2 43 [.ptr 0 gr 0] [(gr, .cells 77 [rdb d n, .int .i64 at_])]
    (fun r L' => ∃ v nx, readT (d.take n) at_ = some (v, nx) ∧ r = .str v ∧ L' = [(gr, .cells 77 [rdb d n, .int .i64 nx])])
    (fun pv L' => readT (d.take n) at_ = none ∧ pv = wrongV ∧ L' = [(gr, .cells 77 [rdb d n, .int .i64 at_])]) := by
  have c := toC2 (readText_spec d n at_ hn hb ha hN)
  refine FnSpecE.start C2_ok Tryd.func43 rfl rfl Tryd.ntmps43 ?_
  repeat (first | refine OpsT.cons ?_ | refine OpsT.nil ?_ | refine OrdE.cons rfl ?_ | refine OrdE.nil ?_ | refine Run.textT C2_ok ?_ | refine And.intro rfl ?_ | refine And.intro (Nat.le_of_ble_eq_true rfl) ?_ | refine And.intro (Int.natCast_nonneg _) ?_ | refine fun (_ : Nat) => ?_ | refine Ord.go ?_ | refine Run.go rfl ?_ | refine Cont.go rfl ?_ | refine OrdP.go ?_)
  refine Run.drawn true [0, 1, 2, 3, 4, 5, 6, 7, 8, 9, 10, 11, 12, 13, 14, 15] (by kernel_rfl) ?_
  repeat (first | refine OpsT.cons ?_ | refine OpsT.nil ?_ | refine OrdE.cons rfl ?_ | refine OrdE.nil ?_ | refine Run.textT C2_ok ?_ | refine And.intro rfl ?_ | refine And.intro (Nat.le_of_ble_eq_true rfl) ?_ | refine And.intro (Int.natCast_nonneg _) ?_ | refine fun (_ : Nat) => ?_ | refine Ord.go ?_ | refine Run.go rfl ?_ | refine Cont.go rfl ?_ | refine OrdP.go ?_)
  cases ho : readT (d.take n) at_ with
  | none =>
    rw [ho] at c
    refine ACallQ.pure _ c ?_
    rintro r L' ⟨rfl, e, he, rfl⟩
    repeat (first | refine OpsT.cons ?_ | refine OpsT.nil ?_ | refine OrdE.cons rfl ?_ | refine OrdE.nil ?_ | refine Run.textT C2_ok ?_ | refine And.intro rfl ?_ | refine And.intro (Nat.le_of_ble_eq_true rfl) ?_ | refine And.intro (Int.natCast_nonneg _) ?_ | refine fun (_ : Nat) => ?_ | refine Ord.go ?_ | refine Run.go rfl ?_ | refine Cont.go rfl ?_ | refine OrdP.go ?_)
    refine ⟨fun _ => ?_, fun h => absurd he h⟩
    repeat (first | refine OpsT.cons ?_ | refine OpsT.nil ?_ | refine OrdE.cons rfl ?_ | refine OrdE.nil ?_ | refine Run.textT C2_ok ?_ | refine And.intro rfl ?_ | refine And.intro (Nat.le_of_ble_eq_true rfl) ?_ | refine And.intro (Int.natCast_nonneg _) ?_ | refine fun (_ : Nat) => ?_ | refine Ord.go ?_ | refine Run.go rfl ?_ | refine Cont.go rfl ?_ | refine OrdP.go ?_)
    exact ⟨_, _, rfl, FinOk.keep _ [0] (Sub.refl _) (by decide) rfl, rfl, rfl, rfl⟩
  | some q =>
    obtain ⟨v, nx⟩ := q
    rw [ho] at c
    refine ACallQ.pure _ c ?_
    rintro r L' ⟨rfl, rfl⟩
    repeat (first | refine OpsT.cons ?_ | refine OpsT.nil ?_ | refine OrdE.cons rfl ?_ | refine OrdE.nil ?_ | refine Run.textT C2_ok ?_ | refine And.intro rfl ?_ | refine And.intro (Nat.le_of_ble_eq_true rfl) ?_ | refine And.intro (Int.natCast_nonneg _) ?_ | refine fun (_ : Nat) => ?_ | refine Ord.go ?_ | refine Run.go rfl ?_ | refine Cont.go rfl ?_ | refine OrdP.go ?_)
    refine ⟨fun h => absurd rfl h, fun _ => ?_⟩
    repeat (first | refine OpsT.cons ?_ | refine OpsT.nil ?_ | refine OrdE.cons rfl ?_ | refine OrdE.nil ?_ | refine Run.textT C2_ok ?_ | refine And.intro rfl ?_ | refine And.intro (Nat.le_of_ble_eq_true rfl) ?_ | refine And.intro (Int.natCast_nonneg _) ?_ | refine fun (_ : Nat) => ?_ | refine Ord.go ?_ | refine Run.go rfl ?_ | refine Cont.go rfl ?_ | refine OrdP.go ?_)
    exact ⟨_, _, FinOk.keep _ [0] (Sub.refl _) (by decide) rfl, v, nx, rfl, rfl, rfl⟩
theorem cNum_spec (d : List Int) (n at_ : Nat) (hn : n ≤ d.length) (hb : Bytes d) (ha : at_ ≤ n) (hN : n ≤ 1000000) (gr : Nat) (bad : Bool) : FnSpec C 45 [.ptr 0 gr 0] [(gr, .cells 82 [rdb d n, .int .i64 at_, .bool bad])]
    (fun r L' => (bad = false ∧ ∃ v nx, readN (d.take n) at_ = some (v, nx) ∧ r = .int .i64 v ∧ L' = [(gr, .cells 82 [rdb d n, .int .i64 nx, .bool false])]) ∨
      ((bad = true ∨ readN (d.take n) at_ = none) ∧ r = .int .i64 0 ∧ L' = [(gr, .cells 82 [rdb d n, .int .i64 at_, .bool true])])) := by
  have c := refReadNumber_spec d n at_ hn hb ha hN
  refine FnSpec.start C_ok Tryd.func45 rfl rfl Tryd.ntmps45 ?_
  repeat (first | refine Ops.go ?_ | refine And.intro rfl ?_ | refine And.intro (Nat.le_of_ble_eq_true rfl) ?_ | refine And.intro (Int.natCast_nonneg _) ?_ | refine fun (_ : Nat) => ?_ | refine Ord.go ?_ | refine Run.go rfl ?_ | refine Cont.go rfl ?_ | refine OrdP.go ?_)
  refine Run.drawn true [0, 1, 2, 3, 4, 5, 6, 7, 8, 9, 10, 11, 12, 13, 14, 15] (by kernel_rfl) ?_
  repeat (first | refine Ops.go ?_ | refine And.intro rfl ?_ | refine And.intro (Nat.le_of_ble_eq_true rfl) ?_ | refine And.intro (Int.natCast_nonneg _) ?_ | refine fun (_ : Nat) => ?_ | refine Ord.go ?_ | refine Run.go rfl ?_ | refine Cont.go rfl ?_ | refine OrdP.go ?_)
  cases ho : readN (d.take n) at_ with
  | none =>
    rw [ho] at c
    refine ACallQ.pure _ c ?_
    rintro r L' ⟨rfl, e, he, rfl⟩
    cases bad with
    | true =>
      repeat (first | refine Ops.go ?_ | refine And.intro rfl ?_ | refine And.intro (Nat.le_of_ble_eq_true rfl) ?_ | refine And.intro (Int.natCast_nonneg _) ?_ | refine fun (_ : Nat) => ?_ | refine Ord.go ?_ | refine Run.go rfl ?_ | refine Cont.go rfl ?_ | refine OrdP.go ?_)
      exact ⟨_, _, FinOk.keep _ [0] (Sub.refl _) (by decide) rfl, .inr ⟨.inl rfl, rfl, rfl⟩⟩
    | false =>
      repeat (first | refine Ops.go ?_ | refine And.intro rfl ?_ | refine And.intro (Nat.le_of_ble_eq_true rfl) ?_ | refine And.intro (Int.natCast_nonneg _) ?_ | refine fun (_ : Nat) => ?_ | refine Ord.go ?_ | refine Run.go rfl ?_ | refine Cont.go rfl ?_ | refine OrdP.go ?_)
      refine ⟨fun _ => ?_, fun h => absurd he h⟩
      repeat (first | refine Ops.go ?_ | refine And.intro rfl ?_ | refine And.intro (Nat.le_of_ble_eq_true rfl) ?_ | refine And.intro (Int.natCast_nonneg _) ?_ | refine fun (_ : Nat) => ?_ | refine Ord.go ?_ | refine Run.go rfl ?_ | refine Cont.go rfl ?_ | refine OrdP.go ?_)
      exact ⟨_, _, FinOk.keep _ [0] (Sub.refl _) (by decide) rfl, .inr ⟨.inr rfl, rfl, rfl⟩⟩
  | some q =>
    obtain ⟨v, nx⟩ := q
    rw [ho] at c
    refine ACallQ.pure _ c ?_
    rintro r L' ⟨rfl, rfl⟩
    cases bad with
    | true =>
      repeat (first | refine Ops.go ?_ | refine And.intro rfl ?_ | refine And.intro (Nat.le_of_ble_eq_true rfl) ?_ | refine And.intro (Int.natCast_nonneg _) ?_ | refine fun (_ : Nat) => ?_ | refine Ord.go ?_ | refine Run.go rfl ?_ | refine Cont.go rfl ?_ | refine OrdP.go ?_)
      exact ⟨_, _, FinOk.keep _ [0] (Sub.refl _) (by decide) rfl, .inr ⟨.inl rfl, rfl, rfl⟩⟩
    | false =>
      repeat (first | refine Ops.go ?_ | refine And.intro rfl ?_ | refine And.intro (Nat.le_of_ble_eq_true rfl) ?_ | refine And.intro (Int.natCast_nonneg _) ?_ | refine fun (_ : Nat) => ?_ | refine Ord.go ?_ | refine Run.go rfl ?_ | refine Cont.go rfl ?_ | refine OrdP.go ?_)
      refine ⟨fun h => absurd rfl h, fun _ => ?_⟩
      repeat (first | refine Ops.go ?_ | refine And.intro rfl ?_ | refine And.intro (Nat.le_of_ble_eq_true rfl) ?_ | refine And.intro (Int.natCast_nonneg _) ?_ | refine fun (_ : Nat) => ?_ | refine Ord.go ?_ | refine Run.go rfl ?_ | refine Cont.go rfl ?_ | refine OrdP.go ?_)
      exact ⟨_, _, FinOk.keep _ [0] (Sub.refl _) (by decide) rfl, .inl ⟨rfl, v, nx, rfl, rfl, rfl⟩⟩
theorem cTxt_spec (d : List Int) (n at_ : Nat) (hn : n ≤ d.length) (hb : Bytes d) (ha : at_ ≤ n) (hN : n ≤ 1000000) (gr : Nat) (bad : Bool) : FnSpec C 46 [.ptr 0 gr 0] [(gr, .cells 82 [rdb d n, .int .i64 at_, .bool bad])]
    (fun r L' => (bad = false ∧ ∃ v nx, readT (d.take n) at_ = some (v, nx) ∧ r = .str v ∧ L' = [(gr, .cells 82 [rdb d n, .int .i64 nx, .bool false])]) ∨
      ((bad = true ∨ readT (d.take n) at_ = none) ∧ r = .str ⟨#[]⟩ ∧ L' = [(gr, .cells 82 [rdb d n, .int .i64 at_, .bool true])])) := by
  have c := refReadText_spec d n at_ hn hb ha hN
  refine FnSpec.start C_ok Tryd.func46 rfl rfl Tryd.ntmps46 ?_
  repeat (first | refine Ops.go ?_ | refine And.intro rfl ?_ | refine And.intro (Nat.le_of_ble_eq_true rfl) ?_ | refine And.intro (Int.natCast_nonneg _) ?_ | refine fun (_ : Nat) => ?_ | refine Ord.go ?_ | refine Run.go rfl ?_ | refine Cont.go rfl ?_ | refine OrdP.go ?_)
  refine Run.drawn true [0, 1, 2, 3, 4, 5, 6, 7, 8, 9, 10, 11, 12, 13, 14, 15] (by kernel_rfl) ?_
  repeat (first | refine Ops.go ?_ | refine And.intro rfl ?_ | refine And.intro (Nat.le_of_ble_eq_true rfl) ?_ | refine And.intro (Int.natCast_nonneg _) ?_ | refine fun (_ : Nat) => ?_ | refine Ord.go ?_ | refine Run.go rfl ?_ | refine Cont.go rfl ?_ | refine OrdP.go ?_)
  cases ho : readT (d.take n) at_ with
  | none =>
    rw [ho] at c
    refine ACallQ.pure _ c ?_
    rintro r L' ⟨rfl, e, he, rfl⟩
    cases bad with
    | true =>
      repeat (first | refine Ops.go ?_ | refine And.intro rfl ?_ | refine And.intro (Nat.le_of_ble_eq_true rfl) ?_ | refine And.intro (Int.natCast_nonneg _) ?_ | refine fun (_ : Nat) => ?_ | refine Ord.go ?_ | refine Run.go rfl ?_ | refine Cont.go rfl ?_ | refine OrdP.go ?_)
      exact ⟨_, _, FinOk.keep _ [0] (Sub.refl _) (by decide) rfl, .inr ⟨.inl rfl, rfl, rfl⟩⟩
    | false =>
      repeat (first | refine Ops.go ?_ | refine And.intro rfl ?_ | refine And.intro (Nat.le_of_ble_eq_true rfl) ?_ | refine And.intro (Int.natCast_nonneg _) ?_ | refine fun (_ : Nat) => ?_ | refine Ord.go ?_ | refine Run.go rfl ?_ | refine Cont.go rfl ?_ | refine OrdP.go ?_)
      refine ⟨fun _ => ?_, fun h => absurd he h⟩
      repeat (first | refine Ops.go ?_ | refine And.intro rfl ?_ | refine And.intro (Nat.le_of_ble_eq_true rfl) ?_ | refine And.intro (Int.natCast_nonneg _) ?_ | refine fun (_ : Nat) => ?_ | refine Ord.go ?_ | refine Run.go rfl ?_ | refine Cont.go rfl ?_ | refine OrdP.go ?_)
      exact ⟨_, _, FinOk.keep _ [0] (Sub.refl _) (by decide) rfl, .inr ⟨.inr rfl, rfl, rfl⟩⟩
  | some q =>
    obtain ⟨v, nx⟩ := q
    rw [ho] at c
    refine ACallQ.pure _ c ?_
    rintro r L' ⟨rfl, rfl⟩
    cases bad with
    | true =>
      repeat (first | refine Ops.go ?_ | refine And.intro rfl ?_ | refine And.intro (Nat.le_of_ble_eq_true rfl) ?_ | refine And.intro (Int.natCast_nonneg _) ?_ | refine fun (_ : Nat) => ?_ | refine Ord.go ?_ | refine Run.go rfl ?_ | refine Cont.go rfl ?_ | refine OrdP.go ?_)
      exact ⟨_, _, FinOk.keep _ [0] (Sub.refl _) (by decide) rfl, .inr ⟨.inl rfl, rfl, rfl⟩⟩
    | false =>
      repeat (first | refine Ops.go ?_ | refine And.intro rfl ?_ | refine And.intro (Nat.le_of_ble_eq_true rfl) ?_ | refine And.intro (Int.natCast_nonneg _) ?_ | refine fun (_ : Nat) => ?_ | refine Ord.go ?_ | refine Run.go rfl ?_ | refine Cont.go rfl ?_ | refine OrdP.go ?_)
      refine ⟨fun h => absurd rfl h, fun _ => ?_⟩
      repeat (first | refine Ops.go ?_ | refine And.intro rfl ?_ | refine And.intro (Nat.le_of_ble_eq_true rfl) ?_ | refine And.intro (Int.natCast_nonneg _) ?_ | refine fun (_ : Nat) => ?_ | refine Ord.go ?_ | refine Run.go rfl ?_ | refine Cont.go rfl ?_ | refine OrdP.go ?_)
      exact ⟨_, _, FinOk.keep _ [0] (Sub.refl _) (by decide) rfl, .inl ⟨rfl, v, nx, rfl, rfl, rfl⟩⟩
theorem equalB_spec (xs ys : List Int) (n m : Nat) (hx : n ≤ xs.length) (hy : m ≤ ys.length) (hn : n ≤ 30000000) : FnSpec C 44 [rdb xs n, rdb ys m] [] (fun r L' => r = .bool (decide (xs.take n = ys.take m)) ∧ L' = []) := by
  refine FnSpec.start C_ok Tryd.func44 rfl rfl Tryd.ntmps44 ?_
  repeat (first | refine Ops.go ?_ | refine And.intro rfl ?_ | refine And.intro (Nat.le_of_ble_eq_true rfl) ?_ | refine And.intro (Int.natCast_nonneg _) ?_ | refine fun (_ : Nat) => ?_ | refine Ord.go ?_ | refine Run.go rfl ?_ | refine Cont.go rfl ?_ | refine OrdP.go ?_)
  refine ⟨fun h => ?_, fun h => ?_⟩
  · have h : (n : Int) ≠ (m : Int) := h
    repeat (first | refine Ops.go ?_ | refine And.intro rfl ?_ | refine And.intro (Nat.le_of_ble_eq_true rfl) ?_ | refine And.intro (Int.natCast_nonneg _) ?_ | refine fun (_ : Nat) => ?_ | refine Ord.go ?_ | refine Run.go rfl ?_ | refine Cont.go rfl ?_ | refine OrdP.go ?_)
    exact ⟨_, [], FinOk.drop _ _, congrArg AV.bool (show false = _ from (decide_eq_false fun e => by
      have := congrArg List.length e
      rw [List.length_take, List.length_take] at this
      omega).symm), rfl⟩
  have h : ¬ (n : Int) ≠ (m : Int) := h
  have h : n = m := by omega
  subst h
  repeat (first | refine Ops.go ?_ | refine And.intro rfl ?_ | refine And.intro (Nat.le_of_ble_eq_true rfl) ?_ | refine And.intro (Int.natCast_nonneg _) ?_ | refine fun (_ : Nat) => ?_ | refine Ord.go ?_ | refine Run.go rfl ?_ | refine Cont.go rfl ?_ | refine OrdP.go ?_)
  refine Run.loop (fun k env L => ∃ i : Nat, k = n - i ∧ i ≤ n ∧ (∀ j < i, xs[j]? = ys[j]?) ∧ env = [rdb xs n, rdb ys n, .junk, .junk, .junk, .junk, .junk, .junk, .junk, .junk, .junk, .junk, .int .i64 n, .int .i64 i, .junk, .junk, .junk, .junk, .junk, .junk, .junk, .junk, .junk, .junk, .junk, .junk] ∧ L = []) n
    [rdb xs n, rdb ys n, .junk, .junk, .junk, .junk, .junk, .junk, .junk, .junk, .junk, .junk, .int .i64 n, .int .i64 (0 : Nat), .junk, .junk, .junk, .junk, .junk, .junk, .junk, .junk, .junk, .junk, .junk, .junk] ?_ ⟨0, by omega, by omega, (fun j hj => absurd hj (Nat.not_lt_zero j)), rfl, rfl⟩ ?_
  · repeat (first | exact trivial | refine ⟨.inl rfl, ?_⟩ | refine ⟨.inr rfl, ?_⟩)
  rintro k env L ⟨i, rfl, hi, hP, rfl, rfl⟩
  repeat (first | refine Ops.go ?_ | refine And.intro rfl ?_ | refine And.intro (Nat.le_of_ble_eq_true rfl) ?_ | refine And.intro (Int.natCast_nonneg _) ?_ | refine fun (_ : Nat) => ?_ | refine Ord.go ?_ | refine Run.go rfl ?_ | refine Cont.go rfl ?_ | refine OrdP.go ?_)
  refine ⟨fun h => ?_, fun h => ?_⟩
  · have h : (i : Int) < (n : Int) := h
    have hin : i < n := by omega
    obtain ⟨x, ex⟩ : ∃ x, xs[i]? = some x := ⟨xs[i], List.getElem?_eq_getElem (by omega)⟩
    obtain ⟨y, ey⟩ : ∃ y, ys[i]? = some y := ⟨ys[i], List.getElem?_eq_getElem (by omega)⟩
    repeat (first | refine Ops.go ?_ | refine And.intro rfl ?_ | refine And.intro (Nat.le_of_ble_eq_true rfl) ?_ | refine And.intro (Int.natCast_nonneg _) ?_ | refine fun (_ : Nat) => ?_ | refine Ord.go ?_ | refine Run.go rfl ?_ | refine Cont.go rfl ?_ | refine OrdP.go ?_)
    refine Run.drawn true [0, 1, 2, 3, 4, 5, 6, 7, 8] (by kernel_rfl) ?_
    repeat (first | refine Ops.go ?_ | refine And.intro rfl ?_ | refine And.intro (Nat.le_of_ble_eq_true rfl) ?_ | refine And.intro (Int.natCast_nonneg _) ?_ | refine fun (_ : Nat) => ?_ | refine Ord.go ?_ | refine Run.go rfl ?_ | refine Cont.go rfl ?_ | refine OrdP.go ?_)
    refine ⟨h, .int .u8 x, u8s_at _ _ _ ex, ?_⟩
    repeat (first | refine Ops.go ?_ | refine And.intro rfl ?_ | refine And.intro (Nat.le_of_ble_eq_true rfl) ?_ | refine And.intro (Int.natCast_nonneg _) ?_ | refine fun (_ : Nat) => ?_ | refine Ord.go ?_ | refine Run.go rfl ?_ | refine Cont.go rfl ?_ | refine OrdP.go ?_)
    refine ⟨h, .int .u8 y, u8s_at _ _ _ ey, ?_⟩
    repeat (first | refine Ops.go ?_ | refine And.intro rfl ?_ | refine And.intro (Nat.le_of_ble_eq_true rfl) ?_ | refine And.intro (Int.natCast_nonneg _) ?_ | refine fun (_ : Nat) => ?_ | refine Ord.go ?_ | refine Run.go rfl ?_ | refine Cont.go rfl ?_ | refine OrdP.go ?_)
    refine ⟨fun hne => ?_, fun heq => ?_⟩
    · have hne : x ≠ y := hne
      repeat (first | refine Ops.go ?_ | refine And.intro rfl ?_ | refine And.intro (Nat.le_of_ble_eq_true rfl) ?_ | refine And.intro (Int.natCast_nonneg _) ?_ | refine fun (_ : Nat) => ?_ | refine Ord.go ?_ | refine Run.go rfl ?_ | refine Cont.go rfl ?_ | refine OrdP.go ?_)
      exact ⟨_, [], FinOk.drop _ _, congrArg AV.bool (show false = _ from (decide_eq_false fun e => by
        have := congrArg (·[i]?) e
        simp only [List.getElem?_take, hin, if_true, ex, ey, Option.some.injEq] at this
        exact absurd this hne).symm), rfl⟩
    · have heq : x = y := Classical.not_not.1 heq
      repeat (first | refine Ops.go ?_ | refine And.intro rfl ?_ | refine And.intro (Nat.le_of_ble_eq_true rfl) ?_ | refine And.intro (Int.natCast_nonneg _) ?_ | refine fun (_ : Nat) => ?_ | refine Ord.go ?_ | refine Run.go rfl ?_ | refine Cont.go rfl ?_ | refine OrdP.go ?_)
      refine fun r hr => ?_
      obtain rfl := add1 hr (by omega)
      repeat (first | refine Ops.go ?_ | refine And.intro rfl ?_ | refine And.intro (Nat.le_of_ble_eq_true rfl) ?_ | refine And.intro (Int.natCast_nonneg _) ?_ | refine fun (_ : Nat) => ?_ | refine Ord.go ?_ | refine Run.go rfl ?_ | refine Cont.go rfl ?_ | refine OrdP.go ?_)
      refine Cont.lp ?_
      refine ⟨n - (i + 1), _, 99, by omega, ?_, ⟨i + 1, rfl, by omega, ?_, rfl, rfl⟩⟩
      · repeat (first | exact trivial | refine ⟨.inl rfl, ?_⟩ | refine ⟨.inr rfl, ?_⟩)
      · intro j hj
        by_cases e : j = i
        · subst e; rw [ex, ey, heq]
        · exact hP j (by omega)
  · have h : ¬ (i : Int) < (n : Int) := h
    repeat (first | refine Ops.go ?_ | refine And.intro rfl ?_ | refine And.intro (Nat.le_of_ble_eq_true rfl) ?_ | refine And.intro (Int.natCast_nonneg _) ?_ | refine fun (_ : Nat) => ?_ | refine Ord.go ?_ | refine Run.go rfl ?_ | refine Cont.go rfl ?_ | refine OrdP.go ?_)
    exact ⟨_, [], FinOk.drop _ _, congrArg AV.bool (show true = _ from (decide_eq_true (take_eq_of fun j hj => hP j (by omega))).symm), rfl⟩
end Go.Proofs.YtfohedaadncefaaDoor.HBT
/- Lists of a call's own, lent; what the shot's decoding shares with its folding. -/
namespace Go.Proofs.YtfohedaadncefaaDoor.HBT
open Go Go.Proofs.YtfohedaadncefaaDoor.HB Go.RowKit
set_option maxRecDepth 8000

theorem merge_none (L' : AHeap) : ∀ (L : AHeap) (j : Nat), mergeA [] L' j L = L ++ L'
  | [], j => rfl
  | x :: L, j => by
    simp only [mergeA, idxN]
    rw [merge_none L' L (j + 1)]
    rfl
def LN (k : Nat) (l : List Sn) (v : AV) (g : Nat) (o : AObj) : Prop := (l = [] ∧ v = .nils ∧ o = .dead) ∨ (∃ Cp, v = .sl k g Cp l.length ∧ o = .row 50 3 Cp (l.map enc))
abbrev shot0 : AV := shot 0 ⟨#[]⟩ 0 .nils
theorem ACall.lendNew {C : Cx} {f : FuncId} {args args' : List AV} {L : AHeap} {K : AV → AHeap → Prop} {Q : AV → AHeap → Prop} (hl : Lends L args args') (h : FnSpec C f args' [] Q)
    (k : ∀ r L', Q r L' → scals r = true ∧ scalL L' = true ∧ ∃ r', Sub r r' ∧ K r' (L ++ L')) : ACall C f args L K := by
  have hr : restL L [] = L := by unfold restL mergeL; rw [merge_none]; simp
  refine ACall.selLend [] (by decide) args' args' Q (by rw [hr]; exact hl) (Subs.refl _) h fun r L' hq => ?_
  unfold mergeL
  rw [merge_none]
  exact k r L' hq

theorem scal_sns (g Cp : Nat) (l : List Sn) : scalL [(g, .row 50 3 Cp (l.map enc))] = true := by
  have : (flats (l.map enc)).all scal = true := by
    induction l with
    | nil => rfl
    | cons x l ih =>
      rw [List.map_cons, flats_cons, List.all_append, ih]
      rfl
  simp [scalL, scalO, this]
theorem LN.scal {k g : Nat} {l : List Sn} {v : AV} {o : AObj} (h : LN k l v g o) : scals v = true ∧ scalL [(g, o)] = true := by
  rcases h with ⟨_, rfl, rfl⟩ | ⟨Cp, rfl, rfl⟩
  · exact ⟨rfl, rfl⟩
  · exact ⟨rfl, scal_sns _ _ _⟩
theorem LN.move {k g : Nat} {l : List Sn} {v : AV} {o : AObj} (h : LN k l v g o) (k' : Nat) : ∃ v', Sub v v' ∧ LN k' l v' g o := by
  rcases h with ⟨rfl, rfl, rfl⟩ | ⟨Cp, rfl, rfl⟩
  · exact ⟨_, Sub.refl _, .inl ⟨rfl, rfl, rfl⟩⟩
  · exact ⟨_, Sub.sl _ k' _ _ _, .inr ⟨Cp, rfl, rfl⟩⟩
theorem LN.lend {k g : Nat} {l : List Sn} {v : AV} {o : AObj} {L : AHeap} (h : LN k l v g o) (hk : L[k]? = some (g, o)) : Lend L v (rdo l l.length) := by
  rcases h with ⟨rfl, rfl, rfl⟩ | ⟨Cp, rfl, rfl⟩
  · exact .nils 3
  · exact .row k g Cp _ 50 3 _ hk (by rw [List.length_map]; exact Nat.le_refl _)

theorem alike_true (st : Int) (pl : ByteArray) (kd : Int) (l : List Sn) (hn : l.length ≤ 100) : FnSpec C 20 [shot st pl kd (rdo l l.length), shot st pl kd (rdo l l.length)] [] (fun r L' => r = .bool true ∧ L' = []) := by
  have h := alike_spec st st pl pl kd kd l l l.length l.length (Nat.le_refl _) (Nat.le_refl _) hn
  rwa [decide_eq_true (show alikeP st pl kd (l.take l.length) st pl kd (l.take l.length) from ⟨rfl, rfl, rfl, rfl⟩)] at h

end Go.Proofs.YtfohedaadncefaaDoor.HBT
