/- The abstract machine's operations on plain values: what they say, and that the model's own do it. -/
import Derived.Test.YtfohedaadncefaaDoorHbA
import Derived.Lib.SliceRun
import Derived.Great.FillDense
import Derived.Great.BuildSlice
namespace Go.Proofs.YtfohedaadncefaaDoor.HB
open Go

section
variable {P : Program} {o : Oper} {a : Act} {w w' : World} {next : Act → World → Prop} {Q : Exit → Act → World → Prop}
theorem wp_value {v : Value} (h : (execOp a.eval o).run P w = .ok (.value v) w') (hn : next (a.put o.dst v) w') : o.wp P a w next Q := by
  unfold Oper.wp
  rw [h]
  exact hn
theorem wp_skip (h : (execOp a.eval o).run P w = .ok .skip w') (hn : next (a.put o.dst undef) w') : o.wp P a w next Q := by
  unfold Oper.wp
  rw [h]
  exact hn
end

/-- Comparisons: both ways. -/
def both (p : Prop) (K : AV → Prop) : Prop := (p → K (.bool true)) ∧ (¬ p → K (.bool false))

def bitsV (op : BinOp) (k : IntKind) (x y : Int) : Int :=
  let a := BitVec.ofInt k.bits x
  let b := BitVec.ofInt k.bits y
  k.wrap (match op with
    | .and => a &&& b
    | .or => a ||| b
    | .xor => a ^^^ b
    | _ => a &&& ~~~b).toNat

def intBin (op : BinOp) (k : IntKind) (x y : Int) (K : AV → Prop) : Prop :=
  match op with
  | .eql => both (x = y) K
  | .neq => both (x ≠ y) K
  | .lss => both (x < y) K
  | .leq => both (x ≤ y) K
  | .gtr => both (y < x) K
  | .geq => both (y ≤ x) K
  | .add => ∀ r, r = k.wrap (x + y) → K (.int k r)
  | .sub => ∀ r, r = k.wrap (x - y) → K (.int k r)
  | .mul => ∀ r, r = k.wrap (x * y) → K (.int k r)
  | .quo => y ≠ 0 ∧ ∀ r, r = k.wrap (x.tdiv y) → K (.int k r)
  | .rem => y ≠ 0 ∧ ∀ r, r = x.tmod y → K (.int k r)
  | .and => ∀ r, r = bitsV .and k x y → K (.int k r)
  | .or => ∀ r, r = bitsV .or k x y → K (.int k r)
  | .xor => ∀ r, r = bitsV .xor k x y → K (.int k r)
  | .andNot => ∀ r, r = bitsV .andNot k x y → K (.int k r)
  | _ => False

def shiftBin (op : BinOp) (k : IntKind) (x y : Int) (K : AV → Prop) : Prop :=
  match op with
  | .shl => 0 ≤ y ∧ ∀ r, r = k.wrap (x * 2 ^ (min y.toNat k.bits)) → K (.int k r)
  | .shr => 0 ≤ y ∧ ∀ r, r = x.fdiv (2 ^ (min y.toNat k.bits)) → K (.int k r)
  | _ => False

def isShift : BinOp → Bool
  | .shl | .shr => true
  | _ => false

def strBin (op : BinOp) (x y : ByteArray) (K : AV → Prop) : Prop :=
  match op with
  | .eql => both (x = y) K
  | .neq => both (x ≠ y) K
  | .add => (x.size + y.size ≤ 9223372036854775807) ∧ K (.str (x ++ y))
  | .lss => both (Op.bytesLess x.toList y.toList = true) K
  | _ => False

def kindEq : AV → AV → Bool
  | .int k _, .int k' _ => decide (k = k')
  | .str _, .str _ => true
  | .bool _, .bool _ => true
  | _, _ => false
def kindsEq : List AV → List AV → Bool
  | [], [] => true
  | x :: xs, y :: ys => kindEq x y && kindsEq xs ys
  | _, _ => false
def eq1 : AV → AV → Prop
  | .int _ a, .int _ b => a = b
  | .str a, .str b => a = b
  | .bool a, .bool b => a = b
  | _, _ => False
def allEq : List AV → List AV → Prop
  | [], [] => True
  | x :: xs, y :: ys => eq1 x y ∧ allEq xs ys
  | _, _ => False

def isEq : BinOp → Option Bool
  | .eql => some true
  | .neq => some false
  | _ => none

def abin (C : Cx) (op : BinOp) (t : TypeId) (x y : AV) (K : AV → Prop) : Prop :=
  match x, y with
  | .int k a, .int k' b => if isShift op then shiftBin op k a b K else if k = k' then intBin op k a b K else False
  | .str a, .str b => strBin op a b K
  | .bool a, .bool b => match C.T t, isEq op with
    | some (.one .bool _), some true => both (a = b) K
    | some (.one .bool _), some false => both (a ≠ b) K
    | _, _ => False
  | .agg xs, .agg ys => match C.E t, isEq op with
    | some ks, some true => if kindsEq ks xs && kindsEq ks ys then both (allEq xs ys) K else False
    | some ks, some false => if kindsEq ks xs && kindsEq ks ys then both (¬ allEq xs ys) K else False
    | _, _ => False
  | .sl .., .nils => match C.T t, isEq op with
    | some (.slice ..), some true => K (.bool false)
    | some (.slice ..), some false => K (.bool true)
    | _, _ => False
  | .nils, .nils => match C.T t, isEq op with
    | some (.slice ..), some true => K (.bool true)
    | some (.slice ..), some false => K (.bool false)
    | _, _ => False
  | .ro _ xs _, .nils => match C.T t, isEq op with
    | some (.slice ..), some b => (xs ≠ [] → K (.bool !b)) ∧ (xs = [] → ∀ b, K (.bool b))
    | _, _ => False
  | _, _ => False

theorem eqGuard_plain {P : Program} (op : BinOp) (t : TypeId) (x y : Operand) (u v : Value) (w : World) (h1 : ∀ b, u ≠ .agg b) (h2 : u ≠ .nilIface) : (eqGuard op t x y u v).run P w = .ok () w := by
  unfold eqGuard
  cases op <;> simp <;> (cases u <;> first | rfl | exact absurd rfl (h1 _) | exact absurd rfl h2 | (cases v <;> rfl))
theorem isEq_some {op : BinOp} {b : Bool} (h : isEq op = some b) : op = (if b then .eql else .neq) := by
  cases op <;> first | (cases h; done) | (cases h; rfl)
theorem run_nil_cmp {P : Program} (w : World) {op : BinOp} {b : Bool} (ho : isEq op = some b) (t e : TypeId) (a : Option Addr) (n c : Nat) (h : P.underlying t = some (.slice e)) (ox oy : Operand) :
    (do eqGuard op t ox oy (.slice a n c) (.slice none 0 0); binOp op t (.slice a n c) (.slice none 0 0) : Sem Value).run P w = .ok (.bool (a.isNone == b)) w := by
  rw [Sem.run_bind, eqGuard_plain op t ox oy (.slice a n c) (.slice none 0 0) w (by simp) (by simp), Result.andThen_ok]
  have he := Lib.run_equalIn_slice_nil w 9999 t e a n c 0 0 h
  have := isEq_some ho
  cases b <;> subst this
  · cases a <;> simp [binOp, Op.equal, Op.maxDepth] at he ⊢ <;> simp [he]
  · cases a <;> simp [binOp, Op.equal, Op.maxDepth] at he ⊢ <;> simp [he]

theorem bytes_eq (x y : ByteArray) : (x.toList == y.toList) = decide (x = y) := by
  rw [Bool.eq_iff_iff]
  simp only [beq_iff_eq, decide_eq_true_eq]
  rw [ByteArray.toList_eq, ByteArray.toList_eq]
  exact ⟨fun h => ByteArray.ext (Array.toList_inj.mp h), fun h => by rw [h]⟩

theorem both_run {p : Prop} [Decidable p] {K : AV → Prop} (h : both p K) : ∃ b : Bool, b = decide p ∧ K (.bool b) := by
  by_cases hp : p
  · exact ⟨true, by simp [hp], h.1 hp⟩
  · exact ⟨false, by simp [hp], h.2 hp⟩

theorem intBin_run {P : Program} {op : BinOp} {t : TypeId} {k : IntKind} {x y : Int} {K : AV → Prop} (hsh : isShift op = false) (h : intBin op k x y K) :
    ∃ v z, (∀ w, (binOp op t (.int k x) (.int k y)).run P w = .ok v w) ∧ (∀ imm w, VR imm w z v) ∧ K z := by
  have cmp : ∀ (b : Bool) (p : Prop) [Decidable p], (∀ w, (binOp op t (.int k x) (.int k y)).run P w = .ok (.bool b) w) → b = decide p → both p K → ∃ v z, (∀ w, (binOp op t (.int k x) (.int k y)).run P w = .ok v w) ∧ (∀ imm w, VR imm w z v) ∧ K z := by
    intro b p _ hr hb hp
    obtain ⟨c, hc, hK⟩ := both_run hp
    rw [← hb] at hc
    exact ⟨_, _, hr, fun _ _ => .bool _, hc ▸ hK⟩
  cases op
  case eql => exact cmp (x == y) (x = y) (fun w => by simp [binOp, Op.intCmp]) (by rw [Bool.eq_iff_iff]; simp) h
  case neq => exact cmp (x != y) (x ≠ y) (fun w => by simp [binOp, Op.intCmp]) (by rw [Bool.eq_iff_iff]; simp) h
  case lss => exact cmp (decide (x < y)) (x < y) (fun w => by simp [binOp, Op.intCmp]) rfl h
  case leq => exact cmp (decide (x ≤ y)) (x ≤ y) (fun w => by simp [binOp, Op.intCmp]) rfl h
  case gtr => exact cmp (decide (x > y)) (y < x) (fun w => by simp [binOp, Op.intCmp]) rfl h
  case geq => exact cmp (decide (x ≥ y)) (y ≤ x) (fun w => by simp [binOp, Op.intCmp]) rfl h
  case add => exact ⟨_, _, fun w => by simp only [binOp, Op.intArith, ne_eq, not_true_eq_false, if_false]; rfl, fun _ _ => .int _ _, h _ rfl⟩
  case sub => exact ⟨_, _, fun w => by simp only [binOp, Op.intArith, ne_eq, not_true_eq_false, if_false]; rfl, fun _ _ => .int _ _, h _ rfl⟩
  case mul => exact ⟨_, _, fun w => by simp only [binOp, Op.intArith, ne_eq, not_true_eq_false, if_false]; rfl, fun _ _ => .int _ _, h _ rfl⟩
  case quo => exact ⟨_, _, fun w => by simp only [binOp, Op.intDiv, ne_eq, not_true_eq_false, if_false, h.1]; rfl, fun _ _ => .int _ _, h.2 _ rfl⟩
  case rem => exact ⟨_, _, fun w => by simp only [binOp, Op.intDiv, ne_eq, not_true_eq_false, if_false, h.1]; rfl, fun _ _ => .int _ _, h.2 _ rfl⟩
  case and => exact ⟨.int k (bitsV .and k x y), _, fun w => by simp only [binOp, ne_eq, not_true_eq_false, if_false]; rfl, fun _ _ => .int _ _, h _ rfl⟩
  case or => exact ⟨.int k (bitsV .or k x y), _, fun w => by simp only [binOp, ne_eq, not_true_eq_false, if_false]; rfl, fun _ _ => .int _ _, h _ rfl⟩
  case xor => exact ⟨.int k (bitsV .xor k x y), _, fun w => by simp only [binOp, ne_eq, not_true_eq_false, if_false]; rfl, fun _ _ => .int _ _, h _ rfl⟩
  case andNot => exact ⟨.int k (bitsV .andNot k x y), _, fun w => by simp only [binOp, ne_eq, not_true_eq_false, if_false]; rfl, fun _ _ => .int _ _, h _ rfl⟩
  case shl => cases hsh
  case shr => cases hsh

theorem shiftBin_run {P : Program} {op : BinOp} {t : TypeId} {k k' : IntKind} {x y : Int} {K : AV → Prop} (h : shiftBin op k x y K) :
    ∃ v z, (∀ w, (binOp op t (.int k x) (.int k' y)).run P w = .ok v w) ∧ (∀ imm w, VR imm w z v) ∧ K z := by
  cases op <;> simp only [shiftBin] at h <;> first
    | exact h.elim
    | (obtain ⟨h0, h⟩ := h
       have hn : ¬ y < 0 := by omega
       exact ⟨_, _, fun w => by simp only [binOp, Op.shift, hn, if_false]; rfl, fun _ _ => .int _ _, h _ rfl⟩)

theorem strBin_run {P : Program} {op : BinOp} {t : TypeId} {x y : ByteArray} {K : AV → Prop} (h : strBin op x y K) :
    ∃ v z, (∀ w, (binOp op t (.string x) (.string y)).run P w = .ok v w) ∧ (∀ imm w, VR imm w z v) ∧ K z := by
  cases op <;> simp only [strBin] at h <;> first
    | exact h.elim
    | (obtain ⟨hs, hK⟩ := h
       have hn : ¬ (((x.size + y.size : Nat) : Int) > IntKind.i64.max) := by simp [IntKind.max, IntKind.signed, IntKind.bits]; omega
       exact ⟨.string (x ++ y), .str (x ++ y), fun w => by simp only [binOp, Op.stringOp, hn, if_false]; rfl, fun _ _ => .str _, hK⟩)
    | (obtain ⟨b, hb, hK⟩ := both_run h
       refine ⟨.bool b, .bool b, fun w => ?_, fun _ _ => .bool b, hK⟩
       subst hb
       simp only [binOp, Op.stringOp, bytes_eq, Sem.run_pure]
       first | done | (congr 2; simp; done) | (simp; done))

theorem eqOkP_spec {P : Program} {t : TypeId} {ks : List AV} (h : eqOkP P t ks = true) : ∃ fields : Array Field, P.underlying t = some (.struct fields) ∧ P.stoodInHeld t = false ∧ P.eqGuardType P.depth t = false ∧ fieldsOk P fields.toList 0 ks = true := by
  unfold eqOkP at h
  split at h
  case h_2 => cases h
  rename_i fs hu
  simp only [Bool.and_eq_true, Bool.not_eq_true'] at h
  exact ⟨fs, hu, h.1.1, h.1.2, h.2⟩

theorem run_part1 {P : Program} {t : TypeId} {d : TypeDesc} (hu : P.underlying t = some d) (hd : aggD d = false) {xs : Array Value} {i : Nat} {v : Value} (hx : xs[i]? = some v) (w : World) : (part t xs i).run P w = .ok v w := by
  unfold part
  rw [Sem.run_bind]
  have h1 : (isAgg t).run P w = .ok false w := by
    unfold isAgg
    rw [Sem.run_bind, run_underlying hu]
    cases d <;> first | (cases hd; done) | rfl
  rw [h1]
  simp [hx, Result.andThen]

theorem kind_cases {D : Option TypeDesc} {k x y : AV} (hk : kindTy D k = true) (hx : kindEq k x = true) (hy : kindEq k y = true) :
    (∃ kk k0 a b, D = some (.int kk) ∧ x = .int k0 a ∧ y = .int k0 b) ∨ (∃ a b, D = some .bool ∧ x = .bool a ∧ y = .bool b) ∨ (∃ a b, D = some .string ∧ x = .str a ∧ y = .str b) := by
  unfold kindTy at hk
  split at hk
  case h_4 => cases hk
  · refine .inl ?_
    cases x <;> simp only [kindEq] at hx <;> try (cases hx; done)
    cases y <;> simp only [kindEq] at hy <;> try (cases hy; done)
    simp only [decide_eq_true_eq] at hx hy
    subst hx; subst hy
    exact ⟨_, _, _, _, rfl, rfl, rfl⟩
  · refine .inr (.inl ?_)
    cases x <;> simp only [kindEq] at hx <;> try (cases hx; done)
    cases y <;> simp only [kindEq] at hy <;> try (cases hy; done)
    exact ⟨_, _, rfl, rfl, rfl⟩
  · refine .inr (.inr ?_)
    cases x <;> simp only [kindEq] at hx <;> try (cases hx; done)
    cases y <;> simp only [kindEq] at hy <;> try (cases hy; done)
    exact ⟨_, _, rfl, rfl, rfl⟩

theorem eqField_run {P : Program} {imm : Nat → Prop} {w0 : World} (d : Nat) {t : TypeId} {k x y : AV} {u v : Value} (hk : kindTy (P.underlying t) k = true) (hx : kindEq k x = true) (hy : kindEq k y = true) (hu : VR imm w0 x u) (hv : VR imm w0 y v) :
    ∃ b : Bool, (∀ w, (Op.equalIn (d + 1) t u v).run P w = .ok b w) ∧ (b = true ↔ eq1 x y) ∧ ∃ D, P.underlying t = some D ∧ aggD D = false := by
  rcases kind_cases hk hx hy with ⟨kk, k0, a, b, e, rfl, rfl⟩ | ⟨a, b, e, rfl, rfl⟩ | ⟨a, b, e, rfl, rfl⟩
  · cases hu; cases hv
    exact ⟨a == b, fun w => run_equalIn_int w d t _ _ a b e, by simp [eq1], _, e, rfl⟩
  · cases hu; cases hv
    exact ⟨a == b, fun w => run_equalIn_bool w d t a b e, by simp [eq1], _, e, rfl⟩
  · cases hu; cases hv
    exact ⟨a.toList == b.toList, fun w => run_equalIn_string w d t a b e, by rw [bytes_eq]; simp [eq1], _, e, rfl⟩

theorem eqFields_run {P : Program} {imm : Nat → Prop} {w0 : World} (d : Nat) {us vs : Array Value} : ∀ (fs : List Field) (i : Nat) (ks xs ys : List AV), fieldsOk P fs i ks = true → kindsEq ks xs = true → kindsEq ks ys = true →
    (∀ (j : Nat) (x : AV), xs[j]? = some x → ∃ u, us[i + j]? = some u ∧ VR imm w0 x u) → (∀ (j : Nat) (x : AV), ys[j]? = some x → ∃ u, vs[i + j]? = some u ∧ VR imm w0 x u) →
    ∃ b : Bool, (∀ w, (Op.eqFields (d + 1) us vs fs).run P w = .ok b w) ∧ (b = true ↔ allEq xs ys) := by
  intro fs
  induction fs with
  | nil =>
    intro i ks xs ys hf hx hy h1 h2
    cases ks <;> try (cases hf; done)
    cases xs <;> try (cases hx; done)
    cases ys <;> try (cases hy; done)
    exact ⟨true, fun w => rfl, by simp [allEq]⟩
  | cons f fs ih =>
    intro i ks xs ys hf hx hy h1 h2
    cases ks <;> try (cases hf; done)
    cases xs <;> try (cases hx; done)
    cases ys <;> try (cases hy; done)
    rename_i k ks x xs y ys
    simp only [fieldsOk, Bool.and_eq_true, decide_eq_true_eq, beq_iff_eq] at hf
    obtain ⟨⟨⟨f1, f2⟩, f3⟩, f4⟩ := hf
    simp only [kindsEq, Bool.and_eq_true] at hx hy
    obtain ⟨u, eu, hu⟩ := h1 0 x rfl
    obtain ⟨v, ev, hv⟩ := h2 0 y rfl
    obtain ⟨b, hb, hbi, D, hD, hDa⟩ := eqField_run d f3 hx.1 hy.1 hu hv
    obtain ⟨b', hb', hbi'⟩ := ih (i + 1) ks xs ys f4 hx.2 hy.2 (fun j x hj => by rw [Nat.add_assoc, Nat.add_comm 1 j]; exact h1 (j + 1) x hj) (fun j x hj => by rw [Nat.add_assoc, Nat.add_comm 1 j]; exact h2 (j + 1) x hj)
    refine ⟨b && b', fun w => ?_, by simp [allEq, hbi, hbi']⟩
    simp only [Op.eqFields, f1, ne_eq, not_false_eq_true, if_true, Sem.run_bind, f2]
    rw [run_part1 hD hDa (by simpa using eu), Result.andThen_ok, run_part1 hD hDa (by simpa using ev), Result.andThen_ok, hb, Result.andThen_ok]
    cases b
    · rfl
    · simpa using hb' w

theorem abin_run {C : Cx} (hC : C.Ok) {op : BinOp} {t : TypeId} {x y : AV} {u v : Value} {imm : Nat → Prop} {w : World} (hx : VR imm w x u) (hy : VR imm w y v) {K : AV → Prop} (h : abin C op t x y K) (ox oy : Operand) :
    ∃ r z, (∀ w, (do eqGuard op t ox oy u v; binOp op t u v : Sem Value).run C.P w = .ok r w) ∧ VR imm w z r ∧ K z := by
  cases hx <;> try exact h.elim
  case nils =>
    cases hy <;> try exact h.elim
    simp only [abin] at h
    split at h
    · rename_i ht ho
      exact ⟨_, _, fun w => run_nil_cmp w ho t _ none 0 0 (tiOf_slice (hC.types _ _ ht)).1 ox oy, .bool _, h⟩
    · rename_i ht ho
      exact ⟨_, _, fun w => run_nil_cmp w ho t _ none 0 0 (tiOf_slice (hC.types _ _ ht)).1 ox oy, .bool _, h⟩
    · exact h.elim
  case sl k g Cp n =>
    cases hy <;> try exact h.elim
    simp only [abin] at h
    split at h
    · rename_i ht ho
      exact ⟨_, _, fun w => run_nil_cmp w ho t _ (some ⟨g, 0, none⟩) n Cp (tiOf_slice (hC.types _ _ ht)).1 ox oy, .bool _, h⟩
    · rename_i ht ho
      exact ⟨_, _, fun w => run_nil_cmp w ho t _ (some ⟨g, 0, none⟩) n Cp (tiOf_slice (hC.types _ _ ht)).1 ox oy, .bool _, h⟩
    · exact h.elim
  case ro sz xs n A cap vs hn hcap hsz hvl ha h1c hv =>
    cases hy <;> try exact h.elim
    simp only [abin] at h
    split at h
    · rename_i b ht ho
      refine ⟨_, _, fun w => run_nil_cmp w ho t _ A n cap (tiOf_slice (hC.types _ _ ht)).1 ox oy, .bool _, ?_⟩
      by_cases hx : xs = []
      · exact h.2 hx _
      · obtain ⟨a, rfl, _⟩ := ha (List.length_pos_iff.2 hx)
        have := h.1 hx
        cases b <;> exact this
    · exact h.elim
  case int k a =>
    cases hy <;> try exact h.elim
    rename_i k' b
    simp only [abin] at h
    have hgd : ∀ w : World, ∀ {q : Sem Value}, (do eqGuard op t ox oy (.int k a) (.int k' b); q : Sem Value).run C.P w = q.run C.P w := fun w q => by
      rw [Sem.run_bind, eqGuard_plain (P := C.P) op t ox oy (.int k a) (.int k' b) w (by simp) (by simp), Result.andThen_ok]
    split at h
    · obtain ⟨r, z, h1, h2, h3⟩ := shiftBin_run (P := C.P) (t := t) (k' := k') h
      exact ⟨r, z, fun w => (hgd w).trans (h1 w), h2 _ _, h3⟩
    · rename_i hsh
      split at h
      · rename_i e
        subst e
        obtain ⟨r, z, h1, h2, h3⟩ := intBin_run (P := C.P) (t := t) (by simpa using hsh) h
        exact ⟨r, z, fun w => (hgd w).trans (h1 w), h2 _ _, h3⟩
      · exact h.elim
  case str a =>
    cases hy <;> try exact h.elim
    rename_i b
    simp only [abin] at h
    have hgd : ∀ w : World, ∀ {q : Sem Value}, (do eqGuard op t ox oy (.string a) (.string b); q : Sem Value).run C.P w = q.run C.P w := fun w q => by
      rw [Sem.run_bind, eqGuard_plain (P := C.P) op t ox oy (.string a) (.string b) w (by simp) (by simp), Result.andThen_ok]
    obtain ⟨r, z, h1, h2, h3⟩ := strBin_run (P := C.P) (t := t) h
    exact ⟨r, z, fun w => (hgd w).trans (h1 w), h2 _ _, h3⟩
  case bool a =>
    cases hy <;> try exact h.elim
    rename_i b
    simp only [abin] at h
    have hgd : ∀ w : World, ∀ {q : Sem Value}, (do eqGuard op t ox oy (.bool a) (.bool b); q : Sem Value).run C.P w = q.run C.P w := fun w q => by
      rw [Sem.run_bind, eqGuard_plain (P := C.P) op t ox oy (.bool a) (.bool b) w (by simp) (by simp), Result.andThen_ok]
    split at h
    · rename_i z ht ho
      have hu := tiOf_one (hC.types _ _ ht)
      have hop : op = .eql := by cases op <;> first | rfl | cases ho
      subst hop
      obtain ⟨c, hc, hK⟩ := both_run h
      refine ⟨.bool c, _, fun w => ?_, .bool c, hK⟩
      rw [hgd]
      simp only [binOp, Sem.run_bind, run_equal_bool w t a b hu, Result.andThen_ok, Sem.run_pure]
      rw [hc]; congr 2
    · rename_i z ht ho
      have hu := tiOf_one (hC.types _ _ ht)
      have hop : op = .neq := by cases op <;> first | rfl | cases ho
      subst hop
      obtain ⟨c, hc, hK⟩ := both_run h
      refine ⟨.bool c, _, fun w => ?_, .bool c, hK⟩
      rw [hgd]
      simp only [binOp, Sem.run_bind, run_equal_bool w t a b hu, Result.andThen_ok, Sem.run_pure]
      rw [hc]; congr 2; cases a <;> cases b <;> rfl
    · exact h.elim
  case agg xs vs hvl h1 hvv =>
    cases hy <;> try exact h.elim
    rename_i ys us hul h1' huu
    simp only [abin] at h
    have core : ∀ ks, C.E t = some ks → kindsEq ks xs = true → kindsEq ks ys = true → ∃ b : Bool, (∀ w, (Op.equalIn 10000 t (.agg vs.toArray) (.agg us.toArray)).run C.P w = .ok b w) ∧ (b = true ↔ allEq xs ys) ∧ C.P.eqGuardType C.P.depth t = false := by
      intro ks hE hk hk'
      obtain ⟨fields, hu, hst, heg, hall⟩ := eqOkP_spec (hC.eqs t ks hE)
      have hfo : C.P.fieldsOf t = fields := by unfold Program.fieldsOf; rw [hu]
      obtain ⟨b, hb, hb'⟩ := eqFields_run (P := C.P) (imm := imm) (w0 := w) (us := vs.toArray) (vs := us.toArray) 9998 fields.toList 0 ks xs ys hall hk hk'
        (fun j x hj => by
          obtain ⟨u, e, _, hv⟩ := (VRs.mk hvl h1 hvv).get hj
          exact ⟨u, by simpa using e, hv⟩)
        (fun j x hj => by
          obtain ⟨u, e, _, hv⟩ := (VRs.mk hul h1' huu).get hj
          exact ⟨u, by simpa using e, hv⟩)
      refine ⟨b, fun w => ?_, hb', heg⟩
      rw [run_equalIn_struct (P := C.P) w 9999 t vs.toArray us.toArray (by rw [hfo]; exact hu) hst, hfo]
      exact hb w
    split at h
    · rename_i ks hE ho
      split at h
      case isFalse => exact h.elim
      rename_i hcond
      simp only [Bool.and_eq_true] at hcond
      obtain ⟨b, hb, hbi, heg⟩ := core ks hE hcond.1 hcond.2
      have hop : op = .eql := by cases op <;> first | rfl | cases ho
      subst hop
      refine ⟨.bool b, .bool b, fun w => ?_, .bool b, ?_⟩
      · rw [Sem.run_bind, run_eqGuard_agg w _ t ox oy _ _ heg, Result.andThen_ok, run_eql_struct, hb, Result.andThen_ok]
      · cases b
        · exact h.2 (by simpa using hbi)
        · exact h.1 (by simpa using hbi)
    · rename_i ks hE ho
      split at h
      case isFalse => exact h.elim
      rename_i hcond
      simp only [Bool.and_eq_true] at hcond
      obtain ⟨b, hb, hbi, heg⟩ := core ks hE hcond.1 hcond.2
      have hop : op = .neq := by cases op <;> first | rfl | cases ho
      subst hop
      refine ⟨.bool (!b), .bool (!b), fun w => ?_, .bool _, ?_⟩
      · rw [Sem.run_bind, run_eqGuard_agg w _ t ox oy _ _ heg, Result.andThen_ok, run_neq_struct, hb, Result.andThen_ok]
      · cases b
        · exact h.1 (by simpa using hbi)
        · exact h.2 (by simpa using hbi)
    · exact h.elim

end Go.Proofs.YtfohedaadncefaaDoor.HB
/- The abstract machine's operations on memory: what they say, and that the model's own do it. -/
namespace Go.Proofs.YtfohedaadncefaaDoor.HB
open Go

/-! ### Structs built -/
def afill (fs : List (Nat × Nat × Bool)) (cs : List AV) : List (Nat × AV) → Option (List AV)
  | [] => some cs
  | (i, x) :: rest =>
    match fs[i]?, cellsA x with
    | some (off, sz, _), some c => if c.length = sz ∧ off + sz ≤ cs.length then afill fs (splice cs off c) rest else none
    | _, _ => none

theorem fill_set (vs us : List Value) (off : Nat) (h : off + us.length ≤ vs.length) :
    (us.toArray.zipIdx.foldl (fun (cs : Array Value) (x : Value × Nat) => cs.setIfInBounds (off + x.2) x.1) vs.toArray) = (vs.take off ++ us ++ vs.drop (off + us.length)).toArray := by
  obtain ⟨g1, g2⟩ := Great.foldl_set off us 0 vs.toArray
  have e : us.toArray.zipIdx.foldl (fun (cs : Array Value) (x : Value × Nat) => cs.setIfInBounds (off + x.2) x.1) vs.toArray = (us.zipIdx 0).foldl (fun cs (x : Value × Nat) => cs.setIfInBounds (off + x.2) x.1) vs.toArray := by
    rw [← Array.foldl_toList, Array.toList_zipIdx]
  rw [e]
  apply Array.ext_getElem?
  intro k
  rw [g2 k]
  simp only [List.size_toArray, List.getElem?_toArray, Nat.add_zero]
  by_cases h1 : off ≤ k ∧ k < off + us.length ∧ k < vs.length
  · rw [if_pos h1, List.append_assoc, List.getElem?_append_right (by simp; omega), List.getElem?_append_left (by simp; omega)]
    congr 1
    simp
    omega
  · rw [if_neg h1]
    by_cases h2 : k < off
    · rw [List.append_assoc, List.getElem?_append_left (by simp; omega), List.getElem?_take, if_pos h2]
    · rw [List.getElem?_append_right (by simp; omega), List.getElem?_drop]
      by_cases h3 : k < vs.length
      · congr 1; simp; omega
      · rw [List.getElem?_eq_none (by omega), List.getElem?_eq_none (by simp; omega)]

theorem fill_sound {imm : Nat → Prop} {w : World} (fs : List (Nat × Nat × Bool)) (place : Nat → Option (Nat × Nat)) (hp : ∀ i, place i = (fs[i]?).map fun f => (f.1, f.2.1)) :
    ∀ (parts : List (Nat × AV)) (pv : List (Nat × Value)) (cs : List AV) (vs : List Value) (cs' : List AV), parts.length = pv.length →
      (∀ (j : Nat) (p : Nat × AV) (q : Nat × Value), parts[j]? = some p → pv[j]? = some q → p.1 = q.1 ∧ VR imm w p.2 q.2) → VRs imm w cs vs → afill fs cs parts = some cs' →
      ∃ us, Instr.fill place vs.toArray pv = some us.toArray ∧ VRs imm w cs' us
  | [], [], cs, vs, cs', _, _, hv, h => by
    simp only [afill, Option.some.injEq] at h
    subst h
    exact ⟨vs, rfl, hv⟩
  | [], _ :: _, _, _, _, hl, _, _, _ => by simp at hl
  | _ :: _, [], _, _, _, hl, _, _, _ => by simp at hl
  | (i, x) :: rest, (i', u) :: pv, cs, vs, cs', hl, hm, hv, h => by
    obtain ⟨e, hx⟩ := hm 0 _ _ rfl rfl
    simp only at e hx
    subst e
    simp only [afill] at h
    split at h
    case h_2 => cases h
    rename_i off sz _b c hf hc
    split at h
    case isFalse => cases h
    rename_i hcond
    obtain ⟨hcl, hle⟩ := hcond
    have hxs := cellsA_VRs hx hc
    have hul : u.cells.toList.length = c.length := hxs.len
    have hvl := hv.len
    simp only [Instr.fill, hp i, hf, Option.map_some]
    rw [if_neg (by
      simp only [Array.length_toList] at hul
      simp
      omega)]
    have hset := fill_set vs u.cells.toList off (by omega)
    rw [Array.toArray_toList] at hset
    rw [hset]
    exact fill_sound fs place hp rest pv _ _ cs' (by simpa using hl) (fun j p q a b => hm (j + 1) p q (by simpa using a) (by simpa using b)) (hv.splice hxs off) h

theorem built_sound {P : Program} {imm : Nat → Prop} {w : World} {t : TypeId} {fs : List (Nat × Nat × Bool)} {zs : List AV} (ht : tiOf P t = some (.agg fs zs)) (hne : fs.all (fun f => f.2.1 != 0) = true)
    {parts : List (Nat × AV)} {pv : List (Nat × Value)} {cs' : List AV} (hl : parts.length = pv.length)
    (hm : ∀ (j : Nat) (p : Nat × AV) (q : Nat × Value), parts[j]? = some p → pv[j]? = some q → p.1 = q.1 ∧ VR imm w p.2 q.2) (h : afill fs zs parts = some cs') :
    ∃ us, P.built t pv = some us.toArray ∧ VRs imm w cs' us := by
  obtain ⟨fields, hu, hfs, _⟩ := tiOf_agg ht
  obtain ⟨i, d, z, hi, hd, hz, hsz, hag, hzs, h1, hzo, hagg, _⟩ := (tiOf_spec ht).ok
  have hplaces : fields.toList.mapM (fun f => (P.info? f.type).map fun i => (f.offset, i.size)) = some (fs.map fun f => (f.1, f.2.1)) := by
    have key : ∀ l : List Field, (l.map fun f => (f.offset, P.cellsOf f.type, aggT P f.type)).all (fun f => f.2.1 != 0) = true →
        l.mapM (fun f => (P.info? f.type).map fun i => (f.offset, i.size)) = some (l.map fun f => (f.offset, P.cellsOf f.type)) := by
      intro l
      induction l with
      | nil => intro _; rfl
      | cons f l ih =>
        intro hall
        simp only [List.map_cons, List.all_cons, Bool.and_eq_true] at hall
        cases hq : P.info? f.type with
        | none =>
          have hbad := hall.1
          simp [Program.cellsOf, hq] at hbad
        | some q => simp [List.mapM_cons, hq, ih hall.2, Program.cellsOf]
    rw [hfs] at hne ⊢
    rw [key _ hne]
    simp
  have hzv : VRs imm w zs z.cells.toList := by
    have := map_ofV_VRs imm w z.cells.toList h1
    rwa [hzo] at this
  obtain ⟨us, hf, hus⟩ := fill_sound fs (fun i => ((fs.map fun f => (f.1, f.2.1)).toArray)[i]?) (fun i => by simp) parts pv zs z.cells.toList cs' hl hm hzv h
  refine ⟨us, ?_, hus⟩
  unfold Program.built
  simp only [hi, hu, hz, hplaces]
  rw [Array.toArray_toList] at hf
  exact hf

/-! ### Bounds of slices -/
theorem run_bounds {P : Program} (w : World) (isS : Bool) (len cap : Nat) (low high : Option Value) (l h : Int) (hlow : (low = none ∧ l = 0) ∨ ∃ k, low = some (.int k l)) (hhigh : (high = none ∧ h = len) ∨ ∃ k, high = some (.int k h))
    (h0 : 0 ≤ l) (h1 : l ≤ h) (h2 : h ≤ cap) : (Instr.sliceBounds isS len cap low high none).run P w = .ok (l.toNat, h.toNat, cap) w := by
  have hb : ∀ (k : IntKind) (i : Int) (y : Nat) (c : BoundsCode), 0 ≤ i → i ≤ y → (Instr.sliceBound (.int k i) y c).run P w = .ok i.toNat w := by
    intro k i y c a b
    simp only [Instr.sliceBound, asIntOf, Sem.run_bind, Sem.run_pure, Result.andThen_ok]
    rw [if_pos ⟨a, b⟩]
    rfl
  have hl1 : l ≤ (h.toNat : Int) := by omega
  rcases hhigh with ⟨rfl, rfl⟩ | ⟨k, rfl⟩ <;> rcases hlow with ⟨rfl, rfl⟩ | ⟨k', rfl⟩
  · simp [Instr.sliceBounds]
  · simp only [Int.toNat_natCast] at hl1 ⊢
    simp [Instr.sliceBounds, hb _ _ _ _ h0 hl1]
  · simp [Instr.sliceBounds, hb _ _ _ _ (Int.le_trans h0 h1) h2]
  · simp [Instr.sliceBounds, hb _ _ _ _ (Int.le_trans h0 h1) h2, hb _ _ _ _ h0 hl1]

theorem run_sizeOf {P : Program} (w : World) {t : TypeId} {i : TypeInfo} (h : P.info? t = some i) : (sizeOf t).run P w = .ok i.size w := by
  simp [sizeOf, typeInfo, h]

end Go.Proofs.YtfohedaadncefaaDoor.HB
/- The abstract machine's operations, all of them in one, and that the model's own do what they say. -/
namespace Go.Proofs.YtfohedaadncefaaDoor.HB
open Go

def alen : AV → Option Nat
  | .str s => some s.size
  | .sl _ _ _ n => some n
  | .ro _ _ n => some n
  | .nils => some 0
  | _ => none

def aint (env : List AV) (d : Int) (x : Option Operand) (K : Int → Prop) : Prop :=
  match x with
  | none => K d
  | some x => match aeval env x with
    | .int _ n => K n
    | _ => False

def aslice (C : Cx) (t : TypeId) (x : AV) (L : AHeap) (env : List AV) (lo hi : Option Operand) (K : AV → Prop) : Prop :=
  match C.T t, x with
  | some (.one .string _), .str s => aint env 0 lo fun l => aint env s.size hi fun h => 0 ≤ l ∧ l ≤ h ∧ h ≤ s.size ∧ K (.str (s.extract l.toNat h.toNat))
  | some (.slice ..), .sl k g Cp n => match L[k]? with
    | some (g', .row _ _ C' xs) => g' = g ∧ C' = Cp ∧ aint env 0 lo fun l => aint env n hi fun h => l = 0 ∧ 0 ≤ h ∧ h ≤ xs.length ∧ K (.sl k g Cp h.toNat)
    | _ => False
  | some (.slice _ sz' ..), .ro sz xs n => if sz' = sz then aint env 0 lo fun l => aint env n hi fun h => 0 ≤ l ∧ l ≤ h ∧ h ≤ xs.length ∧ K (.ro sz (xs.drop l.toNat) (h - l).toNat) else False
  | some (.slice ..), .nils => aint env 0 lo fun l => aint env 0 hi fun h => l = 0 ∧ h = 0 ∧ K .nils
  | some (.slice _ sz' ..), .sb k g Cp sz lo0 n => if sz' = sz then aint env 0 lo fun l => aint env n hi fun h => 0 ≤ l ∧ l ≤ h ∧ h ≤ (Cp - lo0 : Nat) ∧ K (.sb k g Cp sz (lo0 + l.toNat) (h - l).toNat) else False
  | _, _ => False

/-- The same with a third bound: what it gives is not looked at. -/
def aslice3 (C : Cx) (t : TypeId) (x : AV) (env : List AV) (lo : Option Operand) (hi m : Operand) (K : AV → Prop) : Prop :=
  match C.T t, x with
  | some (.slice ..), .sb _ _ Cp _ lo0 _ => aint env 0 lo fun l => aint env 0 (some hi) fun h => aint env 0 (some m) fun m => 0 ≤ l ∧ l ≤ h ∧ h ≤ m ∧ m ≤ (Cp - lo0 : Nat) ∧ K .junk
  | _, _ => False

def asrc (L : AHeap) (x : AV) (sz : Nat) (K : List AV → Prop) : Prop :=
  match x with
  | .nils => K []
  | .ro sz' xs n => if sz' = sz then K (xs.take n) else False
  | .sl k g Cp n => match L[k]? with
    | some (g', .row _ sz' C' xs) => g' = g ∧ C' = Cp ∧ n ≤ xs.length ∧ if sz' = sz then K (xs.take n) else False
    | _ => False
  | .sb k g Cp sz0 lo n => match L[k]? with
    | some (g', .row _ sz' C' xs) => g' = g ∧ C' = Cp ∧ lo + n ≤ xs.length ∧ if sz' = sz ∧ sz0 = sz then K ((xs.drop lo).take n) else False
    | _ => False
  | _ => False

def aappend (L : AHeap) (e sz bytes : Nat) (s : AV) (ys : List AV) (K : AV → AHeap → Prop) : Prop :=
  match s with
  | .nils => ys.length * bytes ≤ 140737488355328 ∧ (ys = [] → K .nils L) ∧ (ys ≠ [] → ∀ g Cp, K (.sl L.length g Cp ys.length) (L ++ [(g, .row e sz Cp ys)]))
  | .sl k g Cp n => match L[k]? with
    | some (g', .row e' sz' C' xs) => if e' = e ∧ sz' = sz then g' = g ∧ C' = Cp ∧ n = xs.length ∧ (xs.length + ys.length) * bytes ≤ 140737488355328 ∧
        ∀ g2 C2, K (.sl k g2 C2 (xs.length + ys.length)) (L.set k (g2, .row e sz C2 (xs ++ ys))) else False
    | _ => False
  | .sb k g Cp sz0 lo n => match L[k]? with
    | some (g', .row e' sz' C' xs) => if e' = e ∧ sz' = sz ∧ sz0 = sz then g' = g ∧ C' = Cp ∧ lo = 0 ∧ n ≤ xs.length ∧ (n + ys.length) * bytes ≤ 140737488355328 ∧
        (n + ys.length ≤ Cp → K (.sb k g Cp sz 0 (n + ys.length)) (L.set k (g, .row e sz Cp (xs.take n ++ ys)))) ∧
        (Cp < n + ys.length → ∀ g2 C2, n + ys.length ≤ C2 → K (.sb k g2 C2 sz 0 (n + ys.length)) (L.set k (g2, .row e sz C2 (xs.take n ++ ys)))) else False
    | _ => False
  | _ => False

def bytesA (s : ByteArray) : List AV := s.data.toList.map fun b => .int .u8 b.toNat

/-- A row's new elements: each of the right size. -/
def partsOk (sz : Nat) : List (Nat × AV) → Nat → Bool
  | [], _ => true
  | (i, x) :: rest, j => i == j && (match cellsA x with | some c => c.length == sz | none => false) && partsOk sz rest (j + 1)

def aloadT (ti : TI) (cs : List AV) (K : AV → Prop) : Prop :=
  if ti.size ≤ cs.length then (if ti.isAgg then K (.agg (cs.take ti.size)) else match cs with
    | c :: _ => K c
    | [] => False) else False

def abuiltin (C : Cx) (b : Builtin) (ts : Array TypeId) (args : List AV) (L : AHeap) (K : AV → AHeap → Prop) : Prop :=
  match b, ts.toList, args with
  | .len, [t], [x] => match C.T t, x with
    | some (.one .string _), .str s => K (.int .i64 s.size) L
    | some (.slice ..), .sl _ _ _ n => K (.int .i64 n) L
    | some (.slice ..), .ro _ _ n => K (.int .i64 n) L
    | some (.slice ..), .sb _ _ _ _ _ n => K (.int .i64 n) L
    | some (.slice ..), .nils => K (.int .i64 0) L
    | _, _ => False
  | .append, [t, t'], [s, x] => match C.T t with
    | some (.slice e sz bytes _ _) => if bytes = 0 then False else
      if t = t' then asrc L x sz fun ys => aappend L e sz bytes s ys K
      else match C.T t, C.T t', x with
        | some (.slice e' 1 1 false [.int .u8 0]), some (.one .string _), .str u => aappend L e' 1 1 s (bytesA u) K
        | some (.slice ..), some (.one (.int .i64) _), .int .i64 n => match s with
          | .nils => 0 < n ∧ n * bytes ≤ 140737488355328 ∧ ∀ g Cp, K (.sl L.length g Cp n.toNat) (L ++ [(g, .row e sz Cp [])])
          | .sb k g Cp sz0 lo m => match L[k]? with
            | some (g', .row e' sz' C' xs) => if e' = e ∧ sz' = sz ∧ sz0 = sz then g' = g ∧ C' = Cp ∧ lo = 0 ∧ m ≤ xs.length ∧ 0 < n ∧ (Cp : Int) < m + n ∧ (m + n) * bytes ≤ 140737488355328 ∧
                ∀ g2 C2, m + n.toNat ≤ C2 → K (.sb L.length g2 C2 sz 0 (m + n.toNat)) (L ++ [(g2, .row e sz C2 (xs.take m))]) else False
            | _ => False
          | _ => False
        | _, _, _ => False
    | _ => False
  | .min, [_, _], [.int k x, .int k' y] => if k = k' then ∀ r, r = (if y < x then y else x) → K (.int k r) L else False
  | .max, [_, _], [.int k x, .int k' y] => if k = k' then ∀ r, r = (if x < y then y else x) → K (.int k r) L else False
  | .cap, [t], [x] => match C.T t, x with
    | some (.slice ..), .sl _ _ Cp _ => K (.int .i64 Cp) L
    | some (.slice ..), .nils => K (.int .i64 0) L
    | some (.slice ..), .sb _ _ Cp _ lo _ => K (.int .i64 (Cp - lo : Nat)) L
    | _, _ => False
  | .copy, [t, _], [d, x] => match C.T t, d, x with
    | some (.slice e sz _ _ _), .sb k g Cp sz0 lo n, .sb k' g' Cp' sz0' lo' n' => match L[k]?, L[k']? with
      | some (h, .row e1 sz1 C1 xs), some (h', .row _ sz2 C2 xs') => if e1 = e ∧ sz1 = sz ∧ sz0 = sz ∧ sz2 = sz ∧ sz0' = sz then ∀ m, m = min n' n →
          h = g ∧ C1 = Cp ∧ h' = g' ∧ C2 = Cp' ∧ lo ≤ xs.length ∧ lo + m ≤ Cp ∧ lo' + m ≤ xs'.length ∧ K (.int .i64 m) (L.set k (g, .row e sz Cp (xs.take lo ++ (xs'.drop lo').take m ++ xs.drop (lo + m)))) else False
      | _, _ => False
    | _, _, _ => False
  | .clear, [t], [x] => match C.T t, x with
    | some (.slice e sz _ _ _), .sb k g Cp sz0 lo n => match L[k]? with
      | some (h, .row e1 sz1 C1 xs) => if e1 = e ∧ sz1 = sz ∧ sz0 = sz then h = g ∧ C1 = Cp ∧ lo ≤ xs.length ∧ lo + n ≤ Cp ∧ K .junk (L.set k (g, .row e sz Cp (xs.take lo))) else False
      | _ => False
    | _, _ => False
  | _, _, _ => False

/-- A function without captured values. -/
def afun : AV → Option FuncId
  | .any (.func (.func f) ⟨[]⟩ ⟨[]⟩) => some f
  | _ => none
theorem afun_VR {imm : Nat → Prop} {w : World} {x : AV} {v : Value} {f : FuncId} (h : VR imm w x v) (hf : afun x = some f) : v = .func (.func f) #[] #[] := by
  unfold afun at hf
  split at hf
  · cases hf; cases h; rfl
  · cases hf

def aop (C : Cx) (o : Oper) (env : List AV) (L : AHeap) (K : AV → AHeap → Prop) : Prop :=
  match o.op with
  | .move x | .assign x => K (aeval env x) L
  | .pick c a b => match aeval env c with
    | .bool true => K (aeval env a) L
    | .bool false => K (aeval env b) L
    | _ => False
  | .box t x => match cellsA (aeval env x) with
    | some cs => ∀ g, K (.ptr L.length g 0) (L ++ [(g, .cells t cs)])
    | none => False
  | .alloc t => match C.T t with
    | some ti => ∀ g, K (.ptr L.length g 0) (L ++ [(g, .cells t ti.zero)])
    | none => False
  | .load t x => match C.T t with
    | some ti => aptr L (aeval env x) fun cs => aloadT ti cs fun v => K v L
    | none => False
  | .store t x y => match C.T t, cellsA (aeval env y) with
    | some ti, some new => if new.length = ti.size then astore L (aeval env x) new (K .junk) else False
    | _, _ => False
  | .nilCheck x => match aeval env x with
    | .ptr k g off => K (.ptr k g off) L
    | .el k g Cp sz i off => K (.el k g Cp sz i off) L
    | .rel cs => K (.rel cs) L
    | _ => False
  | .binOp op t x y _ => abin C op t (aeval env x) (aeval env y) fun v => K v L
  | .unOp .not _ x => match aeval env x with
    | .bool b => K (.bool !b) L
    | _ => False
  | .fieldAddr t x f => match C.T t with
    | some (.agg fs _) => match fs[f]? with
      | some (off, sz, _) => if sz = 0 then False else match aeval env x with
        | .ptr k g off' => K (.ptr k g (off' + off)) L
        | .el k g Cp sz' i off' => K (.el k g Cp sz' i (off' + off)) L
        | .rel cs => K (.rel (cs.drop off)) L
        | _ => False
      | none => False
    | _ => False
  | .field t x f => match C.T t, aeval env x with
    | some (.agg fs _), .agg cs => match fs[f]? with
      | some (off, sz, true) => if off + sz ≤ cs.length then K (.agg ((cs.drop off).take sz)) L else False
      | some (off, _, false) => match cs[off]? with
        | some c => K c L
        | none => False
      | none => False
    | _, _ => False
  | .build t parts => match C.T t with
    | some (.agg fs zs) => if fs.all (fun f => f.2.1 != 0) then match afill fs zs (parts.toList.map fun p => (p.1, aeval env p.2)) with
      | some cs => K (.agg cs) L
      | none => False else False
    | _ => False
  | .buildSlice t len parts => match C.T t with
    | some (.slice e sz _ _ _) => if len == 0 && parts.toList.isEmpty then ∀ g, K (.sl L.length g 0 0) (L ++ [(g, .row e sz 0 [])]) else if partsOk sz (parts.toList.map fun p => (p.1, aeval env p.2)) 0 && (parts.toList.length == len) && decide (0 < len * sz) && decide (len * sz ≤ 16777216) && decide (len ≤ 9223372036854775807) then
        ∀ g, K (.sl L.length g len len) (L ++ [(g, .row e sz len (parts.toList.map fun p => aeval env p.2))]) else False
    | _ => False
  | .index t x i => match C.T t, aeval env x, aeval env i with
    | some (.one .string _), .str s, .int _ i => 0 ≤ i ∧ ∃ h : i.toNat < s.size, K (.int .u8 (s[i.toNat]'h).toNat) L
    | _, _, _ => False
  | .indexAddr t x i => match C.T t, aeval env x, aeval env i with
    | some (.slice _ sz _ _ _), .sl k g Cp n, .int _ i => 0 ≤ i ∧ i < n ∧ K (.el k g Cp sz i.toNat 0) L
    | some (.slice _ sz _ _ _), .ro sz' xs n, .int _ i => if sz' = sz then 0 ≤ i ∧ i < n ∧ ∃ x, xs[i.toNat]? = some x ∧ K (.rel (flat x)) L else False
    | some (.arr n 1 _ _), .any (.pointer (some ⟨g, 0, none⟩)), .int _ i => match C.GT g with
      | some cs => 0 ≤ i ∧ i < n ∧ ∃ c, cs[i.toNat]? = some c ∧ K (.rel [c]) L
      | none => False
    | _, _, _ => False
  | .slice t x lo hi none => aslice C t (aeval env x) L env lo hi fun v => K v L
  | .slice t x lo (some hi) (some m) => aslice3 C t (aeval env x) env lo hi m fun v => K v L
  | .extract x i => match aeval env x with
    | .tuple xs => match xs[i]? with
      | some c => K c L
      | none => False
    | _ => False
  | .convert src dst x => match C.T src, C.T dst, aeval env x with
    | some (.one (.int _) _), some (.one (.int k) _), .int _ n => ∀ r, r = k.wrap n → K (.int k r) L
    | some (.one .string _), some (.one .string _), .str s => K (.str s) L
    | _, _, _ => False
  | .call { callee := .value x, args, .. } => match afun (aeval env x) with
    | some f => ACall C f (args.toList.map (aeval env)) L K
    | none => False
  | .call { callee := .builtin b, args, argTypes } => abuiltin C b argTypes (args.toList.map (aeval env)) L K
  | _ => False

end Go.Proofs.YtfohedaadncefaaDoor.HB
/- The model's own operations do what the abstract ones say. -/
namespace Go.Proofs.YtfohedaadncefaaDoor.HB
open Go

section
variable {P : Program} {o : Oper} {a : Act} {w w' : World} {next : Act → World → Prop} {Q : Exit → Act → World → Prop}

theorem addr_add0 (g i : Nat) : (⟨g, 0, none⟩ : Addr).add i = ⟨g, i, none⟩ := by unfold Addr.add; split <;> simp_all
theorem addr_addn (g j i : Nat) : (⟨g, j, none⟩ : Addr).add i = ⟨g, j + i, none⟩ := by unfold Addr.add; split <;> simp_all
theorem addr_add_add (a : Addr) (i j : Nat) : (a.add i).add j = a.add (i + j) := by
  unfold Addr.add
  by_cases h : i = 0
  · subst h; simp
  · by_cases k : j = 0
    · subst k; simp [h]
    · simp [h, k]
      omega

theorem aint_run {env : List AV} {a : Act} {imm : Nat → Prop} {w : World} (he : EnvR imm w env a.tmps) {d : Int} {x : Option Operand} {K : Int → Prop} (h : aint env d x K) :
    ∃ l, K l ∧ ((x.map a.eval = none ∧ l = d) ∨ ∃ k, x.map a.eval = some (.int k l)) := by
  cases x with
  | none => exact ⟨d, h, .inl ⟨rfl, rfl⟩⟩
  | some x =>
    have hx := aeval_VR he x
    simp only [aint] at h
    split at h
    · rename_i k n e
      rw [e] at hx
      generalize hv : a.eval x = v at hx
      cases hx
      exact ⟨n, h, .inr ⟨k, by simp [hv]⟩⟩
    · exact h.elim
end

theorem aslice_sound {C : Cx} (hC : C.Ok) {t : TypeId} {x : AV} {L : AHeap} {env : List AV} {lo hi : Option Operand} {K : AV → Prop} (h : aslice C t x L env lo hi K) {imm : Nat → Prop} {w : World} {a : Act} (hs : Sat imm w L) (he : EnvR imm w env a.tmps) {v : Value} (hx : VR imm w x v) :
    ∃ r u, (∀ w', (Instr.sliceAt t v (lo.map a.eval) (hi.map a.eval) none).run C.P w' = .ok u w') ∧ VR imm w r u ∧ K r := by
  unfold aslice at h
  split at h
  · rename_i z s ht
    cases hx
    have hu := tiOf_one (hC.types _ _ ht)
    obtain ⟨l, h, hl⟩ := aint_run he h
    obtain ⟨hh, h, hhi⟩ := aint_run he h
    obtain ⟨h0, h1, h2, hK⟩ := h
    refine ⟨_, .string (s.extract l.toNat hh.toNat), fun w' => ?_, .str _, hK⟩
    have hb := fun w' => run_bounds (P := C.P) w' false s.size s.size (lo.map a.eval) (hi.map a.eval) l hh hl hhi h0 h1 h2
    simp [Instr.sliceAt, Instr.slice, run_underlying hu, hb]
  · rename_i e sz by_ ea zs k g Cp n ht
    cases hx
    split at h
    · rename_i g' e' sz' C' xs hk
      obtain ⟨rfl, rfl, h⟩ := h
      obtain ⟨l, h, hl⟩ := aint_run he h
      obtain ⟨hh, h, hhi⟩ := aint_run he h
      obtain ⟨rfl, h1, h2, hK⟩ := h
      obtain ⟨hu, j, ze, hj, hsz, _⟩ := tiOf_slice (hC.types _ _ ht)
      cases hs.holds k g' _ hk trivial with
      | row _ _ _ _ vs spare hg hs0 hszz hCC hm hxl hv =>
        have hb := fun w' => run_bounds (P := C.P) w' true n C' (lo.map a.eval) (hi.map a.eval) 0 hh hl hhi (Int.le_refl 0) h1 (by omega)
        refine ⟨_, .slice (some ⟨g', 0, none⟩) hh.toNat C', fun w' => ?_, .sl _ _ _ _, hK⟩
        simp [Instr.sliceAt, Instr.slice, run_underlying hu, hb, run_sizeOf w' hj, Addr.add]
    · exact h.elim
  · rename_i e sz' by_ ea zs sz xs n ht
    split at h
    case isFalse => exact h.elim
    rename_i esz
    subst esz
    obtain ⟨hu, j, ze, hj, hsz, _⟩ := tiOf_slice (hC.types _ _ ht)
    obtain ⟨l, h, hl⟩ := aint_run he h
    obtain ⟨hh, h, hhi⟩ := aint_run he h
    obtain ⟨h0, h1, h2, hK⟩ := h
    cases hx with
    | ro _ _ _ A cap vs hn hcap hszz hvl ha h1c hv =>
      have hb := fun w' => run_bounds (P := C.P) w' true n cap (lo.map a.eval) (hi.map a.eval) l hh hl hhi h0 h1 (by omega)
      refine ⟨_, .slice (if cap = l.toNat then A else A.map (·.add (l.toNat * sz'))) (hh.toNat - l.toNat) (cap - l.toNat), fun w' => ?_, ?_, hK⟩
      · simp [Instr.sliceAt, Instr.slice, run_underlying hu, hb, run_sizeOf w' hj, hsz]
      · have hfl := flats_length hszz
        have hdrop : flats (xs.drop l.toNat) = (flats xs).drop (l.toNat * sz') := by
          have h3 : l.toNat ≤ xs.length := by omega
          have h4 : flats (xs.take l.toNat) ++ flats (xs.drop l.toNat) = flats xs := by rw [← flats_append, List.take_append_drop]
          have h5 : (flats (xs.take l.toNat)).length = l.toNat * sz' := by
            rw [flats_length (fun x hx => hszz x (List.mem_of_mem_take hx)), List.length_take, Nat.min_eq_left h3]
          rw [← h4, ← h5, List.drop_left]
        have hVRs : VRs imm w (flats xs) vs := ⟨hvl, h1c, hv⟩
        have hd := hVRs.drop (l.toNat * sz')
        rw [← hdrop] at hd
        have hnn : (hh - l).toNat = hh.toNat - l.toNat := by omega
        rw [hnn]
        refine .ro sz' (xs.drop l.toNat) _ _ _ (vs.drop (l.toNat * sz')) (by simp; omega) (by simp; omega) (fun x hx => hszz x (List.mem_of_mem_drop hx)) hd.len (fun hp => ?_) hd.one hd.at_
        simp only [List.length_drop] at hp
        obtain ⟨ad, rfl, him, hc⟩ := ha (by omega)
        rw [if_neg (by omega)]
        refine ⟨ad.add (l.toNat * sz'), rfl, ?_, fun j u hj => ?_⟩
        · rw [show (ad.add (l.toNat * sz')).block = ad.block by unfold Addr.add; split <;> rfl]; exact him
        · rw [addr_add_add]
          rw [List.getElem?_drop] at hj
          exact hc _ u hj
  · rename_i e sz by_ ea zs ht
    cases hx
    obtain ⟨hu, j, ze, hj, hsz, _⟩ := tiOf_slice (hC.types _ _ ht)
    obtain ⟨l, h, hl⟩ := aint_run he h
    obtain ⟨hh, h, hhi⟩ := aint_run he h
    obtain ⟨rfl, rfl, hK⟩ := h
    have hb := fun w' => run_bounds (P := C.P) w' true 0 0 (lo.map a.eval) (hi.map a.eval) 0 0 hl hhi (Int.le_refl 0) (Int.le_refl 0) (by omega)
    refine ⟨_, .slice none 0 0, fun w' => ?_, .nils, hK⟩
    simp [Instr.sliceAt, Instr.slice, run_underlying hu, hb, run_sizeOf w' hj]
  · rename_i e sz' by_ ea zs k g Cp sz lo0 n ht
    split at h
    case isFalse => exact h.elim
    rename_i esz
    subst esz
    obtain ⟨hu, j, ze, hj, hsz, _⟩ := tiOf_slice (hC.types _ _ ht)
    obtain ⟨l, h, hl⟩ := aint_run he h
    obtain ⟨hh, h, hhi⟩ := aint_run he h
    obtain ⟨h0, h1, h2, hK⟩ := h
    cases hx with
    | sb _ _ _ _ _ _ off e1 e0 =>
      have hb := fun w' => run_bounds (P := C.P) w' true n (Cp - lo0) (lo.map a.eval) (hi.map a.eval) l hh hl hhi h0 h1 (by omega)
      have hnn : (hh - l).toNat = hh.toNat - l.toNat := by omega
      rw [hnn] at hK
      refine ⟨_, .slice (some ⟨g, if Cp - lo0 = l.toNat then off else off + l.toNat * sz', none⟩) (hh.toNat - l.toNat) (Cp - lo0 - l.toNat), fun w' => ?_, ?_, hK⟩
      · simp only [Instr.sliceAt, Instr.slice, run_underlying hu, hb, run_sizeOf w' hj, hsz, Sem.run_bind, Sem.run_pure, Result.andThen_ok]
        by_cases hc : Cp - lo0 = l.toNat
        · simp [hc]
        · simp [hc, addr_addn]
      · rw [Nat.sub_sub]
        refine .sb _ _ _ _ _ _ _ (fun hlt => ?_) (fun hz => ?_)
        · rw [if_neg (by omega), e1 (by omega), Nat.add_mul]
        · have := e0 (by omega)
          have hl0 : l.toNat = 0 := by omega
          rw [this, hl0]
          simp
  · exact h.elim

theorem run_bounds3 {P : Program} (w : World) (len cap : Nat) (low : Option Value) (k1 k2 : IntKind) (l h m : Int) (hlow : (low = none ∧ l = 0) ∨ ∃ k, low = some (.int k l))
    (h0 : 0 ≤ l) (h1 : l ≤ h) (h2 : h ≤ m) (h3 : m ≤ cap) : (Instr.sliceBounds true len cap low (some (.int k1 h)) (some (.int k2 m))).run P w = .ok (l.toNat, h.toNat, m.toNat) w := by
  have hb : ∀ (k : IntKind) (i : Int) (y : Nat) (c : BoundsCode), 0 ≤ i → i ≤ y → (Instr.sliceBound (.int k i) y c).run P w = .ok i.toNat w := by
    intro k i y c a b
    simp only [Instr.sliceBound, asIntOf, Sem.run_bind, Sem.run_pure, Result.andThen_ok]
    rw [if_pos ⟨a, b⟩]
    rfl
  have e1 := hb k2 m cap .slice3Acap (by omega) (by omega)
  have e2 := hb k1 h m.toNat .slice3B (by omega) (by omega)
  rcases hlow with ⟨rfl, rfl⟩ | ⟨k, rfl⟩
  · simp [Instr.sliceBounds, e1, e2]
  · have e3 := hb k l h.toNat .slice3C h0 (by omega)
    simp [Instr.sliceBounds, e1, e2, e3]

theorem aslice3_sound {C : Cx} (hC : C.Ok) {t : TypeId} {x : AV} {env : List AV} {lo : Option Operand} {hi m : Operand} {K : AV → Prop} (h : aslice3 C t x env lo hi m K) {imm : Nat → Prop} {w : World} {a : Act} (he : EnvR imm w env a.tmps) {v : Value} (hx : VR imm w x v) :
    ∃ u, (∀ w', (Instr.sliceAt t v (lo.map a.eval) (some (a.eval hi)) (some (a.eval m))).run C.P w' = .ok u w') ∧ K .junk := by
  unfold aslice3 at h
  split at h
  · rename_i e sz' by_ ea zs k g Cp sz lo0 n ht
    obtain ⟨hu, j, ze, hj, hsz, _⟩ := tiOf_slice (hC.types _ _ ht)
    obtain ⟨l, h, hl⟩ := aint_run he h
    obtain ⟨hh, h, hhi⟩ := aint_run he h
    obtain ⟨mm, h, hmm⟩ := aint_run he h
    obtain ⟨h0, h1, h2, h3, hK⟩ := h
    obtain ⟨k1, hk1⟩ : ∃ k, a.eval hi = .int k hh := by
      rcases hhi with ⟨e, _⟩ | ⟨k, e⟩
      · cases e
      · exact ⟨k, by simpa using e⟩
    obtain ⟨k2, hk2⟩ : ∃ k, a.eval m = .int k mm := by
      rcases hmm with ⟨e, _⟩ | ⟨k, e⟩
      · cases e
      · exact ⟨k, by simpa using e⟩
    rw [hk1, hk2]
    cases hx with
    | sb _ _ _ _ _ _ off e1 e0 =>
      have hb := fun w' => run_bounds3 (P := C.P) w' n (Cp - lo0) (lo.map a.eval) k1 k2 l hh mm hl h0 h1 h2 (by omega)
      refine ⟨.slice (if mm.toNat = l.toNat then some ⟨g, off, none⟩ else (some (⟨g, off, none⟩ : Addr)).map (·.add (l.toNat * j.size))) (hh.toNat - l.toNat) (mm.toNat - l.toNat), fun w' => ?_, hK⟩
      simp only [Instr.sliceAt, Instr.slice, run_underlying hu, hb, run_sizeOf w' hj, Sem.run_bind, Sem.run_pure, Result.andThen_ok]
  · exact h.elim

theorem flats_drop {sz : Nat} {xs : List AV} (h : ∀ x ∈ xs, (flat x).length = sz) {l : Nat} (hl : l ≤ xs.length) : flats (xs.drop l) = (flats xs).drop (l * sz) := by
  have h4 : flats (xs.take l) ++ flats (xs.drop l) = flats xs := by rw [← flats_append, List.take_append_drop]
  have h5 : (flats (xs.take l)).length = l * sz := by
    rw [flats_length (fun x hx => h x (List.mem_of_mem_take hx)), List.length_take, Nat.min_eq_left hl]
  rw [← h4, ← h5, List.drop_left]
theorem flats_take {sz : Nat} {xs : List AV} (h : ∀ x ∈ xs, (flat x).length = sz) {l : Nat} (hl : l ≤ xs.length) : flats (xs.take l) = (flats xs).take (l * sz) := by
  have h4 : flats (xs.take l) ++ flats (xs.drop l) = flats xs := by rw [← flats_append, List.take_append_drop]
  have h5 : (flats (xs.take l)).length = l * sz := by
    rw [flats_length (fun x hx => h x (List.mem_of_mem_take hx)), List.length_take, Nat.min_eq_left hl]
  rw [← h4, ← h5, List.take_left]

/-- A stretch of a row: its values, and where they lie. -/
theorem row_part {imm : Nat → Prop} {w : World} {g e sz Cp : Nat} {xs : List AV} (h : Holds imm w g (.row e sz Cp xs)) {lo n : Nat} (hn : lo + n ≤ xs.length) :
    ∃ news, VRs imm w (flats ((xs.drop lo).take n)) news ∧ news.length = n * sz ∧ (∀ y ∈ (xs.drop lo).take n, (flat y).length = sz) ∧ ∀ (j : Nat) (u : Value), news[j]? = some u → w.cell? ((⟨g, lo * sz, none⟩ : Addr).add j) = some u := by
  cases h with
  | row _ _ _ _ vs spare hg hs0 hsz hCC hm hxl hv =>
    have h1 := flats_drop hsz (l := lo) (by omega)
    have hsz' : ∀ y ∈ xs.drop lo, (flat y).length = sz := fun y hy => hsz y (List.mem_of_mem_drop hy)
    have h2 := flats_take hsz' (l := n) (by simp; omega)
    have hsz2 : ∀ y ∈ (xs.drop lo).take n, (flat y).length = sz := fun y hy => hsz' y (List.mem_of_mem_take hy)
    have hd := (hv.drop (lo * sz)).take (n * sz)
    rw [← h1, ← h2] at hd
    refine ⟨(vs.drop (lo * sz)).take (n * sz), hd, ?_, hsz2, fun j u hj => ?_⟩
    · rw [hd.len, flats_length hsz2, List.length_take, List.length_drop]
      congr 1
      omega
    · rw [List.getElem?_take] at hj
      split at hj
      · rw [List.getElem?_drop] at hj
        have hlt := (List.getElem?_eq_some_iff.1 hj).1
        exact cell_at hg (lo * sz) j u (by rw [List.getElem?_drop, List.getElem?_append_left hlt]; exact hj)
      · cases hj

/-- What is appended. -/
theorem asrc_sound {imm : Nat → Prop} {w : World} {L : AHeap} (hs : Sat imm w L) {x : AV} {v : Value} (hx : VR imm w x v) {sz : Nat} {K : List AV → Prop} (h : asrc L x sz K) :
    ∃ A m c ys news, v = .slice A m c ∧ m = ys.length ∧ K ys ∧ VRs imm w (flats ys) news ∧ (∀ y ∈ ys, (flat y).length = sz) ∧ (0 < m → ∃ ad, A = some ad ∧ ∀ (j : Nat) (u : Value), news[j]? = some u → w.cell? (ad.add j) = some u) ∧ (A = none → m = 0) := by
  have tk : ∀ {xs : List AV} {vs : List Value} {n : Nat}, (∀ x ∈ xs, (flat x).length = sz) → n ≤ xs.length → VRs imm w (flats xs) vs → VRs imm w (flats (xs.take n)) (vs.take (n * sz)) := by
    intro xs vs n h1 h2 h3
    have h4 : flats (xs.take n) ++ flats (xs.drop n) = flats xs := by rw [← flats_append, List.take_append_drop]
    have h5 : (flats (xs.take n)).length = n * sz := by
      rw [flats_length (fun x hx => h1 x (List.mem_of_mem_take hx)), List.length_take, Nat.min_eq_left h2]
    have := h3.take (n * sz)
    rw [← h4, ← h5, List.take_left] at this
    rwa [h5] at this
  cases hx with
  | nils => exact ⟨none, 0, 0, [], [], rfl, rfl, h, .nil _ _, by simp, by simp, fun _ => rfl⟩
  | ro sz' xs n A cap vs hn hcap hsz hvl ha h1c hv =>
    simp only [asrc] at h
    split at h
    case isFalse => exact h.elim
    rename_i e
    subst e
    refine ⟨A, n, cap, xs.take n, vs.take (n * sz'), rfl, by simp; omega, h, tk hsz hn ⟨hvl, h1c, hv⟩, fun y hy => hsz y (List.mem_of_mem_take hy), fun hp => ?_, fun e => ?_⟩
    · obtain ⟨ad, e, _, hc⟩ := ha (by omega)
      refine ⟨ad, e, fun j u hj => hc j u ?_⟩
      rw [List.getElem?_take] at hj
      split at hj
      · exact hj
      · cases hj
    · rcases Nat.eq_zero_or_pos n with h0 | h0
      · exact h0
      · obtain ⟨ad, e', _⟩ := ha (by omega)
        rw [e] at e'; cases e'
  | sl k g Cp n =>
    simp only [asrc] at h
    split at h
    · rename_i g' e sz' C' xs hk
      obtain ⟨rfl, rfl, hn, h⟩ := h
      split at h
      case isFalse => exact h.elim
      rename_i e1
      subst e1
      cases hs.holds k g' _ hk trivial with
      | row _ _ _ _ vs spare hg hs0 hsz hCC hm hxl hv =>
        refine ⟨_, n, C', xs.take n, vs.take (n * sz'), rfl, by simp; omega, h, tk hsz hn hv, fun y hy => hsz y (List.mem_of_mem_take hy), fun _ => ⟨_, rfl, fun j u hj => ?_⟩, fun e => by cases e⟩
        have hlt : j < vs.length := by
          have := (List.getElem?_eq_some_iff.1 hj).1
          simp at this
          omega
        rw [List.getElem?_take] at hj
        split at hj
        · exact cell_at hg 0 j u (by rw [List.drop_zero, List.getElem?_append_left hlt]; exact hj)
        · cases hj
    · exact h.elim
  | sb k g Cp sz0 lo n off e1 e0 =>
    simp only [asrc] at h
    split at h
    · rename_i g' e sz' C' xs hk
      obtain ⟨rfl, rfl, hn, h⟩ := h
      split at h
      case isFalse => exact h.elim
      rename_i e2
      obtain ⟨rfl, rfl⟩ := e2
      have hh := hs.holds k g' _ hk trivial
      obtain ⟨news, a1, a2, a3, a4⟩ := row_part hh hn
      have hCx : xs.length ≤ C' := by cases hh; assumption
      refine ⟨_, n, _, (xs.drop lo).take n, news, rfl, by simp; omega, h, a1, a3, fun hp => ⟨_, rfl, fun j u hj => ?_⟩, fun e => by cases e⟩
      rw [e1 (by omega)]
      exact a4 j u hj
    · exact h.elim
  | _ => exact h.elim

theorem run_append_none {P : Program} (w : World) (t ty e : TypeId) (i : TypeInfo) (ht : P.underlying t = some (.slice e)) (hi : P.info? e = some i) (A : Option Addr) (n cap c : Nat) (hn : n ≤ cap) :
    (Builtin.append_ #[t, t] ty #[.slice A n cap, .slice none 0 c]).run P w = .ok (.slice A n cap) w := by
  cases A <;> simp [Builtin.append_, run_underlying ht, sizeOf, typeInfo, hi, Builtin.lenOf, Builtin.firstCells, hn, storeCells]

/-- The row behind an append. -/
theorem owns_row {imm : Nat → Prop} {w : World} {g : Nat} {e sz Cp : Nat} {xs : List AV} (h : Holds imm w g (.row e sz Cp xs)) :
    ∃ vs, VRs imm w (flats xs) vs ∧ w.ownsRow 0 e sz (.slice (some ⟨g, 0, none⟩) xs.length Cp) xs.length vs ∧ (∀ x ∈ xs, (flat x).length = sz) := by
  cases h with
  | row _ _ _ _ vs spare hg hs0 hsz hCC hm hxl hv =>
    have hl : vs.length = xs.length * sz := by rw [hv.len, flats_length hsz]
    refine ⟨vs, hv, ⟨hl, .inr ⟨g, Cp, _, rfl, Nat.zero_le _, hg, hxl, hm, by simpa using hCC, ?_⟩⟩, hsz⟩
    rw [← hl]
    simp
theorem row_owns {imm : Nat → Prop} {w : World} {g : Nat} {e sz Cp n : Nat} {xs : List AV} {vs : List Value} (hn : n = xs.length) (h : w.ownsRow 0 e sz (.slice (some ⟨g, 0, none⟩) n Cp) n vs) (hs0 : 0 < sz) (hsz : ∀ x ∈ xs, (flat x).length = sz) (hv : VRs imm w (flats xs) vs) :
    Holds imm w g (.row e sz Cp xs) ∧ g < w.heap.size := by
  subst hn
  obtain ⟨hl, h | ⟨g', cap, cur, hv', _, hg, hnc, hcm, hcs, htake⟩⟩ := h
  · cases h.1
  · cases hv'
    have e1 : vs ++ cur.toList.drop vs.length = cur.toList := by
      conv => rhs; rw [← List.take_append_drop (xs.length * sz) cur.toList]
      rw [htake, ← hl]
    refine ⟨.row e sz Cp xs vs (cur.toList.drop vs.length) ?_ hs0 hsz ?_ hcm hnc hv, (Array.getElem?_eq_some_iff.1 hg).1⟩
    · rw [e1, Array.toArray_toList]; exact hg
    · rw [e1]; simpa using hcs

theorem VRs.grown {imm : Nat → Prop} {w w' : World} {L : AHeap} (hs : Sat imm w L) {xs : List AV} {vs : List Value} (h : VRs imm w xs vs) {row : Option Nat} (hg : w.grownBy w' row) (hrow : ∀ g, row = some g → Own L g) : VRs imm w' xs vs :=
  h.mono (fun _ x => x) (fun a ha => World.cell?_of_block (hg.block a.block (hs.immlt _ ha) (fun e => hs.far _ (hrow _ e.symm) ha)))

theorem aappend_sound {P : Program} {imm : Nat → Prop} {w : World} {L : AHeap} (hs : Sat imm w L) {t ty e sz bytes : Nat} (hs0 : 0 < sz) (hb0 : 0 < bytes)
    {s : AV} {v : Value} (hv : VR imm w s v) {ys : List AV} {K : AV → AHeap → Prop} (h : aappend L e sz bytes s ys K) (hys : ∀ y ∈ ys, (flat y).length = sz)
    {news : List Value} (hnews : VRs imm w (flats ys) news) (x : Value) (t' : TypeId)
    (hrun : ∀ (v0 : Value) (n : Nat) (xs0 : List Value), w.ownsRow 0 e sz v0 n xs0 → n + ys.length ≤ maxLen → (n + ys.length) * bytes ≤ 140737488355328 →
      ∃ v' w', (Builtin.append_ #[t, t'] ty #[v0, x]).run P w = .ok v' w' ∧ w'.ownsRow 0 e sz v' (n + ys.length) (xs0 ++ news) ∧ w.grownBy w' v0.ownBlock ∧
        (v' = .slice none 0 0 ↔ v0 = .slice none 0 0 ∧ ys.length = 0) ∧ (v'.ownBlock = v0.ownBlock ∨ v'.ownBlock = some w.heap.size))
    (hroom : ∀ (g n Cp : Nat) (cur : Array Value), w.heap[g]? = some (.cells cur e (0, 0)) → cur.size = Cp * sz → n + ys.length ≤ Cp → (n + ys.length) * bytes ≤ 140737488355328 →
      ∃ w', (Builtin.append_ #[t, t'] ty #[.slice (some ⟨g, 0, none⟩) n Cp, x]).run P w = .ok (.slice (some ⟨g, 0, none⟩) (n + ys.length) Cp) w') :
    ∃ v' w' r L' , (Builtin.append_ #[t, t'] ty #[v, x]).run P w = .ok v' w' ∧ VR imm w' r v' ∧ Sat imm w' L' ∧ Tr (Own L) imm w (Own L') imm w' ∧ K r L' := by
  have hbound : ∀ n : Nat, n * bytes ≤ 140737488355328 → n ≤ maxLen := fun n hn => by
    have := Nat.le_trans (Nat.le_mul_of_pos_right n hb0) hn
    simp only [maxLen]
    omega
  cases hv with
  | nils =>
    simp only [aappend] at h
    obtain ⟨hle, hnil, hcons⟩ := h
    obtain ⟨v', w', hr, hown, hg, hiff, hat⟩ := hrun (.slice none 0 0) 0 [] (World.ownsRow_nil w 0 e sz) (by rw [Nat.zero_add]; exact hbound _ hle) (by rw [Nat.zero_add]; exact hle)
    simp only [Nat.zero_add, List.nil_append] at hown
    have hg' : w.grownBy w' none := by simpa [Value.ownBlock] using hg
    by_cases hy : ys = []
    · have e0 : v' = .slice none 0 0 := hiff.2 ⟨rfl, by simp [hy]⟩
      subst e0
      refine ⟨_, w', _, L, hr, .nils, ?_, ?_, hnil hy⟩
      · exact ⟨fun k g o hk hl => (hs.holds k g o hk hl).mono (fun _ x => x) (fun i hi => hg'.block i (hs.immlt i hi) (by simp)) (hg'.block g (hs.lt g ⟨k, o, hk, hl⟩) (by simp)), hs.apart, hs.far, fun g h => Nat.lt_of_lt_of_le (hs.lt g h) hg'.size, fun g h => Nat.lt_of_lt_of_le (hs.immlt g h) hg'.size⟩
      · exact ⟨hg'.os, hg'.tape, hg'.output, hg'.size, fun i hi _ => hg'.block i hi (by simp), fun _ h => h, fun _ h => .inl h, fun _ h => .inl h⟩
    · have hpos : 0 < ys.length := List.length_pos_iff.2 hy
      have hform : ∃ g cap, v' = .slice (some ⟨g, 0, none⟩) ys.length cap := by
        rcases hown.2 with ⟨_, e⟩ | ⟨g2, C2, cur, e, _⟩
        · omega
        · exact ⟨g2, C2, e⟩
      obtain ⟨g, cap, rfl⟩ := hform
      have hgg : g = w.heap.size := by
        rcases hat with h | h
        · simp [Value.ownBlock] at h
        · simpa [Value.ownBlock] using h
      subst hgg
      have hnews' := hnews.grown (w' := w') hs hg' (by simp)
      obtain ⟨hh, hlt⟩ := row_owns rfl hown hs0 hys hnews'
      exact ⟨_, w', _, _, hr, .sl _ _ _ _, hs.new hlt (fun i hi => hg'.block i hi (by simp)) hh, Tr.new hg' _, hcons hy _ _⟩
  | sl k g Cp n =>
    simp only [aappend] at h
    split at h
    · rename_i g' e' sz' C' xs hk
      split at h
      case isFalse => exact h.elim
      rename_i hee
      obtain ⟨rfl, rfl⟩ := hee
      obtain ⟨rfl, rfl, rfl, hle, h⟩ := h
      obtain ⟨vs, hvs, hown0, hxs⟩ := owns_row (hs.holds k g' _ hk trivial)
      obtain ⟨v', w', hr, hown, hg, hiff, hat⟩ := hrun _ _ _ hown0 (hbound _ hle) hle
      simp only [Value.ownBlock] at hg hat
      have hrow : ∀ g, some g' = some g → Own L g := fun g e => by cases e; exact ⟨k, _, hk, trivial⟩
      have h1 := hvs.grown (w' := w') hs hg hrow
      have h2 := hnews.grown (w' := w') hs hg hrow
      have h3 := h1.append h2
      rw [← flats_append] at h3
      have hform : ∃ g2 C2, v' = .slice (some ⟨g2, 0, none⟩) (xs.length + ys.length) C2 := by
        rcases hown.2 with ⟨e, _⟩ | ⟨g2, C2, cur, e, _⟩
        · exact absurd (hiff.1 e).1 (by simp)
        · exact ⟨g2, C2, e⟩
      obtain ⟨g2, C2, rfl⟩ := hform
      obtain ⟨hh, hlt⟩ := row_owns (xs := xs ++ ys) (by simp) hown hs0 (fun y hy => (List.mem_append.1 hy).elim (hxs y) (hys y)) h3
      have hgg : g2 = g' ∨ w.heap.size ≤ g2 ∧ g2 < w'.heap.size := by
        rcases hat with h | h
        · left; simpa [Value.ownBlock] using h
        · right
          have : g2 = w.heap.size := by simpa [Value.ownBlock] using h
          omega
      exact ⟨_, w', _, _, hr, .sl _ _ _ _, hs.turn hk trivial hg.size (fun i hi hne => hg.block i hi (by simpa using hne)) hgg hh, Tr.turn hk trivial hg (hgg.imp id (·.1)), h g2 C2⟩
    · exact h.elim
  | sb k g Cp sz0 lo n off e1 e0 =>
    simp only [aappend] at h
    split at h
    · rename_i g' e' sz' C' xs hk
      split at h
      case isFalse => exact h.elim
      rename_i hee
      obtain ⟨rfl, rfl, rfl⟩ := hee
      obtain ⟨rfl, rfl, rfl, hn, hle, hin, hout⟩ := h
      have hoff := e0 rfl
      subst hoff
      have hhold := hs.holds k g' _ hk trivial
      cases hhold with
      | row _ _ _ _ vs spare hg0 hs0' hsz hCC hm hxl hv =>
      have hvt := hv.take (n * sz0)
      rw [← flats_take hsz hn] at hvt
      have hvtl : (vs.take (n * sz0)).length = n * sz0 := by
        rw [hvt.len, flats_length (fun x hx => hsz x (List.mem_of_mem_take hx)), List.length_take, Nat.min_eq_left hn]
      have hvl : n * sz0 ≤ vs.length := by rw [List.length_take] at hvtl; omega
      have hown0 : w.ownsRow 0 e' sz0 (.slice (some ⟨g', 0, none⟩) n C') n (vs.take (n * sz0)) := by
        refine ⟨hvtl, .inr ⟨g', C', _, rfl, Nat.zero_le _, hg0, by omega, hm, by simpa using hCC, ?_⟩⟩
        simp [List.take_append_of_le_length hvl]
      obtain ⟨v', w', hr, hown, hg, hiff, hat⟩ := hrun _ _ _ hown0 (hbound _ hle) hle
      simp only [Value.ownBlock] at hg hat
      have hrow : ∀ g, some g' = some g → Own L g := fun g e => by cases e; exact ⟨k, _, hk, trivial⟩
      have h1 := hvt.grown (w' := w') hs hg hrow
      have h2 := hnews.grown (w' := w') hs hg hrow
      have h3 := h1.append h2
      rw [← flats_append] at h3
      have hform : ∃ g2 C2, v' = .slice (some ⟨g2, 0, none⟩) (n + ys.length) C2 := by
        rcases hown.2 with ⟨e, _⟩ | ⟨g2, C2, cur, e, _⟩
        · exact absurd (hiff.1 e).1 (by simp)
        · exact ⟨g2, C2, e⟩
      obtain ⟨g2, C2, rfl⟩ := hform
      have hlen : n + ys.length = (xs.take n ++ ys).length := by simp; omega
      obtain ⟨hh, hlt⟩ := row_owns (xs := xs.take n ++ ys) hlen hown hs0 (fun y hy => (List.mem_append.1 hy).elim (fun hy => hsz y (List.mem_of_mem_take hy)) (hys y)) h3
      have hgg : g2 = g' ∨ w.heap.size ≤ g2 ∧ g2 < w'.heap.size := by
        rcases hat with h | h
        · left; simpa [Value.ownBlock] using h
        · right
          have : g2 = w.heap.size := by simpa [Value.ownBlock] using h
          omega
      have hC2 : n + ys.length ≤ C2 := by cases hh; omega
      have fin : K (.sb k g2 C2 sz0 0 (n + ys.length)) (L.set k (g2, .row e' sz0 C2 (xs.take n ++ ys))) → ∃ v' w' r L', (Builtin.append_ #[t, t'] ty #[.slice (some ⟨g', 0, none⟩) n (C' - 0), x]).run P w = .ok v' w' ∧ VR imm w' r v' ∧ Sat imm w' L' ∧ Tr (Own L) imm w (Own L') imm w' ∧ K r L' := fun hK =>
        ⟨_, w', _, _, hr, .sb k g2 C2 sz0 0 (n + ys.length) 0 (fun _ => by simp) (fun _ => rfl), hs.turn hk trivial hg.size (fun i hi hne => hg.block i hi (by simpa using hne)) hgg hh, Tr.turn hk trivial hg (hgg.imp id (·.1)), hK⟩
      by_cases hr0 : n + ys.length ≤ C'
      · obtain ⟨w2, hr2⟩ := hroom g' n C' _ hg0 (by simpa using hCC) hr0 hle
        rw [hr] at hr2
        simp only [Result.ok.injEq, Value.slice.injEq, Option.some.injEq, Addr.mk.injEq] at hr2
        obtain ⟨⟨⟨rfl, _⟩, _, rfl⟩, _⟩ := hr2
        exact fin (hin hr0)
      · exact fin (hout (by omega) g2 C2 hC2)
    · exact h.elim
  | _ => exact h.elim

end Go.Proofs.YtfohedaadncefaaDoor.HB
