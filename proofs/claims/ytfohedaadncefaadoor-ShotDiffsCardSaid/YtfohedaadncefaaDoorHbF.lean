/- The abstract machine's operations on plain values: what they say, and that the model's own do it. -/
import Derived.Test.YtfohedaadncefaaDoorHbE
namespace Go.Proofs.YtfohedaadncefaaDoor.HB
open Go

section
variable {P : Program} {o : Oper} {a : Act} {w w' : World} {next : Act → World → Prop} {Q : Exit → Act → World → Prop}
theorem wp_value {v : Value} (h : (execOp a.eval o).run P w = .ok (.value v) w') (hn : next (a.put o.dst v) w') : o.wp P a w next Q := by
  unfold Oper.wp
  rw [h]
  exact hn
theorem wp_skip (h : (execOp a.eval o).run P w = .ok .skip w') (hn : next (a.put o.dst undef) w') : o.wp P a w next Q := by
  unfold Oper.wp
  rw [h]
  exact hn
end

/-- Comparisons: both ways. -/
def both (p : Prop) (K : AV → Prop) : Prop := (p → K (.bool true)) ∧ (¬ p → K (.bool false))

def bitsV (op : BinOp) (k : IntKind) (x y : Int) : Int :=
  let a := BitVec.ofInt k.bits x
  let b := BitVec.ofInt k.bits y
  k.wrap (match op with
    | .and => a &&& b
    | .or => a ||| b
    | .xor => a ^^^ b
    | _ => a &&& ~~~b).toNat

def intBin (op : BinOp) (k : IntKind) (x y : Int) (K : AV → Prop) : Prop :=
  match op with
  | .eql => both (x = y) K
  | .neq => both (x ≠ y) K
  | .lss => both (x < y) K
  | .leq => both (x ≤ y) K
  | .gtr => both (y < x) K
  | .geq => both (y ≤ x) K
  | .add => ∀ r, r = k.wrap (x + y) → K (.int k r)
  | .sub => ∀ r, r = k.wrap (x - y) → K (.int k r)
  | .mul => ∀ r, r = k.wrap (x * y) → K (.int k r)
  | .quo => y ≠ 0 ∧ ∀ r, r = k.wrap (x.tdiv y) → K (.int k r)
  | .rem => y ≠ 0 ∧ ∀ r, r = x.tmod y → K (.int k r)
  | .and => ∀ r, r = bitsV .and k x y → K (.int k r)
  | .or => ∀ r, r = bitsV .or k x y → K (.int k r)
  | .xor => ∀ r, r = bitsV .xor k x y → K (.int k r)
  | .andNot => ∀ r, r = bitsV .andNot k x y → K (.int k r)
  | _ => False

def shiftBin (op : BinOp) (k : IntKind) (x y : Int) (K : AV → Prop) : Prop :=
  match op with
  | .shl => 0 ≤ y ∧ ∀ r, r = k.wrap (x * 2 ^ (min y.toNat k.bits)) → K (.int k r)
  | .shr => 0 ≤ y ∧ ∀ r, r = x.fdiv (2 ^ (min y.toNat k.bits)) → K (.int k r)
  | _ => False

def isShift : BinOp → Bool
  | .shl | .shr => true
  | _ => false

def strBin (op : BinOp) (x y : ByteArray) (K : AV → Prop) : Prop :=
  match op with
  | .eql => both (x = y) K
  | .neq => both (x ≠ y) K
  | .add => (x.size + y.size ≤ 9223372036854775807) ∧ K (.str (x ++ y))
  | .lss => both (Op.bytesLess x.toList y.toList = true) K
  | _ => False

def kindEq : AV → AV → Bool
  | .int k _, .int k' _ => decide (k = k')
  | .str _, .str _ => true
  | .bool _, .bool _ => true
  | _, _ => false
def kindsEq : List AV → List AV → Bool
  | [], [] => true
  | x :: xs, y :: ys => kindEq x y && kindsEq xs ys
  | _, _ => false
def eq1 : AV → AV → Prop
  | .int _ a, .int _ b => a = b
  | .str a, .str b => a = b
  | .bool a, .bool b => a = b
  | _, _ => False
def allEq : List AV → List AV → Prop
  | [], [] => True
  | x :: xs, y :: ys => eq1 x y ∧ allEq xs ys
  | _, _ => False

def isEq : BinOp → Option Bool
  | .eql => some true
  | .neq => some false
  | _ => none

def abin (C : Cx) (op : BinOp) (t : TypeId) (x y : AV) (K : AV → Prop) : Prop :=
  match x, y with
  | .int k a, .int k' b => if isShift op then shiftBin op k a b K else if k = k' then intBin op k a b K else False
  | .str a, .str b => strBin op a b K
  | .bool a, .bool b => match C.T t, isEq op with
    | some (.one .bool _), some true => both (a = b) K
    | some (.one .bool _), some false => both (a ≠ b) K
    | _, _ => False
  | .agg xs, .agg ys => match C.E t, isEq op with
    | some ks, some true => if kindsEq ks xs && kindsEq ks ys then both (allEq xs ys) K else False
    | some ks, some false => if kindsEq ks xs && kindsEq ks ys then both (¬ allEq xs ys) K else False
    | _, _ => False
  | _, _ => False

theorem bytes_eq (x y : ByteArray) : (x.toList == y.toList) = decide (x = y) := by
  rw [Bool.eq_iff_iff]
  simp only [beq_iff_eq, decide_eq_true_eq]
  rw [ByteArray.toList_eq, ByteArray.toList_eq]
  exact ⟨fun h => ByteArray.ext (Array.toList_inj.mp h), fun h => by rw [h]⟩

theorem both_run {p : Prop} [Decidable p] {K : AV → Prop} (h : both p K) : ∃ b : Bool, b = decide p ∧ K (.bool b) := by
  by_cases hp : p
  · exact ⟨true, by simp [hp], h.1 hp⟩
  · exact ⟨false, by simp [hp], h.2 hp⟩

theorem intBin_run {P : Program} {op : BinOp} {t : TypeId} {k : IntKind} {x y : Int} {K : AV → Prop} (hsh : isShift op = false) (h : intBin op k x y K) :
    ∃ v z, (∀ w, (binOp op t (.int k x) (.int k y)).run P w = .ok v w) ∧ (∀ imm w, VR imm w z v) ∧ K z := by
  have cmp : ∀ (b : Bool) (p : Prop) [Decidable p], (∀ w, (binOp op t (.int k x) (.int k y)).run P w = .ok (.bool b) w) → b = decide p → both p K → ∃ v z, (∀ w, (binOp op t (.int k x) (.int k y)).run P w = .ok v w) ∧ (∀ imm w, VR imm w z v) ∧ K z := by
    intro b p _ hr hb hp
    obtain ⟨c, hc, hK⟩ := both_run hp
    rw [← hb] at hc
    exact ⟨_, _, hr, fun _ _ => .bool _, hc ▸ hK⟩
  cases op
  case eql => exact cmp (x == y) (x = y) (fun w => by simp [binOp, Op.intCmp]) (by rw [Bool.eq_iff_iff]; simp) h
  case neq => exact cmp (x != y) (x ≠ y) (fun w => by simp [binOp, Op.intCmp]) (by rw [Bool.eq_iff_iff]; simp) h
  case lss => exact cmp (decide (x < y)) (x < y) (fun w => by simp [binOp, Op.intCmp]) rfl h
  case leq => exact cmp (decide (x ≤ y)) (x ≤ y) (fun w => by simp [binOp, Op.intCmp]) rfl h
  case gtr => exact cmp (decide (x > y)) (y < x) (fun w => by simp [binOp, Op.intCmp]) rfl h
  case geq => exact cmp (decide (x ≥ y)) (y ≤ x) (fun w => by simp [binOp, Op.intCmp]) rfl h
  case add => exact ⟨_, _, fun w => by simp only [binOp, Op.intArith, ne_eq, not_true_eq_false, if_false]; rfl, fun _ _ => .int _ _, h _ rfl⟩
  case sub => exact ⟨_, _, fun w => by simp only [binOp, Op.intArith, ne_eq, not_true_eq_false, if_false]; rfl, fun _ _ => .int _ _, h _ rfl⟩
  case mul => exact ⟨_, _, fun w => by simp only [binOp, Op.intArith, ne_eq, not_true_eq_false, if_false]; rfl, fun _ _ => .int _ _, h _ rfl⟩
  case quo => exact ⟨_, _, fun w => by simp only [binOp, Op.intDiv, ne_eq, not_true_eq_false, if_false, h.1]; rfl, fun _ _ => .int _ _, h.2 _ rfl⟩
  case rem => exact ⟨_, _, fun w => by simp only [binOp, Op.intDiv, ne_eq, not_true_eq_false, if_false, h.1]; rfl, fun _ _ => .int _ _, h.2 _ rfl⟩
  case and => exact ⟨.int k (bitsV .and k x y), _, fun w => by simp only [binOp, ne_eq, not_true_eq_false, if_false]; rfl, fun _ _ => .int _ _, h _ rfl⟩
  case or => exact ⟨.int k (bitsV .or k x y), _, fun w => by simp only [binOp, ne_eq, not_true_eq_false, if_false]; rfl, fun _ _ => .int _ _, h _ rfl⟩
  case xor => exact ⟨.int k (bitsV .xor k x y), _, fun w => by simp only [binOp, ne_eq, not_true_eq_false, if_false]; rfl, fun _ _ => .int _ _, h _ rfl⟩
  case andNot => exact ⟨.int k (bitsV .andNot k x y), _, fun w => by simp only [binOp, ne_eq, not_true_eq_false, if_false]; rfl, fun _ _ => .int _ _, h _ rfl⟩
  case shl => cases hsh
  case shr => cases hsh

theorem shiftBin_run {P : Program} {op : BinOp} {t : TypeId} {k k' : IntKind} {x y : Int} {K : AV → Prop} (h : shiftBin op k x y K) :
    ∃ v z, (∀ w, (binOp op t (.int k x) (.int k' y)).run P w = .ok v w) ∧ (∀ imm w, VR imm w z v) ∧ K z := by
  cases op <;> simp only [shiftBin] at h <;> first
    | exact h.elim
    | (obtain ⟨h0, h⟩ := h
       have hn : ¬ y < 0 := by omega
       exact ⟨_, _, fun w => by simp only [binOp, Op.shift, hn, if_false]; rfl, fun _ _ => .int _ _, h _ rfl⟩)

theorem strBin_run {P : Program} {op : BinOp} {t : TypeId} {x y : ByteArray} {K : AV → Prop} (h : strBin op x y K) :
    ∃ v z, (∀ w, (binOp op t (.string x) (.string y)).run P w = .ok v w) ∧ (∀ imm w, VR imm w z v) ∧ K z := by
  cases op <;> simp only [strBin] at h <;> first
    | exact h.elim
    | (obtain ⟨hs, hK⟩ := h
       have hn : ¬ (((x.size + y.size : Nat) : Int) > IntKind.i64.max) := by simp [IntKind.max, IntKind.signed, IntKind.bits]; omega
       exact ⟨.string (x ++ y), .str (x ++ y), fun w => by simp only [binOp, Op.stringOp, hn, if_false]; rfl, fun _ _ => .str _, hK⟩)
    | (obtain ⟨b, hb, hK⟩ := both_run h
       refine ⟨.bool b, .bool b, fun w => ?_, fun _ _ => .bool b, hK⟩
       subst hb
       simp only [binOp, Op.stringOp, bytes_eq, Sem.run_pure]
       first | done | (congr 2; simp; done) | (simp; done))

theorem eqGuard_plain {P : Program} (op : BinOp) (t : TypeId) (x y : Operand) (u v : Value) (w : World) (h1 : ∀ b, u ≠ .agg b) (h2 : u ≠ .nilIface) : (eqGuard op t x y u v).run P w = .ok () w := by
  unfold eqGuard
  cases op <;> simp <;> (cases u <;> first | rfl | exact absurd rfl (h1 _) | exact absurd rfl h2 | (cases v <;> rfl))

theorem eqOkP_spec {P : Program} {t : TypeId} {ks : List AV} (h : eqOkP P t ks = true) : ∃ fields : Array Field, P.underlying t = some (.struct fields) ∧ P.stoodInHeld t = false ∧ P.eqGuardType P.depth t = false ∧ fieldsOk P fields.toList 0 ks = true := by
  unfold eqOkP at h
  split at h
  case h_2 => cases h
  rename_i fs hu
  simp only [Bool.and_eq_true, Bool.not_eq_true'] at h
  exact ⟨fs, hu, h.1.1, h.1.2, h.2⟩

theorem run_part1 {P : Program} {t : TypeId} {d : TypeDesc} (hu : P.underlying t = some d) (hd : aggD d = false) {xs : Array Value} {i : Nat} {v : Value} (hx : xs[i]? = some v) (w : World) : (part t xs i).run P w = .ok v w := by
  unfold part
  rw [Sem.run_bind]
  have h1 : (isAgg t).run P w = .ok false w := by
    unfold isAgg
    rw [Sem.run_bind, run_underlying hu]
    cases d <;> first | (cases hd; done) | rfl
  rw [h1]
  simp [hx, Result.andThen]

theorem kind_cases {D : Option TypeDesc} {k x y : AV} (hk : kindTy D k = true) (hx : kindEq k x = true) (hy : kindEq k y = true) :
    (∃ kk k0 a b, D = some (.int kk) ∧ x = .int k0 a ∧ y = .int k0 b) ∨ (∃ a b, D = some .bool ∧ x = .bool a ∧ y = .bool b) ∨ (∃ a b, D = some .string ∧ x = .str a ∧ y = .str b) := by
  unfold kindTy at hk
  split at hk
  case h_4 => cases hk
  · refine .inl ?_
    cases x <;> simp only [kindEq] at hx <;> try (cases hx; done)
    cases y <;> simp only [kindEq] at hy <;> try (cases hy; done)
    simp only [decide_eq_true_eq] at hx hy
    subst hx; subst hy
    exact ⟨_, _, _, _, rfl, rfl, rfl⟩
  · refine .inr (.inl ?_)
    cases x <;> simp only [kindEq] at hx <;> try (cases hx; done)
    cases y <;> simp only [kindEq] at hy <;> try (cases hy; done)
    exact ⟨_, _, rfl, rfl, rfl⟩
  · refine .inr (.inr ?_)
    cases x <;> simp only [kindEq] at hx <;> try (cases hx; done)
    cases y <;> simp only [kindEq] at hy <;> try (cases hy; done)
    exact ⟨_, _, rfl, rfl, rfl⟩

theorem eqField_run {P : Program} {imm : Nat → Prop} {w0 : World} (d : Nat) {t : TypeId} {k x y : AV} {u v : Value} (hk : kindTy (P.underlying t) k = true) (hx : kindEq k x = true) (hy : kindEq k y = true) (hu : VR imm w0 x u) (hv : VR imm w0 y v) :
    ∃ b : Bool, (∀ w, (Op.equalIn (d + 1) t u v).run P w = .ok b w) ∧ (b = true ↔ eq1 x y) ∧ ∃ D, P.underlying t = some D ∧ aggD D = false := by
  rcases kind_cases hk hx hy with ⟨kk, k0, a, b, e, rfl, rfl⟩ | ⟨a, b, e, rfl, rfl⟩ | ⟨a, b, e, rfl, rfl⟩
  · cases hu; cases hv
    exact ⟨a == b, fun w => run_equalIn_int w d t _ _ a b e, by simp [eq1], _, e, rfl⟩
  · cases hu; cases hv
    exact ⟨a == b, fun w => run_equalIn_bool w d t a b e, by simp [eq1], _, e, rfl⟩
  · cases hu; cases hv
    exact ⟨a.toList == b.toList, fun w => run_equalIn_string w d t a b e, by rw [bytes_eq]; simp [eq1], _, e, rfl⟩

theorem eqFields_run {P : Program} {imm : Nat → Prop} {w0 : World} (d : Nat) {us vs : Array Value} : ∀ (fs : List Field) (i : Nat) (ks xs ys : List AV), fieldsOk P fs i ks = true → kindsEq ks xs = true → kindsEq ks ys = true →
    (∀ (j : Nat) (x : AV), xs[j]? = some x → ∃ u, us[i + j]? = some u ∧ VR imm w0 x u) → (∀ (j : Nat) (x : AV), ys[j]? = some x → ∃ u, vs[i + j]? = some u ∧ VR imm w0 x u) →
    ∃ b : Bool, (∀ w, (Op.eqFields (d + 1) us vs fs).run P w = .ok b w) ∧ (b = true ↔ allEq xs ys) := by
  intro fs
  induction fs with
  | nil =>
    intro i ks xs ys hf hx hy h1 h2
    cases ks <;> try (cases hf; done)
    cases xs <;> try (cases hx; done)
    cases ys <;> try (cases hy; done)
    exact ⟨true, fun w => rfl, by simp [allEq]⟩
  | cons f fs ih =>
    intro i ks xs ys hf hx hy h1 h2
    cases ks <;> try (cases hf; done)
    cases xs <;> try (cases hx; done)
    cases ys <;> try (cases hy; done)
    rename_i k ks x xs y ys
    simp only [fieldsOk, Bool.and_eq_true, decide_eq_true_eq, beq_iff_eq] at hf
    obtain ⟨⟨⟨f1, f2⟩, f3⟩, f4⟩ := hf
    simp only [kindsEq, Bool.and_eq_true] at hx hy
    obtain ⟨u, eu, hu⟩ := h1 0 x rfl
    obtain ⟨v, ev, hv⟩ := h2 0 y rfl
    obtain ⟨b, hb, hbi, D, hD, hDa⟩ := eqField_run d f3 hx.1 hy.1 hu hv
    obtain ⟨b', hb', hbi'⟩ := ih (i + 1) ks xs ys f4 hx.2 hy.2 (fun j x hj => by rw [Nat.add_assoc, Nat.add_comm 1 j]; exact h1 (j + 1) x hj) (fun j x hj => by rw [Nat.add_assoc, Nat.add_comm 1 j]; exact h2 (j + 1) x hj)
    refine ⟨b && b', fun w => ?_, by simp [allEq, hbi, hbi']⟩
    simp only [Op.eqFields, f1, ne_eq, not_false_eq_true, if_true, Sem.run_bind, f2]
    rw [run_part1 hD hDa (by simpa using eu), Result.andThen_ok, run_part1 hD hDa (by simpa using ev), Result.andThen_ok, hb, Result.andThen_ok]
    cases b
    · rfl
    · simpa using hb' w

theorem abin_run {C : Cx} (hC : C.Ok) {op : BinOp} {t : TypeId} {x y : AV} {u v : Value} {imm : Nat → Prop} {w : World} (hx : VR imm w x u) (hy : VR imm w y v) {K : AV → Prop} (h : abin C op t x y K) (ox oy : Operand) :
    ∃ r z, (∀ w, (do eqGuard op t ox oy u v; binOp op t u v : Sem Value).run C.P w = .ok r w) ∧ VR imm w z r ∧ K z := by
  cases hx <;> try exact h.elim
  case int k a =>
    cases hy <;> try exact h.elim
    rename_i k' b
    simp only [abin] at h
    have hgd : ∀ w : World, ∀ {q : Sem Value}, (do eqGuard op t ox oy (.int k a) (.int k' b); q : Sem Value).run C.P w = q.run C.P w := fun w q => by
      rw [Sem.run_bind, eqGuard_plain (P := C.P) op t ox oy (.int k a) (.int k' b) w (by simp) (by simp), Result.andThen_ok]
    split at h
    · obtain ⟨r, z, h1, h2, h3⟩ := shiftBin_run (P := C.P) (t := t) (k' := k') h
      exact ⟨r, z, fun w => (hgd w).trans (h1 w), h2 _ _, h3⟩
    · rename_i hsh
      split at h
      · rename_i e
        subst e
        obtain ⟨r, z, h1, h2, h3⟩ := intBin_run (P := C.P) (t := t) (by simpa using hsh) h
        exact ⟨r, z, fun w => (hgd w).trans (h1 w), h2 _ _, h3⟩
      · exact h.elim
  case str a =>
    cases hy <;> try exact h.elim
    rename_i b
    simp only [abin] at h
    have hgd : ∀ w : World, ∀ {q : Sem Value}, (do eqGuard op t ox oy (.string a) (.string b); q : Sem Value).run C.P w = q.run C.P w := fun w q => by
      rw [Sem.run_bind, eqGuard_plain (P := C.P) op t ox oy (.string a) (.string b) w (by simp) (by simp), Result.andThen_ok]
    obtain ⟨r, z, h1, h2, h3⟩ := strBin_run (P := C.P) (t := t) h
    exact ⟨r, z, fun w => (hgd w).trans (h1 w), h2 _ _, h3⟩
  case bool a =>
    cases hy <;> try exact h.elim
    rename_i b
    simp only [abin] at h
    have hgd : ∀ w : World, ∀ {q : Sem Value}, (do eqGuard op t ox oy (.bool a) (.bool b); q : Sem Value).run C.P w = q.run C.P w := fun w q => by
      rw [Sem.run_bind, eqGuard_plain (P := C.P) op t ox oy (.bool a) (.bool b) w (by simp) (by simp), Result.andThen_ok]
    split at h
    · rename_i z ht ho
      have hu := tiOf_one (hC.types _ _ ht)
      have hop : op = .eql := by cases op <;> first | rfl | cases ho
      subst hop
      obtain ⟨c, hc, hK⟩ := both_run h
      refine ⟨.bool c, _, fun w => ?_, .bool c, hK⟩
      rw [hgd]
      simp only [binOp, Sem.run_bind, run_equal_bool w t a b hu, Result.andThen_ok, Sem.run_pure]
      rw [hc]; congr 2
    · rename_i z ht ho
      have hu := tiOf_one (hC.types _ _ ht)
      have hop : op = .neq := by cases op <;> first | rfl | cases ho
      subst hop
      obtain ⟨c, hc, hK⟩ := both_run h
      refine ⟨.bool c, _, fun w => ?_, .bool c, hK⟩
      rw [hgd]
      simp only [binOp, Sem.run_bind, run_equal_bool w t a b hu, Result.andThen_ok, Sem.run_pure]
      rw [hc]; congr 2; cases a <;> cases b <;> rfl
    · exact h.elim
  case agg xs vs hvl h1 hvv =>
    cases hy <;> try exact h.elim
    rename_i ys us hul h1' huu
    simp only [abin] at h
    have core : ∀ ks, C.E t = some ks → kindsEq ks xs = true → kindsEq ks ys = true → ∃ b : Bool, (∀ w, (Op.equalIn 10000 t (.agg vs.toArray) (.agg us.toArray)).run C.P w = .ok b w) ∧ (b = true ↔ allEq xs ys) ∧ C.P.eqGuardType C.P.depth t = false := by
      intro ks hE hk hk'
      obtain ⟨fields, hu, hst, heg, hall⟩ := eqOkP_spec (hC.eqs t ks hE)
      have hfo : C.P.fieldsOf t = fields := by unfold Program.fieldsOf; rw [hu]
      obtain ⟨b, hb, hb'⟩ := eqFields_run (P := C.P) (imm := imm) (w0 := w) (us := vs.toArray) (vs := us.toArray) 9998 fields.toList 0 ks xs ys hall hk hk'
        (fun j x hj => by
          obtain ⟨u, e, _, hv⟩ := (VRs.mk hvl h1 hvv).get hj
          exact ⟨u, by simpa using e, hv⟩)
        (fun j x hj => by
          obtain ⟨u, e, _, hv⟩ := (VRs.mk hul h1' huu).get hj
          exact ⟨u, by simpa using e, hv⟩)
      refine ⟨b, fun w => ?_, hb', heg⟩
      rw [run_equalIn_struct (P := C.P) w 9999 t vs.toArray us.toArray (by rw [hfo]; exact hu) hst, hfo]
      exact hb w
    split at h
    · rename_i ks hE ho
      split at h
      case isFalse => exact h.elim
      rename_i hcond
      simp only [Bool.and_eq_true] at hcond
      obtain ⟨b, hb, hbi, heg⟩ := core ks hE hcond.1 hcond.2
      have hop : op = .eql := by cases op <;> first | rfl | cases ho
      subst hop
      refine ⟨.bool b, .bool b, fun w => ?_, .bool b, ?_⟩
      · rw [Sem.run_bind, run_eqGuard_agg w _ t ox oy _ _ heg, Result.andThen_ok, run_eql_struct, hb, Result.andThen_ok]
      · cases b
        · exact h.2 (by simpa using hbi)
        · exact h.1 (by simpa using hbi)
    · rename_i ks hE ho
      split at h
      case isFalse => exact h.elim
      rename_i hcond
      simp only [Bool.and_eq_true] at hcond
      obtain ⟨b, hb, hbi, heg⟩ := core ks hE hcond.1 hcond.2
      have hop : op = .neq := by cases op <;> first | rfl | cases ho
      subst hop
      refine ⟨.bool (!b), .bool (!b), fun w => ?_, .bool _, ?_⟩
      · rw [Sem.run_bind, run_eqGuard_agg w _ t ox oy _ _ heg, Result.andThen_ok, run_neq_struct, hb, Result.andThen_ok]
      · cases b
        · exact h.1 (by simpa using hbi)
        · exact h.2 (by simpa using hbi)
    · exact h.elim

end Go.Proofs.YtfohedaadncefaaDoor.HB
