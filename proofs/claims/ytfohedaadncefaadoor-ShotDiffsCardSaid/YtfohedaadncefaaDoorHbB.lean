/- The abstract heap: the objects that the code at hand owns, and what they say of a world; what a step keeps. -/
import Derived.Test.YtfohedaadncefaaDoorHbA
namespace Go.Proofs.YtfohedaadncefaaDoor.HB
open Go

/-- An object that the code at hand owns. -/
inductive AObj where
  | dead
  | cells (t : TypeId) (cs : List AV)
  | row (e : TypeId) (sz C : Nat) (xs : List AV)

abbrev AHeap := List (Nat × AObj)

/-- Is there anything to own? -/
def AObj.live : AObj → Prop
  | .dead => False
  | _ => True

inductive Holds (imm : Nat → Prop) (w : World) (g : Nat) : AObj → Prop where
  | dead : Holds imm w g .dead
  | cells (t : TypeId) (cs : List AV) (vs : List Value) (hg : w.heap[g]? = some (.cells vs.toArray t (0, 0))) (hv : VRs imm w cs vs) : Holds imm w g (.cells t cs)
  | row (e : TypeId) (sz C : Nat) (xs : List AV) (vs spare : List Value) (hg : w.heap[g]? = some (.cells (vs ++ spare).toArray e (0, 0)))
      (hs : 0 < sz) (hsz : ∀ x ∈ xs, (flat x).length = sz) (hC : (vs ++ spare).length = C * sz) (hm : C ≤ maxLen) (hx : xs.length ≤ C) (hv : VRs imm w (flats xs) vs) : Holds imm w g (.row e sz C xs)

theorem Holds.mono {imm imm' : Nat → Prop} {w w' : World} {g : Nat} {o : AObj} (h : Holds imm w g o) (hi : ∀ g, imm g → imm' g) (hc : ∀ i, imm i → w'.heap[i]? = w.heap[i]?) (hg : w'.heap[g]? = w.heap[g]?) : Holds imm' w' g o := by
  have hcc : ∀ a : Addr, imm a.block → w'.cell? a = w.cell? a := fun _ ha => World.cell?_of_block (hc _ ha)
  cases h with
  | dead => exact .dead
  | cells t cs vs hg' hv => exact .cells t cs vs (hg.trans hg') (hv.mono hi hcc)
  | row e sz C xs vs spare hg' hs hsz hC hm hx hv => exact .row e sz C xs vs spare (hg.trans hg') hs hsz hC hm hx (hv.mono hi hcc)

/-- The blocks that a heap owns. -/
def Own (L : AHeap) (g : Nat) : Prop := ∃ (k : Nat) (o : AObj), L[k]? = some (g, o) ∧ o.live

structure Sat (imm : Nat → Prop) (w : World) (L : AHeap) : Prop where
  holds : ∀ (k g : Nat) (o : AObj), L[k]? = some (g, o) → o.live → Holds imm w g o
  apart : ∀ (k k' g : Nat) (o o' : AObj), L[k]? = some (g, o) → o.live → L[k']? = some (g, o') → o'.live → k = k'
  far : ∀ g, Own L g → ¬ imm g
  lt : ∀ g, Own L g → g < w.heap.size
  immlt : ∀ g, imm g → g < w.heap.size

/-- What a stretch of code leaves as it was. -/
structure Tr (own imm : Nat → Prop) (w : World) (own' imm' : Nat → Prop) (w' : World) : Prop where
  os : w'.os = w.os
  tape : w'.tape = w.tape
  output : w'.output = w.output
  size : w.heap.size ≤ w'.heap.size
  block : ∀ i, i < w.heap.size → ¬ own i → w'.heap[i]? = w.heap[i]?
  imm1 : ∀ i, imm i → imm' i
  imm2 : ∀ i, imm' i → imm i ∨ own i ∨ w.heap.size ≤ i
  own2 : ∀ i, own' i → own i ∨ w.heap.size ≤ i

theorem Tr.refl (own imm : Nat → Prop) (w : World) : Tr own imm w own imm w :=
  ⟨rfl, rfl, rfl, Nat.le_refl _, fun _ _ _ => rfl, fun _ h => h, fun _ h => .inl h, fun _ h => .inl h⟩
theorem Tr.trans {own imm own' imm' own2 imm2 : Nat → Prop} {w w' w2 : World} (h : Tr own imm w own' imm' w') (k : Tr own' imm' w' own2 imm2 w2) : Tr own imm w own2 imm2 w2 where
  os := k.os.trans h.os
  tape := k.tape.trans h.tape
  output := k.output.trans h.output
  size := Nat.le_trans h.size k.size
  block := fun i hi ho => (k.block i (Nat.lt_of_lt_of_le hi h.size) (fun h' => (h.own2 i h').elim ho (by omega))).trans (h.block i hi ho)
  imm1 := fun i hi => k.imm1 i (h.imm1 i hi)
  imm2 := fun i hi => by
    rcases k.imm2 i hi with h' | h' | h'
    · exact h.imm2 i h'
    · exact (h.own2 i h').elim (fun x => .inr (.inl x)) (fun x => .inr (.inr x))
    · exact .inr (.inr (Nat.le_trans h.size h'))
  own2 := fun i hi => by
    rcases k.own2 i hi with h' | h'
    · exact h.own2 i h'
    · exact .inr (Nat.le_trans h.size h')

/-- What is immutable stays, across a step. -/
theorem Tr.immblock {own imm own' imm' : Nat → Prop} {w w' : World} (h : Tr own imm w own' imm' w') (hfar : ∀ g, own g → ¬ imm g) (hlt : ∀ g, imm g → g < w.heap.size) : ∀ i, imm i → w'.heap[i]? = w.heap[i]? :=
  fun i hi => h.block i (hlt i hi) (fun ho => hfar i ho hi)
theorem Tr.cell {own imm own' imm' : Nat → Prop} {w w' : World} (h : Tr own imm w own' imm' w') (hfar : ∀ g, own g → ¬ imm g) (hlt : ∀ g, imm g → g < w.heap.size) : ∀ a : Addr, imm a.block → w'.cell? a = w.cell? a :=
  fun _ ha => World.cell?_of_block (h.immblock hfar hlt _ ha)

/-- The frame: the first slots' values. -/
structure EnvR (imm : Nat → Prop) (w : World) (env : List AV) (tmps : Array Value) : Prop where
  len : env.length ≤ tmps.size
  at_ : ∀ (t : Nat) (x : AV) (v : Value), env[t]? = some x → tmps[t]? = some v → VR imm w x v

theorem EnvR.mono {imm imm' : Nat → Prop} {w w' : World} {env : List AV} {tmps : Array Value} (h : EnvR imm w env tmps) (hi : ∀ g, imm g → imm' g) (hc : ∀ a : Addr, imm a.block → w'.cell? a = w.cell? a) : EnvR imm' w' env tmps :=
  ⟨h.len, fun t x v hx hv => (h.at_ t x v hx hv).mono hi hc⟩

def putA (env : List AV) : Option Tmp → AV → List AV
  | some d, x => env.set d x
  | none, _ => env

theorem EnvR.put {imm : Nat → Prop} {w : World} {env : List AV} {a : Act} (h : EnvR imm w env a.tmps) {x : AV} {v : Value} (hx : VR imm w x v) (d : Option Tmp) : EnvR imm w (putA env d x) (a.put d v).tmps := by
  cases d with
  | none => exact h
  | some d =>
    refine ⟨by simp [putA, Act.put]; exact h.len, fun t y u hy hu => ?_⟩
    simp only [putA, Act.put] at hy hu
    rw [List.getElem?_set] at hy
    by_cases e : d = t
    · subst e
      rw [if_pos rfl] at hy
      split at hy
      · rename_i hlt
        cases hy
        have hl := h.len
        rw [Array.getElem?_setIfInBounds] at hu
        simp only [if_true] at hu
        rw [if_pos (by omega)] at hu
        cases hu
        exact hx
      · cases hy
    · rw [if_neg e] at hy
      rw [Array.getElem?_setIfInBounds] at hu
      rw [if_neg e] at hu
      exact h.at_ t y u hy hu

theorem put_defers (a : Act) (d : Option Tmp) (v : Value) : (a.put d v).defers = a.defers := by cases d <;> rfl

/-- A constant. -/
def ofV : Value → AV
  | .bool b => .bool b
  | .int k n => .int k n
  | .string s => .str s
  | .pointer none => .nilp
  | .slice none 0 0 => .nils
  | v => .any v
theorem ofV_VR (imm : Nat → Prop) (w : World) (v : Value) : VR imm w (ofV v) v := by
  unfold ofV
  split <;> constructor

def aeval (env : List AV) : Operand → AV
  | .tmp t => env.getD t .junk
  | .const v => ofV v
  | .global g => .any (.pointer (some ⟨g, 0, none⟩))
  | .func f => .any (.func (.func f) #[] #[])

theorem aeval_VR {imm : Nat → Prop} {w : World} {env : List AV} {a : Act} (h : EnvR imm w env a.tmps) (x : Operand) : VR imm w (aeval env x) (a.eval x) := by
  cases x with
  | tmp t =>
    simp only [aeval, Act.eval, List.getD]
    by_cases ht : t < env.length
    · have h1 : env[t]? = some env[t] := List.getElem?_eq_getElem ht
      have h2 : a.tmps[t]? = some (a.tmps[t]'(Nat.lt_of_lt_of_le ht h.len)) := Array.getElem?_eq_getElem _
      rw [h1]
      simp only [Option.getD_some]
      rw [Array.getD_eq_getD_getElem?, h2]
      exact h.at_ t _ _ h1 h2
    · rw [List.getElem?_eq_none (Nat.le_of_not_lt ht)]
      exact .junk _
  | const v => exact ofV_VR _ _ _
  | global g => exact .any _
  | func f => exact .any _

/-- The state in which code goes on. -/
structure St (own0 imm0 : Nat → Prop) (w0 : World) (env : List AV) (L : AHeap) (imm : Nat → Prop) (a : Act) (w : World) : Prop where
  sat : Sat imm w L
  env : EnvR imm w env a.tmps
  tr : Tr own0 imm0 w0 (Own L) imm w
  defers : a.defers = []

/-- A value is put into its slot, the world staying. -/
theorem St.put {own0 imm0 : Nat → Prop} {w0 : World} {env : List AV} {L : AHeap} {imm : Nat → Prop} {a : Act} {w : World} (h : St own0 imm0 w0 env L imm a w) {x : AV} {v : Value} (hx : VR imm w x v) (d : Option Tmp) :
    St own0 imm0 w0 (putA env d x) L imm (a.put d v) w := ⟨h.sat, h.env.put hx d, h.tr, (put_defers a d v).trans h.defers⟩

/-- A step that leaves the heap that is owned as it was said to be: what a new world must meet. -/
theorem St.step {own0 imm0 : Nat → Prop} {w0 : World} {env : List AV} {L L' : AHeap} {imm imm' : Nat → Prop} {a : Act} {w w' : World} (h : St own0 imm0 w0 env L imm a w)
    (hs : Sat imm' w' L') (ht : Tr (Own L) imm w (Own L') imm' w') : St own0 imm0 w0 env L' imm' a w' :=
  ⟨hs, h.env.mono ht.imm1 (ht.cell h.sat.far h.sat.immlt), h.tr.trans ht, h.defers⟩

/-- Orders drawn. -/
theorem Sat.drew {imm : Nat → Prop} {w : World} {L : AHeap} (h : Sat imm w L) : Sat imm w.drew L :=
  ⟨fun k g o hk hl => (h.holds k g o hk hl).mono (fun _ x => x) (fun _ _ => rfl) rfl, h.apart, h.far, h.lt, h.immlt⟩
theorem Tr.drew {own imm : Nat → Prop} (w : World) : Tr own imm w own imm w.drew :=
  ⟨rfl, rfl, rfl, Nat.le_refl _, fun _ _ _ => rfl, fun _ h => h, fun _ h => .inl h, fun _ h => .inl h⟩

/-! ### New objects, and objects that turn -/
theorem Own.snoc {L : AHeap} {g i : Nat} {o : AObj} (h : Own (L ++ [(g, o)]) i) : Own L i ∨ i = g := by
  obtain ⟨k, o', hk, hl⟩ := h
  by_cases hlt : k < L.length
  · rw [List.getElem?_append_left hlt] at hk
    exact .inl ⟨k, o', hk, hl⟩
  · rw [List.getElem?_append_right (by omega)] at hk
    have : k - L.length = 0 := by
      rcases Nat.eq_zero_or_pos (k - L.length) with e | e
      · exact e
      · rw [List.getElem?_eq_none (by simp; omega)] at hk; cases hk
    rw [this] at hk
    simp at hk
    exact .inr hk.1.symm

theorem Sat.new {imm : Nat → Prop} {w w' : World} {L : AHeap} (h : Sat imm w L) (hsz : w.heap.size < w'.heap.size) (hold : ∀ i, i < w.heap.size → w'.heap[i]? = w.heap[i]?) {o : AObj}
    (ho : Holds imm w' w.heap.size o) : Sat imm w' (L ++ [(w.heap.size, o)]) := by
  have hkeep : ∀ (k g : Nat) (o' : AObj), (L ++ [(w.heap.size, o)])[k]? = some (g, o') → (k < L.length ∧ L[k]? = some (g, o')) ∨ (k = L.length ∧ g = w.heap.size ∧ o' = o) := by
    intro k g o' hk
    by_cases hlt : k < L.length
    · rw [List.getElem?_append_left hlt] at hk
      exact .inl ⟨hlt, hk⟩
    · rw [List.getElem?_append_right (by omega)] at hk
      have : k - L.length = 0 := by
        rcases Nat.eq_zero_or_pos (k - L.length) with e | e
        · exact e
        · rw [List.getElem?_eq_none (by simp; omega)] at hk; cases hk
      rw [this] at hk
      simp at hk
      exact .inr ⟨by omega, hk.1.symm, hk.2.symm⟩
  refine ⟨fun k g o' hk hl => ?_, fun k k' g o1 o2 h1 l1 h2 l2 => ?_, fun g hg => ?_, fun g hg => ?_, fun g hg => Nat.lt_trans (h.immlt g hg) hsz⟩
  · rcases hkeep k g o' hk with ⟨_, hk⟩ | ⟨_, rfl, rfl⟩
    · exact (h.holds k g o' hk hl).mono (fun _ x => x) (fun i hi => hold i (h.immlt i hi)) (hold g (h.lt g ⟨k, o', hk, hl⟩))
    · exact ho
  · rcases hkeep k g o1 h1 with ⟨_, h1⟩ | ⟨e1, f1, _⟩ <;> rcases hkeep k' g o2 h2 with ⟨_, h2⟩ | ⟨e2, f2, _⟩
    · exact h.apart k k' g o1 o2 h1 l1 h2 l2
    · exact absurd (h.lt g ⟨k, o1, h1, l1⟩) (by omega)
    · exact absurd (h.lt g ⟨k', o2, h2, l2⟩) (by omega)
    · omega
  · rcases Own.snoc hg with hg | rfl
    · exact h.far g hg
    · exact fun hi => absurd (h.immlt _ hi) (Nat.lt_irrefl _)
  · rcases Own.snoc hg with hg | rfl
    · exact Nat.lt_trans (h.lt g hg) hsz
    · exact hsz

theorem Tr.new {imm : Nat → Prop} {w w' : World} {L : AHeap} (hg : w.grownBy w' none) (o : AObj) : Tr (Own L) imm w (Own (L ++ [(w.heap.size, o)])) imm w' :=
  ⟨hg.os, hg.tape, hg.output, hg.size, fun i hi _ => hg.block i hi (by simp), fun _ h => h, fun _ h => .inl h, fun i hi => (Own.snoc hi).imp id (fun e => by omega)⟩

/-- An object becomes another one, in its block or in a new one. -/
theorem Own.set {L : AHeap} {k g g' i : Nat} {o o' : AObj} (_hk : L[k]? = some (g, o)) (h : Own (L.set k (g', o')) i) : Own L i ∨ i = g' := by
  obtain ⟨j, p, hj, hl⟩ := h
  rw [List.getElem?_set] at hj
  split at hj
  · split at hj
    · simp at hj; exact .inr hj.1.symm
    · cases hj
  · exact .inl ⟨j, p, hj, hl⟩

theorem Sat.turn {imm : Nat → Prop} {w w' : World} {L : AHeap} (h : Sat imm w L) {k g g' : Nat} {o o' : AObj} (hk : L[k]? = some (g, o)) (hl : o.live) (hsz : w.heap.size ≤ w'.heap.size)
    (hold : ∀ i, i < w.heap.size → i ≠ g → w'.heap[i]? = w.heap[i]?) (hg' : g' = g ∨ w.heap.size ≤ g' ∧ g' < w'.heap.size) (ho : Holds imm w' g' o') : Sat imm w' (L.set k (g', o')) := by
  have hgown : Own L g := ⟨k, o, hk, hl⟩
  have hglt := h.lt g hgown
  have hkeep : ∀ (j i : Nat) (p : AObj), (L.set k (g', o'))[j]? = some (i, p) → (j ≠ k ∧ L[j]? = some (i, p)) ∨ (j = k ∧ i = g' ∧ p = o') := by
    intro j i p hj
    rw [List.getElem?_set] at hj
    split at hj
    · rename_i e
      split at hj
      · simp at hj; exact .inr ⟨e.symm, hj.1.symm, hj.2.symm⟩
      · cases hj
    · rename_i e; exact .inl ⟨fun e' => e e'.symm, hj⟩
  have hne : ∀ (j i : Nat) (p : AObj), j ≠ k → L[j]? = some (i, p) → p.live → i ≠ g := fun j i p hjk hj hp e => hjk (h.apart j k g p o (e ▸ hj) hp hk hl)
  refine ⟨fun j i p hj hp => ?_, fun j j' i p q h1 l1 h2 l2 => ?_, fun i hi => ?_, fun i hi => ?_, fun i hi => Nat.lt_of_lt_of_le (h.immlt i hi) hsz⟩
  · rcases hkeep j i p hj with ⟨hjk, hj⟩ | ⟨_, rfl, rfl⟩
    · exact (h.holds j i p hj hp).mono (fun _ x => x) (fun m hm => hold m (h.immlt m hm) (fun e => h.far g hgown (e ▸ hm))) (hold i (h.lt i ⟨j, p, hj, hp⟩) (hne j i p hjk hj hp))
    · exact ho
  · rcases hkeep j i p h1 with ⟨e1, h1⟩ | ⟨e1, f1, _⟩ <;> rcases hkeep j' i q h2 with ⟨e2, h2⟩ | ⟨e2, f2, _⟩
    · exact h.apart j j' i p q h1 l1 h2 l2
    · have := hne j i p e1 h1 l1
      have := h.lt i ⟨j, p, h1, l1⟩
      omega
    · have := hne j' i q e2 h2 l2
      have := h.lt i ⟨j', q, h2, l2⟩
      omega
    · omega
  · rcases Own.set hk hi with hi | rfl
    · exact h.far i hi
    · rcases hg' with rfl | hg'
      · exact h.far _ hgown
      · exact fun hm => absurd (h.immlt _ hm) (by omega)
  · rcases Own.set hk hi with hi | rfl
    · exact Nat.lt_of_lt_of_le (h.lt i hi) hsz
    · omega

theorem Tr.turn {imm : Nat → Prop} {w w' : World} {L : AHeap} {k g g' : Nat} {o o' : AObj} (hk : L[k]? = some (g, o)) (hl : o.live) (hg : w.grownBy w' (some g)) (hg' : g' = g ∨ w.heap.size ≤ g') :
    Tr (Own L) imm w (Own (L.set k (g', o'))) imm w' :=
  ⟨hg.os, hg.tape, hg.output, hg.size, fun i hi ho => hg.block i hi (fun e => ho (by cases e; exact ⟨k, o, hk, hl⟩)), fun _ h => h, fun _ h => .inl h, fun i hi => by
    rcases Own.set hk hi with hi | rfl
    · exact .inl hi
    · rcases hg' with rfl | hg'
      · exact .inl ⟨k, o, hk, hl⟩
      · exact .inr hg'⟩

/-- An object is given up; its block may become immutable. -/
theorem Sat.free {imm : Nat → Prop} {w : World} {L : AHeap} (h : Sat imm w L) {k g : Nat} {o : AObj} (hk : L[k]? = some (g, o)) (hl : o.live) :
    Sat (fun i => imm i ∨ i = g) w (L.set k (g, .dead)) := by
  have hkeep : ∀ (j i : Nat) (p : AObj), (L.set k (g, AObj.dead))[j]? = some (i, p) → p.live → j ≠ k ∧ L[j]? = some (i, p) := by
    intro j i p hj hp
    rw [List.getElem?_set] at hj
    split at hj
    · split at hj
      · simp at hj; rw [← hj.2] at hp; exact hp.elim
      · cases hj
    · rename_i e; exact ⟨fun e' => e e'.symm, hj⟩
  have hown : ∀ i, Own (L.set k (g, AObj.dead)) i → Own L i ∧ i ≠ g := fun i ⟨j, p, hj, hp⟩ =>
    ⟨⟨j, p, (hkeep j i p hj hp).2, hp⟩, fun e => (hkeep j i p hj hp).1 (h.apart j k g p o (e ▸ (hkeep j i p hj hp).2) hp hk hl)⟩
  refine ⟨fun j i p hj hp => (h.holds j i p (hkeep j i p hj hp).2 hp).mono (fun _ x => .inl x) (fun _ _ => rfl) rfl, fun j j' i p q h1 l1 h2 l2 => h.apart j j' i p q (hkeep j i p h1 l1).2 l1 (hkeep j' i q h2 l2).2 l2, fun i hi => ?_, fun i hi => h.lt i (hown i hi).1, fun i hi => ?_⟩
  · rintro (hm | rfl)
    · exact h.far i (hown i hi).1 hm
    · exact (hown _ hi).2 rfl
  · rcases hi with hi | rfl
    · exact h.immlt i hi
    · exact h.lt _ ⟨k, o, hk, hl⟩

end Go.Proofs.YtfohedaadncefaaDoor.HB
