/- The abstract values and heap of the abstract machine, and what they say of the model's own: values, objects, worlds. -/
import Derived.WalkKit
import Derived.Maps.AppendAt
import Derived.Lib.AppendStr
import Derived.Laws.OwnMore
import Derived.Lib.SliceRun
import Derived.Great.FillDense
import Derived.Great.BuildSlice
namespace Go.Proofs.YtgpbppkmmlclfaaDoor.HB
open Go

inductive AV where
  | junk
  | bool (b : Bool)
  | int (k : IntKind) (n : Int)
  | str (s : ByteArray)
  | nilp
  | ptr (k g off : Nat)
  | el (k g C sz i off : Nat)
  | rel (cs : List AV)
  | nils
  | sl (k g C n : Nat)
  | sb (k g C sz lo n : Nat)
  | ro (sz : Nat) (xs : List AV) (n : Nat)
  | agg (xs : List AV)
  | tuple (xs : List AV)
  | any (v : Value)

def flat : AV → List AV
  | .agg xs => xs
  | x => [x]
def flats (xs : List AV) : List AV := xs.flatMap flat

inductive VR (imm : Nat → Prop) (w : World) : AV → Value → Prop where
  | junk (v : Value) : VR imm w .junk v
  | bool (b : Bool) : VR imm w (.bool b) (.bool b)
  | int (k : IntKind) (n : Int) : VR imm w (.int k n) (.int k n)
  | str (s : ByteArray) : VR imm w (.str s) (.string s)
  | nilp : VR imm w .nilp (.pointer none)
  | ptr (k g off : Nat) : VR imm w (.ptr k g off) (.pointer (some ⟨g, off, none⟩))
  | el (k g C sz i off : Nat) : VR imm w (.el k g C sz i off) (.pointer (some ⟨g, i * sz + off, none⟩))
  | rel (cs : List AV) (a : Addr) (vs : List Value) (hi : imm a.block) (hl : vs.length = cs.length)
      (hc : ∀ (j : Nat) (u : Value), vs[j]? = some u → w.cell? (a.add j) = some u) (h1 : ∀ u ∈ vs, u.oneCell' = true)
      (hv : ∀ (j : Nat) (y : AV) (u : Value), cs[j]? = some y → vs[j]? = some u → VR imm w y u) : VR imm w (.rel cs) (.pointer (some a))
  | nils : VR imm w .nils (.slice none 0 0)
  | sl (k g C n : Nat) : VR imm w (.sl k g C n) (.slice (some ⟨g, 0, none⟩) n C)
  | sb (k g C sz lo n off : Nat) (h1 : lo < C → off = lo * sz) (h0 : lo = 0 → off = 0) : VR imm w (.sb k g C sz lo n) (.slice (some ⟨g, off, none⟩) n (C - lo))
  | ro (sz : Nat) (xs : List AV) (n : Nat) (A : Option Addr) (cap : Nat) (vs : List Value) (hn : n ≤ xs.length) (hcap : xs.length ≤ cap)
      (hsz : ∀ x ∈ xs, (flat x).length = sz) (hl : vs.length = (flats xs).length)
      (ha : 0 < xs.length → ∃ a, A = some a ∧ imm a.block ∧ ∀ (j : Nat) (u : Value), vs[j]? = some u → w.cell? (a.add j) = some u)
      (h1 : ∀ u ∈ vs, u.oneCell' = true)
      (hv : ∀ (j : Nat) (y : AV) (u : Value), (flats xs)[j]? = some y → vs[j]? = some u → VR imm w y u) : VR imm w (.ro sz xs n) (.slice A n cap)
  | agg (xs : List AV) (vs : List Value) (hl : vs.length = xs.length) (h1 : ∀ u ∈ vs, u.oneCell' = true)
      (hv : ∀ (j : Nat) (y : AV) (u : Value), xs[j]? = some y → vs[j]? = some u → VR imm w y u) : VR imm w (.agg xs) (.agg vs.toArray)
  | tuple (xs : List AV) (vs : List Value) (hl : vs.length = xs.length)
      (hv : ∀ (j : Nat) (y : AV) (u : Value), xs[j]? = some y → vs[j]? = some u → VR imm w y u) : VR imm w (.tuple xs) (.tuple vs.toArray)
  | any (v : Value) : VR imm w (.any v) v

theorem VR.mono {imm imm' : Nat → Prop} {w w' : World} (hi : ∀ g, imm g → imm' g) (hc : ∀ a : Addr, imm a.block → w'.cell? a = w.cell? a) {x : AV} {v : Value} (h : VR imm w x v) : VR imm' w' x v := by
  induction h with
  | junk v => exact .junk v
  | bool b => exact .bool b
  | int k n => exact .int k n
  | str s => exact .str s
  | nilp => exact .nilp
  | ptr k g off => exact .ptr k g off
  | el k g C sz i off => exact .el k g C sz i off
  | rel cs a vs h0 hl hcc h1 hv ih =>
    exact .rel cs a vs (hi _ h0) hl (fun j u hj => by rw [hc _ (by rw [show (a.add j).block = a.block by unfold Addr.add; split <;> rfl]; exact h0)]; exact hcc j u hj) h1 ih
  | nils => exact .nils
  | sl k g C n => exact .sl k g C n
  | sb k g C sz lo n off h1 h0 => exact .sb k g C sz lo n off h1 h0
  | ro sz xs n A cap vs hn hcap hsz hl ha h1 hv ih =>
    refine .ro sz xs n A cap vs hn hcap hsz hl (fun hp => ?_) h1 ih
    obtain ⟨a, e, h0, hcc⟩ := ha hp
    exact ⟨a, e, hi _ h0, fun j u hj => by rw [hc _ (by rw [show (a.add j).block = a.block by unfold Addr.add; split <;> rfl]; exact h0)]; exact hcc j u hj⟩
  | agg xs vs hl h1 hv ih => exact .agg xs vs hl h1 ih
  | tuple xs vs hl hv ih => exact .tuple xs vs hl ih
  | any v => exact .any v

structure VRs (imm : Nat → Prop) (w : World) (xs : List AV) (vs : List Value) : Prop where
  len : vs.length = xs.length
  one : ∀ u ∈ vs, u.oneCell' = true
  at_ : ∀ (j : Nat) (y : AV) (u : Value), xs[j]? = some y → vs[j]? = some u → VR imm w y u

theorem VRs.mono {imm imm' : Nat → Prop} {w w' : World} {xs : List AV} {vs : List Value} (h : VRs imm w xs vs) (hi : ∀ g, imm g → imm' g) (hc : ∀ a : Addr, imm a.block → w'.cell? a = w.cell? a) : VRs imm' w' xs vs :=
  ⟨h.len, h.one, fun j y u hy hu => (h.at_ j y u hy hu).mono hi hc⟩
theorem VRs.nil (imm : Nat → Prop) (w : World) : VRs imm w [] [] := ⟨rfl, by simp, by simp⟩
theorem VRs.cons {imm : Nat → Prop} {w : World} {x : AV} {v : Value} {xs : List AV} {vs : List Value} (h1 : v.oneCell' = true) (hx : VR imm w x v) (h : VRs imm w xs vs) : VRs imm w (x :: xs) (v :: vs) := by
  refine ⟨by simp [h.len], fun u hu => ?_, fun j y u hy hu => ?_⟩
  · rcases List.mem_cons.1 hu with rfl | hu
    · exact h1
    · exact h.one u hu
  · cases j with
    | zero => simp at hy hu; subst hy; subst hu; exact hx
    | succ j => exact h.at_ j y u (by simpa using hy) (by simpa using hu)
theorem VRs.append {imm : Nat → Prop} {w : World} {xs ys : List AV} {vs us : List Value} (h : VRs imm w xs vs) (k : VRs imm w ys us) : VRs imm w (xs ++ ys) (vs ++ us) := by
  refine ⟨by simp [h.len, k.len], fun u hu => ?_, fun j y u hy hu => ?_⟩
  · rcases List.mem_append.1 hu with hu | hu
    · exact h.one u hu
    · exact k.one u hu
  · by_cases hj : j < xs.length
    · rw [List.getElem?_append_left hj] at hy
      rw [List.getElem?_append_left (by rw [h.len]; exact hj)] at hu
      exact h.at_ j y u hy hu
    · rw [List.getElem?_append_right (by omega)] at hy
      rw [List.getElem?_append_right (by rw [h.len]; omega)] at hu
      rw [h.len] at hu
      exact k.at_ _ y u hy hu
theorem VRs.take {imm : Nat → Prop} {w : World} {xs : List AV} {vs : List Value} (h : VRs imm w xs vs) (n : Nat) : VRs imm w (xs.take n) (vs.take n) := by
  refine ⟨by simp [h.len], fun u hu => h.one u (List.mem_of_mem_take hu), fun j y u hy hu => ?_⟩
  rw [List.getElem?_take] at hy hu
  split at hy
  · rename_i hj; rw [if_pos hj] at hu; exact h.at_ j y u hy hu
  · cases hy
theorem VRs.drop {imm : Nat → Prop} {w : World} {xs : List AV} {vs : List Value} (h : VRs imm w xs vs) (n : Nat) : VRs imm w (xs.drop n) (vs.drop n) := by
  refine ⟨by simp [h.len], fun u hu => h.one u (List.mem_of_mem_drop hu), fun j y u hy hu => ?_⟩
  rw [List.getElem?_drop] at hy hu
  exact h.at_ _ y u hy hu
theorem VRs.set {imm : Nat → Prop} {w : World} {xs : List AV} {vs : List Value} (h : VRs imm w xs vs) {x : AV} {v : Value} (h1 : v.oneCell' = true) (hx : VR imm w x v) (n : Nat) : VRs imm w (xs.set n x) (vs.set n v) := by
  refine ⟨by simp [h.len], fun u hu => ?_, fun j y u hy hu => ?_⟩
  · rcases List.mem_or_eq_of_mem_set hu with hu | rfl
    · exact h.one u hu
    · exact h1
  · rw [List.getElem?_set] at hy hu
    have hl := h.len
    by_cases e : n = j
    · subst e
      rw [if_pos rfl] at hy hu
      split at hy
      · rename_i hlt
        rw [if_pos (by omega)] at hu
        cases hy; cases hu; exact hx
      · cases hy
    · rw [if_neg e] at hy hu
      exact h.at_ j y u hy hu
theorem VRs.get {imm : Nat → Prop} {w : World} {xs : List AV} {vs : List Value} (h : VRs imm w xs vs) {j : Nat} {y : AV} (hy : xs[j]? = some y) : ∃ u, vs[j]? = some u ∧ u.oneCell' = true ∧ VR imm w y u := by
  obtain ⟨hj, _⟩ := List.getElem?_eq_some_iff.1 hy
  have hj' : j < vs.length := by rw [h.len]; exact hj
  have e : vs[j]? = some vs[j] := List.getElem?_eq_getElem hj'
  exact ⟨vs[j], e, h.one _ (List.getElem_mem hj'), h.at_ j y _ hy e⟩

theorem VR.flat_cells {imm : Nat → Prop} {w : World} {x : AV} {v : Value} (h : VR imm w x v) (ho : v.oneCell' = true ∨ ∃ xs, x = .agg xs) : VRs imm w (flat x) v.cells.toList := by
  cases h with
  | agg xs vs hl h1 hv => exact ⟨by simpa [Value.cells, flat] using hl, fun u hu => h1 u (by simpa [Value.cells] using hu), fun j y u hy hu => hv j y u (by simpa [flat] using hy) (by simpa [Value.cells] using hu)⟩
  | _ =>
    rcases ho with h1 | ⟨xs, e⟩
    · first
        | (have e1 : ∀ y : Value, y.oneCell' = true → y.cells.toList = [y] := fun y hy => by cases y <;> simp_all [Value.cells, Value.oneCell']
           rw [e1 _ h1]
           exact .cons h1 (by constructor <;> assumption) (.nil _ _))
    · cases e

end Go.Proofs.YtgpbppkmmlclfaaDoor.HB
/- The abstract heap: the objects that the code at hand owns, and what they say of a world; what a step keeps. -/
namespace Go.Proofs.YtgpbppkmmlclfaaDoor.HB
open Go

inductive AObj where
  | dead
  | cells (t : TypeId) (cs : List AV)
  | row (e : TypeId) (sz C : Nat) (xs : List AV)
  /-- An object of another kind, told wholly: a map, a walk through one. -/
  | obj (o : Obj)
  /-- Several objects at once: the blocks that are theirs, and what is known of them. -/
  | box (S : Nat → Prop) (P : (Nat → Prop) → World → Prop)

abbrev AHeap := List (Nat × AObj)

def AObj.live : AObj → Prop
  | .dead => False
  | _ => True
def AObj.owns (g : Nat) : AObj → Nat → Prop
  | .dead, _ => False
  | .box S _, i => S i
  | _, i => i = g
theorem AObj.owns.live {g i : Nat} {o : AObj} (h : o.owns g i) : o.live := by cases o <;> first | exact h | trivial
def BoxOk (S : Nat → Prop) (P : (Nat → Prop) → World → Prop) : Prop :=
  ∀ (imm imm' : Nat → Prop) (w w' : World), (∀ g, imm g → imm' g) → (∀ i, imm i → w'.heap[i]? = w.heap[i]?) → (∀ i, S i → w'.heap[i]? = w.heap[i]?) → P imm w → P imm' w'

inductive Holds (imm : Nat → Prop) (w : World) (g : Nat) : AObj → Prop where
  | dead : Holds imm w g .dead
  | cells (t : TypeId) (cs : List AV) (vs : List Value) (hg : w.heap[g]? = some (.cells vs.toArray t (0, 0))) (hv : VRs imm w cs vs) : Holds imm w g (.cells t cs)
  | row (e : TypeId) (sz C : Nat) (xs : List AV) (vs spare : List Value) (hg : w.heap[g]? = some (.cells (vs ++ spare).toArray e (0, 0)))
      (hs : 0 < sz) (hsz : ∀ x ∈ xs, (flat x).length = sz) (hC : (vs ++ spare).length = C * sz) (hm : C ≤ maxLen) (hx : xs.length ≤ C) (hv : VRs imm w (flats xs) vs) : Holds imm w g (.row e sz C xs)
  | obj (o : Obj) (hg : w.heap[g]? = some o) : Holds imm w g (.obj o)
  | box (S : Nat → Prop) (P : (Nat → Prop) → World → Prop) (hP : P imm w) (hok : BoxOk S P) : Holds imm w g (.box S P)

theorem Holds.mono {imm imm' : Nat → Prop} {w w' : World} {g : Nat} {o : AObj} (h : Holds imm w g o) (hi : ∀ g, imm g → imm' g) (hc : ∀ i, imm i → w'.heap[i]? = w.heap[i]?) (hg : ∀ i, o.owns g i → w'.heap[i]? = w.heap[i]?) : Holds imm' w' g o := by
  have hcc : ∀ a : Addr, imm a.block → w'.cell? a = w.cell? a := fun _ ha => World.cell?_of_block (hc _ ha)
  cases h with
  | dead => exact .dead
  | cells t cs vs hg' hv => exact .cells t cs vs ((hg g rfl).trans hg') (hv.mono hi hcc)
  | row e sz C xs vs spare hg' hs hsz hC hm hx hv => exact .row e sz C xs vs spare ((hg g rfl).trans hg') hs hsz hC hm hx (hv.mono hi hcc)
  | obj o hg' => exact .obj o ((hg g rfl).trans hg')
  | box S P hP hok => exact .box S P (hok _ _ _ _ hi hc hg hP) hok

def Own (L : AHeap) (i : Nat) : Prop := ∃ (k g : Nat) (o : AObj), L[k]? = some (g, o) ∧ o.owns g i

structure Sat (imm : Nat → Prop) (w : World) (L : AHeap) : Prop where
  holds : ∀ (k g : Nat) (o : AObj), L[k]? = some (g, o) → o.live → Holds imm w g o
  apart : ∀ (k k' g g' i : Nat) (o o' : AObj), L[k]? = some (g, o) → o.owns g i → L[k']? = some (g', o') → o'.owns g' i → k = k'
  far : ∀ g, Own L g → ¬ imm g
  lt : ∀ g, Own L g → g < w.heap.size
  immlt : ∀ g, imm g → g < w.heap.size

structure Tr (D : Prop) (own imm : Nat → Prop) (w : World) (own' imm' : Nat → Prop) (w' : World) : Prop where
  /-- Where draws are counted ('D'): none is taken back. -/
  drawn : D → w.drawn ≤ w'.drawn
  os : w'.os = w.os
  tape : w'.tape = w.tape
  output : w'.output = w.output
  size : w.heap.size ≤ w'.heap.size
  block : ∀ i, i < w.heap.size → ¬ own i → w'.heap[i]? = w.heap[i]?
  imm1 : ∀ i, imm i → imm' i
  imm2 : ∀ i, imm' i → imm i ∨ own i ∨ w.heap.size ≤ i
  own2 : ∀ i, own' i → own i ∨ w.heap.size ≤ i

theorem Tr.refl {D : Prop} (own imm : Nat → Prop) (w : World) : Tr D own imm w own imm w :=
  ⟨fun _ => Nat.le_refl _, rfl, rfl, rfl, Nat.le_refl _, fun _ _ _ => rfl, fun _ h => h, fun _ h => .inl h, fun _ h => .inl h⟩
theorem Tr.trans {D : Prop} {own imm own' imm' own2 imm2 : Nat → Prop} {w w' w2 : World} (h : Tr D own imm w own' imm' w') (k : Tr D own' imm' w' own2 imm2 w2) : Tr D own imm w own2 imm2 w2 where
  drawn := fun hD => Nat.le_trans (h.drawn hD) (k.drawn hD)
  os := k.os.trans h.os
  tape := k.tape.trans h.tape
  output := k.output.trans h.output
  size := Nat.le_trans h.size k.size
  block := fun i hi ho => (k.block i (Nat.lt_of_lt_of_le hi h.size) (fun h' => (h.own2 i h').elim ho (by omega))).trans (h.block i hi ho)
  imm1 := fun i hi => k.imm1 i (h.imm1 i hi)
  imm2 := fun i hi => by
    rcases k.imm2 i hi with h' | h' | h'
    · exact h.imm2 i h'
    · exact (h.own2 i h').elim (fun x => .inr (.inl x)) (fun x => .inr (.inr x))
    · exact .inr (.inr (Nat.le_trans h.size h'))
  own2 := fun i hi => by
    rcases k.own2 i hi with h' | h'
    · exact h.own2 i h'
    · exact .inr (Nat.le_trans h.size h')

theorem Tr.immblock {D : Prop} {own imm own' imm' : Nat → Prop} {w w' : World} (h : Tr D own imm w own' imm' w') (hfar : ∀ g, own g → ¬ imm g) (hlt : ∀ g, imm g → g < w.heap.size) : ∀ i, imm i → w'.heap[i]? = w.heap[i]? :=
  fun i hi => h.block i (hlt i hi) (fun ho => hfar i ho hi)
theorem Tr.cell {D : Prop} {own imm own' imm' : Nat → Prop} {w w' : World} (h : Tr D own imm w own' imm' w') (hfar : ∀ g, own g → ¬ imm g) (hlt : ∀ g, imm g → g < w.heap.size) : ∀ a : Addr, imm a.block → w'.cell? a = w.cell? a :=
  fun _ ha => World.cell?_of_block (h.immblock hfar hlt _ ha)

structure EnvR (imm : Nat → Prop) (w : World) (env : List AV) (tmps : Array Value) : Prop where
  len : env.length ≤ tmps.size
  at_ : ∀ (t : Nat) (x : AV) (v : Value), env[t]? = some x → tmps[t]? = some v → VR imm w x v

theorem EnvR.mono {imm imm' : Nat → Prop} {w w' : World} {env : List AV} {tmps : Array Value} (h : EnvR imm w env tmps) (hi : ∀ g, imm g → imm' g) (hc : ∀ a : Addr, imm a.block → w'.cell? a = w.cell? a) : EnvR imm' w' env tmps :=
  ⟨h.len, fun t x v hx hv => (h.at_ t x v hx hv).mono hi hc⟩

def putA (env : List AV) : Option Tmp → AV → List AV
  | some d, x => env.set d x
  | none, _ => env

theorem EnvR.put {imm : Nat → Prop} {w : World} {env : List AV} {a : Act} (h : EnvR imm w env a.tmps) {x : AV} {v : Value} (hx : VR imm w x v) (d : Option Tmp) : EnvR imm w (putA env d x) (a.put d v).tmps := by
  cases d with
  | none => exact h
  | some d =>
    refine ⟨by simp [putA, Act.put]; exact h.len, fun t y u hy hu => ?_⟩
    simp only [putA, Act.put] at hy hu
    rw [List.getElem?_set] at hy
    by_cases e : d = t
    · subst e
      rw [if_pos rfl] at hy
      split at hy
      · rename_i hlt
        cases hy
        have hl := h.len
        rw [Array.getElem?_setIfInBounds] at hu
        simp only [if_true] at hu
        rw [if_pos (by omega)] at hu
        cases hu
        exact hx
      · cases hy
    · rw [if_neg e] at hy
      rw [Array.getElem?_setIfInBounds] at hu
      rw [if_neg e] at hu
      exact h.at_ t y u hy hu

theorem put_defers (a : Act) (d : Option Tmp) (v : Value) : (a.put d v).defers = a.defers := by cases d <;> rfl

def ofV : Value → AV
  | .bool b => .bool b
  | .int k n => .int k n
  | .string s => .str s
  | .pointer none => .nilp
  | .slice none 0 0 => .nils
  | v => .any v
theorem ofV_VR (imm : Nat → Prop) (w : World) (v : Value) : VR imm w (ofV v) v := by
  unfold ofV
  split <;> constructor

def aeval (env : List AV) : Operand → AV
  | .tmp t => env.getD t .junk
  | .const v => ofV v
  | .global g => .any (.pointer (some ⟨g, 0, none⟩))
  | .func f => .any (.func (.func f) #[] #[])

theorem aeval_VR {imm : Nat → Prop} {w : World} {env : List AV} {a : Act} (h : EnvR imm w env a.tmps) (x : Operand) : VR imm w (aeval env x) (a.eval x) := by
  cases x with
  | tmp t =>
    simp only [aeval, Act.eval, List.getD]
    by_cases ht : t < env.length
    · have h1 : env[t]? = some env[t] := List.getElem?_eq_getElem ht
      have h2 : a.tmps[t]? = some (a.tmps[t]'(Nat.lt_of_lt_of_le ht h.len)) := Array.getElem?_eq_getElem _
      rw [h1]
      simp only [Option.getD_some]
      rw [Array.getD_eq_getD_getElem?, h2]
      exact h.at_ t _ _ h1 h2
    · rw [List.getElem?_eq_none (Nat.le_of_not_lt ht)]
      exact .junk _
  | const v => exact ofV_VR _ _ _
  | global g => exact .any _
  | func f => exact .any _

structure St (D : Prop) (ds : List Deferred) (own0 imm0 : Nat → Prop) (w0 : World) (env : List AV) (L : AHeap) (imm : Nat → Prop) (a : Act) (w : World) : Prop where
  sat : Sat imm w L
  env : EnvR imm w env a.tmps
  tr : Tr D own0 imm0 w0 (Own L) imm w
  defers : a.defers = ds

theorem St.put {D : Prop} {ds : List Deferred} {own0 imm0 : Nat → Prop} {w0 : World} {env : List AV} {L : AHeap} {imm : Nat → Prop} {a : Act} {w : World} (h : St D ds own0 imm0 w0 env L imm a w) {x : AV} {v : Value} (hx : VR imm w x v) (d : Option Tmp) :
    St D ds own0 imm0 w0 (putA env d x) L imm (a.put d v) w := ⟨h.sat, h.env.put hx d, h.tr, (put_defers a d v).trans h.defers⟩

theorem St.step {D : Prop} {ds : List Deferred} {own0 imm0 : Nat → Prop} {w0 : World} {env : List AV} {L L' : AHeap} {imm imm' : Nat → Prop} {a : Act} {w w' : World} (h : St D ds own0 imm0 w0 env L imm a w)
    (hs : Sat imm' w' L') (ht : Tr D (Own L) imm w (Own L') imm' w') : St D ds own0 imm0 w0 env L' imm' a w' :=
  ⟨hs, h.env.mono ht.imm1 (ht.cell h.sat.far h.sat.immlt), h.tr.trans ht, h.defers⟩

theorem Sat.drew {imm : Nat → Prop} {w : World} {L : AHeap} (h : Sat imm w L) : Sat imm w.drew L :=
  ⟨fun k g o hk hl => (h.holds k g o hk hl).mono (fun _ x => x) (fun _ _ => rfl) (fun _ _ => rfl), h.apart, h.far, h.lt, h.immlt⟩
theorem Tr.drew {D : Prop} {own imm : Nat → Prop} (w : World) : Tr D own imm w own imm w.drew :=
  ⟨fun _ => Nat.le_succ _, rfl, rfl, rfl, Nat.le_refl _, fun _ _ _ => rfl, fun _ h => h, fun _ h => .inl h, fun _ h => .inl h⟩

/-! ### New objects, and objects that turn -/
theorem Own.snoc {L : AHeap} {g i : Nat} {o : AObj} (h : Own (L ++ [(g, o)]) i) : Own L i ∨ o.owns g i := by
  obtain ⟨k, g', o', hk, hl⟩ := h
  by_cases hlt : k < L.length
  · rw [List.getElem?_append_left hlt] at hk
    exact .inl ⟨k, g', o', hk, hl⟩
  · rw [List.getElem?_append_right (by omega)] at hk
    have : k - L.length = 0 := by
      rcases Nat.eq_zero_or_pos (k - L.length) with e | e
      · exact e
      · rw [List.getElem?_eq_none (by simp; omega)] at hk; cases hk
    rw [this] at hk
    simp at hk
    obtain ⟨rfl, rfl⟩ := hk
    exact .inr hl

theorem Sat.new {imm : Nat → Prop} {w w' : World} {L : AHeap} (h : Sat imm w L) (hsz : w.heap.size < w'.heap.size) (hold : ∀ i, i < w.heap.size → w'.heap[i]? = w.heap[i]?) {o : AObj}
    (ho : Holds imm w' w.heap.size o) (ho1 : ∀ i, o.owns w.heap.size i → i = w.heap.size := by intro i hi; exact hi) : Sat imm w' (L ++ [(w.heap.size, o)]) := by
  have hkeep : ∀ (k g : Nat) (o' : AObj), (L ++ [(w.heap.size, o)])[k]? = some (g, o') → (k < L.length ∧ L[k]? = some (g, o')) ∨ (k = L.length ∧ g = w.heap.size ∧ o' = o) := by
    intro k g o' hk
    by_cases hlt : k < L.length
    · rw [List.getElem?_append_left hlt] at hk
      exact .inl ⟨hlt, hk⟩
    · rw [List.getElem?_append_right (by omega)] at hk
      have : k - L.length = 0 := by
        rcases Nat.eq_zero_or_pos (k - L.length) with e | e
        · exact e
        · rw [List.getElem?_eq_none (by simp; omega)] at hk; cases hk
      rw [this] at hk
      simp at hk
      exact .inr ⟨by omega, hk.1.symm, hk.2.symm⟩
  refine ⟨fun k g o' hk hl => ?_, fun k k' g g' i o1 o2 h1 l1 h2 l2 => ?_, fun g hg => ?_, fun g hg => ?_, fun g hg => Nat.lt_trans (h.immlt g hg) hsz⟩
  · rcases hkeep k g o' hk with ⟨_, hk⟩ | ⟨_, rfl, rfl⟩
    · exact (h.holds k g o' hk hl).mono (fun _ x => x) (fun i hi => hold i (h.immlt i hi)) (fun i hi => hold i (h.lt i ⟨k, g, o', hk, hi⟩))
    · exact ho
  · rcases hkeep k g o1 h1 with ⟨_, a1⟩ | ⟨e1, rfl, rfl⟩ <;> rcases hkeep k' g' o2 h2 with ⟨_, a2⟩ | ⟨e2, rfl, rfl⟩
    · exact h.apart k k' g g' i o1 o2 a1 l1 a2 l2
    · exact absurd (h.lt i ⟨k, g, o1, a1, l1⟩) (by have := ho1 i l2; omega)
    · exact absurd (h.lt i ⟨k', g', o2, a2, l2⟩) (by have := ho1 i l1; omega)
    · omega
  · rcases Own.snoc hg with hg | hg
    · exact h.far g hg
    · exact fun hi => absurd (h.immlt _ hi) (by have := ho1 g hg; omega)
  · rcases Own.snoc hg with hg | hg
    · exact Nat.lt_trans (h.lt g hg) hsz
    · rw [ho1 g hg]; exact hsz

theorem Tr.new {D : Prop} {imm : Nat → Prop} {w w' : World} {L : AHeap} (hd : D → w.drawn ≤ w'.drawn) (hg : w.grownBy w' none) (o : AObj) (ho1 : ∀ i, o.owns w.heap.size i → i = w.heap.size := by intro i hi; exact hi) : Tr D (Own L) imm w (Own (L ++ [(w.heap.size, o)])) imm w' :=
  ⟨hd, hg.os, hg.tape, hg.output, hg.size, fun i hi _ => hg.block i hi (by simp), fun _ h => h, fun _ h => .inl h, fun i hi => (Own.snoc hi).imp id (fun e => by have := ho1 i e; omega)⟩

theorem Own.set {L : AHeap} {k g g' i : Nat} {o o' : AObj} (_hk : L[k]? = some (g, o)) (h : Own (L.set k (g', o')) i) : Own L i ∨ o'.owns g' i := by
  obtain ⟨j, g2, p, hj, hl⟩ := h
  rw [List.getElem?_set] at hj
  split at hj
  · split at hj
    · simp at hj; obtain ⟨rfl, rfl⟩ := hj; exact .inr hl
    · cases hj
  · exact .inl ⟨j, g2, p, hj, hl⟩

def AObj.solo : AObj → Prop
  | .box .. => False
  | _ => True
theorem AObj.solo.owns {g i : Nat} {o : AObj} (h : o.solo) (ho : o.owns g i) : i = g := by cases o <;> first | exact ho | exact h.elim | exact ho.elim
theorem AObj.solo.self {g : Nat} {o : AObj} (h : o.solo) (ho : o.live) : o.owns g g := by cases o <;> first | rfl | exact h.elim | exact ho.elim

theorem Sat.turn {imm : Nat → Prop} {w w' : World} {L : AHeap} (h : Sat imm w L) {k g g' : Nat} {o o' : AObj} (hk : L[k]? = some (g, o)) (hl : o.live) (hsz : w.heap.size ≤ w'.heap.size)
    (hold : ∀ i, i < w.heap.size → i ≠ g → w'.heap[i]? = w.heap[i]?) (hg' : g' = g ∨ w.heap.size ≤ g' ∧ g' < w'.heap.size) (ho : Holds imm w' g' o') (hs : o.solo := by trivial) (hs' : o'.solo := by trivial) : Sat imm w' (L.set k (g', o')) := by
  have hgown : Own L g := ⟨k, g, o, hk, hs.self hl⟩
  have hglt := h.lt g hgown
  have hkeep : ∀ (j i : Nat) (p : AObj), (L.set k (g', o'))[j]? = some (i, p) → (j ≠ k ∧ L[j]? = some (i, p)) ∨ (j = k ∧ i = g' ∧ p = o') := by
    intro j i p hj
    rw [List.getElem?_set] at hj
    split at hj
    · rename_i e
      split at hj
      · simp at hj; exact .inr ⟨e.symm, hj.1.symm, hj.2.symm⟩
      · cases hj
    · rename_i e; exact .inl ⟨fun e' => e e'.symm, hj⟩
  have hne : ∀ (j i m : Nat) (p : AObj), j ≠ k → L[j]? = some (i, p) → p.owns i m → m ≠ g := fun j i m p hjk hj hp e => hjk (h.apart j k i g m p o hj hp hk (e ▸ hs.self hl))
  refine ⟨fun j i p hj hp => ?_, fun j j' i i' m p q h1 l1 h2 l2 => ?_, fun i hi => ?_, fun i hi => ?_, fun i hi => Nat.lt_of_lt_of_le (h.immlt i hi) hsz⟩
  · rcases hkeep j i p hj with ⟨hjk, hj⟩ | ⟨_, rfl, rfl⟩
    · exact (h.holds j i p hj hp).mono (fun _ x => x) (fun m hm => hold m (h.immlt m hm) (fun e => h.far g hgown (e ▸ hm))) (fun m hm => hold m (h.lt m ⟨j, i, p, hj, hm⟩) (hne j i m p hjk hj hm))
    · exact ho
  · rcases hkeep j i p h1 with ⟨e1, a1⟩ | ⟨e1, rfl, rfl⟩ <;> rcases hkeep j' i' q h2 with ⟨e2, a2⟩ | ⟨e2, rfl, rfl⟩
    · exact h.apart j j' i i' m p q a1 l1 a2 l2
    · have := hne j i m p e1 a1 l1
      have := h.lt m ⟨j, i, p, a1, l1⟩
      have := hs'.owns l2
      omega
    · have := hne j' i' m q e2 a2 l2
      have := h.lt m ⟨j', i', q, a2, l2⟩
      have := hs'.owns l1
      omega
    · omega
  · rcases Own.set hk hi with hi | hi
    · exact h.far i hi
    · obtain rfl := hs'.owns hi
      rcases hg' with rfl | hg'
      · exact h.far _ hgown
      · exact fun hm => absurd (h.immlt _ hm) (by omega)
  · rcases Own.set hk hi with hi | hi
    · exact Nat.lt_of_lt_of_le (h.lt i hi) hsz
    · obtain rfl := hs'.owns hi
      omega

theorem Tr.turn {D : Prop} {imm : Nat → Prop} {w w' : World} {L : AHeap} {k g g' : Nat} {o o' : AObj} (hk : L[k]? = some (g, o)) (hl : o.live) (hd : D → w.drawn ≤ w'.drawn) (hg : w.grownBy w' (some g)) (hg' : g' = g ∨ w.heap.size ≤ g') (hs : o.solo := by trivial) (hs' : o'.solo := by trivial) :
    Tr D (Own L) imm w (Own (L.set k (g', o'))) imm w' :=
  ⟨hd, hg.os, hg.tape, hg.output, hg.size, fun i hi ho => hg.block i hi (fun e => ho (by cases e; exact ⟨k, g, o, hk, hs.self hl⟩)), fun _ h => h, fun _ h => .inl h, fun i hi => by
    rcases Own.set hk hi with hi | hi
    · exact .inl hi
    · obtain rfl := hs'.owns hi
      rcases hg' with rfl | hg'
      · exact .inl ⟨k, _, o, hk, hs.self hl⟩
      · exact .inr hg'⟩

theorem Sat.free {imm : Nat → Prop} {w : World} {L : AHeap} (h : Sat imm w L) {k g : Nat} {o : AObj} (hk : L[k]? = some (g, o)) (hl : o.live) (hs : o.solo := by trivial) :
    Sat (fun i => imm i ∨ i = g) w (L.set k (g, .dead)) := by
  have hgown : Own L g := ⟨k, g, o, hk, hs.self hl⟩
  have hkeep : ∀ (j i : Nat) (p : AObj), (L.set k (g, AObj.dead))[j]? = some (i, p) → p.live → j ≠ k ∧ L[j]? = some (i, p) := by
    intro j i p hj hp
    rw [List.getElem?_set] at hj
    split at hj
    · split at hj
      · simp at hj; rw [← hj.2] at hp; exact hp.elim
      · cases hj
    · rename_i e; exact ⟨fun e' => e e'.symm, hj⟩
  have hown : ∀ i, Own (L.set k (g, AObj.dead)) i → Own L i ∧ i ≠ g := fun i ⟨j, g2, p, hj, hp⟩ =>
    ⟨⟨j, g2, p, (hkeep j g2 p hj hp.live).2, hp⟩, fun e => (hkeep j g2 p hj hp.live).1 (h.apart j k g2 g i p o (hkeep j g2 p hj hp.live).2 hp hk (e ▸ hs.self hl))⟩
  refine ⟨fun j i p hj hp => (h.holds j i p (hkeep j i p hj hp).2 hp).mono (fun _ x => .inl x) (fun _ _ => rfl) (fun _ _ => rfl), fun j j' i i' m p q h1 l1 h2 l2 => h.apart j j' i i' m p q (hkeep j i p h1 l1.live).2 l1 (hkeep j' i' q h2 l2.live).2 l2, fun i hi => ?_, fun i hi => h.lt i (hown i hi).1, fun i hi => ?_⟩
  · rintro (hm | rfl)
    · exact h.far i (hown i hi).1 hm
    · exact (hown _ hi).2 rfl
  · rcases hi with hi | rfl
    · exact h.immlt i hi
    · exact h.lt _ hgown

/-! ### Draws are never taken back -/
theorem viewStore_drawn {p : Program} {w : World} {at_ : Addr} {u : TypeId} {k : Addr} {v : Value} {b : Bool} {r : World × List Addr} (h : w.viewStore p at_ u k v b = .ok r) : r.1.drawn = w.drawn := by
  unfold World.viewStore at h
  simp only [bind, Except.bind, pure, Except.pure] at h
  repeat' (split at h)
  all_goals first | (cases h; done) | (cases h; rfl)
theorem farStore_drawn {p : Program} {w : World} {a : Addr} {v : Value} {b : Bool} {r : World × List Addr} (h : w.farStore p a v b = .ok r) : r.1.drawn = w.drawn := by
  unfold World.farStore at h
  split at h
  · split at h
    · rename_i r' e; cases h; exact viewStore_drawn e
    · cases h
  · cases h
theorem ask_drawn {α : Type} : ∀ (x : Ask α) (w : World), w.drawn ≤ (w.ask x).2.drawn
  | .done a, w => Nat.le_refl _
  | .ask what range k, w => by
    unfold World.ask
    dsimp only
    split
    · exact ask_drawn _ w
    · exact Nat.le_trans (Nat.le_succ _) (ask_drawn _ { w with drawn := w.drawn + 1 })
theorem sys_drawn (w : World) (c : Sys) : w.drawn ≤ (w.sys c).2.drawn := by
  unfold World.sys
  have := ask_drawn (Kernel.perform c w.os) w
  generalize w.ask (Kernel.perform c w.os) = r at this
  split
  · exact Nat.le_refl _
  · exact this
theorem run_drawn {α : Type} {p : Program} : ∀ (s : Sem α) (w : World) {a : α} {w' : World}, s.run p w = .ok a w' → w.drawn ≤ w'.drawn := by
  intro s
  induction s with
  | pure a => intro w a' w' h; cases h; exact Nat.le_refl _
  | load m a k ih =>
    intro w a' w' h
    simp only [Sem.run] at h
    split at h
    · exact ih _ _ h
    · split at h
      · exact ih _ _ h
      · cases h
  | store m a v k ih =>
    intro w a' w' h
    cases v <;> simp only [Sem.run] at h <;> try (cases h; done)
    all_goals
      (split at h
       · split at h
         · cases h
         · have := ih _ h; exact this
       · split at h
         · rename_i e; have := ih _ h; rw [farStore_drawn e] at this; exact this
         · cases h)
  | new o k ih => intro w a' w' h; simp only [Sem.run] at h; have := ih _ _ h; exact this
  | shape r k ih => intro w a' w' h; simp only [Sem.run] at h; exact ih _ _ h
  | freeze a n k ih =>
    intro w a' w' h
    simp only [Sem.run] at h
    have := ih _ h
    have e : (w.freeze a n).drawn = w.drawn := by unfold World.freeze; split <;> rfl
    rw [e] at this
    exact this
  | frozen a k ih => intro w a' w' h; simp only [Sem.run] at h; exact ih _ _ h
  | getObj r k ih =>
    intro w a' w' h
    simp only [Sem.run] at h
    split at h
    · cases h
    · exact ih _ _ h
    · cases h
  | setObj r o k ih =>
    intro w a' w' h
    simp only [Sem.run] at h
    split at h
    · cases h
    · have := ih _ h; exact this
    · cases h
  | choose q k ih =>
    intro w a' w' h
    simp only [Sem.run] at h
    split at h
    · exact ih _ _ h
    · have := ih _ _ h; exact Nat.le_trans (Nat.le_succ _) this
  | sys c k ih => intro w a' w' h; simp only [Sem.run] at h; exact Nat.le_trans (sys_drawn w c) (ih _ _ h)
  | program k ih => intro w a' w' h; simp only [Sem.run] at h; exact ih _ _ h
  | mark m k ih => intro w a' w' h; simp only [Sem.run] at h; exact ih _ h
  | halt h' => intro w a' w' h; cases h

end Go.Proofs.YtgpbppkmmlclfaaDoor.HB
/- Types as the abstract machine knows them; loads and stores of variables, of whatever shape. -/
namespace Go.Proofs.YtgpbppkmmlclfaaDoor.HB
open Go

inductive TI where
  | one (d : TypeDesc) (zero : AV)
  | agg (fs : List (Nat × Nat × Bool)) (zero : List AV)
  | arr (n esz : Nat) (eagg : Bool) (zero : List AV)
  | slice (e sz bytes : Nat) (eagg : Bool) (zero : List AV)

def TI.isAgg : TI → Bool
  | .agg .. | .arr .. => true
  | _ => false
def TI.size : TI → Nat
  | .agg _ z | .arr _ _ _ z => z.length
  | _ => 1
def TI.zero : TI → List AV
  | .one _ z => [z]
  | .agg _ z | .arr _ _ _ z => z
  | .slice .. => [.nils]

def aggD : TypeDesc → Bool
  | .struct _ | .array _ _ => true
  | _ => false
def aggT (P : Program) (t : TypeId) : Bool := ((P.underlying t).map aggD).getD false
def zok (i : TypeInfo) (z : Value) (d : TypeDesc) : Bool := z.cells.size == i.size && z.cells.all (·.oneCell') && (aggD d == (match z with | .agg _ => true | _ => false))

def tiOf (P : Program) (t : TypeId) : Option TI :=
  match P.info? t, P.underlying t with
  | some i, some d =>
    match i.zero with
    | none => none
    | some z =>
      if zok i z d then
        match d with
        | .struct fields => if fields.toList.all (fun f => (P.info? f.type).isSome && (P.underlying f.type).isSome) then some (.agg (fields.toList.map fun f => (f.offset, P.cellsOf f.type, aggT P f.type)) (z.cells.toList.map ofV)) else none
        | .array n e => some (.arr n (P.cellsOf e) (aggT P e) (z.cells.toList.map ofV))
        | .slice e =>
          match P.info? e, P.underlying e, z with
          | some j, some d', .slice none 0 0 =>
            match j.zero with
            | some ze => if zok j ze d' && decide (0 < j.size) then some (.slice e j.size j.bytes (aggD d') (ze.cells.toList.map ofV)) else none
            | none => none
          | _, _, _ => none
        | d => some (.one d (ofV z))
      else none
  | _, _ => none

abbrev TTab := TypeId → Option TI
def TOk (P : Program) (T : TTab) : Prop := ∀ t ti, T t = some ti → tiOf P t = some ti

structure TIs (P : Program) (t : TypeId) (ti : TI) : Prop where
  ok : ∃ i d z, P.info? t = some i ∧ P.underlying t = some d ∧ i.zero = some z ∧ i.size = ti.size ∧ aggD d = ti.isAgg ∧ z.cells.size = i.size ∧
    (∀ u ∈ z.cells.toList, u.oneCell' = true) ∧ z.cells.toList.map ofV = ti.zero ∧ (ti.isAgg = true → ∃ cs, z = .agg cs) ∧ (ti.isAgg = false → z.oneCell' = true)

theorem tiOf_spec {P : Program} {t : TypeId} {ti : TI} (h : tiOf P t = some ti) : TIs P t ti := by
  unfold tiOf at h
  split at h
  case h_2 => cases h
  rename_i i d hi hd
  split at h
  · cases h
  rename_i z hz
  split at h
  case isFalse => cases h
  rename_i hok
  simp only [zok, Bool.and_eq_true, beq_iff_eq] at hok
  obtain ⟨⟨h1, h2⟩, h3⟩ := hok
  have h2' : ∀ u ∈ z.cells.toList, u.oneCell' = true := fun u hu => (Array.all_eq_true_iff_forall_mem.1 h2) u (by simpa using hu)
  have hagg : aggD d = true → ∃ cs, z = .agg cs := fun e => by
    rw [e] at h3
    split at h3
    · exact ⟨_, rfl⟩
    · cases h3
  have hone : aggD d = false → z.oneCell' = true := fun e => by
    rw [e] at h3
    split at h3
    · cases h3
    · rename_i hna
      have : z.cells = #[z] := by cases z <;> first | rfl | exact absurd rfl (hna _)
      rw [this] at h2'
      exact h2' z (by simp)
  split at h
  · split at h
    case isFalse => cases h
    cases h
    exact ⟨⟨i, _, z, hi, hd, hz, by simp [TI.size, h1], rfl, h1, h2', rfl, (fun _ => hagg rfl), (fun e => by cases e)⟩⟩
  · cases h
    exact ⟨⟨i, _, z, hi, hd, hz, by simp [TI.size, h1], rfl, h1, h2', rfl, (fun _ => hagg rfl), (fun e => by cases e)⟩⟩
  · split at h
    case h_2 => cases h
    split at h
    case h_2 => cases h
    split at h
    case isFalse => cases h
    cases h
    exact ⟨⟨i, _, _, hi, hd, hz, by rw [← h1]; rfl, rfl, h1, h2', rfl, (fun e => by cases e), (fun _ => hone rfl)⟩⟩
  · rename_i hn1 hn2 hn3
    cases h
    have hd0 : aggD d = false := by cases d <;> first | rfl | exact absurd rfl (hn1 _) | exact absurd rfl (hn2 _ _)
    have hz1 := hone hd0
    have hzc : z.cells = #[z] := by cases z <;> first | rfl | cases hz1
    exact ⟨⟨i, _, z, hi, hd, hz, by rw [← h1, hzc]; rfl, hd0, h1, h2', by rw [hzc]; rfl, fun e => (by cases e), fun _ => hz1⟩⟩

theorem tiOf_slice {P : Program} {t : TypeId} {e sz by_ : Nat} {ea : Bool} {zs : List AV} (h : tiOf P t = some (.slice e sz by_ ea zs)) :
    P.underlying t = some (.slice e) ∧ ∃ j ze, P.info? e = some j ∧ j.size = sz ∧ j.bytes = by_ ∧ j.zero = some ze ∧ ze.cells.size = sz ∧ 0 < sz ∧ ze.cells.toList.map ofV = zs ∧ (∀ u ∈ ze.cells.toList, u.oneCell' = true) ∧ aggT P e = ea ∧ (ea = false → ze.oneCell' = true) := by
  unfold tiOf at h
  split at h
  case h_2 => cases h
  rename_i i d hi hd
  split at h
  · cases h
  rename_i z hz
  split at h
  case isFalse => cases h
  split at h
  · split at h <;> cases h
  · cases h
  · split at h
    case h_2 => cases h
    rename_i j d' hj hd' _
    split at h
    case h_2 => cases h
    rename_i ze hze
    split at h
    case isFalse => cases h
    rename_i hok
    simp only [zok, Bool.and_eq_true, beq_iff_eq, decide_eq_true_eq] at hok
    simp only [Option.some.injEq, TI.slice.injEq] at h
    obtain ⟨rfl, rfl, rfl, rfl, rfl⟩ := h
    refine ⟨hd, j, ze, hj, rfl, rfl, hze, hok.1.1.1, hok.2, rfl, fun u hu => (Array.all_eq_true_iff_forall_mem.1 hok.1.1.2) u (by simpa using hu), by simp [aggT, hd'], fun e => ?_⟩
    have h3 := hok.1.2
    rw [e] at h3
    split at h3
    · cases h3
    · rename_i hna
      have h2 : ∀ u ∈ ze.cells.toList, u.oneCell' = true := fun u hu => (Array.all_eq_true_iff_forall_mem.1 hok.1.1.2) u (by simpa using hu)
      have : ze.cells = #[ze] := by cases ze <;> first | rfl | exact absurd rfl (hna _)
      rw [this] at h2
      exact h2 ze (by simp)
  · cases h

theorem tiOf_agg {P : Program} {t : TypeId} {fs : List (Nat × Nat × Bool)} {zs : List AV} (h : tiOf P t = some (.agg fs zs)) :
    ∃ fields : Array Field, P.underlying t = some (.struct fields) ∧ fs = (fields.toList.map fun f => (f.offset, P.cellsOf f.type, aggT P f.type)) ∧ ∀ f ∈ fields.toList, (P.info? f.type).isSome = true ∧ (P.underlying f.type).isSome = true := by
  unfold tiOf at h
  split at h
  case h_2 => cases h
  rename_i i d hi hd
  split at h
  · cases h
  split at h
  case isFalse => cases h
  split at h
  · split at h
    case isFalse => cases h
    rename_i hall
    simp only [Option.some.injEq, TI.agg.injEq] at h
    exact ⟨_, hd, h.1.symm, fun f hf => by simpa using (List.all_eq_true.1 hall) f hf⟩
  · cases h
  · split at h
    case h_2 => cases h
    split at h
    case h_2 => cases h
    split at h
    case isFalse => cases h
    cases h
  · cases h

theorem tiOf_one {P : Program} {t : TypeId} {d0 : TypeDesc} {z0 : AV} (h : tiOf P t = some (.one d0 z0)) : P.underlying t = some d0 := by
  unfold tiOf at h
  split at h
  case h_2 => cases h
  rename_i i d hi hd
  split at h
  · cases h
  split at h
  case isFalse => cases h
  split at h
  · split at h <;> cases h
  · cases h
  · split at h
    case h_2 => cases h
    split at h
    case h_2 => cases h
    split at h
    case isFalse => cases h
    cases h
  · cases h
    exact hd

theorem tiOf_arr {P : Program} {t : TypeId} {n esz : Nat} {ea : Bool} {zs : List AV} (h : tiOf P t = some (.arr n esz ea zs)) :
    ∃ e, P.underlying t = some (.array n e) ∧ P.cellsOf e = esz ∧ aggT P e = ea := by
  unfold tiOf at h
  split at h
  case h_2 => cases h
  rename_i i d hi hd
  split at h
  · cases h
  split at h
  case isFalse => cases h
  split at h
  · split at h <;> cases h
  · simp only [Option.some.injEq, TI.arr.injEq] at h
    obtain ⟨rfl, h1, h2, _⟩ := h
    exact ⟨_, hd, h1, h2⟩
  · split at h
    case h_2 => cases h
    split at h
    case h_2 => cases h
    split at h
    case isFalse => cases h
    cases h
  · cases h

theorem map_ofV_VRs (imm : Nat → Prop) (w : World) (vs : List Value) (h1 : ∀ u ∈ vs, u.oneCell' = true) : VRs imm w (vs.map ofV) vs := by
  refine ⟨by simp, h1, fun j y u hy hu => ?_⟩
  rw [List.getElem?_map, hu] at hy
  simp at hy
  subst hy
  exact ofV_VR imm w u

/-! ### Loads -/
theorem run_isAgg {P : Program} (w : World) {t : TypeId} {d : TypeDesc} (h : P.underlying t = some d) : (isAgg t).run P w = .ok (aggD d) w := by
  unfold isAgg
  rw [Sem.run_bind, run_underlying h]
  cases d <;> rfl

theorem run_loadVar_any {P : Program} {imm : Nat → Prop} {w0 : World} {t : TypeId} {ti : TI} (ht : TIs P t ti) {a : Addr} {xs : List AV} {vs : List Value} (hv : VRs imm w0 xs vs) (hl : ti.size ≤ xs.length) :
    ∃ v, (∀ w : World, (∀ (j : Nat) (u : Value), vs[j]? = some u → w.cell? (a.add j) = some u) → (loadVar t a).run P w = .ok v w) ∧ (ti.isAgg = true → v = .agg (vs.take ti.size).toArray) ∧ (ti.isAgg = false → ∃ u, vs[0]? = some u ∧ v = u) := by
  obtain ⟨i, d, z, hi, hd, hz, hsz, hag, hzs, _, _, _, hone⟩ := ht.ok
  have hvl := hv.len
  cases h : ti.isAgg with
  | true =>
    refine ⟨.agg (vs.take ti.size).toArray, fun w hc => ?_, fun _ => rfl, (fun e => by cases e)⟩
    unfold loadVar
    rw [Sem.run_bind, run_isAgg w hd, hag, h]
    have hl2 : (loadCells a (vs.take ti.size).length).run P w = .ok (vs.take ti.size).toArray w := run_loadCells_list (P := P) w a _ (fun j u hj => hc j u (by
      rw [List.getElem?_take] at hj
      split at hj
      · exact hj
      · cases hj))
    have hlen : (vs.take ti.size).length = ti.size := by rw [List.length_take]; omega
    rw [hlen] at hl2
    simp [sizeOf, typeInfo, hi, hsz, hl2]
  | false =>
    have h1 : ti.size = 1 := by cases ti <;> first | rfl | cases h
    have h0 : 0 < vs.length := by omega
    have e0 : vs[0]? = some vs[0] := List.getElem?_eq_getElem h0
    refine ⟨vs[0], fun w hc => ?_, (by intro e; cases e), fun _ => ⟨_, e0, rfl⟩⟩
    unfold loadVar
    rw [Sem.run_bind, run_isAgg w hd, hag, h]
    have hc0 := hc 0 _ e0
    have ha : a.add 0 = a := by simp [Addr.add]
    rw [ha] at hc0
    simp [load, Sem.run, hc0, go_sem]

end Go.Proofs.YtgpbppkmmlclfaaDoor.HB
/- Pointers and stores of the abstract machine: what lies behind an abstract pointer, and what a store through it leaves. -/
namespace Go.Proofs.YtgpbppkmmlclfaaDoor.HB
open Go

/-! ### Lists of elements and their cells -/
theorem flats_cons (x : AV) (xs : List AV) : flats (x :: xs) = flat x ++ flats xs := by simp [flats]
theorem flats_append (xs ys : List AV) : flats (xs ++ ys) = flats xs ++ flats ys := by simp [flats]
theorem flats_length {sz : Nat} {xs : List AV} (h : ∀ x ∈ xs, (flat x).length = sz) : (flats xs).length = xs.length * sz := by
  induction xs with
  | nil => simp [flats]
  | cons x xs ih => rw [flats_cons, List.length_append, h x (by simp), ih (fun y hy => h y (by simp [hy])), List.length_cons, Nat.succ_mul]; omega
theorem flats_at {sz : Nat} : ∀ {xs : List AV} (_ : ∀ x ∈ xs, (flat x).length = sz) {i : Nat} {x : AV}, xs[i]? = some x → ((flats xs).drop (i * sz)).take sz = flat x
  | [], _, i, x, hi => by simp at hi
  | y :: ys, h, 0, x, hi => by
    simp at hi
    subst hi
    rw [flats_cons, Nat.zero_mul, List.drop_zero, List.take_left' (h y (by simp))]
  | y :: ys, h, i + 1, x, hi => by
    have hy := h y (by simp)
    rw [flats_cons, Nat.succ_mul, Nat.add_comm (i * sz) sz, ← List.drop_drop, List.drop_left' hy]
    exact flats_at (fun z hz => h z (by simp [hz])) (by simpa using hi)
theorem flats_set {sz : Nat} : ∀ {xs : List AV} (_ : ∀ x ∈ xs, (flat x).length = sz) {i : Nat} (_ : i < xs.length) (x' : AV), flats (xs.set i x') = (flats xs).take (i * sz) ++ flat x' ++ (flats xs).drop (i * sz + sz)
  | [], _, i, hi, x' => by simp at hi
  | y :: ys, h, 0, hi, x' => by
    rw [List.set_cons_zero, flats_cons, flats_cons, Nat.zero_mul, List.take_zero, Nat.zero_add, List.drop_left' (h y (by simp))]
    rfl
  | y :: ys, h, i + 1, hi, x' => by
    have hy := h y (by simp)
    rw [List.set_cons_succ, flats_cons, flats_cons, flats_set (fun z hz => h z (by simp [hz])) (by simpa using hi) x', Nat.succ_mul]
    have e1 : (flat y ++ flats ys).take (i * sz + sz) = flat y ++ (flats ys).take (i * sz) := by
      rw [List.take_append, hy, List.take_of_length_le (by omega)]
      congr 1; congr 1; omega
    have e2 : (flat y ++ flats ys).drop (i * sz + sz + sz) = (flats ys).drop (i * sz + sz) := by
      rw [List.drop_append, hy, List.drop_of_length_le (by omega), List.nil_append]
      congr 1; omega
    rw [e1, e2]
    simp

def splice (cs : List AV) (off : Nat) (new : List AV) : List AV := cs.take off ++ new ++ cs.drop (off + new.length)
theorem splice_length {cs new : List AV} {off : Nat} (h : off + new.length ≤ cs.length) : (splice cs off new).length = cs.length := by
  simp [splice]; omega
def unflat : AV → List AV → AV
  | .agg _, cs => .agg cs
  | _, [c] => c
  | _, _ => .junk
def isCell : AV → Bool
  | .junk | .agg _ | .tuple _ => false
  | .any v => v.oneCell'
  | _ => true
theorem isCell_one {imm : Nat → Prop} {w : World} {x : AV} {v : Value} (h : VR imm w x v) (hc : isCell x = true) : v.oneCell' = true := by
  cases h <;> first | rfl | (simp [isCell] at hc; done) | simpa [isCell] using hc
def cellsA : AV → Option (List AV)
  | .agg xs => some xs
  | x => if isCell x then some [x] else none
theorem cellsA_flat {x : AV} {cs : List AV} (h : cellsA x = some cs) : flat x = cs := by
  unfold cellsA at h
  split at h
  · cases h; rfl
  · rename_i hn
    split at h
    · cases h
      cases x <;> first | rfl | exact absurd rfl (hn _)
    · cases h
theorem cellsA_VRs {imm : Nat → Prop} {w : World} {x : AV} {v : Value} {cs : List AV} (h : VR imm w x v) (hc : cellsA x = some cs) : VRs imm w cs v.cells.toList := by
  rw [← cellsA_flat hc]
  refine h.flat_cells ?_
  cases x with
  | agg xs => exact .inr ⟨xs, rfl⟩
  | _ =>
    refine .inl (isCell_one h ?_)
    first
      | rfl
      | (simp only [cellsA] at hc
         split at hc
         · assumption
         · cases hc)

theorem VRs.splice {imm : Nat → Prop} {w : World} {cs new : List AV} {vs us : List Value} (h : VRs imm w cs vs) (k : VRs imm w new us) (off : Nat) :
    VRs imm w (splice cs off new) (vs.take off ++ us ++ vs.drop (off + us.length)) := by
  unfold HB.splice
  rw [← k.len]
  exact ((h.take off).append k).append (h.drop _)

def aptr (L : AHeap) (p : AV) (K : List AV → Prop) : Prop :=
  match p with
  | .ptr k g off => match L[k]? with
    | some (g', .cells _ cs) => g' = g ∧ K (cs.drop off)
    | _ => False
  | .el k g C sz i off => match L[k]? with
    | some (g', .row _ sz' C' xs) => g' = g ∧ C' = C ∧ sz' = sz ∧ ∃ x, xs[i]? = some x ∧ K ((flat x).drop off)
    | _ => False
  | .rel cs => K cs
  | _ => False

theorem cell_at {w : World} {g : Nat} {vs : List Value} {t : TypeId} (hg : w.heap[g]? = some (.cells vs.toArray t (0, 0))) (off : Nat) (j : Nat) (u : Value) (h : (vs.drop off)[j]? = some u) : w.cell? ((⟨g, off, none⟩ : Addr).add j) = some u := by
  have e : (⟨g, off, none⟩ : Addr).add j = ⟨g, off + j, none⟩ := by unfold Addr.add; split <;> simp_all
  rw [e, cell_of_row w g (off + j) _ t (0, 0) hg]
  rw [List.getElem?_drop] at h
  simpa using h

theorem aptr_sound {imm : Nat → Prop} {w : World} {L : AHeap} (hs : Sat imm w L) {p : AV} {v : Value} (hp : VR imm w p v) {K : List AV → Prop} (h : aptr L p K) :
    ∃ a cs vs, v = .pointer (some a) ∧ K cs ∧ VRs imm w cs vs ∧ (imm a.block ∨ Own L a.block) ∧ ∀ (j : Nat) (u : Value), vs[j]? = some u → w.cell? (a.add j) = some u := by
  cases hp with
  | ptr k g off =>
    simp only [aptr] at h
    split at h
    · rename_i g' t cs hk
      obtain ⟨rfl, h⟩ := h
      cases hs.holds k g' _ hk trivial with
      | cells _ _ vs hg hv => exact ⟨_, _, vs.drop off, rfl, h, hv.drop off, .inr ⟨k, _, _, hk, rfl⟩, fun j u hj => cell_at hg off j u hj⟩
    · exact h.elim
  | el k g C sz i off =>
    simp only [aptr] at h
    split at h
    · rename_i g' e sz' C' xs hk
      obtain ⟨rfl, rfl, rfl, x, hx, h⟩ := h
      cases hs.holds k g' _ hk trivial with
      | row _ _ _ _ vs spare hg hs0 hsz hC hm hxl hv =>
        have h1 := hv.drop (i * sz')
        have h2 := h1.take sz'
        rw [flats_at hsz hx] at h2
        refine ⟨_, _, _, rfl, h, h2.drop off, .inr ⟨k, _, _, hk, rfl⟩, fun j u hj => ?_⟩
        refine cell_at hg (i * sz' + off) j u ?_
        rw [List.getElem?_drop] at hj ⊢
        rw [List.getElem?_take] at hj
        split at hj
        · rw [List.getElem?_drop] at hj
          rw [← hj, show i * sz' + off + j = i * sz' + (off + j) from by omega]
          have hlt : i * sz' + (off + j) < vs.length := (List.getElem?_eq_some_iff.1 hj).1
          rw [List.getElem?_append_left hlt]
        · cases hj
    · exact h.elim
  | rel cs a vs hi hl hc h1 hv => exact ⟨a, cs, vs, rfl, h, ⟨hl, h1, hv⟩, .inl hi, hc⟩
  | _ => exact h.elim

def astore (L : AHeap) (p : AV) (new : List AV) (K : AHeap → Prop) : Prop :=
  match p with
  | .ptr k g off => match L[k]? with
    | some (g', .cells t cs) => g' = g ∧ off + new.length ≤ cs.length ∧ K (L.set k (g, .cells t (splice cs off new)))
    | _ => False
  | .el k g C sz i off => match L[k]? with
    | some (g', .row e sz' C' xs) => g' = g ∧ C' = C ∧ sz' = sz ∧ ∃ x, xs[i]? = some x ∧ off + new.length ≤ (flat x).length ∧ flat (unflat x (splice (flat x) off new)) = splice (flat x) off new ∧
        K (L.set k (g, .row e sz' C' (xs.set i (unflat x (splice (flat x) off new)))))
    | _ => False
  | _ => False

theorem grownBy_setRow (w : World) (g : Nat) (cs : Array Value) : w.grownBy (w.setRow g cs) (some g) :=
  ⟨rfl, rfl, rfl, by simp, fun k _ hk => setRow_other w g k _ (fun e => hk (by rw [e]))⟩

theorem VRs.setRow {imm : Nat → Prop} {w : World} {xs : List AV} {vs : List Value} (h : VRs imm w xs vs) {g : Nat} (hg : ¬ imm g) (cs : Array Value) : VRs imm (w.setRow g cs) xs vs :=
  h.mono (fun _ x => x) (fun a ha => World.cell?_of_block (setRow_other w g a.block cs (fun e => hg (e ▸ ha))))

theorem astore_sound {D : Prop} {P : Program} {imm : Nat → Prop} {w : World} {L : AHeap} (hs : Sat imm w L) {p : AV} {v : Value} (hp : VR imm w p v) {new : List AV} {us : List Value} (hu : VRs imm w new us) {K : AHeap → Prop} (h : astore L p new K) :
    ∃ a L' w', v = .pointer (some a) ∧ K L' ∧ (storeCells a us).run P w = .ok () w' ∧ Sat imm w' L' ∧ Tr D (Own L) imm w (Own L') imm w' := by
  have hl := hu.len
  cases hp with
  | ptr k g off =>
    simp only [astore] at h
    split at h
    · rename_i g' t cs hk
      obtain ⟨rfl, hle, h⟩ := h
      have hfar := hs.far g' ⟨k, _, _, hk, rfl⟩
      cases hs.holds k g' _ hk trivial with
      | cells _ _ vs hg hv =>
        have hvl := hv.len
        have hr := run_storeCells_at P g' off t us 0 vs.toArray w hg (by simp; omega) hu.one
        simp only [Nat.add_zero] at hr
        refine ⟨_, _, _, rfl, h, hr, hs.turn hk trivial (by simp) (fun i _ hi => setRow_other w g' i _ hi) (.inl rfl) ?_, Tr.turn hk trivial (fun _ => Nat.le_refl _) (grownBy_setRow w g' _) (.inl rfl)⟩
        exact .cells t _ _ (setRow_heap w g' _ _ t _ hg) ((hv.splice hu off).setRow hfar _)
    · exact h.elim
  | el k g C sz i off =>
    simp only [astore] at h
    split at h
    · rename_i g' e sz' C' xs hk
      obtain ⟨rfl, rfl, rfl, x, hx, hle, hfl, h⟩ := h
      have hfar := hs.far g' ⟨k, _, _, hk, rfl⟩
      cases hs.holds k g' _ hk trivial with
      | row _ _ _ _ vs spare hg hs0 hsz hC hm hxl hv =>
        have hvl := hv.len
        have hil : i < xs.length := (List.getElem?_eq_some_iff.1 hx).1
        have hxm : x ∈ xs := List.mem_of_getElem? hx
        have hxs := hsz x hxm
        have hfll := flats_length hsz
        have hmul : i * sz' + sz' ≤ xs.length * sz' := by rw [← Nat.succ_mul]; exact Nat.mul_le_mul_right _ hil
        have hpl : i * sz' + off + us.length ≤ vs.length := by omega
        have hr := run_storeCells_at P g' (i * sz' + off) e us 0 (vs ++ spare).toArray w hg (by simp; omega) hu.one
        simp only [Nat.add_zero] at hr
        refine ⟨_, _, _, rfl, h, hr, hs.turn hk trivial (by simp) (fun i _ hi => setRow_other w g' i _ hi) (.inl rfl) ?_, Tr.turn hk trivial (fun _ => Nat.le_refl _) (grownBy_setRow w g' _) (.inl rfl)⟩
        have hlist : (vs ++ spare).take (i * sz' + off) ++ us ++ (vs ++ spare).drop (i * sz' + off + us.length) = (vs.take (i * sz' + off) ++ us ++ vs.drop (i * sz' + off + us.length)) ++ spare := by
          rw [List.take_append_of_le_length (by omega), List.drop_append_of_le_length (by omega)]
          simp
        have hset : flats (xs.set i (unflat x (splice (flat x) off new))) = splice (flats xs) (i * sz' + off) new := by
          rw [flats_set hsz hil, hfl]
          have hat := flats_at hsz hx
          unfold splice
          have e1 : (flats xs).take (i * sz' + off) = (flats xs).take (i * sz') ++ (flat x).take off := by
            rw [List.take_add, ← hat, List.take_take, Nat.min_eq_left (by omega)]
          have e2 : (flats xs).drop (i * sz' + off + new.length) = (flat x).drop (off + new.length) ++ (flats xs).drop (i * sz' + sz') := by
            rw [show i * sz' + off + new.length = i * sz' + (off + new.length) from by omega, ← List.drop_drop, ← List.drop_drop (i := sz'), ← hat]
            conv => lhs; rw [← List.take_append_drop sz' ((flats xs).drop (i * sz'))]
            rw [List.drop_append_of_le_length (by rw [hat]; omega)]
          rw [e1, e2]
          simp
        have hfin := (hv.splice hu (i * sz' + off)).setRow hfar ((vs ++ spare).take (i * sz' + off) ++ us ++ (vs ++ spare).drop (i * sz' + off + us.length)).toArray
        rw [← hset] at hfin
        refine .row e sz' C' _ _ spare ?_ hs0 (fun y hy => ?_) ?_ hm (by simp; exact hxl) hfin
        · rw [← hlist]
          simpa using setRow_heap w g' _ _ e _ hg
        · rcases List.mem_or_eq_of_mem_set hy with hy | rfl
          · exact hsz y hy
          · rw [hfl, splice_length hle, hxs]
        · rw [← hC]
          simp
          omega
    · exact h.elim
  | _ => exact h.elim

end Go.Proofs.YtgpbppkmmlclfaaDoor.HB
/- The abstract machine's operations, and that the model's own do what they say. -/
namespace Go.Proofs.YtgpbppkmmlclfaaDoor.HB
open Go

structure Cx where
  P : Program
  T : TTab
  /-- Structs that may be compared: numbers, bools and texts, a cell each. -/
  E : TypeId → Option (List AV)
  GT : Nat → Option (List AV)
  G : (Nat → Prop) → World → Prop
  /-- Are draws counted? -/
  D : Prop := False

def kindTy : Option TypeDesc → AV → Bool
  | some (.int _), .int .. => true
  | some .bool, .bool _ => true
  | some .string, .str _ => true
  | _, _ => false
def fieldsOk (P : Program) : List Field → Nat → List AV → Bool
  | [], _, [] => true
  | f :: fs, i, k :: ks => decide (f.name ≠ "_") && f.offset == i && kindTy (P.underlying f.type) k && fieldsOk P fs (i + 1) ks
  | _, _, _ => false
def eqOkP (P : Program) (t : TypeId) (ks : List AV) : Bool :=
  match P.underlying t with
  | some (.struct fs) => !P.stoodInHeld t && !P.eqGuardType P.depth t && fieldsOk P fs.toList 0 ks
  | _ => false

structure Cx.Ok (C : Cx) : Prop where
  types : TOk C.P C.T
  eqs : ∀ t ks, C.E t = some ks → eqOkP C.P t ks = true
  mono : ∀ imm imm' w w', C.G imm w → (∀ g, imm g → imm' g) → (∀ g, imm g → w'.heap[g]? = w.heap[g]?) → C.G imm' w'
  globs : ∀ imm w g cs, C.G imm w → C.GT g = some cs → imm g ∧ ∃ vs t fr, w.heap[g]? = some (.cells vs t fr) ∧ VRs imm w cs vs.toList
  mixed : C.P.follows .mixedOrders = true

def FnSpec (C : Cx) (f : FuncId) (args : List AV) (L : AHeap) (Q : AV → AHeap → Prop) : Prop :=
  (∃ fn, C.P.funcs[f]? = some fn ∧ (fn.name == "runtime.NumGoroutine") = false ∧ fn.body.isSome = true) ∧
  ∀ (imm : Nat → Prop) (w : World) (vs : List Value), C.G imm w → Sat imm w L → vs.length = args.length → (∀ (j : Nat) (x : AV) (v : Value), args[j]? = some x → vs[j]? = some v → VR imm w x v) →
    Calls C.P f vs.toArray w (fun e w' => ∃ v r L' imm', e = .returned v ∧ VR imm' w' r v ∧ Sat imm' w' L' ∧ Tr C.D (Own L) imm w (Own L') imm' w' ∧ Q r L')

theorem FnSpec.mono {C : Cx} {f : FuncId} {args : List AV} {L : AHeap} {Q Q' : AV → AHeap → Prop} (h : FnSpec C f args L Q) (hq : ∀ r L', Q r L' → Q' r L') : FnSpec C f args L Q' :=
  ⟨h.1, fun imm w vs hG hs hl hv => (h.2 imm w vs hG hs hl hv).mono fun _ _ ⟨v, r, L', imm', a, b, c, d, q⟩ => ⟨v, r, L', imm', a, b, c, d, hq _ _ q⟩⟩

def scal : AV → Bool
  | .ro .. | .rel .. | .agg .. | .tuple .. => false
  | _ => true
def scals : AV → Bool
  | .tuple xs => xs.all scal
  | .agg xs => xs.all scal
  | x => scal x
theorem VR.of_scal {imm imm' : Nat → Prop} {w w' : World} {x : AV} {v : Value} (h : VR imm w x v) (hs : scal x = true) : VR imm' w' x v := by
  cases h <;> first | (simp [scal] at hs; done) | (constructor <;> assumption)
theorem VR.of_scals {imm imm' : Nat → Prop} {w w' : World} {x : AV} {v : Value} (h : VR imm w x v) (hs : scals x = true) : VR imm' w' x v := by
  cases h with
  | tuple xs vs hl hv => exact .tuple xs vs hl (fun j y u hy hu => (hv j y u hy hu).of_scal ((List.all_eq_true.1 hs) y (List.mem_of_getElem? hy)))
  | agg xs vs hl h1 hv => exact .agg xs vs hl h1 (fun j y u hy hu => (hv j y u hy hu).of_scal ((List.all_eq_true.1 hs) y (List.mem_of_getElem? hy)))
  | junk v => exact .junk v
  | bool b => exact .bool b
  | int k n => exact .int k n
  | str s => exact .str s
  | nilp => exact .nilp
  | ptr k g off => exact .ptr k g off
  | el k g C sz i off => exact .el k g C sz i off
  | rel cs a vs hi hl hc h1 hv => cases hs
  | nils => exact .nils
  | sl k g C n => exact .sl k g C n
  | sb k g C sz lo n off h1 h0 => exact .sb k g C sz lo n off h1 h0
  | ro => cases hs
  | any v => exact .any v

inductive Lend (L : AHeap) : AV → AV → Prop where
  | same (x : AV) : Lend L x x
  | row (k g C n e sz : Nat) (xs : List AV) (hk : L[k]? = some (g, .row e sz C xs)) (hn : n ≤ xs.length) : Lend L (.sl k g C n) (.ro sz xs n)
  | rows (k g C n e : Nat) (xs ys : List AV) (hk : L[k]? = some (g, .row e 1 C xs)) (hn : n ≤ xs.length) (hfx : flats xs = xs) (hfy : flats ys = ys) (h1 : ∀ y ∈ ys, (flat y).length = 1) (hl : xs.length = ys.length)
      (h : ∀ (j : Nat) (x y : AV), xs[j]? = some x → ys[j]? = some y → Lend L x y) : Lend L (.sl k g C n) (.ro 1 ys n)
  | nils (sz : Nat) : Lend L .nils (.ro sz [] 0)
  | agg (xs ys : List AV) (hl : xs.length = ys.length) (h : ∀ (j : Nat) (x y : AV), xs[j]? = some x → ys[j]? = some y → Lend L x y) : Lend L (.agg xs) (.agg ys)
  | tuple (xs ys : List AV) (hl : xs.length = ys.length) (h : ∀ (j : Nat) (x y : AV), xs[j]? = some x → ys[j]? = some y → Lend L x y) : Lend L (.tuple xs) (.tuple ys)

def Lends (L : AHeap) : List AV → List AV → Prop
  | [], [] => True
  | x :: xs, y :: ys => Lend L x y ∧ Lends L xs ys
  | _, _ => False
theorem Lends.at_ {L : AHeap} : ∀ {xs ys : List AV}, Lends L xs ys → xs.length = ys.length ∧ ∀ (j : Nat) (x y : AV), xs[j]? = some x → ys[j]? = some y → Lend L x y
  | [], [], _ => ⟨rfl, by simp⟩
  | [], _ :: _, h => h.elim
  | _ :: _, [], h => h.elim
  | x :: xs, y :: ys, h => by
    obtain ⟨hl, hh⟩ := Lends.at_ h.2
    refine ⟨by simp [hl], fun j a b ha hb => ?_⟩
    cases j with
    | zero => simp at ha hb; subst ha; subst hb; exact h.1
    | succ j => exact hh j a b (by simpa using ha) (by simpa using hb)
theorem Lend.tuples {L : AHeap} {xs ys : List AV} (h : Lends L xs ys) : Lend L (.tuple xs) (.tuple ys) := .tuple _ _ h.at_.1 h.at_.2
theorem Lends.refl (L : AHeap) : ∀ xs, Lends L xs xs
  | [] => trivial
  | x :: xs => ⟨.same x, Lends.refl L xs⟩

theorem Lend.VR {imm : Nat → Prop} {w : World} {L : AHeap} (hs : Sat imm w L) {x y : AV} (h : Lend L x y) : ∀ {v : Value}, VR imm w x v → VR (fun i => imm i ∨ Own L i) w y v := by
  have up : ∀ {x : AV} {v : Value}, HB.VR imm w x v → HB.VR (fun i => imm i ∨ Own L i) w x v := fun h => h.mono (fun _ h => .inl h) (fun _ _ => rfl)
  induction h with
  | same x => exact fun hv => up hv
  | row k g C n e sz xs hk hn =>
    intro v hv
    cases hv with
    | sl =>
      cases hs.holds k g _ hk trivial with
      | row _ _ _ _ vs spare hg hs0 hsz hC hm hx hvs =>
        have hvl := hvs.len
        refine .ro sz xs n _ _ vs hn hx hsz hvl (fun _ => ⟨_, rfl, .inr ⟨k, _, _, hk, rfl⟩, fun j u hj => ?_⟩) hvs.one (fun j y u hy hu => up (hvs.at_ j y u hy hu))
        have := cell_at hg 0 j u (by simpa using List.getElem?_append_left (l₂ := spare) (List.getElem?_eq_some_iff.1 hj).1 |>.trans hj)
        exact this
  | rows k g C n e xs ys hk hn hfx hfy h1 hl h ih =>
    intro v hv
    cases hv with
    | sl =>
      cases hs.holds k g _ hk trivial with
      | row _ _ _ _ vs spare hg hs0 hsz hC hm hx hvs =>
        have hvl := hvs.len
        rw [hfx] at hvs hvl
        refine .ro 1 ys n _ _ vs (by omega) (by omega) h1 (by rw [hfy]; omega) (fun _ => ⟨_, rfl, .inr ⟨k, _, _, hk, rfl⟩, fun j u hj => ?_⟩) hvs.one (fun j y u hy hu => ?_)
        · have := cell_at hg 0 j u (by simpa using List.getElem?_append_left (l₂ := spare) (List.getElem?_eq_some_iff.1 hj).1 |>.trans hj)
          exact this
        · rw [hfy] at hy
          have hj : j < xs.length := by rw [hl]; exact (List.getElem?_eq_some_iff.1 hy).1
          exact ih j xs[j] y (List.getElem?_eq_getElem hj) hy (hvs.at_ j _ u (List.getElem?_eq_getElem hj) hu)
  | nils sz =>
    intro v hv
    cases hv
    exact .ro sz [] 0 _ _ [] (by simp) (by simp) (by simp) rfl (by simp) (by simp) (by simp)
  | agg xs ys hl h ih =>
    intro v hv
    cases hv with
    | agg _ vs hvl h1 hv =>
      refine .agg ys vs (by omega) h1 (fun j y u hy hu => ?_)
      have hj : j < xs.length := by rw [hl]; exact (List.getElem?_eq_some_iff.1 hy).1
      exact ih j xs[j] y (List.getElem?_eq_getElem hj) hy (hv j _ u (List.getElem?_eq_getElem hj) hu)
  | tuple xs ys hl h ih =>
    intro v hv
    cases hv with
    | tuple _ vs hvl hv =>
      refine .tuple ys vs (by omega) (fun j y u hy hu => ?_)
      have hj : j < xs.length := by rw [hl]; exact (List.getElem?_eq_some_iff.1 hy).1
      exact ih j xs[j] y (List.getElem?_eq_getElem hj) hy (hv j _ u (List.getElem?_eq_getElem hj) hu)

def Sub (r r' : AV) : Prop := ∀ (imm : Nat → Prop) (w : World) (v : Value), VR imm w r v → VR imm w r' v
theorem Sub.refl (r : AV) : Sub r r := fun _ _ _ h => h
theorem Sub.junk (r : AV) : Sub r .junk := fun _ _ v _ => .junk v
theorem Sub.sl (k k' g C n : Nat) : Sub (.sl k g C n) (.sl k' g C n) := fun _ _ _ h => by cases h; exact .sl ..
theorem Sub.sb (k k' g C sz lo n : Nat) : Sub (.sb k g C sz lo n) (.sb k' g C sz lo n) := fun _ _ _ h => by cases h; exact .sb _ _ _ _ _ _ _ (by assumption) (by assumption)
theorem Sub.slsb (k k' g C sz n : Nat) : Sub (.sl k g C n) (.sb k' g C sz 0 n) := fun _ _ _ h => by cases h; exact .sb k' g C sz 0 n 0 (fun _ => by simp) (fun _ => rfl)
theorem Sub.ptr (k k' g off : Nat) : Sub (.ptr k g off) (.ptr k' g off) := fun _ _ _ h => by cases h; exact .ptr ..

/-! ### Some objects are handed over, the others stay -/
def selL (L : AHeap) (ks : List Nat) : AHeap := ks.map fun k => L.getD k (0, .dead)
def idxN : List Nat → Nat → Nat → Option Nat
  | [], _, _ => none
  | k :: ks, j, i => if k == j then some i else idxN ks j (i + 1)
def mergeA (ks : List Nat) (L' : AHeap) : Nat → AHeap → AHeap
  | _, [] => L'.drop ks.length
  | j, x :: L => (match idxN ks j 0 with
    | some i => L'.getD i (0, .dead)
    | none => x) :: mergeA ks L' (j + 1) L
def mergeL (L : AHeap) (ks : List Nat) (L' : AHeap) : AHeap := mergeA ks L' 0 L

theorem idxN_some : ∀ {ks : List Nat} {j b i : Nat}, idxN ks j b = some i → b ≤ i ∧ ks[i - b]? = some j
  | [], _, _, _, h => by cases h
  | k :: ks, j, b, i, h => by
    simp only [idxN] at h
    split at h
    · rename_i e; cases h; exact ⟨Nat.le_refl _, by simpa using e⟩
    · obtain ⟨h1, h2⟩ := idxN_some h
      refine ⟨by omega, ?_⟩
      rw [show i - b = (i - (b + 1)) + 1 by omega]
      simpa using h2
theorem idxN_none : ∀ {ks : List Nat} {j b : Nat}, idxN ks j b = none → j ∉ ks
  | [], _, _, _ => by simp
  | k :: ks, j, b, h => by
    simp only [idxN] at h
    split at h
    · cases h
    · rename_i e
      have := idxN_none h
      simp only [List.mem_cons, not_or]
      exact ⟨fun e' => e (by simp [e']), this⟩
theorem mergeA_at {ks : List Nat} {L' : AHeap} : ∀ {L : AHeap} {j0 j : Nat} {x : Nat × AObj}, (mergeA ks L' j0 L)[j]? = some x →
    (j < L.length ∧ ∃ i, idxN ks (j0 + j) 0 = some i ∧ x = L'.getD i (0, .dead)) ∨ (j < L.length ∧ idxN ks (j0 + j) 0 = none ∧ L[j]? = some x) ∨ (L.length ≤ j ∧ L'[ks.length + (j - L.length)]? = some x)
  | [], j0, j, x, h => by
    simp only [mergeA, List.getElem?_drop] at h
    exact .inr (.inr ⟨Nat.zero_le _, by simpa using h⟩)
  | y :: L, j0, 0, x, h => by
    simp only [mergeA, List.getElem?_cons_zero, Option.some.injEq] at h
    cases e : idxN ks (j0 + 0) 0 with
    | some i => rw [Nat.add_zero] at e; rw [e] at h; exact .inl ⟨by simp, i, rfl, h.symm⟩
    | none => rw [Nat.add_zero] at e; rw [e] at h; exact .inr (.inl ⟨by simp, rfl, by simpa using h⟩)
  | y :: L, j0, j + 1, x, h => by
    simp only [mergeA, List.getElem?_cons_succ] at h
    have := mergeA_at h
    rw [show j0 + 1 + j = j0 + (j + 1) by omega] at this
    rcases this with ⟨h1, h2⟩ | ⟨h1, h2, h3⟩ | ⟨h1, h2⟩
    · exact .inl ⟨by simp; omega, h2⟩
    · exact .inr (.inl ⟨by simp; omega, h2, by simpa using h3⟩)
    · exact .inr (.inr ⟨by simp; omega, by rw [show j + 1 - (y :: L).length = j - L.length by simp]; exact h2⟩)
theorem merge_live {L L' : AHeap} {ks : List Nat} {j g : Nat} {o : AObj} (h : (mergeL L ks L')[j]? = some (g, o)) (ho : o.live) :
    (∃ i : Nat, ks[i]? = some j ∧ L'[i]? = some (g, o)) ∨ (j ∉ ks ∧ L[j]? = some (g, o)) ∨ (L.length ≤ j ∧ L'[ks.length + (j - L.length)]? = some (g, o)) := by
  rcases mergeA_at h with ⟨h1, i, h2, h3⟩ | ⟨h1, h2, h3⟩ | h1
  · rw [Nat.zero_add] at h2
    obtain ⟨_, h4⟩ := idxN_some h2
    refine .inl ⟨i, by simpa using h4, ?_⟩
    simp only [List.getD] at h3
    cases e : L'[i]? with
    | none => rw [e] at h3; simp at h3; rw [h3.2] at ho; exact ho.elim
    | some y => rw [e] at h3; simp at h3; rw [h3]
  · exact .inr (.inl ⟨by have := idxN_none h2; simpa using this, h3⟩)
  · exact .inr (.inr h1)
theorem selL_live {L : AHeap} {ks : List Nat} {i g : Nat} {o : AObj} (h : (selL L ks)[i]? = some (g, o)) (ho : o.live) : ∃ k, ks[i]? = some k ∧ L[k]? = some (g, o) := by
  simp only [selL, List.getElem?_map] at h
  cases hk : ks[i]? with
  | none => simp [hk] at h
  | some k =>
    simp only [hk, Option.map_some, Option.some.injEq, List.getD] at h
    cases hl : L[k]? with
    | none => rw [hl] at h; simp at h; rw [← h.2] at ho; exact ho.elim
    | some p => rw [hl] at h; simp at h; exact ⟨k, rfl, by rw [hl, h]⟩
theorem own_selL {L : AHeap} {ks : List Nat} {i : Nat} (h : Own (selL L ks) i) : ∃ k g o, k ∈ ks ∧ L[k]? = some (g, o) ∧ o.owns g i := by
  obtain ⟨j, g, o, hi, ho⟩ := h
  obtain ⟨k, h1, h2⟩ := selL_live hi ho.live
  exact ⟨k, g, o, List.mem_of_getElem? h1, h2, ho⟩
theorem selL_sat {imm : Nat → Prop} {w : World} {L : AHeap} {ks : List Nat} (hs : Sat imm w L) (hnd : ks.Nodup) : Sat imm w (selL L ks) := by
  refine ⟨fun j g o hj ho => ?_, fun j j' g g' i o o' h1 l1 h2 l2 => ?_, fun g hg => ?_, fun g hg => ?_, hs.immlt⟩
  · obtain ⟨k, _, hk⟩ := selL_live hj ho
    exact hs.holds k g o hk ho
  · obtain ⟨k, e1, hk⟩ := selL_live h1 l1.live
    obtain ⟨k', e2, hk'⟩ := selL_live h2 l2.live
    have := hs.apart k k' g g' i o o' hk l1 hk' l2
    subst this
    have hj : j < ks.length := (List.getElem?_eq_some_iff.1 e1).1
    exact (List.getElem?_inj hj hnd).1 (e1.trans e2.symm)
  · obtain ⟨k, g', o, _, hk, ho⟩ := own_selL hg; exact hs.far g ⟨k, g', o, hk, ho⟩
  · obtain ⟨k, g', o, _, hk, ho⟩ := own_selL hg; exact hs.lt g ⟨k, g', o, hk, ho⟩

theorem Tr.alloc {D : Prop} {imm : Nat → Prop} {w : World} {L : AHeap} (ob : Obj) (o : AObj) (ho1 : ∀ i, o.owns w.heap.size i → i = w.heap.size := by intro i hi; exact hi) : Tr D (Own L) imm w (Own (L ++ [(w.heap.size, o)])) imm (w.alloc ob) :=
  Tr.new (w' := w.alloc ob) (fun _ => Nat.le_refl w.drawn) (World.grownBy_alloc w ob none) o ho1
theorem merge_sat {D : Prop} {imm imm' : Nat → Prop} {w w' : World} {L L' : AHeap} {ks : List Nat} (hs : Sat imm w L) (hs' : Sat imm' w' L') (ht : Tr D (Own (selL L ks)) imm w (Own L') imm' w') :
    Sat imm' w' (mergeL L ks L') ∧ Tr D (Own L) imm w (Own (mergeL L ks L')) imm' w' := by
  have hsel : ∀ g, Own (selL L ks) g → Own L g := fun g hg => by obtain ⟨k, g', o, _, hk, ho⟩ := own_selL hg; exact ⟨k, g', o, hk, ho⟩
  have hout : ∀ j g i o, j ∉ ks → L[j]? = some (g, o) → o.owns g i → ¬ Own (selL L ks) i := fun j g i o hj hl ho hg => by
    obtain ⟨k, g', o', hk, hl', ho'⟩ := own_selL hg
    have := hs.apart j k g g' i o o' hl ho hl' ho'
    exact hj (this ▸ hk)
  have hnew : ∀ j g i o, j ∉ ks → L[j]? = some (g, o) → o.owns g i → ¬ Own L' i := fun j g i o hj hl ho hg => by
    rcases ht.own2 i hg with h | h
    · exact hout j g i o hj hl ho h
    · have := hs.lt i ⟨j, g, o, hl, ho⟩; omega
  have himm : ∀ i, imm i → w'.heap[i]? = w.heap[i]? := ht.immblock (fun g hg => hs.far g (hsel g hg)) hs.immlt
  refine ⟨⟨fun j g o hj ho => ?_, fun j j' g g' i o o' h1 l1 h2 l2 => ?_, fun g hg => ?_, fun g hg => ?_, hs'.immlt⟩, ⟨ht.drawn, ht.os, ht.tape, ht.output, ht.size, fun i hi ho => ht.block i hi (fun h => ho (hsel i h)), ht.imm1, fun i hi => ?_, fun i hi => ?_⟩⟩
  · rcases merge_live hj ho with ⟨i, _, h⟩ | ⟨hj, h⟩ | ⟨_, h⟩
    · exact hs'.holds _ g o h ho
    · exact (hs.holds j g o h ho).mono ht.imm1 himm (fun i hi => ht.block i (hs.lt i ⟨j, g, o, h, hi⟩) (hout j g i o hj h hi))
    · exact hs'.holds _ g o h ho
  · rcases merge_live h1 l1.live with ⟨m, e, h⟩ | ⟨hj, h⟩ | ⟨hj, h⟩ <;> rcases merge_live h2 l2.live with ⟨m', e', h'⟩ | ⟨hj', h'⟩ | ⟨hj', h'⟩
    · have := hs'.apart _ _ g g' i o o' h l1 h' l2
      subst this
      rw [e] at e'
      simpa using e'
    · exact (hnew j' g' i o' hj' h' l2 ⟨_, g, o, h, l1⟩).elim
    · have := hs'.apart _ _ g g' i o o' h l1 h' l2
      have := (List.getElem?_eq_some_iff.1 e).1
      omega
    · exact (hnew j g i o hj h l1 ⟨_, g', o', h', l2⟩).elim
    · exact hs.apart _ _ g g' i o o' h l1 h' l2
    · exact (hnew j g i o hj h l1 ⟨_, g', o', h', l2⟩).elim
    · have := hs'.apart _ _ g g' i o o' h l1 h' l2
      have := (List.getElem?_eq_some_iff.1 e').1
      omega
    · exact (hnew j' g' i o' hj' h' l2 ⟨_, g, o, h, l1⟩).elim
    · have := hs'.apart _ _ g g' i o o' h l1 h' l2
      omega
  · obtain ⟨j, g', o, hj, ho⟩ := hg
    rcases merge_live hj ho.live with ⟨i, _, h⟩ | ⟨hj, h⟩ | ⟨_, h⟩
    · exact hs'.far g ⟨_, g', o, h, ho⟩
    · intro hi
      rcases ht.imm2 g hi with h' | h' | h'
      · exact hs.far g ⟨j, g', o, h, ho⟩ h'
      · exact hout j g' g o hj h ho h'
      · have := hs.lt g ⟨j, g', o, h, ho⟩; omega
    · exact hs'.far g ⟨_, g', o, h, ho⟩
  · obtain ⟨j, g', o, hj, ho⟩ := hg
    rcases merge_live hj ho.live with ⟨i, _, h⟩ | ⟨hj, h⟩ | ⟨_, h⟩
    · exact hs'.lt g ⟨_, g', o, h, ho⟩
    · exact Nat.lt_of_lt_of_le (hs.lt g ⟨j, g', o, h, ho⟩) ht.size
    · exact hs'.lt g ⟨_, g', o, h, ho⟩
  · rcases ht.imm2 i hi with h | h | h
    · exact .inl h
    · exact .inr (.inl (hsel i h))
    · exact .inr (.inr h)
  · obtain ⟨j, g', o, hj, ho⟩ := hi
    have old : Own L' i → Own L i ∨ w.heap.size ≤ i := fun h => (ht.own2 i h).imp (hsel i) id
    rcases merge_live hj ho.live with ⟨i', _, h⟩ | ⟨hj, h⟩ | ⟨_, h⟩
    · exact old ⟨_, g', o, h, ho⟩
    · exact .inl ⟨j, g', o, h, ho⟩
    · exact old ⟨_, g', o, h, ho⟩

def restL (L : AHeap) (ks : List Nat) : AHeap := mergeL L ks []
theorem restL_live {L : AHeap} {ks : List Nat} {j g : Nat} {o : AObj} (h : (restL L ks)[j]? = some (g, o)) (ho : o.live) : j ∉ ks ∧ L[j]? = some (g, o) := by
  rcases merge_live h ho with ⟨i, _, h⟩ | h | ⟨_, h⟩
  · simp at h
  · exact h
  · simp at h
theorem restL_sat {imm : Nat → Prop} {w : World} {L : AHeap} {ks : List Nat} (hs : Sat imm w L) : Sat imm w (restL L ks) :=
  ⟨fun j g o hj ho => hs.holds j g o (restL_live hj ho).2 ho, fun j j' g g' i o o' h1 l1 h2 l2 => hs.apart j j' g g' i o o' (restL_live h1 l1.live).2 l1 (restL_live h2 l2.live).2 l2,
    fun i ⟨j, g, o, hj, ho⟩ => hs.far i ⟨j, g, o, (restL_live hj ho.live).2, ho⟩, fun i ⟨j, g, o, hj, ho⟩ => hs.lt i ⟨j, g, o, (restL_live hj ho.live).2, ho⟩, hs.immlt⟩

def Subs : List AV → List AV → Prop
  | [], [] => True
  | x :: xs, y :: ys => Sub x y ∧ Subs xs ys
  | _, _ => False
theorem Subs.at_ : ∀ {xs ys : List AV}, Subs xs ys → xs.length = ys.length ∧ ∀ (j : Nat) (x y : AV), xs[j]? = some x → ys[j]? = some y → Sub x y
  | [], [], _ => ⟨rfl, by simp⟩
  | [], _ :: _, h => h.elim
  | _ :: _, [], h => h.elim
  | x :: xs, y :: ys, h => by
    obtain ⟨hl, hh⟩ := Subs.at_ h.2
    refine ⟨by simp [hl], fun j a b ha hb => ?_⟩
    cases j with
    | zero => simp at ha hb; subst ha; subst hb; exact h.1
    | succ j => exact hh j a b (by simpa using ha) (by simpa using hb)
theorem Subs.refl : ∀ xs, Subs xs xs
  | [] => trivial
  | x :: xs => ⟨Sub.refl x, Subs.refl xs⟩
theorem Sub.tuples {xs ys : List AV} (h : Subs xs ys) : Sub (.tuple xs) (.tuple ys) := fun imm w v hv => by
  obtain ⟨hl, hat⟩ := h.at_
  cases hv with
  | tuple _ vs hvl hvv =>
    refine .tuple ys vs (by omega) fun j y u hy hu => ?_
    have hj : j < xs.length := by rw [hl]; exact (List.getElem?_eq_some_iff.1 hy).1
    exact hat j xs[j] y (List.getElem?_eq_getElem hj) hy imm w u (hvv j _ u (List.getElem?_eq_getElem hj) hu)
theorem Sub.el (k k' g C sz i off : Nat) : Sub (.el k g C sz i off) (.el k' g C sz i off) := fun _ _ _ h => by cases h; exact .el ..

def scalO : AObj → Bool
  | .dead => true
  | .cells _ cs => cs.all scal
  | .row _ _ _ xs => (flats xs).all scal
  | .obj _ => true
  | .box .. => false
def scalL (L : AHeap) : Bool := L.all fun x => scalO x.2
theorem VRs.of_scal {imm imm' : Nat → Prop} {w w' : World} {xs : List AV} {vs : List Value} (h : VRs imm w xs vs) (hs : xs.all scal = true) : VRs imm' w' xs vs :=
  ⟨h.len, h.one, fun j y u hy hu => (h.at_ j y u hy hu).of_scal ((List.all_eq_true.1 hs) y (List.mem_of_getElem? hy))⟩
theorem Holds.of_scal {imm imm' : Nat → Prop} {w : World} {g : Nat} {o : AObj} (h : Holds imm w g o) (hs : scalO o = true) : Holds imm' w g o := by
  cases h with
  | dead => exact .dead
  | cells t cs vs hg hv => exact .cells t cs vs hg (hv.of_scal hs)
  | row e sz C xs vs spare hg h0 hsz hC hm hx hv => exact .row e sz C xs vs spare hg h0 hsz hC hm hx (hv.of_scal hs)
  | obj o hg => exact .obj o hg
  | box S P hP hok => cases hs

/-! ### The same heap, said otherwise: handles renumbered, a row's end forgotten -/
def SubO : AObj → AObj → Prop
  | .cells t cs, .cells t' cs' => t = t' ∧ Subs cs cs'
  | .row e sz Cp xs, .row e' sz' Cp' xs' => e = e' ∧ sz = sz' ∧ Cp = Cp' ∧ ∃ m, xs' = xs.take m
  | .dead, .dead => True
  | .obj o, .obj o' => o = o'
  | .box S P, .box S' P' => S = S' ∧ P = P'
  | _, _ => False
def SubL : AHeap → AHeap → Prop
  | [], [] => True
  | (g, o) :: L, (g', o') :: L' => g = g' ∧ SubO o o' ∧ SubL L L'
  | _, _ => False
theorem SubO.cells {t : TypeId} {cs cs' : List AV} (h : Subs cs cs') : SubO (.cells t cs) (.cells t cs') := ⟨rfl, h⟩
theorem SubO.rowR (e sz Cp : Nat) (xs : List AV) : SubO (.row e sz Cp xs) (.row e sz Cp xs) := ⟨rfl, rfl, rfl, xs.length, (List.take_length ..).symm⟩
theorem SubO.rowT (e sz Cp : Nat) (xs : List AV) (m : Nat) : SubO (.row e sz Cp xs) (.row e sz Cp (xs.take m)) := ⟨rfl, rfl, rfl, m, rfl⟩
theorem SubO.live {o o' : AObj} (h : SubO o o') : o'.live ↔ o.live := by
  cases o <;> cases o' <;> simp_all [SubO, AObj.live]
theorem SubO.owns {o o' : AObj} (h : SubO o o') (g i : Nat) : o'.owns g i ↔ o.owns g i := by
  cases o <;> cases o' <;> simp_all [SubO, AObj.owns]
theorem SubO.solo {o o' : AObj} (h : SubO o o') (ho : o.solo) : o'.solo := by
  cases o <;> cases o' <;> simp_all [SubO, AObj.solo]
theorem SubO.holds {imm : Nat → Prop} {w : World} {g : Nat} {o o' : AObj} (h : SubO o o') (hh : Holds imm w g o) : Holds imm w g o' := by
  cases hh with
  | dead => cases o' <;> first | exact .dead | exact h.elim
  | cells t cs vs hg hv =>
    cases o' <;> try exact h.elim
    obtain ⟨rfl, hs⟩ := h
    obtain ⟨hl, hat⟩ := hs.at_
    refine .cells _ _ vs hg ⟨by rw [hv.len, hl], hv.one, fun j x u hx hu => ?_⟩
    · have hj : j < cs.length := by rw [hl]; exact (List.getElem?_eq_some_iff.1 hx).1
      exact hat j cs[j] x (List.getElem?_eq_getElem hj) hx _ _ _ (hv.at_ j _ u (List.getElem?_eq_getElem hj) hu)
  | row e sz Cp xs vs spare hg h0 hsz hC hm hxl hv =>
    cases o' <;> try exact h.elim
    obtain ⟨rfl, rfl, rfl, m, rfl⟩ := h
    have h4 : flats (xs.take m) ++ flats (xs.drop m) = flats xs := by rw [← flats_append, List.take_append_drop]
    have h5 := hv.take (flats (xs.take m)).length
    rw [← h4, List.take_left] at h5
    refine .row _ _ _ _ (vs.take (flats (xs.take m)).length) (vs.drop (flats (xs.take m)).length ++ spare) ?_ h0 (fun x hx => hsz x (List.mem_of_mem_take hx)) ?_ hm (by rw [List.length_take]; omega) h5
    · rw [← List.append_assoc, List.take_append_drop]; exact hg
    · rw [← List.append_assoc, List.take_append_drop]; exact hC
  | obj o hg =>
    cases o' <;> try exact h.elim
    obtain rfl := h
    exact .obj _ hg
  | box S P hP hok =>
    cases o' <;> try exact h.elim
    obtain ⟨rfl, rfl⟩ := h
    exact .box _ _ hP hok
theorem SubL.at_ : ∀ {L L' : AHeap}, SubL L L' → L.length = L'.length ∧ ∀ (j g : Nat) (o' : AObj), L'[j]? = some (g, o') → ∃ o, L[j]? = some (g, o) ∧ SubO o o'
  | [], [], _ => ⟨rfl, by simp⟩
  | [], _ :: _, h => h.elim
  | _ :: _, [], h => h.elim
  | (g, o) :: L, (g', o') :: L', h => by
    obtain ⟨rfl, h1, h2⟩ := h
    obtain ⟨hl, hh⟩ := SubL.at_ h2
    refine ⟨by simp [hl], fun j g o' hj => ?_⟩
    cases j with
    | zero => simp at hj; obtain ⟨rfl, rfl⟩ := hj; exact ⟨_, rfl, h1⟩
    | succ j => simpa using hh j g o' (by simpa using hj)
theorem SubL.own {L L' : AHeap} (h : SubL L L') : Own L' = Own L := by
  obtain ⟨hl, hat⟩ := h.at_
  funext g
  refine propext ⟨?_, ?_⟩
  · rintro ⟨j, g', o', hj, ho⟩
    obtain ⟨o, h1, h2⟩ := hat j g' o' hj
    exact ⟨j, g', o, h1, (h2.owns _ _).1 ho⟩
  · rintro ⟨j, g', o, hj, ho⟩
    have hlt : j < L'.length := by rw [← hl]; exact (List.getElem?_eq_some_iff.1 hj).1
    obtain ⟨o2, h1, h2⟩ := hat j L'[j].1 L'[j].2 (List.getElem?_eq_getElem hlt)
    rw [hj] at h1
    cases h1
    exact ⟨j, _, L'[j].2, List.getElem?_eq_getElem hlt, (h2.owns _ _).2 ho⟩
theorem SubL.sat {imm : Nat → Prop} {w : World} {L L' : AHeap} (h : SubL L L') (hs : Sat imm w L) : Sat imm w L' := by
  have ho := h.own
  obtain ⟨_, hat⟩ := h.at_
  refine ⟨fun j g o hj hl => ?_, fun j j' g g' i o o' h1 l1 h2 l2 => ?_, by rw [ho]; exact hs.far, by rw [ho]; exact hs.lt, hs.immlt⟩
  · obtain ⟨o1, h1, h2⟩ := hat j g o hj
    exact h2.holds (hs.holds j g o1 h1 (h2.live.1 hl))
  · obtain ⟨p1, a1, b1⟩ := hat j g o h1
    obtain ⟨p2, a2, b2⟩ := hat j' g' o' h2
    exact hs.apart j j' g g' i p1 p2 a1 ((b1.owns _ _).1 l1) a2 ((b2.owns _ _).1 l2)

def ExtSpec (C : Cx) (f : FuncId) (args : List AV) (L : AHeap) (r : AV) : Prop :=
  ∀ (imm : Nat → Prop) (w : World) (vs : List Value), C.G imm w → Sat imm w L → vs.length = args.length → (∀ (j : Nat) (x : AV) (v : Value), args[j]? = some x → vs[j]? = some v → VR imm w x v) →
    ∃ v, (callFunc f vs.toArray).run C.P w = .ok (.value v) w ∧ VR imm w r v

inductive ACall (C : Cx) (f : FuncId) (args : List AV) (L : AHeap) (K : AV → AHeap → Prop) : Prop where
  /-- A function that owns nothing; what it answers may be new. (What it has made and still owns stands behind the caller's own.) -/
  | pure (Q : AV → AHeap → Prop) (h : FnSpec C f args [] Q) (k : ∀ r L', Q r L' → ∃ r', Sub r r' ∧ K r' (L ++ L')) : ACall C f args L K
  /-- The same, some arguments lent. -/
  | lend (args' : List AV) (Q : AV → AHeap → Prop) (hl : Lends L args args') (h : FnSpec C f args' [] Q) (k : ∀ r L', Q r L' → scals r = true ∧ K r L) : ACall C f args L K
  /-- A function that is handed some of what is owned. -/
  | sel (ks : List Nat) (hnd : ks.Nodup) (args' : List AV) (Q : AV → AHeap → Prop) (hsub : Subs args args') (h : FnSpec C f args' (selL L ks) Q) (k : ∀ r L', Q r L' → ∃ r', Sub r r' ∧ K r' (mergeL L ks L')) : ACall C f args L K
  /-- The same, the heap said otherwise ahead of the call and behind it. -/
  | selS (ks : List Nat) (hnd : ks.Nodup) (args' : List AV) (Ls : AHeap) (Q : AV → AHeap → Prop) (hsub : Subs args args') (hL : SubL (selL L ks) Ls) (h : FnSpec C f args' Ls Q)
      (k : ∀ r L', Q r L' → ∃ r' L'', Sub r r' ∧ SubL (mergeL L ks L') L'' ∧ K r' L'') : ACall C f args L K
  /-- The same, the others lent. -/
  | selLend (ks : List Nat) (hnd : ks.Nodup) (args1 args' : List AV) (Q : AV → AHeap → Prop) (hl : Lends (restL L ks) args args1) (hsub : Subs args1 args') (h : FnSpec C f args' (selL L ks) Q)
      (k : ∀ r L', Q r L' → scals r = true ∧ scalL L' = true ∧ ∃ r', Sub r r' ∧ K r' (mergeL L ks L')) : ACall C f args L K
  /-- A function that is handed all that is owned. -/
  | all (Q : AV → AHeap → Prop) (h : FnSpec C f args L Q) (k : ∀ r L', Q r L' → K r L') : ACall C f args L K
  /-- A function of the model's own. -/
  | ext (r : AV) (h : ExtSpec C f args L r) (k : K r L) : ACall C f args L K

theorem ACall.ret {C : Cx} {f : FuncId} {args : List AV} {L : AHeap} {K : AV → AHeap → Prop} {r0 : AV} (h : FnSpec C f args [] (fun r L' => r = r0 ∧ L' = [])) (k : K r0 L) : ACall C f args L K :=
  .pure _ h fun r L' ⟨e, e'⟩ => by subst e; subst e'; exact ⟨_, Sub.refl _, by simpa using k⟩
theorem ACall.ret_lend {C : Cx} {f : FuncId} {args args' : List AV} {L : AHeap} {K : AV → AHeap → Prop} {r0 : AV} (hl : Lends L args args') (h : FnSpec C f args' [] (fun r L' => r = r0 ∧ L' = [])) (hr : scals r0 = true) (k : K r0 L) : ACall C f args L K :=
  .lend _ _ hl h fun r L' ⟨e, _⟩ => by subst e; exact ⟨hr, k⟩

theorem ACall.sound {C : Cx} (hC : C.Ok) {f : FuncId} {args : List AV} {L : AHeap} {K : AV → AHeap → Prop} (h : ACall C f args L K) {imm : Nat → Prop} {w : World} (hG : C.G imm w) (hs : Sat imm w L) {vs : List Value}
    (hl : vs.length = args.length) (hv : ∀ (j : Nat) (x : AV) (v : Value), args[j]? = some x → vs[j]? = some v → VR imm w x v) :
    ((∃ fn, C.P.funcs[f]? = some fn ∧ (fn.name == "runtime.NumGoroutine") = false ∧ fn.body.isSome = true) ∧
    Calls C.P f vs.toArray w (fun e w' => ∃ v r L' imm', e = .returned v ∧ VR imm' w' r v ∧ Sat imm' w' L' ∧ Tr C.D (Own L) imm w (Own L') imm' w' ∧ K r L')) ∨
    ∃ v r, (callFunc f vs.toArray).run C.P w = .ok (.value v) w ∧ VR imm w r v ∧ K r L := by
  have hnone : ∀ g, ¬ Own ([] : AHeap) g := fun g ⟨k, g', o, hk, _⟩ => by simp at hk
  cases h with
  | ext r h k =>
    obtain ⟨v, h1, h2⟩ := h imm w vs hG hs hl hv
    exact .inr ⟨v, r, h1, h2, k⟩
  | all Q h k => exact .inl ⟨h.1, (h.2 imm w vs hG hs hl hv).mono fun _ _ ⟨v, r, L', imm', a, b, c, d, q⟩ => ⟨v, r, L', imm', a, b, c, d, k _ _ q⟩⟩
  | sel ks hnd args' Q hsub h k =>
    obtain ⟨hlen, hat⟩ := hsub.at_
    refine .inl ⟨h.1, (h.2 imm w vs hG (selL_sat hs hnd) (by omega) (fun j y v hy hvj => ?_)).mono ?_⟩
    · have hj : j < args.length := by rw [hlen]; exact (List.getElem?_eq_some_iff.1 hy).1
      exact hat j args[j] y (List.getElem?_eq_getElem hj) hy _ _ _ (hv j _ v (List.getElem?_eq_getElem hj) hvj)
    · rintro e w' ⟨v, r, L', imm', rfl, hr, hs', ht, hq⟩
      obtain ⟨r', hsub', hk⟩ := k r L' hq
      obtain ⟨m1, m2⟩ := merge_sat hs hs' ht
      exact ⟨v, r', _, imm', rfl, hsub' _ _ _ hr, m1, m2, hk⟩
  | selS ks hnd args' Ls Q hsub hL h k =>
    obtain ⟨hlen, hat⟩ := hsub.at_
    refine .inl ⟨h.1, (h.2 imm w vs hG (hL.sat (selL_sat hs hnd)) (by omega) (fun j y v hy hvj => ?_)).mono ?_⟩
    · have hj : j < args.length := by rw [hlen]; exact (List.getElem?_eq_some_iff.1 hy).1
      exact hat j args[j] y (List.getElem?_eq_getElem hj) hy _ _ _ (hv j _ v (List.getElem?_eq_getElem hj) hvj)
    · rintro e w' ⟨v, r, L', imm', rfl, hr, hs', ht, hq⟩
      obtain ⟨r', L'', hsub', hL', hk⟩ := k r L' hq
      rw [hL.own] at ht
      obtain ⟨m1, m2⟩ := merge_sat hs hs' ht
      rw [← hL'.own] at m2
      exact ⟨v, r', _, imm', rfl, hsub' _ _ _ hr, hL'.sat m1, m2, hk⟩
  | selLend ks hnd args1 args' Q hle hsub h k =>
    obtain ⟨hlen, hat⟩ := hsub.at_
    obtain ⟨hlen1, hat1⟩ := hle.at_
    have hrest := restL_sat (ks := ks) hs
    have hlt' : ∀ i, imm i ∨ Own (restL L ks) i → i < w.heap.size := fun i hi => hi.elim (hs.immlt i) (hrest.lt i)
    have hs1 : Sat (fun i => imm i ∨ Own (restL L ks) i) w (selL L ks) := by
      have h0 := selL_sat (ks := ks) hs hnd
      refine ⟨fun j g o hj ho => (h0.holds j g o hj ho).mono (fun _ => .inl) (fun _ _ => rfl) (fun _ _ => rfl), h0.apart, fun g hg hi => ?_, h0.lt, hlt'⟩
      rcases hi with hi | hi
      · exact h0.far g hg hi
      · obtain ⟨k1, g1, o1, m1, l1, e1⟩ := own_selL hg
        obtain ⟨k2, g2, o2, l2, e2⟩ := hi
        obtain ⟨m2, l2⟩ := restL_live l2 e2.live
        have := hs.apart k1 k2 g1 g2 g o1 o2 l1 e1 l2 e2
        exact m2 (this ▸ m1)
    refine .inl ⟨h.1, (h.2 (fun i => imm i ∨ Own (restL L ks) i) w vs (hC.mono _ _ _ _ hG (fun _ => .inl) (fun _ _ => rfl)) hs1 (by omega) (fun j y v hy hvj => ?_)).mono ?_⟩
    · have hj : j < args.length := by rw [hlen1, hlen]; exact (List.getElem?_eq_some_iff.1 hy).1
      have hj1 : j < args1.length := by omega
      exact hat j args1[j] y (List.getElem?_eq_getElem hj1) hy _ _ _ ((hat1 j args[j] args1[j] (List.getElem?_eq_getElem hj) (List.getElem?_eq_getElem hj1)).VR hrest (hv j _ v (List.getElem?_eq_getElem hj) hvj))
    · rintro e w' ⟨v, r, L', imm', rfl, hr, hs', ht, hq⟩
      obtain ⟨hsc, hscL, r', hsub', hk⟩ := k r L' hq
      have hfar : ∀ g, Own L' g → ¬ imm g := fun g hg hi => hs'.far g hg (ht.imm1 g (.inl hi))
      have hs2 : Sat imm w' L' := ⟨fun j g o hj ho => (hs'.holds j g o hj ho).of_scal ((List.all_eq_true.1 hscL) _ (List.mem_of_getElem? hj)), hs'.apart, hfar, hs'.lt, fun g hg => Nat.lt_of_lt_of_le (hs.immlt g hg) ht.size⟩
      have ht2 : Tr C.D (Own (selL L ks)) imm w (Own L') imm w' := ⟨ht.drawn, ht.os, ht.tape, ht.output, ht.size, ht.block, fun _ h => h, fun _ h => .inl h, ht.own2⟩
      obtain ⟨m1, m2⟩ := merge_sat hs hs2 ht2
      exact ⟨v, r', _, imm, rfl, hsub' _ _ _ (hr.of_scals hsc), m1, m2, hk⟩
  | pure Q h k =>
    refine .inl ⟨h.1, (h.2 imm w vs hG ⟨by simp, by simp, fun g hg => (hnone g hg).elim, fun g hg => (hnone g hg).elim, hs.immlt⟩ hl hv).mono ?_⟩
    rintro e w' ⟨v, r, L', imm', rfl, hr, hs', ht, hq⟩
    obtain ⟨r', hsub, hk⟩ := k r L' hq
    refine ⟨v, r', L ++ L', imm', rfl, hsub _ _ _ hr, ?_, ?_, hk⟩
    · have hold : ∀ i, i < w.heap.size → w'.heap[i]? = w.heap[i]? := fun i hi => ht.block i hi (hnone i)
      have hnew : ∀ g, Own L' g → w.heap.size ≤ g := fun g hg => (ht.own2 g hg).elim (fun x => (hnone g x).elim) id
      have hcase : ∀ (j g : Nat) (o : AObj), (L ++ L')[j]? = some (g, o) → (j < L.length ∧ L[j]? = some (g, o)) ∨ (L.length ≤ j ∧ L'[j - L.length]? = some (g, o)) := fun j g o hj => by
        by_cases hlt : j < L.length
        · rw [List.getElem?_append_left hlt] at hj; exact .inl ⟨hlt, hj⟩
        · rw [List.getElem?_append_right (by omega)] at hj; exact .inr ⟨by omega, hj⟩
      refine ⟨fun j g o hj ho => ?_, fun j j' g g' i o o' h1 l1 h2 l2 => ?_, fun g hg => ?_, fun g hg => ?_, hs'.immlt⟩
      · rcases hcase j g o hj with ⟨_, hj⟩ | ⟨_, hj⟩
        · exact (hs.holds j g o hj ho).mono ht.imm1 (fun i hi => hold i (hs.immlt i hi)) (fun i hi => hold i (hs.lt i ⟨j, g, o, hj, hi⟩))
        · exact hs'.holds _ g o hj ho
      · rcases hcase j g o h1 with ⟨a1, h1⟩ | ⟨a1, h1⟩ <;> rcases hcase j' g' o' h2 with ⟨a2, h2⟩ | ⟨a2, h2⟩
        · exact hs.apart j j' g g' i o o' h1 l1 h2 l2
        · have := hs.lt i ⟨j, g, o, h1, l1⟩; have := hnew i ⟨_, g', o', h2, l2⟩; omega
        · have := hs.lt i ⟨j', g', o', h2, l2⟩; have := hnew i ⟨_, g, o, h1, l1⟩; omega
        · have := hs'.apart _ _ g g' i o o' h1 l1 h2 l2; omega
      · obtain ⟨j, g', o, hj, ho⟩ := hg
        rcases hcase j g' o hj with ⟨_, hj⟩ | ⟨_, hj⟩
        · intro hi
          rcases ht.imm2 g hi with h' | h' | h'
          · exact hs.far g ⟨j, g', o, hj, ho⟩ h'
          · exact hnone g h'
          · have := hs.lt g ⟨j, g', o, hj, ho⟩; omega
        · exact hs'.far g ⟨_, g', o, hj, ho⟩
      · obtain ⟨j, g', o, hj, ho⟩ := hg
        rcases hcase j g' o hj with ⟨_, hj⟩ | ⟨_, hj⟩
        · exact Nat.lt_of_lt_of_le (hs.lt g ⟨j, g', o, hj, ho⟩) ht.size
        · exact hs'.lt g ⟨_, g', o, hj, ho⟩
    · refine ⟨ht.drawn, ht.os, ht.tape, ht.output, ht.size, fun i hi _ => ht.block i hi (hnone i), ht.imm1, fun i hi => ?_, fun i hi => ?_⟩
      · rcases ht.imm2 i hi with h' | h' | h'
        · exact .inl h'
        · exact (hnone i h').elim
        · exact .inr (.inr h')
      · obtain ⟨j, g', o, hj, ho⟩ := hi
        by_cases hlt : j < L.length
        · rw [List.getElem?_append_left hlt] at hj; exact .inl ⟨j, g', o, hj, ho⟩
        · rw [List.getElem?_append_right (by omega)] at hj
          rcases ht.own2 i ⟨_, g', o, hj, ho⟩ with h' | h'
          · exact (hnone i h').elim
          · exact .inr h'
  | lend args' Q hle h k =>
    obtain ⟨hlen, hat⟩ := hle.at_
    have hlt' : ∀ i, imm i ∨ Own L i → i < w.heap.size := fun i hi => hi.elim (hs.immlt i) (hs.lt i)
    refine .inl ⟨h.1, (h.2 (fun i => imm i ∨ Own L i) w vs (hC.mono _ _ _ _ hG (fun _ => .inl) (fun _ _ => rfl)) ⟨by simp, by simp, fun g hg => (hnone g hg).elim, fun g hg => (hnone g hg).elim, hlt'⟩ (by omega) (fun j y v hy hvj => ?_)).mono ?_⟩
    · have hj : j < args.length := by rw [hlen]; exact (List.getElem?_eq_some_iff.1 hy).1
      exact (hat j args[j] y (List.getElem?_eq_getElem hj) hy).VR hs (hv j _ v (List.getElem?_eq_getElem hj) hvj)
    · rintro e w' ⟨v, r, L', imm', rfl, hr, hs', ht, hq⟩
      obtain ⟨hsc, hk⟩ := k r L' hq
      have hold : ∀ i, i < w.heap.size → w'.heap[i]? = w.heap[i]? := fun i hi => ht.block i hi (hnone i)
      refine ⟨v, r, L, imm, rfl, hr.of_scals hsc, ?_, ?_, hk⟩
      · exact ⟨fun j g o hj ho => (hs.holds j g o hj ho).mono (fun _ x => x) (fun i hi => hold i (hs.immlt i hi)) (fun i hi => hold i (hs.lt i ⟨j, g, o, hj, hi⟩)), hs.apart, hs.far, fun g hg => Nat.lt_of_lt_of_le (hs.lt g hg) ht.size, fun g hg => Nat.lt_of_lt_of_le (hs.immlt g hg) ht.size⟩
      · exact ⟨ht.drawn, ht.os, ht.tape, ht.output, ht.size, fun i hi _ => hold i hi, fun _ h => h, fun _ h => .inl h, fun _ h => .inl h⟩

end Go.Proofs.YtgpbppkmmlclfaaDoor.HB
/- The abstract machine's operations on plain values: what they say, and that the model's own do it. -/
namespace Go.Proofs.YtgpbppkmmlclfaaDoor.HB
open Go

section
variable {P : Program} {o : Oper} {a : Act} {w w' : World} {next : Act → World → Prop} {Q : Exit → Act → World → Prop}
theorem wp_value {v : Value} (h : (execOp a.eval o).run P w = .ok (.value v) w') (hn : next (a.put o.dst v) w') : o.wp P a w next Q := by
  unfold Oper.wp
  rw [h]
  exact hn
theorem wp_skip (h : (execOp a.eval o).run P w = .ok .skip w') (hn : next (a.put o.dst undef) w') : o.wp P a w next Q := by
  unfold Oper.wp
  rw [h]
  exact hn
end

def both (p : Prop) (K : AV → Prop) : Prop := (p → K (.bool true)) ∧ (¬ p → K (.bool false))

def bitsV (op : BinOp) (k : IntKind) (x y : Int) : Int :=
  let a := BitVec.ofInt k.bits x
  let b := BitVec.ofInt k.bits y
  k.wrap (match op with
    | .and => a &&& b
    | .or => a ||| b
    | .xor => a ^^^ b
    | _ => a &&& ~~~b).toNat

def intBin (op : BinOp) (k : IntKind) (x y : Int) (K : AV → Prop) : Prop :=
  match op with
  | .eql => both (x = y) K
  | .neq => both (x ≠ y) K
  | .lss => both (x < y) K
  | .leq => both (x ≤ y) K
  | .gtr => both (y < x) K
  | .geq => both (y ≤ x) K
  | .add => ∀ r, r = k.wrap (x + y) → K (.int k r)
  | .sub => ∀ r, r = k.wrap (x - y) → K (.int k r)
  | .mul => ∀ r, r = k.wrap (x * y) → K (.int k r)
  | .quo => y ≠ 0 ∧ ∀ r, r = k.wrap (x.tdiv y) → K (.int k r)
  | .rem => y ≠ 0 ∧ ∀ r, r = x.tmod y → K (.int k r)
  | .and => ∀ r, r = bitsV .and k x y → K (.int k r)
  | .or => ∀ r, r = bitsV .or k x y → K (.int k r)
  | .xor => ∀ r, r = bitsV .xor k x y → K (.int k r)
  | .andNot => ∀ r, r = bitsV .andNot k x y → K (.int k r)
  | _ => False

def shiftBin (op : BinOp) (k : IntKind) (x y : Int) (K : AV → Prop) : Prop :=
  match op with
  | .shl => 0 ≤ y ∧ ∀ r, r = k.wrap (x * 2 ^ (min y.toNat k.bits)) → K (.int k r)
  | .shr => 0 ≤ y ∧ ∀ r, r = x.fdiv (2 ^ (min y.toNat k.bits)) → K (.int k r)
  | _ => False

def isShift : BinOp → Bool
  | .shl | .shr => true
  | _ => false

def strBin (op : BinOp) (x y : ByteArray) (K : AV → Prop) : Prop :=
  match op with
  | .eql => both (x = y) K
  | .neq => both (x ≠ y) K
  | .add => (x.size + y.size ≤ 9223372036854775807) ∧ K (.str (x ++ y))
  | .lss => both (Op.bytesLess x.toList y.toList = true) K
  | _ => False

def kindEq : AV → AV → Bool
  | .int k _, .int k' _ => decide (k = k')
  | .str _, .str _ => true
  | .bool _, .bool _ => true
  | _, _ => false
def kindsEq : List AV → List AV → Bool
  | [], [] => true
  | x :: xs, y :: ys => kindEq x y && kindsEq xs ys
  | _, _ => false
def eq1 : AV → AV → Prop
  | .int _ a, .int _ b => a = b
  | .str a, .str b => a = b
  | .bool a, .bool b => a = b
  | _, _ => False
def allEq : List AV → List AV → Prop
  | [], [] => True
  | x :: xs, y :: ys => eq1 x y ∧ allEq xs ys
  | _, _ => False

def isEq : BinOp → Option Bool
  | .eql => some true
  | .neq => some false
  | _ => none

def abin (C : Cx) (op : BinOp) (t : TypeId) (x y : AV) (K : AV → Prop) : Prop :=
  match x, y with
  | .int k a, .int k' b => if isShift op then shiftBin op k a b K else if k = k' then intBin op k a b K else False
  | .str a, .str b => strBin op a b K
  | .bool a, .bool b => match C.T t, isEq op with
    | some (.one .bool _), some true => both (a = b) K
    | some (.one .bool _), some false => both (a ≠ b) K
    | _, _ => False
  | .agg xs, .agg ys => match C.E t, isEq op with
    | some ks, some true => if kindsEq ks xs && kindsEq ks ys then both (allEq xs ys) K else False
    | some ks, some false => if kindsEq ks xs && kindsEq ks ys then both (¬ allEq xs ys) K else False
    | _, _ => False
  | .sl .., .nils => match C.T t, isEq op with
    | some (.slice ..), some true => K (.bool false)
    | some (.slice ..), some false => K (.bool true)
    | _, _ => False
  | .nils, .nils => match C.T t, isEq op with
    | some (.slice ..), some true => K (.bool true)
    | some (.slice ..), some false => K (.bool false)
    | _, _ => False
  | .ro _ xs _, .nils => match C.T t, isEq op with
    | some (.slice ..), some b => (xs ≠ [] → K (.bool !b)) ∧ (xs = [] → ∀ b, K (.bool b))
    | _, _ => False
  | _, _ => False

theorem eqGuard_plain {P : Program} (op : BinOp) (t : TypeId) (x y : Operand) (u v : Value) (w : World) (h1 : ∀ b, u ≠ .agg b) (h2 : u ≠ .nilIface) : (eqGuard op t x y u v).run P w = .ok () w := by
  unfold eqGuard
  cases op <;> simp <;> (cases u <;> first | rfl | exact absurd rfl (h1 _) | exact absurd rfl h2 | (cases v <;> rfl))
theorem isEq_some {op : BinOp} {b : Bool} (h : isEq op = some b) : op = (if b then .eql else .neq) := by
  cases op <;> first | (cases h; done) | (cases h; rfl)
theorem run_nil_cmp {P : Program} (w : World) {op : BinOp} {b : Bool} (ho : isEq op = some b) (t e : TypeId) (a : Option Addr) (n c : Nat) (h : P.underlying t = some (.slice e)) (ox oy : Operand) :
    (do eqGuard op t ox oy (.slice a n c) (.slice none 0 0); binOp op t (.slice a n c) (.slice none 0 0) : Sem Value).run P w = .ok (.bool (a.isNone == b)) w := by
  rw [Sem.run_bind, eqGuard_plain op t ox oy (.slice a n c) (.slice none 0 0) w (by simp) (by simp), Result.andThen_ok]
  have he := Lib.run_equalIn_slice_nil w 9999 t e a n c 0 0 h
  have := isEq_some ho
  cases b <;> subst this
  · cases a <;> simp [binOp, Op.equal, Op.maxDepth] at he ⊢ <;> simp [he]
  · cases a <;> simp [binOp, Op.equal, Op.maxDepth] at he ⊢ <;> simp [he]

theorem bytes_eq (x y : ByteArray) : (x.toList == y.toList) = decide (x = y) := by
  rw [Bool.eq_iff_iff]
  simp only [beq_iff_eq, decide_eq_true_eq]
  rw [ByteArray.toList_eq, ByteArray.toList_eq]
  exact ⟨fun h => ByteArray.ext (Array.toList_inj.mp h), fun h => by rw [h]⟩

theorem both_run {p : Prop} [Decidable p] {K : AV → Prop} (h : both p K) : ∃ b : Bool, b = decide p ∧ K (.bool b) := by
  by_cases hp : p
  · exact ⟨true, by simp [hp], h.1 hp⟩
  · exact ⟨false, by simp [hp], h.2 hp⟩

theorem intBin_run {P : Program} {op : BinOp} {t : TypeId} {k : IntKind} {x y : Int} {K : AV → Prop} (hsh : isShift op = false) (h : intBin op k x y K) :
    ∃ v z, (∀ w, (binOp op t (.int k x) (.int k y)).run P w = .ok v w) ∧ (∀ imm w, VR imm w z v) ∧ K z := by
  have cmp : ∀ (b : Bool) (p : Prop) [Decidable p], (∀ w, (binOp op t (.int k x) (.int k y)).run P w = .ok (.bool b) w) → b = decide p → both p K → ∃ v z, (∀ w, (binOp op t (.int k x) (.int k y)).run P w = .ok v w) ∧ (∀ imm w, VR imm w z v) ∧ K z := by
    intro b p _ hr hb hp
    obtain ⟨c, hc, hK⟩ := both_run hp
    rw [← hb] at hc
    exact ⟨_, _, hr, fun _ _ => .bool _, hc ▸ hK⟩
  cases op
  case eql => exact cmp (x == y) (x = y) (fun w => by simp [binOp, Op.intCmp]) (by rw [Bool.eq_iff_iff]; simp) h
  case neq => exact cmp (x != y) (x ≠ y) (fun w => by simp [binOp, Op.intCmp]) (by rw [Bool.eq_iff_iff]; simp) h
  case lss => exact cmp (decide (x < y)) (x < y) (fun w => by simp [binOp, Op.intCmp]) rfl h
  case leq => exact cmp (decide (x ≤ y)) (x ≤ y) (fun w => by simp [binOp, Op.intCmp]) rfl h
  case gtr => exact cmp (decide (x > y)) (y < x) (fun w => by simp [binOp, Op.intCmp]) rfl h
  case geq => exact cmp (decide (x ≥ y)) (y ≤ x) (fun w => by simp [binOp, Op.intCmp]) rfl h
  case add => exact ⟨_, _, fun w => by simp only [binOp, Op.intArith, ne_eq, not_true_eq_false, if_false]; rfl, fun _ _ => .int _ _, h _ rfl⟩
  case sub => exact ⟨_, _, fun w => by simp only [binOp, Op.intArith, ne_eq, not_true_eq_false, if_false]; rfl, fun _ _ => .int _ _, h _ rfl⟩
  case mul => exact ⟨_, _, fun w => by simp only [binOp, Op.intArith, ne_eq, not_true_eq_false, if_false]; rfl, fun _ _ => .int _ _, h _ rfl⟩
  case quo => exact ⟨_, _, fun w => by simp only [binOp, Op.intDiv, ne_eq, not_true_eq_false, if_false, h.1]; rfl, fun _ _ => .int _ _, h.2 _ rfl⟩
  case rem => exact ⟨_, _, fun w => by simp only [binOp, Op.intDiv, ne_eq, not_true_eq_false, if_false, h.1]; rfl, fun _ _ => .int _ _, h.2 _ rfl⟩
  case and => exact ⟨.int k (bitsV .and k x y), _, fun w => by simp only [binOp, ne_eq, not_true_eq_false, if_false]; rfl, fun _ _ => .int _ _, h _ rfl⟩
  case or => exact ⟨.int k (bitsV .or k x y), _, fun w => by simp only [binOp, ne_eq, not_true_eq_false, if_false]; rfl, fun _ _ => .int _ _, h _ rfl⟩
  case xor => exact ⟨.int k (bitsV .xor k x y), _, fun w => by simp only [binOp, ne_eq, not_true_eq_false, if_false]; rfl, fun _ _ => .int _ _, h _ rfl⟩
  case andNot => exact ⟨.int k (bitsV .andNot k x y), _, fun w => by simp only [binOp, ne_eq, not_true_eq_false, if_false]; rfl, fun _ _ => .int _ _, h _ rfl⟩
  case shl => cases hsh
  case shr => cases hsh

theorem shiftBin_run {P : Program} {op : BinOp} {t : TypeId} {k k' : IntKind} {x y : Int} {K : AV → Prop} (h : shiftBin op k x y K) :
    ∃ v z, (∀ w, (binOp op t (.int k x) (.int k' y)).run P w = .ok v w) ∧ (∀ imm w, VR imm w z v) ∧ K z := by
  cases op <;> simp only [shiftBin] at h <;> first
    | exact h.elim
    | (obtain ⟨h0, h⟩ := h
       have hn : ¬ y < 0 := by omega
       exact ⟨_, _, fun w => by simp only [binOp, Op.shift, hn, if_false]; rfl, fun _ _ => .int _ _, h _ rfl⟩)

theorem strBin_run {P : Program} {op : BinOp} {t : TypeId} {x y : ByteArray} {K : AV → Prop} (h : strBin op x y K) :
    ∃ v z, (∀ w, (binOp op t (.string x) (.string y)).run P w = .ok v w) ∧ (∀ imm w, VR imm w z v) ∧ K z := by
  cases op <;> simp only [strBin] at h <;> first
    | exact h.elim
    | (obtain ⟨hs, hK⟩ := h
       have hn : ¬ (((x.size + y.size : Nat) : Int) > IntKind.i64.max) := by simp [IntKind.max, IntKind.signed, IntKind.bits]; omega
       exact ⟨.string (x ++ y), .str (x ++ y), fun w => by simp only [binOp, Op.stringOp, hn, if_false]; rfl, fun _ _ => .str _, hK⟩)
    | (obtain ⟨b, hb, hK⟩ := both_run h
       refine ⟨.bool b, .bool b, fun w => ?_, fun _ _ => .bool b, hK⟩
       subst hb
       simp only [binOp, Op.stringOp, bytes_eq, Sem.run_pure]
       first | done | (congr 2; simp; done) | (simp; done))

theorem eqOkP_spec {P : Program} {t : TypeId} {ks : List AV} (h : eqOkP P t ks = true) : ∃ fields : Array Field, P.underlying t = some (.struct fields) ∧ P.stoodInHeld t = false ∧ P.eqGuardType P.depth t = false ∧ fieldsOk P fields.toList 0 ks = true := by
  unfold eqOkP at h
  split at h
  case h_2 => cases h
  rename_i fs hu
  simp only [Bool.and_eq_true, Bool.not_eq_true'] at h
  exact ⟨fs, hu, h.1.1, h.1.2, h.2⟩

theorem run_part1 {P : Program} {t : TypeId} {d : TypeDesc} (hu : P.underlying t = some d) (hd : aggD d = false) {xs : Array Value} {i : Nat} {v : Value} (hx : xs[i]? = some v) (w : World) : (part t xs i).run P w = .ok v w := by
  unfold part
  rw [Sem.run_bind]
  have h1 : (isAgg t).run P w = .ok false w := by
    unfold isAgg
    rw [Sem.run_bind, run_underlying hu]
    cases d <;> first | (cases hd; done) | rfl
  rw [h1]
  simp [hx, Result.andThen]

theorem kind_cases {D : Option TypeDesc} {k x y : AV} (hk : kindTy D k = true) (hx : kindEq k x = true) (hy : kindEq k y = true) :
    (∃ kk k0 a b, D = some (.int kk) ∧ x = .int k0 a ∧ y = .int k0 b) ∨ (∃ a b, D = some .bool ∧ x = .bool a ∧ y = .bool b) ∨ (∃ a b, D = some .string ∧ x = .str a ∧ y = .str b) := by
  unfold kindTy at hk
  split at hk
  case h_4 => cases hk
  · refine .inl ?_
    cases x <;> simp only [kindEq] at hx <;> try (cases hx; done)
    cases y <;> simp only [kindEq] at hy <;> try (cases hy; done)
    simp only [decide_eq_true_eq] at hx hy
    subst hx; subst hy
    exact ⟨_, _, _, _, rfl, rfl, rfl⟩
  · refine .inr (.inl ?_)
    cases x <;> simp only [kindEq] at hx <;> try (cases hx; done)
    cases y <;> simp only [kindEq] at hy <;> try (cases hy; done)
    exact ⟨_, _, rfl, rfl, rfl⟩
  · refine .inr (.inr ?_)
    cases x <;> simp only [kindEq] at hx <;> try (cases hx; done)
    cases y <;> simp only [kindEq] at hy <;> try (cases hy; done)
    exact ⟨_, _, rfl, rfl, rfl⟩

theorem eqField_run {P : Program} {imm : Nat → Prop} {w0 : World} (d : Nat) {t : TypeId} {k x y : AV} {u v : Value} (hk : kindTy (P.underlying t) k = true) (hx : kindEq k x = true) (hy : kindEq k y = true) (hu : VR imm w0 x u) (hv : VR imm w0 y v) :
    ∃ b : Bool, (∀ w, (Op.equalIn (d + 1) t u v).run P w = .ok b w) ∧ (b = true ↔ eq1 x y) ∧ ∃ D, P.underlying t = some D ∧ aggD D = false := by
  rcases kind_cases hk hx hy with ⟨kk, k0, a, b, e, rfl, rfl⟩ | ⟨a, b, e, rfl, rfl⟩ | ⟨a, b, e, rfl, rfl⟩
  · cases hu; cases hv
    exact ⟨a == b, fun w => run_equalIn_int w d t _ _ a b e, by simp [eq1], _, e, rfl⟩
  · cases hu; cases hv
    exact ⟨a == b, fun w => run_equalIn_bool w d t a b e, by simp [eq1], _, e, rfl⟩
  · cases hu; cases hv
    exact ⟨a.toList == b.toList, fun w => run_equalIn_string w d t a b e, by rw [bytes_eq]; simp [eq1], _, e, rfl⟩

theorem eqFields_run {P : Program} {imm : Nat → Prop} {w0 : World} (d : Nat) {us vs : Array Value} : ∀ (fs : List Field) (i : Nat) (ks xs ys : List AV), fieldsOk P fs i ks = true → kindsEq ks xs = true → kindsEq ks ys = true →
    (∀ (j : Nat) (x : AV), xs[j]? = some x → ∃ u, us[i + j]? = some u ∧ VR imm w0 x u) → (∀ (j : Nat) (x : AV), ys[j]? = some x → ∃ u, vs[i + j]? = some u ∧ VR imm w0 x u) →
    ∃ b : Bool, (∀ w, (Op.eqFields (d + 1) us vs fs).run P w = .ok b w) ∧ (b = true ↔ allEq xs ys) := by
  intro fs
  induction fs with
  | nil =>
    intro i ks xs ys hf hx hy h1 h2
    cases ks <;> try (cases hf; done)
    cases xs <;> try (cases hx; done)
    cases ys <;> try (cases hy; done)
    exact ⟨true, fun w => rfl, by simp [allEq]⟩
  | cons f fs ih =>
    intro i ks xs ys hf hx hy h1 h2
    cases ks <;> try (cases hf; done)
    cases xs <;> try (cases hx; done)
    cases ys <;> try (cases hy; done)
    rename_i k ks x xs y ys
    simp only [fieldsOk, Bool.and_eq_true, decide_eq_true_eq, beq_iff_eq] at hf
    obtain ⟨⟨⟨f1, f2⟩, f3⟩, f4⟩ := hf
    simp only [kindsEq, Bool.and_eq_true] at hx hy
    obtain ⟨u, eu, hu⟩ := h1 0 x rfl
    obtain ⟨v, ev, hv⟩ := h2 0 y rfl
    obtain ⟨b, hb, hbi, D, hD, hDa⟩ := eqField_run d f3 hx.1 hy.1 hu hv
    obtain ⟨b', hb', hbi'⟩ := ih (i + 1) ks xs ys f4 hx.2 hy.2 (fun j x hj => by rw [Nat.add_assoc, Nat.add_comm 1 j]; exact h1 (j + 1) x hj) (fun j x hj => by rw [Nat.add_assoc, Nat.add_comm 1 j]; exact h2 (j + 1) x hj)
    refine ⟨b && b', fun w => ?_, by simp [allEq, hbi, hbi']⟩
    simp only [Op.eqFields, f1, ne_eq, not_false_eq_true, if_true, Sem.run_bind, f2]
    rw [run_part1 hD hDa (by simpa using eu), Result.andThen_ok, run_part1 hD hDa (by simpa using ev), Result.andThen_ok, hb, Result.andThen_ok]
    cases b
    · rfl
    · simpa using hb' w

theorem abin_run {C : Cx} (hC : C.Ok) {op : BinOp} {t : TypeId} {x y : AV} {u v : Value} {imm : Nat → Prop} {w : World} (hx : VR imm w x u) (hy : VR imm w y v) {K : AV → Prop} (h : abin C op t x y K) (ox oy : Operand) :
    ∃ r z, (∀ w, (do eqGuard op t ox oy u v; binOp op t u v : Sem Value).run C.P w = .ok r w) ∧ VR imm w z r ∧ K z := by
  cases hx <;> try exact h.elim
  case nils =>
    cases hy <;> try exact h.elim
    simp only [abin] at h
    split at h
    · rename_i ht ho
      exact ⟨_, _, fun w => run_nil_cmp w ho t _ none 0 0 (tiOf_slice (hC.types _ _ ht)).1 ox oy, .bool _, h⟩
    · rename_i ht ho
      exact ⟨_, _, fun w => run_nil_cmp w ho t _ none 0 0 (tiOf_slice (hC.types _ _ ht)).1 ox oy, .bool _, h⟩
    · exact h.elim
  case sl k g Cp n =>
    cases hy <;> try exact h.elim
    simp only [abin] at h
    split at h
    · rename_i ht ho
      exact ⟨_, _, fun w => run_nil_cmp w ho t _ (some ⟨g, 0, none⟩) n Cp (tiOf_slice (hC.types _ _ ht)).1 ox oy, .bool _, h⟩
    · rename_i ht ho
      exact ⟨_, _, fun w => run_nil_cmp w ho t _ (some ⟨g, 0, none⟩) n Cp (tiOf_slice (hC.types _ _ ht)).1 ox oy, .bool _, h⟩
    · exact h.elim
  case ro sz xs n A cap vs hn hcap hsz hvl ha h1c hv =>
    cases hy <;> try exact h.elim
    simp only [abin] at h
    split at h
    · rename_i b ht ho
      refine ⟨_, _, fun w => run_nil_cmp w ho t _ A n cap (tiOf_slice (hC.types _ _ ht)).1 ox oy, .bool _, ?_⟩
      by_cases hx : xs = []
      · exact h.2 hx _
      · obtain ⟨a, rfl, _⟩ := ha (List.length_pos_iff.2 hx)
        have := h.1 hx
        cases b <;> exact this
    · exact h.elim
  case int k a =>
    cases hy <;> try exact h.elim
    rename_i k' b
    simp only [abin] at h
    have hgd : ∀ w : World, ∀ {q : Sem Value}, (do eqGuard op t ox oy (.int k a) (.int k' b); q : Sem Value).run C.P w = q.run C.P w := fun w q => by
      rw [Sem.run_bind, eqGuard_plain (P := C.P) op t ox oy (.int k a) (.int k' b) w (by simp) (by simp), Result.andThen_ok]
    split at h
    · obtain ⟨r, z, h1, h2, h3⟩ := shiftBin_run (P := C.P) (t := t) (k' := k') h
      exact ⟨r, z, fun w => (hgd w).trans (h1 w), h2 _ _, h3⟩
    · rename_i hsh
      split at h
      · rename_i e
        subst e
        obtain ⟨r, z, h1, h2, h3⟩ := intBin_run (P := C.P) (t := t) (by simpa using hsh) h
        exact ⟨r, z, fun w => (hgd w).trans (h1 w), h2 _ _, h3⟩
      · exact h.elim
  case str a =>
    cases hy <;> try exact h.elim
    rename_i b
    simp only [abin] at h
    have hgd : ∀ w : World, ∀ {q : Sem Value}, (do eqGuard op t ox oy (.string a) (.string b); q : Sem Value).run C.P w = q.run C.P w := fun w q => by
      rw [Sem.run_bind, eqGuard_plain (P := C.P) op t ox oy (.string a) (.string b) w (by simp) (by simp), Result.andThen_ok]
    obtain ⟨r, z, h1, h2, h3⟩ := strBin_run (P := C.P) (t := t) h
    exact ⟨r, z, fun w => (hgd w).trans (h1 w), h2 _ _, h3⟩
  case bool a =>
    cases hy <;> try exact h.elim
    rename_i b
    simp only [abin] at h
    have hgd : ∀ w : World, ∀ {q : Sem Value}, (do eqGuard op t ox oy (.bool a) (.bool b); q : Sem Value).run C.P w = q.run C.P w := fun w q => by
      rw [Sem.run_bind, eqGuard_plain (P := C.P) op t ox oy (.bool a) (.bool b) w (by simp) (by simp), Result.andThen_ok]
    split at h
    · rename_i z ht ho
      have hu := tiOf_one (hC.types _ _ ht)
      have hop : op = .eql := by cases op <;> first | rfl | cases ho
      subst hop
      obtain ⟨c, hc, hK⟩ := both_run h
      refine ⟨.bool c, _, fun w => ?_, .bool c, hK⟩
      rw [hgd]
      simp only [binOp, Sem.run_bind, run_equal_bool w t a b hu, Result.andThen_ok, Sem.run_pure]
      rw [hc]; congr 2
    · rename_i z ht ho
      have hu := tiOf_one (hC.types _ _ ht)
      have hop : op = .neq := by cases op <;> first | rfl | cases ho
      subst hop
      obtain ⟨c, hc, hK⟩ := both_run h
      refine ⟨.bool c, _, fun w => ?_, .bool c, hK⟩
      rw [hgd]
      simp only [binOp, Sem.run_bind, run_equal_bool w t a b hu, Result.andThen_ok, Sem.run_pure]
      rw [hc]; congr 2; cases a <;> cases b <;> rfl
    · exact h.elim
  case agg xs vs hvl h1 hvv =>
    cases hy <;> try exact h.elim
    rename_i ys us hul h1' huu
    simp only [abin] at h
    have core : ∀ ks, C.E t = some ks → kindsEq ks xs = true → kindsEq ks ys = true → ∃ b : Bool, (∀ w, (Op.equalIn 10000 t (.agg vs.toArray) (.agg us.toArray)).run C.P w = .ok b w) ∧ (b = true ↔ allEq xs ys) ∧ C.P.eqGuardType C.P.depth t = false := by
      intro ks hE hk hk'
      obtain ⟨fields, hu, hst, heg, hall⟩ := eqOkP_spec (hC.eqs t ks hE)
      have hfo : C.P.fieldsOf t = fields := by unfold Program.fieldsOf; rw [hu]
      obtain ⟨b, hb, hb'⟩ := eqFields_run (P := C.P) (imm := imm) (w0 := w) (us := vs.toArray) (vs := us.toArray) 9998 fields.toList 0 ks xs ys hall hk hk'
        (fun j x hj => by
          obtain ⟨u, e, _, hv⟩ := (VRs.mk hvl h1 hvv).get hj
          exact ⟨u, by simpa using e, hv⟩)
        (fun j x hj => by
          obtain ⟨u, e, _, hv⟩ := (VRs.mk hul h1' huu).get hj
          exact ⟨u, by simpa using e, hv⟩)
      refine ⟨b, fun w => ?_, hb', heg⟩
      rw [run_equalIn_struct (P := C.P) w 9999 t vs.toArray us.toArray (by rw [hfo]; exact hu) hst, hfo]
      exact hb w
    split at h
    · rename_i ks hE ho
      split at h
      case isFalse => exact h.elim
      rename_i hcond
      simp only [Bool.and_eq_true] at hcond
      obtain ⟨b, hb, hbi, heg⟩ := core ks hE hcond.1 hcond.2
      have hop : op = .eql := by cases op <;> first | rfl | cases ho
      subst hop
      refine ⟨.bool b, .bool b, fun w => ?_, .bool b, ?_⟩
      · rw [Sem.run_bind, run_eqGuard_agg w _ t ox oy _ _ heg, Result.andThen_ok, run_eql_struct, hb, Result.andThen_ok]
      · cases b
        · exact h.2 (by simpa using hbi)
        · exact h.1 (by simpa using hbi)
    · rename_i ks hE ho
      split at h
      case isFalse => exact h.elim
      rename_i hcond
      simp only [Bool.and_eq_true] at hcond
      obtain ⟨b, hb, hbi, heg⟩ := core ks hE hcond.1 hcond.2
      have hop : op = .neq := by cases op <;> first | rfl | cases ho
      subst hop
      refine ⟨.bool (!b), .bool (!b), fun w => ?_, .bool _, ?_⟩
      · rw [Sem.run_bind, run_eqGuard_agg w _ t ox oy _ _ heg, Result.andThen_ok, run_neq_struct, hb, Result.andThen_ok]
      · cases b
        · exact h.1 (by simpa using hbi)
        · exact h.2 (by simpa using hbi)
    · exact h.elim

end Go.Proofs.YtgpbppkmmlclfaaDoor.HB
/- The abstract machine's operations on memory: what they say, and that the model's own do it. -/
namespace Go.Proofs.YtgpbppkmmlclfaaDoor.HB
open Go

/-! ### Structs built -/
def afill (fs : List (Nat × Nat × Bool)) (cs : List AV) : List (Nat × AV) → Option (List AV)
  | [] => some cs
  | (i, x) :: rest =>
    match fs[i]?, cellsA x with
    | some (off, sz, _), some c => if c.length = sz ∧ off + sz ≤ cs.length then afill fs (splice cs off c) rest else none
    | _, _ => none

theorem fill_set (vs us : List Value) (off : Nat) (h : off + us.length ≤ vs.length) :
    (us.toArray.zipIdx.foldl (fun (cs : Array Value) (x : Value × Nat) => cs.setIfInBounds (off + x.2) x.1) vs.toArray) = (vs.take off ++ us ++ vs.drop (off + us.length)).toArray := by
  obtain ⟨g1, g2⟩ := Great.foldl_set off us 0 vs.toArray
  have e : us.toArray.zipIdx.foldl (fun (cs : Array Value) (x : Value × Nat) => cs.setIfInBounds (off + x.2) x.1) vs.toArray = (us.zipIdx 0).foldl (fun cs (x : Value × Nat) => cs.setIfInBounds (off + x.2) x.1) vs.toArray := by
    rw [← Array.foldl_toList, Array.toList_zipIdx]
  rw [e]
  apply Array.ext_getElem?
  intro k
  rw [g2 k]
  simp only [List.size_toArray, List.getElem?_toArray, Nat.add_zero]
  by_cases h1 : off ≤ k ∧ k < off + us.length ∧ k < vs.length
  · rw [if_pos h1, List.append_assoc, List.getElem?_append_right (by simp; omega), List.getElem?_append_left (by simp; omega)]
    congr 1
    simp
    omega
  · rw [if_neg h1]
    by_cases h2 : k < off
    · rw [List.append_assoc, List.getElem?_append_left (by simp; omega), List.getElem?_take, if_pos h2]
    · rw [List.getElem?_append_right (by simp; omega), List.getElem?_drop]
      by_cases h3 : k < vs.length
      · congr 1; simp; omega
      · rw [List.getElem?_eq_none (by omega), List.getElem?_eq_none (by simp; omega)]

theorem fill_sound {imm : Nat → Prop} {w : World} (fs : List (Nat × Nat × Bool)) (place : Nat → Option (Nat × Nat)) (hp : ∀ i, place i = (fs[i]?).map fun f => (f.1, f.2.1)) :
    ∀ (parts : List (Nat × AV)) (pv : List (Nat × Value)) (cs : List AV) (vs : List Value) (cs' : List AV), parts.length = pv.length →
      (∀ (j : Nat) (p : Nat × AV) (q : Nat × Value), parts[j]? = some p → pv[j]? = some q → p.1 = q.1 ∧ VR imm w p.2 q.2) → VRs imm w cs vs → afill fs cs parts = some cs' →
      ∃ us, Instr.fill place vs.toArray pv = some us.toArray ∧ VRs imm w cs' us
  | [], [], cs, vs, cs', _, _, hv, h => by
    simp only [afill, Option.some.injEq] at h
    subst h
    exact ⟨vs, rfl, hv⟩
  | [], _ :: _, _, _, _, hl, _, _, _ => by simp at hl
  | _ :: _, [], _, _, _, hl, _, _, _ => by simp at hl
  | (i, x) :: rest, (i', u) :: pv, cs, vs, cs', hl, hm, hv, h => by
    obtain ⟨e, hx⟩ := hm 0 _ _ rfl rfl
    simp only at e hx
    subst e
    simp only [afill] at h
    split at h
    case h_2 => cases h
    rename_i off sz _b c hf hc
    split at h
    case isFalse => cases h
    rename_i hcond
    obtain ⟨hcl, hle⟩ := hcond
    have hxs := cellsA_VRs hx hc
    have hul : u.cells.toList.length = c.length := hxs.len
    have hvl := hv.len
    simp only [Instr.fill, hp i, hf, Option.map_some]
    rw [if_neg (by
      simp only [Array.length_toList] at hul
      simp
      omega)]
    have hset := fill_set vs u.cells.toList off (by omega)
    rw [Array.toArray_toList] at hset
    rw [hset]
    exact fill_sound fs place hp rest pv _ _ cs' (by simpa using hl) (fun j p q a b => hm (j + 1) p q (by simpa using a) (by simpa using b)) (hv.splice hxs off) h

theorem built_sound {P : Program} {imm : Nat → Prop} {w : World} {t : TypeId} {fs : List (Nat × Nat × Bool)} {zs : List AV} (ht : tiOf P t = some (.agg fs zs)) (hne : fs.all (fun f => f.2.1 != 0) = true)
    {parts : List (Nat × AV)} {pv : List (Nat × Value)} {cs' : List AV} (hl : parts.length = pv.length)
    (hm : ∀ (j : Nat) (p : Nat × AV) (q : Nat × Value), parts[j]? = some p → pv[j]? = some q → p.1 = q.1 ∧ VR imm w p.2 q.2) (h : afill fs zs parts = some cs') :
    ∃ us, P.built t pv = some us.toArray ∧ VRs imm w cs' us := by
  obtain ⟨fields, hu, hfs, _⟩ := tiOf_agg ht
  obtain ⟨i, d, z, hi, hd, hz, hsz, hag, hzs, h1, hzo, hagg, _⟩ := (tiOf_spec ht).ok
  have hplaces : fields.toList.mapM (fun f => (P.info? f.type).map fun i => (f.offset, i.size)) = some (fs.map fun f => (f.1, f.2.1)) := by
    have key : ∀ l : List Field, (l.map fun f => (f.offset, P.cellsOf f.type, aggT P f.type)).all (fun f => f.2.1 != 0) = true →
        l.mapM (fun f => (P.info? f.type).map fun i => (f.offset, i.size)) = some (l.map fun f => (f.offset, P.cellsOf f.type)) := by
      intro l
      induction l with
      | nil => intro _; rfl
      | cons f l ih =>
        intro hall
        simp only [List.map_cons, List.all_cons, Bool.and_eq_true] at hall
        cases hq : P.info? f.type with
        | none =>
          have hbad := hall.1
          simp [Program.cellsOf, hq] at hbad
        | some q => simp [List.mapM_cons, hq, ih hall.2, Program.cellsOf]
    rw [hfs] at hne ⊢
    rw [key _ hne]
    simp
  have hzv : VRs imm w zs z.cells.toList := by
    have := map_ofV_VRs imm w z.cells.toList h1
    rwa [hzo] at this
  obtain ⟨us, hf, hus⟩ := fill_sound fs (fun i => ((fs.map fun f => (f.1, f.2.1)).toArray)[i]?) (fun i => by simp) parts pv zs z.cells.toList cs' hl hm hzv h
  refine ⟨us, ?_, hus⟩
  unfold Program.built
  simp only [hi, hu, hz, hplaces]
  rw [Array.toArray_toList] at hf
  exact hf

/-! ### Bounds of slices -/
theorem run_bounds {P : Program} (w : World) (isS : Bool) (len cap : Nat) (low high : Option Value) (l h : Int) (hlow : (low = none ∧ l = 0) ∨ ∃ k, low = some (.int k l)) (hhigh : (high = none ∧ h = len) ∨ ∃ k, high = some (.int k h))
    (h0 : 0 ≤ l) (h1 : l ≤ h) (h2 : h ≤ cap) : (Instr.sliceBounds isS len cap low high none).run P w = .ok (l.toNat, h.toNat, cap) w := by
  have hb : ∀ (k : IntKind) (i : Int) (y : Nat) (c : BoundsCode), 0 ≤ i → i ≤ y → (Instr.sliceBound (.int k i) y c).run P w = .ok i.toNat w := by
    intro k i y c a b
    simp only [Instr.sliceBound, asIntOf, Sem.run_bind, Sem.run_pure, Result.andThen_ok]
    rw [if_pos ⟨a, b⟩]
    rfl
  have hl1 : l ≤ (h.toNat : Int) := by omega
  rcases hhigh with ⟨rfl, rfl⟩ | ⟨k, rfl⟩ <;> rcases hlow with ⟨rfl, rfl⟩ | ⟨k', rfl⟩
  · simp [Instr.sliceBounds]
  · simp only [Int.toNat_natCast] at hl1 ⊢
    simp [Instr.sliceBounds, hb _ _ _ _ h0 hl1]
  · simp [Instr.sliceBounds, hb _ _ _ _ (Int.le_trans h0 h1) h2]
  · simp [Instr.sliceBounds, hb _ _ _ _ (Int.le_trans h0 h1) h2, hb _ _ _ _ h0 hl1]

theorem run_sizeOf {P : Program} (w : World) {t : TypeId} {i : TypeInfo} (h : P.info? t = some i) : (sizeOf t).run P w = .ok i.size w := by
  simp [sizeOf, typeInfo, h]

end Go.Proofs.YtgpbppkmmlclfaaDoor.HB
