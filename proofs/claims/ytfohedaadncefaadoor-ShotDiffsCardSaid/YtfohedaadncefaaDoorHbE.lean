/- The abstract machine's operations, and that the model's own do what they say. -/
import Derived.Test.YtfohedaadncefaaDoorHbD
import Derived.Maps.AppendAt
import Derived.Lib.AppendStr
import Derived.Laws.OwnMore
namespace Go.Proofs.YtfohedaadncefaaDoor.HB
open Go

/-- What a proof goes by: the program, its types, its tables (globals that nobody writes), and what else holds of what nobody writes. -/
structure Cx where
  P : Program
  T : TTab
  /-- Structs that may be compared: numbers, bools and texts, a cell each. -/
  E : TypeId → Option (List AV)
  GT : Nat → Option (List AV)
  G : (Nat → Prop) → World → Prop

def kindTy : Option TypeDesc → AV → Bool
  | some (.int _), .int .. => true
  | some .bool, .bool _ => true
  | some .string, .str _ => true
  | _, _ => false
def fieldsOk (P : Program) : List Field → Nat → List AV → Bool
  | [], _, [] => true
  | f :: fs, i, k :: ks => decide (f.name ≠ "_") && f.offset == i && kindTy (P.underlying f.type) k && fieldsOk P fs (i + 1) ks
  | _, _, _ => false
def eqOkP (P : Program) (t : TypeId) (ks : List AV) : Bool :=
  match P.underlying t with
  | some (.struct fs) => !P.stoodInHeld t && !P.eqGuardType P.depth t && fieldsOk P fs.toList 0 ks
  | _ => false

structure Cx.Ok (C : Cx) : Prop where
  types : TOk C.P C.T
  eqs : ∀ t ks, C.E t = some ks → eqOkP C.P t ks = true
  mono : ∀ imm imm' w w', C.G imm w → (∀ g, imm g → imm' g) → (∀ g, imm g → w'.heap[g]? = w.heap[g]?) → C.G imm' w'
  globs : ∀ imm w g cs, C.G imm w → C.GT g = some cs → imm g ∧ ∃ vs t fr, w.heap[g]? = some (.cells vs t fr) ∧ VRs imm w cs vs.toList
  mixed : C.P.follows .mixedOrders = true

/-- A function's contract: called so, with these objects owned, it answers so. -/
def FnSpec (C : Cx) (f : FuncId) (args : List AV) (L : AHeap) (Q : AV → AHeap → Prop) : Prop :=
  (∃ fn, C.P.funcs[f]? = some fn ∧ (fn.name == "runtime.NumGoroutine") = false ∧ fn.body.isSome = true) ∧
  ∀ (imm : Nat → Prop) (w : World) (vs : List Value), C.G imm w → Sat imm w L → vs.length = args.length → (∀ (j : Nat) (x : AV) (v : Value), args[j]? = some x → vs[j]? = some v → VR imm w x v) →
    Calls C.P f vs.toArray w (fun e w' => ∃ v r L' imm', e = .returned v ∧ VR imm' w' r v ∧ Sat imm' w' L' ∧ Tr (Own L) imm w (Own L') imm' w' ∧ Q r L')

theorem FnSpec.mono {C : Cx} {f : FuncId} {args : List AV} {L : AHeap} {Q Q' : AV → AHeap → Prop} (h : FnSpec C f args L Q) (hq : ∀ r L', Q r L' → Q' r L') : FnSpec C f args L Q' :=
  ⟨h.1, fun imm w vs hG hs hl hv => (h.2 imm w vs hG hs hl hv).mono fun _ _ ⟨v, r, L', imm', a, b, c, d, q⟩ => ⟨v, r, L', imm', a, b, c, d, hq _ _ q⟩⟩

/-- A value that holds nothing that lies in memory. -/
def scal : AV → Bool
  | .ro .. | .rel .. | .agg .. | .tuple .. => false
  | _ => true
def scals : AV → Bool
  | .tuple xs => xs.all scal
  | .agg xs => xs.all scal
  | x => scal x
theorem VR.of_scal {imm imm' : Nat → Prop} {w w' : World} {x : AV} {v : Value} (h : VR imm w x v) (hs : scal x = true) : VR imm' w' x v := by
  cases h <;> first | (simp [scal] at hs; done) | constructor
theorem VR.of_scals {imm imm' : Nat → Prop} {w w' : World} {x : AV} {v : Value} (h : VR imm w x v) (hs : scals x = true) : VR imm' w' x v := by
  cases h with
  | tuple xs vs hl hv => exact .tuple xs vs hl (fun j y u hy hu => (hv j y u hy hu).of_scal ((List.all_eq_true.1 hs) y (List.mem_of_getElem? hy)))
  | agg xs vs hl h1 hv => exact .agg xs vs hl h1 (fun j y u hy hu => (hv j y u hy hu).of_scal ((List.all_eq_true.1 hs) y (List.mem_of_getElem? hy)))
  | junk v => exact .junk v
  | bool b => exact .bool b
  | int k n => exact .int k n
  | str s => exact .str s
  | nilp => exact .nilp
  | ptr k g off => exact .ptr k g off
  | el k g C sz i off => exact .el k g C sz i off
  | rel cs a vs hi hl hc h1 hv => cases hs
  | nils => exact .nils
  | sl k g C n => exact .sl k g C n
  | ro => cases hs
  | any v => exact .any v

/-- What is owned is lent for a call: it is read only as long as the call lasts. -/
inductive Lend (L : AHeap) : AV → AV → Prop where
  | same (x : AV) : Lend L x x
  | row (k g C n e sz : Nat) (xs : List AV) (hk : L[k]? = some (g, .row e sz C xs)) (hn : n ≤ xs.length) : Lend L (.sl k g C n) (.ro sz xs n)
  | rows (k g C n e : Nat) (xs ys : List AV) (hk : L[k]? = some (g, .row e 1 C xs)) (hn : n ≤ xs.length) (hfx : flats xs = xs) (hfy : flats ys = ys) (h1 : ∀ y ∈ ys, (flat y).length = 1) (hl : xs.length = ys.length)
      (h : ∀ (j : Nat) (x y : AV), xs[j]? = some x → ys[j]? = some y → Lend L x y) : Lend L (.sl k g C n) (.ro 1 ys n)
  | nils (sz : Nat) : Lend L .nils (.ro sz [] 0)
  | agg (xs ys : List AV) (hl : xs.length = ys.length) (h : ∀ (j : Nat) (x y : AV), xs[j]? = some x → ys[j]? = some y → Lend L x y) : Lend L (.agg xs) (.agg ys)
  | tuple (xs ys : List AV) (hl : xs.length = ys.length) (h : ∀ (j : Nat) (x y : AV), xs[j]? = some x → ys[j]? = some y → Lend L x y) : Lend L (.tuple xs) (.tuple ys)

def Lends (L : AHeap) : List AV → List AV → Prop
  | [], [] => True
  | x :: xs, y :: ys => Lend L x y ∧ Lends L xs ys
  | _, _ => False
theorem Lend.aggs {L : AHeap} {xs ys : List AV} (h : Lends L xs ys) : Lend L (.agg xs) (.agg ys) := by
  have key : ∀ (xs ys : List AV), Lends L xs ys → xs.length = ys.length ∧ ∀ (j : Nat) (x y : AV), xs[j]? = some x → ys[j]? = some y → Lend L x y := by
    intro xs
    induction xs with
    | nil => intro ys h; cases ys with
      | nil => exact ⟨rfl, by simp⟩
      | cons => exact h.elim
    | cons x xs ih => intro ys h; cases ys with
      | nil => exact h.elim
      | cons y ys =>
        obtain ⟨h1, h2⟩ := h
        obtain ⟨hl, hh⟩ := ih ys h2
        refine ⟨by simp [hl], fun j a b ha hb => ?_⟩
        cases j with
        | zero => simp at ha hb; subst ha; subst hb; exact h1
        | succ j => exact hh j a b (by simpa using ha) (by simpa using hb)
  obtain ⟨a, b⟩ := key xs ys h
  exact .agg xs ys a b
theorem Lends.at_ {L : AHeap} : ∀ {xs ys : List AV}, Lends L xs ys → xs.length = ys.length ∧ ∀ (j : Nat) (x y : AV), xs[j]? = some x → ys[j]? = some y → Lend L x y
  | [], [], _ => ⟨rfl, by simp⟩
  | [], _ :: _, h => h.elim
  | _ :: _, [], h => h.elim
  | x :: xs, y :: ys, h => by
    obtain ⟨hl, hh⟩ := Lends.at_ h.2
    refine ⟨by simp [hl], fun j a b ha hb => ?_⟩
    cases j with
    | zero => simp at ha hb; subst ha; subst hb; exact h.1
    | succ j => exact hh j a b (by simpa using ha) (by simpa using hb)
theorem Lend.aggs' {L : AHeap} {xs ys : List AV} (h : Lends L xs ys) : Lend L (.agg xs) (.agg ys) := .agg _ _ h.at_.1 h.at_.2
theorem Lend.tuples {L : AHeap} {xs ys : List AV} (h : Lends L xs ys) : Lend L (.tuple xs) (.tuple ys) := .tuple _ _ h.at_.1 h.at_.2
theorem Lends.refl (L : AHeap) : ∀ xs, Lends L xs xs
  | [] => trivial
  | x :: xs => ⟨.same x, Lends.refl L xs⟩

/-- A row that is owned, lent: what is owned counts as immutable for a while. -/
theorem Lend.VR {imm : Nat → Prop} {w : World} {L : AHeap} (hs : Sat imm w L) {x y : AV} (h : Lend L x y) : ∀ {v : Value}, VR imm w x v → VR (fun i => imm i ∨ Own L i) w y v := by
  have up : ∀ {x : AV} {v : Value}, HB.VR imm w x v → HB.VR (fun i => imm i ∨ Own L i) w x v := fun h => h.mono (fun _ h => .inl h) (fun _ _ => rfl)
  induction h with
  | same x => exact fun hv => up hv
  | row k g C n e sz xs hk hn =>
    intro v hv
    cases hv with
    | sl =>
      cases hs.holds k g _ hk trivial with
      | row _ _ _ _ vs spare hg hs0 hsz hC hm hx hvs =>
        have hvl := hvs.len
        refine .ro sz xs n _ _ vs hn hx hsz hvl (fun _ => ⟨_, rfl, .inr ⟨k, _, hk, trivial⟩, fun j u hj => ?_⟩) hvs.one (fun j y u hy hu => up (hvs.at_ j y u hy hu))
        have := cell_at hg 0 j u (by simpa using List.getElem?_append_left (l₂ := spare) (List.getElem?_eq_some_iff.1 hj).1 |>.trans hj)
        exact this
  | rows k g C n e xs ys hk hn hfx hfy h1 hl h ih =>
    intro v hv
    cases hv with
    | sl =>
      cases hs.holds k g _ hk trivial with
      | row _ _ _ _ vs spare hg hs0 hsz hC hm hx hvs =>
        have hvl := hvs.len
        rw [hfx] at hvs hvl
        refine .ro 1 ys n _ _ vs (by omega) (by omega) h1 (by rw [hfy]; omega) (fun _ => ⟨_, rfl, .inr ⟨k, _, hk, trivial⟩, fun j u hj => ?_⟩) hvs.one (fun j y u hy hu => ?_)
        · have := cell_at hg 0 j u (by simpa using List.getElem?_append_left (l₂ := spare) (List.getElem?_eq_some_iff.1 hj).1 |>.trans hj)
          exact this
        · rw [hfy] at hy
          have hj : j < xs.length := by rw [hl]; exact (List.getElem?_eq_some_iff.1 hy).1
          exact ih j xs[j] y (List.getElem?_eq_getElem hj) hy (hvs.at_ j _ u (List.getElem?_eq_getElem hj) hu)
  | nils sz =>
    intro v hv
    cases hv
    exact .ro sz [] 0 _ _ [] (by simp) (by simp) (by simp) rfl (by simp) (by simp) (by simp)
  | agg xs ys hl h ih =>
    intro v hv
    cases hv with
    | agg _ vs hvl h1 hv =>
      refine .agg ys vs (by omega) h1 (fun j y u hy hu => ?_)
      have hj : j < xs.length := by rw [hl]; exact (List.getElem?_eq_some_iff.1 hy).1
      exact ih j xs[j] y (List.getElem?_eq_getElem hj) hy (hv j _ u (List.getElem?_eq_getElem hj) hu)
  | tuple xs ys hl h ih =>
    intro v hv
    cases hv with
    | tuple _ vs hvl hv =>
      refine .tuple ys vs (by omega) (fun j y u hy hu => ?_)
      have hj : j < xs.length := by rw [hl]; exact (List.getElem?_eq_some_iff.1 hy).1
      exact ih j xs[j] y (List.getElem?_eq_getElem hj) hy (hv j _ u (List.getElem?_eq_getElem hj) hu)

/-- What says no more than another does. -/
def Sub (r r' : AV) : Prop := ∀ (imm : Nat → Prop) (w : World) (v : Value), VR imm w r v → VR imm w r' v
theorem Sub.refl (r : AV) : Sub r r := fun _ _ _ h => h
theorem Sub.junk (r : AV) : Sub r .junk := fun _ _ v _ => .junk v
theorem Sub.sl (k k' g C n : Nat) : Sub (.sl k g C n) (.sl k' g C n) := fun _ _ _ h => by cases h; exact .sl ..
theorem Sub.ptr (k k' g off : Nat) : Sub (.ptr k g off) (.ptr k' g off) := fun _ _ _ h => by cases h; exact .ptr ..

/-! ### Some objects are handed over, the others stay -/
def selL (L : AHeap) (ks : List Nat) : AHeap := ks.map fun k => L.getD k (0, .dead)
def idxN : List Nat → Nat → Nat → Option Nat
  | [], _, _ => none
  | k :: ks, j, i => if k == j then some i else idxN ks j (i + 1)
def mergeA (ks : List Nat) (L' : AHeap) : Nat → AHeap → AHeap
  | _, [] => L'.drop ks.length
  | j, x :: L => (match idxN ks j 0 with
    | some i => L'.getD i (0, .dead)
    | none => x) :: mergeA ks L' (j + 1) L
/-- The caller's heap behind the call. -/
def mergeL (L : AHeap) (ks : List Nat) (L' : AHeap) : AHeap := mergeA ks L' 0 L

theorem idxN_some : ∀ {ks : List Nat} {j b i : Nat}, idxN ks j b = some i → b ≤ i ∧ ks[i - b]? = some j
  | [], _, _, _, h => by cases h
  | k :: ks, j, b, i, h => by
    simp only [idxN] at h
    split at h
    · rename_i e; cases h; exact ⟨Nat.le_refl _, by simpa using e⟩
    · obtain ⟨h1, h2⟩ := idxN_some h
      refine ⟨by omega, ?_⟩
      rw [show i - b = (i - (b + 1)) + 1 by omega]
      simpa using h2
theorem idxN_none : ∀ {ks : List Nat} {j b : Nat}, idxN ks j b = none → j ∉ ks
  | [], _, _, _ => by simp
  | k :: ks, j, b, h => by
    simp only [idxN] at h
    split at h
    · cases h
    · rename_i e
      have := idxN_none h
      simp only [List.mem_cons, not_or]
      exact ⟨fun e' => e (by simp [e']), this⟩
theorem mergeA_at {ks : List Nat} {L' : AHeap} : ∀ {L : AHeap} {j0 j : Nat} {x : Nat × AObj}, (mergeA ks L' j0 L)[j]? = some x →
    (j < L.length ∧ ∃ i, idxN ks (j0 + j) 0 = some i ∧ x = L'.getD i (0, .dead)) ∨ (j < L.length ∧ idxN ks (j0 + j) 0 = none ∧ L[j]? = some x) ∨ (L.length ≤ j ∧ L'[ks.length + (j - L.length)]? = some x)
  | [], j0, j, x, h => by
    simp only [mergeA, List.getElem?_drop] at h
    exact .inr (.inr ⟨Nat.zero_le _, by simpa using h⟩)
  | y :: L, j0, 0, x, h => by
    simp only [mergeA, List.getElem?_cons_zero, Option.some.injEq] at h
    cases e : idxN ks (j0 + 0) 0 with
    | some i => rw [Nat.add_zero] at e; rw [e] at h; exact .inl ⟨by simp, i, rfl, h.symm⟩
    | none => rw [Nat.add_zero] at e; rw [e] at h; exact .inr (.inl ⟨by simp, rfl, by simpa using h⟩)
  | y :: L, j0, j + 1, x, h => by
    simp only [mergeA, List.getElem?_cons_succ] at h
    have := mergeA_at h
    rw [show j0 + 1 + j = j0 + (j + 1) by omega] at this
    rcases this with ⟨h1, h2⟩ | ⟨h1, h2, h3⟩ | ⟨h1, h2⟩
    · exact .inl ⟨by simp; omega, h2⟩
    · exact .inr (.inl ⟨by simp; omega, h2, by simpa using h3⟩)
    · exact .inr (.inr ⟨by simp; omega, by rw [show j + 1 - (y :: L).length = j - L.length by simp]; exact h2⟩)
theorem merge_live {L L' : AHeap} {ks : List Nat} {j g : Nat} {o : AObj} (h : (mergeL L ks L')[j]? = some (g, o)) (ho : o.live) :
    (∃ i : Nat, ks[i]? = some j ∧ L'[i]? = some (g, o)) ∨ (j ∉ ks ∧ L[j]? = some (g, o)) ∨ (L.length ≤ j ∧ L'[ks.length + (j - L.length)]? = some (g, o)) := by
  rcases mergeA_at h with ⟨h1, i, h2, h3⟩ | ⟨h1, h2, h3⟩ | h1
  · rw [Nat.zero_add] at h2
    obtain ⟨_, h4⟩ := idxN_some h2
    refine .inl ⟨i, by simpa using h4, ?_⟩
    simp only [List.getD] at h3
    cases e : L'[i]? with
    | none => rw [e] at h3; simp at h3; rw [h3.2] at ho; exact ho.elim
    | some y => rw [e] at h3; simp at h3; rw [h3]
  · exact .inr (.inl ⟨by have := idxN_none h2; simpa using this, h3⟩)
  · exact .inr (.inr h1)
theorem selL_live {L : AHeap} {ks : List Nat} {i g : Nat} {o : AObj} (h : (selL L ks)[i]? = some (g, o)) (ho : o.live) : ∃ k, ks[i]? = some k ∧ L[k]? = some (g, o) := by
  simp only [selL, List.getElem?_map] at h
  cases hk : ks[i]? with
  | none => simp [hk] at h
  | some k =>
    simp only [hk, Option.map_some, Option.some.injEq, List.getD] at h
    cases hl : L[k]? with
    | none => rw [hl] at h; simp at h; rw [← h.2] at ho; exact ho.elim
    | some p => rw [hl] at h; simp at h; exact ⟨k, rfl, by rw [hl, h]⟩
theorem own_selL {L : AHeap} {ks : List Nat} {g : Nat} (h : Own (selL L ks) g) : ∃ k o, k ∈ ks ∧ L[k]? = some (g, o) ∧ o.live := by
  obtain ⟨i, o, hi, ho⟩ := h
  obtain ⟨k, h1, h2⟩ := selL_live hi ho
  exact ⟨k, o, List.mem_of_getElem? h1, h2, ho⟩
theorem selL_sat {imm : Nat → Prop} {w : World} {L : AHeap} {ks : List Nat} (hs : Sat imm w L) (hnd : ks.Nodup) : Sat imm w (selL L ks) := by
  refine ⟨fun j g o hj ho => ?_, fun j j' g o o' h1 l1 h2 l2 => ?_, fun g hg => ?_, fun g hg => ?_, hs.immlt⟩
  · obtain ⟨k, _, hk⟩ := selL_live hj ho
    exact hs.holds k g o hk ho
  · obtain ⟨k, e1, hk⟩ := selL_live h1 l1
    obtain ⟨k', e2, hk'⟩ := selL_live h2 l2
    have := hs.apart k k' g o o' hk l1 hk' l2
    subst this
    have hj : j < ks.length := (List.getElem?_eq_some_iff.1 e1).1
    exact (List.getElem?_inj hj hnd).1 (e1.trans e2.symm)
  · obtain ⟨k, o, _, hk, ho⟩ := own_selL hg; exact hs.far g ⟨k, o, hk, ho⟩
  · obtain ⟨k, o, _, hk, ho⟩ := own_selL hg; exact hs.lt g ⟨k, o, hk, ho⟩

theorem merge_sat {imm imm' : Nat → Prop} {w w' : World} {L L' : AHeap} {ks : List Nat} (hs : Sat imm w L) (hs' : Sat imm' w' L') (ht : Tr (Own (selL L ks)) imm w (Own L') imm' w') :
    Sat imm' w' (mergeL L ks L') ∧ Tr (Own L) imm w (Own (mergeL L ks L')) imm' w' := by
  have hsel : ∀ g, Own (selL L ks) g → Own L g := fun g hg => by obtain ⟨k, o, _, hk, ho⟩ := own_selL hg; exact ⟨k, o, hk, ho⟩
  have hout : ∀ j g o, j ∉ ks → L[j]? = some (g, o) → o.live → ¬ Own (selL L ks) g := fun j g o hj hl ho hg => by
    obtain ⟨k, o', hk, hl', ho'⟩ := own_selL hg
    have := hs.apart j k g o o' hl ho hl' ho'
    exact hj (this ▸ hk)
  have hnew : ∀ j g o, j ∉ ks → L[j]? = some (g, o) → o.live → ¬ Own L' g := fun j g o hj hl ho hg => by
    rcases ht.own2 g hg with h | h
    · exact hout j g o hj hl ho h
    · have := hs.lt g ⟨j, o, hl, ho⟩; omega
  have himm : ∀ i, imm i → w'.heap[i]? = w.heap[i]? := ht.immblock (fun g hg => hs.far g (hsel g hg)) hs.immlt
  refine ⟨⟨fun j g o hj ho => ?_, fun j j' g o o' h1 l1 h2 l2 => ?_, fun g hg => ?_, fun g hg => ?_, hs'.immlt⟩, ⟨ht.os, ht.tape, ht.output, ht.size, fun i hi ho => ht.block i hi (fun h => ho (hsel i h)), ht.imm1, fun i hi => ?_, fun i hi => ?_⟩⟩
  · rcases merge_live hj ho with ⟨i, _, h⟩ | ⟨hj, h⟩ | ⟨_, h⟩
    · exact hs'.holds _ g o h ho
    · exact (hs.holds j g o h ho).mono ht.imm1 himm (ht.block g (hs.lt g ⟨j, o, h, ho⟩) (hout j g o hj h ho))
    · exact hs'.holds _ g o h ho
  · rcases merge_live h1 l1 with ⟨i, e, h⟩ | ⟨hj, h⟩ | ⟨hj, h⟩ <;> rcases merge_live h2 l2 with ⟨i', e', h'⟩ | ⟨hj', h'⟩ | ⟨hj', h'⟩
    · have := hs'.apart _ _ g o o' h l1 h' l2
      subst this
      rw [e] at e'
      simpa using e'
    · exact (hnew j' g o' hj' h' l2 ⟨_, o, h, l1⟩).elim
    · have := hs'.apart _ _ g o o' h l1 h' l2
      have := (List.getElem?_eq_some_iff.1 e).1
      omega
    · exact (hnew j g o hj h l1 ⟨_, o', h', l2⟩).elim
    · exact hs.apart _ _ g o o' h l1 h' l2
    · exact (hnew j g o hj h l1 ⟨_, o', h', l2⟩).elim
    · have := hs'.apart _ _ g o o' h l1 h' l2
      have := (List.getElem?_eq_some_iff.1 e').1
      omega
    · exact (hnew j' g o' hj' h' l2 ⟨_, o, h, l1⟩).elim
    · have := hs'.apart _ _ g o o' h l1 h' l2
      omega
  · obtain ⟨j, o, hj, ho⟩ := hg
    rcases merge_live hj ho with ⟨i, _, h⟩ | ⟨hj, h⟩ | ⟨_, h⟩
    · exact hs'.far g ⟨_, o, h, ho⟩
    · intro hi
      rcases ht.imm2 g hi with h' | h' | h'
      · exact hs.far g ⟨j, o, h, ho⟩ h'
      · exact hout j g o hj h ho h'
      · have := hs.lt g ⟨j, o, h, ho⟩; omega
    · exact hs'.far g ⟨_, o, h, ho⟩
  · obtain ⟨j, o, hj, ho⟩ := hg
    rcases merge_live hj ho with ⟨i, _, h⟩ | ⟨hj, h⟩ | ⟨_, h⟩
    · exact hs'.lt g ⟨_, o, h, ho⟩
    · exact Nat.lt_of_lt_of_le (hs.lt g ⟨j, o, h, ho⟩) ht.size
    · exact hs'.lt g ⟨_, o, h, ho⟩
  · rcases ht.imm2 i hi with h | h | h
    · exact .inl h
    · exact .inr (.inl (hsel i h))
    · exact .inr (.inr h)
  · obtain ⟨j, o, hj, ho⟩ := hi
    have old : Own L' i → Own L i ∨ w.heap.size ≤ i := fun h => (ht.own2 i h).imp (hsel i) id
    rcases merge_live hj ho with ⟨i', _, h⟩ | ⟨hj, h⟩ | ⟨_, h⟩
    · exact old ⟨_, o, h, ho⟩
    · exact .inl ⟨j, o, h, ho⟩
    · exact old ⟨_, o, h, ho⟩

/-- What the others are while they are lent. -/
def restL (L : AHeap) (ks : List Nat) : AHeap := mergeL L ks []
theorem restL_live {L : AHeap} {ks : List Nat} {j g : Nat} {o : AObj} (h : (restL L ks)[j]? = some (g, o)) (ho : o.live) : j ∉ ks ∧ L[j]? = some (g, o) := by
  rcases merge_live h ho with ⟨i, _, h⟩ | h | ⟨_, h⟩
  · simp at h
  · exact h
  · simp at h
theorem restL_sat {imm : Nat → Prop} {w : World} {L : AHeap} {ks : List Nat} (hs : Sat imm w L) : Sat imm w (restL L ks) :=
  ⟨fun j g o hj ho => hs.holds j g o (restL_live hj ho).2 ho, fun j j' g o o' h1 l1 h2 l2 => hs.apart j j' g o o' (restL_live h1 l1).2 l1 (restL_live h2 l2).2 l2,
    fun g ⟨j, o, hj, ho⟩ => hs.far g ⟨j, o, (restL_live hj ho).2, ho⟩, fun g ⟨j, o, hj, ho⟩ => hs.lt g ⟨j, o, (restL_live hj ho).2, ho⟩, hs.immlt⟩

def Subs : List AV → List AV → Prop
  | [], [] => True
  | x :: xs, y :: ys => Sub x y ∧ Subs xs ys
  | _, _ => False
theorem Subs.at_ : ∀ {xs ys : List AV}, Subs xs ys → xs.length = ys.length ∧ ∀ (j : Nat) (x y : AV), xs[j]? = some x → ys[j]? = some y → Sub x y
  | [], [], _ => ⟨rfl, by simp⟩
  | [], _ :: _, h => h.elim
  | _ :: _, [], h => h.elim
  | x :: xs, y :: ys, h => by
    obtain ⟨hl, hh⟩ := Subs.at_ h.2
    refine ⟨by simp [hl], fun j a b ha hb => ?_⟩
    cases j with
    | zero => simp at ha hb; subst ha; subst hb; exact h.1
    | succ j => exact hh j a b (by simpa using ha) (by simpa using hb)
theorem Subs.refl : ∀ xs, Subs xs xs
  | [] => trivial
  | x :: xs => ⟨Sub.refl x, Subs.refl xs⟩
theorem Sub.aggs {xs ys : List AV} (h : Subs xs ys) : Sub (.agg xs) (.agg ys) := fun imm w v hv => by
  obtain ⟨hl, hat⟩ := h.at_
  cases hv with
  | agg _ vs hvl h1 hvv =>
    refine .agg ys vs (by omega) h1 fun j y u hy hu => ?_
    have hj : j < xs.length := by rw [hl]; exact (List.getElem?_eq_some_iff.1 hy).1
    exact hat j xs[j] y (List.getElem?_eq_getElem hj) hy imm w u (hvv j _ u (List.getElem?_eq_getElem hj) hu)
theorem Sub.tuples {xs ys : List AV} (h : Subs xs ys) : Sub (.tuple xs) (.tuple ys) := fun imm w v hv => by
  obtain ⟨hl, hat⟩ := h.at_
  cases hv with
  | tuple _ vs hvl hvv =>
    refine .tuple ys vs (by omega) fun j y u hy hu => ?_
    have hj : j < xs.length := by rw [hl]; exact (List.getElem?_eq_some_iff.1 hy).1
    exact hat j xs[j] y (List.getElem?_eq_getElem hj) hy imm w u (hvv j _ u (List.getElem?_eq_getElem hj) hu)
theorem Sub.el (k k' g C sz i off : Nat) : Sub (.el k g C sz i off) (.el k' g C sz i off) := fun _ _ _ h => by cases h; exact .el ..

/-- Objects that hold nothing which leans on what others may not write. -/
def scalO : AObj → Bool
  | .dead => true
  | .cells _ cs => cs.all scal
  | .row _ _ _ xs => (flats xs).all scal
def scalL (L : AHeap) : Bool := L.all fun x => scalO x.2
theorem VRs.of_scal {imm imm' : Nat → Prop} {w w' : World} {xs : List AV} {vs : List Value} (h : VRs imm w xs vs) (hs : xs.all scal = true) : VRs imm' w' xs vs :=
  ⟨h.len, h.one, fun j y u hy hu => (h.at_ j y u hy hu).of_scal ((List.all_eq_true.1 hs) y (List.mem_of_getElem? hy))⟩
theorem Holds.of_scal {imm imm' : Nat → Prop} {w : World} {g : Nat} {o : AObj} (h : Holds imm w g o) (hs : scalO o = true) : Holds imm' w g o := by
  cases h with
  | dead => exact .dead
  | cells t cs vs hg hv => exact .cells t cs vs hg (hv.of_scal hs)
  | row e sz C xs vs spare hg h0 hsz hC hm hx hv => exact .row e sz C xs vs spare hg h0 hsz hC hm hx (hv.of_scal hs)

/-! ### The same heap, said otherwise: handles renumbered, a row's end forgotten -/
def SubO : AObj → AObj → Prop
  | .cells t cs, .cells t' cs' => t = t' ∧ Subs cs cs'
  | .row e sz Cp xs, .row e' sz' Cp' xs' => e = e' ∧ sz = sz' ∧ Cp = Cp' ∧ ∃ m, xs' = xs.take m
  | .dead, .dead => True
  | _, _ => False
def SubL : AHeap → AHeap → Prop
  | [], [] => True
  | (g, o) :: L, (g', o') :: L' => g = g' ∧ SubO o o' ∧ SubL L L'
  | _, _ => False
theorem SubO.cells {t : TypeId} {cs cs' : List AV} (h : Subs cs cs') : SubO (.cells t cs) (.cells t cs') := ⟨rfl, h⟩
theorem SubO.rowR (e sz Cp : Nat) (xs : List AV) : SubO (.row e sz Cp xs) (.row e sz Cp xs) := ⟨rfl, rfl, rfl, xs.length, (List.take_length ..).symm⟩
theorem SubO.rowT (e sz Cp : Nat) (xs : List AV) (m : Nat) : SubO (.row e sz Cp xs) (.row e sz Cp (xs.take m)) := ⟨rfl, rfl, rfl, m, rfl⟩
theorem SubO.live {o o' : AObj} (h : SubO o o') : o'.live ↔ o.live := by
  cases o <;> cases o' <;> simp_all [SubO, AObj.live]
theorem SubO.holds {imm : Nat → Prop} {w : World} {g : Nat} {o o' : AObj} (h : SubO o o') (hh : Holds imm w g o) : Holds imm w g o' := by
  cases hh with
  | dead => cases o' <;> first | exact .dead | exact h.elim
  | cells t cs vs hg hv =>
    cases o' <;> try exact h.elim
    obtain ⟨rfl, hs⟩ := h
    obtain ⟨hl, hat⟩ := hs.at_
    refine .cells _ _ vs hg ⟨by rw [hv.len, hl], hv.one, fun j x u hx hu => ?_⟩
    · have hj : j < cs.length := by rw [hl]; exact (List.getElem?_eq_some_iff.1 hx).1
      exact hat j cs[j] x (List.getElem?_eq_getElem hj) hx _ _ _ (hv.at_ j _ u (List.getElem?_eq_getElem hj) hu)
  | row e sz Cp xs vs spare hg h0 hsz hC hm hxl hv =>
    cases o' <;> try exact h.elim
    obtain ⟨rfl, rfl, rfl, m, rfl⟩ := h
    have h4 : flats (xs.take m) ++ flats (xs.drop m) = flats xs := by rw [← flats_append, List.take_append_drop]
    have h5 := hv.take (flats (xs.take m)).length
    rw [← h4, List.take_left] at h5
    refine .row _ _ _ _ (vs.take (flats (xs.take m)).length) (vs.drop (flats (xs.take m)).length ++ spare) ?_ h0 (fun x hx => hsz x (List.mem_of_mem_take hx)) ?_ hm (by rw [List.length_take]; omega) h5
    · rw [← List.append_assoc, List.take_append_drop]; exact hg
    · rw [← List.append_assoc, List.take_append_drop]; exact hC
theorem SubL.at_ : ∀ {L L' : AHeap}, SubL L L' → L.length = L'.length ∧ ∀ (j g : Nat) (o' : AObj), L'[j]? = some (g, o') → ∃ o, L[j]? = some (g, o) ∧ SubO o o'
  | [], [], _ => ⟨rfl, by simp⟩
  | [], _ :: _, h => h.elim
  | _ :: _, [], h => h.elim
  | (g, o) :: L, (g', o') :: L', h => by
    obtain ⟨rfl, h1, h2⟩ := h
    obtain ⟨hl, hh⟩ := SubL.at_ h2
    refine ⟨by simp [hl], fun j g o' hj => ?_⟩
    cases j with
    | zero => simp at hj; obtain ⟨rfl, rfl⟩ := hj; exact ⟨_, rfl, h1⟩
    | succ j => simpa using hh j g o' (by simpa using hj)
theorem SubL.own {L L' : AHeap} (h : SubL L L') : Own L' = Own L := by
  obtain ⟨hl, hat⟩ := h.at_
  funext g
  refine propext ⟨?_, ?_⟩
  · rintro ⟨j, o', hj, ho⟩
    obtain ⟨o, h1, h2⟩ := hat j g o' hj
    exact ⟨j, o, h1, h2.live.1 ho⟩
  · rintro ⟨j, o, hj, ho⟩
    have hlt : j < L'.length := by rw [← hl]; exact (List.getElem?_eq_some_iff.1 hj).1
    obtain ⟨o2, h1, h2⟩ := hat j L'[j].1 L'[j].2 (List.getElem?_eq_getElem hlt)
    rw [hj] at h1
    cases h1
    exact ⟨j, L'[j].2, List.getElem?_eq_getElem hlt, h2.live.2 ho⟩
theorem SubL.sat {imm : Nat → Prop} {w : World} {L L' : AHeap} (h : SubL L L') (hs : Sat imm w L) : Sat imm w L' := by
  have ho := h.own
  obtain ⟨_, hat⟩ := h.at_
  refine ⟨fun j g o hj hl => ?_, fun j j' g o o' h1 l1 h2 l2 => ?_, by rw [ho]; exact hs.far, by rw [ho]; exact hs.lt, hs.immlt⟩
  · obtain ⟨o1, h1, h2⟩ := hat j g o hj
    exact h2.holds (hs.holds j g o1 h1 (h2.live.1 hl))
  · obtain ⟨p1, a1, b1⟩ := hat j g o h1
    obtain ⟨p2, a2, b2⟩ := hat j' g o' h2
    exact hs.apart j j' g p1 p2 a1 (b1.live.1 l1) a2 (b2.live.1 l2)

/-- A call. -/
inductive ACall (C : Cx) (f : FuncId) (args : List AV) (L : AHeap) (K : AV → AHeap → Prop) : Prop where
  /-- A function that owns nothing; what it answers may be new. (What it has made and still owns stands behind the caller's own.) -/
  | pure (Q : AV → AHeap → Prop) (h : FnSpec C f args [] Q) (k : ∀ r L', Q r L' → ∃ r', Sub r r' ∧ K r' (L ++ L')) : ACall C f args L K
  /-- The same, some arguments lent. -/
  | lend (args' : List AV) (Q : AV → AHeap → Prop) (hl : Lends L args args') (h : FnSpec C f args' [] Q) (k : ∀ r L', Q r L' → scals r = true ∧ K r L) : ACall C f args L K
  /-- A function that is handed some of what is owned. -/
  | sel (ks : List Nat) (hnd : ks.Nodup) (args' : List AV) (Q : AV → AHeap → Prop) (hsub : Subs args args') (h : FnSpec C f args' (selL L ks) Q) (k : ∀ r L', Q r L' → ∃ r', Sub r r' ∧ K r' (mergeL L ks L')) : ACall C f args L K
  /-- The same, the heap said otherwise ahead of the call and behind it. -/
  | selS (ks : List Nat) (hnd : ks.Nodup) (args' : List AV) (Ls : AHeap) (Q : AV → AHeap → Prop) (hsub : Subs args args') (hL : SubL (selL L ks) Ls) (h : FnSpec C f args' Ls Q)
      (k : ∀ r L', Q r L' → ∃ r' L'', Sub r r' ∧ SubL (mergeL L ks L') L'' ∧ K r' L'') : ACall C f args L K
  /-- The same, the others lent. -/
  | selLend (ks : List Nat) (hnd : ks.Nodup) (args1 args' : List AV) (Q : AV → AHeap → Prop) (hl : Lends (restL L ks) args args1) (hsub : Subs args1 args') (h : FnSpec C f args' (selL L ks) Q)
      (k : ∀ r L', Q r L' → scals r = true ∧ scalL L' = true ∧ ∃ r', Sub r r' ∧ K r' (mergeL L ks L')) : ACall C f args L K
  /-- A function that is handed all that is owned. -/
  | all (Q : AV → AHeap → Prop) (h : FnSpec C f args L Q) (k : ∀ r L', Q r L' → K r L') : ACall C f args L K

theorem ACall.ret {C : Cx} {f : FuncId} {args : List AV} {L : AHeap} {K : AV → AHeap → Prop} {r0 : AV} (h : FnSpec C f args [] (fun r L' => r = r0 ∧ L' = [])) (k : K r0 L) : ACall C f args L K :=
  .pure _ h fun r L' ⟨e, e'⟩ => by subst e; subst e'; exact ⟨_, Sub.refl _, by simpa using k⟩
theorem ACall.ret_lend {C : Cx} {f : FuncId} {args args' : List AV} {L : AHeap} {K : AV → AHeap → Prop} {r0 : AV} (hl : Lends L args args') (h : FnSpec C f args' [] (fun r L' => r = r0 ∧ L' = [])) (hr : scals r0 = true) (k : K r0 L) : ACall C f args L K :=
  .lend _ _ hl h fun r L' ⟨e, _⟩ => by subst e; exact ⟨hr, k⟩

/-- What a call asks of the world, and what it leaves. -/
theorem ACall.sound {C : Cx} (hC : C.Ok) {f : FuncId} {args : List AV} {L : AHeap} {K : AV → AHeap → Prop} (h : ACall C f args L K) {imm : Nat → Prop} {w : World} (hG : C.G imm w) (hs : Sat imm w L) {vs : List Value}
    (hl : vs.length = args.length) (hv : ∀ (j : Nat) (x : AV) (v : Value), args[j]? = some x → vs[j]? = some v → VR imm w x v) :
    (∃ fn, C.P.funcs[f]? = some fn ∧ (fn.name == "runtime.NumGoroutine") = false ∧ fn.body.isSome = true) ∧
    Calls C.P f vs.toArray w (fun e w' => ∃ v r L' imm', e = .returned v ∧ VR imm' w' r v ∧ Sat imm' w' L' ∧ Tr (Own L) imm w (Own L') imm' w' ∧ K r L') := by
  have hnone : ∀ g, ¬ Own ([] : AHeap) g := fun g ⟨k, o, hk, _⟩ => by simp at hk
  cases h with
  | all Q h k => exact ⟨h.1, (h.2 imm w vs hG hs hl hv).mono fun _ _ ⟨v, r, L', imm', a, b, c, d, q⟩ => ⟨v, r, L', imm', a, b, c, d, k _ _ q⟩⟩
  | sel ks hnd args' Q hsub h k =>
    obtain ⟨hlen, hat⟩ := hsub.at_
    refine ⟨h.1, (h.2 imm w vs hG (selL_sat hs hnd) (by omega) (fun j y v hy hvj => ?_)).mono ?_⟩
    · have hj : j < args.length := by rw [hlen]; exact (List.getElem?_eq_some_iff.1 hy).1
      exact hat j args[j] y (List.getElem?_eq_getElem hj) hy _ _ _ (hv j _ v (List.getElem?_eq_getElem hj) hvj)
    · rintro e w' ⟨v, r, L', imm', rfl, hr, hs', ht, hq⟩
      obtain ⟨r', hsub', hk⟩ := k r L' hq
      obtain ⟨m1, m2⟩ := merge_sat hs hs' ht
      exact ⟨v, r', _, imm', rfl, hsub' _ _ _ hr, m1, m2, hk⟩
  | selS ks hnd args' Ls Q hsub hL h k =>
    obtain ⟨hlen, hat⟩ := hsub.at_
    refine ⟨h.1, (h.2 imm w vs hG (hL.sat (selL_sat hs hnd)) (by omega) (fun j y v hy hvj => ?_)).mono ?_⟩
    · have hj : j < args.length := by rw [hlen]; exact (List.getElem?_eq_some_iff.1 hy).1
      exact hat j args[j] y (List.getElem?_eq_getElem hj) hy _ _ _ (hv j _ v (List.getElem?_eq_getElem hj) hvj)
    · rintro e w' ⟨v, r, L', imm', rfl, hr, hs', ht, hq⟩
      obtain ⟨r', L'', hsub', hL', hk⟩ := k r L' hq
      rw [hL.own] at ht
      obtain ⟨m1, m2⟩ := merge_sat hs hs' ht
      rw [← hL'.own] at m2
      exact ⟨v, r', _, imm', rfl, hsub' _ _ _ hr, hL'.sat m1, m2, hk⟩
  | selLend ks hnd args1 args' Q hle hsub h k =>
    obtain ⟨hlen, hat⟩ := hsub.at_
    obtain ⟨hlen1, hat1⟩ := hle.at_
    have hrest := restL_sat (ks := ks) hs
    have hlt' : ∀ i, imm i ∨ Own (restL L ks) i → i < w.heap.size := fun i hi => hi.elim (hs.immlt i) (hrest.lt i)
    have hs1 : Sat (fun i => imm i ∨ Own (restL L ks) i) w (selL L ks) := by
      have h0 := selL_sat (ks := ks) hs hnd
      refine ⟨fun j g o hj ho => (h0.holds j g o hj ho).mono (fun _ => .inl) (fun _ _ => rfl) rfl, h0.apart, fun g hg hi => ?_, h0.lt, hlt'⟩
      rcases hi with hi | hi
      · exact h0.far g hg hi
      · obtain ⟨k1, o1, m1, l1, e1⟩ := own_selL hg
        obtain ⟨k2, o2, l2, e2⟩ := hi
        obtain ⟨m2, l2⟩ := restL_live l2 e2
        have := hs.apart k1 k2 g o1 o2 l1 e1 l2 e2
        exact m2 (this ▸ m1)
    refine ⟨h.1, (h.2 (fun i => imm i ∨ Own (restL L ks) i) w vs (hC.mono _ _ _ _ hG (fun _ => .inl) (fun _ _ => rfl)) hs1 (by omega) (fun j y v hy hvj => ?_)).mono ?_⟩
    · have hj : j < args.length := by rw [hlen1, hlen]; exact (List.getElem?_eq_some_iff.1 hy).1
      have hj1 : j < args1.length := by omega
      exact hat j args1[j] y (List.getElem?_eq_getElem hj1) hy _ _ _ ((hat1 j args[j] args1[j] (List.getElem?_eq_getElem hj) (List.getElem?_eq_getElem hj1)).VR hrest (hv j _ v (List.getElem?_eq_getElem hj) hvj))
    · rintro e w' ⟨v, r, L', imm', rfl, hr, hs', ht, hq⟩
      obtain ⟨hsc, hscL, r', hsub', hk⟩ := k r L' hq
      have hfar : ∀ g, Own L' g → ¬ imm g := fun g hg hi => hs'.far g hg (ht.imm1 g (.inl hi))
      have hs2 : Sat imm w' L' := ⟨fun j g o hj ho => (hs'.holds j g o hj ho).of_scal ((List.all_eq_true.1 hscL) _ (List.mem_of_getElem? hj)), hs'.apart, hfar, hs'.lt, fun g hg => Nat.lt_of_lt_of_le (hs.immlt g hg) ht.size⟩
      have ht2 : Tr (Own (selL L ks)) imm w (Own L') imm w' := ⟨ht.os, ht.tape, ht.output, ht.size, ht.block, fun _ h => h, fun _ h => .inl h, ht.own2⟩
      obtain ⟨m1, m2⟩ := merge_sat hs hs2 ht2
      exact ⟨v, r', _, imm, rfl, hsub' _ _ _ (hr.of_scals hsc), m1, m2, hk⟩
  | pure Q h k =>
    refine ⟨h.1, (h.2 imm w vs hG ⟨by simp, by simp, fun g hg => (hnone g hg).elim, fun g hg => (hnone g hg).elim, hs.immlt⟩ hl hv).mono ?_⟩
    rintro e w' ⟨v, r, L', imm', rfl, hr, hs', ht, hq⟩
    obtain ⟨r', hsub, hk⟩ := k r L' hq
    refine ⟨v, r', L ++ L', imm', rfl, hsub _ _ _ hr, ?_, ?_, hk⟩
    · have hold : ∀ i, i < w.heap.size → w'.heap[i]? = w.heap[i]? := fun i hi => ht.block i hi (hnone i)
      have hnew : ∀ g, Own L' g → w.heap.size ≤ g := fun g hg => (ht.own2 g hg).elim (fun x => (hnone g x).elim) id
      have hcase : ∀ (j g : Nat) (o : AObj), (L ++ L')[j]? = some (g, o) → (j < L.length ∧ L[j]? = some (g, o)) ∨ (L.length ≤ j ∧ L'[j - L.length]? = some (g, o)) := fun j g o hj => by
        by_cases hlt : j < L.length
        · rw [List.getElem?_append_left hlt] at hj; exact .inl ⟨hlt, hj⟩
        · rw [List.getElem?_append_right (by omega)] at hj; exact .inr ⟨by omega, hj⟩
      refine ⟨fun j g o hj ho => ?_, fun j j' g o o' h1 l1 h2 l2 => ?_, fun g hg => ?_, fun g hg => ?_, hs'.immlt⟩
      · rcases hcase j g o hj with ⟨_, hj⟩ | ⟨_, hj⟩
        · exact (hs.holds j g o hj ho).mono ht.imm1 (fun i hi => hold i (hs.immlt i hi)) (hold g (hs.lt g ⟨j, o, hj, ho⟩))
        · exact hs'.holds _ g o hj ho
      · rcases hcase j g o h1 with ⟨a1, h1⟩ | ⟨a1, h1⟩ <;> rcases hcase j' g o' h2 with ⟨a2, h2⟩ | ⟨a2, h2⟩
        · exact hs.apart j j' g o o' h1 l1 h2 l2
        · have := hs.lt g ⟨j, o, h1, l1⟩; have := hnew g ⟨_, o', h2, l2⟩; omega
        · have := hs.lt g ⟨j', o', h2, l2⟩; have := hnew g ⟨_, o, h1, l1⟩; omega
        · have := hs'.apart _ _ g o o' h1 l1 h2 l2; omega
      · obtain ⟨j, o, hj, ho⟩ := hg
        rcases hcase j g o hj with ⟨_, hj⟩ | ⟨_, hj⟩
        · intro hi
          rcases ht.imm2 g hi with h' | h' | h'
          · exact hs.far g ⟨j, o, hj, ho⟩ h'
          · exact hnone g h'
          · have := hs.lt g ⟨j, o, hj, ho⟩; omega
        · exact hs'.far g ⟨_, o, hj, ho⟩
      · obtain ⟨j, o, hj, ho⟩ := hg
        rcases hcase j g o hj with ⟨_, hj⟩ | ⟨_, hj⟩
        · exact Nat.lt_of_lt_of_le (hs.lt g ⟨j, o, hj, ho⟩) ht.size
        · exact hs'.lt g ⟨_, o, hj, ho⟩
    · refine ⟨ht.os, ht.tape, ht.output, ht.size, fun i hi _ => ht.block i hi (hnone i), ht.imm1, fun i hi => ?_, fun i hi => ?_⟩
      · rcases ht.imm2 i hi with h' | h' | h'
        · exact .inl h'
        · exact (hnone i h').elim
        · exact .inr (.inr h')
      · obtain ⟨j, o, hj, ho⟩ := hi
        by_cases hlt : j < L.length
        · rw [List.getElem?_append_left hlt] at hj; exact .inl ⟨j, o, hj, ho⟩
        · rw [List.getElem?_append_right (by omega)] at hj
          rcases ht.own2 i ⟨_, o, hj, ho⟩ with h' | h'
          · exact (hnone i h').elim
          · exact .inr h'
  | lend args' Q hle h k =>
    obtain ⟨hlen, hat⟩ := hle.at_
    have hlt' : ∀ i, imm i ∨ Own L i → i < w.heap.size := fun i hi => hi.elim (hs.immlt i) (hs.lt i)
    refine ⟨h.1, (h.2 (fun i => imm i ∨ Own L i) w vs (hC.mono _ _ _ _ hG (fun _ => .inl) (fun _ _ => rfl)) ⟨by simp, by simp, fun g hg => (hnone g hg).elim, fun g hg => (hnone g hg).elim, hlt'⟩ (by omega) (fun j y v hy hvj => ?_)).mono ?_⟩
    · have hj : j < args.length := by rw [hlen]; exact (List.getElem?_eq_some_iff.1 hy).1
      exact (hat j args[j] y (List.getElem?_eq_getElem hj) hy).VR hs (hv j _ v (List.getElem?_eq_getElem hj) hvj)
    · rintro e w' ⟨v, r, L', imm', rfl, hr, hs', ht, hq⟩
      obtain ⟨hsc, hk⟩ := k r L' hq
      have hold : ∀ i, i < w.heap.size → w'.heap[i]? = w.heap[i]? := fun i hi => ht.block i hi (hnone i)
      refine ⟨v, r, L, imm, rfl, hr.of_scals hsc, ?_, ?_, hk⟩
      · exact ⟨fun j g o hj ho => (hs.holds j g o hj ho).mono (fun _ x => x) (fun i hi => hold i (hs.immlt i hi)) (hold g (hs.lt g ⟨j, o, hj, ho⟩)), hs.apart, hs.far, fun g hg => Nat.lt_of_lt_of_le (hs.lt g hg) ht.size, fun g hg => Nat.lt_of_lt_of_le (hs.immlt g hg) ht.size⟩
      · exact ⟨ht.os, ht.tape, ht.output, ht.size, fun i hi _ => hold i hi, fun _ h => h, fun _ h => .inl h, fun _ h => .inl h⟩

end Go.Proofs.YtfohedaadncefaaDoor.HB
