/- The abstract values and heap of the abstract machine, and what they say of the model's own: values, objects, worlds. -/
import Derived.WalkKit
namespace Go.Proofs.YtfohedaadncefaaDoor.HB
open Go

/-- An abstract value: what is known of a value of the model. -/
inductive AV where
  | junk
  | bool (b : Bool)
  | int (k : IntKind) (n : Int)
  | str (s : ByteArray)
  | nilp
  | ptr (k g off : Nat)
  | el (k g C sz i off : Nat)
  | rel (cs : List AV)
  | nils
  | sl (k g C n : Nat)
  | ro (sz : Nat) (xs : List AV) (n : Nat)
  | agg (xs : List AV)
  | tuple (xs : List AV)
  | any (v : Value)

/-- A value's cells. -/
def flat : AV → List AV
  | .agg xs => xs
  | x => [x]
def flats (xs : List AV) : List AV := xs.flatMap flat

/-- What an abstract value says of a value: 'imm': the blocks that nobody writes. -/
inductive VR (imm : Nat → Prop) (w : World) : AV → Value → Prop where
  | junk (v : Value) : VR imm w .junk v
  | bool (b : Bool) : VR imm w (.bool b) (.bool b)
  | int (k : IntKind) (n : Int) : VR imm w (.int k n) (.int k n)
  | str (s : ByteArray) : VR imm w (.str s) (.string s)
  | nilp : VR imm w .nilp (.pointer none)
  | ptr (k g off : Nat) : VR imm w (.ptr k g off) (.pointer (some ⟨g, off, none⟩))
  | el (k g C sz i off : Nat) : VR imm w (.el k g C sz i off) (.pointer (some ⟨g, i * sz + off, none⟩))
  | rel (cs : List AV) (a : Addr) (vs : List Value) (hi : imm a.block) (hl : vs.length = cs.length)
      (hc : ∀ (j : Nat) (u : Value), vs[j]? = some u → w.cell? (a.add j) = some u) (h1 : ∀ u ∈ vs, u.oneCell' = true)
      (hv : ∀ (j : Nat) (y : AV) (u : Value), cs[j]? = some y → vs[j]? = some u → VR imm w y u) : VR imm w (.rel cs) (.pointer (some a))
  | nils : VR imm w .nils (.slice none 0 0)
  | sl (k g C n : Nat) : VR imm w (.sl k g C n) (.slice (some ⟨g, 0, none⟩) n C)
  | ro (sz : Nat) (xs : List AV) (n : Nat) (A : Option Addr) (cap : Nat) (vs : List Value) (hn : n ≤ xs.length) (hcap : xs.length ≤ cap)
      (hsz : ∀ x ∈ xs, (flat x).length = sz) (hl : vs.length = (flats xs).length)
      (ha : 0 < xs.length → ∃ a, A = some a ∧ imm a.block ∧ ∀ (j : Nat) (u : Value), vs[j]? = some u → w.cell? (a.add j) = some u)
      (h1 : ∀ u ∈ vs, u.oneCell' = true)
      (hv : ∀ (j : Nat) (y : AV) (u : Value), (flats xs)[j]? = some y → vs[j]? = some u → VR imm w y u) : VR imm w (.ro sz xs n) (.slice A n cap)
  | agg (xs : List AV) (vs : List Value) (hl : vs.length = xs.length) (h1 : ∀ u ∈ vs, u.oneCell' = true)
      (hv : ∀ (j : Nat) (y : AV) (u : Value), xs[j]? = some y → vs[j]? = some u → VR imm w y u) : VR imm w (.agg xs) (.agg vs.toArray)
  | tuple (xs : List AV) (vs : List Value) (hl : vs.length = xs.length)
      (hv : ∀ (j : Nat) (y : AV) (u : Value), xs[j]? = some y → vs[j]? = some u → VR imm w y u) : VR imm w (.tuple xs) (.tuple vs.toArray)
  | any (v : Value) : VR imm w (.any v) v

theorem VR.mono {imm imm' : Nat → Prop} {w w' : World} (hi : ∀ g, imm g → imm' g) (hc : ∀ a : Addr, imm a.block → w'.cell? a = w.cell? a) {x : AV} {v : Value} (h : VR imm w x v) : VR imm' w' x v := by
  induction h with
  | junk v => exact .junk v
  | bool b => exact .bool b
  | int k n => exact .int k n
  | str s => exact .str s
  | nilp => exact .nilp
  | ptr k g off => exact .ptr k g off
  | el k g C sz i off => exact .el k g C sz i off
  | rel cs a vs h0 hl hcc h1 hv ih =>
    exact .rel cs a vs (hi _ h0) hl (fun j u hj => by rw [hc _ (by rw [show (a.add j).block = a.block by unfold Addr.add; split <;> rfl]; exact h0)]; exact hcc j u hj) h1 ih
  | nils => exact .nils
  | sl k g C n => exact .sl k g C n
  | ro sz xs n A cap vs hn hcap hsz hl ha h1 hv ih =>
    refine .ro sz xs n A cap vs hn hcap hsz hl (fun hp => ?_) h1 ih
    obtain ⟨a, e, h0, hcc⟩ := ha hp
    exact ⟨a, e, hi _ h0, fun j u hj => by rw [hc _ (by rw [show (a.add j).block = a.block by unfold Addr.add; split <;> rfl]; exact h0)]; exact hcc j u hj⟩
  | agg xs vs hl h1 hv ih => exact .agg xs vs hl h1 ih
  | tuple xs vs hl hv ih => exact .tuple xs vs hl ih
  | any v => exact .any v

/-- Cells: what is known of each, and that each is one. -/
structure VRs (imm : Nat → Prop) (w : World) (xs : List AV) (vs : List Value) : Prop where
  len : vs.length = xs.length
  one : ∀ u ∈ vs, u.oneCell' = true
  at_ : ∀ (j : Nat) (y : AV) (u : Value), xs[j]? = some y → vs[j]? = some u → VR imm w y u

theorem VRs.mono {imm imm' : Nat → Prop} {w w' : World} {xs : List AV} {vs : List Value} (h : VRs imm w xs vs) (hi : ∀ g, imm g → imm' g) (hc : ∀ a : Addr, imm a.block → w'.cell? a = w.cell? a) : VRs imm' w' xs vs :=
  ⟨h.len, h.one, fun j y u hy hu => (h.at_ j y u hy hu).mono hi hc⟩
theorem VRs.nil (imm : Nat → Prop) (w : World) : VRs imm w [] [] := ⟨rfl, by simp, by simp⟩
theorem VRs.cons {imm : Nat → Prop} {w : World} {x : AV} {v : Value} {xs : List AV} {vs : List Value} (h1 : v.oneCell' = true) (hx : VR imm w x v) (h : VRs imm w xs vs) : VRs imm w (x :: xs) (v :: vs) := by
  refine ⟨by simp [h.len], fun u hu => ?_, fun j y u hy hu => ?_⟩
  · rcases List.mem_cons.1 hu with rfl | hu
    · exact h1
    · exact h.one u hu
  · cases j with
    | zero => simp at hy hu; subst hy; subst hu; exact hx
    | succ j => exact h.at_ j y u (by simpa using hy) (by simpa using hu)
theorem VRs.append {imm : Nat → Prop} {w : World} {xs ys : List AV} {vs us : List Value} (h : VRs imm w xs vs) (k : VRs imm w ys us) : VRs imm w (xs ++ ys) (vs ++ us) := by
  refine ⟨by simp [h.len, k.len], fun u hu => ?_, fun j y u hy hu => ?_⟩
  · rcases List.mem_append.1 hu with hu | hu
    · exact h.one u hu
    · exact k.one u hu
  · by_cases hj : j < xs.length
    · rw [List.getElem?_append_left hj] at hy
      rw [List.getElem?_append_left (by rw [h.len]; exact hj)] at hu
      exact h.at_ j y u hy hu
    · rw [List.getElem?_append_right (by omega)] at hy
      rw [List.getElem?_append_right (by rw [h.len]; omega)] at hu
      rw [h.len] at hu
      exact k.at_ _ y u hy hu
theorem VRs.take {imm : Nat → Prop} {w : World} {xs : List AV} {vs : List Value} (h : VRs imm w xs vs) (n : Nat) : VRs imm w (xs.take n) (vs.take n) := by
  refine ⟨by simp [h.len], fun u hu => h.one u (List.mem_of_mem_take hu), fun j y u hy hu => ?_⟩
  rw [List.getElem?_take] at hy hu
  split at hy
  · rename_i hj; rw [if_pos hj] at hu; exact h.at_ j y u hy hu
  · cases hy
theorem VRs.drop {imm : Nat → Prop} {w : World} {xs : List AV} {vs : List Value} (h : VRs imm w xs vs) (n : Nat) : VRs imm w (xs.drop n) (vs.drop n) := by
  refine ⟨by simp [h.len], fun u hu => h.one u (List.mem_of_mem_drop hu), fun j y u hy hu => ?_⟩
  rw [List.getElem?_drop] at hy hu
  exact h.at_ _ y u hy hu
theorem VRs.set {imm : Nat → Prop} {w : World} {xs : List AV} {vs : List Value} (h : VRs imm w xs vs) {x : AV} {v : Value} (h1 : v.oneCell' = true) (hx : VR imm w x v) (n : Nat) : VRs imm w (xs.set n x) (vs.set n v) := by
  refine ⟨by simp [h.len], fun u hu => ?_, fun j y u hy hu => ?_⟩
  · rcases List.mem_or_eq_of_mem_set hu with hu | rfl
    · exact h.one u hu
    · exact h1
  · rw [List.getElem?_set] at hy hu
    have hl := h.len
    by_cases e : n = j
    · subst e
      rw [if_pos rfl] at hy hu
      split at hy
      · rename_i hlt
        rw [if_pos (by omega)] at hu
        cases hy; cases hu; exact hx
      · cases hy
    · rw [if_neg e] at hy hu
      exact h.at_ j y u hy hu
theorem VRs.get {imm : Nat → Prop} {w : World} {xs : List AV} {vs : List Value} (h : VRs imm w xs vs) {j : Nat} {y : AV} (hy : xs[j]? = some y) : ∃ u, vs[j]? = some u ∧ u.oneCell' = true ∧ VR imm w y u := by
  obtain ⟨hj, _⟩ := List.getElem?_eq_some_iff.1 hy
  have hj' : j < vs.length := by rw [h.len]; exact hj
  have e : vs[j]? = some vs[j] := List.getElem?_eq_getElem hj'
  exact ⟨vs[j], e, h.one _ (List.getElem_mem hj'), h.at_ j y _ hy e⟩

/-- A value that is one cell, or the cells of a struct or an array. -/
theorem VR.flat_cells {imm : Nat → Prop} {w : World} {x : AV} {v : Value} (h : VR imm w x v) (ho : v.oneCell' = true ∨ ∃ xs, x = .agg xs) : VRs imm w (flat x) v.cells.toList := by
  cases h with
  | agg xs vs hl h1 hv => exact ⟨by simpa [Value.cells, flat] using hl, fun u hu => h1 u (by simpa [Value.cells] using hu), fun j y u hy hu => hv j y u (by simpa [flat] using hy) (by simpa [Value.cells] using hu)⟩
  | _ =>
    rcases ho with h1 | ⟨xs, e⟩
    · first
        | (have e1 : ∀ y : Value, y.oneCell' = true → y.cells.toList = [y] := fun y hy => by cases y <;> simp_all [Value.cells, Value.oneCell']
           rw [e1 _ h1]
           exact .cons h1 (by constructor <;> assumption) (.nil _ _))
    · cases e

end Go.Proofs.YtfohedaadncefaaDoor.HB
