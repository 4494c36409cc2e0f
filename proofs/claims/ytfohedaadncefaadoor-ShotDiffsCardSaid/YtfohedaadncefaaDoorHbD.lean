/- Pointers and stores of the abstract machine: what lies behind an abstract pointer, and what a store through it leaves. -/
import Derived.Test.YtfohedaadncefaaDoorHbC
namespace Go.Proofs.YtfohedaadncefaaDoor.HB
open Go

/-! ### Lists of elements and their cells -/
theorem flats_nil : flats [] = [] := rfl
theorem flats_cons (x : AV) (xs : List AV) : flats (x :: xs) = flat x ++ flats xs := by simp [flats]
theorem flats_append (xs ys : List AV) : flats (xs ++ ys) = flats xs ++ flats ys := by simp [flats]
theorem flats_length {sz : Nat} {xs : List AV} (h : ∀ x ∈ xs, (flat x).length = sz) : (flats xs).length = xs.length * sz := by
  induction xs with
  | nil => simp [flats]
  | cons x xs ih => rw [flats_cons, List.length_append, h x (by simp), ih (fun y hy => h y (by simp [hy])), List.length_cons, Nat.succ_mul]; omega
theorem flats_at {sz : Nat} : ∀ {xs : List AV} (_ : ∀ x ∈ xs, (flat x).length = sz) {i : Nat} {x : AV}, xs[i]? = some x → ((flats xs).drop (i * sz)).take sz = flat x
  | [], _, i, x, hi => by simp at hi
  | y :: ys, h, 0, x, hi => by
    simp at hi
    subst hi
    rw [flats_cons, Nat.zero_mul, List.drop_zero, List.take_left' (h y (by simp))]
  | y :: ys, h, i + 1, x, hi => by
    have hy := h y (by simp)
    rw [flats_cons, Nat.succ_mul, Nat.add_comm (i * sz) sz, ← List.drop_drop, List.drop_left' hy]
    exact flats_at (fun z hz => h z (by simp [hz])) (by simpa using hi)
theorem flats_set {sz : Nat} : ∀ {xs : List AV} (_ : ∀ x ∈ xs, (flat x).length = sz) {i : Nat} (_ : i < xs.length) (x' : AV), flats (xs.set i x') = (flats xs).take (i * sz) ++ flat x' ++ (flats xs).drop (i * sz + sz)
  | [], _, i, hi, x' => by simp at hi
  | y :: ys, h, 0, hi, x' => by
    rw [List.set_cons_zero, flats_cons, flats_cons, Nat.zero_mul, List.take_zero, Nat.zero_add, List.drop_left' (h y (by simp))]
    rfl
  | y :: ys, h, i + 1, hi, x' => by
    have hy := h y (by simp)
    rw [List.set_cons_succ, flats_cons, flats_cons, flats_set (fun z hz => h z (by simp [hz])) (by simpa using hi) x', Nat.succ_mul]
    have e1 : (flat y ++ flats ys).take (i * sz + sz) = flat y ++ (flats ys).take (i * sz) := by
      rw [List.take_append, hy, List.take_of_length_le (by omega)]
      congr 1; congr 1; omega
    have e2 : (flat y ++ flats ys).drop (i * sz + sz + sz) = (flats ys).drop (i * sz + sz) := by
      rw [List.drop_append, hy, List.drop_of_length_le (by omega), List.nil_append]
      congr 1; omega
    rw [e1, e2]
    simp

def splice (cs : List AV) (off : Nat) (new : List AV) : List AV := cs.take off ++ new ++ cs.drop (off + new.length)
theorem splice_length {cs new : List AV} {off : Nat} (h : off + new.length ≤ cs.length) : (splice cs off new).length = cs.length := by
  simp [splice]; omega
/-- An element, some of its cells written. -/
def unflat : AV → List AV → AV
  | .agg _, cs => .agg cs
  | _, [c] => c
  | _, _ => .junk
/-- A value that is one cell for sure. -/
def isCell : AV → Bool
  | .junk | .agg _ | .tuple _ => false
  | .any v => v.oneCell'
  | _ => true
theorem isCell_one {imm : Nat → Prop} {w : World} {x : AV} {v : Value} (h : VR imm w x v) (hc : isCell x = true) : v.oneCell' = true := by
  cases h <;> first | rfl | (simp [isCell] at hc; done) | simpa [isCell] using hc
/-- The cells of a value to be stored. -/
def cellsA : AV → Option (List AV)
  | .agg xs => some xs
  | x => if isCell x then some [x] else none
theorem cellsA_flat {x : AV} {cs : List AV} (h : cellsA x = some cs) : flat x = cs := by
  unfold cellsA at h
  split at h
  · cases h; rfl
  · rename_i hn
    split at h
    · cases h
      cases x <;> first | rfl | exact absurd rfl (hn _)
    · cases h
theorem cellsA_VRs {imm : Nat → Prop} {w : World} {x : AV} {v : Value} {cs : List AV} (h : VR imm w x v) (hc : cellsA x = some cs) : VRs imm w cs v.cells.toList := by
  rw [← cellsA_flat hc]
  refine h.flat_cells ?_
  cases x with
  | agg xs => exact .inr ⟨xs, rfl⟩
  | _ =>
    refine .inl (isCell_one h ?_)
    first
      | rfl
      | (simp only [cellsA] at hc
         split at hc
         · assumption
         · cases hc)

theorem VRs.splice {imm : Nat → Prop} {w : World} {cs new : List AV} {vs us : List Value} (h : VRs imm w cs vs) (k : VRs imm w new us) (off : Nat) :
    VRs imm w (splice cs off new) (vs.take off ++ us ++ vs.drop (off + us.length)) := by
  unfold HB.splice
  rw [← k.len]
  exact ((h.take off).append k).append (h.drop _)

/-- What lies behind a pointer: cells from there on. -/
def aptr (L : AHeap) (p : AV) (K : List AV → Prop) : Prop :=
  match p with
  | .ptr k g off => match L[k]? with
    | some (g', .cells _ cs) => g' = g ∧ K (cs.drop off)
    | _ => False
  | .el k g C sz i off => match L[k]? with
    | some (g', .row _ sz' C' xs) => g' = g ∧ C' = C ∧ sz' = sz ∧ ∃ x, xs[i]? = some x ∧ K ((flat x).drop off)
    | _ => False
  | .rel cs => K cs
  | _ => False

theorem cell_at {w : World} {g : Nat} {vs : List Value} {t : TypeId} (hg : w.heap[g]? = some (.cells vs.toArray t (0, 0))) (off : Nat) (j : Nat) (u : Value) (h : (vs.drop off)[j]? = some u) : w.cell? ((⟨g, off, none⟩ : Addr).add j) = some u := by
  have e : (⟨g, off, none⟩ : Addr).add j = ⟨g, off + j, none⟩ := by unfold Addr.add; split <;> simp_all
  rw [e, cell_of_row w g (off + j) _ t (0, 0) hg]
  rw [List.getElem?_drop] at h
  simpa using h

theorem aptr_sound {imm : Nat → Prop} {w : World} {L : AHeap} (hs : Sat imm w L) {p : AV} {v : Value} (hp : VR imm w p v) {K : List AV → Prop} (h : aptr L p K) :
    ∃ a cs vs, v = .pointer (some a) ∧ K cs ∧ VRs imm w cs vs ∧ (imm a.block ∨ Own L a.block) ∧ ∀ (j : Nat) (u : Value), vs[j]? = some u → w.cell? (a.add j) = some u := by
  cases hp with
  | ptr k g off =>
    simp only [aptr] at h
    split at h
    · rename_i g' t cs hk
      obtain ⟨rfl, h⟩ := h
      cases hs.holds k g' _ hk trivial with
      | cells _ _ vs hg hv => exact ⟨_, _, vs.drop off, rfl, h, hv.drop off, .inr ⟨k, _, hk, trivial⟩, fun j u hj => cell_at hg off j u hj⟩
    · exact h.elim
  | el k g C sz i off =>
    simp only [aptr] at h
    split at h
    · rename_i g' e sz' C' xs hk
      obtain ⟨rfl, rfl, rfl, x, hx, h⟩ := h
      cases hs.holds k g' _ hk trivial with
      | row _ _ _ _ vs spare hg hs0 hsz hC hm hxl hv =>
        have h1 := hv.drop (i * sz')
        have h2 := h1.take sz'
        rw [flats_at hsz hx] at h2
        refine ⟨_, _, _, rfl, h, h2.drop off, .inr ⟨k, _, hk, trivial⟩, fun j u hj => ?_⟩
        refine cell_at hg (i * sz' + off) j u ?_
        rw [List.getElem?_drop] at hj ⊢
        rw [List.getElem?_take] at hj
        split at hj
        · rw [List.getElem?_drop] at hj
          rw [← hj, show i * sz' + off + j = i * sz' + (off + j) from by omega]
          have hlt : i * sz' + (off + j) < vs.length := (List.getElem?_eq_some_iff.1 hj).1
          rw [List.getElem?_append_left hlt]
        · cases hj
    · exact h.elim
  | rel cs a vs hi hl hc h1 hv => exact ⟨a, cs, vs, rfl, h, ⟨hl, h1, hv⟩, .inl hi, hc⟩
  | _ => exact h.elim

/-- A store through a pointer: the heap behind it. -/
def astore (L : AHeap) (p : AV) (new : List AV) (K : AHeap → Prop) : Prop :=
  match p with
  | .ptr k g off => match L[k]? with
    | some (g', .cells t cs) => g' = g ∧ off + new.length ≤ cs.length ∧ K (L.set k (g, .cells t (splice cs off new)))
    | _ => False
  | .el k g C sz i off => match L[k]? with
    | some (g', .row e sz' C' xs) => g' = g ∧ C' = C ∧ sz' = sz ∧ ∃ x, xs[i]? = some x ∧ off + new.length ≤ (flat x).length ∧ flat (unflat x (splice (flat x) off new)) = splice (flat x) off new ∧
        K (L.set k (g, .row e sz' C' (xs.set i (unflat x (splice (flat x) off new)))))
    | _ => False
  | _ => False

theorem grownBy_setRow (w : World) (g : Nat) (cs : Array Value) : w.grownBy (w.setRow g cs) (some g) :=
  ⟨rfl, rfl, rfl, by simp, fun k _ hk => setRow_other w g k _ (fun e => hk (by rw [e]))⟩

theorem VRs.setRow {imm : Nat → Prop} {w : World} {xs : List AV} {vs : List Value} (h : VRs imm w xs vs) {g : Nat} (hg : ¬ imm g) (cs : Array Value) : VRs imm (w.setRow g cs) xs vs :=
  h.mono (fun _ x => x) (fun a ha => World.cell?_of_block (setRow_other w g a.block cs (fun e => hg (e ▸ ha))))

theorem astore_sound {P : Program} {imm : Nat → Prop} {w : World} {L : AHeap} (hs : Sat imm w L) {p : AV} {v : Value} (hp : VR imm w p v) {new : List AV} {us : List Value} (hu : VRs imm w new us) {K : AHeap → Prop} (h : astore L p new K) :
    ∃ a L' w', v = .pointer (some a) ∧ K L' ∧ (storeCells a us).run P w = .ok () w' ∧ Sat imm w' L' ∧ Tr (Own L) imm w (Own L') imm w' := by
  have hl := hu.len
  cases hp with
  | ptr k g off =>
    simp only [astore] at h
    split at h
    · rename_i g' t cs hk
      obtain ⟨rfl, hle, h⟩ := h
      have hfar := hs.far g' ⟨k, _, hk, trivial⟩
      cases hs.holds k g' _ hk trivial with
      | cells _ _ vs hg hv =>
        have hvl := hv.len
        have hr := run_storeCells_at P g' off t us 0 vs.toArray w hg (by simp; omega) hu.one
        simp only [Nat.add_zero] at hr
        refine ⟨_, _, _, rfl, h, hr, hs.turn hk trivial (by simp) (fun i _ hi => setRow_other w g' i _ hi) (.inl rfl) ?_, Tr.turn hk trivial (grownBy_setRow w g' _) (.inl rfl)⟩
        exact .cells t _ _ (setRow_heap w g' _ _ t _ hg) ((hv.splice hu off).setRow hfar _)
    · exact h.elim
  | el k g C sz i off =>
    simp only [astore] at h
    split at h
    · rename_i g' e sz' C' xs hk
      obtain ⟨rfl, rfl, rfl, x, hx, hle, hfl, h⟩ := h
      have hfar := hs.far g' ⟨k, _, hk, trivial⟩
      cases hs.holds k g' _ hk trivial with
      | row _ _ _ _ vs spare hg hs0 hsz hC hm hxl hv =>
        have hvl := hv.len
        have hil : i < xs.length := (List.getElem?_eq_some_iff.1 hx).1
        have hxm : x ∈ xs := List.mem_of_getElem? hx
        have hxs := hsz x hxm
        have hfll := flats_length hsz
        have hmul : i * sz' + sz' ≤ xs.length * sz' := by rw [← Nat.succ_mul]; exact Nat.mul_le_mul_right _ hil
        have hpl : i * sz' + off + us.length ≤ vs.length := by omega
        have hr := run_storeCells_at P g' (i * sz' + off) e us 0 (vs ++ spare).toArray w hg (by simp; omega) hu.one
        simp only [Nat.add_zero] at hr
        refine ⟨_, _, _, rfl, h, hr, hs.turn hk trivial (by simp) (fun i _ hi => setRow_other w g' i _ hi) (.inl rfl) ?_, Tr.turn hk trivial (grownBy_setRow w g' _) (.inl rfl)⟩
        have hlist : (vs ++ spare).take (i * sz' + off) ++ us ++ (vs ++ spare).drop (i * sz' + off + us.length) = (vs.take (i * sz' + off) ++ us ++ vs.drop (i * sz' + off + us.length)) ++ spare := by
          rw [List.take_append_of_le_length (by omega), List.drop_append_of_le_length (by omega)]
          simp
        have hset : flats (xs.set i (unflat x (splice (flat x) off new))) = splice (flats xs) (i * sz' + off) new := by
          rw [flats_set hsz hil, hfl]
          have hat := flats_at hsz hx
          unfold splice
          have e1 : (flats xs).take (i * sz' + off) = (flats xs).take (i * sz') ++ (flat x).take off := by
            rw [List.take_add, ← hat, List.take_take, Nat.min_eq_left (by omega)]
          have e2 : (flats xs).drop (i * sz' + off + new.length) = (flat x).drop (off + new.length) ++ (flats xs).drop (i * sz' + sz') := by
            rw [show i * sz' + off + new.length = i * sz' + (off + new.length) from by omega, ← List.drop_drop, ← List.drop_drop (i := sz'), ← hat]
            conv => lhs; rw [← List.take_append_drop sz' ((flats xs).drop (i * sz'))]
            rw [List.drop_append_of_le_length (by rw [hat]; omega)]
          rw [e1, e2]
          simp
        have hfin := (hv.splice hu (i * sz' + off)).setRow hfar ((vs ++ spare).take (i * sz' + off) ++ us ++ (vs ++ spare).drop (i * sz' + off + us.length)).toArray
        rw [← hset] at hfin
        refine .row e sz' C' _ _ spare ?_ hs0 (fun y hy => ?_) ?_ hm (by simp; exact hxl) hfin
        · rw [← hlist]
          simpa using setRow_heap w g' _ _ e _ hg
        · rcases List.mem_or_eq_of_mem_set hy with hy | rfl
          · exact hsz y hy
          · rw [hfl, splice_length hle, hxs]
        · rw [← hC]
          simp
          omega
    · exact h.elim
  | _ => exact h.elim

end Go.Proofs.YtfohedaadncefaaDoor.HB
