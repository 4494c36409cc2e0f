/- What comes in: an argument's reading, as the abstract machine knows it. -/
import Derived.Test.YtfohedaadncefaaDoorHbN
import Derived.ProofKit
import Derived.Deep.Slices
namespace Go.Proofs.YtfohedaadncefaaDoor.HB
open Go

/-- An element of a slice: told whole where it is of several cells by kind. -/
def wrapC (agg : Bool) (c : List AV) : AV := if agg then .agg c else match c with
  | [x] => x
  | c => .agg c

/-- What a type's cells can be. -/
inductive CellsOk (P : Program) : TypeId → List AV → Prop where
  | int {t : TypeId} {k : IntKind} (h : P.underlying t = some (.int k)) (n : Int) (hw : (Lit.int k n).wf = true) : CellsOk P t [.int k n]
  | bool {t : TypeId} (h : P.underlying t = some .bool) (b : Bool) : CellsOk P t [.bool b]
  | str {t : TypeId} (h : P.underlying t = some .string) (s : ByteArray) (hs : s.size ≤ maxLen) : CellsOk P t [.str s]
  | struct {t : TypeId} {fs : Array Field} (h : P.underlying t = some (.struct fs)) (yss : List (List AV)) (hl : yss.length = fs.toList.length)
      (hf : ∀ (i : Nat) (f : Field) (y : List AV), fs.toList[i]? = some f → yss[i]? = some y → CellsOk P f.type y) : CellsOk P t yss.flatten
  | slice {t e : TypeId} (h : P.underlying t = some (.slice e)) (xss : List (List AV)) (n : Nat) (hn : n ≤ xss.length) (hm : xss.length ≤ maxLen) (hx : ∀ c ∈ xss, CellsOk P e c) : CellsOk P t [.ro (P.cellsOf e) (xss.map (wrapC (aggT P e))) n]

/-- The fields, one behind the other, cell by cell. -/
def tiles (P : Program) : List Field → Nat → Nat → Bool
  | [], off, n => off == n
  | f :: fs, off, n => f.offset == off && tiles P fs (off + P.cellsOf f.type) n
def suppT (P : Program) : Nat → TypeId → Bool
  | 0, _ => false
  | d + 1, t => match P.underlying t with
    | some (.int _) | some .bool | some .string => true
    | some (.struct fs) => fs.toList.all (fun f => suppT P d f.type) && tiles P fs.toList 0 (P.cellsOf t)
    | some (.slice e) => suppT P d e && decide (0 < P.cellsOf e)
    | _ => false

theorem tiles_le {P : Program} : ∀ {fs : List Field} {off n : Nat}, tiles P fs off n = true → off ≤ n
  | [], off, n, h => by simp only [tiles, beq_iff_eq] at h; omega
  | f :: fs, off, n, h => by
    simp only [tiles, Bool.and_eq_true] at h
    have := tiles_le h.2
    omega

theorem wrapC_flat (agg : Bool) (c : List AV) (h : ∀ x ∈ c, ∀ xs, x ≠ .agg xs) : flat (wrapC agg c) = c := by
  unfold wrapC
  split
  · rfl
  · split
    · rename_i x
      have := h x (by simp)
      cases x <;> first | rfl | exact absurd rfl (this _)
    · rfl

/-- No cell is told as several. -/
def flatC (c : List AV) : Prop := ∀ x ∈ c, ∀ xs, x ≠ AV.agg xs

theorem flatC_nil : flatC [] := by intro x hx; cases hx
theorem flatC_append {a b : List AV} (h : flatC a) (k : flatC b) : flatC (a ++ b) := fun x hx => (List.mem_append.1 hx).elim (h x) (k x)

theorem trod_fields {H : Type} {enc : TypeId × Value → H} {P : Program} {w : World} {spare : Nat → Bool} {held : Bool} {d fuel : Nat} {cs : List Value} {n : Nat} {imm : Nat → Prop}
    (ih : ∀ (t : TypeId) (cs : List Value) (x : DataW H × List MemPlace), suppT P d t = true → DataW.trod enc P w 0 spare held fuel t cs = some x → ∃ ys, CellsOk P t ys ∧ flatC ys ∧ VRs imm w ys cs) (hn : cs.length = n) :
    ∀ (l : List Field) (off : Nat), tiles P l off n = true → l.all (fun f => suppT P d f.type) = true → (∀ (i : Nat) (f : Field), l[i]? = some f → ∃ x, DataW.trod enc P w 0 spare held fuel f.type ((cs.drop f.offset).take (P.cellsOf f.type)) = some x) →
    ∃ yss : List (List AV), yss.length = l.length ∧ (∀ (i : Nat) (f : Field) (y : List AV), l[i]? = some f → yss[i]? = some y → CellsOk P f.type y) ∧ flatC yss.flatten ∧ VRs imm w yss.flatten (cs.drop off) := by
  intro l
  induction l with
  | nil =>
    intro off ht _ _
    simp only [tiles, beq_iff_eq] at ht
    refine ⟨[], rfl, by simp, flatC_nil, ?_⟩
    rw [List.drop_of_length_le (by omega)]
    exact .nil _ _
  | cons f l ihl =>
    intro off ht hs hx
    simp only [tiles, Bool.and_eq_true, beq_iff_eq] at ht
    simp only [List.all_cons, Bool.and_eq_true] at hs
    obtain ⟨hoff, ht⟩ := ht
    obtain ⟨x, hx0⟩ := hx 0 f rfl
    obtain ⟨ys, h1, h2, h3⟩ := ih f.type _ x hs.1 hx0
    obtain ⟨yss, k1, k2, k3, k4⟩ := ihl _ ht hs.2 (fun i f' hf => hx (i + 1) f' hf)
    refine ⟨ys :: yss, by simp [k1], fun i f' y hf hy => ?_, ?_, ?_⟩
    · cases i with
      | zero => simp at hf hy; subst hf; subst hy; exact h1
      | succ i => exact k2 i f' y (by simpa using hf) (by simpa using hy)
    · rw [List.flatten_cons]; exact flatC_append h2 k3
    · rw [List.flatten_cons]
      have e : cs.drop off = (cs.drop f.offset).take (P.cellsOf f.type) ++ cs.drop (off + P.cellsOf f.type) := by
        rw [hoff, ← List.drop_drop, List.take_append_drop]
      rw [e]
      exact h3.append k4

theorem trod_cells {H : Type} {enc : TypeId × Value → H} {P : Program} {w : World} {spare : Nat → Bool} {held : Bool} (hsp : ∀ b, spare b = true) : ∀ (d : Nat) (fuel : Nat) (t : TypeId) (cs : List Value) (x : DataW H × List MemPlace), suppT P d t = true → DataW.trod enc P w 0 spare held fuel t cs = some x →
    ∃ ys, CellsOk P t ys ∧ flatC ys ∧ VRs (fun g => g < w.heap.size) w ys cs := by
  intro d
  induction d with
  | zero => intro _ t cs x h; cases h
  | succ d ih =>
    intro fuel t cs x hs h
    unfold suppT at hs
    split at hs
    · rename_i k hu
      obtain ⟨n, rfl, _, hw⟩ := DataW.trod_int hu h
      exact ⟨_, .int hu n hw, by intro x hx xs; simp at hx; subst hx; simp, .cons rfl (.int k n) (.nil _ _)⟩
    · rename_i hu
      obtain ⟨b, rfl, _⟩ := DataW.trod_bool hu h
      exact ⟨_, .bool hu b, by intro x hx xs; simp at hx; subst hx; simp, .cons rfl (.bool b) (.nil _ _)⟩
    · rename_i hu
      obtain ⟨s, rfl, _, hl⟩ := DataW.trod_string hu h
      exact ⟨_, .str hu s hl, by intro x hx xs; simp at hx; subst hx; simp, .cons rfl (.str s) (.nil _ _)⟩
    · rename_i fs hu
      simp only [Bool.and_eq_true] at hs
      obtain ⟨xs, n, rfl, _, hlen, hxl, hx⟩ := DataW.trod_struct hu h
      obtain ⟨yss, k1, k2, k3, k4⟩ := trod_fields (ih n) hlen fs.toList 0 hs.2 hs.1 (fun i f hf => by
        have hlt : i < xs.length := by rw [hxl]; simpa using (List.getElem?_eq_some_iff.1 hf).1
        exact ⟨xs[i], by rw [hx i f (by simpa using hf)]; exact List.getElem?_eq_getElem hlt⟩)
      exact ⟨_, .struct hu yss k1 k2, k3, by simpa using k4⟩
    · rename_i e hu
      simp only [Bool.and_eq_true, decide_eq_true_eq] at hs
      rcases Deep.open_slice hu h with ⟨rfl, _⟩ | ⟨a, len, cap, m, n, D, Pl, rfl, _, hlc, hcm, hm, _, hel⟩
      · refine ⟨[.ro (P.cellsOf e) [] 0], .slice hu [] 0 (Nat.le_refl _) (Nat.zero_le _) (by simp), by intro x hx xs; simp at hx; subst hx; simp, .cons rfl ?_ (.nil _ _)⟩
        exact .ro (P.cellsOf e) [] 0 none 0 [] (by simp) (by simp) (by simp) rfl (by simp) (by simp) (by simp)
      · rw [hsp, if_pos rfl] at hm
        subst hm
        have hch : ∀ i : Nat, ∃ z : List Value × List AV, i < m → w.cells? 0 (a.add (i * P.cellsOf e)) (P.cellsOf e) = some z.1 ∧ CellsOk P e z.2 ∧ flatC z.2 ∧ VRs (fun g => g < w.heap.size) w z.2 z.1 := fun i => by
          by_cases hi : i < m
          · obtain ⟨cs', h1, h2⟩ := hel i hi
            obtain ⟨ys, k1, k2, k3⟩ := ih n e cs' _ hs.1 h2
            exact ⟨(cs', ys), fun _ => ⟨h1, k1, k2, k3⟩⟩
          · exact ⟨([], []), fun h => absurd h hi⟩
        obtain ⟨F, hF⟩ := Classical.axiomOfChoice hch
        have hlen : ∀ i, i < m → (F i).1.length = P.cellsOf e := fun i hi => (World.cells?_some (hF i hi).1).2.1
        have key : ∀ k, k ≤ m → (((List.range k).map fun i => (F i).1).flatten).length = k * P.cellsOf e ∧ VRs (fun g => g < w.heap.size) w (((List.range k).map fun i => (F i).2).flatten) (((List.range k).map fun i => (F i).1).flatten) ∧
            ∀ (j : Nat) (u : Value), (((List.range k).map fun i => (F i).1).flatten)[j]? = some u → w.cell? (a.add j) = some u := by
          intro k
          induction k with
          | zero => intro _; exact ⟨by simp, .nil _ _, by simp⟩
          | succ k ihk =>
            intro hk
            obtain ⟨l1, l2, l3⟩ := ihk (by omega)
            rw [List.range_succ, List.map_append, List.map_append, List.flatten_append, List.flatten_append]
            simp only [List.map_cons, List.map_nil, List.flatten_cons, List.flatten_nil, List.append_nil]
            refine ⟨by rw [List.length_append, l1, hlen k (by omega), Nat.succ_mul], l2.append (hF k (by omega)).2.2.2, fun j u hj => ?_⟩
            by_cases hjl : j < k * P.cellsOf e
            · rw [List.getElem?_append_left (by omega)] at hj
              exact l3 j u hj
            · rw [List.getElem?_append_right (by omega), l1] at hj
              have hj' : j - k * P.cellsOf e < P.cellsOf e := by
                have := (List.getElem?_eq_some_iff.1 hj).1
                rw [hlen k (by omega)] at this
                exact this
              have := (World.cells?_some (hF k (by omega)).1).2.2 _ hj'
              rw [Addr.add_add, show k * P.cellsOf e + (j - k * P.cellsOf e) = j by omega] at this
              rw [this]
              exact hj
        obtain ⟨l1, l2, l3⟩ := key m (Nat.le_refl _)
        have hflats : flats (((List.range m).map fun i => (F i).2).map (wrapC (aggT P e))) = ((List.range m).map fun i => (F i).2).flatten := by
          unfold flats
          rw [List.flatMap_def, List.map_map]
          congr 1
          conv => rhs; rw [← List.map_id (((List.range m).map fun i => (F i).2))]
          refine List.map_congr_left fun c hc => ?_
          simp only [List.mem_map, List.mem_range] at hc
          obtain ⟨i, hi, rfl⟩ := hc
          exact wrapC_flat _ _ (hF i hi).2.2.1
        refine ⟨[.ro (P.cellsOf e) (((List.range m).map fun i => (F i).2).map (wrapC (aggT P e))) len], .slice hu _ len (by simpa using hlc) (by simpa using hcm) (fun c hc => ?_), by intro x hx xs; simp at hx; subst hx; simp, .cons rfl ?_ (.nil _ _)⟩
        · simp only [List.mem_map, List.mem_range] at hc
          obtain ⟨i, hi, rfl⟩ := hc
          exact (hF i hi).2.1
        · refine .ro _ _ len (some a) m (((List.range m).map fun i => (F i).1).flatten) (by simpa using hlc) (by simp) (fun x hx => ?_) (by rw [hflats]; exact l2.len) (fun hpos => ⟨a, rfl, ?_, l3⟩) l2.one (by rw [hflats]; exact l2.at_)
          · simp only [List.mem_map, List.mem_range] at hx
            obtain ⟨c, ⟨i, hi, rfl⟩, rfl⟩ := hx
            rw [wrapC_flat _ _ (hF i hi).2.2.1, ← (hF i hi).2.2.2.len, hlen i hi]
          · have hm0 : 0 < m := by simpa using hpos
            have := World.cells?_block (hF 0 hm0).1 hs.2
            rwa [show (a.add (0 * P.cellsOf e)).block = a.block by unfold Addr.add; split <;> rfl] at this
    · cases hs

/-! ### Back from a reading -/
theorem CellsOk.int_inv {P : Program} {t : TypeId} {k : IntKind} (hu : P.underlying t = some (.int k)) {ys : List AV} (h : CellsOk P t ys) : ∃ n, (Lit.int k n).wf = true ∧ ys = [.int k n] := by
  cases h with
  | int h n hw => rw [hu] at h; cases h; exact ⟨n, hw, rfl⟩
  | bool h b => rw [hu] at h; cases h
  | str h s hs => rw [hu] at h; cases h
  | struct h yss hl hf => rw [hu] at h; cases h
  | slice h xss n hn hm hx => rw [hu] at h; cases h
theorem CellsOk.bool_inv {P : Program} {t : TypeId} (hu : P.underlying t = some .bool) {ys : List AV} (h : CellsOk P t ys) : ∃ b, ys = [.bool b] := by
  cases h with
  | int h n hw => rw [hu] at h; cases h
  | bool h b => exact ⟨b, rfl⟩
  | str h s hs => rw [hu] at h; cases h
  | struct h yss hl hf => rw [hu] at h; cases h
  | slice h xss n hn hm hx => rw [hu] at h; cases h
theorem CellsOk.str_inv {P : Program} {t : TypeId} (hu : P.underlying t = some .string) {ys : List AV} (h : CellsOk P t ys) : ∃ s, s.size ≤ maxLen ∧ ys = [.str s] := by
  cases h with
  | int h n hw => rw [hu] at h; cases h
  | bool h b => rw [hu] at h; cases h
  | str h s hs => exact ⟨s, hs, rfl⟩
  | struct h yss hl hf => rw [hu] at h; cases h
  | slice h xss n hn hm hx => rw [hu] at h; cases h
theorem CellsOk.slice_inv {P : Program} {t e : TypeId} (hu : P.underlying t = some (.slice e)) {ys : List AV} (h : CellsOk P t ys) :
    ∃ (xss : List (List AV)) (n : Nat), n ≤ xss.length ∧ xss.length ≤ maxLen ∧ (∀ c ∈ xss, CellsOk P e c) ∧ ys = [.ro (P.cellsOf e) (xss.map (wrapC (aggT P e))) n] := by
  cases h with
  | int h n hw => rw [hu] at h; cases h
  | bool h b => rw [hu] at h; cases h
  | str h s hs => rw [hu] at h; cases h
  | struct h yss hl hf => rw [hu] at h; cases h
  | slice h xss n hn hm hx => rw [hu] at h; cases h; exact ⟨xss, n, hn, hm, hx, rfl⟩
def FieldsOk (P : Program) : List Field → List (List AV) → Prop
  | [], [] => True
  | f :: fs, y :: ys => CellsOk P f.type y ∧ FieldsOk P fs ys
  | _, _ => False
theorem CellsOk.struct_inv {P : Program} {t : TypeId} {fs : Array Field} (hu : P.underlying t = some (.struct fs)) {ys : List AV} (h : CellsOk P t ys) : ∃ yss, FieldsOk P fs.toList yss ∧ ys = yss.flatten := by
  cases h with
  | int h n hw => rw [hu] at h; cases h
  | bool h b => rw [hu] at h; cases h
  | str h s hs => rw [hu] at h; cases h
  | slice h xss n hn hm hx => rw [hu] at h; cases h
  | struct h yss hl hf =>
    rw [hu] at h; cases h
    refine ⟨yss, ?_, rfl⟩
    generalize fs.toList = l at hl hf
    induction l generalizing yss with
    | nil => cases yss with
      | nil => trivial
      | cons => cases hl
    | cons f l ih => cases yss with
      | nil => cases hl
      | cons y yss => exact ⟨hf 0 f y rfl rfl, ih yss (by simpa using hl) (fun i f' y' h1 h2 => hf (i + 1) f' y' (by simpa using h1) (by simpa using h2))⟩
theorem FieldsOk.cons_inv {P : Program} {f : Field} {fs : List Field} {yss : List (List AV)} (h : FieldsOk P (f :: fs) yss) : ∃ y ys, yss = y :: ys ∧ CellsOk P f.type y ∧ FieldsOk P fs ys := by
  cases yss with
  | nil => exact h.elim
  | cons y ys => exact ⟨y, ys, rfl, h.1, h.2⟩
theorem FieldsOk.nil_inv {P : Program} {yss : List (List AV)} (h : FieldsOk P [] yss) : yss = [] := by
  cases yss with
  | nil => rfl
  | cons => exact h.elim
/-- A slice's elements, each told by its own name. -/
theorem map_told {α β γ : Type} {f : α → γ} {g : β → γ} : ∀ {xs : List α}, (∀ c ∈ xs, ∃ s, f c = g s) → ∃ l : List β, l.length = xs.length ∧ xs.map f = l.map g
  | [], _ => ⟨[], rfl, rfl⟩
  | x :: xs, h => by
    obtain ⟨s, hs⟩ := h x (by simp)
    obtain ⟨l, hl, hm⟩ := map_told (fun c hc => h c (List.mem_cons_of_mem _ hc))
    exact ⟨s :: l, by simp [hl], by simp [hs, hm]⟩

end Go.Proofs.YtfohedaadncefaaDoor.HB
