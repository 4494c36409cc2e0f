/- Types as the abstract machine knows them; loads and stores of variables, of whatever shape. -/
import Derived.Test.YtfohedaadncefaaDoorHbB
namespace Go.Proofs.YtfohedaadncefaaDoor.HB
open Go

/-- What is known of a type: one cell, a struct (its fields: offset, size, is it of several cells by kind), an array, a slice (its element). -/
inductive TI where
  | one (d : TypeDesc) (zero : AV)
  | agg (fs : List (Nat × Nat × Bool)) (zero : List AV)
  | arr (n esz : Nat) (eagg : Bool) (zero : List AV)
  | slice (e sz bytes : Nat) (eagg : Bool) (zero : List AV)

def TI.isAgg : TI → Bool
  | .agg .. | .arr .. => true
  | _ => false
def TI.size : TI → Nat
  | .agg _ z | .arr _ _ _ z => z.length
  | _ => 1
def TI.zero : TI → List AV
  | .one _ z => [z]
  | .agg _ z | .arr _ _ _ z => z
  | .slice .. => [.nils]

def aggD : TypeDesc → Bool
  | .struct _ | .array _ _ => true
  | _ => false
def aggT (P : Program) (t : TypeId) : Bool := ((P.underlying t).map aggD).getD false
def zok (i : TypeInfo) (z : Value) (d : TypeDesc) : Bool := z.cells.size == i.size && z.cells.all (·.oneCell') && (aggD d == (match z with | .agg _ => true | _ => false))

def tiOf (P : Program) (t : TypeId) : Option TI :=
  match P.info? t, P.underlying t with
  | some i, some d =>
    match i.zero with
    | none => none
    | some z =>
      if zok i z d then
        match d with
        | .struct fields => if fields.toList.all (fun f => (P.info? f.type).isSome && (P.underlying f.type).isSome) then some (.agg (fields.toList.map fun f => (f.offset, P.cellsOf f.type, aggT P f.type)) (z.cells.toList.map ofV)) else none
        | .array n e => some (.arr n (P.cellsOf e) (aggT P e) (z.cells.toList.map ofV))
        | .slice e =>
          match P.info? e, P.underlying e, z with
          | some j, some d', .slice none 0 0 =>
            match j.zero with
            | some ze => if zok j ze d' && decide (0 < j.size) then some (.slice e j.size j.bytes (aggD d') (ze.cells.toList.map ofV)) else none
            | none => none
          | _, _, _ => none
        | d => some (.one d (ofV z))
      else none
  | _, _ => none

abbrev TTab := TypeId → Option TI
def TOk (P : Program) (T : TTab) : Prop := ∀ t ti, T t = some ti → tiOf P t = some ti

/-- What a type's row says. -/
structure TIs (P : Program) (t : TypeId) (ti : TI) : Prop where
  ok : ∃ i d z, P.info? t = some i ∧ P.underlying t = some d ∧ i.zero = some z ∧ i.size = ti.size ∧ aggD d = ti.isAgg ∧ z.cells.size = i.size ∧
    (∀ u ∈ z.cells.toList, u.oneCell' = true) ∧ z.cells.toList.map ofV = ti.zero ∧ (ti.isAgg = true → ∃ cs, z = .agg cs) ∧ (ti.isAgg = false → z.oneCell' = true)

theorem tiOf_spec {P : Program} {t : TypeId} {ti : TI} (h : tiOf P t = some ti) : TIs P t ti := by
  unfold tiOf at h
  split at h
  case h_2 => cases h
  rename_i i d hi hd
  split at h
  · cases h
  rename_i z hz
  split at h
  case isFalse => cases h
  rename_i hok
  simp only [zok, Bool.and_eq_true, beq_iff_eq] at hok
  obtain ⟨⟨h1, h2⟩, h3⟩ := hok
  have h2' : ∀ u ∈ z.cells.toList, u.oneCell' = true := fun u hu => (Array.all_eq_true_iff_forall_mem.1 h2) u (by simpa using hu)
  have hagg : aggD d = true → ∃ cs, z = .agg cs := fun e => by
    rw [e] at h3
    split at h3
    · exact ⟨_, rfl⟩
    · cases h3
  have hone : aggD d = false → z.oneCell' = true := fun e => by
    rw [e] at h3
    split at h3
    · cases h3
    · rename_i hna
      have : z.cells = #[z] := by cases z <;> first | rfl | exact absurd rfl (hna _)
      rw [this] at h2'
      exact h2' z (by simp)
  split at h
  · split at h
    case isFalse => cases h
    cases h
    exact ⟨⟨i, _, z, hi, hd, hz, by simp [TI.size, h1], rfl, h1, h2', rfl, (fun _ => hagg rfl), (fun e => by cases e)⟩⟩
  · cases h
    exact ⟨⟨i, _, z, hi, hd, hz, by simp [TI.size, h1], rfl, h1, h2', rfl, (fun _ => hagg rfl), (fun e => by cases e)⟩⟩
  · split at h
    case h_2 => cases h
    split at h
    case h_2 => cases h
    split at h
    case isFalse => cases h
    cases h
    exact ⟨⟨i, _, _, hi, hd, hz, by rw [← h1]; rfl, rfl, h1, h2', rfl, (fun e => by cases e), (fun _ => hone rfl)⟩⟩
  · rename_i hn1 hn2 hn3
    cases h
    have hd0 : aggD d = false := by cases d <;> first | rfl | exact absurd rfl (hn1 _) | exact absurd rfl (hn2 _ _)
    have hz1 := hone hd0
    have hzc : z.cells = #[z] := by cases z <;> first | rfl | cases hz1
    exact ⟨⟨i, _, z, hi, hd, hz, by rw [← h1, hzc]; rfl, hd0, h1, h2', by rw [hzc]; rfl, fun e => (by cases e), fun _ => hz1⟩⟩

theorem tiOf_slice {P : Program} {t : TypeId} {e sz by_ : Nat} {ea : Bool} {zs : List AV} (h : tiOf P t = some (.slice e sz by_ ea zs)) :
    P.underlying t = some (.slice e) ∧ ∃ j ze, P.info? e = some j ∧ j.size = sz ∧ j.bytes = by_ ∧ j.zero = some ze ∧ ze.cells.size = sz ∧ 0 < sz ∧ ze.cells.toList.map ofV = zs ∧ (∀ u ∈ ze.cells.toList, u.oneCell' = true) ∧ aggT P e = ea ∧ (ea = false → ze.oneCell' = true) := by
  unfold tiOf at h
  split at h
  case h_2 => cases h
  rename_i i d hi hd
  split at h
  · cases h
  rename_i z hz
  split at h
  case isFalse => cases h
  split at h
  · split at h <;> cases h
  · cases h
  · split at h
    case h_2 => cases h
    rename_i j d' hj hd' _
    split at h
    case h_2 => cases h
    rename_i ze hze
    split at h
    case isFalse => cases h
    rename_i hok
    simp only [zok, Bool.and_eq_true, beq_iff_eq, decide_eq_true_eq] at hok
    simp only [Option.some.injEq, TI.slice.injEq] at h
    obtain ⟨rfl, rfl, rfl, rfl, rfl⟩ := h
    refine ⟨hd, j, ze, hj, rfl, rfl, hze, hok.1.1.1, hok.2, rfl, fun u hu => (Array.all_eq_true_iff_forall_mem.1 hok.1.1.2) u (by simpa using hu), by simp [aggT, hd'], fun e => ?_⟩
    have h3 := hok.1.2
    rw [e] at h3
    split at h3
    · cases h3
    · rename_i hna
      have h2 : ∀ u ∈ ze.cells.toList, u.oneCell' = true := fun u hu => (Array.all_eq_true_iff_forall_mem.1 hok.1.1.2) u (by simpa using hu)
      have : ze.cells = #[ze] := by cases ze <;> first | rfl | exact absurd rfl (hna _)
      rw [this] at h2
      exact h2 ze (by simp)
  · cases h

theorem tiOf_agg {P : Program} {t : TypeId} {fs : List (Nat × Nat × Bool)} {zs : List AV} (h : tiOf P t = some (.agg fs zs)) :
    ∃ fields : Array Field, P.underlying t = some (.struct fields) ∧ fs = (fields.toList.map fun f => (f.offset, P.cellsOf f.type, aggT P f.type)) ∧ ∀ f ∈ fields.toList, (P.info? f.type).isSome = true ∧ (P.underlying f.type).isSome = true := by
  unfold tiOf at h
  split at h
  case h_2 => cases h
  rename_i i d hi hd
  split at h
  · cases h
  split at h
  case isFalse => cases h
  split at h
  · split at h
    case isFalse => cases h
    rename_i hall
    simp only [Option.some.injEq, TI.agg.injEq] at h
    exact ⟨_, hd, h.1.symm, fun f hf => by simpa using (List.all_eq_true.1 hall) f hf⟩
  · cases h
  · split at h
    case h_2 => cases h
    split at h
    case h_2 => cases h
    split at h
    case isFalse => cases h
    cases h
  · cases h

theorem tiOf_one {P : Program} {t : TypeId} {d0 : TypeDesc} {z0 : AV} (h : tiOf P t = some (.one d0 z0)) : P.underlying t = some d0 := by
  unfold tiOf at h
  split at h
  case h_2 => cases h
  rename_i i d hi hd
  split at h
  · cases h
  split at h
  case isFalse => cases h
  split at h
  · split at h <;> cases h
  · cases h
  · split at h
    case h_2 => cases h
    split at h
    case h_2 => cases h
    split at h
    case isFalse => cases h
    cases h
  · cases h
    exact hd

theorem tiOf_arr {P : Program} {t : TypeId} {n esz : Nat} {ea : Bool} {zs : List AV} (h : tiOf P t = some (.arr n esz ea zs)) :
    ∃ e, P.underlying t = some (.array n e) ∧ P.cellsOf e = esz ∧ aggT P e = ea := by
  unfold tiOf at h
  split at h
  case h_2 => cases h
  rename_i i d hi hd
  split at h
  · cases h
  split at h
  case isFalse => cases h
  split at h
  · split at h <;> cases h
  · simp only [Option.some.injEq, TI.arr.injEq] at h
    obtain ⟨rfl, h1, h2, _⟩ := h
    exact ⟨_, hd, h1, h2⟩
  · split at h
    case h_2 => cases h
    split at h
    case h_2 => cases h
    split at h
    case isFalse => cases h
    cases h
  · cases h

theorem map_ofV_VRs (imm : Nat → Prop) (w : World) (vs : List Value) (h1 : ∀ u ∈ vs, u.oneCell' = true) : VRs imm w (vs.map ofV) vs := by
  refine ⟨by simp, h1, fun j y u hy hu => ?_⟩
  rw [List.getElem?_map, hu] at hy
  simp at hy
  subst hy
  exact ofV_VR imm w u

/-! ### Loads -/
theorem run_isAgg {P : Program} (w : World) {t : TypeId} {d : TypeDesc} (h : P.underlying t = some d) : (isAgg t).run P w = .ok (aggD d) w := by
  unfold isAgg
  rw [Sem.run_bind, run_underlying h]
  cases d <;> rfl

theorem run_loadVar_any {P : Program} {imm : Nat → Prop} {w0 : World} {t : TypeId} {ti : TI} (ht : TIs P t ti) {a : Addr} {xs : List AV} {vs : List Value} (hv : VRs imm w0 xs vs) (hl : ti.size ≤ xs.length) :
    ∃ v, (∀ w : World, (∀ (j : Nat) (u : Value), vs[j]? = some u → w.cell? (a.add j) = some u) → (loadVar t a).run P w = .ok v w) ∧ (ti.isAgg = true → v = .agg (vs.take ti.size).toArray) ∧ (ti.isAgg = false → ∃ u, vs[0]? = some u ∧ v = u) := by
  obtain ⟨i, d, z, hi, hd, hz, hsz, hag, hzs, _, _, _, hone⟩ := ht.ok
  have hvl := hv.len
  cases h : ti.isAgg with
  | true =>
    refine ⟨.agg (vs.take ti.size).toArray, fun w hc => ?_, fun _ => rfl, (fun e => by cases e)⟩
    unfold loadVar
    rw [Sem.run_bind, run_isAgg w hd, hag, h]
    have hl2 : (loadCells a (vs.take ti.size).length).run P w = .ok (vs.take ti.size).toArray w := run_loadCells_list (P := P) w a _ (fun j u hj => hc j u (by
      rw [List.getElem?_take] at hj
      split at hj
      · exact hj
      · cases hj))
    have hlen : (vs.take ti.size).length = ti.size := by rw [List.length_take]; omega
    rw [hlen] at hl2
    simp [sizeOf, typeInfo, hi, hsz, hl2]
  | false =>
    have h1 : ti.size = 1 := by cases ti <;> first | rfl | cases h
    have h0 : 0 < vs.length := by omega
    have e0 : vs[0]? = some vs[0] := List.getElem?_eq_getElem h0
    refine ⟨vs[0], fun w hc => ?_, (by intro e; cases e), fun _ => ⟨_, e0, rfl⟩⟩
    unfold loadVar
    rw [Sem.run_bind, run_isAgg w hd, hag, h]
    have hc0 := hc 0 _ e0
    have ha : a.add 0 = a := by simp [Addr.add]
    rw [ha] at hc0
    simp [load, Sem.run, hc0, go_sem]

end Go.Proofs.YtfohedaadncefaaDoor.HB
