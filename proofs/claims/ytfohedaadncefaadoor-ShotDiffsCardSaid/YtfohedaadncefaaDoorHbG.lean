/- The abstract machine's operations on memory: what they say, and that the model's own do it. -/
import Derived.Test.YtfohedaadncefaaDoorHbF
import Derived.Great.FillDense
import Derived.Great.BuildSlice
namespace Go.Proofs.YtfohedaadncefaaDoor.HB
open Go

/-! ### Structs built -/
def afill (fs : List (Nat × Nat × Bool)) (cs : List AV) : List (Nat × AV) → Option (List AV)
  | [] => some cs
  | (i, x) :: rest =>
    match fs[i]?, cellsA x with
    | some (off, sz, _), some c => if c.length = sz ∧ off + sz ≤ cs.length then afill fs (splice cs off c) rest else none
    | _, _ => none

theorem fill_set (vs us : List Value) (off : Nat) (h : off + us.length ≤ vs.length) :
    (us.toArray.zipIdx.foldl (fun (cs : Array Value) (x : Value × Nat) => cs.setIfInBounds (off + x.2) x.1) vs.toArray) = (vs.take off ++ us ++ vs.drop (off + us.length)).toArray := by
  obtain ⟨g1, g2⟩ := Great.foldl_set off us 0 vs.toArray
  have e : us.toArray.zipIdx.foldl (fun (cs : Array Value) (x : Value × Nat) => cs.setIfInBounds (off + x.2) x.1) vs.toArray = (us.zipIdx 0).foldl (fun cs (x : Value × Nat) => cs.setIfInBounds (off + x.2) x.1) vs.toArray := by
    rw [← Array.foldl_toList, Array.toList_zipIdx]
  rw [e]
  apply Array.ext_getElem?
  intro k
  rw [g2 k]
  simp only [List.size_toArray, List.getElem?_toArray, Nat.add_zero]
  by_cases h1 : off ≤ k ∧ k < off + us.length ∧ k < vs.length
  · rw [if_pos h1, List.append_assoc, List.getElem?_append_right (by simp; omega), List.getElem?_append_left (by simp; omega)]
    congr 1
    simp
    omega
  · rw [if_neg h1]
    by_cases h2 : k < off
    · rw [List.append_assoc, List.getElem?_append_left (by simp; omega), List.getElem?_take, if_pos h2]
    · rw [List.getElem?_append_right (by simp; omega), List.getElem?_drop]
      by_cases h3 : k < vs.length
      · congr 1; simp; omega
      · rw [List.getElem?_eq_none (by omega), List.getElem?_eq_none (by simp; omega)]

theorem fill_sound {imm : Nat → Prop} {w : World} (fs : List (Nat × Nat × Bool)) (place : Nat → Option (Nat × Nat)) (hp : ∀ i, place i = (fs[i]?).map fun f => (f.1, f.2.1)) :
    ∀ (parts : List (Nat × AV)) (pv : List (Nat × Value)) (cs : List AV) (vs : List Value) (cs' : List AV), parts.length = pv.length →
      (∀ (j : Nat) (p : Nat × AV) (q : Nat × Value), parts[j]? = some p → pv[j]? = some q → p.1 = q.1 ∧ VR imm w p.2 q.2) → VRs imm w cs vs → afill fs cs parts = some cs' →
      ∃ us, Instr.fill place vs.toArray pv = some us.toArray ∧ VRs imm w cs' us
  | [], [], cs, vs, cs', _, _, hv, h => by
    simp only [afill, Option.some.injEq] at h
    subst h
    exact ⟨vs, rfl, hv⟩
  | [], _ :: _, _, _, _, hl, _, _, _ => by simp at hl
  | _ :: _, [], _, _, _, hl, _, _, _ => by simp at hl
  | (i, x) :: rest, (i', u) :: pv, cs, vs, cs', hl, hm, hv, h => by
    obtain ⟨e, hx⟩ := hm 0 _ _ rfl rfl
    simp only at e hx
    subst e
    simp only [afill] at h
    split at h
    case h_2 => cases h
    rename_i off sz _b c hf hc
    split at h
    case isFalse => cases h
    rename_i hcond
    obtain ⟨hcl, hle⟩ := hcond
    have hxs := cellsA_VRs hx hc
    have hul : u.cells.toList.length = c.length := hxs.len
    have hvl := hv.len
    simp only [Instr.fill, hp i, hf, Option.map_some]
    rw [if_neg (by
      simp only [Array.length_toList] at hul
      simp
      omega)]
    have hset := fill_set vs u.cells.toList off (by omega)
    rw [Array.toArray_toList] at hset
    rw [hset]
    exact fill_sound fs place hp rest pv _ _ cs' (by simpa using hl) (fun j p q a b => hm (j + 1) p q (by simpa using a) (by simpa using b)) (hv.splice hxs off) h

theorem built_sound {P : Program} {imm : Nat → Prop} {w : World} {t : TypeId} {fs : List (Nat × Nat × Bool)} {zs : List AV} (ht : tiOf P t = some (.agg fs zs)) (hne : fs.all (fun f => f.2.1 != 0) = true)
    {parts : List (Nat × AV)} {pv : List (Nat × Value)} {cs' : List AV} (hl : parts.length = pv.length)
    (hm : ∀ (j : Nat) (p : Nat × AV) (q : Nat × Value), parts[j]? = some p → pv[j]? = some q → p.1 = q.1 ∧ VR imm w p.2 q.2) (h : afill fs zs parts = some cs') :
    ∃ us, P.built t pv = some us.toArray ∧ VRs imm w cs' us := by
  obtain ⟨fields, hu, hfs, _⟩ := tiOf_agg ht
  obtain ⟨i, d, z, hi, hd, hz, hsz, hag, hzs, h1, hzo, hagg, _⟩ := (tiOf_spec ht).ok
  have hplaces : fields.toList.mapM (fun f => (P.info? f.type).map fun i => (f.offset, i.size)) = some (fs.map fun f => (f.1, f.2.1)) := by
    have key : ∀ l : List Field, (l.map fun f => (f.offset, P.cellsOf f.type, aggT P f.type)).all (fun f => f.2.1 != 0) = true →
        l.mapM (fun f => (P.info? f.type).map fun i => (f.offset, i.size)) = some (l.map fun f => (f.offset, P.cellsOf f.type)) := by
      intro l
      induction l with
      | nil => intro _; rfl
      | cons f l ih =>
        intro hall
        simp only [List.map_cons, List.all_cons, Bool.and_eq_true] at hall
        cases hq : P.info? f.type with
        | none =>
          have hbad := hall.1
          simp [Program.cellsOf, hq] at hbad
        | some q => simp [List.mapM_cons, hq, ih hall.2, Program.cellsOf]
    rw [hfs] at hne ⊢
    rw [key _ hne]
    simp
  have hzv : VRs imm w zs z.cells.toList := by
    have := map_ofV_VRs imm w z.cells.toList h1
    rwa [hzo] at this
  obtain ⟨us, hf, hus⟩ := fill_sound fs (fun i => ((fs.map fun f => (f.1, f.2.1)).toArray)[i]?) (fun i => by simp) parts pv zs z.cells.toList cs' hl hm hzv h
  refine ⟨us, ?_, hus⟩
  unfold Program.built
  simp only [hi, hu, hz, hplaces]
  rw [Array.toArray_toList] at hf
  exact hf

/-! ### Bounds of slices -/
theorem run_bounds {P : Program} (w : World) (isS : Bool) (len cap : Nat) (low high : Option Value) (l h : Int) (hlow : (low = none ∧ l = 0) ∨ ∃ k, low = some (.int k l)) (hhigh : (high = none ∧ h = len) ∨ ∃ k, high = some (.int k h))
    (h0 : 0 ≤ l) (h1 : l ≤ h) (h2 : h ≤ cap) : (Instr.sliceBounds isS len cap low high none).run P w = .ok (l.toNat, h.toNat, cap) w := by
  have hb : ∀ (k : IntKind) (i : Int) (y : Nat) (c : BoundsCode), 0 ≤ i → i ≤ y → (Instr.sliceBound (.int k i) y c).run P w = .ok i.toNat w := by
    intro k i y c a b
    simp only [Instr.sliceBound, asIntOf, Sem.run_bind, Sem.run_pure, Result.andThen_ok]
    rw [if_pos ⟨a, b⟩]
    rfl
  have hl1 : l ≤ (h.toNat : Int) := by omega
  rcases hhigh with ⟨rfl, rfl⟩ | ⟨k, rfl⟩ <;> rcases hlow with ⟨rfl, rfl⟩ | ⟨k', rfl⟩
  · simp [Instr.sliceBounds]
  · simp only [Int.toNat_natCast] at hl1 ⊢
    simp [Instr.sliceBounds, hb _ _ _ _ h0 hl1]
  · simp [Instr.sliceBounds, hb _ _ _ _ (Int.le_trans h0 h1) h2]
  · simp [Instr.sliceBounds, hb _ _ _ _ (Int.le_trans h0 h1) h2, hb _ _ _ _ h0 hl1]

theorem run_sizeOf {P : Program} (w : World) {t : TypeId} {i : TypeInfo} (h : P.info? t = some i) : (sizeOf t).run P w = .ok i.size w := by
  simp [sizeOf, typeInfo, h]

end Go.Proofs.YtfohedaadncefaaDoor.HB
