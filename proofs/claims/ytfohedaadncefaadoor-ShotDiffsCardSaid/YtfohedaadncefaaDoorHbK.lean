/- Every operation of the model does what the abstract one says. -/
import Derived.Test.YtfohedaadncefaaDoorHbJ
namespace Go.Proofs.YtfohedaadncefaaDoor.HB
open Go

theorem run_field_part {P : Program} (w : World) {t : TypeId} {i : TypeInfo} {d : TypeDesc} (hi : P.info? t = some i) (hd : P.underlying t = some d) (cs : Array Value) (off : Nat) :
    (part t cs off).run P w = if aggD d then .ok (.agg (cs.extract off (off + i.size))) w else (match cs[off]? with
      | some v => .ok v w
      | none => (stuck "part: no such cell" : Sem Value).run P w) := by
  unfold part
  rw [Sem.run_bind, run_isAgg w hd, Result.andThen_ok]
  split
  · rw [Sem.run_bind, run_sizeOf w hi]; rfl
  · cases hc : cs[off]? <;> rfl

theorem partsOk_spec {sz : Nat} {imm : Nat → Prop} {w : World} : ∀ (ps : List (Nat × AV)) (vs : List Value) (j : Nat), partsOk sz ps j = true → vs.length = ps.length →
    (∀ (k : Nat) (p : Nat × AV) (v : Value), ps[k]? = some p → vs[k]? = some v → VR imm w p.2 v) →
    (ps.map (·.1) = List.range' j ps.length) ∧ (∀ p ∈ ps, (flat p.2).length = sz) ∧ (∀ v ∈ vs, v.cells.size = sz) ∧ VRs imm w (flats (ps.map (·.2))) (vs.flatMap fun v => v.cells.toList)
  | [], vs, j, _, hl, _ => by
    have : vs = [] := List.eq_nil_of_length_eq_zero (by simpa using hl)
    subst this
    exact ⟨rfl, by simp, by simp, .nil _ _⟩
  | (i, x) :: ps, [], j, _, hl, _ => by simp at hl
  | (i, x) :: ps, v :: vs, j, h, hl, hv => by
    simp only [partsOk, Bool.and_eq_true, beq_iff_eq] at h
    obtain ⟨⟨rfl, hc⟩, h⟩ := h
    split at hc
    case h_2 => cases hc
    rename_i c hcc
    have hx := hv 0 _ _ rfl rfl
    have hf := cellsA_flat hcc
    have h1 := cellsA_VRs hx hcc
    have hcl : c.length = sz := by simpa using hc
    obtain ⟨a1, a2, a3, a4⟩ := partsOk_spec ps vs (i + 1) h (by simpa using hl) (fun k p u hp hu => hv (k + 1) p u (by simpa using hp) (by simpa using hu))
    refine ⟨by simp [a1, List.range'_succ], fun p hp => ?_, fun u hu => ?_, ?_⟩
    · rcases List.mem_cons.1 hp with rfl | hp
      · rw [hf]; exact hcl
      · exact a2 p hp
    · rcases List.mem_cons.1 hu with rfl | hu
      · have := h1.len; rw [Array.length_toList] at this; omega
      · exact a3 u hu
    · rw [List.map_cons, flats_cons, List.flatMap_cons, hf]
      exact h1.append a4

/-- What an operation that only reads may rest on: what is immutable, and what is owned, is as it was. -/
def Same (imm : Nat → Prop) (L : AHeap) (w w' : World) : Prop := ∀ g, imm g ∨ Own L g → w'.heap[g]? = w.heap[g]?
def isLoad : Op → Bool
  | .load .. => true
  | _ => false
/-- Operations that make nothing and write nothing. -/
def movA : Op → Bool
  | .move _ | .assign _ | .pick .. | .load .. | .nilCheck _ | .binOp .. | .unOp .. | .fieldAddr .. | .field .. | .build .. | .index .. | .indexAddr .. | .slice .. | .extract .. | .convert .. => true
  | .call { callee := .builtin .len, .. } => true
  | _ => false

theorem alen_sound {C : Cx} (hC : C.Ok) {ts : Array TypeId} {args : Array Operand} {L : AHeap} {env : List AV} {K : AV → AHeap → Prop} (h : abuiltin C .len ts (args.toList.map (aeval env)) L K) {imm : Nat → Prop} {w : World} {a : Act} (he : EnvR imm w env a.tmps) :
    ∃ v r, (∀ w' (ty : TypeId) (cs : Array Bool), (builtin .len ts ty cs (args.map a.eval)).run C.P w' = .ok (.value v) w') ∧ VR imm w r v ∧ K r L := by
  unfold abuiltin at h
  split at h
  · rename_i t x hb hts hargs
    have hts' : ts = #[t] := by rw [← Array.toArray_toList (xs := ts), hts]
    obtain ⟨ox, hox, rfl⟩ : ∃ ox, args.toList = [ox] ∧ aeval env ox = x := by
      cases hl : args.toList with
      | nil => simp [hl] at hargs
      | cons o1 r => cases r with
        | nil => simp [hl] at hargs; exact ⟨o1, rfl, hargs⟩
        | cons => simp [hl] at hargs
    have hargs' : args.map a.eval = #[a.eval ox] := by rw [← Array.toArray_toList (xs := args.map a.eval), Array.toList_map, hox]; rfl
    have hx := aeval_VR he ox
    have fin : ∀ (n : Nat), (∀ w' ty, (Builtin.len_ #[t] ty #[a.eval ox]).run C.P w' = .ok (goInt n) w') → K (.int .i64 n) L →
        ∃ v r, (∀ w' (ty : TypeId) (cs : Array Bool), (builtin .len ts ty cs (args.map a.eval)).run C.P w' = .ok (.value v) w') ∧ VR imm w r v ∧ K r L := fun n hr hk =>
      ⟨_, _, fun w' ty cs => by rw [hts', hargs']; simp [builtin, hr]; rfl, .int .i64 n, hk⟩
    split at h
    · rename_i z s ht e
      rw [e] at hx
      have hu := tiOf_one (hC.types _ _ ht)
      generalize a.eval ox = v at *
      cases hx
      exact fin _ (fun w' ty => by simp [Builtin.len_, run_underlying hu]) h
    · rename_i e' sz by_ ea zs k g Cp n ht e
      rw [e] at hx
      have hu := (tiOf_slice (hC.types _ _ ht)).1
      generalize a.eval ox = v at *
      cases hx
      exact fin _ (fun w' ty => by simp [Builtin.len_, run_underlying hu]) h
    · rename_i e' sz by_ ea zs sz' xs n ht e
      rw [e] at hx
      have hu := (tiOf_slice (hC.types _ _ ht)).1
      generalize a.eval ox = v at *
      cases hx
      exact fin _ (fun w' ty => by simp [Builtin.len_, run_underlying hu]) h
    · rename_i e' sz by_ ea zs ht e
      rw [e] at hx
      have hu := (tiOf_slice (hC.types _ _ ht)).1
      generalize a.eval ox = v at *
      cases hx
      exact fin 0 (fun w' ty => by simp [Builtin.len_, run_underlying hu]) h
    · exact h.elim
  · rename_i hb _ _; cases hb
  · rename_i hb _ _; cases hb
  · rename_i hb _ _; cases hb
  · rename_i hb _ _; cases hb
  · exact h.elim

theorem aop_move {C : Cx} (hC : C.Ok) {o : Oper} (hm : movA o.op = true) {env : List AV} {L : AHeap} {K : AV → AHeap → Prop} (h : aop C o env L K) {imm : Nat → Prop} {w : World} {a : Act} (hG : C.G imm w) (hs : Sat imm w L) (he : EnvR imm w env a.tmps) :
    ∃ v x, (∀ w', (isLoad o.op = true → Same imm L w w') → (execOp a.eval o).run C.P w' = .ok (.value v) w') ∧ VR imm w x v ∧ K x L := by
  have pureOp : ∀ {v : Value} {x : AV}, (∀ w', (isLoad o.op = true → Same imm L w w') → (execOp a.eval o).run C.P w' = .ok (.value v) w') → VR imm w x v → K x L →
      ∃ v x, (∀ w', (isLoad o.op = true → Same imm L w w') → (execOp a.eval o).run C.P w' = .ok (.value v) w') ∧ VR imm w x v ∧ K x L := fun hr hx hk => ⟨_, _, hr, hx, hk⟩
  unfold aop at h
  split at h
  · rename_i x ho; exact pureOp (v := a.eval x) (fun w' _ => by simp [execOp, ho]) (aeval_VR he x) h
  · rename_i x ho; exact pureOp (v := a.eval x) (fun w' _ => by simp [execOp, ho]) (aeval_VR he x) h
  · -- pick
    rename_i c x y ho
    have hc := aeval_VR he c
    split at h
    · rename_i e; rw [e] at hc; generalize hv : a.eval c = v at hc; cases hc
      exact pureOp (v := a.eval x) (fun w' _ => by simp [execOp, ho, hv, asBool]) (aeval_VR he x) h
    · rename_i e; rw [e] at hc; generalize hv : a.eval c = v at hc; cases hc
      exact pureOp (v := a.eval y) (fun w' _ => by simp [execOp, ho, hv, asBool]) (aeval_VR he y) h
    · exact h.elim
  · rename_i ho; rw [ho] at hm; cases hm
  · rename_i ho; rw [ho] at hm; cases hm
  · -- load
    rename_i t x ho
    split at h
    case h_2 => exact h.elim
    rename_i ti ht
    have hti := tiOf_spec (hC.types _ _ ht)
    obtain ⟨ad, cs, vs, hv, h, hvs, him, hc⟩ := aptr_sound hs (aeval_VR he x) h
    unfold aloadT at h
    split at h
    case isFalse => exact h.elim
    rename_i hle
    obtain ⟨v, hr, hag, hone⟩ := run_loadVar_any (a := ad) hti hvs hle
    have hrun : ∀ w', (isLoad o.op = true → Same imm L w w') → (execOp a.eval o).run C.P w' = .ok (.value v) w' := fun w' hsm => by
      have hsame := hsm (by rw [ho]; rfl)
      have := hr w' (fun j u hj => by
        rw [World.cell?_of_block (w := w)]
        · exact hc j u hj
        · rw [show (ad.add j).block = ad.block by unfold Addr.add; split <;> rfl]; exact hsame _ him)
      simp [execOp, ho, Instr.loadAt, hv, Instr.sureAddr, this]
    split at h
    · rename_i hagg
      refine pureOp hrun ?_ h
      rw [hag hagg]
      have := hvs.take ti.size
      exact .agg _ _ this.len this.one this.at_
    · rename_i hagg
      obtain ⟨u, hu, rfl⟩ := hone (by simpa using hagg)
      split at h
      · rename_i c rest
        exact pureOp hrun (hvs.at_ 0 c v rfl hu) h
      · exact h.elim
  · rename_i ho; rw [ho] at hm; cases hm
  · -- nilCheck
    rename_i x ho
    have hx := aeval_VR he x
    split at h
    · rename_i e; rw [e] at hx; generalize hv : a.eval x = v at hx; cases hx
      exact pureOp (v := .pointer (some _)) (fun w' _ => by simp [execOp, ho, hv]) (.ptr _ _ _) h
    · rename_i e; rw [e] at hx; generalize hv : a.eval x = v at hx; cases hx
      exact pureOp (v := .pointer (some _)) (fun w' _ => by simp [execOp, ho, hv]) (.el _ _ _ _ _ _) h
    · rename_i e; rw [e] at hx; generalize hv : a.eval x = v at hx
      have hx' := hx
      cases hx
      exact pureOp (v := .pointer (some _)) (fun w' _ => by simp [execOp, ho, hv]) hx' h
    · exact h.elim
  · -- binOp
    rename_i op t x y ty ho
    obtain ⟨r, z, h1, h2, h3⟩ := abin_run hC (t := t) (aeval_VR he x) (aeval_VR he y) h x y
    refine pureOp (v := r) (fun w' _ => ?_) h2 h3
    simp only [execOp, ho]
    rw [Sem.run_bind, h1 w']
    rfl
  · -- not
    rename_i t x ho
    have hx := aeval_VR he x
    split at h
    · rename_i b e; rw [e] at hx; generalize hv : a.eval x = v at hx; cases hx
      exact pureOp (v := .bool !b) (fun w' _ => by simp [execOp, ho, hv, Op.unary]) (.bool _) h
    · exact h.elim
  · -- fieldAddr
    rename_i t x f ho
    split at h
    case h_2 => exact h.elim
    rename_i fs zs ht
    split at h
    case h_2 => exact h.elim
    rename_i off sz bb hf
    split at h
    · exact h.elim
    rename_i hsz
    obtain ⟨fields, hu, hfs, hall⟩ := tiOf_agg (hC.types _ _ ht)
    subst hfs
    rw [List.getElem?_map] at hf
    cases hfd : fields.toList[f]? with
    | none => simp [hfd] at hf
    | some fd =>
      simp only [hfd, Option.map_some, Option.some.injEq, Prod.mk.injEq] at hf
      obtain ⟨rfl, rfl, _⟩ := hf
      have hfd' : fields[f]? = some fd := by simpa using hfd
      have hinfo : ∃ q, C.P.info? fd.type = some q ∧ q.size ≠ 0 := by
        cases hq : C.P.info? fd.type with
        | none => exact absurd (by simp [Program.cellsOf, hq]) hsz
        | some q => exact ⟨q, rfl, by simpa [Program.cellsOf, hq] using hsz⟩
      obtain ⟨q, hq, hq0⟩ := hinfo
      have hrun : ∀ ad : Addr, a.eval x = .pointer (some ad) → ∀ w', (isLoad o.op = true → Same imm L w w') → (execOp a.eval o).run C.P w' = .ok (.value (.pointer (some (ad.add fd.offset)))) w' := fun ad hv w' _ => by
        simp [execOp, ho, Instr.fieldAt, run_underlying hu, hfd', hv, Instr.sureAddr, fieldPlace, run_sizeOf w' hq, hq0]
      have hx := aeval_VR he x
      split at h
      · rename_i e; rw [e] at hx; generalize hv : a.eval x = v at hx; cases hx
        exact pureOp (hrun _ hv) (by rw [addr_addn]; exact .ptr _ _ _) h
      · rename_i e; rw [e] at hx; generalize hv : a.eval x = v at hx; cases hx
        exact pureOp (hrun _ hv) (by rw [addr_addn, Nat.add_assoc]; exact .el _ _ _ _ _ _) h
      · rename_i e; rw [e] at hx; generalize hv : a.eval x = v at hx
        cases hx with
        | rel cs ad vs hi hl hc h1 hvv =>
          have hd := (VRs.mk hl h1 hvv).drop fd.offset
          refine pureOp (hrun _ hv) (.rel _ _ (vs.drop fd.offset) ?_ hd.len (fun j u hj => ?_) hd.one hd.at_) h
          · rw [show (ad.add fd.offset).block = ad.block by unfold Addr.add; split <;> rfl]; exact hi
          · rw [addr_add_add]; rw [List.getElem?_drop] at hj; exact hc _ u hj
      · exact h.elim
  · -- field
    rename_i t x f ho
    split at h
    case h_2 => exact h.elim
    rename_i fs zs cs ht e
    have hx := aeval_VR he x
    rw [e] at hx
    generalize hv : a.eval x = v at hx
    obtain ⟨fields, hu, hfs, hall⟩ := tiOf_agg (hC.types _ _ ht)
    subst hfs
    cases hx with
    | agg _ vs hvl h1 hvv =>
      have hVRs : VRs imm w cs vs := ⟨hvl, h1, hvv⟩
      have hget : ∀ {off sz : Nat} {bb : Bool}, (fields.toList.map fun f => (f.offset, C.P.cellsOf f.type, aggT C.P f.type))[f]? = some (off, sz, bb) → ∃ fd, fields[f]? = some fd ∧ fd.offset = off ∧ C.P.cellsOf fd.type = sz ∧ aggT C.P fd.type = bb := by
        intro off sz bb hf
        rw [List.getElem?_map] at hf
        cases hfd : fields.toList[f]? with
        | none => simp [hfd] at hf
        | some fd =>
          simp only [hfd, Option.map_some, Option.some.injEq, Prod.mk.injEq] at hf
          exact ⟨fd, by simpa using hfd, hf.1, hf.2.1, hf.2.2⟩
      split at h
      · rename_i off sz hf
        obtain ⟨fd, hfd, rfl, rfl, hag⟩ := hget hf
        split at h
        case isFalse => exact h.elim
        rename_i hle
        have hd : ∃ d, C.P.underlying fd.type = some d ∧ aggD d = true := by
          cases hq : C.P.underlying fd.type with
          | none => simp [aggT, hq] at hag
          | some d => exact ⟨d, rfl, by simpa [aggT, hq] using hag⟩
        obtain ⟨d, hd, hdd⟩ := hd
        have hinfo : ∃ q, C.P.info? fd.type = some q := by
          cases hq : C.P.info? fd.type with
          | none => simp [Program.underlying, hq] at hd
          | some q => exact ⟨q, rfl⟩
        obtain ⟨q, hq⟩ := hinfo
        have hqs : q.size = C.P.cellsOf fd.type := by simp [Program.cellsOf, hq]
        have hp := fun w' => run_field_part (P := C.P) w' hq hd vs.toArray fd.offset
        simp only [hdd, if_true] at hp
        have hext : (vs.toArray.extract fd.offset (fd.offset + q.size)) = ((vs.drop fd.offset).take q.size).toArray := by
          apply Array.ext'
          simp [List.take_drop]
        simp only [hext] at hp
        have hdt := (hVRs.drop fd.offset).take q.size
        refine pureOp (v := .agg ((vs.drop fd.offset).take q.size).toArray) (fun w' _ => by simp [execOp, ho, hv, Instr.field, run_underlying hu, hfd, asAgg, hp]) ?_ h
        rw [← hqs]
        exact .agg _ _ hdt.len hdt.one hdt.at_
      · rename_i off sz hf
        obtain ⟨fd, hfd, rfl, rfl, hag⟩ := hget hf
        split at h
        case h_2 => exact h.elim
        rename_i c hc
        obtain ⟨u, hu1, hu2, hu3⟩ := hVRs.get hc
        have hadd : ∃ q d, C.P.info? fd.type = some q ∧ C.P.underlying fd.type = some d ∧ aggD d = false := by
          obtain ⟨i1, i2⟩ := hall fd (by simpa using Array.mem_of_getElem? hfd)
          obtain ⟨q, hq⟩ := Option.isSome_iff_exists.1 i1
          obtain ⟨d, hd⟩ := Option.isSome_iff_exists.1 i2
          exact ⟨q, d, hq, hd, by simpa [aggT, hd] using hag⟩
        obtain ⟨q, d, hq, hd, hdd⟩ := hadd
        have hp := fun w' => run_field_part (P := C.P) w' hq hd vs.toArray fd.offset
        simp only [hdd, Bool.false_eq_true, if_false, List.getElem?_toArray, hu1] at hp
        exact pureOp (v := u) (fun w' _ => by simp [execOp, ho, hv, Instr.field, run_underlying hu, hfd, asAgg, hp]) hu3 h
      · exact h.elim
  · -- build
    rename_i t parts ho
    split at h
    case h_2 => exact h.elim
    rename_i fs zs ht
    split at h
    case isFalse => exact h.elim
    rename_i hne
    split at h
    case h_2 => exact h.elim
    rename_i cs hf
    obtain ⟨us, hb, hus⟩ := built_sound (pv := (parts.map fun (i, x) => (i, a.eval x)).toList) (hC.types _ _ ht) hne (by simp) (fun j p q hp hq => by
      rw [List.getElem?_map] at hp
      rw [Array.toList_map, List.getElem?_map] at hq
      cases hj : parts.toList[j]? with
      | none => simp [hj] at hp
      | some y =>
        simp [hj] at hp hq
        subst hp; subst hq
        exact ⟨rfl, aeval_VR he y.2⟩) hf
    have hr := fun w' => run_build (P := C.P) w' t (parts.map fun (i, x) => (i, a.eval x)) us.toArray hb
    exact pureOp (v := .agg us.toArray) (fun w' _ => by simp only [execOp, ho]; rw [Sem.run_bind, hr w']; rfl) (.agg _ _ hus.len hus.one hus.at_) h
  · rename_i ho; rw [ho] at hm; cases hm
  · -- index
    rename_i t x i ho
    split at h
    case h_2 => exact h.elim
    rename_i z s k n ht e1 e2
    have hx := aeval_VR he x
    have hi := aeval_VR he i
    rw [e1] at hx
    rw [e2] at hi
    generalize hv : a.eval x = v at hx
    generalize hv2 : a.eval i = v2 at hi
    cases hx
    cases hi
    have hu := tiOf_one (hC.types _ _ ht)
    obtain ⟨h0, hlt, hk⟩ := h
    refine pureOp (v := .int .u8 (s[n.toNat]'hlt).toNat) (fun w' _ => ?_) (.int _ _) hk
    have hget : s[n.toNat]? = some (s[n.toNat]'hlt) := getElem?_pos s n.toNat hlt
    simp [execOp, ho, hv, hv2, Instr.index, asIntOf, run_underlying hu, h0, hget]
  · -- indexAddr
    rename_i t x i ho
    have hx := aeval_VR he x
    have hi := aeval_VR he i
    split at h
    · rename_i e sz by_ ea zs k g Cp n kk m ht e1 e2
      rw [e1] at hx
      rw [e2] at hi
      generalize hv : a.eval x = v at hx
      generalize hv2 : a.eval i = v2 at hi
      cases hx
      cases hi
      obtain ⟨hu, j, ze, hj, hsz, _⟩ := tiOf_slice (hC.types _ _ ht)
      obtain ⟨h0, h1, hk⟩ := h
      refine pureOp (v := .pointer (some ⟨g, m.toNat * sz + 0, none⟩)) (fun w' _ => ?_) (.el _ _ _ _ _ _) hk
      have hb : ((match C.P.underlying t with | some (.array ..) => true | _ => false) = false) := by rw [hu]
      simp [execOp, ho, hv, hv2, Instr.indexAt, asIntOf, run_underlying hu, h0, h1, run_sizeOf w' hj, hsz, addr_add0]
    · rename_i e sz by_ ea zs sz' xs n kk m ht e1 e2
      split at h
      case isFalse => exact h.elim
      rename_i esz
      subst esz
      rw [e1] at hx
      rw [e2] at hi
      generalize hv : a.eval x = v at hx
      generalize hv2 : a.eval i = v2 at hi
      cases hi
      obtain ⟨hu, j, ze, hj, hsz, _⟩ := tiOf_slice (hC.types _ _ ht)
      obtain ⟨h0, h1, y, hy, hk⟩ := h
      cases hx with
      | ro _ _ _ A cap vs hnn hcap hszz hvl ha h1c hvv =>
        obtain ⟨ad, rfl, him, hc⟩ := ha (by omega)
        have hVRs : VRs imm w (flats xs) vs := ⟨hvl, h1c, hvv⟩
        have hat := flats_at hszz hy
        have hd := (hVRs.drop (m.toNat * sz')).take sz'
        rw [hat] at hd
        refine pureOp (v := .pointer (some (ad.add (m.toNat * sz')))) (fun w' _ => ?_) (.rel _ _ ((vs.drop (m.toNat * sz')).take sz') ?_ hd.len (fun q u hj => ?_) hd.one hd.at_) hk
        · simp [execOp, ho, hv, hv2, Instr.indexAt, asIntOf, run_underlying hu, h0, h1, run_sizeOf w' hj, hsz]
        · rw [show (ad.add (m.toNat * sz')).block = ad.block by unfold Addr.add; split <;> rfl]; exact him
        · rw [addr_add_add]
          rw [List.getElem?_take] at hj
          split at hj
          · rw [List.getElem?_drop] at hj
            exact hc _ u hj
          · cases hj
    · rename_i n ea zs g kk m ht e1 e2
      rw [e1] at hx
      rw [e2] at hi
      generalize hv : a.eval x = v at hx
      generalize hv2 : a.eval i = v2 at hi
      cases hx
      cases hi
      obtain ⟨e, hu, hce, hae⟩ := tiOf_arr (hC.types _ _ ht)
      split at h
      case h_2 => exact h.elim
      rename_i cs hcs
      obtain ⟨h0, h1, c, hcc, hk⟩ := h
      obtain ⟨him, vs, t', fr, hg, hvs⟩ := hC.globs imm w g cs hG hcs
      have hinfo : ∃ q, C.P.info? e = some q ∧ q.size = 1 := by
        cases hq : C.P.info? e with
        | none => simp [Program.cellsOf, hq] at hce
        | some q => exact ⟨q, rfl, by simpa [Program.cellsOf, hq] using hce⟩
      obtain ⟨q, hq, hq1⟩ := hinfo
      obtain ⟨u, hu1, hu2, hu3⟩ := hvs.get hcc
      have htiny : ¬ n ≤ 1 ∨ True := .inr trivial
      refine pureOp (v := .pointer (some ((⟨g, 0, none⟩ : Addr).add (m.toNat * 1)))) (fun w' _ => ?_) (.rel _ _ [u] ?_ rfl (fun j v hj => ?_) (by simpa using hu2) (fun j y v hy hj => ?_)) hk
      · simp [execOp, ho, hv, hv2, Instr.indexAt, asIntOf, run_underlying hu, h0, h1, run_sizeOf w' hq, hq1, Instr.sureAddr]
      · rw [addr_add0]; exact him
      · rw [addr_add_add, addr_add0]
        cases j with
        | zero =>
          simp at hj
          subst hj
          rw [cell_of_row w g _ vs t' fr hg]
          simpa using hu1
        | succ j => simp at hj
      · cases j with
        | zero => simp at hy hj; subst hy; subst hj; exact hu3
        | succ j => simp at hy
    · exact h.elim
  · -- slice
    rename_i t x lo hi ho
    obtain ⟨r, u, h1, h2, h3⟩ := aslice_sound hC h hs he (aeval_VR he x)
    exact pureOp (v := u) (fun w' _ => by simp [execOp, ho, h1]) h2 h3
  · -- extract
    rename_i x i ho
    have hx := aeval_VR he x
    split at h
    case h_2 => exact h.elim
    rename_i xs e
    rw [e] at hx
    generalize hv : a.eval x = v at hx
    split at h
    case h_2 => exact h.elim
    rename_i c hc
    cases hx with
    | tuple _ vs hl hvv =>
      have hlt : i < vs.length := by rw [hl]; exact (List.getElem?_eq_some_iff.1 hc).1
      refine pureOp (v := vs[i]) (fun w' _ => ?_) (hvv i c _ hc (List.getElem?_eq_getElem hlt)) h
      simp [execOp, ho, hv, Instr.extract, hlt]
  · -- convert
    rename_i src dst x ho
    have hx := aeval_VR he x
    split at h
    · rename_i k0 z0 k z k1 n hs0 hd0 e
      rw [e] at hx
      generalize hv : a.eval x = v at hx
      cases hx
      have hu := tiOf_one (hC.types _ _ hs0)
      have hu' := tiOf_one (hC.types _ _ hd0)
      have hk : C.P.intKind dst = k := by unfold Program.intKind; rw [hu']
      refine pureOp (v := .int k (k.wrap n)) (fun w' _ => ?_) (.int k _) (h _ rfl)
      have := run_convert_int (P := C.P) w' src dst k1 n (by rw [hu]; rfl) (by rw [hk]; exact hu')
      rw [hk] at this
      simp [execOp, ho, hv, this]
    · rename_i z0 z s hs0 hd0 e
      rw [e] at hx
      generalize hv : a.eval x = v at hx
      cases hx
      have hu := tiOf_one (hC.types _ _ hs0)
      have hu' := tiOf_one (hC.types _ _ hd0)
      refine pureOp (v := .string s) (fun w' _ => ?_) (.str s) h
      simp [execOp, ho, hv, convert, run_underlying hu, run_underlying hu']
    · exact h.elim
  · rename_i ho; rw [ho] at hm; cases hm
  · -- len
    rename_i b args ts ho
    have hb : b = .len := by
      rw [ho] at hm
      cases b <;> first | rfl | cases hm
    subst hb
    obtain ⟨v, r, hr, a1, a2⟩ := alen_sound hC h he
    refine pureOp (v := v) (fun w' _ => ?_) a1 a2
    unfold execOp
    simp only [ho, resolve, invoke, Sem.run_bind, Sem.run_pure, Result.andThen_ok]
    exact hr w' _ _
  · exact h.elim

theorem aop_sound {C : Cx} (hC : C.Ok) {o : Oper} {env : List AV} {L : AHeap} {K : AV → AHeap → Prop} (h : aop C o env L K) {imm : Nat → Prop} {w : World} {a : Act} (hG : C.G imm w) (hs : Sat imm w L) (he : EnvR imm w env a.tmps)
    {next : Act → World → Prop} {Q : Exit → Act → World → Prop}
    (hn : ∀ x L' imm' v w', K x L' → Sat imm' w' L' → VR imm' w' x v → Tr (Own L) imm w (Own L') imm' w' → next (a.put o.dst v) w') : o.wp C.P a w next Q := by
  by_cases hm : movA o.op = true
  · obtain ⟨v, x, hr, hx, hk⟩ := aop_move hC hm h hG hs he
    exact wp_value (hr w (fun _ _ _ => rfl)) (hn _ _ _ _ _ hk hs hx (Tr.refl _ _ _))
  have newOp : ∀ {ob : Obj} {x : AV} {ao : AObj} {v : Value}, (execOp a.eval o).run C.P w = .ok (.value v) (w.alloc ob) → VR imm (w.alloc ob) x v → Holds imm (w.alloc ob) w.heap.size ao → K x (L ++ [(w.heap.size, ao)]) → o.wp C.P a w next Q := fun {ob x ao v} hr hx hh hk =>
    wp_value hr (hn _ _ _ _ _ hk (hs.new (by simp) (fun i hi => (World.grownBy_alloc w ob none).block i hi (by simp)) hh) hx (Tr.new (World.grownBy_alloc w ob none) _))
  have keepA : ∀ {ob : Obj} {xs : List AV} {vs : List Value}, VRs imm w xs vs → VRs imm (w.alloc ob) xs vs := fun {ob xs vs} h => h.grown hs (World.grownBy_alloc w ob none) (by simp)
  unfold aop at h
  split at h
  · rename_i ho; rw [ho] at hm; exact absurd rfl hm
  · rename_i ho; rw [ho] at hm; exact absurd rfl hm
  · rename_i ho; rw [ho] at hm; exact absurd rfl hm
  · -- box
    rename_i t x ho
    split at h
    case h_2 => exact h.elim
    rename_i cs hcs
    have hx := cellsA_VRs (aeval_VR he x) hcs
    refine newOp (ob := .cells (a.eval x).cells t) (v := .pointer (some ⟨w.heap.size, 0, none⟩)) (by simp [execOp, ho, Instr.box, newVar, newRow]) (.ptr _ _ _) (.cells t cs (a.eval x).cells.toList ?_ (keepA hx)) (h w.heap.size)
    rw [Array.toArray_toList]
    exact heap_alloc_new w _
  · -- alloc
    rename_i t ho
    split at h
    case h_2 => exact h.elim
    rename_i ti ht
    obtain ⟨i, d, z, hi, hd, hz, hsz, hag, hzs, h1, hzo, _, _⟩ := (tiOf_spec (hC.types _ _ ht)).ok
    have hx := map_ofV_VRs imm w z.cells.toList h1
    rw [hzo] at hx
    refine newOp (ob := .cells z.cells t) (v := .pointer (some ⟨w.heap.size, 0, none⟩)) (by simp [execOp, ho, Instr.alloc, zeroValue, typeInfo, hi, hz, newVar, newRow]) (.ptr _ _ _) (.cells t ti.zero z.cells.toList ?_ (keepA hx)) (h w.heap.size)
    rw [Array.toArray_toList]
    exact heap_alloc_new w _
  · rename_i ho; rw [ho] at hm; exact absurd rfl hm
  · -- store
    rename_i t x y ho
    split at h
    case h_2 => exact h.elim
    rename_i ti new ht hnew
    split at h
    case isFalse => exact h.elim
    rename_i hlen
    obtain ⟨i, d, z, hi, hd, hz, hsz, _⟩ := (tiOf_spec (hC.types _ _ ht)).ok
    have hy := cellsA_VRs (aeval_VR he y) hnew
    obtain ⟨ad, L', w', hv, hk, hr, hs', ht'⟩ := astore_sound (P := C.P) hs (aeval_VR he x) hy h
    have hcs : (a.eval y).cells.size = i.size := by
      have := hy.len
      rw [Array.length_toList] at this
      omega
    refine wp_skip (w' := w') ?_ (hn _ _ _ _ _ hk hs' (.junk _) ht')
    simp [execOp, ho, Instr.storeAt, hv, Instr.sureAddr, storeVar, run_sizeOf w hi, hcs, hr]
  · rename_i ho; rw [ho] at hm; exact absurd rfl hm
  · rename_i ho; rw [ho] at hm; exact absurd rfl hm
  · rename_i ho; rw [ho] at hm; exact absurd rfl hm
  · rename_i ho; rw [ho] at hm; exact absurd rfl hm
  · rename_i ho; rw [ho] at hm; exact absurd rfl hm
  · rename_i ho; rw [ho] at hm; exact absurd rfl hm
  · -- buildSlice
    rename_i t len parts ho
    split at h
    case h_2 => exact h.elim
    rename_i e sz by_ ea zs ht
    split at h
    case isFalse => exact h.elim
    rename_i hcond
    simp only [Bool.and_eq_true, beq_iff_eq, decide_eq_true_eq] at hcond
    obtain ⟨⟨⟨⟨hp, hlen⟩, hpos⟩, hsmall⟩, hlenm⟩ := hcond
    obtain ⟨hu, j, ze, hj, hsz, hby, hze, hzs, hs0, _, _⟩ := tiOf_slice (hC.types _ _ ht)
    obtain ⟨a1, a2, a3, a4⟩ := partsOk_spec (imm := imm) (w := w) (parts.toList.map fun p => (p.1, aeval env p.2)) (parts.toList.map fun p => a.eval p.2) 0 hp (by simp) (fun k p v hp hv => by
      rw [List.getElem?_map] at hp hv
      cases hj : parts.toList[k]? with
      | none => simp [hj] at hp
      | some y =>
        simp [hj] at hp hv
        subst hp; subst hv
        exact aeval_VR he y.2)
    simp only [List.map_map, Function.comp_def] at a1 a4
    simp only [List.length_map] at a1
    have hzip : (parts.map fun (i, x) => (i, a.eval x)).toList = ((parts.toList.map fun p => a.eval p.2).zipIdx 0).map fun x => (x.2, x.1) := by
      apply List.ext_getElem?
      intro k
      rw [Array.toList_map, List.getElem?_map, List.getElem?_map, List.getElem?_zipIdx, List.getElem?_map]
      cases hj : parts.toList[k]? with
      | none => simp
      | some y =>
        have : (parts.toList.map fun p => p.1)[k]? = some y.1 := by simp [hj]
        rw [a1] at this
        have hk : k < parts.toList.length := (List.getElem?_eq_some_iff.1 hj).1
        rw [List.getElem?_range' hk] at this
        simp at this
        simp [← this]
    have hfill := Great.fill_whole (s := sz) hs0 (parts.toList.map fun p => a.eval p.2) ((Array.range (len * sz)).map (ze.cells[· % ze.cells.size]!)) a3 (by simp [← hlen])
    rw [← hzip] at hfill
    have hr := run_buildSlice (P := C.P) w t e len (parts.map fun (i, x) => (i, a.eval x)) _ j ze hu hj hze (by rw [hsz]; omega) (by rw [hsz]; omega) (by rw [hsz]; exact hfill)
    refine newOp (v := .slice (some ⟨w.heap.size, 0, none⟩) len len) (ao := .row e sz len (parts.toList.map fun p => aeval env p.2)) (by simp only [execOp, ho]; rw [Sem.run_bind, hr]; rfl) (.sl _ _ _ _) ?_ (h w.heap.size)
    refine .row e sz len _ ((parts.toList.map fun p => a.eval p.2).flatMap fun v => v.cells.toList) [] ?_ hs0 (fun x hx => ?_) ?_ (by simp only [maxLen]; omega) (by simp [← hlen]) (keepA a4)
    · rw [List.append_nil]; exact heap_alloc_new w _
    · obtain ⟨p, hp, rfl⟩ := List.mem_map.1 hx
      exact a2 _ (List.mem_map.2 ⟨p, hp, rfl⟩)
    · rw [List.append_nil, a4.len, flats_length (sz := sz) (fun x hx => by
        obtain ⟨p, hp, rfl⟩ := List.mem_map.1 hx
        exact a2 _ (List.mem_map.2 ⟨p, hp, rfl⟩))]
      simp [← hlen]
  · rename_i ho; rw [ho] at hm; exact absurd rfl hm
  · rename_i ho; rw [ho] at hm; exact absurd rfl hm
  · rename_i ho; rw [ho] at hm; exact absurd rfl hm
  · rename_i ho; rw [ho] at hm; exact absurd rfl hm
  · rename_i ho; rw [ho] at hm; exact absurd rfl hm
  · -- call of a function
    rename_i x args ts ho
    have hx := aeval_VR he x
    split at h
    case h_2 => exact h.elim
    rename_i f hfx
    have hxv := afun_VR hx hfx
    obtain ⟨hl, hv⟩ := args_VR he args
    obtain ⟨⟨fn, hf, hname, hb⟩, hc⟩ := ACall.sound hC h hG hs hl hv
    rw [Array.toArray_toList] at hc
    have h1 : fn.name ≠ "runtime.NumGoroutine" := by simpa using hname
    obtain ⟨cc, hcc⟩ := Option.isSome_iff_exists.1 hb
    have hrun : (execOp a.eval o).run C.P w = .ok (.enter f (args.map a.eval)) w := by
      unfold execOp
      simp [ho, hxv, resolve, Deferred.ofValue, invoke, callFunc, hf, h1, hcc]
    unfold Oper.wp
    rw [hrun, Oper.upon_enter]
    refine hc.mono fun e w'' hh => ?_
    obtain ⟨v, r, L', imm', rfl, a1, a2, a3, a4⟩ := hh
    exact hn r L' imm' v w'' a4 a2 a1 a3
  · -- call of a builtin
    rename_i b args ts ho
    obtain ⟨v, w', r, L', hr, a1, a2, a3, a4⟩ := abuiltin_sound hC h hs he o.type (args.map fun | .const _ => true | _ => false)
    refine wp_value (v := v) (w' := w') ?_ (hn r L' imm v w' a4 a2 a1 a3)
    unfold execOp
    simp only [ho, resolve, invoke, Sem.run_bind, Sem.run_pure, Result.andThen_ok]
    exact hr
  · exact h.elim

end Go.Proofs.YtfohedaadncefaaDoor.HB
