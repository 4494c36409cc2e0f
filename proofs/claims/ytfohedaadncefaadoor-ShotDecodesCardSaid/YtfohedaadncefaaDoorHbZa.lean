/- Regions that draw their order, with calls that may panic, things that are made, and writes at the end. -/
import Derived.Test.YtfohedaadncefaaDoorHbW2
import Derived.Recover
import Derived.Test.YtfohedaadncefaaDoorHbO
namespace Go.Proofs.YtfohedaadncefaaDoor.HB
open Go

/-! ### What a panic leaves of a region's slots: nothing is said of them -/
def junkD (ops : Array Oper) (env : List AV) : List AV := ops.toList.foldl (fun e o => putA e o.dst .junk) env
theorem putA_len (e : List AV) (d : Option Tmp) (x : AV) : (putA e d x).length = e.length := by cases d <;> simp [putA]
theorem junk_fold_len : ∀ (l : List Oper) (e : List AV), (l.foldl (fun e o => putA e o.dst .junk) e).length = e.length
  | [], _ => rfl
  | o :: l, e => by rw [List.foldl_cons, junk_fold_len l, putA_len]
theorem junk_fold_at : ∀ (l : List Oper) (e : List AV) (t : Nat) (x : AV), (l.foldl (fun e o => putA e o.dst .junk) e)[t]? = some x → (x = .junk ∨ (e[t]? = some x ∧ ∀ o ∈ l, o.dst ≠ some t))
  | [], _, _, _, h => .inr ⟨h, by simp⟩
  | o :: l, _, t, x, h => by
    rw [List.foldl_cons] at h
    rcases junk_fold_at l _ t x h with h | ⟨h, hl⟩
    · exact .inl h
    · cases hd : o.dst with
      | none =>
        rw [hd] at h
        exact .inr ⟨h, fun o' ho' => by rcases List.mem_cons.1 ho' with rfl | ho'; rw [hd]; simp; exact hl o' ho'⟩
      | some d =>
        rw [hd] at h
        simp only [putA, List.getElem?_set] at h
        split at h
        · split at h
          · exact .inl (by simpa using h.symm)
          · cases h
        · rename_i hne
          refine .inr ⟨h, fun o' ho' => ?_⟩
          rcases List.mem_cons.1 ho' with rfl | ho'
          · rw [hd]; simpa using hne
          · exact hl o' ho'
/-- Is every slot that the region writes told to be unknown? -/
structure Blind (ops : Array Oper) (env : List AV) : Prop where
  at_ : ∀ (i : Nat) (o : Oper) (t : Nat) (x : AV), ops[i]? = some o → o.dst = some t → env[t]? = some x → x = .junk
theorem junkD_blind (ops : Array Oper) (env : List AV) : Blind ops (junkD ops env) := ⟨fun i o t x ho hd hx => by
  rcases junk_fold_at _ _ _ _ hx with h | ⟨_, h⟩
  · exact h
  · exact absurd hd (h o (Array.mem_toList_iff.2 (Array.mem_of_getElem? ho)))⟩
theorem wk_of_at : ∀ {xs ys : List AV}, ys.length ≤ xs.length → (∀ (_t : Nat) (_y : AV), ys[_t]? = some _y → _y = .junk ∨ xs[_t]? = some _y) → wk xs ys
  | [], [], _, _ => trivial
  | _ :: _, [], _, _ => trivial
  | [], _ :: _, h, _ => by simp at h
  | x :: xs, y :: ys, h, hh => ⟨by simpa using hh 0 y rfl, wk_of_at (by simpa using h) fun t z hz => by simpa using hh (t + 1) z (by simpa using hz)⟩
theorem junkD_wk (ops : Array Oper) (env : List AV) : wk env (junkD ops env) :=
  wk_of_at (Nat.le_of_eq (junk_fold_len _ _)) fun t y hy => (junk_fold_at _ _ _ _ hy).imp id fun h => h.1
theorem wk_putA {env J : List AV} {d : Option Tmp} {x : AV} (h : wk env J) (hJ : ∀ (t : Nat) (y : AV), d = some t → J[t]? = some y → y = .junk) : wk (putA env d x) J := by
  obtain ⟨hl, hh⟩ := wk_at h
  refine wk_of_at (by rw [putA_len]; exact hl) fun t y hy => ?_
  cases d with
  | none => exact hh t y hy
  | some d =>
    by_cases e : d = t
    · subst e; exact .inl (hJ d y rfl hy)
    · rcases hh t y hy with h | h
      · exact .inl h
      · refine .inr ?_
        simp only [putA]
        rw [List.getElem?_set_ne e]
        exact h
theorem put_size (a : Act) (d : Option Tmp) (v : Value) : (a.put d v).tmps.size = a.tmps.size := by cases d <;> simp [Act.put]
theorem put_at (a : Act) (d : Tmp) (v : Value) (t : Nat) (h : d ≠ t) : (a.put (some d) v).tmps[t]? = a.tmps[t]? := by
  simp only [Act.put]
  rw [Array.getElem?_setIfInBounds]
  rw [if_neg h]
/-- Of a slot that nothing is said of it is all one what it holds. -/
theorem At.unput {C : Cx} {F : Fr} {J : List AV} {L : AHeap} {a : Act} {w : World} {d : Option Tmp} {v : Value} (h : At C F J L (a.put d v) w) (hJ : ∀ (t : Nat) (y : AV), d = some t → J[t]? = some y → y = .junk) : At C F J L a w := by
  obtain ⟨imm, hst, hG⟩ := h
  refine ⟨imm, ⟨hst.sat, ⟨?_, fun t x u hx hu => ?_⟩, hst.tr, by rw [← hst.defers]; exact (put_defers a d v).symm⟩, hG⟩
  · have := hst.env.len
    rwa [put_size] at this
  · cases d with
    | none => exact hst.env.at_ t x u hx hu
    | some d =>
      by_cases e : d = t
      · subst e
        rw [hJ d x rfl hx]
        exact .junk u
      · exact hst.env.at_ t x u hx (by rw [put_at a d v t e]; exact hu)

/-! ### The order -/
/-- Does number 'k' wait for number 'i', be it by way of others? -/
def waitsT (ops : Array Oper) : Nat → Nat → Nat → Bool
  | 0, _, _ => false
  | n + 1, k, i => match ops[k]? with
    | some o => o.after.any fun e => Region.binds .any e && (e.on == i || waitsT ops n e.on i)
    | none => false
def Closed (ops : Array Oper) (listed : Array Bool) : Prop := ∀ (j : Nat) (o : Oper), ops[j]? = some o → listed.getD j false = true → ∀ e ∈ o.after, Region.binds .any e = true → listed.getD e.on false = true
theorem getD_set_true {listed : Array Bool} {i j : Nat} (h : listed.getD i false = true) : (listed.setIfInBounds j true).getD i false = true := by
  by_cases e : j = i
  · subst e
    by_cases hlt : j < listed.size
    · simp [hlt]
    · simp [Array.getElem?_eq_none (Nat.le_of_not_lt hlt)] at h
  · rw [getD_set_ne false e]; exact h
theorem Closed.set {ops : Array Oper} {listed : Array Bool} (h : Closed ops listed) {j : Nat} (hj : j ∈ Region.ready .any ops listed) : Closed ops (listed.setIfInBounds j true) := fun k o ho hk e he hb => by
  by_cases hkj : j = k
  · subst hkj
    obtain ⟨_, o', ho', hall⟩ := mem_ready.1 hj
    rw [ho] at ho'
    cases ho'
    exact getD_set_true (hall e he hb)
  · rw [getD_set_ne false hkj] at hk
    exact getD_set_true (h k o ho hk e he hb)
theorem Closed.waits {ops : Array Oper} {listed : Array Bool} (h : Closed ops listed) : ∀ (n k i : Nat), listed.getD k false = true → waitsT ops n k i = true → listed.getD i false = true
  | 0, _, _, _, hw => by cases hw
  | n + 1, k, i, hk, hw => by
    unfold waitsT at hw
    split at hw
    · rename_i o ho
      obtain ⟨e, he, hb⟩ := Array.any_eq_true'.1 hw
      simp only [Bool.and_eq_true, Bool.or_eq_true, beq_iff_eq] at hb
      have h1 := h k o ho hk e he hb.1
      rcases hb.2 with e1 | h2
      · rw [← e1]; exact h1
      · exact Closed.waits h n _ _ h1 h2
    · cases hw
theorem Closed.ready {ops : Array Oper} {listed : Array Bool} (h : Closed ops listed) {n j i : Nat} (hj : j ∈ Region.ready .any ops listed) (hw : waitsT ops n j i = true) : listed.getD i false = true := by
  obtain ⟨_, o, ho, hall⟩ := mem_ready.1 hj
  cases n with
  | zero => cases hw
  | succ n =>
    unfold waitsT at hw
    rw [ho] at hw
    obtain ⟨e, he, hb⟩ := Array.any_eq_true'.1 hw
    simp only [Bool.and_eq_true, Bool.or_eq_true, beq_iff_eq] at hb
    have h1 := hall e he hb.1
    rcases hb.2 with e1 | h2
    · rw [← e1]; exact h1
    · exact h.waits n _ _ h1 h2

theorem wpAnyT_takeT {P : Program} {ops : Array Oper} {Q : Exit → Act → World → Prop} {S R : World → Prop} {ks : List Nat} {i : Nat} {oi : Oper} {v : Value} (hi : ops[i]? = some oi) (hsel : Region.noSelect ops = true)
    (hQ : ∀ c a w, Q (.panic c) (a.put oi.dst v) w → Q (.panic c) a w) (hk : (R = S ∧ ∀ k ∈ ks, ∃ n, waitsT ops n k i = true) ∨ ∀ w, R w) :
    ∀ (fuel : Nat) (listed : Array Bool) (a : Act) (w : World), Closed ops listed →
      (∀ j oj, ops[j]? = some oj → j ≠ i → listed.getD j true = false → (∀ e ∈ oj.after, Region.binds .any e = true → e.on ≠ i) → oi.apart ops oj = true) →
      i ∈ Region.ready .any ops listed → YieldsIf P ops R oi v a → R w →
      wpAnyT P ops Q S ks fuel (listed.setIfInBounds i true) (a.put oi.dst v) w → wpAnyT P ops Q S ks (fuel + 1) listed a w := by
  have hsel' := Region.noSelect_spec hsel
  intro fuel
  induction fuel with
  | zero =>
    intro listed a w _ _ hr hy hS H
    refine ⟨fun h => (by rw [h] at hr; cases hr), fun j hj => ?_⟩
    by_cases hji : j = i
    · subst hji; exact hy.wpOp hi hS ⟨fun _ h => h, H⟩
    · have := ready_mono hj hji
      rw [H.1] at this
      cases this
  | succ fuel ih =>
    intro listed a w hcl hfree hr hy hS H
    refine ⟨fun h => (by rw [h] at hr; cases hr), fun j hj => ?_⟩
    by_cases hji : j = i
    · subst hji; exact hy.wpOp hi hS ⟨fun _ h => h, H⟩
    obtain ⟨hjun, oj, hoj, hall⟩ := mem_ready.1 hj
    have hiun : ¬ listed.getD i false = true := fun h1 => by
      have h0 := (mem_ready.1 hr).1
      rcases Nat.lt_or_ge i listed.size with h' | h'
      · simp [h'] at h0 h1; rw [h0] at h1; cases h1
      · simp [Array.getElem?_eq_none h'] at h1
    have hnot : ∀ e ∈ oj.after, Region.binds .any e = true → e.on ≠ i := fun e he hb heq => hiun (heq ▸ hall e he hb)
    have hjk : (∀ k ∈ ks, ∃ n, waitsT ops n k i = true) → j ∉ ks := fun hk hm => by
      obtain ⟨n, hk⟩ := hk j hm
      exact hiun (hcl.ready hj hk)
    have h2 := wpOp_putIf hoj (hfree j oj hoj hji hjun hnot) (fun cs b => hsel' i oi cs b hi) (fun cs b => hsel' j oj cs b hoj) hQ hy (H.2 j (ready_mono hj hji))
    have hfree' : ∀ k ok, ops[k]? = some ok → k ≠ i → (listed.setIfInBounds j true).getD k true = false →
        (∀ e ∈ ok.after, Region.binds .any e = true → e.on ≠ i) → oi.apart ops ok = true := fun k ok hk hki hun hno => by
      refine hfree k ok hk hki ?_ hno
      by_cases hjk : j = k
      · subst hjk; exact hjun
      · rw [getD_set_ne true hjk] at hun; exact hun
    refine wpOp_mono (fun a' w' h3 => ?_) h2
    have hR : R w' := by
      rcases hk with ⟨rfl, hk⟩ | hk
      · exact h3.2.1 (hjk hk) hS
      · exact hk w'
    refine ⟨h3.2.1, ih (listed.setIfInBounds j true) a' w' (hcl.set hj) hfree' (ready_mono hr (Ne.symm hji)) h3.1 hR ?_⟩
    rw [Array.setIfInBounds_comm _ _ hji]
    exact h3.2.2

/-! ### Operations of the first part -/
/-- Operations that make something and write nothing. -/
def mkA : Op → Bool
  | .alloc _ | .box .. | .buildSlice .. => true
  | _ => false
/-- May the load be taken first? -/
def keptK (keys : List Nat) : AV → Bool
  | .ptr k _ _ => keys.contains k
  | .el k _ _ _ _ _ => keys.contains k
  | _ => false
def SameO (L : AHeap) (keys : List Nat) (w w' : World) : Prop := ∀ g, OwnK L keys g → w'.heap[g]? = w.heap[g]?
def aopE (C : Cx) (keys : List Nat) (o : Oper) (env : List AV) (L : AHeap) (K : AV → AHeap → Prop) (KP : Value → AHeap → Prop) : Prop :=
  match o.op with
  | .call { callee := .value x, args, .. } => match afun (aeval env x) with
    | some f => evalsK env args.toList fun vs => ACallE C keys f vs L K KP
    | none => False
  | .load t x => match keptK keys (aeval env x) with
    | true => aopF C { o with op := .load t x } env L K
    | false => False
  | op => match movA op, mkA op with
    | true, _ => aopF C o env L K
    | false, true => aopF C o env L K
    | _, _ => False

theorem aptr_keptK {imm : Nat → Prop} {w : World} {L : AHeap} {keys : List Nat} (hs : Sat imm w L) {p : AV} {v : Value} (hp : VR imm w p v) {K : List AV → Prop} (h : aptr L p K) (hk : keptK keys p = true) :
    ∃ a cs vs, v = .pointer (some a) ∧ K cs ∧ VRs imm w cs vs ∧ OwnK L keys a.block ∧ ∀ (j : Nat) (u : Value), vs[j]? = some u → w.cell? (a.add j) = some u := by
  cases hp with
  | ptr k g off =>
    have hkk : k ∈ keys := by simpa [keptK] using hk
    obtain ⟨a, cs, vs, h1, h2, h3, h4, h5⟩ := aptr_sound hs (.ptr k g off) h
    cases h1
    simp only [aptr] at h
    split at h
    · rename_i g' t cs' hl
      obtain ⟨rfl, _⟩ := h
      exact ⟨_, cs, vs, rfl, h2, h3, ⟨k, _, hkk, hl, trivial⟩, h5⟩
    · exact h.elim
  | el k g C sz i off =>
    have hkk : k ∈ keys := by simpa [keptK] using hk
    obtain ⟨a, cs, vs, h1, h2, h3, h4, h5⟩ := aptr_sound hs (.el k g C sz i off) h
    cases h1
    simp only [aptr] at h
    split at h
    · rename_i g' e sz' C' xs hl
      obtain ⟨rfl, _⟩ := h
      exact ⟨_, cs, vs, rfl, h2, h3, ⟨k, _, hkk, hl, trivial⟩, h5⟩
    · exact h.elim
  | _ => cases hk

theorem aopE_move {C : Cx} (hC : C.Ok) {keys : List Nat} {o : Oper} (hm : movA o.op = true) {env : List AV} {L : AHeap} {K : AV → AHeap → Prop} {KP : Value → AHeap → Prop} (h : aopE C keys o env L K KP) {imm : Nat → Prop} {w : World} {a : Act} (hG : C.G imm w) (hs : Sat imm w L) (he : EnvR imm w env a.tmps) :
    ∃ v x, (∀ w', SameO L keys w w' → (execOp a.eval o).run C.P w' = .ok (.value v) w') ∧ VR imm w x v ∧ K x L := by
  unfold aopE at h
  split at h
  · rename_i x args ts ho; rw [ho] at hm; cases hm
  · rename_i t x ho
    split at h
    case h_2 => exact h.elim
    rename_i hkept
    rw [aopF_fun] at h
    unfold aop at h
    simp only at h
    split at h
    case h_2 => exact h.elim
    rename_i ti ht
    have hti := tiOf_spec (hC.types _ _ ht)
    obtain ⟨ad, cs, vs, hv, h, hvs, him, hc⟩ := aptr_keptK hs (aeval_VR he x) h hkept
    unfold aloadT at h
    split at h
    case isFalse => exact h.elim
    rename_i hle
    obtain ⟨v, hr, hag, hone⟩ := run_loadVar_any (a := ad) hti hvs hle
    have hrun : ∀ w', SameO L keys w w' → (execOp a.eval o).run C.P w' = .ok (.value v) w' := fun w' hsame => by
      have := hr w' (fun j u hj => by
        rw [World.cell?_of_block (w := w)]
        · exact hc j u hj
        · rw [show (ad.add j).block = ad.block by unfold Addr.add; split <;> rfl]; exact hsame _ him)
      simp [execOp, ho, Instr.loadAt, hv, Instr.sureAddr, this]
    split at h
    · rename_i hagg
      refine ⟨_, _, hrun, ?_, h⟩
      rw [hag hagg]
      have := hvs.take ti.size
      exact .agg _ _ this.len this.one this.at_
    · rename_i hagg
      obtain ⟨u, hu, rfl⟩ := hone (by simpa using hagg)
      split at h
      · rename_i c rest
        exact ⟨_, _, hrun, hvs.at_ 0 c v rfl hu, h⟩
      · exact h.elim
  · rename_i hnc hnl
    rw [hm] at h
    simp only [aopF_fun] at h
    obtain ⟨v, x, hr, hx, hk⟩ := aop_move hC hm h hG hs he
    refine ⟨v, x, fun w' _ => hr w' fun hl => ?_, hx, hk⟩
    cases ho : o.op with
    | load t x => exact absurd ho (hnl t x)
    | _ => rw [ho] at hl; cases hl

theorem mk_at {C : Cx} (hC : C.Ok) {o : Oper} (hm : mkA o.op = true) {env : List AV} {L : AHeap} {K : AV → AHeap → Prop} (h : aop C o env L K) {imm : Nat → Prop} {w : World} {a : Act} (he : EnvR imm w env a.tmps) :
    ∃ v ob, (execOp a.eval o).run C.P w = .ok (.value v) (w.alloc ob) := by
  unfold aop at h
  cases ho : o.op with
  | box t x =>
    rw [ho] at h
    exact ⟨.pointer (some ⟨w.heap.size, 0, none⟩), .cells (a.eval x).cells t, by simp [execOp, ho, Instr.box, newVar, newRow]⟩
  | alloc t =>
    rw [ho] at h
    simp only at h
    split at h
    case h_2 => exact h.elim
    rename_i ti ht
    obtain ⟨i, d, z, hi, hd, hz, hsz, hag, hzs, h1, hzo, _, _⟩ := (tiOf_spec (hC.types _ _ ht)).ok
    exact ⟨.pointer (some ⟨w.heap.size, 0, none⟩), .cells z.cells t, by simp [execOp, ho, Instr.alloc, zeroValue, typeInfo, hi, hz, newVar, newRow]⟩
  | buildSlice t len parts =>
    rw [ho] at h
    simp only at h
    split at h
    case h_2 => exact h.elim
    rename_i e sz by_ ea zs ht
    split at h
    case isTrue =>
      rename_i hemp
      simp only [Bool.and_eq_true, beq_iff_eq, List.isEmpty_iff] at hemp
      obtain ⟨rfl, hpe⟩ := hemp
      have hpe' : parts = #[] := by rw [← Array.toArray_toList (xs := parts), hpe]
      subst hpe'
      obtain ⟨hu, j, ze, hj, hsz, hby, hze, hzs, hs0, _, _⟩ := tiOf_slice (hC.types _ _ ht)
      exact ⟨.slice (some ⟨w.heap.size, 0, none⟩) 0 0, .cells #[] e, by simp [execOp, ho, Instr.buildSlice, run_underlying hu, sizeOf, typeInfo, hj, Instr.fill, newRow]; congr 2; exact Array.eq_empty_of_size_eq_zero (by simp)⟩
    split at h
    case isFalse => exact h.elim
    rename_i hcond
    simp only [Bool.and_eq_true, beq_iff_eq, decide_eq_true_eq] at hcond
    obtain ⟨⟨⟨⟨hp, hlen⟩, hpos⟩, hsmall⟩, hlenm⟩ := hcond
    obtain ⟨hu, j, ze, hj, hsz, hby, hze, hzs, hs0, _, _⟩ := tiOf_slice (hC.types _ _ ht)
    obtain ⟨a1, a2, a3, a4⟩ := partsOk_spec (imm := imm) (w := w) (parts.toList.map fun p => (p.1, aeval env p.2)) (parts.toList.map fun p => a.eval p.2) 0 hp (by simp) (fun k p v hp hv => by
      rw [List.getElem?_map] at hp hv
      cases hj : parts.toList[k]? with
      | none => simp [hj] at hp
      | some y =>
        simp [hj] at hp hv
        subst hp; subst hv
        exact aeval_VR he y.2)
    simp only [List.map_map, Function.comp_def] at a1 a4
    simp only [List.length_map] at a1
    have hzip : (parts.map fun (i, x) => (i, a.eval x)).toList = ((parts.toList.map fun p => a.eval p.2).zipIdx 0).map fun x => (x.2, x.1) := by
      apply List.ext_getElem?
      intro k
      rw [Array.toList_map, List.getElem?_map, List.getElem?_map, List.getElem?_zipIdx, List.getElem?_map]
      cases hj : parts.toList[k]? with
      | none => simp
      | some y =>
        have : (parts.toList.map fun p => p.1)[k]? = some y.1 := by simp [hj]
        rw [a1] at this
        have hk : k < parts.toList.length := (List.getElem?_eq_some_iff.1 hj).1
        rw [List.getElem?_range' hk] at this
        simp at this
        simp [← this]
    have hfill := Great.fill_whole (s := sz) hs0 (parts.toList.map fun p => a.eval p.2) ((Array.range (len * sz)).map (ze.cells[· % ze.cells.size]!)) a3 (by simp [← hlen])
    rw [← hzip] at hfill
    have hr := run_buildSlice (P := C.P) w t e len (parts.map fun (i, x) => (i, a.eval x)) _ j ze hu hj hze (by rw [hsz]; omega) (by rw [hsz]; omega) (by rw [hsz]; exact hfill)
    exact ⟨.slice (some ⟨w.heap.size, 0, none⟩) len len, _, by simp only [execOp, ho]; rw [Sem.run_bind, hr]; rfl⟩
  | _ => rw [ho] at hm; cases hm

/-- What is made leaves all that was as it was. -/
theorem mk_run {C : Cx} (hC : C.Ok) {o : Oper} (hm : mkA o.op = true) {env : List AV} {L : AHeap} {K : AV → AHeap → Prop} (h : aop C o env L K) {imm : Nat → Prop} {w : World} {a : Act} (hG : C.G imm w) (hs : Sat imm w L) (he : EnvR imm w env a.tmps)
    {next : Act → World → Prop} {Q : Exit → Act → World → Prop}
    (hn : ∀ x L' imm' v w', K x L' → Sat imm' w' L' → VR imm' w' x v → Tr (Own L) imm w (Own L') imm' w' → (∀ g, g < w.heap.size → w'.heap[g]? = w.heap[g]?) → next (a.put o.dst v) w') : o.wp C.P a w next Q := by
  obtain ⟨v, ob, hr⟩ := mk_at hC hm h he
  have key := aop_sound hC h hG hs he (next := fun a' w' => (∀ g, g < w.heap.size → w'.heap[g]? = w.heap[g]?) → next a' w') (Q := Q) (fun x L' imm' v w' hk hs' hx ht hg => hn x L' imm' v w' hk hs' hx ht hg)
  unfold Oper.wp at key ⊢
  rw [hr, Oper.upon_value] at key ⊢
  exact key (fun g hg => (World.grownBy_alloc w ob none).block g hg (by simp))

theorem mk_ext {C : Cx} {o : Oper} (hm : mkA o.op = true) {env : List AV} {L : AHeap} {K : AV → AHeap → Prop} (h : aop C o env L K) : aop C o env L fun x L' => K x L' ∧ ∃ M, L' = L ++ M := by
  unfold aop at h ⊢
  cases ho : o.op with
  | box t x =>
    simp only [ho] at h ⊢
    cases hc : cellsA (aeval env x) with
    | none => rw [hc] at h; exact h.elim
    | some cs => rw [hc] at h; exact fun g => ⟨h g, _, rfl⟩
  | alloc t =>
    simp only [ho] at h ⊢
    cases hc : C.T t with
    | none => rw [hc] at h; exact h.elim
    | some cs => rw [hc] at h; exact fun g => ⟨h g, _, rfl⟩
  | buildSlice t len parts =>
    simp only [ho] at h ⊢
    cases hc : C.T t with
    | none => rw [hc] at h; exact h.elim
    | some ti =>
      rw [hc] at h
      cases ti with
      | slice e sz by_ ea zs =>
        simp only at h ⊢
        split at h
        · rename_i h1; rw [if_pos h1]; exact fun g => ⟨h g, _, rfl⟩
        · rename_i h1; rw [if_neg h1]
          split at h
          · rename_i h2; rw [if_pos h2]; exact fun g => ⟨h g, _, rfl⟩
          · exact h.elim
      | _ => exact h.elim
  | _ => rw [ho] at hm; cases hm
theorem OwnK.app {L M : AHeap} {keys : List Nat} {g : Nat} (h : OwnK L keys g) : OwnK (L ++ M) keys g := by
  obtain ⟨k, o, hk, hl, ho⟩ := h
  exact ⟨k, o, hk, by rw [List.getElem?_append_left (List.getElem?_eq_some_iff.1 hl).1]; exact hl, ho⟩

theorem aopE_sound {C : Cx} (hC : C.Ok) {keys : List Nat} {o : Oper} {env : List AV} {L : AHeap} {K : AV → AHeap → Prop} {KP : Value → AHeap → Prop} (h : aopE C keys o env L K KP) {imm : Nat → Prop} {w : World} {a : Act} (hG : C.G imm w) (hs : Sat imm w L) (he : EnvR imm w env a.tmps)
    {next : Act → World → Prop} {Q : Exit → Act → World → Prop}
    (hn : ∀ x L' imm' v w', K x L' → Sat imm' w' L' → VR imm' w' x v → Tr (Own L) imm w (Own L') imm' w' → SameO L keys w w' → (∀ k ∈ keys, ∀ x, L[k]? = some x → L'[k]? = some x) → next (a.put o.dst v) w')
    (hp : ∀ v L' imm' w', KP v L' → Sat imm' w' L' → Tr (Own L) imm w (Own L') imm' w' → Q (.panic (chain1 v)) a w') : o.wp C.P a w next Q := by
  by_cases hm : movA o.op = true
  · obtain ⟨v, x, hr, hx, hk⟩ := aopE_move hC hm h hG hs he
    exact wp_value (hr w (fun _ _ => rfl)) (hn _ _ _ _ _ hk hs hx (Tr.refl _ _ _) (fun _ _ => rfl) (fun _ _ _ h => h))
  unfold aopE at h
  split at h
  · rename_i x args ts ho
    have hx := aeval_VR he x
    split at h
    case h_2 => exact h.elim
    rename_i f hfx
    rw [evalsK_eq] at h
    have hxv := afun_VR hx hfx
    obtain ⟨hl, hv⟩ := args_VR he args
    obtain ⟨⟨fn, hf, hname, hb⟩, hc⟩ := ACallE.sound hC h hG hs hl hv
    rw [Array.toArray_toList] at hc
    unfold Oper.wp
    rw [run_call ho hxv hf hname hb, Oper.upon_enter]
    refine hc.mono fun e w'' hh => ?_
    rcases hh with ⟨v, r, L', imm', rfl, a1, a2, a3, a4, a5, a6⟩ | ⟨v, L', imm', rfl, a2, a3, a6⟩
    · exact hn r L' imm' v w'' a6 a2 a1 a3 (fun g hg => a4 g (.inr hg)) a5
    · exact hp v L' imm' w'' a6 a2 a3
  · rename_i t x ho; rw [ho] at hm; exact absurd rfl hm
  · have hm' : movA o.op = false := by cases hb : movA o.op; rfl; exact absurd hb hm
    rw [hm'] at h
    cases hk : mkA o.op with
    | false => rw [hk] at h; exact h.elim
    | true =>
      rw [hk] at h
      simp only [aopF_fun] at h
      refine mk_run hC hk (mk_ext hk h) hG hs he fun x L' imm' v w' hK hs' hx ht hold => ?_
      obtain ⟨hK, M, rfl⟩ := hK
      refine hn _ _ _ _ _ hK hs' hx ht (fun g hg => hold g ?_) (fun k _ x hx => by rw [List.getElem?_append_left (List.getElem?_eq_some_iff.1 hx).1]; exact hx)
      obtain ⟨k, o, _, hl, ho⟩ := hg
      exact hs.lt g ⟨k, o, hl, ho⟩

/-! ### The whole -/
def awpOrdE (C : Cx) (keys : List Nat) (ops : Array Oper) (KP : Value → AHeap → Prop) : List Nat → (List AV → AHeap → Prop) → List AV → AHeap → Prop
  | [], Q, env, L => Q env L
  | i :: rest, Q, env, L =>
    match ops[i]? with
    | none => False
    | some o => aoperG (fun o env L K => aopE C keys o env L K KP) ops o env L fun env' L' => awpOrdE C keys ops KP rest Q env' L'

/-- The order in which such a region is told: 'tail': what may write, at the end. -/
def orderOkE (ops : Array Oper) (tail : List Nat) : List Nat → Array Bool → Bool
  | [], listed => orderOkW ops tail listed && (List.range listed.size).all fun i => listed.getD i true || tail.contains i
  | i :: rest, listed =>
    match ops[i]? with
    | none => false
    | some o => ((movB true o.op && Region.free .any ops listed i && (Region.ready .any ops listed).contains i && (movB false o.op || tail.all fun k => waitsT ops ops.size k i)) || (Region.ready .any ops listed == [i])) && orderOkE ops tail rest (listed.setIfInBounds i true)

/-- What is asked behind a panic is all one of the slots that the region writes. -/
def Inv (ops : Array Oper) (Qc : Exit → Act → World → Prop) : Prop := ∀ (i : Nat) (o : Oper) (v : Value) (c : List PanicEntry) (a : Act) (w : World), ops[i]? = some o → Qc (.panic c) (a.put o.dst v) w → Qc (.panic c) a w

theorem awpOrdWI_sound {C : Cx} (hC : C.Ok) {F : Fr} {ops : Array Oper} {Q : List AV → AHeap → Prop} {Qc : Exit → Act → World → Prop} (hsel : Region.noSelect ops = true) (hQ : ∀ env L a w, Q env L → At C F env L a w → Qc .normal a w) (hinv : Inv ops Qc) :
    ∀ (order : List Nat) (fuel : Nat) (listed : Array Bool) (env : List AV) (L : AHeap) (a : Act) (w : World), order.length ≤ fuel → orderOkW ops order listed = true → lastOps C ops order Q env L →
      At C F env L a w → wpAnyH C.P .any ops Qc (fun _ => True) fuel listed a w
  | [], fuel, listed, env, L, a, w, _, hok, h, ha => by
    have : Region.ready .any ops listed = [] := by simpa [orderOkW] using hok
    exact wpAnyH_done this (hQ _ _ _ _ h ha) fuel
  | _ :: _, 0, _, _, _, _, _, hl, _, _, _ => by simp at hl
  | i :: rest, fuel + 1, listed, env, L, a, w, hl, hok, h, ha => by
    obtain ⟨imm, hst, hG⟩ := ha
    simp only [orderOkW] at hok
    simp only [lastOps, lastOp] at h
    cases ho : ops[i]? with
    | none => rw [ho] at h; exact h.elim
    | some o =>
      rw [ho] at h hok
      rw [aopF_fun] at h
      simp only [Bool.and_eq_true, Bool.or_eq_true] at hok
      obtain ⟨hthis, hrest⟩ := hok
      have hl' : rest.length ≤ fuel := by simpa using hl
      rcases hthis with ⟨⟨hm, hfree⟩, hready⟩ | hsing
      · simp only [movB, Bool.and_eq_true, Bool.or_eq_true, Bool.not_eq_true', Bool.false_eq_true, false_or] at hm
        obtain ⟨hmov, hload⟩ := hm
        have take : ∀ {v : Value} {x : AV}, YieldsIf C.P ops (fun _ => True) o v a → VR imm w x v → lastOps C ops rest Q (putA env o.dst x) L → wpAnyH C.P .any ops Qc (fun _ => True) (fuel + 1) listed a w := fun {v x} hy hx hk =>
          wpAnyH_take ho hsel hfree hready (fun c a w hp => hinv i o _ c a w ho hp) hy trivial (awpOrdWI_sound hC hsel hQ hinv rest fuel _ _ L _ w hl' hrest hk ⟨imm, hst.put hx o.dst, hG⟩)
        rcases aoperG_cases h hst.env with ⟨hw, h⟩ | ⟨hw, h⟩
        · obtain ⟨v, x, hr, hx, hk⟩ := aop_move hC hmov h hG hst.sat hst.env
          exact take (.inl ⟨hw, fun w' _ => hr w' (fun hl => by rw [hload] at hl; cases hl)⟩) hx hk
        · exact take (.inr ⟨hw, rfl⟩) undef_VR h
      · have hr : Region.ready .any ops listed = [i] := by simpa using hsing
        refine wpAnyH_all hr (by simp) (fun j hj => ?_)
        obtain rfl : j = i := by simpa using hj
        unfold wpOp
        rw [ho]
        dsimp only
        rcases aoperG_cases h hst.env with ⟨hw, h⟩ | ⟨hw, h⟩
        · rw [if_pos hw]
          refine .inl (aop_sound hC h hG hst.sat hst.env fun x L' imm' v w' hk hs hx ht => ⟨trivial, awpOrdWI_sound hC hsel hQ hinv rest fuel _ _ L' _ w' hl' hrest hk ?_⟩)
          exact At.next hC hst hG hs hx ht o.dst
        · rw [if_neg (by rw [hw]; simp)]
          exact ⟨trivial, awpOrdWI_sound hC hsel hQ hinv rest fuel _ _ L _ w hl' hrest h ⟨imm, hst.put undef_VR o.dst, hG⟩⟩

theorem OwnK.back {L L' : AHeap} {keys : List Nat} (hk : ∀ k ∈ keys, ∀ x, L[k]? = some x → L'[k]? = some x) (hin : ∀ k ∈ keys, ∃ x, L[k]? = some x) (g : Nat) : OwnK L' keys g ↔ OwnK L keys g := by
  constructor
  · rintro ⟨k, o, hm, hl, ho⟩
    obtain ⟨x, hx⟩ := hin k hm
    have := hk k hm x hx
    rw [hl] at this
    exact ⟨k, o, hm, by rw [hx, ← this], ho⟩
  · rintro ⟨k, o, hm, hl, ho⟩
    exact ⟨k, o, hm, hk k hm _ hl, ho⟩

theorem awpOrdE_sound {C : Cx} (hC : C.Ok) {F : Fr} {keys ks : List Nat} {ops : Array Oper} {J : List AV} {Q : List AV → AHeap → Prop} {KP : Value → AHeap → Prop} {Qc : Exit → Act → World → Prop} (hsel : Region.noSelect ops = true) (hQ : ∀ env L a w, Q env L → At C F env L a w → Qc .normal a w)
    (hJ : Blind ops J) (hP : ∀ v L a w, KP v L → At C F J L a w → Qc (.panic (chain1 v)) a w) (hinv : Inv ops Qc) :
    ∀ (order : List Nat) (fuel : Nat) (listed : Array Bool) (env : List AV) (L : AHeap) (a : Act) (w : World) (imm : Nat → Prop) (S : World → Prop), (∀ w', S w' ↔ SameO L keys w w') → (∀ k ∈ keys, ∃ x, L[k]? = some x) → order.length + ks.length ≤ fuel → orderOkE ops ks order listed = true → awpOrdE C keys ops KP order (lastOps C ops ks Q) env L →
      wk env J → Closed ops listed → St F.ds F.own F.imm F.w env L imm a w → C.G imm w → wpAnyT C.P ops Qc S ks fuel listed a w
  | [], fuel, listed, env, L, a, w, imm, S, hS, _, hl, hok, h, _, _, hst, hG => by
    simp only [orderOkE, Bool.and_eq_true] at hok
    obtain ⟨hok, hall⟩ := hok
    refine wpAnyT_of_any fuel listed a w (fun i hi => ?_) (awpOrdWI_sound hC hsel hQ hinv ks fuel listed env L a w (by simpa using hl) hok h ⟨imm, hst, hG⟩)
    by_cases hlt : i < listed.size
    · have := List.all_eq_true.1 hall i (List.mem_range.2 hlt)
      rw [hi] at this
      simpa using this
    · simp [Array.getElem?_eq_none (Nat.le_of_not_lt hlt)] at hi
  | _ :: _, 0, _, _, _, _, _, _, _, _, _, hl, _, _, _, _, _, _ => by simp at hl
  | i :: rest, fuel + 1, listed, env, L, a, w, imm, S, hS, hin, hl, hok, h, hwk, hcl, hst, hG => by
    simp only [orderOkE] at hok
    simp only [awpOrdE] at h
    cases ho : ops[i]? with
    | none => rw [ho] at h; exact h.elim
    | some o =>
      rw [ho] at h hok
      simp only [Bool.and_eq_true, Bool.or_eq_true] at hok
      obtain ⟨hthis, hrest⟩ := hok
      have hl' : rest.length + ks.length ≤ fuel := by simp at hl; omega
      have hwk' : ∀ x, wk (putA env o.dst x) J := fun x => wk_putA hwk fun t y hd hy => hJ.at_ i o t y ho hd hy
      have hS0 : S w := (hS w).2 fun _ _ => rfl
      rcases hthis with ⟨⟨⟨hm, hfree⟩, hready⟩, hwait⟩ | hsing
      · have hmov : movA o.op = true := by simp only [movB, Bool.and_eq_true] at hm; exact hm.1
        have hready' : i ∈ Region.ready .any ops listed := by simpa using hready
        have go : ∀ {R : World → Prop} {v : Value} {x : AV}, ((R = S ∧ ∀ k ∈ ks, ∃ n, waitsT ops n k i = true) ∨ ∀ w, R w) → R w → YieldsIf C.P ops R o v a → VR imm w x v → awpOrdE C keys ops KP rest (lastOps C ops ks Q) (putA env o.dst x) L → wpAnyT C.P ops Qc S ks (fuel + 1) listed a w := fun {R v x} hk hR hy hx hK =>
          wpAnyT_takeT ho hsel (fun c a w hp => hinv i o _ c a w ho hp) hk fuel listed a w hcl (Region.free_spec ho hfree) hready' hy hR
            (awpOrdE_sound hC hsel hQ hJ hP hinv rest fuel _ _ L _ w imm S hS hin hl' hrest hK (hwk' x) (hcl.set hready') (hst.put hx o.dst) hG)
        rcases hwait with hpure | hwait
        · have hload : isLoad o.op = false := by simp only [movB, Bool.and_eq_true, Bool.false_or, Bool.not_eq_true'] at hpure; exact hpure.2
          rcases aoperG_cases h hst.env with ⟨hw, h⟩ | ⟨hw, h⟩
          · have hP2 : aopE C keys o env L (fun v L' => awpOrdE C keys ops KP rest (lastOps C ops ks Q) (putA env o.dst v) L') KP := h
            have hA : aop C o env L (fun v L' => awpOrdE C keys ops KP rest (lastOps C ops ks Q) (putA env o.dst v) L') := by
              unfold aopE at hP2
              split at hP2
              · rename_i e; rw [e] at hmov; cases hmov
              · rename_i e; rw [e] at hload; cases hload
              · rw [hmov] at hP2
                rw [aopF_fun] at hP2
                exact hP2
            obtain ⟨v, x, hr, hx, hk⟩ := aop_move hC hmov hA hG hst.sat hst.env
            exact go (R := fun _ => True) (.inr fun _ => trivial) trivial (.inl ⟨hw, fun w' _ => hr w' (fun hl => by rw [hload] at hl; cases hl)⟩) hx hk
          · exact go (R := fun _ => True) (.inr fun _ => trivial) trivial (.inr ⟨hw, rfl⟩) undef_VR h
        · have hwait' : ∀ k ∈ ks, ∃ n, waitsT ops n k i = true := fun k hk => ⟨_, List.all_eq_true.1 hwait k hk⟩
          rcases aoperG_cases h hst.env with ⟨hw, h⟩ | ⟨hw, h⟩
          · obtain ⟨v, x, hr, hx, hk⟩ := aopE_move hC hmov h hG hst.sat hst.env
            exact go (R := S) (.inl ⟨rfl, hwait'⟩) hS0 (.inl ⟨hw, fun w' hw' => hr w' ((hS w').1 hw')⟩) hx hk
          · exact go (R := S) (.inl ⟨rfl, hwait'⟩) hS0 (.inr ⟨hw, rfl⟩) undef_VR h
      · have hr : Region.ready .any ops listed = [i] := by simpa using hsing
        refine ⟨fun h0 => absurd (hr.symm.trans h0) (by simp), fun j hj => ?_⟩
        have hj' := hj
        rw [hr] at hj
        obtain rfl : j = i := by simpa using hj
        unfold wpOp
        rw [ho]
        dsimp only
        rcases aoperG_cases h hst.env with ⟨hw, h⟩ | ⟨hw, h⟩
        · rw [if_pos hw]
          refine .inl (aopE_sound hC h hG hst.sat hst.env (fun x L' imm' v w' hk hs hx ht hsame hown => ?_) (fun v L' imm' w' hk hs ht => ?_))
          · have hst' := (hst.step hs ht).put hx o.dst
            have hG' := hC.mono _ _ _ _ hG ht.imm1 (ht.immblock hst.sat.far hst.sat.immlt)
            have hback := OwnK.back hown hin
            refine ⟨fun _ _ => (hS _).2 hsame, awpOrdE_sound hC hsel hQ hJ hP hinv rest fuel _ _ L' _ w' imm' S (fun w2 => (hS w2).trans ⟨fun h2 g hg => ?_, fun h2 g hg => ?_⟩) (fun k hk => ?_) hl' hrest hk (hwk' _) (hcl.set hj') hst' hG'⟩
            · rw [h2 g ((hback g).1 hg), hsame g ((hback g).1 hg)]
            · rw [h2 g ((hback g).2 hg), hsame g hg]
            · obtain ⟨x, hx⟩ := hin k hk
              exact ⟨x, hown k hk x hx⟩
          · exact hP _ _ _ _ hk (At.wk ⟨imm', hst.step hs ht, hC.mono _ _ _ _ hG ht.imm1 (ht.immblock hst.sat.far hst.sat.immlt)⟩ hwk)
        · rw [if_neg (by rw [hw]; simp)]
          exact ⟨fun _ h => h, awpOrdE_sound hC hsel hQ hJ hP hinv rest fuel _ _ L _ w imm S hS hin hl' hrest h (hwk' _) (hcl.set hj') (hst.put undef_VR o.dst) hG⟩

/-- The rest of a region that draws its order, with calls that may panic; 'J': what is known of the slots where one does. -/
structure OrdE (C : Cx) (Q : Exit → List AV → AHeap → Prop) (k : List Frame) (keys : List Nat) (ops : Array Oper) (J : List AV) (rest : List Nat) (env : List AV) (L : AHeap) : Prop where
  ok : awpOrdE C keys ops (fun v L => after C Q k (.panic (chain1 v)) J L) rest (after C Q k .normal) env L
/-- What is asked behind such a region. -/
def QE (C : Cx) (F : Fr) (Q : Exit → List AV → AHeap → Prop) (J : List AV) : Exit → Act → World → Prop := fun e a w =>
  match e with
  | .panic c => ∃ v L, c = chain1 v ∧ Q (.panic c) J L ∧ At C F J L a w
  | e => QC C F Q e a w

section
variable {C : Cx} {Q : Exit → List AV → AHeap → Prop} {k : List Frame} {env : List AV} {L : AHeap}
theorem after_ops_panic (ops : Array Oper) (ch : List PanicEntry) : ∀ ks : List Nat, after C Q (ks.map (Frame.op ops) ++ k) (.panic ch) = after C Q k (.panic ch)
  | [] => rfl
  | i :: ks => by
    funext env L
    show after C Q (ks.map (Frame.op ops) ++ k) (.panic ch) env L = _
    rw [after_ops_panic ops ch ks]
theorem Run.drawnE (hC : C.Ok) {id : Nat} {ops : Array Oper} (keys ks : List Nat) (order : List Nat) (hc : (Region.noSelect ops && orderOkE ops ks order (Array.replicate ops.size false) && decide (order.length + ks.length ≤ ops.size)) = true) (hk : (keys.all fun k => (L[k]?).isSome) = true)
    (h : force (junkD ops env) fun J => OrdE C Q (ks.map (Frame.op ops) ++ k) keys ops J order env L) : Run C Q k (.region id ops true) env L :=
  Run.sem1 fun F a w ha => by
    rw [force_eq] at h
    have h := h.ok
    rw [after_ops] at h
    simp only [Bool.and_eq_true, decide_eq_true_eq] at hc
    obtain ⟨imm, hst, hG⟩ := ha.drew hC
    have hJ := junkD_blind ops env
    refine Code.wp_mono (Q := QE C F (after C Q k) (junkD ops env)) (fun e a w hq => ?_) (wp_region_any hC.mixed (wpAnyT_any _ _ _ _ (awpOrdE_sound (Qc := QE C F (after C Q k) (junkD ops env)) (J := junkD ops env) (ks := ks) hC hc.1.1 (fun env L a w hq ha => ⟨env, L, ha, hq⟩) hJ (fun v L a w hk ha => ?_) (fun i o v c a w ho hq => ?_) order ops.size _ env L a w.drew imm _ (fun _ => Iff.rfl) (fun k hm => ?_) hc.2 hc.1.2 h (junkD_wk ops env) (fun j o _ hj => ?_) hst hG)))
    · cases e with
      | panic c => obtain ⟨v, L, rfl, hk, ha⟩ := hq; exact ⟨_, L, ha, hk⟩
      | _ => exact hq
    · rw [after_ops_panic] at hk
      exact ⟨v, L, rfl, hk, ha⟩
    · obtain ⟨v', L, rfl, hk, ha⟩ := hq
      exact ⟨v', L, rfl, hk, ha.unput fun t y hd hy => hJ.at_ i o t y ho hd hy⟩
    · have := List.all_eq_true.1 hk k hm
      exact Option.isSome_iff_exists.1 this
    · exfalso
      rcases Nat.lt_or_ge j ops.size with h' | h'
      · simp [h'] at hj
      · simp [h'] at hj
theorem OrdE.nil {keys : List Nat} {ops : Array Oper} {J : List AV} (h : Cont C Q k .normal env L) : OrdE C Q k keys ops J [] env L := ⟨h.ok⟩
theorem OrdE.cons {keys : List Nat} {ops : Array Oper} {J : List AV} {i : Nat} {rest : List Nat} {o : Oper} (ho : ops[i]? = some o) (h : aoperG (fun o env L K => aopE C keys o env L K fun v L' => Cont C Q k (.panic (chain1 v)) J L') ops o env L fun env' L' => OrdE C Q k keys ops J rest env' L') : OrdE C Q k keys ops J (i :: rest) env L := by
  have e : (fun env' L' => OrdE C Q k keys ops J rest env' L') = fun env' L' => awpOrdE C keys ops (fun v L => after C Q k (.panic (chain1 v)) J L) rest (after C Q k .normal) env' L' := by
    funext env' L'
    exact propext ⟨fun h => h.ok, fun h => ⟨h⟩⟩
  have e2 : (fun (v : Value) (L' : AHeap) => Cont C Q k (.panic (chain1 v)) J L') = fun v L' => after C Q k (.panic (chain1 v)) J L' := by
    funext v L'
    exact propext ⟨fun h => h.ok, fun h => ⟨h⟩⟩
  rw [e, e2] at h
  refine ⟨?_⟩
  unfold awpOrdE
  rw [ho]
  exact h
end
end Go.Proofs.YtfohedaadncefaaDoor.HB
/- Functions that defer one closure that recovers. -/
namespace Go.Proofs.YtfohedaadncefaaDoor.HB
open Go

/-- What the closure finds: nothing, or the panic's value. -/
inductive Rec : FrameMode → FrameMode → Value → Prop where
  | none : Rec .returning .returning .nilIface
  | some (v : Value) : Rec (.panicking (chain1 v)) (.panicking [{ v, recovered := true }]) v
theorem Rec.settle {u u1 : FrameMode} {x : Value} (h : Rec u u1 x) : Go.settle u1 = .returning := by
  cases h <;> rfl
theorem Rec.not_run {u u1 : FrameMode} {x : Value} (h : Rec u u1 x) : u ≠ .run := by
  cases h <;> simp
theorem Rec.mode {u u1 : FrameMode} {x : Value} (h : Rec u u1 x) (c₀ : Go.Frame) (cs : List Go.Frame) (hu : c₀.mode = u) :
    ∃ cs', cs' = { c₀ with mode := u1 } :: cs ∧ (∀ (K : Value → List Go.Frame → Prop), K x cs' → match recoverD (c₀ :: cs) with
      | .some (v, cs') => K v cs'
      | .none => K .nilIface (c₀ :: cs)) := by
  refine ⟨_, rfl, fun K hk => ?_⟩
  cases h with
  | none =>
    simp only [recoverD, hu]
    have : ({ c₀ with mode := .returning } : Go.Frame) = c₀ := by rw [← hu]
    rw [this] at hk
    exact hk
  | some v =>
    simp only [recoverD, hu]
    exact hk

/-- The closure, called behind the function's end. -/
theorem callsD_clo {C : Cx} (hC : C.Ok) {f : FuncId} {fn : Func} {id : Nat} {o1 o2 : Oper} {rest : Code} {n d1 d2 : Nat} (hf : C.P.funcs[f]? = some fn) (hb : fn.body = some (.seq (.region id #[o1, o2] false) rest)) (hn : fn.ntmps = n) (hres : fn.results = #[])
    (h1 : o1.op = .call { callee := .builtin .recover, args := #[], argTypes := #[] }) (hd1 : o1.dst = some d1) (hg1 : o1.guard = none) (h2 : o2.op = .assign (.tmp d1)) (hd2 : o2.dst = some d2) (hg2 : o2.guard = none) (hdn : d1 < n)
    {args : List AV} {vs : List Value} {L : AHeap} {u u1 : FrameMode} {x : Value} (hrec : Rec u u1 x) {imm : Nat → Prop} {w : World} (hG : C.G imm w) (hs : Sat imm w L) (hl : vs.length = args.length)
    (hv : ∀ (j : Nat) (x : AV) (v : Value), args[j]? = some x → vs[j]? = some v → VR imm w x v) {Q : AHeap → Prop}
    (h : force (putA (putA (args ++ List.replicate (n - args.length) .junk) (some d1) (.any x)) (some d2) (.any x)) fun env => Run C (fun e _ L => match e with | .normal | .ret => Q L | _ => False) [] rest env L) :
    CallsD C.P f vs.toArray u w fun e u' w' => e = .returned (.tuple #[]) ∧ u' = u1 ∧ ∃ imm' L', Sat imm' w' L' ∧ Tr (Own L) imm w (Own L') imm' w' ∧ Q L' := by
  rw [force_eq] at h
  have h := h.ok
  subst hn
  refine callsD_of_wpS hf hb fun c₀ cs hu => wpS_seq (wpS_region ?_)
  obtain ⟨cs', hcs, hrecd⟩ := hrec.mode c₀ cs hu
  have henv : EnvR imm w (args ++ List.replicate (fn.ntmps - args.length) .junk) (vs.toArray ++ Array.replicate (fn.ntmps - vs.toArray.size) undef) := by
    refine ⟨by simp [hl], fun t x v hx hvv => ?_⟩
    by_cases ht : t < args.length
    · rw [List.getElem?_append_left ht] at hx
      rw [Array.getElem?_append_left (by simpa [hl] using ht)] at hvv
      exact hv t x v hx (by simpa using hvv)
    · rw [List.getElem?_append_right (by omega), List.getElem?_replicate] at hx
      split at hx
      · cases hx; exact .junk v
      · cases hx
  generalize ha : ({ tmps := vs.toArray ++ Array.replicate (fn.ntmps - vs.toArray.size) undef, defers := [] } : Act) = a
  have hsize : a.tmps.size = fn.ntmps ∨ fn.ntmps < vs.length := by
    subst ha
    by_cases hle : vs.length ≤ fn.ntmps
    · left; simp; omega
    · right; omega
  have hat : At C ⟨[], Own L, imm, w⟩ (args ++ List.replicate (fn.ntmps - args.length) .junk) L a w := by
    subst ha
    exact ⟨imm, ⟨hs, henv, Tr.refl _ _ _, rfl⟩, hG⟩
  have hr1 : (execOp a.eval o1).run C.P w = .ok .recover w := by
    simp [execOp, h1, resolve, invoke, builtin]
  have hw1 : Region.wanted o1 (yielded #[o1, o2] a.tmps) = true := by simp [Region.wanted, hg1]
  have hw2 : ∀ tm, Region.wanted o2 (yielded #[o1, o2] tm) = true := fun tm => by simp [Region.wanted, hg2]
  have hlt : d1 < a.tmps.size := by
    rcases hsize with e | e
    · omega
    · subst ha; simp; omega
  have hr2 : ∀ w, (execOp (a.put (some d1) x).eval o2).run C.P w = .ok (.value x) w := fun w => by
    have : (a.put (some d1) x).eval (.tmp d1) = x := by
      simp [Act.eval, Act.put, Array.getD, hlt]
    simp [execOp, h2, this]
  show wpOpsS C.P #[o1, o2] _ [0, 1] a (c₀ :: cs) w
  unfold wpOpsS
  simp only [List.getElem?_toArray, List.getElem?_cons_zero, hw1, if_true, hr1]
  have key : wpOpsS C.P #[o1, o2] (Exit.thenS (rest.wpS C.P (bodyPostS C.P fn c₀ cs fun e u' w' => e = .returned (.tuple #[]) ∧ u' = u1 ∧ ∃ imm' L', Sat imm' w' L' ∧ Tr (Own L) imm w (Own L') imm' w' ∧ Q L')) (bodyPostS C.P fn c₀ cs fun e u' w' => e = .returned (.tuple #[]) ∧ u' = u1 ∧ ∃ imm' L', Sat imm' w' L' ∧ Tr (Own L) imm w (Own L') imm' w' ∧ Q L')) [1] (a.put o1.dst x) cs' w := by
    unfold wpOpsS
    simp only [List.getElem?_toArray, List.getElem?_cons_succ, List.getElem?_cons_zero, hw2, if_true, hd1, hr2, Oper.upon, hd2]
    unfold wpOpsS
    show rest.wpS _ _ _ _ _
    refine wpS_of_wp ?_
    have hat2 : At C ⟨[], Own L, imm, w⟩ (putA (putA (args ++ List.replicate (fn.ntmps - args.length) .junk) (some d1) (.any x)) (some d2) (.any x)) L ((a.put (some d1) x).put (some d2) x) w := by
      obtain ⟨imm', hst, hG'⟩ := hat
      exact ⟨imm', (hst.put (.any x) _).put (.any x) _, hG'⟩
    refine Code.wp_mono ?_ (awp_sound hC rest _ _ L _ w h hat2)
    have fin : ∀ (a' : Act) (w' : World) (env' : List AV) (L' : AHeap), At C ⟨[], Own L, imm, w⟩ env' L' a' w' → Q L' →
        a'.defers = [] ∧ ∃ u', cs' = { c₀ with mode := u' } :: cs ∧ ∃ v, (results fn a'.tmps).run C.P w' = .ok v w' ∧ (Ending.returned v = .returned (.tuple #[]) ∧ u' = u1 ∧ ∃ imm' L', Sat imm' w' L' ∧ Tr (Own L) imm w (Own L') imm' w' ∧ Q L') := by
      intro a' w' env' L' ⟨imm', hst, _⟩ hq
      exact ⟨hst.defers, u1, hcs, .tuple #[], by simp [results, hres], rfl, rfl, imm', L', hst.sat, hst.tr, hq⟩
    intro e a' w' hq
    cases e with
    | normal => obtain ⟨env', L', ha', hq⟩ := hq; exact fin a' w' env' L' ha' hq
    | ret => obtain ⟨env', L', ha', hq⟩ := hq; exact fin a' w' env' L' ha' hq
    | exit id => obtain ⟨env', L', ha', hq⟩ := hq; exact hq.elim
    | goto l => obtain ⟨env', L', ha', hq⟩ := hq; exact hq.elim
    | panic c => obtain ⟨env', L', ha', hq⟩ := hq; exact hq.elim
    | outgrown => exact hq.elim
  have := hrecd (fun v cs' => wpOpsS C.P #[o1, o2] (Exit.thenS (rest.wpS C.P (bodyPostS C.P fn c₀ cs fun e u' w' => e = .returned (.tuple #[]) ∧ u' = u1 ∧ ∃ imm' L', Sat imm' w' L' ∧ Tr (Own L) imm w (Own L') imm' w' ∧ Q L')) (bodyPostS C.P fn c₀ cs fun e u' w' => e = .returned (.tuple #[]) ∧ u' = u1 ∧ ∃ imm' L', Sat imm' w' L' ∧ Tr (Own L) imm w (Own L') imm' w' ∧ Q L')) [1] (a.put o1.dst v) cs' w) key
  split at this <;> rename_i e <;> rw [e] <;> exact this

/-- What is asked where the deferred closure begins, it finding 'x'. -/
def Clo (C : Cx) (fn : Func) (Q : AV → AHeap → Prop) (crest : Code) (cenv : Value → List AV) (x : Value) (env : List AV) (L : AHeap) : Prop :=
  force (cenv x) fun cenv => Run C (fun e _ L2 => match e with
    | .normal | .ret => aress C env L2 fn.results.toList fun xs => ∃ r L', FinOk (aret xs) L2 r L' ∧ Q r L'
    | _ => False) [] crest cenv L
/-- What is asked behind the body, a closure being deferred. -/
def QD (C : Cx) (fn : Func) (Q : AV → AHeap → Prop) (crest : Code) (cenv : Value → List AV) : Exit → List AV → AHeap → Prop
  | .normal, env, L | .ret, env, L => Clo C fn Q crest cenv .nilIface env L
  | .panic ch, env, L => ∃ v, ch = chain1 v ∧ Clo C fn Q crest cenv v env L
  | _, _, _ => False
/-- What is asked of the body's first part, the one ahead of the deferring. -/
def Q0 (C : Cx) (fn : Func) (Q : AV → AHeap → Prop) (c1 c2 d m e1 e2 : Nat) (crest rest : Code) : Exit → List AV → AHeap → Prop
  | .normal, env, L => ∃ k1 g1 k2 g2, env[c1]? = some (.ptr k1 g1 0) ∧ env[c2]? = some (.ptr k2 g2 0) ∧ (env[d]?).isSome = true ∧
      force (putA env (some d) .junk) fun env => Run C (QD C fn Q crest fun x => putA (putA ([.ptr k1 g1 0, .ptr k2 g2 0] ++ List.replicate (m - 2) .junk) (some e1) (.any x)) (some e2) (.any x)) [] rest env L
  | .ret, env, L => aress C env L fn.results.toList fun xs => ∃ r L', FinOk (aret xs) L r L' ∧ Q r L'
  | _, _, _ => False

theorem FnSpec.startD {C : Cx} (hC : C.Ok) {f g : FuncId} {fn gn : Func} {a b rest crest : Code} {id cid : Nat} {o1 o2 p1 p2 : Oper} {args : List AV} {L : AHeap} {Q : AV → AHeap → Prop} {n m c1 c2 d e1 e2 : Nat}
    (hf : C.P.funcs[f]? = some fn) (hb : fn.body = some (.seq a (.seq b (.seq (.region id #[o1, o2] false) rest)))) (hname : (fn.name == "runtime.NumGoroutine") = false) (hn : fn.ntmps = n)
    (h1 : o1.op = .makeFunc (.func g) #[] #[.tmp c1, .tmp c2]) (hd1 : o1.dst = some d) (hg1 : o1.guard = none) (h2 : o2.op = .defer { callee := .value (.tmp d), args := #[], argTypes := #[] }) (hd2 : o2.dst = none) (hg2 : o2.guard = none) (hdn : d < n)
    (cf : C.P.funcs[g]? = some gn) (cb : gn.body = some (.seq (.region cid #[p1, p2] false) crest)) (cnm : (gn.name == "runtime.NumGoroutine") = false) (cn : gn.ntmps = m) (cres : gn.results = #[])
    (q1 : p1.op = .call { callee := .builtin .recover, args := #[], argTypes := #[] }) (qd1 : p1.dst = some e1) (qg1 : p1.guard = none) (q2 : p2.op = .assign (.tmp e1)) (qd2 : p2.dst = some e2) (qg2 : p2.guard = none) (qn : e1 < m)
    (h : force (args ++ List.replicate (n - args.length) .junk) fun env => Run C (Q0 C fn Q c1 c2 d m e1 e2 crest rest) [] (.seq a b) env L) : FnSpec C f args L Q := by
  rw [force_eq] at h
  have h := h.ok
  refine ⟨⟨fn, hf, hname, by simp [hb]⟩, fun imm w vs hG hs hl hv => ?_⟩
  subst hn
  refine calls_of_wp_defers hf hb ?_
  generalize hT : (fun (e : Ending) (w' : World) => ∃ v r L' imm', e = .returned v ∧ VR imm' w' r v ∧ Sat imm' w' L' ∧ Tr (Own L) imm w (Own L') imm' w' ∧ Q r L') = T
  have henv : EnvR imm w (args ++ List.replicate (fn.ntmps - args.length) .junk) (vs.toArray ++ Array.replicate (fn.ntmps - vs.toArray.size) undef) := by
    refine ⟨by simp [hl], fun t x v hx hvv => ?_⟩
    by_cases ht : t < args.length
    · rw [List.getElem?_append_left ht] at hx
      rw [Array.getElem?_append_left (by simpa [hl] using ht)] at hvv
      exact hv t x v hx (by simpa using hvv)
    · rw [List.getElem?_append_right (by omega), List.getElem?_replicate] at hx
      split at hx
      · cases hx; exact .junk v
      · cases hx
  have hat : At C ⟨[], Own L, imm, w⟩ (args ++ List.replicate (fn.ntmps - args.length) .junk) L { tmps := vs.toArray ++ Array.replicate (fn.ntmps - vs.toArray.size) undef, defers := [] } w := ⟨imm, ⟨hs, henv, Tr.refl _ _ _, rfl⟩, hG⟩
  -- the results, read at the end
  have fin : ∀ (tm : Array Value) (w' : World) (env' : List AV) (L' : AHeap) (imm' : Nat → Prop), Sat imm' w' L' → EnvR imm' w' env' tm → Tr (Own L) imm w (Own L') imm' w' → (aress C env' L' fn.results.toList fun xs => ∃ r L'', FinOk (aret xs) L' r L'' ∧ Q r L'') →
      ∃ v, (results fn tm).run C.P w' = .ok v w' ∧ T (.returned v) w' := by
    intro tm w' env' L' imm' hs' he' ht' h
    obtain ⟨xs, v, ⟨r, L'', hfin, hq⟩, hrun, hvr⟩ := results_sound hC (a := { tmps := tm, defers := [] }) hs' he' h
    obtain ⟨imm2, h1, h2, h3⟩ := hfin _ _ _ _ _ _ hs' hvr ht'
    subst hT
    exact ⟨v, hrun, v, r, L'', imm2, rfl, h2, h1, h3, hq⟩
  have hA : a.wp C.P (QC C ⟨[], Own L, imm, w⟩ (fun e env L => match e with
      | .normal => awp C b (Q0 C fn Q c1 c2 d m e1 e2 crest rest) env L
      | e => Q0 C fn Q c1 c2 d m e1 e2 crest rest e env L)) _ w := awp_sound hC a _ _ L _ w h hat
  have rets : ∀ (a' : Act) (w' : World), QC C ⟨[], Own L, imm, w⟩ (Q0 C fn Q c1 c2 d m e1 e2 crest rest) .ret a' w' → bodyPostD C.P fn T .ret a' w' := by
    rintro a' w' ⟨env', L', ⟨imm', hst, _⟩, hq⟩
    show Leaves C.P fn a'.tmps T a'.defers .returning w'
    rw [hst.defers]
    exact fin _ _ _ _ _ hst.sat hst.env hst.tr hq
  refine wp_seq (Code.wp_mono ?_ hA)
  intro e a1 w1 hq
  cases e with
  | ret => exact rets a1 w1 hq
  | exit id => obtain ⟨_, _, _, hq⟩ := hq; exact hq.elim
  | goto l => obtain ⟨_, _, _, hq⟩ := hq; exact hq.elim
  | panic c => obtain ⟨_, _, _, hq⟩ := hq; exact hq.elim
  | outgrown => exact hq.elim
  | normal =>
    obtain ⟨env1, L1, hat1, hq⟩ := hq
    refine wp_seq (Code.wp_mono ?_ (awp_sound hC b _ _ L1 _ w1 hq hat1))
    intro e a2 w2 hq
    cases e with
    | ret => exact rets a2 w2 hq
    | exit id => obtain ⟨_, _, _, hq⟩ := hq; exact hq.elim
    | goto l => obtain ⟨_, _, _, hq⟩ := hq; exact hq.elim
    | panic c => obtain ⟨_, _, _, hq⟩ := hq; exact hq.elim
    | outgrown => exact hq.elim
    | normal =>
      obtain ⟨env2, L2, ⟨imm2, hst2, hG2⟩, k1, g1, k2, g2, hc1, hc2, hdl, hrun⟩ := hq
      rw [force_eq] at hrun
      have hrun := hrun.ok
      have hev : ∀ (c : Nat) (x : AV) (v : Value), env2[c]? = some x → (∀ u, VR imm2 w2 x u → u = v) → a2.eval (.tmp c) = v := fun c x v hx hu => by
        have hlt : c < a2.tmps.size := Nat.lt_of_lt_of_le (List.getElem?_eq_some_iff.1 hx).1 hst2.env.len
        have : a2.tmps[c]? = some a2.tmps[c] := Array.getElem?_eq_getElem hlt
        have e := hu _ (hst2.env.at_ c x _ hx this)
        simp [Act.eval, Array.getD, hlt, e]
      have ev1 : a2.eval (.tmp c1) = .pointer (some ⟨g1, 0, none⟩) := hev c1 _ _ hc1 (fun u hu => by cases hu; rfl)
      have ev2 : a2.eval (.tmp c2) = .pointer (some ⟨g2, 0, none⟩) := hev c2 _ _ hc2 (fun u hu => by cases hu; rfl)
      have hr1 : (execOp a2.eval o1).run C.P w2 = .ok (.value (.func (.func g) #[] #[.pointer (some ⟨g1, 0, none⟩), .pointer (some ⟨g2, 0, none⟩)])) w2 := by
        simp [execOp, h1, Instr.makeFunc, ev1, ev2]
      have hw1 : Region.wanted o1 (yielded #[o1, o2] a2.tmps) = true := by simp [Region.wanted, hg1]
      have hw2 : ∀ tm, Region.wanted o2 (yielded #[o1, o2] tm) = true := fun tm => by simp [Region.wanted, hg2]
      generalize hfv : (Value.func (.func g) #[] #[.pointer (some ⟨g1, 0, none⟩), .pointer (some ⟨g2, 0, none⟩)]) = fv at hr1
      have ed : d < a2.tmps.size → (a2.put (some d) fv).eval (.tmp d) = fv := fun hlt => by
        simp [Act.eval, Act.put, Array.getD, hlt]
      have hr2 : d < a2.tmps.size → (execOp (a2.put (some d) fv).eval o2).run C.P w2 = .ok (.defer ⟨.fn (.func g) #[.pointer (some ⟨g1, 0, none⟩), .pointer (some ⟨g2, 0, none⟩)], #[]⟩) w2 := fun hlt => by
        have := ed hlt
        subst hfv
        simp [execOp, h2, resolve, Deferred.ofValue, this]
      have hdlt : d < a2.tmps.size := by
        obtain ⟨x, hx⟩ := Option.isSome_iff_exists.1 hdl
        exact Nat.lt_of_lt_of_le (List.getElem?_eq_some_iff.1 hx).1 hst2.env.len
      refine wp_seq (wp_region ?_)
      show wpOps C.P #[o1, o2] _ [0, 1] a2 w2
      simp only [wpOps, List.getElem?_toArray, List.getElem?_cons_zero, List.getElem?_cons_succ, hw1, hw2, if_true]
      left
      unfold Oper.wp
      rw [hr1, Oper.upon_value, hd1]
      left
      rw [hr2 hdlt, Oper.upon_defer, hd2]
      generalize hdd : (Deferred.mk (.fn (.func g) #[.pointer (some ⟨g1, 0, none⟩), .pointer (some ⟨g2, 0, none⟩)]) #[]) = dd
      have hat3 : At C ⟨[dd], Own L, imm, w⟩ (putA env2 (some d) .junk) L2 (({ a2.put (some d) fv with defers := dd :: (a2.put (some d) fv).defers } : Act).put none undef) w2 := by
        have := hst2.put (.junk fv) (some d)
        exact ⟨imm2, ⟨this.sat, this.env, this.tr, congrArg (dd :: ·) this.defers⟩, hG2⟩
      have close : ∀ (u u1 : FrameMode) (x : Value) (a' : Act) (w' : World) (env' : List AV) (L' : AHeap), Rec u u1 x → At C ⟨[dd], Own L, imm, w⟩ env' L' a' w' →
          Clo C fn Q crest (fun x => putA (putA ([.ptr k1 g1 0, .ptr k2 g2 0] ++ List.replicate (m - 2) .junk) (some e1) (.any x)) (some e2) (.any x)) x env' L' → Leaves C.P fn a'.tmps T a'.defers u w' := by
        intro u u1 x a' w' env' L' hrec ⟨imm', hst, hG'⟩ hclo
        rw [hst.defers, ← hdd]
        have hinv : (invoke (.fn (.func g) #[.pointer (some ⟨g1, 0, none⟩), .pointer (some ⟨g2, 0, none⟩)]) #[]).run C.P w' = .ok (.enter g #[.pointer (some ⟨g1, 0, none⟩), .pointer (some ⟨g2, 0, none⟩)]) w' := by
          have h1 : gn.name ≠ "runtime.NumGoroutine" := by simpa using cnm
          simp [invoke, callFunc, cf, h1, cb]
        refine leaves_cons hrec.not_run hinv ?_
        unfold Clo at hclo
        refine (callsD_clo hC (vs := [.pointer (some ⟨g1, 0, none⟩), .pointer (some ⟨g2, 0, none⟩)]) (args := [.ptr k1 g1 0, .ptr k2 g2 0]) cf cb cn cres q1 qd1 qg1 q2 qd2 qg2 qn hrec hG' hst.sat rfl (fun j x v hx hv => ?_) (Q := fun L2 => aress C env' L2 fn.results.toList fun xs => ∃ r L'', FinOk (aret xs) L2 r L'' ∧ Q r L'') ?_).mono ?_
        · match j, hx, hv with
          | 0, hx, hv => simp at hx hv; subst hx; subst hv; exact .ptr _ _ _
          | 1, hx, hv => simp at hx hv; subst hx; subst hv; exact .ptr _ _ _
          | j + 2, hx, _ => simp at hx
        · rw [force_eq] at hclo ⊢
          refine ⟨?_⟩
          have e : after C (fun e _ L2 => match e with
            | .normal | .ret => aress C env' L2 fn.results.toList fun xs => ∃ r L', FinOk (aret xs) L2 r L' ∧ Q r L'
            | _ => False) [] = _ := rfl
          exact hclo.ok
        · rintro e u' w'' ⟨he, hu', imm3, L3, hs3, ht3, hq3⟩
          obtain rfl := he
          show Leaves C.P fn a'.tmps T [] (Go.settle u') w''
          rw [hu', hrec.settle]
          exact fin _ _ _ _ imm3 hs3 (hst.env.mono ht3.imm1 (ht3.cell hst.sat.far hst.sat.immlt)) (hst.tr.trans ht3) hq3
      refine Code.wp_mono ?_ (awp_sound hC rest _ _ L2 _ w2 hrun hat3)
      intro e a' w' hq
      cases e with
      | normal => obtain ⟨env', L', ha', hq⟩ := hq; exact close _ _ _ _ _ _ _ .none ha' hq
      | ret => obtain ⟨env', L', ha', hq⟩ := hq; exact close _ _ _ _ _ _ _ .none ha' hq
      | panic c => obtain ⟨env', L', ha', v, rfl, hq⟩ := hq; exact close _ _ _ _ _ _ _ (.some v) ha' hq
      | exit id => obtain ⟨_, _, _, hq⟩ := hq; exact hq.elim
      | goto l => obtain ⟨_, _, _, hq⟩ := hq; exact hq.elim
      | outgrown => exact hq.elim
end Go.Proofs.YtfohedaadncefaaDoor.HB
/- Plain: a number read from bytes; the contracts of the two texts that do it. -/
namespace Go.Proofs.YtfohedaadncefaaDoor.HBT
open Go Go.Proofs.YtfohedaadncefaaDoor.HB Go.RowKit
set_option maxRecDepth 8000

/-- A number that begins at a place: its value and the place behind it. -/
def rdF (d : List Int) (at_ : Nat) : Nat → Nat → Nat → Option (Nat × Nat)
  | 0, _, _ => none
  | f + 1, i, v => match d[at_ + i]? with
    | none => none
    | some b => if b < 128 then (if (b = 0 ∧ 0 < i) ∨ 2147483647 < v + b.toNat % 128 * 128 ^ i then none else some (v + b.toNat % 128 * 128 ^ i, at_ + i + 1)) else rdF d at_ f (i + 1) (v + b.toNat % 128 * 128 ^ i)
def readN (d : List Int) (at_ : Nat) : Option (Nat × Nat) := rdF d at_ 5 0 0
def Bytes (d : List Int) : Prop := ∀ b ∈ d, 0 ≤ b ∧ b < 256
def RdQ (o : Option (Nat × Nat)) (r : AV) (L' : AHeap) : Prop :=
  L' = [] ∧ match o with
  | some (v, nx) => r = .tuple [.int .i64 v, .int .i64 nx, .int .i64 0]
  | none => ∃ e : Int, e ≠ 0 ∧ r = .tuple [.int .i64 0, .int .i64 0, .int .i64 e]

theorem and127_all : ((List.range 256).all fun x => bitsV .and .u8 (x : Int) 127 == ((x % 128 : Nat) : Int)) = true := by decide +kernel
theorem and127 (b : Int) (h : 0 ≤ b ∧ b < 256) : bitsV .and .u8 b 127 = ((b.toNat % 128 : Nat) : Int) := by
  have := List.all_eq_true.1 and127_all b.toNat (List.mem_range.2 (by omega))
  rw [show ((b.toNat : Nat) : Int) = b by omega] at this
  simpa using this

theorem or_i64 (v y : Nat) (h : v + y < 2147483648 * 128) (hd : v ||| y = v + y) : bitsV .or .i64 (v : Int) (y : Int) = ((v + y : Nat) : Int) := by
  unfold bitsV
  show IntKind.i64.wrap ((BitVec.ofInt 64 (v : Int) ||| BitVec.ofInt 64 (y : Int)).toNat : Int) = _
  rw [BitVec.ofInt_natCast, BitVec.ofInt_natCast, BitVec.toNat_or, BitVec.toNat_ofNat, BitVec.toNat_ofNat, Nat.mod_eq_of_lt (by omega), Nat.mod_eq_of_lt (by omega), hd, IntKind.wrap_i64]
  omega
theorem or_part (v x i : Nat) (h : v < 128 ^ i) : v ||| (x * 128 ^ i) = v + x * 128 ^ i := by
  have e : (128 : Nat) ^ i = 2 ^ (7 * i) := by rw [Nat.pow_mul]
  rw [e] at h ⊢
  have := Nat.shiftLeft_add_eq_or_of_lt h x
  rw [Nat.shiftLeft_eq] at this
  rw [Nat.or_comm, ← this, Nat.add_comm]
theorem pow_le4 {i : Nat} (h : i ≤ 4) : 128 ^ i ≤ 268435456 := by
  have : i = 0 ∨ i = 1 ∨ i = 2 ∨ i = 3 ∨ i = 4 := by omega
  rcases this with rfl | rfl | rfl | rfl | rfl <;> decide
theorem part_lt {v x i : Nat} (hv : v < 128 ^ i) (hx : x < 128) : v + x * 128 ^ i < 128 ^ (i + 1) := by
  rw [Nat.pow_succ, Nat.mul_comm (128 ^ i) 128]
  have : x * 128 ^ i + 128 ^ i ≤ 128 * 128 ^ i := by
    have := Nat.mul_le_mul_right (128 ^ i) (show x + 1 ≤ 128 by omega)
    rwa [Nat.add_mul, Nat.one_mul] at this
  omega
theorem shl_i64 {x i : Nat} (hi : i ≤ 4) (hx : x < 128) : IntKind.i64.wrap ((x : Int) * 2 ^ (min ((7 * i : Nat) : Int).toNat IntKind.i64.bits)) = ((x * 128 ^ i : Nat) : Int) := by
  have e : (2 : Int) ^ (min ((7 * i : Nat) : Int).toNat IntKind.i64.bits) = ((128 ^ i : Nat) : Int) := by
    have : i = 0 ∨ i = 1 ∨ i = 2 ∨ i = 3 ∨ i = 4 := by omega
    rcases this with rfl | rfl | rfl | rfl | rfl <;> decide
  have := pow_le4 hi
  have h2 : x * 128 ^ i ≤ 127 * 268435456 := Nat.mul_le_mul (by omega) this
  rw [e, ← Int.natCast_mul, IntKind.wrap_i64]
  omega
theorem rdF_at {d : List Int} {at_ f i v : Nat} {b : Int} (h : d[at_ + i]? = some b) : rdF d at_ (f + 1) i v = if b < 128 then (if (b = 0 ∧ 0 < i) ∨ 2147483647 < v + b.toNat % 128 * 128 ^ i then none else some (v + b.toNat % 128 * 128 ^ i, at_ + i + 1)) else rdF d at_ f (i + 1) (v + b.toNat % 128 * 128 ^ i) := by
  conv => lhs; unfold rdF
  rw [h]
theorem rdF_end {d : List Int} {at_ f i v : Nat} (h : d.length ≤ at_ + i) : rdF d at_ f i v = none := by
  cases f with
  | zero => rfl
  | succ f => unfold rdF; rw [List.getElem?_eq_none h]

set_option maxHeartbeats 4000000 in
theorem readNumber_spec (d : List Int) (n at_ : Nat) (hn : n ≤ d.length) (hb : Bytes d) (ha : at_ ≤ n) (hN : n ≤ 1000000) : FnSpec C 70 [rdb d n, .int .i64 at_] [] (RdQ (readN (d.take n) at_)) := by
  refine FnSpec.start C_ok Tryd.func70 rfl rfl Tryd.ntmps70 ?_
  repeat (first | refine Ops.go ?_ | refine And.intro rfl ?_ | refine And.intro (Nat.le_of_ble_eq_true rfl) ?_ | refine And.intro (Int.natCast_nonneg _) ?_ | refine fun (_ : Nat) => ?_ | refine Ord.go ?_ | refine Run.go rfl ?_ | refine Cont.go rfl ?_ | refine OrdP.go ?_)
  refine ⟨fun h => absurd (show (at_ : Int) < 0 from h) (by omega), fun _ => ?_⟩
  repeat (first | refine Ops.go ?_ | refine And.intro rfl ?_ | refine And.intro (Nat.le_of_ble_eq_true rfl) ?_ | refine And.intro (Int.natCast_nonneg _) ?_ | refine fun (_ : Nat) => ?_ | refine Ord.go ?_ | refine Run.go rfl ?_ | refine Cont.go rfl ?_ | refine OrdP.go ?_)
  refine ⟨fun h => absurd (show (n : Int) < (at_ : Int) from h) (by omega), fun _ => ?_⟩
  repeat (first | refine Ops.go ?_ | refine And.intro rfl ?_ | refine And.intro (Nat.le_of_ble_eq_true rfl) ?_ | refine And.intro (Int.natCast_nonneg _) ?_ | refine fun (_ : Nat) => ?_ | refine Ord.go ?_ | refine Run.go rfl ?_ | refine Cont.go rfl ?_ | refine OrdP.go ?_)
  refine ⟨show (at_ : Int) ≤ (n : Int) by omega, ?_⟩
  repeat (first | refine Ops.go ?_ | refine And.intro rfl ?_ | refine And.intro (Nat.le_of_ble_eq_true rfl) ?_ | refine And.intro (Int.natCast_nonneg _) ?_ | refine fun (_ : Nat) => ?_ | refine Ord.go ?_ | refine Run.go rfl ?_ | refine Cont.go rfl ?_ | refine OrdP.go ?_)
  refine ⟨by rw [u8s_len]; omega, ?_⟩
  repeat (first | refine Ops.go ?_ | refine And.intro rfl ?_ | refine And.intro (Nat.le_of_ble_eq_true rfl) ?_ | refine And.intro (Int.natCast_nonneg _) ?_ | refine fun (_ : Nat) => ?_ | refine Ord.go ?_ | refine Run.go rfl ?_ | refine Cont.go rfl ?_ | refine OrdP.go ?_)
  have tl : (d.take n).length = n := by rw [List.length_take]; omega
  refine Run.loop (fun k env L => ∃ (i v : Nat), k = (n - at_) - i ∧ i ≤ n - at_ ∧ i ≤ 5 ∧ v < 128 ^ i ∧ readN (d.take n) at_ = rdF (d.take n) at_ (5 - i) i v ∧
      env = [rdb d n, .int .i64 at_, .junk, .junk, .junk, .junk, .junk, .int .i64 v, .junk, .junk, .junk, .junk, .junk, .junk, .junk, .junk, .junk, .junk, .junk, .junk, .ro 1 (List.drop at_ (u8s d)) ((n : Int) - (at_ : Int)).toNat, .int .i64 (((n : Int) - (at_ : Int)).toNat : Nat), .int .i64 i, .junk, .junk, .junk, .junk, .junk, .junk, .junk, .junk, .junk, .junk, .junk, .junk, .junk, .junk, .junk, .junk, .junk, .junk, .junk, .junk, .junk, .junk, .junk, .junk, .junk, .junk, .junk, .junk, .junk, .junk, .junk, .junk, .junk, .junk, .junk, .junk, .junk] ∧ L = []) (n - at_)
    [rdb d n, .int .i64 at_, .junk, .junk, .junk, .junk, .junk, .int .i64 (0 : Nat), .junk, .junk, .junk, .junk, .junk, .junk, .junk, .junk, .junk, .junk, .junk, .junk, .ro 1 (List.drop at_ (u8s d)) ((n : Int) - (at_ : Int)).toNat, .int .i64 (((n : Int) - (at_ : Int)).toNat : Nat), .int .i64 (0 : Nat), .junk, .junk, .junk, .junk, .junk, .junk, .junk, .junk, .junk, .junk, .junk, .junk, .junk, .junk, .junk, .junk, .junk, .junk, .junk, .junk, .junk, .junk, .junk, .junk, .junk, .junk, .junk, .junk, .junk, .junk, .junk, .junk, .junk, .junk, .junk, .junk, .junk] ?_ ⟨0, 0, by omega, by omega, by omega, by decide, rfl, rfl, rfl⟩ ?_
  · repeat (first | exact trivial | refine ⟨.inl rfl, ?_⟩ | refine ⟨.inr rfl, ?_⟩)
  rintro k env L ⟨i, v, rfl, hi, hi5, hv, hrd, rfl, rfl⟩
  repeat (first | refine Ops.go ?_ | refine And.intro rfl ?_ | refine And.intro (Nat.le_of_ble_eq_true rfl) ?_ | refine And.intro (Int.natCast_nonneg _) ?_ | refine fun (_ : Nat) => ?_ | refine Ord.go ?_ | refine Run.go rfl ?_ | refine Cont.go rfl ?_ | refine OrdP.go ?_)
  refine ⟨fun h => ?_, fun h => ?_⟩
  · have h : (i : Int) < ((((n : Int) - (at_ : Int)).toNat : Nat) : Int) := h
    have hin : at_ + i < n := by omega
    obtain ⟨b, eb⟩ : ∃ b, d[at_ + i]? = some b := ⟨d[at_ + i], List.getElem?_eq_getElem (by omega)⟩
    have eb2 : (d.take n)[at_ + i]? = some b := by rw [List.getElem?_take, if_pos hin]; exact eb
    have hbb := hb b (List.mem_of_getElem? eb)
    repeat (first | refine Ops.go ?_ | refine And.intro rfl ?_ | refine And.intro (Nat.le_of_ble_eq_true rfl) ?_ | refine And.intro (Int.natCast_nonneg _) ?_ | refine fun (_ : Nat) => ?_ | refine Ord.go ?_ | refine Run.go rfl ?_ | refine Cont.go rfl ?_ | refine OrdP.go ?_)
    refine ⟨h, .int .u8 b, by rw [Int.toNat_natCast, List.getElem?_drop]; exact u8s_at _ _ _ eb, ?_⟩
    repeat (first | refine Ops.go ?_ | refine And.intro rfl ?_ | refine And.intro (Nat.le_of_ble_eq_true rfl) ?_ | refine And.intro (Int.natCast_nonneg _) ?_ | refine fun (_ : Nat) => ?_ | refine Ord.go ?_ | refine Run.go rfl ?_ | refine Cont.go rfl ?_ | refine OrdP.go ?_)
    refine ⟨fun h5 => ?_, fun h5 => ?_⟩
    · have h5 : (i : Int) = 5 := h5
      obtain rfl : i = 5 := by omega
      rw [show readN (d.take n) at_ = none from hrd]
      repeat (first | refine Ops.go ?_ | refine And.intro rfl ?_ | refine And.intro (Nat.le_of_ble_eq_true rfl) ?_ | refine And.intro (Int.natCast_nonneg _) ?_ | refine fun (_ : Nat) => ?_ | refine Ord.go ?_ | refine Run.go rfl ?_ | refine Cont.go rfl ?_ | refine OrdP.go ?_)
      refine fun r hr => ?_
      obtain rfl : r = ((n - at_ : Nat) : Int) := by rw [hr, IntKind.wrap_i64]; omega
      repeat (first | refine Ops.go ?_ | refine And.intro rfl ?_ | refine And.intro (Nat.le_of_ble_eq_true rfl) ?_ | refine And.intro (Int.natCast_nonneg _) ?_ | refine fun (_ : Nat) => ?_ | refine Ord.go ?_ | refine Run.go rfl ?_ | refine Cont.go rfl ?_ | refine OrdP.go ?_)
      refine ⟨fun h => ?_, fun h => ?_⟩
      · repeat (first | refine Ops.go ?_ | refine And.intro rfl ?_ | refine And.intro (Nat.le_of_ble_eq_true rfl) ?_ | refine And.intro (Int.natCast_nonneg _) ?_ | refine fun (_ : Nat) => ?_ | refine Ord.go ?_ | refine Run.go rfl ?_ | refine Cont.go rfl ?_ | refine OrdP.go ?_)
        exact ⟨_, [], FinOk.drop _ _, rfl, 20, by decide, rfl⟩
      · repeat (first | refine Ops.go ?_ | refine And.intro rfl ?_ | refine And.intro (Nat.le_of_ble_eq_true rfl) ?_ | refine And.intro (Int.natCast_nonneg _) ?_ | refine fun (_ : Nat) => ?_ | refine Ord.go ?_ | refine Run.go rfl ?_ | refine Cont.go rfl ?_ | refine OrdP.go ?_)
        exact ⟨_, [], FinOk.drop _ _, rfl, 21, by decide, rfl⟩
    · have h5 : ¬ (i : Int) = 5 := h5
      have hi4 : i ≤ 4 := by omega
      repeat (first | refine Ops.go ?_ | refine And.intro rfl ?_ | refine And.intro (Nat.le_of_ble_eq_true rfl) ?_ | refine And.intro (Int.natCast_nonneg _) ?_ | refine fun (_ : Nat) => ?_ | refine Ord.go ?_ | refine Run.go rfl ?_ | refine Cont.go rfl ?_ | refine OrdP.go ?_)
      refine fun r1 hr1 => ?_
      obtain rfl : r1 = ((b.toNat % 128 : Nat) : Int) := hr1.trans (and127 b hbb)
      repeat (first | refine Ops.go ?_ | refine And.intro rfl ?_ | refine And.intro (Nat.le_of_ble_eq_true rfl) ?_ | refine And.intro (Int.natCast_nonneg _) ?_ | refine fun (_ : Nat) => ?_ | refine Ord.go ?_ | refine Run.go rfl ?_ | refine Cont.go rfl ?_ | refine OrdP.go ?_)
      refine fun r2 hr2 => ?_
      obtain rfl : r2 = ((b.toNat % 128 : Nat) : Int) := by rw [hr2, IntKind.wrap_i64]; omega
      repeat (first | refine Ops.go ?_ | refine And.intro rfl ?_ | refine And.intro (Nat.le_of_ble_eq_true rfl) ?_ | refine And.intro (Int.natCast_nonneg _) ?_ | refine fun (_ : Nat) => ?_ | refine Ord.go ?_ | refine Run.go rfl ?_ | refine Cont.go rfl ?_ | refine OrdP.go ?_)
      refine fun r3 hr3 => ?_
      obtain rfl : r3 = ((7 * i : Nat) : Int) := by rw [hr3, IntKind.wrap_i64]; omega
      repeat (first | refine Ops.go ?_ | refine And.intro rfl ?_ | refine And.intro (Nat.le_of_ble_eq_true rfl) ?_ | refine And.intro (Int.natCast_nonneg _) ?_ | refine fun (_ : Nat) => ?_ | refine Ord.go ?_ | refine Run.go rfl ?_ | refine Cont.go rfl ?_ | refine OrdP.go ?_)
      refine fun r4 hr4 => ?_
      obtain rfl : r4 = ((b.toNat % 128 * 128 ^ i : Nat) : Int) := hr4.trans (shl_i64 hi4 (Nat.mod_lt _ (by decide)))
      repeat (first | refine Ops.go ?_ | refine And.intro rfl ?_ | refine And.intro (Nat.le_of_ble_eq_true rfl) ?_ | refine And.intro (Int.natCast_nonneg _) ?_ | refine fun (_ : Nat) => ?_ | refine Ord.go ?_ | refine Run.go rfl ?_ | refine Cont.go rfl ?_ | refine OrdP.go ?_)
      have hp4 := pow_le4 hi4
      have hvx := part_lt hv (Nat.mod_lt b.toNat (show 0 < 128 by decide))
      have hx4 : b.toNat % 128 * 128 ^ i ≤ 127 * 268435456 := Nat.mul_le_mul (by omega) hp4
      refine fun r5 hr5 => ?_
      obtain rfl : r5 = ((v + b.toNat % 128 * 128 ^ i : Nat) : Int) := hr5.trans (or_i64 _ _ (by omega) (or_part _ _ _ hv))
      rw [show 5 - i = (5 - (i + 1)) + 1 by omega] at hrd
      repeat (first | refine Ops.go ?_ | refine And.intro rfl ?_ | refine And.intro (Nat.le_of_ble_eq_true rfl) ?_ | refine And.intro (Int.natCast_nonneg _) ?_ | refine fun (_ : Nat) => ?_ | refine Ord.go ?_ | refine Run.go rfl ?_ | refine Cont.go rfl ?_ | refine OrdP.go ?_)
      refine ⟨fun h => ?_, fun h => ?_⟩
      · have h8 : (128 : Int) ≤ b := h
        repeat (first | refine Ops.go ?_ | refine And.intro rfl ?_ | refine And.intro (Nat.le_of_ble_eq_true rfl) ?_ | refine And.intro (Int.natCast_nonneg _) ?_ | refine fun (_ : Nat) => ?_ | refine Ord.go ?_ | refine Run.go rfl ?_ | refine Cont.go rfl ?_ | refine OrdP.go ?_)
        refine fun r hr => ?_
        obtain rfl := add1 hr (by omega)
        repeat (first | refine Ops.go ?_ | refine And.intro rfl ?_ | refine And.intro (Nat.le_of_ble_eq_true rfl) ?_ | refine And.intro (Int.natCast_nonneg _) ?_ | refine fun (_ : Nat) => ?_ | refine Ord.go ?_ | refine Run.go rfl ?_ | refine Cont.go rfl ?_ | refine OrdP.go ?_)
        refine Cont.lp ?_
        refine ⟨(n - at_) - (i + 1), _, 99, by omega, ?_, ⟨i + 1, v + b.toNat % 128 * 128 ^ i, rfl, by omega, by omega, hvx, by rw [hrd, rdF_at eb2, if_neg (by omega)], rfl, rfl⟩⟩
        repeat (first | exact trivial | refine ⟨.inl rfl, ?_⟩ | refine ⟨.inr rfl, ?_⟩)
      · have h8 : ¬ (128 : Int) ≤ b := h
        repeat (first | refine Ops.go ?_ | refine And.intro rfl ?_ | refine And.intro (Nat.le_of_ble_eq_true rfl) ?_ | refine And.intro (Int.natCast_nonneg _) ?_ | refine fun (_ : Nat) => ?_ | refine Ord.go ?_ | refine Run.go rfl ?_ | refine Cont.go rfl ?_ | refine OrdP.go ?_)
        refine ⟨fun h => ?_, fun h => ?_⟩
        · have hz : b = 0 := h
          repeat (first | refine Ops.go ?_ | refine And.intro rfl ?_ | refine And.intro (Nat.le_of_ble_eq_true rfl) ?_ | refine And.intro (Int.natCast_nonneg _) ?_ | refine fun (_ : Nat) => ?_ | refine Ord.go ?_ | refine Run.go rfl ?_ | refine Cont.go rfl ?_ | refine OrdP.go ?_)
          refine ⟨fun h => ?_, fun h => ?_⟩
          · have hi0 : (0 : Int) < (i : Int) := h
            rw [hrd, rdF_at eb2, if_pos (by omega), if_pos (.inl ⟨hz, by omega⟩)]
            repeat (first | refine Ops.go ?_ | refine And.intro rfl ?_ | refine And.intro (Nat.le_of_ble_eq_true rfl) ?_ | refine And.intro (Int.natCast_nonneg _) ?_ | refine fun (_ : Nat) => ?_ | refine Ord.go ?_ | refine Run.go rfl ?_ | refine Cont.go rfl ?_ | refine OrdP.go ?_)
            exact ⟨_, [], FinOk.drop _ _, rfl, 20, by decide, rfl⟩
          · have hi0 : ¬ (0 : Int) < (i : Int) := h
            repeat (first | refine Ops.go ?_ | refine And.intro rfl ?_ | refine And.intro (Nat.le_of_ble_eq_true rfl) ?_ | refine And.intro (Int.natCast_nonneg _) ?_ | refine fun (_ : Nat) => ?_ | refine Ord.go ?_ | refine Run.go rfl ?_ | refine Cont.go rfl ?_ | refine OrdP.go ?_)
            refine ⟨fun h => ?_, fun h => ?_⟩
            · have hmx : (2147483647 : Int) < ((v + b.toNat % 128 * 128 ^ i : Nat) : Int) := h
              rw [hrd, rdF_at eb2, if_pos (by omega), if_pos (.inr (by omega))]
              repeat (first | refine Ops.go ?_ | refine And.intro rfl ?_ | refine And.intro (Nat.le_of_ble_eq_true rfl) ?_ | refine And.intro (Int.natCast_nonneg _) ?_ | refine fun (_ : Nat) => ?_ | refine Ord.go ?_ | refine Run.go rfl ?_ | refine Cont.go rfl ?_ | refine OrdP.go ?_)
              exact ⟨_, [], FinOk.drop _ _, rfl, 20, by decide, rfl⟩
            · have hmx : ¬ (2147483647 : Int) < ((v + b.toNat % 128 * 128 ^ i : Nat) : Int) := h
              rw [hrd, rdF_at eb2, if_pos (by omega), if_neg (by rintro (⟨h1, h2⟩ | h1); omega; omega)]
              repeat (first | refine Ops.go ?_ | refine And.intro rfl ?_ | refine And.intro (Nat.le_of_ble_eq_true rfl) ?_ | refine And.intro (Int.natCast_nonneg _) ?_ | refine fun (_ : Nat) => ?_ | refine Ord.go ?_ | refine Run.go rfl ?_ | refine Cont.go rfl ?_ | refine OrdP.go ?_)
              refine fun r hr => ?_
              obtain rfl : r = ((at_ + i : Nat) : Int) := by rw [hr, IntKind.wrap_i64]; omega
              repeat (first | refine Ops.go ?_ | refine And.intro rfl ?_ | refine And.intro (Nat.le_of_ble_eq_true rfl) ?_ | refine And.intro (Int.natCast_nonneg _) ?_ | refine fun (_ : Nat) => ?_ | refine Ord.go ?_ | refine Run.go rfl ?_ | refine Cont.go rfl ?_ | refine OrdP.go ?_)
              refine fun r hr => ?_
              obtain rfl : r = ((at_ + i + 1 : Nat) : Int) := by rw [hr, IntKind.wrap_i64]; omega
              repeat (first | refine Ops.go ?_ | refine And.intro rfl ?_ | refine And.intro (Nat.le_of_ble_eq_true rfl) ?_ | refine And.intro (Int.natCast_nonneg _) ?_ | refine fun (_ : Nat) => ?_ | refine Ord.go ?_ | refine Run.go rfl ?_ | refine Cont.go rfl ?_ | refine OrdP.go ?_)
              exact ⟨_, [], FinOk.drop _ _, rfl, rfl⟩
        · have hz : ¬ b = 0 := h
          repeat (first | refine Ops.go ?_ | refine And.intro rfl ?_ | refine And.intro (Nat.le_of_ble_eq_true rfl) ?_ | refine And.intro (Int.natCast_nonneg _) ?_ | refine fun (_ : Nat) => ?_ | refine Ord.go ?_ | refine Run.go rfl ?_ | refine Cont.go rfl ?_ | refine OrdP.go ?_)
          refine ⟨fun h => ?_, fun h => ?_⟩
          · have hmx : (2147483647 : Int) < ((v + b.toNat % 128 * 128 ^ i : Nat) : Int) := h
            rw [hrd, rdF_at eb2, if_pos (by omega), if_pos (.inr (by omega))]
            repeat (first | refine Ops.go ?_ | refine And.intro rfl ?_ | refine And.intro (Nat.le_of_ble_eq_true rfl) ?_ | refine And.intro (Int.natCast_nonneg _) ?_ | refine fun (_ : Nat) => ?_ | refine Ord.go ?_ | refine Run.go rfl ?_ | refine Cont.go rfl ?_ | refine OrdP.go ?_)
            exact ⟨_, [], FinOk.drop _ _, rfl, 20, by decide, rfl⟩
          · have hmx : ¬ (2147483647 : Int) < ((v + b.toNat % 128 * 128 ^ i : Nat) : Int) := h
            rw [hrd, rdF_at eb2, if_pos (by omega), if_neg (by rintro (⟨h1, h2⟩ | h1); exact hz h1; omega)]
            repeat (first | refine Ops.go ?_ | refine And.intro rfl ?_ | refine And.intro (Nat.le_of_ble_eq_true rfl) ?_ | refine And.intro (Int.natCast_nonneg _) ?_ | refine fun (_ : Nat) => ?_ | refine Ord.go ?_ | refine Run.go rfl ?_ | refine Cont.go rfl ?_ | refine OrdP.go ?_)
            refine fun r hr => ?_
            obtain rfl : r = ((at_ + i : Nat) : Int) := by rw [hr, IntKind.wrap_i64]; omega
            repeat (first | refine Ops.go ?_ | refine And.intro rfl ?_ | refine And.intro (Nat.le_of_ble_eq_true rfl) ?_ | refine And.intro (Int.natCast_nonneg _) ?_ | refine fun (_ : Nat) => ?_ | refine Ord.go ?_ | refine Run.go rfl ?_ | refine Cont.go rfl ?_ | refine OrdP.go ?_)
            refine fun r hr => ?_
            obtain rfl : r = ((at_ + i + 1 : Nat) : Int) := by rw [hr, IntKind.wrap_i64]; omega
            repeat (first | refine Ops.go ?_ | refine And.intro rfl ?_ | refine And.intro (Nat.le_of_ble_eq_true rfl) ?_ | refine And.intro (Int.natCast_nonneg _) ?_ | refine fun (_ : Nat) => ?_ | refine Ord.go ?_ | refine Run.go rfl ?_ | refine Cont.go rfl ?_ | refine OrdP.go ?_)
            exact ⟨_, [], FinOk.drop _ _, rfl, rfl⟩
  · have h : ¬ (i : Int) < ((((n : Int) - (at_ : Int)).toNat : Nat) : Int) := h
    have hno : readN (d.take n) at_ = none := by rw [hrd]; exact rdF_end (by omega)
    rw [hno]
    repeat (first | refine Ops.go ?_ | refine And.intro rfl ?_ | refine And.intro (Nat.le_of_ble_eq_true rfl) ?_ | refine And.intro (Int.natCast_nonneg _) ?_ | refine fun (_ : Nat) => ?_ | refine Ord.go ?_ | refine Run.go rfl ?_ | refine Cont.go rfl ?_ | refine OrdP.go ?_)
    refine fun r hr => ?_
    obtain rfl : r = ((n - at_ : Nat) : Int) := by rw [hr, IntKind.wrap_i64]; omega
    repeat (first | refine Ops.go ?_ | refine And.intro rfl ?_ | refine And.intro (Nat.le_of_ble_eq_true rfl) ?_ | refine And.intro (Int.natCast_nonneg _) ?_ | refine fun (_ : Nat) => ?_ | refine Ord.go ?_ | refine Run.go rfl ?_ | refine Cont.go rfl ?_ | refine OrdP.go ?_)
    refine ⟨fun h => ?_, fun h => ?_⟩
    · repeat (first | refine Ops.go ?_ | refine And.intro rfl ?_ | refine And.intro (Nat.le_of_ble_eq_true rfl) ?_ | refine And.intro (Int.natCast_nonneg _) ?_ | refine fun (_ : Nat) => ?_ | refine Ord.go ?_ | refine Run.go rfl ?_ | refine Cont.go rfl ?_ | refine OrdP.go ?_)
      exact ⟨_, [], FinOk.drop _ _, rfl, 20, by decide, rfl⟩
    · repeat (first | refine Ops.go ?_ | refine And.intro rfl ?_ | refine And.intro (Nat.le_of_ble_eq_true rfl) ?_ | refine And.intro (Int.natCast_nonneg _) ?_ | refine fun (_ : Nat) => ?_ | refine Ord.go ?_ | refine Run.go rfl ?_ | refine Cont.go rfl ?_ | refine OrdP.go ?_)
      exact ⟨_, [], FinOk.drop _ _, rfl, 21, by decide, rfl⟩
theorem refReadNumber_spec (d : List Int) (n at_ : Nat) (hn : n ≤ d.length) (hb : Bytes d) (ha : at_ ≤ n) (hN : n ≤ 1000000) : FnSpec C 72 [rdb d n, .int .i64 at_] [] (RdQ (readN (d.take n) at_)) := by
  refine FnSpec.start C_ok Tryd.func72 rfl rfl Tryd.ntmps72 ?_
  repeat (first | refine Ops.go ?_ | refine And.intro rfl ?_ | refine And.intro (Nat.le_of_ble_eq_true rfl) ?_ | refine And.intro (Int.natCast_nonneg _) ?_ | refine fun (_ : Nat) => ?_ | refine Ord.go ?_ | refine Run.go rfl ?_ | refine Cont.go rfl ?_ | refine OrdP.go ?_)
  refine ⟨fun h => absurd (show (at_ : Int) < 0 from h) (by omega), fun _ => ?_⟩
  repeat (first | refine Ops.go ?_ | refine And.intro rfl ?_ | refine And.intro (Nat.le_of_ble_eq_true rfl) ?_ | refine And.intro (Int.natCast_nonneg _) ?_ | refine fun (_ : Nat) => ?_ | refine Ord.go ?_ | refine Run.go rfl ?_ | refine Cont.go rfl ?_ | refine OrdP.go ?_)
  refine ⟨fun h => absurd (show (n : Int) < (at_ : Int) from h) (by omega), fun _ => ?_⟩
  repeat (first | refine Ops.go ?_ | refine And.intro rfl ?_ | refine And.intro (Nat.le_of_ble_eq_true rfl) ?_ | refine And.intro (Int.natCast_nonneg _) ?_ | refine fun (_ : Nat) => ?_ | refine Ord.go ?_ | refine Run.go rfl ?_ | refine Cont.go rfl ?_ | refine OrdP.go ?_)
  have tl : (d.take n).length = n := by rw [List.length_take]; omega
  refine Run.loop (fun k env L => ∃ (i v : Nat), k = 5 - i ∧ i ≤ 5 ∧ v < 128 ^ i ∧ readN (d.take n) at_ = rdF (d.take n) at_ (5 - i) i v ∧
      env = [rdb d n, .int .i64 at_, .junk, .junk, .junk, .junk, .junk, .int .i64 v, .int .i64 (128 ^ i : Nat), .int .i64 i, .junk, .junk, .junk, .junk, .junk, .junk, .junk, .junk, .junk, .junk, .junk, .junk, .junk, .junk, .junk, .junk, .junk, .junk, .junk, .junk, .junk, .junk, .junk, .junk, .junk, .junk, .junk, .junk, .junk, .junk, .junk, .junk, .junk, .junk, .junk, .junk, .junk, .junk, .junk, .junk, .junk, .junk, .junk, .junk, .junk, .junk, .junk, .junk, .junk, .junk, .junk] ∧ L = []) 5
    [rdb d n, .int .i64 at_, .junk, .junk, .junk, .junk, .junk, .int .i64 (0 : Nat), .int .i64 (128 ^ 0 : Nat), .int .i64 (0 : Nat), .junk, .junk, .junk, .junk, .junk, .junk, .junk, .junk, .junk, .junk, .junk, .junk, .junk, .junk, .junk, .junk, .junk, .junk, .junk, .junk, .junk, .junk, .junk, .junk, .junk, .junk, .junk, .junk, .junk, .junk, .junk, .junk, .junk, .junk, .junk, .junk, .junk, .junk, .junk, .junk, .junk, .junk, .junk, .junk, .junk, .junk, .junk, .junk, .junk, .junk, .junk] ?_ ⟨0, 0, by omega, by omega, by decide, rfl, rfl, rfl⟩ ?_
  · repeat (first | exact trivial | refine ⟨.inl rfl, ?_⟩ | refine ⟨.inr rfl, ?_⟩)
  rintro k env L ⟨i, v, rfl, hi5, hv, hrd, rfl, rfl⟩
  repeat (first | refine Ops.go ?_ | refine And.intro rfl ?_ | refine And.intro (Nat.le_of_ble_eq_true rfl) ?_ | refine And.intro (Int.natCast_nonneg _) ?_ | refine fun (_ : Nat) => ?_ | refine Ord.go ?_ | refine Run.go rfl ?_ | refine Cont.go rfl ?_ | refine OrdP.go ?_)
  refine ⟨fun h => ?_, fun h => ?_⟩
  · have h : (i : Int) < 5 := h
    have hi4 : i ≤ 4 := by omega
    have hp4 := pow_le4 hi4
    repeat (first | refine Ops.go ?_ | refine And.intro rfl ?_ | refine And.intro (Nat.le_of_ble_eq_true rfl) ?_ | refine And.intro (Int.natCast_nonneg _) ?_ | refine fun (_ : Nat) => ?_ | refine Ord.go ?_ | refine Run.go rfl ?_ | refine Cont.go rfl ?_ | refine OrdP.go ?_)
    refine fun r hr => ?_
    obtain rfl : r = ((at_ + i : Nat) : Int) := by rw [hr, IntKind.wrap_i64]; omega
    repeat (first | refine Ops.go ?_ | refine And.intro rfl ?_ | refine And.intro (Nat.le_of_ble_eq_true rfl) ?_ | refine And.intro (Int.natCast_nonneg _) ?_ | refine fun (_ : Nat) => ?_ | refine Ord.go ?_ | refine Run.go rfl ?_ | refine Cont.go rfl ?_ | refine OrdP.go ?_)
    refine ⟨fun h => ?_, fun h => ?_⟩
    · have hge : (n : Int) ≤ ((at_ + i : Nat) : Int) := h
      rw [show readN (d.take n) at_ = none from by rw [hrd]; exact rdF_end (by omega)]
      repeat (first | refine Ops.go ?_ | refine And.intro rfl ?_ | refine And.intro (Nat.le_of_ble_eq_true rfl) ?_ | refine And.intro (Int.natCast_nonneg _) ?_ | refine fun (_ : Nat) => ?_ | refine Ord.go ?_ | refine Run.go rfl ?_ | refine Cont.go rfl ?_ | refine OrdP.go ?_)
      exact ⟨_, [], FinOk.drop _ _, rfl, 21, by decide, rfl⟩
    · have hge : ¬ (n : Int) ≤ ((at_ + i : Nat) : Int) := h
      have hin : at_ + i < n := by omega
      obtain ⟨b, eb⟩ : ∃ b, d[at_ + i]? = some b := ⟨d[at_ + i], List.getElem?_eq_getElem (by omega)⟩
      have eb2 : (d.take n)[at_ + i]? = some b := by rw [List.getElem?_take, if_pos hin]; exact eb
      have hbb := hb b (List.mem_of_getElem? eb)
      have hbn : b = ((b.toNat : Nat) : Int) := by omega
      have hvx := part_lt hv (Nat.mod_lt b.toNat (show 0 < 128 by decide))
      have hx4 : b.toNat % 128 * 128 ^ i ≤ 127 * 268435456 := Nat.mul_le_mul (by omega) hp4
      rw [show 5 - i = (5 - (i + 1)) + 1 by omega] at hrd
      repeat (first | refine Ops.go ?_ | refine And.intro rfl ?_ | refine And.intro (Nat.le_of_ble_eq_true rfl) ?_ | refine And.intro (Int.natCast_nonneg _) ?_ | refine fun (_ : Nat) => ?_ | refine Ord.go ?_ | refine Run.go rfl ?_ | refine Cont.go rfl ?_ | refine OrdP.go ?_)
      refine fun r hr => ?_
      obtain rfl : r = ((at_ + i : Nat) : Int) := by rw [hr, IntKind.wrap_i64]; omega
      repeat (first | refine Ops.go ?_ | refine And.intro rfl ?_ | refine And.intro (Nat.le_of_ble_eq_true rfl) ?_ | refine And.intro (Int.natCast_nonneg _) ?_ | refine fun (_ : Nat) => ?_ | refine Ord.go ?_ | refine Run.go rfl ?_ | refine Cont.go rfl ?_ | refine OrdP.go ?_)
      refine ⟨by omega, .int .u8 b, u8s_at _ _ _ eb, ?_⟩
      repeat (first | refine Ops.go ?_ | refine And.intro rfl ?_ | refine And.intro (Nat.le_of_ble_eq_true rfl) ?_ | refine And.intro (Int.natCast_nonneg _) ?_ | refine fun (_ : Nat) => ?_ | refine Ord.go ?_ | refine Run.go rfl ?_ | refine Cont.go rfl ?_ | refine OrdP.go ?_)
      refine fun r2 hr2 => ?_
      obtain rfl : r2 = b := by rw [hr2, IntKind.wrap_i64]; omega
      repeat (first | refine Ops.go ?_ | refine And.intro rfl ?_ | refine And.intro (Nat.le_of_ble_eq_true rfl) ?_ | refine And.intro (Int.natCast_nonneg _) ?_ | refine fun (_ : Nat) => ?_ | refine Ord.go ?_ | refine Run.go rfl ?_ | refine Cont.go rfl ?_ | refine OrdP.go ?_)
      refine ⟨by decide, fun r3 hr3 => ?_⟩
      obtain rfl : r3 = ((r2.toNat % 128 : Nat) : Int) := by rw [hr3, hbn]; exact rem128 _
      repeat (first | refine Ops.go ?_ | refine And.intro rfl ?_ | refine And.intro (Nat.le_of_ble_eq_true rfl) ?_ | refine And.intro (Int.natCast_nonneg _) ?_ | refine fun (_ : Nat) => ?_ | refine Ord.go ?_ | refine Run.go rfl ?_ | refine Cont.go rfl ?_ | refine OrdP.go ?_)
      refine fun r4 hr4 => ?_
      obtain rfl : r4 = ((r2.toNat % 128 * 128 ^ i : Nat) : Int) := by rw [hr4, ← Int.natCast_mul, IntKind.wrap_i64]; omega
      repeat (first | refine Ops.go ?_ | refine And.intro rfl ?_ | refine And.intro (Nat.le_of_ble_eq_true rfl) ?_ | refine And.intro (Int.natCast_nonneg _) ?_ | refine fun (_ : Nat) => ?_ | refine Ord.go ?_ | refine Run.go rfl ?_ | refine Cont.go rfl ?_ | refine OrdP.go ?_)
      refine fun r5 hr5 => ?_
      obtain rfl : r5 = ((v + r2.toNat % 128 * 128 ^ i : Nat) : Int) := by rw [hr5, ← Int.natCast_add, IntKind.wrap_i64]; omega
      repeat (first | refine Ops.go ?_ | refine And.intro rfl ?_ | refine And.intro (Nat.le_of_ble_eq_true rfl) ?_ | refine And.intro (Int.natCast_nonneg _) ?_ | refine fun (_ : Nat) => ?_ | refine Ord.go ?_ | refine Run.go rfl ?_ | refine Cont.go rfl ?_ | refine OrdP.go ?_)
      refine fun r6 hr6 => ?_
      obtain rfl : r6 = ((128 ^ (i + 1) : Nat) : Int) := by rw [hr6, Nat.pow_succ, Int.natCast_mul, IntKind.wrap_i64]; omega
      repeat (first | refine Ops.go ?_ | refine And.intro rfl ?_ | refine And.intro (Nat.le_of_ble_eq_true rfl) ?_ | refine And.intro (Int.natCast_nonneg _) ?_ | refine fun (_ : Nat) => ?_ | refine Ord.go ?_ | refine Run.go rfl ?_ | refine Cont.go rfl ?_ | refine OrdP.go ?_)
      refine ⟨fun h => ?_, fun h => ?_⟩
      · have h8 : r2 < 128 := h
        repeat (first | refine Ops.go ?_ | refine And.intro rfl ?_ | refine And.intro (Nat.le_of_ble_eq_true rfl) ?_ | refine And.intro (Int.natCast_nonneg _) ?_ | refine fun (_ : Nat) => ?_ | refine Ord.go ?_ | refine Run.go rfl ?_ | refine Cont.go rfl ?_ | refine OrdP.go ?_)
        refine ⟨fun h => ?_, fun h => ?_⟩
        · have hz : r2 = 0 := h
          repeat (first | refine Ops.go ?_ | refine And.intro rfl ?_ | refine And.intro (Nat.le_of_ble_eq_true rfl) ?_ | refine And.intro (Int.natCast_nonneg _) ?_ | refine fun (_ : Nat) => ?_ | refine Ord.go ?_ | refine Run.go rfl ?_ | refine Cont.go rfl ?_ | refine OrdP.go ?_)
          refine ⟨fun h => ?_, fun h => ?_⟩
          · have hi0 : (0 : Int) < (i : Int) := h
            rw [hrd, rdF_at eb2, if_pos (by omega), if_pos (.inl ⟨hz, by omega⟩)]
            repeat (first | refine Ops.go ?_ | refine And.intro rfl ?_ | refine And.intro (Nat.le_of_ble_eq_true rfl) ?_ | refine And.intro (Int.natCast_nonneg _) ?_ | refine fun (_ : Nat) => ?_ | refine Ord.go ?_ | refine Run.go rfl ?_ | refine Cont.go rfl ?_ | refine OrdP.go ?_)
            exact ⟨_, [], FinOk.drop _ _, rfl, 20, by decide, rfl⟩
          · have hi0 : ¬ (0 : Int) < (i : Int) := h
            repeat (first | refine Ops.go ?_ | refine And.intro rfl ?_ | refine And.intro (Nat.le_of_ble_eq_true rfl) ?_ | refine And.intro (Int.natCast_nonneg _) ?_ | refine fun (_ : Nat) => ?_ | refine Ord.go ?_ | refine Run.go rfl ?_ | refine Cont.go rfl ?_ | refine OrdP.go ?_)
            refine ⟨fun h => ?_, fun h => ?_⟩
            · have hmx : (2147483647 : Int) < ((v + r2.toNat % 128 * 128 ^ i : Nat) : Int) := h
              rw [hrd, rdF_at eb2, if_pos (by omega), if_pos (.inr (by omega))]
              repeat (first | refine Ops.go ?_ | refine And.intro rfl ?_ | refine And.intro (Nat.le_of_ble_eq_true rfl) ?_ | refine And.intro (Int.natCast_nonneg _) ?_ | refine fun (_ : Nat) => ?_ | refine Ord.go ?_ | refine Run.go rfl ?_ | refine Cont.go rfl ?_ | refine OrdP.go ?_)
              exact ⟨_, [], FinOk.drop _ _, rfl, 20, by decide, rfl⟩
            · have hmx : ¬ (2147483647 : Int) < ((v + r2.toNat % 128 * 128 ^ i : Nat) : Int) := h
              rw [hrd, rdF_at eb2, if_pos (by omega), if_neg (by rintro (⟨h1, h2⟩ | h1); omega; omega)]
              repeat (first | refine Ops.go ?_ | refine And.intro rfl ?_ | refine And.intro (Nat.le_of_ble_eq_true rfl) ?_ | refine And.intro (Int.natCast_nonneg _) ?_ | refine fun (_ : Nat) => ?_ | refine Ord.go ?_ | refine Run.go rfl ?_ | refine Cont.go rfl ?_ | refine OrdP.go ?_)
              refine fun r hr => ?_
              obtain rfl : r = ((at_ + i : Nat) : Int) := by rw [hr, IntKind.wrap_i64]; omega
              repeat (first | refine Ops.go ?_ | refine And.intro rfl ?_ | refine And.intro (Nat.le_of_ble_eq_true rfl) ?_ | refine And.intro (Int.natCast_nonneg _) ?_ | refine fun (_ : Nat) => ?_ | refine Ord.go ?_ | refine Run.go rfl ?_ | refine Cont.go rfl ?_ | refine OrdP.go ?_)
              refine fun r hr => ?_
              obtain rfl : r = ((at_ + i + 1 : Nat) : Int) := by rw [hr, IntKind.wrap_i64]; omega
              repeat (first | refine Ops.go ?_ | refine And.intro rfl ?_ | refine And.intro (Nat.le_of_ble_eq_true rfl) ?_ | refine And.intro (Int.natCast_nonneg _) ?_ | refine fun (_ : Nat) => ?_ | refine Ord.go ?_ | refine Run.go rfl ?_ | refine Cont.go rfl ?_ | refine OrdP.go ?_)
              exact ⟨_, [], FinOk.drop _ _, rfl, rfl⟩
        · have hz : ¬ r2 = 0 := h
          repeat (first | refine Ops.go ?_ | refine And.intro rfl ?_ | refine And.intro (Nat.le_of_ble_eq_true rfl) ?_ | refine And.intro (Int.natCast_nonneg _) ?_ | refine fun (_ : Nat) => ?_ | refine Ord.go ?_ | refine Run.go rfl ?_ | refine Cont.go rfl ?_ | refine OrdP.go ?_)
          refine ⟨fun h => ?_, fun h => ?_⟩
          · have hmx : (2147483647 : Int) < ((v + r2.toNat % 128 * 128 ^ i : Nat) : Int) := h
            rw [hrd, rdF_at eb2, if_pos (by omega), if_pos (.inr (by omega))]
            repeat (first | refine Ops.go ?_ | refine And.intro rfl ?_ | refine And.intro (Nat.le_of_ble_eq_true rfl) ?_ | refine And.intro (Int.natCast_nonneg _) ?_ | refine fun (_ : Nat) => ?_ | refine Ord.go ?_ | refine Run.go rfl ?_ | refine Cont.go rfl ?_ | refine OrdP.go ?_)
            exact ⟨_, [], FinOk.drop _ _, rfl, 20, by decide, rfl⟩
          · have hmx : ¬ (2147483647 : Int) < ((v + r2.toNat % 128 * 128 ^ i : Nat) : Int) := h
            rw [hrd, rdF_at eb2, if_pos (by omega), if_neg (by rintro (⟨h1, h2⟩ | h1); exact hz h1; omega)]
            repeat (first | refine Ops.go ?_ | refine And.intro rfl ?_ | refine And.intro (Nat.le_of_ble_eq_true rfl) ?_ | refine And.intro (Int.natCast_nonneg _) ?_ | refine fun (_ : Nat) => ?_ | refine Ord.go ?_ | refine Run.go rfl ?_ | refine Cont.go rfl ?_ | refine OrdP.go ?_)
            refine fun r hr => ?_
            obtain rfl : r = ((at_ + i : Nat) : Int) := by rw [hr, IntKind.wrap_i64]; omega
            repeat (first | refine Ops.go ?_ | refine And.intro rfl ?_ | refine And.intro (Nat.le_of_ble_eq_true rfl) ?_ | refine And.intro (Int.natCast_nonneg _) ?_ | refine fun (_ : Nat) => ?_ | refine Ord.go ?_ | refine Run.go rfl ?_ | refine Cont.go rfl ?_ | refine OrdP.go ?_)
            refine fun r hr => ?_
            obtain rfl : r = ((at_ + i + 1 : Nat) : Int) := by rw [hr, IntKind.wrap_i64]; omega
            repeat (first | refine Ops.go ?_ | refine And.intro rfl ?_ | refine And.intro (Nat.le_of_ble_eq_true rfl) ?_ | refine And.intro (Int.natCast_nonneg _) ?_ | refine fun (_ : Nat) => ?_ | refine Ord.go ?_ | refine Run.go rfl ?_ | refine Cont.go rfl ?_ | refine OrdP.go ?_)
            exact ⟨_, [], FinOk.drop _ _, rfl, rfl⟩
      · have h8 : ¬ r2 < 128 := h
        repeat (first | refine Ops.go ?_ | refine And.intro rfl ?_ | refine And.intro (Nat.le_of_ble_eq_true rfl) ?_ | refine And.intro (Int.natCast_nonneg _) ?_ | refine fun (_ : Nat) => ?_ | refine Ord.go ?_ | refine Run.go rfl ?_ | refine Cont.go rfl ?_ | refine OrdP.go ?_)
        refine fun r hr => ?_
        obtain rfl := add1 hr (by omega)
        repeat (first | refine Ops.go ?_ | refine And.intro rfl ?_ | refine And.intro (Nat.le_of_ble_eq_true rfl) ?_ | refine And.intro (Int.natCast_nonneg _) ?_ | refine fun (_ : Nat) => ?_ | refine Ord.go ?_ | refine Run.go rfl ?_ | refine Cont.go rfl ?_ | refine OrdP.go ?_)
        refine Cont.lp ?_
        refine ⟨5 - (i + 1), _, 99, by omega, ?_, ⟨i + 1, v + r2.toNat % 128 * 128 ^ i, rfl, by omega, hvx, by rw [hrd, rdF_at eb2, if_neg (by omega)], rfl, rfl⟩⟩
        repeat (first | exact trivial | refine ⟨.inl rfl, ?_⟩ | refine ⟨.inr rfl, ?_⟩)
  · have h : ¬ (i : Int) < 5 := h
    obtain rfl : i = 5 := by omega
    rw [show readN (d.take n) at_ = none from hrd]
    repeat (first | refine Ops.go ?_ | refine And.intro rfl ?_ | refine And.intro (Nat.le_of_ble_eq_true rfl) ?_ | refine And.intro (Int.natCast_nonneg _) ?_ | refine fun (_ : Nat) => ?_ | refine Ord.go ?_ | refine Run.go rfl ?_ | refine Cont.go rfl ?_ | refine OrdP.go ?_)
    exact ⟨_, [], FinOk.drop _ _, rfl, 20, by decide, rfl⟩
end Go.Proofs.YtfohedaadncefaaDoor.HBT
