/- Where roads through a plain region meet, what stands behind it is told once. -/
import Derived.Test.YtgpbppkmmlclfaaDoorHbZo
namespace Go.Proofs.YtgpbppkmmlclfaaDoor.HB
open Go

theorem Run.join0 {C : Cx} (hC : C.Ok) {Q : Exit → List AV → AHeap → Prop} {k : List Frame} {env : List AV} {L : AHeap} {id : Nat} {ops : Array Oper} (I : List AV → AHeap → Prop) (h1 : Run C (joinQ I) [] (.region id ops false) env L) (h2 : ∀ env L, I env L → Cont C Q k .normal env L) : Run C Q k (.region id ops false) env L :=
  Run.sem0 fun F a w ha => by
    have := awp_sound hC (.region id ops false) (after C (joinQ I) []) env L a w h1.ok ha
    refine Code.wp_mono (fun e a' w' hq => ?_) this
    cases e with
    | normal =>
      obtain ⟨env2, L2, ha2, env1, L1, hw, hi⟩ := hq
      exact ⟨env1, L1, hw C F a' w' ha2, (h2 env1 L1 hi).ok⟩
    | outgrown => exact hq
    | _ => obtain ⟨_, _, _, hq⟩ := hq; exact hq.elim
theorem YieldSpec.ofR {C : Cx} (hC : C.Ok) {l : Nat} {rec : Loop} {env : List AV} {Lb : AHeap} (R : AHeap → Prop) {args : List AV} (hst : rec.state = .ready) (hp : rec.pending = none) (hps : args.length = rec.params.size)
    (h : RunI (some l) C (QS (some l) C (fun _ e _ L => e = .normal ∧ ∃ Lb', Imp L Lb' ∧ R Lb') rec.body) [] rec.assign (putAs env rec.params.toList args) Lb) :
    YieldSpec C l args (RoundL l rec env Lb) fun b L' => b = true ∧ ∃ Lb', R Lb' ∧ L' = RoundL l rec env Lb' := by
  intro n imm w vs hG hs hlen hv
  obtain ⟨hl, henv, hsb, hlo, hli⟩ := round_sat hs
  have hll : l < w.heap.size := (Array.getElem?_eq_some_iff.1 hl).1
  have hy := run_yield (P := C.P) (args := vs.toArray) hl (by simp [hlen, hps])
  refine ⟨rec.fn, _, rec.assign, rec.body, hy, roundIn_of_wpIn trivial ?_⟩
  have hzip : (rec.params.zip vs.toArray).foldl (fun tmps (t, a) => tmps.setIfInBounds t a) rec.tmps = (rec.params.toList.zip vs).foldl (fun t (p, v) => t.setIfInBounds p v) rec.tmps := by
    rw [← Array.foldl_toList]
    simp
  have ha : At C ⟨[], Own Lb, imm, w⟩ (putAs env rec.params.toList args) Lb { tmps := (rec.params.zip vs.toArray).foldl (fun tmps (t, a) => tmps.setIfInBounds t a) rec.tmps, defers := [] } w :=
    ⟨imm, ⟨hsb, by rw [hzip]; exact henv.putAs hlen hv, Tr.refl _ _ _, rfl⟩, hG⟩
  refine wpIn_mono (h n ⟨[], Own Lb, imm, w⟩ _ w ha) fun e a1 w1 hq => ?_
  cases e with
  | normal =>
    obtain ⟨ds1, env1, L1, ⟨imm1, hst1, hG1⟩, hq⟩ := hq
    have ht1 : Tr C.D (Own Lb) imm w (Own L1) imm1 w1 := hst1.tr
    have hl1 : w1.heap[l]? = some (.loop rec) := (ht1.block l hll hlo).trans hl
    have hll1 : l < w1.heap.size := (Array.getElem?_eq_some_iff.1 hl1).1
    refine ⟨_, run_beginRound hl1 hst, ?_⟩
    have hlo1 : ¬ Own L1 l := fun h => (ht1.own2 l h).elim hlo (by omega)
    have hli1 : ¬ imm1 l := fun h => by
      rcases ht1.imm2 l h with h | h | h
      · exact hli h
      · exact hlo h
      · omega
    have hold2 : ∀ i, i ≠ l → (w1.putObj l (.loop { rec with state := .busy })).heap[i]? = w1.heap[i]? := fun i hi => World.putObj_heap_other hi
    have hs2 : Sat imm1 (w1.putObj l (.loop { rec with state := .busy })) L1 := hst1.sat.other hlo1 hli1 (by simp) hold2
    have hG2 : C.G imm1 (w1.putObj l (.loop { rec with state := .busy })) := hC.mono _ _ _ _ hG1 (fun _ h => h) (fun i hi => hold2 i fun e => hli1 (e ▸ hi))
    have ha2 : At C ⟨ds1, Own L1, imm1, w1.putObj l (.loop { rec with state := .busy })⟩ env1 L1 a1 (w1.putObj l (.loop { rec with state := .busy })) :=
      ⟨imm1, ⟨hs2, hst1.env.mono (fun _ h => h) (fun a ha => World.cell?_of_block (hold2 _ fun e => hli1 (e ▸ ha))), Tr.refl _ _ _, hst1.defers⟩, hG2⟩
    refine wpIn_mono (hq n ⟨ds1, Own L1, imm1, w1.putObj l (.loop { rec with state := .busy })⟩ a1 _ ha2) fun e a3 w3 hq3 => ?_
    cases e with
    | normal =>
      obtain ⟨ds3, env3, L3, ⟨imm3, hst3, _⟩, _, Lb', himp, hR⟩ := hq3
      have ht3 : Tr C.D (Own L1) imm1 (w1.putObj l (.loop { rec with state := .busy })) (Own L3) imm3 w3 := hst3.tr
      have hl3 : w3.heap[l]? = some (.loop { rec with state := .busy }) := (ht3.block l (by simpa using hll1) hlo1).trans (World.putObj_heap_same hll1)
      have hll3 : l < w3.heap.size := (Array.getElem?_eq_some_iff.1 hl3).1
      have hlo3 : ¬ Own L3 l := fun h => (ht3.own2 l h).elim hlo1 (by simp; omega)
      have hli3 : ¬ imm3 l := fun h => by
        rcases ht3.imm2 l h with h | h | h
        · exact hli1 h
        · exact hlo1 h
        · simp at h; omega
      have hrec : { { rec with state := .busy } with state := if (none : Option Code).isNone then .ready else .done, pending := none } = rec := by
        cases rec
        simp_all
      have hend := run_endRound (P := C.P) none hl3
      rw [hrec] at hend
      have hold4 : ∀ i, i ≠ l → (w3.putObj l (.loop rec)).heap[i]? = w3.heap[i]? := fun i hi => World.putObj_heap_other hi
      have hs4 : Sat imm3 (w3.putObj l (.loop rec)) Lb' := (himp.sat hst3.sat).other (fun h => hlo3 (himp.1 l h)) hli3 (by simp) hold4
      have himm : ∀ i, imm i → imm3 i := fun i hi => ht3.imm1 i (ht1.imm1 i hi)
      have hfix : ∀ i, imm i → (w3.putObj l (.loop rec)).heap[i]? = w.heap[i]? := fun i hi => by
        have hne : i ≠ l := fun e => hli (e ▸ hi)
        rw [hold4 i hne, ht3.immblock hs2.far hs2.immlt i (ht1.imm1 i hi), hold2 i hne, ht1.immblock hsb.far hsb.immlt i hi]
      refine ⟨_, _, hend, true, _, imm3, rfl, sat_round (World.putObj_heap_same hll3) (henv.mono himm fun a ha => World.cell?_of_block (hfix _ ha)) hs4 (fun h => hlo3 (himp.1 l h)) hli3, ?_, rfl, Lb', hR, rfl⟩
      refine ⟨fun hD => Nat.le_trans (ht1.drawn hD) (ht3.drawn hD), ht3.os.trans ht1.os, ht3.tape.trans ht1.tape, ht3.output.trans ht1.output, ?_, fun i hi ho => ?_, himm, fun i hi => ?_, fun i hi => ?_⟩
      · have a := ht1.size; have b := ht3.size; simp at b ⊢; omega
      · have hne : i ≠ l := fun e => ho ((own_round _ _ _ _ _).2 (.inl e))
        have h1 : ¬ Own Lb i := fun h => ho ((own_round _ _ _ _ _).2 (.inr h))
        have h2 : ¬ Own L1 i := fun h => (ht1.own2 i h).elim h1 (by omega)
        have hi1 : i < w1.heap.size := Nat.lt_of_lt_of_le hi ht1.size
        rw [hold4 i hne, ht3.block i (by simpa using hi1) h2, hold2 i hne, ht1.block i hi h1]
      · rcases ht3.imm2 i hi with h | h | h
        · rcases ht1.imm2 i h with h | h | h
          · exact .inl h
          · exact .inr (.inl ((own_round _ _ _ _ _).2 (.inr h)))
          · exact .inr (.inr h)
        · rcases ht1.own2 i h with h | h
          · exact .inr (.inl ((own_round _ _ _ _ _).2 (.inr h)))
          · exact .inr (.inr h)
        · have := ht1.size; simp at h; exact .inr (.inr (by omega))
      · rcases (own_round _ _ _ _ _).1 hi with rfl | h
        · exact .inl ((own_round _ _ _ _ _).2 (.inl rfl))
        · rcases ht3.own2 i (himp.1 i h) with h | h
          · rcases ht1.own2 i h with h | h
            · exact .inl ((own_round _ _ _ _ _).2 (.inr h))
            · exact .inr h
          · have := ht1.size; simp at h; exact .inr (by omega)
    | outgrown => exact hq3.elim
    | _ => obtain ⟨_, _, _, _, hq3, _⟩ := hq3; cases hq3
  | outgrown => exact hq.elim
  | _ => obtain ⟨_, _, _, _, hq, _⟩ := hq; cases hq
theorem FnSpec.frame {C : Cx} {f : FuncId} {args : List AV} {L : AHeap} (R : AHeap) {Q : AV → AHeap → Prop} (h : FnSpec C f args L Q) : FnSpec C f args (L ++ R) fun r L' => ∃ L1, Q r L1 ∧ L' = L1 ++ R := by
  refine ⟨h.1, fun imm w vs hG hs hl hv => ?_⟩
  have hc := ((satC_app _ _ _ _).1 hs.core).1
  have hs1 : Sat imm w L := ⟨hc.holds, hc.apart, fun i hi => hs.far i ((own_app _ _ _).2 (.inl hi)), fun i hi => hs.lt i ((own_app _ _ _).2 (.inl hi)), hs.immlt⟩
  refine (h.2 imm w vs hG hs1 hl hv).mono ?_
  rintro e w' ⟨v, r, L', imm', rfl, hr, hs', ht, hq⟩
  obtain ⟨m1, m2⟩ := frame_sat hs hs' ht
  exact ⟨v, r, L' ++ R, imm', rfl, hr, m1, m2, L', hq, rfl⟩

/-! ### The same rules, what stands behind a step kept as data -/
inductive FrameI where
  | seq (y : Code)
  | blk (id : Nat)
  | lp (I : Nat → List AV → AHeap → Prop) (n : Nat) (ds0 : List Deferred)
def afterI (ro : Option Nat) (C : Cx) (Q : List Deferred → Exit → List AV → AHeap → Prop) : List FrameI → List Deferred → Exit → List AV → AHeap → Prop
  | [] => Q
  | .seq y :: k => QS ro C (afterI ro C Q k) y
  | .blk id :: k => QB id (afterI ro C Q k)
  | .lp I n ds0 :: k => QLp I n ds0 (afterI ro C Q k)
structure RunX (ro : Option Nat) (C : Cx) (Q : List Deferred → Exit → List AV → AHeap → Prop) (k : List FrameI) (ds : List Deferred) (c : Code) (env : List AV) (L : AHeap) : Prop where
  ok : RunI ro C (afterI ro C Q k) ds c env L
structure ContX (ro : Option Nat) (C : Cx) (Q : List Deferred → Exit → List AV → AHeap → Prop) (k : List FrameI) (ds : List Deferred) (e : Exit) (env : List AV) (L : AHeap) : Prop where
  ok : afterI ro C Q k ds e env L
section
variable {ro : Option Nat} {C : Cx} {Q : List Deferred → Exit → List AV → AHeap → Prop} {k : List FrameI} {ds : List Deferred} {env : List AV} {L : AHeap}
theorem RunX.seq {x y : Code} (h : RunX ro C Q (.seq y :: k) ds x env L) : RunX ro C Q k ds (.seq x y) env L := ⟨RunI.seq h.ok⟩
theorem RunX.blk {id : Nat} {b : Code} (h : RunX ro C Q (.blk id :: k) ds b env L) : RunX ro C Q k ds (.block id b) env L := ⟨RunI.blk h.ok⟩
theorem RunX.skip (h : ContX ro C Q k ds .normal env L) : RunX ro C Q k ds .skip env L := ⟨RunI.skip h.ok⟩
theorem RunX.exit {id : Nat} (h : ContX ro C Q k ds (.exit id) env L) : RunX ro C Q k ds (.exit id) env L := ⟨RunI.exit h.ok⟩
theorem RunX.ret (h : ContX ro C Q k ds .ret env L) : RunX ro C Q k ds .ret env L := ⟨RunI.ret h.ok⟩
theorem RunX.condT {c : Operand} {x y : Code} (hc : aeval env c = .bool true) (h : RunX ro C Q k ds x env L) : RunX ro C Q k ds (.cond c x y) env L := ⟨RunI.cond (b := true) hc h.ok⟩
theorem RunX.condF {c : Operand} {x y : Code} (hc : aeval env c = .bool false) (h : RunX ro C Q k ds y env L) : RunX ro C Q k ds (.cond c x y) env L := ⟨RunI.cond (b := false) hc h.ok⟩
theorem RunX.text (hC : C.Ok) {A : OpRule} (hA : A.SoundI ro C) {id : Nat} {ops : Array Oper} (h : OpsA C A (afterI ro C Q k ds) [] ops ops.toList env L) : RunX ro C Q k ds (.region id ops false) env L := ⟨RunI.text hC hA h⟩
theorem RunX.run (hC : C.Ok) {c : Code} (h : Run C (afterI none C Q k ds) [] c env L) : RunX none C Q k ds c env L := ⟨RunI.run hC h⟩
theorem RunX.weak {c : Code} {env1 : List AV} {L1 : AHeap} (hw : Weak env L env1 L1) (h : RunX ro C Q k ds c env1 L1) : RunX ro C Q k ds c env L := ⟨RunI.weak hw h.ok⟩
theorem RunX.loop {b : Code} (I : Nat → List AV → AHeap → Prop) (n0 : Nat) (env0 : List AV) (L0 : AHeap) (hw : Weak env L env0 L0) (hI : I n0 env0 L0)
    (h : ∀ n env L, I n env L → RunX ro C Q (.lp I n ds :: k) ds b env L) : RunX ro C Q k ds (.loop b) env L := ⟨RunI.loop I n0 env0 L0 hw hI fun n env L hi => (h n env L hi).ok⟩
theorem RunX.drawn (hC : C.Ok) {A : OpRule} (hA : A.SoundI none C) {id : Nat} {ops : Array Oper} (I : List AV → AHeap → Prop) (t : OTree) (hc : (Region.noSelect ops && otOkI ops t (Array.replicate ops.size false) && decide (t.depth ≤ ops.size)) = true)
    (h : OrdI C A (joinI I) ops t env L) (hk : ∀ env L, I env L → ContX none C Q k ds .normal env L) : RunX none C Q k ds (.region id ops true) env L := ⟨RunI.drawn hC hA I t hc h fun env L hi => (hk env L hi).ok⟩
theorem RunX.rangeFunc (hC : C.Ok) {g : Operand} {ps : Array Tmp} {assign body : Code} {gf : FuncId} {lb : Array Value} (hg : aeval env g = .any (.func (.func gf) #[] lb))
    (ki kb : List Nat) (hnb : kb.Nodup) (hni : ki.Nodup) (lbA : List AV) (hlb : toVs lbA = some lb.toList)
    (hit : ∀ (l : Nat) (rec : Loop), rec.params = ps → rec.assign = assign → rec.body = body → rec.state = .ready → rec.pending = none →
      FnSpec C gf (.any (.func (.yield l) #[] #[]) :: lbA) (selL (restL L kb) ki ++ RoundL l rec env (selL L kb)) fun _ L' => ∃ Li Lb, L' = Li ++ RoundL l rec env Lb ∧
        ∀ D, ContX none C Q k (markD D :: ds) .normal env (restL (restL L kb) ki ++ (Li ++ Lb ++ [dfd D]))) :
    RunX none C Q k ds (.rangeFunc g ps assign body) env L :=
  ⟨RunI.rangeFunc hC hg ki kb hnb hni lbA hlb fun l rec h1 h2 h3 h4 h5 => (hit l rec h1 h2 h3 h4 h5).mono fun _ _ ⟨Li, Lb, e, h⟩ => ⟨Li, Lb, e, fun D => (h D).ok⟩⟩
theorem Cont.ofX (h : ContX ro C Q k ds .normal env L) : Cont C (afterI ro C Q k ds) [] .normal env L := ⟨h.ok⟩
theorem Cont.ofX_exit {id : Nat} (h : ContX ro C Q k ds (.exit id) env L) : Cont C (afterI ro C Q k ds) [] (.exit id) env L := ⟨h.ok⟩
theorem Cont.ofX_ret (h : ContX ro C Q k ds .ret env L) : Cont C (afterI ro C Q k ds) [] .ret env L := ⟨h.ok⟩
theorem ContX.nil {e : Exit} (h : Q ds e env L) : ContX ro C Q [] ds e env L := ⟨h⟩
theorem ContX.seq {y : Code} (h : RunX ro C Q k ds y env L) : ContX ro C Q (.seq y :: k) ds .normal env L := ⟨h.ok⟩
theorem ContX.seq_exit {y : Code} {id : Nat} (h : ContX ro C Q k ds (.exit id) env L) : ContX ro C Q (.seq y :: k) ds (.exit id) env L := ⟨h.ok⟩
theorem ContX.seq_ret {y : Code} (h : ContX ro C Q k ds .ret env L) : ContX ro C Q (.seq y :: k) ds .ret env L := ⟨h.ok⟩
theorem ContX.blk {id : Nat} (h : ContX ro C Q k ds .normal env L) : ContX ro C Q (.blk id :: k) ds .normal env L := ⟨h.ok⟩
theorem ContX.blk_exit {id : Nat} (h : ContX ro C Q k ds .normal env L) : ContX ro C Q (.blk id :: k) ds (.exit id) env L := ⟨by
  simp only [afterI, QB, Exit.inB, if_true]
  exact h.ok⟩
theorem ContX.blk_far {id id' : Nat} (e : (id' == id) = false) (h : ContX ro C Q k ds (.exit id') env L) : ContX ro C Q (.blk id :: k) ds (.exit id') env L := ⟨by
  have e : id' ≠ id := by simpa using e
  simp only [afterI, QB, Exit.inB, if_neg e]
  exact h.ok⟩
theorem ContX.blk_ret {id : Nat} (h : ContX ro C Q k ds .ret env L) : ContX ro C Q (.blk id :: k) ds .ret env L := ⟨h.ok⟩
theorem ContX.lp_exit {I : Nat → List AV → AHeap → Prop} {n : Nat} {ds0 : List Deferred} {id : Nat} (h : ContX ro C Q k ds (.exit id) env L) : ContX ro C Q (.lp I n ds0 :: k) ds (.exit id) env L := ⟨h.ok⟩
theorem ContX.lp_ret {I : Nat → List AV → AHeap → Prop} {n : Nat} {ds0 : List Deferred} (h : ContX ro C Q k ds .ret env L) : ContX ro C Q (.lp I n ds0 :: k) ds .ret env L := ⟨h.ok⟩
theorem ContX.lp {I : Nat → List AV → AHeap → Prop} {n : Nat} (h : ∃ m env1 L1, m < n ∧ Weak env L env1 L1 ∧ I m env1 L1) : ContX ro C Q (.lp I n ds :: k) ds .normal env L := ⟨⟨rfl, h⟩⟩
end
theorem FnSpec.startX {C : Cx} (hC : C.Ok) {f : FuncId} {fn : Func} {c : Code} {args : List AV} {L : AHeap} {Q : AV → AHeap → Prop} {n : Nat} (hf : C.P.funcs[f]? = some fn) (hb : fn.body = some c) (hname : (fn.name == "runtime.NumGoroutine") = false) (hn : fn.ntmps = n)
    (h : RunX none C (postI C fn Q) [] [] c (args ++ List.replicate (n - args.length) .junk) L) : FnSpec C f args L Q := FnSpec.startI hC hf hb hname hn h.ok
theorem YieldSpec.ofX {C : Cx} (hC : C.Ok) {l : Nat} {rec : Loop} {env : List AV} {Lb : AHeap} (R : AHeap → Prop) {args : List AV} (hst : rec.state = .ready) (hp : rec.pending = none) (hps : args.length = rec.params.size)
    (h : RunX (some l) C (fun _ e _ L => e = .normal ∧ ∃ Lb', Imp L Lb' ∧ R Lb') [.seq rec.body] [] rec.assign (putAs env rec.params.toList args) Lb) :
    YieldSpec C l args (RoundL l rec env Lb) fun b L' => b = true ∧ ∃ Lb', R Lb' ∧ L' = RoundL l rec env Lb' := YieldSpec.ofR hC R hst hp hps h.ok
theorem postI.done {C : Cx} {fn : Func} {Q : AV → AHeap → Prop} {env : List AV} {L : AHeap} (h : finI C fn Q env L) : postI C fn Q [] .normal env L := h
theorem postI.marked {C : Cx} {fn : Func} {Q : AV → AHeap → Prop} {env : List AV} {L : AHeap} (k D : Nat) (hk : L[k]? = some (dfd D)) (h : finI C fn Q env (L.set k (D, .obj (.deferred none)))) : postI C fn Q [markD D] .ret env L := ⟨k, D, rfl, hk, h⟩
theorem finI.none {C : Cx} {fn : Func} {Q : AV → AHeap → Prop} {env : List AV} {L : AHeap} (hr : fn.results.toList = []) (h : ∃ r L', FinOk (.tuple []) L r L' ∧ Q r L') : finI C fn Q env L := by
  unfold finI
  rw [hr]
  exact h
theorem YieldSpec.mono {C : Cx} {l : Nat} {args : List AV} {L : AHeap} {Q Q' : Bool → AHeap → Prop} (h : YieldSpec C l args L Q) (k : ∀ b L', Q b L' → Q' b L') : YieldSpec C l args L Q' := fun n imm w vs hG hs hl hv =>
  let ⟨fn, tmps, assign, body, h1, h2⟩ := h n imm w vs hG hs hl hv
  ⟨fn, tmps, assign, body, h1, h2.mono fun _ _ ⟨b, L', imm', e, a1, a2, a3⟩ => ⟨b, L', imm', e, a1, a2, k b L' a3⟩⟩

/-! ### Regions that draw their order, structs within structs being compared in them -/
def e2Op (E2 : TypeId → Option (List AV)) (o : Oper) : Bool := match o.op with
  | .binOp op t _ _ _ => (E2 t).isSome && (isEq op).isSome
  | _ => false
def aopE2 (E2 : TypeId → Option (List AV)) (o : Oper) (env : List AV) (K : AV → Prop) : Prop := match o.op with
  | .binOp op t x y _ => match E2 t, isEq op, aeval env x, aeval env y with
    | some ks, some b, .agg xs, .agg ys => if kindsEq ks xs && kindsEq ks ys then (match b with
      | true => both (allEq xs ys) K
      | false => both (¬ allEq xs ys) K) else False
    | _, _, _, _ => False
  | _ => False
theorem aopE2_run {C : Cx} {E2 : TypeId → Option (List AV)} (hE : ∀ t ks, E2 t = some ks → eqOk2 C.P t ks = true) {o : Oper} {env : List AV} {K : AV → Prop} (h : aopE2 E2 o env K) {imm : Nat → Prop} {w : World} {a : Act} (he : EnvR imm w env a.tmps) :
    ∃ v x, (∀ w', (execOp a.eval o).run C.P w' = .ok (.value v) w') ∧ VR imm w x v ∧ K x := by
  unfold aopE2 at h
  split at h
  case h_2 => exact h.elim
  rename_i op t x y t' ho
  split at h
  case h_2 => exact h.elim
  rename_i ks b xs ys hE2 hb ex ey
  have hx := aeval_VR he x
  have hy := aeval_VR he y
  rw [ex] at hx
  rw [ey] at hy
  generalize hxx : a.eval x = u at hx
  generalize hyy : a.eval y = u' at hy
  cases hx with
  | agg _ vs hvl h1 hvv =>
  cases hy with
  | agg _ us hul h1' huu =>
  split at h
  case isFalse => exact h.elim
  rename_i hcond
  simp only [Bool.and_eq_true] at hcond
  have hok := hE t ks hE2
  unfold eqOk2 at hok
  split at hok
  case h_2 => cases hok
  rename_i fields hu
  simp only [Bool.and_eq_true, Bool.not_eq_true'] at hok
  obtain ⟨⟨hst, heg⟩, hall⟩ := hok
  have hfo : C.P.fieldsOf t = fields := by unfold Program.fieldsOf; rw [hu]
  obtain ⟨c, hcr, hci⟩ := eqFields2_run (P := C.P) (imm := imm) (w0 := w) (us := vs.toArray) (vs := us.toArray) 9997 fields.toList 0 ks xs ys hall hcond.1 hcond.2
    (fun j x hj => by
      obtain ⟨u, e, _, hv⟩ := (VRs.mk hvl h1 hvv).get hj
      exact ⟨u, by simpa using e, hv⟩)
    (fun j x hj => by
      obtain ⟨u, e, _, hv⟩ := (VRs.mk hul h1' huu).get hj
      exact ⟨u, by simpa using e, hv⟩)
  have heq : ∀ w, (Op.equalIn 10000 t (.agg vs.toArray) (.agg us.toArray)).run C.P w = .ok c w := fun w => by
    rw [run_equalIn_struct (P := C.P) w 9999 t vs.toArray us.toArray (by rw [hfo]; exact hu) hst, hfo]
    exact hcr w
  have hop := isEq_some hb
  cases b
  · have hop : op = .neq := by simpa using hop
    subst hop
    refine ⟨.bool (!c), .bool (!c), fun w' => ?_, .bool (!c), ?_⟩
    · simp only [execOp, ho, hxx, hyy, Sem.run_bind, run_eqGuard_agg w' _ t x y _ _ heg, Result.andThen_ok, run_neq_struct, heq]
      rfl
    · cases c
      · exact h.1 (by simpa using hci)
      · exact h.2 (by simpa using hci)
  · have hop : op = .eql := by simpa using hop
    subst hop
    refine ⟨.bool c, .bool c, fun w' => ?_, .bool c, ?_⟩
    · simp only [execOp, ho, hxx, hyy, Sem.run_bind, run_eqGuard_agg w' _ t x y _ _ heg, Result.andThen_ok, run_eql_struct, heq]
      rfl
    · cases c
      · exact h.2 (by simpa using hci)
      · exact h.1 (by simpa using hci)
def aopKE (C : Cx) (A : OpRule) (E2 : TypeId → Option (List AV)) (keys : List Nat) (o : Oper) (env : List AV) (L : AHeap) (K : AV → AHeap → Prop) : Prop :=
  match e2Op E2 o with
  | true => aopE2 E2 o env fun v => K v L
  | false => aopK C A keys o env L K
theorem aopKE_move {C : Cx} (hC : C.Ok) {A : OpRule} {E2 : TypeId → Option (List AV)} (hE : ∀ t ks, E2 t = some ks → eqOk2 C.P t ks = true) {keys : List Nat} {o : Oper} (hm : movA o.op = true) {env : List AV} {L : AHeap} {K : AV → AHeap → Prop} (h : aopKE C A E2 keys o env L K) {imm : Nat → Prop} {w : World} {a : Act} (hG : C.G imm w) (hs : Sat imm w L) (he : EnvR imm w env a.tmps) :
    ∃ v x, (∀ w', SameK imm L keys w w' → (execOp a.eval o).run C.P w' = .ok (.value v) w') ∧ VR imm w x v ∧ K x L := by
  unfold aopKE at h
  split at h
  · obtain ⟨v, x, hr, hx, hk⟩ := aopE2_run hE h he
    exact ⟨v, x, fun w' _ => hr w', hx, hk⟩
  · exact aopK_move hC hm h hG hs he
theorem aopKE_sound {C : Cx} (hC : C.Ok) {A : OpRule} (hA : A.Sound C) {E2 : TypeId → Option (List AV)} (hE : ∀ t ks, E2 t = some ks → eqOk2 C.P t ks = true) {keys : List Nat} {o : Oper} {env : List AV} {L : AHeap} {K : AV → AHeap → Prop} (h : aopKE C A E2 keys o env L K) {imm : Nat → Prop} {w : World} {a : Act} (hG : C.G imm w) (hs : Sat imm w L) (he : EnvR imm w env a.tmps)
    {next : Act → World → Prop} {Q : Exit → Act → World → Prop}
    (hn : ∀ x L' imm' v w', K x L' → Sat imm' w' L' → VR imm' w' x v → Tr C.D (Own L) imm w (Own L') imm' w' → SameK imm L keys w w' → (∀ g, OwnK L keys g → OwnK L' keys g) → next (a.put o.dst v) w') : o.wp C.P a w next Q := by
  unfold aopKE at h
  split at h
  · obtain ⟨v, x, hr, hx, hk⟩ := aopE2_run hE h he
    exact wp_value (hr w) (hn _ _ _ _ _ hk hs hx (Tr.refl _ _ _) (fun _ _ => rfl) (fun _ h => h))
  · exact aopK_sound hC hA h hG hs he hn

def awpOrdE2 (C : Cx) (A : OpRule) (E2 : TypeId → Option (List AV)) (keys : List Nat) (ops : Array Oper) : List Nat → (List AV → AHeap → Prop) → List AV → AHeap → Prop
  | [], Q, env, L => Q env L
  | i :: rest, Q, env, L =>
    match ops[i]? with
    | none => False
    | some o => aoperG (aopKE C A E2 keys) ops o env L fun env' L' => awpOrdE2 C A E2 keys ops rest Q env' L'

theorem awpOrdE2_sound {C : Cx} (hC : C.Ok) {A : OpRule} (hA : A.Sound C) {E2 : TypeId → Option (List AV)} (hE : ∀ t ks, E2 t = some ks → eqOk2 C.P t ks = true) {F : Fr} {keys : List Nat} {ops : Array Oper} {Q : List AV → AHeap → Prop} {Qc : Exit → Act → World → Prop} (hsel : Region.noSelect ops = true) (hQ : ∀ env L a w, Q env L → At C F env L a w → Qc .normal a w) (hpan : ∀ c a w, ¬ Qc (.panic c) a w) :
    ∀ (order : List Nat) (fuel : Nat) (listed : Array Bool) (env : List AV) (L : AHeap) (a : Act) (w : World) (imm : Nat → Prop), order.length ≤ fuel → orderOk true ops order listed = true → awpOrdE2 C A E2 keys ops order Q env L →
      St C.D F.ds F.own F.imm F.w env L imm a w → C.G imm w → wpAnyH C.P .any ops Qc (SameK imm L keys w) fuel listed a w
  | [], fuel, listed, env, L, a, w, imm, _, hok, h, hst, hG => by
    have : Region.ready .any ops listed = [] := by simpa [orderOk] using hok
    exact wpAnyH_done this (hQ _ _ _ _ h ⟨imm, hst, hG⟩) fuel
  | i :: rest, 0, _, _, _, _, _, _, hl, _, _, _, _ => by simp at hl
  | i :: rest, fuel + 1, listed, env, L, a, w, imm, hl, hok, h, hst, hG => by
    simp only [orderOk] at hok
    simp only [awpOrdE2] at h
    cases ho : ops[i]? with
    | none => rw [ho] at h; exact h.elim
    | some o =>
      rw [ho] at h hok
      simp only [Bool.and_eq_true, Bool.or_eq_true] at hok
      obtain ⟨hthis, hrest⟩ := hok
      have hl' : rest.length ≤ fuel := by simpa using hl
      rcases hthis with ⟨⟨hm, hfree⟩, hready⟩ | hsing
      · simp only [movB, Bool.and_eq_true, Bool.or_eq_true, Bool.not_eq_true'] at hm
        obtain ⟨hmov, _⟩ := hm
        have take : ∀ {v : Value} {x : AV}, YieldsIf C.P ops (SameK imm L keys w) o v a → VR imm w x v → awpOrdE2 C A E2 keys ops rest Q (putA env o.dst x) L → wpAnyH C.P .any ops Qc (SameK imm L keys w) (fuel + 1) listed a w := fun {v x} hy hx hk =>
          wpAnyH_take ho hsel hfree hready (fun c a w hp => (hpan c _ _ hp).elim) hy (fun _ _ => rfl) (awpOrdE2_sound hC hA hE hsel hQ hpan rest fuel _ _ L _ w imm hl' hrest hk (hst.put hx o.dst) hG)
        rcases aoperG_cases h hst.env with ⟨hw, h⟩ | ⟨hw, h⟩
        · obtain ⟨v, x, hr, hx, hk⟩ := aopKE_move hC hE hmov h hG hst.sat hst.env
          exact take (.inl ⟨hw, hr⟩) hx hk
        · exact take (.inr ⟨hw, rfl⟩) undef_VR h
      · have hr : Region.ready .any ops listed = [i] := by simpa using hsing
        refine wpAnyH_all hr (by simp) (fun j hj => ?_)
        obtain rfl : j = i := by simpa using hj
        unfold wpOp
        rw [ho]
        dsimp only
        rcases aoperG_cases h hst.env with ⟨hw, h⟩ | ⟨hw, h⟩
        · rw [if_pos hw]
          refine .inl (aopKE_sound hC hA hE h hG hst.sat hst.env fun x L' imm' v w' hk hs hx ht hsame hown => ⟨hsame, ?_⟩)
          have hst' := (hst.step hs ht).put hx o.dst
          have hG' := hC.mono _ _ _ _ hG ht.imm1 (ht.immblock hst.sat.far hst.sat.immlt)
          refine wpAnyH_weak (S := SameK imm' L' keys w') (fun w2 h2 g hg => ?_) _ _ _ _ (awpOrdE2_sound hC hA hE hsel hQ hpan rest fuel _ _ L' _ w' imm' hl' hrest hk hst' hG')
          rw [h2 g (hg.imp (ht.imm1 g) (hown g)), hsame g hg]
        · rw [if_neg (by rw [hw]; simp)]
          exact ⟨fun _ _ => rfl, awpOrdE2_sound hC hA hE hsel hQ hpan rest fuel _ _ L _ w imm hl' hrest h (hst.put undef_VR o.dst) hG⟩

structure OrdE2 (C : Cx) (A : OpRule) (E2 : TypeId → Option (List AV)) (Q : Exit → List AV → AHeap → Prop) (k : List Frame) (keys : List Nat) (ops : Array Oper) (rest : List Nat) (env : List AV) (L : AHeap) : Prop where
  ok : awpOrdE2 C A E2 keys ops rest (after C Q k .normal) env L
section
variable {C : Cx} {A : OpRule} {Q : Exit → List AV → AHeap → Prop} {k : List Frame} {env : List AV} {L : AHeap}
theorem Run.drawnE2 (hC : C.Ok) (hA : A.Sound C) {E2 : TypeId → Option (List AV)} (hE : ∀ t ks, E2 t = some ks → eqOk2 C.P t ks = true) {id : Nat} {ops : Array Oper} (keys : List Nat) (order : List Nat) (hc : (Region.noSelect ops && orderOk true ops order (Array.replicate ops.size false) && decide (order.length ≤ ops.size)) = true) (h : OrdE2 C A E2 Q k keys ops order env L) : Run C Q k (.region id ops true) env L :=
  Run.sem1 fun F a w ha => by
    simp only [Bool.and_eq_true, decide_eq_true_eq] at hc
    obtain ⟨imm, hst, hG⟩ := ha.drew hC
    refine Code.wp_mono (Q := QN C F (after C Q k)) (fun _ _ _ h => h.toC) ?_
    exact wp_region_held (S := SameK imm L keys w.drew) hC.mixed (awpOrdE2_sound (Qc := QN C F (after C Q k)) hC hA hE hc.1.1 (fun env L a w hq ha => ⟨env, L, ha, hq⟩) (fun c a w hp => hp) order ops.size _ env L a w.drew imm hc.2 hc.1.2 h.ok hst hG)
theorem OrdE2.nil {E2 : TypeId → Option (List AV)} {keys : List Nat} {ops : Array Oper} (h : Cont C Q k .normal env L) : OrdE2 C A E2 Q k keys ops [] env L := ⟨h.ok⟩
theorem OrdE2.cons {E2 : TypeId → Option (List AV)} {keys : List Nat} {ops : Array Oper} {i : Nat} {rest : List Nat} {o : Oper} (ho : ops[i]? = some o) (h : aoperG (aopKE C A E2 keys) ops o env L fun env' L' => OrdE2 C A E2 Q k keys ops rest env' L') : OrdE2 C A E2 Q k keys ops (i :: rest) env L := by
  have e : (fun env' L' => OrdE2 C A E2 Q k keys ops rest env' L') = fun env' L' => awpOrdE2 C A E2 keys ops rest (after C Q k .normal) env' L' := by
    funext env' L'
    exact propext ⟨fun h => h.ok, fun h => ⟨h⟩⟩
  rw [e] at h
  refine ⟨?_⟩
  unfold awpOrdE2
  rw [ho]
  exact h
end
end Go.Proofs.YtgpbppkmmlclfaaDoor.HB
