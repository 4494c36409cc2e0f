/- Functions of the abstract machine: from a body to a contract. -/
import Derived.Test.YtfohedaadncefaaDoorHbL
namespace Go.Proofs.YtfohedaadncefaaDoor.HB
open Go

/-- The results, slot by slot. -/
def aress (C : Cx) (env : List AV) (L : AHeap) : List ResultVar → (List AV → Prop) → Prop
  | [], K => K []
  | .tmp t :: rest, K => aress C env L rest fun xs => K (env.getD t .junk :: xs)
  | .cell a t :: rest, K => match C.T t with
    | some ti => aptr L (env.getD a .junk) fun cs => aloadF ti cs fun v => aress C env L rest fun xs => K (v :: xs)
    | none => False
def aret : List AV → AV
  | [x] => x
  | xs => .tuple xs

/-- What a function may still do as it ends: forget what it owns, or make it immutable. -/
def FinOk (r : AV) (L : AHeap) (r' : AV) (L' : AHeap) : Prop :=
  ∀ (own0 imm0 : Nat → Prop) (w0 : World) (imm : Nat → Prop) (w : World) (v : Value), Sat imm w L → VR imm w r v → Tr own0 imm0 w0 (Own L) imm w → ∃ imm', Sat imm' w L' ∧ VR imm' w r' v ∧ Tr own0 imm0 w0 (Own L') imm' w

theorem FinOk.refl (r : AV) (L : AHeap) : FinOk r L r L := fun _ _ _ imm _ _ hs hv ht => ⟨imm, hs, hv, ht⟩
theorem not_own_nil (g : Nat) : ¬ Own [] g := fun ⟨k, o, hk, _⟩ => by simp at hk
/-- All that is owned becomes immutable. -/
theorem FinOk.lend {r r' : AV} {L : AHeap} (h : Lend L r r') : FinOk r L r' [] := fun own0 imm0 w0 imm w v hs hv ht => by
  refine ⟨fun i => imm i ∨ Own L i, ⟨by simp, by simp, fun g hg => (not_own_nil g hg).elim, fun g hg => (not_own_nil g hg).elim, fun g hg => hg.elim (hs.immlt g) (hs.lt g)⟩, h.VR hs hv, ?_⟩
  refine ⟨ht.os, ht.tape, ht.output, ht.size, ht.block, fun i hi => .inl (ht.imm1 i hi), fun i hi => ?_, fun i hi => (not_own_nil i hi).elim⟩
  rcases hi with hi | hi
  · exact ht.imm2 i hi
  · exact .inr (ht.own2 i hi)
theorem FinOk.drop (r : AV) (L : AHeap) : FinOk r L r [] := FinOk.lend (.same r)
/-- Some objects are kept, in a new order. -/
theorem FinOk.keep (r : AV) {r' : AV} {L L' : AHeap} (ks : List Nat) (hr : Sub r r') (hnd : ks.Nodup) (hL : L' = ks.map fun k => L.getD k (0, .dead)) : FinOk r L r' L' := fun own0 imm0 w0 imm w v hs hv ht => by
  have hat : ∀ (j g : Nat) (o : AObj), L'[j]? = some (g, o) → o.live → ∃ k, ks[j]? = some k ∧ L[k]? = some (g, o) := by
    intro j g o hj ho
    rw [hL, List.getElem?_map] at hj
    cases hk : ks[j]? with
    | none => simp [hk] at hj
    | some k =>
      simp only [hk, Option.map_some, Option.some.injEq, List.getD] at hj
      cases hl : L[k]? with
      | none => rw [hl] at hj; simp at hj; rw [← hj.2] at ho; exact ho.elim
      | some p => rw [hl] at hj; simp at hj; exact ⟨k, rfl, by rw [hl, hj]⟩
  have hown : ∀ g, Own L' g → Own L g := fun g ⟨j, o, hj, ho⟩ => by
    obtain ⟨k, _, hk⟩ := hat j g o hj ho
    exact ⟨k, o, hk, ho⟩
  refine ⟨imm, ⟨fun j g o hj ho => ?_, fun j j' g o o' h1 l1 h2 l2 => ?_, fun g hg => hs.far g (hown g hg), fun g hg => hs.lt g (hown g hg), hs.immlt⟩, hr _ _ _ hv, ?_⟩
  · obtain ⟨k, _, hk⟩ := hat j g o hj ho
    exact hs.holds k g o hk ho
  · obtain ⟨k, e1, hk⟩ := hat j g o h1 l1
    obtain ⟨k', e2, hk'⟩ := hat j' g o' h2 l2
    have := hs.apart k k' g o o' hk l1 hk' l2
    subst this
    have hj : j < ks.length := (List.getElem?_eq_some_iff.1 e1).1
    exact (List.getElem?_inj hj hnd).1 (e1.trans e2.symm)
  · exact ⟨ht.os, ht.tape, ht.output, ht.size, ht.block, ht.imm1, ht.imm2, fun i hi => ht.own2 i (hown i hi)⟩

/-- One result. -/
def rv (tmps : Array Value) : ResultVar → Sem Value
  | .tmp t => pure (tmps.getD t undef)
  | .cell a t => do loadVar t (← asAddr (tmps.getD a undef))
theorem results_eq (fn : Func) (tmps : Array Value) : results fn tmps = (do let vs ← fn.results.mapM (rv tmps); pure (if h : vs.size = 1 then vs[0] else .tuple vs)) := by
  unfold results
  have e : (fun x => match x with
    | ResultVar.tmp t => pure (tmps.getD t undef)
    | ResultVar.cell a t => do
      let __do_lift ← asAddr (tmps.getD a undef)
      loadVar t __do_lift) = rv tmps := by
    funext r
    cases r <;> rfl
  exact congrArg (fun f : ResultVar → Sem Value => (do let vs ← fn.results.mapM f; pure (if h : vs.size = 1 then vs[0] else .tuple vs) : Sem Value)) e

theorem run_vals {P : Program} {w : World} (f : ResultVar → Sem Value) : ∀ (rs : List ResultVar) (vs : List Value), rs.length = vs.length → (∀ (j : Nat) (r : ResultVar) (v : Value), rs[j]? = some r → vs[j]? = some v → (f r).run P w = .ok v w) → (rs.mapM f).run P w = .ok vs w
  | [], [], _, _ => by simp
  | [], _ :: _, h, _ => by simp at h
  | _ :: _, [], h, _ => by simp at h
  | r :: rs, v :: vs, hl, h => by
    have h0 := h 0 r v rfl rfl
    have ih := run_vals f rs vs (by simpa using hl) (fun j r' v' hr hv => h (j + 1) r' v' (by simpa using hr) (by simpa using hv))
    simp [List.mapM_cons, h0, ih]

theorem aress_sound {C : Cx} (hC : C.Ok) {imm : Nat → Prop} {w : World} {env : List AV} {L : AHeap} {a : Act} (hs : Sat imm w L) (he : EnvR imm w env a.tmps) :
    ∀ (rs : List ResultVar) (K : List AV → Prop), aress C env L rs K → ∃ (xs : List AV) (vs : List Value), K xs ∧ xs.length = vs.length ∧ rs.length = vs.length ∧ (∀ (j : Nat) (x : AV) (v : Value), xs[j]? = some x → vs[j]? = some v → VR imm w x v) ∧
      ∀ (j : Nat) (r : ResultVar) (v : Value), rs[j]? = some r → vs[j]? = some v → (rv a.tmps r).run C.P w = .ok v w
  | [], K, h => ⟨[], [], h, rfl, rfl, by simp, by simp⟩
  | .tmp t :: rest, K, h => by
    obtain ⟨xs, vs, hk, h1, h2, h3, h4⟩ := aress_sound hC hs he rest _ h
    have hv := aeval_VR he (.tmp t)
    refine ⟨_, a.tmps.getD t undef :: vs, hk, by simp [h1], by simp [h2], fun j x v hx hv' => ?_, fun j r v hr hv' => ?_⟩
    · cases j with
      | zero => simp at hx hv'; subst hx; subst hv'; simpa [aeval, Act.eval, List.getD] using hv
      | succ j => exact h3 j x v (by simpa using hx) (by simpa using hv')
    · cases j with
      | zero => simp at hr hv'; subst hr; subst hv'; simp [rv]
      | succ j => exact h4 j r v (by simpa using hr) (by simpa using hv')
  | .cell p t :: rest, K, h => by
    simp only [aress] at h
    split at h
    case h_2 => exact h.elim
    rename_i ti ht
    have hp := aeval_VR he (.tmp p)
    obtain ⟨ad, cs, vs0, hpv, h, hvs, _, hc⟩ := aptr_sound hs hp h
    rw [aloadF_eq] at h
    unfold aloadT at h
    split at h
    case isFalse => exact h.elim
    rename_i hle
    obtain ⟨v, hr, hag, hone⟩ := run_loadVar_any (a := ad) (tiOf_spec (hC.types _ _ ht)) hvs hle
    have hrun := hr w hc
    have go : ∀ x, VR imm w x v → (aress C env L rest fun xs => K (x :: xs)) → ∃ (xs : List AV) (vs : List Value), K xs ∧ xs.length = vs.length ∧ (ResultVar.cell p t :: rest).length = vs.length ∧ (∀ (j : Nat) (x : AV) (v : Value), xs[j]? = some x → vs[j]? = some v → VR imm w x v) ∧
      ∀ (j : Nat) (r : ResultVar) (v : Value), (ResultVar.cell p t :: rest)[j]? = some r → vs[j]? = some v → (rv a.tmps r).run C.P w = .ok v w := by
      intro x hx h
      obtain ⟨xs, vs, hk, h1, h2, h3, h4⟩ := aress_sound hC hs he rest _ h
      refine ⟨_, v :: vs, hk, by simp [h1], by simp [h2], fun j y u hy hu => ?_, fun j r u hr' hu => ?_⟩
      · cases j with
        | zero => simp at hy hu; subst hy; subst hu; exact hx
        | succ j => exact h3 j y u (by simpa using hy) (by simpa using hu)
      · cases j with
        | zero =>
          simp at hr' hu
          subst hr'; subst hu
          have : a.tmps.getD p undef = .pointer (some ad) := hpv
          simp [rv, this, asAddr, hrun]
        | succ j => exact h4 j r u (by simpa using hr') (by simpa using hu)
    split at h
    · rename_i hagg
      refine go _ ?_ h
      rw [hag hagg]
      have := hvs.take ti.size
      exact .agg _ _ this.len this.one this.at_
    · rename_i hagg
      obtain ⟨u, hu, rfl⟩ := hone (by simpa using hagg)
      split at h
      · rename_i c rest'
        exact go _ (hvs.at_ 0 c v rfl hu) h
      · exact h.elim

theorem results_sound {C : Cx} (hC : C.Ok) {fn : Func} {imm : Nat → Prop} {w : World} {env : List AV} {L : AHeap} {a : Act} (hs : Sat imm w L) (he : EnvR imm w env a.tmps) {K : List AV → Prop} (h : aress C env L fn.results.toList K) :
    ∃ xs v, K xs ∧ (results fn a.tmps).run C.P w = .ok v w ∧ VR imm w (aret xs) v := by
  obtain ⟨xs, vs, hk, h1, h2, h3, h4⟩ := aress_sound hC hs he _ _ h
  have hm := run_vals (P := C.P) (w := w) (rv a.tmps) fn.results.toList vs h2 h4
  have hres : (results fn a.tmps).run C.P w = .ok (if hh : vs.toArray.size = 1 then vs.toArray[0] else .tuple vs.toArray) w := by
    rw [results_eq, ← Array.toArray_toList (xs := fn.results), List.mapM_toArray]
    simp only [Sem.run_bind, Sem.run_map]
    rw [hm]
    rfl
  refine ⟨xs, _, hk, hres, ?_⟩
  cases vs with
  | nil =>
    have : xs = [] := List.eq_nil_of_length_eq_zero h1
    subst this
    exact .tuple [] [] rfl (by simp)
  | cons v1 vs =>
    cases xs with
    | nil => simp at h1
    | cons x1 xs =>
      cases vs with
      | nil =>
        have : xs = [] := List.eq_nil_of_length_eq_zero (by simpa using h1)
        subst this
        exact h3 0 x1 v1 rfl rfl
      | cons v2 vs =>
        cases xs with
        | nil => simp at h1
        | cons x2 xs =>
          rw [dif_neg (by simp)]
          exact .tuple _ _ h1.symm h3

/-- What stands behind a body. -/
def apost (C : Cx) (fn : Func) (Q : AV → AHeap → Prop) : Exit → List AV → AHeap → Prop
  | .normal, env, L | .ret, env, L => aress C env L fn.results.toList fun xs => ∃ r L', FinOk (aret xs) L r L' ∧ Q r L'
  | _, _, _ => False

theorem FnSpec.intro {C : Cx} (hC : C.Ok) {f : FuncId} {fn : Func} {c : Code} {args : List AV} {L : AHeap} {Q : AV → AHeap → Prop} {n : Nat} (hf : C.P.funcs[f]? = some fn) (hb : fn.body = some c) (hname : (fn.name == "runtime.NumGoroutine") = false) (hn : fn.ntmps = n)
    (h : force (args ++ List.replicate (n - args.length) .junk) fun env => awp C c (apost C fn Q) env L) : FnSpec C f args L Q := by
  refine ⟨⟨fn, hf, hname, by simp [hb]⟩, fun imm w vs hG hs hl hv => ?_⟩
  rw [force_eq] at h
  subst hn
  have hlen : vs.toArray.size = args.length := by simpa using hl
  refine calls_of_wp hf hb ?_
  have henv : EnvR imm w (args ++ List.replicate (fn.ntmps - args.length) .junk) (vs.toArray ++ Array.replicate (fn.ntmps - vs.toArray.size) undef) := by
    refine ⟨by simp [hl], fun t x v hx hvv => ?_⟩
    by_cases ht : t < args.length
    · rw [List.getElem?_append_left ht] at hx
      rw [Array.getElem?_append_left (by omega)] at hvv
      exact hv t x v hx (by simpa using hvv)
    · rw [List.getElem?_append_right (by omega), List.getElem?_replicate] at hx
      split at hx
      · cases hx; exact .junk v
      · cases hx
  have hat : At C ⟨Own L, imm, w⟩ (args ++ List.replicate (fn.ntmps - args.length) .junk) L { tmps := vs.toArray ++ Array.replicate (fn.ntmps - vs.toArray.size) undef, defers := [] } w := ⟨imm, ⟨hs, henv, Tr.refl _ _ _, rfl⟩, hG⟩
  refine Code.wp_mono ?_ (awp_sound hC c _ _ L _ w h hat)
  have fin : ∀ (a' : Act) (w' : World) (env' : List AV) (L' : AHeap), At C ⟨Own L, imm, w⟩ env' L' a' w' → (aress C env' L' fn.results.toList fun xs => ∃ r L'', FinOk (aret xs) L' r L'' ∧ Q r L'') →
      a'.defers = [] ∧ ∃ v, (results fn a'.tmps).run C.P w' = .ok v w' ∧ ∃ v' r L' imm', Ending.returned v = .returned v' ∧ VR imm' w' r v' ∧ Sat imm' w' L' ∧ Tr (Own L) imm w (Own L') imm' w' ∧ Q r L' := by
    intro a' w' env' L' ha h
    obtain ⟨imm', hst, _⟩ := ha
    obtain ⟨xs, v, ⟨r, L'', hfin, hq⟩, hrun, hvr⟩ := results_sound hC hst.sat hst.env h
    obtain ⟨imm2, h1, h2, h3⟩ := hfin _ _ _ _ _ _ hst.sat hvr hst.tr
    exact ⟨hst.defers, v, hrun, v, r, L'', imm2, rfl, h2, h1, h3, hq⟩
  intro e a' w' hq
  cases e with
  | normal => obtain ⟨env', L', ha, hq⟩ := hq; exact fin a' w' env' L' ha hq
  | ret => obtain ⟨env', L', ha, hq⟩ := hq; exact fin a' w' env' L' ha hq
  | exit id => obtain ⟨env', L', ha, hq⟩ := hq; exact hq.elim
  | goto l => obtain ⟨env', L', ha, hq⟩ := hq; exact hq.elim
  | panic c => exact hq.elim
  | outgrown => exact hq.elim

end Go.Proofs.YtfohedaadncefaaDoor.HB
