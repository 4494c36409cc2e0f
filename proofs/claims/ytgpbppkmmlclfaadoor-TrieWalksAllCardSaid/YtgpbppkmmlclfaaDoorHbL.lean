/- Regions, code and functions of the abstract machine, and that the model's own do what they say. -/
import Derived.Test.YtgpbppkmmlclfaaDoorHbH
import Derived.OrdersHeld
import Derived.Scope
import Derived.ProofKit
import Derived.Deep.Slices
import Derived.SizedLaws
namespace Go.Proofs.YtgpbppkmmlclfaaDoor.HB
open Go

def aguard (ops : Array Oper) (env : List AV) (j : Nat) : AV :=
  match (ops[j]?).bind (·.dst) with
  | some d => env.getD d .junk
  | none => .junk

/-! ### The same operations, told so that nothing stays untold -/
def force {α : Type} : List α → (List α → Prop) → Prop
  | [], K => K []
  | x :: xs, K => force xs fun ys => K (x :: ys)
theorem force_eq {α : Type} : ∀ (xs : List α) (K : List α → Prop), force xs K = K xs
  | [], _ => rfl
  | _ :: xs, _ => force_eq xs _
def forceL : AHeap → (AHeap → Prop) → Prop
  | [], K => K []
  | (g, o) :: xs, K => forceL xs fun ys => K ((g, o) :: ys)
theorem forceL_eq : ∀ (xs : AHeap) (K : AHeap → Prop), forceL xs K = K xs
  | [], _ => rfl
  | (_, _) :: xs, _ => forceL_eq xs _
def lookK : List AV → Nat → (AV → Prop) → Prop
  | [], _, K => K .junk
  | x :: _, 0, K => K x
  | _ :: xs, t + 1, K => lookK xs t K
theorem lookK_eq : ∀ (xs : List AV) (t : Nat) (K : AV → Prop), lookK xs t K = K (xs.getD t .junk)
  | [], _, _ => rfl
  | _ :: _, 0, _ => rfl
  | _ :: xs, t + 1, K => lookK_eq xs t K
def aevalK (env : List AV) (x : Operand) (K : AV → Prop) : Prop :=
  match x with
  | .tmp t => lookK env t K
  | .const (.int k n) => K (.int k n)
  | .const (.bool b) => K (.bool b)
  | .const (.string s) => K (.str s)
  | .const v => K (ofV v)
  | .global g => K (.any (.pointer (some ⟨g, 0, none⟩)))
  | .func f => K (.any (.func (.func f) #[] #[]))
theorem aevalK_eq (env : List AV) (x : Operand) (K : AV → Prop) : aevalK env x K = K (aeval env x) := by
  unfold aevalK
  split
  · exact lookK_eq env _ K
  all_goals rfl
def evalsK (env : List AV) : List Operand → (List AV → Prop) → Prop
  | [], K => K []
  | x :: xs, K => aevalK env x fun v => evalsK env xs fun vs => K (v :: vs)
theorem evalsK_eq (env : List AV) : ∀ (xs : List Operand) (K : List AV → Prop), evalsK env xs K = K (xs.map (aeval env))
  | [], _ => rfl
  | x :: xs, K => by simp only [evalsK, aevalK_eq, evalsK_eq env xs, List.map_cons]
def partsK (env : List AV) : List (Nat × Operand) → (List (Nat × AV) → Prop) → Prop
  | [], K => K []
  | (i, x) :: xs, K => aevalK env x fun v => partsK env xs fun vs => K ((i, v) :: vs)
theorem partsK_eq (env : List AV) : ∀ (xs : List (Nat × Operand)) (K : List (Nat × AV) → Prop), partsK env xs K = K (xs.map fun p => (p.1, aeval env p.2))
  | [], _ => rfl
  | (i, x) :: xs, K => by simp only [partsK, aevalK_eq, partsK_eq env xs, List.map_cons]

def aloadF (ti : TI) (cs : List AV) (K : AV → Prop) : Prop :=
  if ti.size ≤ cs.length then (if ti.isAgg then force (cs.take ti.size) fun cs => K (.agg cs) else match cs with
    | c :: _ => K c
    | [] => False) else False
theorem aloadF_eq (ti : TI) (cs : List AV) (K : AV → Prop) : aloadF ti cs K = aloadT ti cs K := by
  unfold aloadF aloadT
  simp only [force_eq]
  rfl
def astoreF (L : AHeap) (p : AV) (new : List AV) (K : AHeap → Prop) : Prop :=
  match p with
  | .ptr k g off => match L[k]? with
    | some (g', .cells t cs) => g' = g ∧ off + new.length ≤ cs.length ∧ force (splice cs off new) fun cs' => K (L.set k (g, .cells t cs'))
    | _ => False
  | .el k g C sz i off => match L[k]? with
    | some (g', .row e sz' C' xs) => g' = g ∧ C' = C ∧ sz' = sz ∧ ∃ x, xs[i]? = some x ∧ off + new.length ≤ (flat x).length ∧ flat (unflat x (splice (flat x) off new)) = splice (flat x) off new ∧
        force (splice (flat x) off new) fun cs' => K (L.set k (g, .row e sz' C' (xs.set i (unflat x cs'))))
    | _ => False
  | _ => False
theorem astoreF_eq (L : AHeap) (p : AV) (new : List AV) (K : AHeap → Prop) : astoreF L p new K = astore L p new K := by
  unfold astoreF astore
  simp only [force_eq]
  rfl

def aopF (C : Cx) (o : Oper) (env : List AV) (L : AHeap) (K : AV → AHeap → Prop) : Prop :=
  match o.op with
  | .move x | .assign x => aevalK env x fun v => K v L
  | .pick c a b => match aeval env c with
    | .bool true => aevalK env a fun v => K v L
    | .bool false => aevalK env b fun v => K v L
    | _ => False
  | .box t x => aevalK env x fun v => match cellsA v with
    | some cs => ∀ g, K (.ptr L.length g 0) (L ++ [(g, .cells t cs)])
    | none => False
  | .load t x => match C.T t with
    | some ti => aptr L (aeval env x) fun cs => aloadF ti cs fun v => K v L
    | none => False
  | .store t x y => aevalK env y fun v => match C.T t, cellsA v with
    | some ti, some new => if new.length = ti.size then astoreF L (aeval env x) new (K .junk) else False
    | _, _ => False
  | .build t parts => match C.T t with
    | some (.agg fs zs) => if fs.all (fun f => f.2.1 != 0) then partsK env parts.toList fun ps => match afill fs zs ps with
      | some cs => force cs fun cs => K (.agg cs) L
      | none => False else False
    | _ => False
  | .buildSlice t len parts => match C.T t with
    | some (.slice e sz _ _ _) => partsK env parts.toList fun ps => if len == 0 && parts.toList.isEmpty then ∀ g, K (.sl L.length g 0 0) (L ++ [(g, .row e sz 0 [])]) else if partsOk sz ps 0 && (parts.toList.length == len) && decide (0 < len * sz) && decide (len * sz ≤ 16777216) && decide (len ≤ 9223372036854775807) then
        ∀ g, force (ps.map Prod.snd) fun xs => K (.sl L.length g len len) (L ++ [(g, .row e sz len xs)]) else False
    | _ => False
  | .call { callee := .value x, args, .. } => match afun (aeval env x) with
    | some f => evalsK env args.toList fun vs => ACall C f vs L K
    | none => False
  | .call { callee := .builtin b, args, argTypes } => evalsK env args.toList fun vs => abuiltin C b argTypes vs L K
  | _ => aop C o env L K
theorem aopF_eq (C : Cx) (o : Oper) (env : List AV) (L : AHeap) (K : AV → AHeap → Prop) : aopF C o env L K = aop C o env L K := by
  unfold aopF
  split
  case h_11 => rfl
  all_goals
    (unfold aop
     simp only [*, aevalK_eq, evalsK_eq, partsK_eq, aloadF_eq, astoreF_eq, force_eq, List.map_map, Function.comp_def]
     try rfl)
theorem aopF_fun (C : Cx) : aopF C = aop C := by
  funext o env L K
  exact aopF_eq C o env L K

def aoperG (A : Oper → List AV → AHeap → (AV → AHeap → Prop) → Prop) (ops : Array Oper) (o : Oper) (env : List AV) (L : AHeap) (K : List AV → AHeap → Prop) : Prop :=
  match o.guard with
  | none => A o env L fun v L' => force (putA env o.dst v) fun env' => forceL L' fun L'' => K env' L''
  | some (j, want) => match aguard ops env j, want with
    | .bool true, true => A o env L fun v L' => force (putA env o.dst v) fun env' => forceL L' fun L'' => K env' L''
    | .bool false, false => A o env L fun v L' => force (putA env o.dst v) fun env' => forceL L' fun L'' => K env' L''
    | .bool true, false => force (putA env o.dst (.tuple [])) fun env' => K env' L
    | .bool false, true => force (putA env o.dst (.tuple [])) fun env' => K env' L
    | .tuple [], _ => force (putA env o.dst (.tuple [])) fun env' => K env' L
    | _, _ => False

abbrev aoper (C : Cx) := aoperG (aopF C)

def awpOps (C : Cx) (ops : Array Oper) : List Oper → (List AV → AHeap → Prop) → List AV → AHeap → Prop
  | [], Q, env, L => Q env L
  | o :: rest, Q, env, L => aoper C ops o env L fun env' L' => awpOps C ops rest Q env' L'

theorem aguard_yield {ops : Array Oper} {env : List AV} {a : Act} {imm : Nat → Prop} {w : World} (he : EnvR imm w env a.tmps) {j : Nat} {b : Bool} (h : aguard ops env j = .bool b) : yielded ops a.tmps j = some b := by
  unfold aguard at h
  unfold yielded
  cases hd : (ops[j]?).bind (·.dst) with
  | none => rw [hd] at h; cases h
  | some d =>
    rw [hd] at h
    simp only [List.getD] at h
    cases hx : env[d]? with
    | none => rw [hx] at h; cases h
    | some x =>
      rw [hx] at h
      simp only [Option.getD_some] at h
      subst h
      have hlt : d < env.length := (List.getElem?_eq_some_iff.1 hx).1
      have hlt' : d < a.tmps.size := Nat.lt_of_lt_of_le hlt he.len
      have ht : a.tmps[d]? = some a.tmps[d] := Array.getElem?_eq_getElem hlt'
      have hv := he.at_ d _ _ hx ht
      simp only [Option.bind_some, ht]
      generalize a.tmps[d] = v at hv
      cases hv
      rfl

theorem undef_VR {imm : Nat → Prop} {w : World} : VR imm w (.tuple []) undef := .tuple [] [] rfl (by simp)
theorem aguard_none {ops : Array Oper} {env : List AV} {a : Act} {imm : Nat → Prop} {w : World} (he : EnvR imm w env a.tmps) {j : Nat} (h : aguard ops env j = .tuple []) : yielded ops a.tmps j = none := by
  unfold aguard at h
  unfold yielded
  cases hd : (ops[j]?).bind (·.dst) with
  | none => rw [hd] at h; cases h
  | some d =>
    rw [hd] at h
    simp only [List.getD] at h
    cases hx : env[d]? with
    | none => rw [hx] at h; cases h
    | some x =>
      rw [hx] at h
      simp only [Option.getD_some] at h
      subst h
      have hlt : d < env.length := (List.getElem?_eq_some_iff.1 hx).1
      have hlt' : d < a.tmps.size := Nat.lt_of_lt_of_le hlt he.len
      have ht : a.tmps[d]? = some a.tmps[d] := Array.getElem?_eq_getElem hlt'
      have hv := he.at_ d _ _ hx ht
      simp only [Option.bind_some, ht]
      generalize a.tmps[d] = v at hv
      cases hv
      rfl

theorem aoperG_cases {A : Oper → List AV → AHeap → (AV → AHeap → Prop) → Prop} {ops : Array Oper} {o : Oper} {env : List AV} {L : AHeap} {K : List AV → AHeap → Prop} (h : aoperG A ops o env L K) {imm : Nat → Prop} {w : World} {a : Act} (he : EnvR imm w env a.tmps) :
    (Region.wanted o (yielded ops a.tmps) = true ∧ A o env L fun v L' => K (putA env o.dst v) L') ∨ (Region.wanted o (yielded ops a.tmps) = false ∧ K (putA env o.dst (.tuple [])) L) := by
  unfold aoperG at h
  simp only [force_eq, forceL_eq] at h
  unfold Region.wanted
  split at h
  · rename_i hg; rw [hg]; exact .inl ⟨rfl, h⟩
  · rename_i j want hg
    rw [hg]
    split at h
    · rename_i e; dsimp only; rw [aguard_yield he e]; exact .inl ⟨rfl, h⟩
    · rename_i e; dsimp only; rw [aguard_yield he e]; exact .inl ⟨rfl, h⟩
    · rename_i e; dsimp only; rw [aguard_yield he e]; exact .inr ⟨rfl, h⟩
    · rename_i e; dsimp only; rw [aguard_yield he e]; exact .inr ⟨rfl, h⟩
    · rename_i e; dsimp only; rw [aguard_none he e]; exact .inr ⟨rfl, h⟩
    · exact h.elim

structure Fr where
  ds : List Deferred
  own : Nat → Prop
  imm : Nat → Prop
  w : World

def At (C : Cx) (F : Fr) (env : List AV) (L : AHeap) (a : Act) (w : World) : Prop := ∃ imm, St C.D F.ds F.own F.imm F.w env L imm a w ∧ C.G imm w

theorem At.next {C : Cx} (hC : C.Ok) {F : Fr} {env : List AV} {L L' : AHeap} {imm imm' : Nat → Prop} {a : Act} {w w' : World} {x : AV} {v : Value} (h : St C.D F.ds F.own F.imm F.w env L imm a w) (hG : C.G imm w)
    (hs : Sat imm' w' L') (hx : VR imm' w' x v) (ht : Tr C.D (Own L) imm w (Own L') imm' w') (d : Option Tmp) : At C F (putA env d x) L' (a.put d v) w' :=
  ⟨imm', (h.step hs ht).put hx d, hC.mono _ _ _ _ hG ht.imm1 (ht.immblock h.sat.far h.sat.immlt)⟩

def QC (C : Cx) (F : Fr) (Q : Exit → List AV → AHeap → Prop) : Exit → Act → World → Prop := fun e a w =>
  match e with
  | .outgrown => False
  | e => ∃ env L, At C F env L a w ∧ Q e env L
def QN (C : Cx) (F : Fr) (Q : Exit → List AV → AHeap → Prop) : Exit → Act → World → Prop := fun e a w =>
  match e with
  | .panic _ | .outgrown => False
  | e => ∃ env L, At C F env L a w ∧ Q e env L
theorem QN.toC {C : Cx} {F : Fr} {Q : Exit → List AV → AHeap → Prop} {e : Exit} {a : Act} {w : World} (h : QN C F Q e a w) : QC C F Q e a w := by
  cases e <;> first | exact h | exact h.elim
def SemC (C : Cx) (c : Code) (Q : Exit → List AV → AHeap → Prop) (env : List AV) (L : AHeap) : Prop := ∀ (F : Fr) (a : Act) (w : World), At C F env L a w → c.wp C.P (QC C F Q) a w

theorem aoper_step {C : Cx} (hC : C.Ok) {F : Fr} {ops : Array Oper} {o : Oper} {env : List AV} {L : AHeap} {K : List AV → AHeap → Prop} (h : aoper C ops o env L K) {a : Act} {w : World} (ha : At C F env L a w)
    {next : Act → World → Prop} {Q : Exit → Act → World → Prop} (hn : ∀ env' L' a' w', K env' L' → At C F env' L' a' w' → next a' w') :
    if Region.wanted o (yielded ops a.tmps) = true then o.wp C.P a w next Q else next (a.put o.dst undef) w := by
  obtain ⟨imm, hst, hG⟩ := ha
  have run : (aop C o env L fun v L' => K (putA env o.dst v) L') → o.wp C.P a w next Q := fun h =>
    aop_sound hC h hG hst.sat hst.env fun x L' imm' v w' hk hs hx ht => hn _ _ _ _ hk (At.next hC hst hG hs hx ht o.dst)
  have skip : K (putA env o.dst (.tuple [])) L → next (a.put o.dst undef) w := fun hk => hn _ _ _ _ hk ⟨imm, hst.put undef_VR o.dst, hG⟩
  simp only [aoper, aopF_fun] at h
  rcases aoperG_cases h hst.env with ⟨hw, h⟩ | ⟨hw, h⟩
  · rw [if_pos hw]; exact run h
  · rw [if_neg (by rw [hw]; simp)]; exact skip h

theorem awpOps_text {C : Cx} (hC : C.Ok) {F : Fr} {ops : Array Oper} {Q : List AV → AHeap → Prop} {Qc : Exit → Act → World → Prop} (hQ : ∀ env L a w, Q env L → At C F env L a w → Qc .normal a w) :
    ∀ (n k : Nat) (env : List AV) (L : AHeap) (a : Act) (w : World), k + n = ops.size → awpOps C ops (ops.toList.drop k) Q env L → At C F env L a w → wpOps C.P ops Qc (List.range' k n) a w
  | 0, k, env, L, a, w, hk, h, ha => by
    rw [List.drop_of_length_le (by simp; omega)] at h
    exact hQ _ _ _ _ h ha
  | n + 1, k, env, L, a, w, hk, h, ha => by
    have hlt : k < ops.size := by omega
    have hd : ops.toList.drop k = ops[k] :: ops.toList.drop (k + 1) := by
      rw [List.drop_eq_getElem_cons (by simpa using hlt)]
      rfl
    rw [hd] at h
    rw [List.range'_succ]
    simp only [wpOps]
    rw [Array.getElem?_eq_getElem hlt]
    have hs := aoper_step hC (Q := Qc) h ha (fun env' L' a' w' hk' ha' => awpOps_text hC hQ n (k + 1) env' L' a' w' (by omega) hk' ha')
    simp only
    split at hs
    · rename_i hw; rw [if_pos hw]; exact .inl hs
    · rename_i hw; rw [if_neg hw]; exact hs

/-! ### Regions that draw their order -/
def movB (q : Bool) (o : Op) : Bool := movA o && (q || !isLoad o)
def orderOk (q : Bool) (ops : Array Oper) : List Nat → Array Bool → Bool
  | [], listed => (Region.ready .any ops listed).isEmpty
  | i :: rest, listed =>
    match ops[i]? with
    | none => false
    | some o => ((movB q o.op && Region.free .any ops listed i && (Region.ready .any ops listed).contains i) || (Region.ready .any ops listed == [i])) && orderOk q ops rest (listed.setIfInBounds i true)

inductive ACallQ (C : Cx) (f : FuncId) (args : List AV) (L : AHeap) (K : AV → Prop) : Prop where
  | pure (Q : AV → AHeap → Prop) (h : FnSpec C f args [] Q) (k : ∀ r L', Q r L' → K r) : ACallQ C f args L K
  | lend (args' : List AV) (Q : AV → AHeap → Prop) (hl : Lends L args args') (h : FnSpec C f args' [] Q) (k : ∀ r L', Q r L' → scals r = true ∧ K r) : ACallQ C f args L K

theorem ACallQ.ret {C : Cx} {f : FuncId} {args : List AV} {L : AHeap} {K : AV → Prop} {r0 : AV} (h : FnSpec C f args [] (fun r L' => r = r0 ∧ L' = [])) (k : K r0) : ACallQ C f args L K :=
  .pure _ h fun r L' ⟨e, _⟩ => by subst e; exact k
theorem ACallQ.ret_lend {C : Cx} {f : FuncId} {args args' : List AV} {L : AHeap} {K : AV → Prop} {r0 : AV} (hl : Lends L args args') (h : FnSpec C f args' [] (fun r L' => r = r0 ∧ L' = [])) (hr : scals r0 = true) (k : K r0) : ACallQ C f args L K :=
  .lend _ _ hl h fun r L' ⟨e, _⟩ => by subst e; exact ⟨hr, k⟩

theorem ACallQ.sound {C : Cx} (hC : C.Ok) {f : FuncId} {args : List AV} {L : AHeap} {K : AV → Prop} (h : ACallQ C f args L K) {imm : Nat → Prop} {w : World} (hG : C.G imm w) (hs : Sat imm w L) {vs : List Value}
    (hl : vs.length = args.length) (hv : ∀ (j : Nat) (x : AV) (v : Value), args[j]? = some x → vs[j]? = some v → VR imm w x v) :
    (∃ fn, C.P.funcs[f]? = some fn ∧ (fn.name == "runtime.NumGoroutine") = false ∧ fn.body.isSome = true) ∧
    Calls C.P f vs.toArray w (fun e w' => ∃ v r imm', e = .returned v ∧ VR imm' w' r v ∧ Sat imm' w' L ∧ Tr C.D (Own L) imm w (Own L) imm' w' ∧ Same imm L w w' ∧ K r) := by
  have hnone : ∀ g, ¬ Own ([] : AHeap) g := fun g ⟨k, g', o, hk, _⟩ => by simp at hk
  cases h with
  | pure Q h k =>
    refine ⟨h.1, (h.2 imm w vs hG ⟨by simp, by simp, fun g hg => (hnone g hg).elim, fun g hg => (hnone g hg).elim, hs.immlt⟩ hl hv).mono ?_⟩
    rintro e w' ⟨v, r, L', imm', rfl, hr, hs', ht, hq⟩
    have hold : ∀ i, i < w.heap.size → w'.heap[i]? = w.heap[i]? := fun i hi => ht.block i hi (hnone i)
    refine ⟨v, r, imm', rfl, hr, ?_, ?_, fun g hg => hold g (hg.elim (hs.immlt g) (hs.lt g)), k r L' hq⟩
    · refine ⟨fun j g o hj ho => (hs.holds j g o hj ho).mono ht.imm1 (fun i hi => hold i (hs.immlt i hi)) (fun i hi => hold i (hs.lt i ⟨j, g, o, hj, hi⟩)), hs.apart, fun g hg hi => ?_, fun g hg => Nat.lt_of_lt_of_le (hs.lt g hg) ht.size, hs'.immlt⟩
      rcases ht.imm2 g hi with h' | h' | h'
      · exact hs.far g hg h'
      · exact hnone g h'
      · have := hs.lt g hg; omega
    · refine ⟨ht.drawn, ht.os, ht.tape, ht.output, ht.size, fun i hi _ => hold i hi, ht.imm1, fun i hi => ?_, fun _ h => .inl h⟩
      rcases ht.imm2 i hi with h' | h' | h'
      · exact .inl h'
      · exact (hnone i h').elim
      · exact .inr (.inr h')
  | lend args' Q hle h k =>
    obtain ⟨hlen, hat⟩ := hle.at_
    have hlt' : ∀ i, imm i ∨ Own L i → i < w.heap.size := fun i hi => hi.elim (hs.immlt i) (hs.lt i)
    refine ⟨h.1, (h.2 (fun i => imm i ∨ Own L i) w vs (hC.mono _ _ _ _ hG (fun _ => .inl) (fun _ _ => rfl)) ⟨by simp, by simp, fun g hg => (hnone g hg).elim, fun g hg => (hnone g hg).elim, hlt'⟩ (by omega) (fun j y v hy hvj => ?_)).mono ?_⟩
    · have hj : j < args.length := by rw [hlen]; exact (List.getElem?_eq_some_iff.1 hy).1
      exact (hat j args[j] y (List.getElem?_eq_getElem hj) hy).VR hs (hv j _ v (List.getElem?_eq_getElem hj) hvj)
    · rintro e w' ⟨v, r, L', imm', rfl, hr, hs', ht, hq⟩
      obtain ⟨hsc, hk⟩ := k r L' hq
      have hold : ∀ i, i < w.heap.size → w'.heap[i]? = w.heap[i]? := fun i hi => ht.block i hi (hnone i)
      refine ⟨v, r, imm, rfl, hr.of_scals hsc, ?_, ?_, fun g hg => hold g (hg.elim (hs.immlt g) (hs.lt g)), hk⟩
      · exact ⟨fun j g o hj ho => (hs.holds j g o hj ho).mono (fun _ x => x) (fun i hi => hold i (hs.immlt i hi)) (fun i hi => hold i (hs.lt i ⟨j, g, o, hj, hi⟩)), hs.apart, hs.far, fun g hg => Nat.lt_of_lt_of_le (hs.lt g hg) ht.size, fun g hg => Nat.lt_of_lt_of_le (hs.immlt g hg) ht.size⟩
      · exact ⟨ht.drawn, ht.os, ht.tape, ht.output, ht.size, fun i hi _ => hold i hi, fun _ h => h, fun _ h => .inl h, fun _ h => .inl h⟩

def aopQ (C : Cx) (o : Oper) (env : List AV) (L : AHeap) (K : AV → AHeap → Prop) : Prop :=
  match o.op with
  | .call { callee := .value x, args, .. } => match afun (aeval env x) with
    | some f => ACallQ C f (args.toList.map (aeval env)) L fun v => K v L
    | none => False
  | op => match movA op with
    | true => aop C o env L K
    | false => False

def aopQF (C : Cx) (o : Oper) (env : List AV) (L : AHeap) (K : AV → AHeap → Prop) : Prop :=
  match o.op with
  | .call { callee := .value x, args, .. } => match afun (aeval env x) with
    | some f => evalsK env args.toList fun vs => ACallQ C f vs L fun v => K v L
    | none => False
  | op => match movA op with
    | true => aopF C o env L K
    | false => False
theorem aopQF_fun (C : Cx) : aopQF C = aopQ C := by
  funext o env L K
  unfold aopQF aopQ
  split <;> simp only [aopF_eq, evalsK_eq]

theorem aopQ_sound {C : Cx} (hC : C.Ok) {o : Oper} {env : List AV} {L : AHeap} {K : AV → AHeap → Prop} (h : aopQ C o env L K) {imm : Nat → Prop} {w : World} {a : Act} (hG : C.G imm w) (hs : Sat imm w L) (he : EnvR imm w env a.tmps)
    {next : Act → World → Prop} {Q : Exit → Act → World → Prop}
    (hn : ∀ x imm' v w', K x L → Sat imm' w' L → VR imm' w' x v → Tr C.D (Own L) imm w (Own L) imm' w' → Same imm L w w' → next (a.put o.dst v) w') : o.wp C.P a w next Q := by
  unfold aopQ at h
  split at h
  · rename_i x args ts ho
    have hx := aeval_VR he x
    split at h
    case h_2 => exact h.elim
    rename_i f hfx
    have hxv := afun_VR hx hfx
    obtain ⟨hl, hv⟩ := args_VR he args
    obtain ⟨⟨fn, hf, hname, hb⟩, hc⟩ := ACallQ.sound hC h hG hs hl hv
    rw [Array.toArray_toList] at hc
    have h1 : fn.name ≠ "runtime.NumGoroutine" := by simpa using hname
    obtain ⟨cc, hcc⟩ := Option.isSome_iff_exists.1 hb
    have hrun : (execOp a.eval o).run C.P w = .ok (.enter f (args.map a.eval)) w := by
      unfold execOp
      simp [ho, hxv, resolve, Deferred.ofValue, invoke, callFunc, hf, h1, hcc]
    unfold Oper.wp
    rw [hrun, Oper.upon_enter]
    refine hc.mono fun e w'' hh => ?_
    obtain ⟨v, r, imm', rfl, a1, a2, a3, a4, a5⟩ := hh
    exact hn r imm' v w'' a5 a2 a1 a3 a4
  · split at h
    · rename_i hm
      obtain ⟨v, x, hr, hx, hk⟩ := aop_move hC hm h hG hs he
      exact wp_value (hr w (fun _ _ _ => rfl)) (hn _ _ _ _ hk hs hx (Tr.refl _ _ _) (fun _ _ => rfl))
    · exact h.elim

theorem aopQ_mov {C : Cx} {o : Oper} {env : List AV} {L : AHeap} {K : AV → AHeap → Prop} (hm : movA o.op = true) (h : aopQ C o env L K) : aop C o env L K := by
  unfold aopQ at h
  split at h
  · rename_i f args ts ho
    rw [ho] at hm
    cases hm
  · rw [hm] at h
    exact h

def awpOrd (C : Cx) (q : Bool) (ops : Array Oper) : List Nat → (List AV → AHeap → Prop) → List AV → AHeap → Prop
  | [], Q, env, L => Q env L
  | i :: rest, Q, env, L =>
    match ops[i]? with
    | none => False
    | some o => match q with
      | true => aoperG (aopQF C) ops o env L fun env' L' => awpOrd C q ops rest Q env' L'
      | false => aoperG (aopF C) ops o env L fun env' L' => awpOrd C q ops rest Q env' L'

theorem wpAnyH_weak {P : Program} {md : Region.Mode} {ops : Array Oper} {Q : Exit → Act → World → Prop} {S S' : World → Prop} (hS : ∀ w, S w → S' w) : ∀ (fuel : Nat) (listed : Array Bool) (a : Act) (w : World), wpAnyH P md ops Q S fuel listed a w → wpAnyH P md ops Q S' fuel listed a w
  | 0, _, _, _, h => h
  | fuel + 1, _, _, _, h => ⟨h.1, fun i hi => wpOp_mono (fun a' w' h' => ⟨hS _ h'.1, wpAnyH_weak hS fuel _ a' w' h'.2⟩) (h.2 i hi)⟩

def Stays (q : Bool) (imm : Nat → Prop) (L : AHeap) (w w' : World) : Prop := q = true → Same imm L w w'

theorem awpOrd_sound {C : Cx} (hC : C.Ok) {F : Fr} {q : Bool} {ops : Array Oper} {Q : List AV → AHeap → Prop} {Qc : Exit → Act → World → Prop} (hsel : Region.noSelect ops = true) (hQ : ∀ env L a w, Q env L → At C F env L a w → Qc .normal a w) (hpan : ∀ c a w, ¬ Qc (.panic c) a w) :
    ∀ (order : List Nat) (fuel : Nat) (listed : Array Bool) (env : List AV) (L : AHeap) (a : Act) (w : World) (imm : Nat → Prop), order.length ≤ fuel → orderOk q ops order listed = true → awpOrd C q ops order Q env L →
      St C.D F.ds F.own F.imm F.w env L imm a w → C.G imm w → wpAnyH C.P .any ops Qc (Stays q imm L w) fuel listed a w
  | [], fuel, listed, env, L, a, w, imm, _, hok, h, hst, hG => by
    have : Region.ready .any ops listed = [] := by simpa [orderOk] using hok
    exact wpAnyH_done this (hQ _ _ _ _ h ⟨imm, hst, hG⟩) fuel
  | i :: rest, 0, _, _, _, _, _, _, hl, _, _, _, _ => by simp at hl
  | i :: rest, fuel + 1, listed, env, L, a, w, imm, hl, hok, h, hst, hG => by
    simp only [orderOk] at hok
    simp only [awpOrd, aopF_fun, aopQF_fun] at h
    cases ho : ops[i]? with
    | none => rw [ho] at h; exact h.elim
    | some o =>
      rw [ho] at h hok
      simp only [Bool.and_eq_true, Bool.or_eq_true] at hok
      obtain ⟨hthis, hrest⟩ := hok
      have hl' : rest.length ≤ fuel := by simpa using hl
      rcases hthis with ⟨⟨hm, hfree⟩, hready⟩ | hsing
      · -- taken first
        simp only [movB, Bool.and_eq_true, Bool.or_eq_true, Bool.not_eq_true'] at hm
        obtain ⟨hmov, hload⟩ := hm
        have take : ∀ {v : Value} {x : AV}, YieldsIf C.P ops (Stays q imm L w) o v a → VR imm w x v → awpOrd C q ops rest Q (putA env o.dst x) L → wpAnyH C.P .any ops Qc (Stays q imm L w) (fuel + 1) listed a w := fun {v x} hy hx hk =>
          wpAnyH_take ho hsel hfree hready (fun c a w hp => (hpan c _ _ hp).elim) hy (fun _ _ _ => rfl) (awpOrd_sound hC hsel hQ hpan rest fuel _ _ L _ w imm hl' hrest hk (hst.put hx o.dst) hG)
        have fin : ((Region.wanted o (yielded ops a.tmps) = true ∧ aop C o env L fun v L' => awpOrd C q ops rest Q (putA env o.dst v) L') ∨ (Region.wanted o (yielded ops a.tmps) = false ∧ awpOrd C q ops rest Q (putA env o.dst (.tuple [])) L)) → wpAnyH C.P .any ops Qc (Stays q imm L w) (fuel + 1) listed a w := by
          rintro (⟨hw, h⟩ | ⟨hw, h⟩)
          · obtain ⟨v, x, hr, hx, hk⟩ := aop_move hC hmov h hG hst.sat hst.env
            refine take (.inl ⟨hw, fun w' hw' => hr w' (fun hl => ?_)⟩) hx hk
            rcases hload with hq | hnl
            · exact hw' hq
            · rw [hnl] at hl; cases hl
          · exact take (.inr ⟨hw, rfl⟩) undef_VR h
        cases q with
        | true =>
          rcases aoperG_cases h hst.env with ⟨hw, h⟩ | ⟨hw, h⟩
          · exact fin (.inl ⟨hw, aopQ_mov hmov h⟩)
          · exact fin (.inr ⟨hw, h⟩)
        | false => exact fin (aoperG_cases h hst.env)
      · -- alone
        have hr : Region.ready .any ops listed = [i] := by simpa using hsing
        refine wpAnyH_all hr (by simp) (fun j hj => ?_)
        have hj' : j = i := by simpa using hj
        subst hj'
        unfold wpOp
        rw [ho]
        dsimp only
        cases q with
        | true =>
          rcases aoperG_cases h hst.env with ⟨hw, h⟩ | ⟨hw, h⟩
          · rw [if_pos hw]
            refine .inl (aopQ_sound hC h hG hst.sat hst.env fun x imm' v w' hk hs hx ht hsame => ⟨fun _ => hsame, ?_⟩)
            have hst' := (hst.step hs ht).put hx o.dst
            have hG' := hC.mono _ _ _ _ hG ht.imm1 (ht.immblock hst.sat.far hst.sat.immlt)
            refine wpAnyH_weak (S := Stays true imm' L w') (fun w2 h2 _ g hg => ?_) _ _ _ _ (awpOrd_sound hC hsel hQ hpan rest fuel _ _ L _ w' imm' hl' hrest hk hst' hG')
            rw [h2 rfl g (hg.imp (ht.imm1 g) id), hsame g hg]
          · rw [if_neg (by rw [hw]; simp)]
            exact ⟨fun _ _ _ => rfl, awpOrd_sound hC hsel hQ hpan rest fuel _ _ L _ w imm hl' hrest h (hst.put undef_VR o.dst) hG⟩
        | false =>
          rcases aoperG_cases h hst.env with ⟨hw, h⟩ | ⟨hw, h⟩
          · rw [if_pos hw]
            refine .inl (aop_sound hC h hG hst.sat hst.env fun x L' imm' v w' hk hs hx ht => ⟨(fun e => by cases e), ?_⟩)
            have hst' := (hst.step hs ht).put hx o.dst
            have hG' := hC.mono _ _ _ _ hG ht.imm1 (ht.immblock hst.sat.far hst.sat.immlt)
            exact wpAnyH_weak (S := Stays false imm' L' w') (fun w2 h2 e => by cases e) _ _ _ _ (awpOrd_sound hC hsel hQ hpan rest fuel _ _ L' _ w' imm' hl' hrest hk hst' hG')
          · rw [if_neg (by rw [hw]; simp)]
            exact ⟨(fun e => by cases e), awpOrd_sound hC hsel hQ hpan rest fuel _ _ L _ w imm hl' hrest h (hst.put undef_VR o.dst) hG⟩


/-! ### Regions that draw their order and end in writes -/
def wpAnyT (P : Program) (ops : Array Oper) (Q : Exit → Act → World → Prop) (S : World → Prop) (ks : List Nat) : Nat → Array Bool → Act → World → Prop
  | 0, listed, a, w => Region.ready .any ops listed = [] ∧ Q .normal a w
  | fuel + 1, listed, a, w => (Region.ready .any ops listed = [] → Q .normal a w) ∧
      ∀ i ∈ Region.ready .any ops listed, wpOp P ops Q i (fun a' w' => (i ∉ ks → S w → S w') ∧ wpAnyT P ops Q S ks fuel (listed.setIfInBounds i true) a' w') a w
theorem wpAnyT_any {P : Program} {ops : Array Oper} {Q : Exit → Act → World → Prop} {S : World → Prop} {ks : List Nat} : ∀ (fuel : Nat) (listed : Array Bool) (a : Act) (w : World), wpAnyT P ops Q S ks fuel listed a w → wpAny P .any ops Q fuel listed a w
  | 0, _, _, _, h => h
  | fuel + 1, _, _, _, h => ⟨h.1, fun i hi => wpOp_mono (fun _ _ h' => wpAnyT_any fuel _ _ _ h'.2) (h.2 i hi)⟩
def waits (ops : Array Oper) (k i : Nat) : Bool := match ops[k]? with
  | some o => o.after.any fun e => Region.binds .any e && e.on == i
  | none => false
theorem wpAnyT_take {P : Program} {ops : Array Oper} {Q : Exit → Act → World → Prop} {S R : World → Prop} {ks : List Nat} {i : Nat} {oi : Oper} {v : Value} (hi : ops[i]? = some oi) (hsel : Region.noSelect ops = true)
    (hQ : ∀ c a w, Q (.panic c) (a.put oi.dst v) w → Q (.panic c) a w) (hk : (R = S ∧ ∀ k ∈ ks, waits ops k i = true) ∨ ∀ w, R w) :
    ∀ (fuel : Nat) (listed : Array Bool) (a : Act) (w : World),
      (∀ j oj, ops[j]? = some oj → j ≠ i → listed.getD j true = false → (∀ e ∈ oj.after, Region.binds .any e = true → e.on ≠ i) → oi.apart ops oj = true) →
      i ∈ Region.ready .any ops listed → YieldsIf P ops R oi v a → R w →
      wpAnyT P ops Q S ks fuel (listed.setIfInBounds i true) (a.put oi.dst v) w → wpAnyT P ops Q S ks (fuel + 1) listed a w := by
  have hsel' := Region.noSelect_spec hsel
  intro fuel
  induction fuel with
  | zero =>
    intro listed a w _ hr hy hS H
    refine ⟨fun h => (by rw [h] at hr; cases hr), fun j hj => ?_⟩
    by_cases hji : j = i
    · subst hji; exact hy.wpOp hi hS ⟨fun _ h => h, H⟩
    · have := ready_mono hj hji
      rw [H.1] at this
      cases this
  | succ fuel ih =>
    intro listed a w hfree hr hy hS H
    refine ⟨fun h => (by rw [h] at hr; cases hr), fun j hj => ?_⟩
    by_cases hji : j = i
    · subst hji; exact hy.wpOp hi hS ⟨fun _ h => h, H⟩
    obtain ⟨hjun, oj, hoj, hall⟩ := mem_ready.1 hj
    have hnot : ∀ e ∈ oj.after, Region.binds .any e = true → e.on ≠ i := fun e he hb heq => by
      have h1 := hall e he hb
      have h0 := (mem_ready.1 hr).1
      rw [heq] at h1
      rcases Nat.lt_or_ge i listed.size with h' | h'
      · simp [h'] at h0 h1; rw [h0] at h1; cases h1
      · simp [Array.getElem?_eq_none h'] at h1
    have hjk : (∀ k ∈ ks, waits ops k i = true) → j ∉ ks := fun hk hm => by
      have hk := hk j hm
      unfold waits at hk
      rw [hoj] at hk
      obtain ⟨e, he, hb⟩ := Array.any_eq_true'.1 hk
      simp only [Bool.and_eq_true, beq_iff_eq] at hb
      exact hnot e he hb.1 hb.2
    have h2 := wpOp_putIf hoj (hfree j oj hoj hji hjun hnot) (fun cs b => hsel' i oi cs b hi) (fun cs b => hsel' j oj cs b hoj) hQ hy (H.2 j (ready_mono hj hji))
    have hfree' : ∀ k ok, ops[k]? = some ok → k ≠ i → (listed.setIfInBounds j true).getD k true = false →
        (∀ e ∈ ok.after, Region.binds .any e = true → e.on ≠ i) → oi.apart ops ok = true := fun k ok hk hki hun hno => by
      refine hfree k ok hk hki ?_ hno
      by_cases hjk : j = k
      · subst hjk; exact hjun
      · rw [getD_set_ne true hjk] at hun; exact hun
    refine wpOp_mono (fun a' w' h3 => ?_) h2
    have hR : R w' := by
      rcases hk with ⟨rfl, hk⟩ | hk
      · exact h3.2.1 (hjk hk) hS
      · exact hk w'
    refine ⟨h3.2.1, ih (listed.setIfInBounds j true) a' w' hfree' (ready_mono hr (Ne.symm hji)) h3.1 hR ?_⟩
    rw [Array.setIfInBounds_comm _ _ hji]
    exact h3.2.2

def orderOkW (ops : Array Oper) : List Nat → Array Bool → Bool
  | [], listed => (Region.ready .any ops listed).isEmpty
  | i :: rest, listed =>
    match ops[i]? with
    | none => false
    | some o => ((movB false o.op && Region.free .any ops listed i && (Region.ready .any ops listed).contains i) || Region.ready .any ops listed == [i]) && orderOkW ops rest (listed.setIfInBounds i true)
def orderOkT (ops : Array Oper) (tail : List Nat) : List Nat → Array Bool → Bool
  | [], listed => orderOkW ops tail listed && (List.range listed.size).all fun i => listed.getD i true || tail.contains i
  | i :: rest, listed =>
    match ops[i]? with
    | none => false
    | some o => (movB true o.op && Region.free .any ops listed i && (Region.ready .any ops listed).contains i && (movB false o.op || tail.all fun k => waits ops k i)) && orderOkT ops tail rest (listed.setIfInBounds i true)
def lastOp (C : Cx) (ops : Array Oper) (k : Nat) (Q : List AV → AHeap → Prop) : List AV → AHeap → Prop := fun env L => match ops[k]? with
  | some o => aoperG (aopF C) ops o env L Q
  | none => False
def lastOps (C : Cx) (ops : Array Oper) : List Nat → (List AV → AHeap → Prop) → List AV → AHeap → Prop
  | [], Q => Q
  | k :: ks, Q => lastOp C ops k (lastOps C ops ks Q)

theorem awpOrdW_sound {C : Cx} (hC : C.Ok) {F : Fr} {ops : Array Oper} {Q : List AV → AHeap → Prop} {Qc : Exit → Act → World → Prop} (hsel : Region.noSelect ops = true) (hQ : ∀ env L a w, Q env L → At C F env L a w → Qc .normal a w) (hpan : ∀ c a w, ¬ Qc (.panic c) a w) :
    ∀ (order : List Nat) (fuel : Nat) (listed : Array Bool) (env : List AV) (L : AHeap) (a : Act) (w : World), order.length ≤ fuel → orderOkW ops order listed = true → lastOps C ops order Q env L →
      At C F env L a w → wpAnyH C.P .any ops Qc (fun _ => True) fuel listed a w
  | [], fuel, listed, env, L, a, w, _, hok, h, ha => by
    have : Region.ready .any ops listed = [] := by simpa [orderOkW] using hok
    exact wpAnyH_done this (hQ _ _ _ _ h ha) fuel
  | _ :: _, 0, _, _, _, _, _, hl, _, _, _ => by simp at hl
  | i :: rest, fuel + 1, listed, env, L, a, w, hl, hok, h, ha => by
    obtain ⟨imm, hst, hG⟩ := ha
    simp only [orderOkW] at hok
    simp only [lastOps, lastOp] at h
    cases ho : ops[i]? with
    | none => rw [ho] at h; exact h.elim
    | some o =>
      rw [ho] at h hok
      rw [aopF_fun] at h
      simp only [Bool.and_eq_true, Bool.or_eq_true] at hok
      obtain ⟨hthis, hrest⟩ := hok
      have hl' : rest.length ≤ fuel := by simpa using hl
      rcases hthis with ⟨⟨hm, hfree⟩, hready⟩ | hsing
      · simp only [movB, Bool.and_eq_true, Bool.or_eq_true, Bool.not_eq_true', Bool.false_eq_true, false_or] at hm
        obtain ⟨hmov, hload⟩ := hm
        have take : ∀ {v : Value} {x : AV}, YieldsIf C.P ops (fun _ => True) o v a → VR imm w x v → lastOps C ops rest Q (putA env o.dst x) L → wpAnyH C.P .any ops Qc (fun _ => True) (fuel + 1) listed a w := fun {v x} hy hx hk =>
          wpAnyH_take ho hsel hfree hready (fun c a w hp => (hpan c _ _ hp).elim) hy trivial (awpOrdW_sound hC hsel hQ hpan rest fuel _ _ L _ w hl' hrest hk ⟨imm, hst.put hx o.dst, hG⟩)
        rcases aoperG_cases h hst.env with ⟨hw, h⟩ | ⟨hw, h⟩
        · obtain ⟨v, x, hr, hx, hk⟩ := aop_move hC hmov h hG hst.sat hst.env
          exact take (.inl ⟨hw, fun w' _ => hr w' (fun hl => by rw [hload] at hl; cases hl)⟩) hx hk
        · exact take (.inr ⟨hw, rfl⟩) undef_VR h
      · have hr : Region.ready .any ops listed = [i] := by simpa using hsing
        refine wpAnyH_all hr (by simp) (fun j hj => ?_)
        obtain rfl : j = i := by simpa using hj
        unfold wpOp
        rw [ho]
        dsimp only
        rcases aoperG_cases h hst.env with ⟨hw, h⟩ | ⟨hw, h⟩
        · rw [if_pos hw]
          refine .inl (aop_sound hC h hG hst.sat hst.env fun x L' imm' v w' hk hs hx ht => ⟨trivial, awpOrdW_sound hC hsel hQ hpan rest fuel _ _ L' _ w' hl' hrest hk ?_⟩)
          exact At.next hC hst hG hs hx ht o.dst
        · rw [if_neg (by rw [hw]; simp)]
          exact ⟨trivial, awpOrdW_sound hC hsel hQ hpan rest fuel _ _ L _ w hl' hrest h ⟨imm, hst.put undef_VR o.dst, hG⟩⟩

theorem getD_set_un {listed : Array Bool} {i j : Nat} (h : (listed.setIfInBounds j true).getD i true = false) : listed.getD i true = false := by
  by_cases hij : j = i
  · subst hij
    by_cases hlt : j < listed.size
    · simp [hlt] at h
    · simp at h
  · rw [getD_set_ne true hij] at h; exact h
theorem wpAnyT_of_any {P : Program} {ops : Array Oper} {Q : Exit → Act → World → Prop} {S : World → Prop} {ks : List Nat} : ∀ (fuel : Nat) (listed : Array Bool) (a : Act) (w : World),
    (∀ i, listed.getD i true = false → i ∈ ks) → wpAnyH P .any ops Q (fun _ => True) fuel listed a w → wpAnyT P ops Q S ks fuel listed a w
  | 0, _, _, _, _, h => h
  | fuel + 1, _, _, _, hks, h => ⟨h.1, fun i hi => wpOp_mono (fun a' w' h' => ⟨fun hn => absurd (hks i (mem_ready.1 hi).1) hn, wpAnyT_of_any fuel _ a' w' (fun j hj => hks j (getD_set_un hj)) h'.2⟩) (h.2 i hi)⟩

theorem awpOrdT_sound {C : Cx} (hC : C.Ok) {F : Fr} {ks : List Nat} {ops : Array Oper} {Q : List AV → AHeap → Prop} {Qc : Exit → Act → World → Prop} (hsel : Region.noSelect ops = true) (hQ : ∀ env L a w, Q env L → At C F env L a w → Qc .normal a w) (hpan : ∀ c a w, ¬ Qc (.panic c) a w) :
    ∀ (order : List Nat) (fuel : Nat) (listed : Array Bool) (env : List AV) (L : AHeap) (a : Act) (w : World) (imm : Nat → Prop), order.length + ks.length ≤ fuel → orderOkT ops ks order listed = true → awpOrd C true ops order (lastOps C ops ks Q) env L →
      St C.D F.ds F.own F.imm F.w env L imm a w → C.G imm w → wpAnyT C.P ops Qc (Stays true imm L w) ks fuel listed a w
  | [], fuel, listed, env, L, a, w, imm, hl, hok, h, hst, hG => by
    simp only [orderOkT, Bool.and_eq_true] at hok
    obtain ⟨hok, hall⟩ := hok
    refine wpAnyT_of_any fuel listed a w (fun i hi => ?_) (awpOrdW_sound hC hsel hQ hpan ks fuel listed env L a w (by simpa using hl) hok h ⟨imm, hst, hG⟩)
    by_cases hlt : i < listed.size
    · have := List.all_eq_true.1 hall i (List.mem_range.2 hlt)
      rw [hi] at this
      simpa using this
    · simp [Array.getElem?_eq_none (Nat.le_of_not_lt hlt)] at hi
  | _ :: _, 0, _, _, _, _, _, _, hl, _, _, _, _ => by simp at hl
  | i :: rest, fuel + 1, listed, env, L, a, w, imm, hl, hok, h, hst, hG => by
    simp only [orderOkT] at hok
    simp only [awpOrd, aopQF_fun] at h
    cases ho : ops[i]? with
    | none => rw [ho] at h; exact h.elim
    | some o =>
      rw [ho] at h hok
      simp only [Bool.and_eq_true, Bool.or_eq_true] at hok
      obtain ⟨hthis, hrest⟩ := hok
      have hl' : rest.length + ks.length ≤ fuel := by simp at hl; omega
      obtain ⟨⟨⟨hm, hfree⟩, hready⟩, hwait⟩ := hthis
      have hmov : movA o.op = true := by simp only [movB, Bool.and_eq_true] at hm; exact hm.1
      rcases hwait with hpure | hwait
      · have hload : isLoad o.op = false := by simp only [movB, Bool.and_eq_true, Bool.false_or, Bool.not_eq_true'] at hpure; exact hpure.2
        have take : ∀ {v : Value} {x : AV}, YieldsIf C.P ops (fun _ => True) o v a → VR imm w x v → awpOrd C true ops rest (lastOps C ops ks Q) (putA env o.dst x) L → wpAnyT C.P ops Qc (Stays true imm L w) ks (fuel + 1) listed a w := fun {v x} hy hx hk =>
          wpAnyT_take ho hsel (fun c a w hp => (hpan c _ _ hp).elim) (.inr fun _ => trivial) fuel listed a w (Region.free_spec ho hfree) (by simpa using hready) hy trivial (awpOrdT_sound hC hsel hQ hpan rest fuel _ _ L _ w imm hl' hrest hk (hst.put hx o.dst) hG)
        rcases aoperG_cases h hst.env with ⟨hw, h⟩ | ⟨hw, h⟩
        · obtain ⟨v, x, hr, hx, hk⟩ := aop_move hC hmov (aopQ_mov hmov h) hG hst.sat hst.env
          exact take (.inl ⟨hw, fun w' _ => hr w' (fun hl => by rw [hload] at hl; cases hl)⟩) hx hk
        · exact take (.inr ⟨hw, rfl⟩) undef_VR h
      · have take : ∀ {v : Value} {x : AV}, YieldsIf C.P ops (Stays true imm L w) o v a → VR imm w x v → awpOrd C true ops rest (lastOps C ops ks Q) (putA env o.dst x) L → wpAnyT C.P ops Qc (Stays true imm L w) ks (fuel + 1) listed a w := fun {v x} hy hx hk =>
          wpAnyT_take ho hsel (fun c a w hp => (hpan c _ _ hp).elim) (.inl ⟨rfl, fun k hk => List.all_eq_true.1 hwait k hk⟩) fuel listed a w (Region.free_spec ho hfree) (by simpa using hready) hy (fun _ _ _ => rfl) (awpOrdT_sound hC hsel hQ hpan rest fuel _ _ L _ w imm hl' hrest hk (hst.put hx o.dst) hG)
        rcases aoperG_cases h hst.env with ⟨hw, h⟩ | ⟨hw, h⟩
        · obtain ⟨v, x, hr, hx, hk⟩ := aop_move hC hmov (aopQ_mov hmov h) hG hst.sat hst.env
          exact take (.inl ⟨hw, fun w' hw' => hr w' (fun _ => hw' rfl)⟩) hx hk
        · exact take (.inr ⟨hw, rfl⟩) undef_VR h

/-! ### Regions that draw their order and hold calls that write, what is loaded being kept -/
def OwnK (L : AHeap) (keys : List Nat) (i : Nat) : Prop := ∃ k g o, k ∈ keys ∧ L[k]? = some (g, o) ∧ o.owns g i
def SameK (imm : Nat → Prop) (L : AHeap) (keys : List Nat) (w w' : World) : Prop := ∀ g, imm g ∨ OwnK L keys g → w'.heap[g]? = w.heap[g]?
theorem mergeA_keep {ks : List Nat} {L' : AHeap} : ∀ {L : AHeap} {j0 j : Nat} {x : Nat × AObj}, idxN ks (j0 + j) 0 = none → L[j]? = some x → (mergeA ks L' j0 L)[j]? = some x
  | [], _, _, _, _, h => by simp at h
  | y :: L, j0, 0, x, hk, h => by
    simp only [mergeA, List.getElem?_cons_zero]
    rw [Nat.add_zero] at hk
    rw [hk]
    simpa using h
  | y :: L, j0, j + 1, x, hk, h => by
    simp only [mergeA, List.getElem?_cons_succ]
    exact mergeA_keep (by rw [show j0 + 1 + j = j0 + (j + 1) by omega]; exact hk) (by simpa using h)
theorem idxN_not {j : Nat} : ∀ {ks : List Nat} {b : Nat}, j ∉ ks → idxN ks j b = none
  | [], _, _ => rfl
  | k :: ks, b, h => by
    simp only [List.mem_cons, not_or] at h
    simp only [idxN]
    rw [if_neg (by simpa using fun e => h.1 e.symm)]
    exact idxN_not h.2
theorem mergeL_keep {L L' : AHeap} {ks : List Nat} {j : Nat} {x : Nat × AObj} (hj : j ∉ ks) (h : L[j]? = some x) : (mergeL L ks L')[j]? = some x :=
  mergeA_keep (by rw [Nat.zero_add]; exact idxN_not hj) h

inductive ACallP (C : Cx) (keys : List Nat) (f : FuncId) (args : List AV) (L : AHeap) (K : AV → AHeap → Prop) : Prop where
  | quiet (h : ACallQ C f args L fun v => K v L) : ACallP C keys f args L K
  | sel (ks : List Nat) (hnd : ks.Nodup) (hdis : (keys.all fun k => !ks.contains k) = true) (args' : List AV) (Q : AV → AHeap → Prop) (hsub : Subs args args') (h : FnSpec C f args' (selL L ks) Q) (k : ∀ r L', Q r L' → ∃ r', Sub r r' ∧ K r' (mergeL L ks L')) : ACallP C keys f args L K

theorem ACallP.sound {C : Cx} (hC : C.Ok) {keys : List Nat} {f : FuncId} {args : List AV} {L : AHeap} {K : AV → AHeap → Prop} (h : ACallP C keys f args L K) {imm : Nat → Prop} {w : World} (hG : C.G imm w) (hs : Sat imm w L) {vs : List Value}
    (hl : vs.length = args.length) (hv : ∀ (j : Nat) (x : AV) (v : Value), args[j]? = some x → vs[j]? = some v → VR imm w x v) :
    (∃ fn, C.P.funcs[f]? = some fn ∧ (fn.name == "runtime.NumGoroutine") = false ∧ fn.body.isSome = true) ∧
    Calls C.P f vs.toArray w (fun e w' => ∃ v r L' imm', e = .returned v ∧ VR imm' w' r v ∧ Sat imm' w' L' ∧ Tr C.D (Own L) imm w (Own L') imm' w' ∧ SameK imm L keys w w' ∧ (∀ g, OwnK L keys g → OwnK L' keys g) ∧ K r L') := by
  cases h with
  | quiet h =>
    obtain ⟨h1, h2⟩ := ACallQ.sound hC h hG hs hl hv
    refine ⟨h1, h2.mono ?_⟩
    rintro e w' ⟨v, r, imm', rfl, a2, a3, a4, a5, a6⟩
    exact ⟨v, r, L, imm', rfl, a2, a3, a4, fun g hg => a5 g (hg.imp id fun ⟨k, g', o, _, hk, ho⟩ => ⟨k, g', o, hk, ho⟩), fun _ h => h, a6⟩
  | sel ks hnd hdis args' Q hsub h k =>
    obtain ⟨hlen, hat⟩ := hsub.at_
    have hdis : ∀ k ∈ keys, k ∉ ks := fun k hk => by simpa using List.all_eq_true.1 hdis k hk
    refine ⟨h.1, (h.2 imm w vs hG (selL_sat hs hnd) (by omega) (fun j y v hy hvj => ?_)).mono ?_⟩
    · have hj : j < args.length := by rw [hlen]; exact (List.getElem?_eq_some_iff.1 hy).1
      exact hat j args[j] y (List.getElem?_eq_getElem hj) hy _ _ _ (hv j _ v (List.getElem?_eq_getElem hj) hvj)
    · rintro e w' ⟨v, r, L', imm', rfl, hr, hs', ht, hq⟩
      obtain ⟨r', hsub', hk⟩ := k r L' hq
      obtain ⟨m1, m2⟩ := merge_sat hs hs' ht
      refine ⟨v, r', _, imm', rfl, hsub' _ _ _ hr, m1, m2, fun g hg => ?_, fun i ⟨k, g, o, hk, hl, ho⟩ => ⟨k, g, o, hk, mergeL_keep (hdis k hk) hl, ho⟩, hk⟩
      have hlt : g < w.heap.size := hg.elim (hs.immlt g) fun ⟨k, g', o, _, hl, ho⟩ => hs.lt g ⟨k, g', o, hl, ho⟩
      refine ht.block g hlt fun hown => ?_
      obtain ⟨k', g1, o', hk', hl', ho'⟩ := own_selL hown
      rcases hg with hi | ⟨k, g2, o, hk, hl, ho⟩
      · exact hs.far g ⟨k', g1, o', hl', ho'⟩ hi
      · exact hdis k hk (hs.apart k k' g2 g1 g o o' hl ho hl' ho' ▸ hk')

theorem ACallP.ret {C : Cx} {keys : List Nat} {f : FuncId} {args : List AV} {L : AHeap} {K : AV → AHeap → Prop} {r0 : AV} (h : FnSpec C f args [] (fun r L' => r = r0 ∧ L' = [])) (k : K r0 L) : ACallP C keys f args L K :=
  .quiet (.ret h k)
theorem ACallP.ret_lend {C : Cx} {keys : List Nat} {f : FuncId} {args args' : List AV} {L : AHeap} {K : AV → AHeap → Prop} {r0 : AV} (hl : Lends L args args') (h : FnSpec C f args' [] (fun r L' => r = r0 ∧ L' = [])) (hr : scals r0 = true) (k : K r0 L) : ACallP C keys f args L K :=
  .quiet (.ret_lend hl h hr k)

def keptAt (keys : List Nat) : AV → Bool
  | .ptr k _ _ => keys.contains k
  | .el k _ _ _ _ _ => keys.contains k
  | .rel _ => true
  | _ => false
def aopP (C : Cx) (keys : List Nat) (o : Oper) (env : List AV) (L : AHeap) (K : AV → AHeap → Prop) : Prop :=
  match o.op with
  | .call { callee := .value x, args, .. } => match afun (aeval env x) with
    | some f => evalsK env args.toList fun vs => ACallP C keys f vs L K
    | none => False
  | .load t x => match keptAt keys (aeval env x) with
    | true => aopF C { o with op := .load t x } env L K
    | false => False
  | op => match movA op with
    | true => aopF C o env L K
    | false => False

theorem aptr_kept {imm : Nat → Prop} {w : World} {L : AHeap} {keys : List Nat} (hs : Sat imm w L) {p : AV} {v : Value} (hp : VR imm w p v) {K : List AV → Prop} (h : aptr L p K) (hk : keptAt keys p = true) :
    ∃ a cs vs, v = .pointer (some a) ∧ K cs ∧ VRs imm w cs vs ∧ (imm a.block ∨ OwnK L keys a.block) ∧ ∀ (j : Nat) (u : Value), vs[j]? = some u → w.cell? (a.add j) = some u := by
  cases hp with
  | ptr k g off =>
    have hkk : k ∈ keys := by simpa [keptAt] using hk
    obtain ⟨a, cs, vs, h1, h2, h3, h4, h5⟩ := aptr_sound hs (.ptr k g off) h
    cases h1
    simp only [aptr] at h
    split at h
    · rename_i g' t cs' hl
      obtain ⟨rfl, _⟩ := h
      exact ⟨_, cs, vs, rfl, h2, h3, .inr ⟨k, _, _, hkk, hl, rfl⟩, h5⟩
    · exact h.elim
  | el k g C sz i off =>
    have hkk : k ∈ keys := by simpa [keptAt] using hk
    obtain ⟨a, cs, vs, h1, h2, h3, h4, h5⟩ := aptr_sound hs (.el k g C sz i off) h
    cases h1
    simp only [aptr] at h
    split at h
    · rename_i g' e sz' C' xs hl
      obtain ⟨rfl, _⟩ := h
      exact ⟨_, cs, vs, rfl, h2, h3, .inr ⟨k, _, _, hkk, hl, rfl⟩, h5⟩
    · exact h.elim
  | rel cs a vs hi hl hc h1 hv => exact ⟨a, cs, vs, rfl, h, ⟨hl, h1, hv⟩, .inl hi, hc⟩
  | _ => exact h.elim

theorem aopP_move {C : Cx} (hC : C.Ok) {keys : List Nat} {o : Oper} (hm : movA o.op = true) {env : List AV} {L : AHeap} {K : AV → AHeap → Prop} (h : aopP C keys o env L K) {imm : Nat → Prop} {w : World} {a : Act} (hG : C.G imm w) (hs : Sat imm w L) (he : EnvR imm w env a.tmps) :
    ∃ v x, (∀ w', SameK imm L keys w w' → (execOp a.eval o).run C.P w' = .ok (.value v) w') ∧ VR imm w x v ∧ K x L := by
  unfold aopP at h
  split at h
  · rename_i x args ts ho; rw [ho] at hm; cases hm
  · rename_i t x ho
    split at h
    case h_2 => exact h.elim
    rename_i hkept
    rw [aopF_fun] at h
    unfold aop at h
    simp only at h
    split at h
    case h_2 => exact h.elim
    rename_i ti ht
    have hti := tiOf_spec (hC.types _ _ ht)
    obtain ⟨ad, cs, vs, hv, h, hvs, him, hc⟩ := aptr_kept hs (aeval_VR he x) h hkept
    unfold aloadT at h
    split at h
    case isFalse => exact h.elim
    rename_i hle
    obtain ⟨v, hr, hag, hone⟩ := run_loadVar_any (a := ad) hti hvs hle
    have hrun : ∀ w', SameK imm L keys w w' → (execOp a.eval o).run C.P w' = .ok (.value v) w' := fun w' hsame => by
      have := hr w' (fun j u hj => by
        rw [World.cell?_of_block (w := w)]
        · exact hc j u hj
        · rw [show (ad.add j).block = ad.block by unfold Addr.add; split <;> rfl]; exact hsame _ him)
      simp [execOp, ho, Instr.loadAt, hv, Instr.sureAddr, this]
    split at h
    · rename_i hagg
      refine ⟨_, _, hrun, ?_, h⟩
      rw [hag hagg]
      have := hvs.take ti.size
      exact .agg _ _ this.len this.one this.at_
    · rename_i hagg
      obtain ⟨u, hu, rfl⟩ := hone (by simpa using hagg)
      split at h
      · rename_i c rest
        exact ⟨_, _, hrun, hvs.at_ 0 c v rfl hu, h⟩
      · exact h.elim
  · rename_i hnc hnl
    split at h
    · rw [aopF_fun] at h
      obtain ⟨v, x, hr, hx, hk⟩ := aop_move hC hm h hG hs he
      refine ⟨v, x, fun w' _ => hr w' fun hl => ?_, hx, hk⟩
      cases ho : o.op with
      | load t x => exact absurd ho (hnl t x)
      | lookup t x ix ok => unfold aop at h; simp only [ho] at h
      | _ => rw [ho] at hl; cases hl
    · exact h.elim

def awpOrdP (C : Cx) (keys : List Nat) (ops : Array Oper) : List Nat → (List AV → AHeap → Prop) → List AV → AHeap → Prop
  | [], Q, env, L => Q env L
  | i :: rest, Q, env, L =>
    match ops[i]? with
    | none => False
    | some o => aoperG (aopP C keys) ops o env L fun env' L' => awpOrdP C keys ops rest Q env' L'

theorem aopP_sound {C : Cx} (hC : C.Ok) {keys : List Nat} {o : Oper} {env : List AV} {L : AHeap} {K : AV → AHeap → Prop} (h : aopP C keys o env L K) {imm : Nat → Prop} {w : World} {a : Act} (hG : C.G imm w) (hs : Sat imm w L) (he : EnvR imm w env a.tmps)
    {next : Act → World → Prop} {Q : Exit → Act → World → Prop}
    (hn : ∀ x L' imm' v w', K x L' → Sat imm' w' L' → VR imm' w' x v → Tr C.D (Own L) imm w (Own L') imm' w' → SameK imm L keys w w' → (∀ g, OwnK L keys g → OwnK L' keys g) → next (a.put o.dst v) w') : o.wp C.P a w next Q := by
  by_cases hm : movA o.op = true
  · obtain ⟨v, x, hr, hx, hk⟩ := aopP_move hC hm h hG hs he
    exact wp_value (hr w (fun _ _ => rfl)) (hn _ _ _ _ _ hk hs hx (Tr.refl _ _ _) (fun _ _ => rfl) (fun _ h => h))
  unfold aopP at h
  split at h
  · rename_i x args ts ho
    have hx := aeval_VR he x
    split at h
    case h_2 => exact h.elim
    rename_i f hfx
    rw [evalsK_eq] at h
    have hxv := afun_VR hx hfx
    obtain ⟨hl, hv⟩ := args_VR he args
    obtain ⟨⟨fn, hf, hname, hb⟩, hc⟩ := ACallP.sound hC h hG hs hl hv
    rw [Array.toArray_toList] at hc
    have h1 : fn.name ≠ "runtime.NumGoroutine" := by simpa using hname
    obtain ⟨cc, hcc⟩ := Option.isSome_iff_exists.1 hb
    have hrun : (execOp a.eval o).run C.P w = .ok (.enter f (args.map a.eval)) w := by
      unfold execOp
      simp [ho, hxv, resolve, Deferred.ofValue, invoke, callFunc, hf, h1, hcc]
    unfold Oper.wp
    rw [hrun, Oper.upon_enter]
    refine hc.mono fun e w'' hh => ?_
    obtain ⟨v, r, L', imm', rfl, a1, a2, a3, a4, a5, a6⟩ := hh
    exact hn r L' imm' v w'' a6 a2 a1 a3 a4 a5
  · rename_i t x ho; rw [ho] at hm; exact absurd rfl hm
  · split at h
    · rename_i hm'; exact absurd hm' hm
    · exact h.elim

theorem awpOrdP_sound {C : Cx} (hC : C.Ok) {F : Fr} {keys : List Nat} {ops : Array Oper} {Q : List AV → AHeap → Prop} {Qc : Exit → Act → World → Prop} (hsel : Region.noSelect ops = true) (hQ : ∀ env L a w, Q env L → At C F env L a w → Qc .normal a w) (hpan : ∀ c a w, ¬ Qc (.panic c) a w) :
    ∀ (order : List Nat) (fuel : Nat) (listed : Array Bool) (env : List AV) (L : AHeap) (a : Act) (w : World) (imm : Nat → Prop), order.length ≤ fuel → orderOk true ops order listed = true → awpOrdP C keys ops order Q env L →
      St C.D F.ds F.own F.imm F.w env L imm a w → C.G imm w → wpAnyH C.P .any ops Qc (SameK imm L keys w) fuel listed a w
  | [], fuel, listed, env, L, a, w, imm, _, hok, h, hst, hG => by
    have : Region.ready .any ops listed = [] := by simpa [orderOk] using hok
    exact wpAnyH_done this (hQ _ _ _ _ h ⟨imm, hst, hG⟩) fuel
  | i :: rest, 0, _, _, _, _, _, _, hl, _, _, _, _ => by simp at hl
  | i :: rest, fuel + 1, listed, env, L, a, w, imm, hl, hok, h, hst, hG => by
    simp only [orderOk] at hok
    simp only [awpOrdP] at h
    cases ho : ops[i]? with
    | none => rw [ho] at h; exact h.elim
    | some o =>
      rw [ho] at h hok
      simp only [Bool.and_eq_true, Bool.or_eq_true] at hok
      obtain ⟨hthis, hrest⟩ := hok
      have hl' : rest.length ≤ fuel := by simpa using hl
      rcases hthis with ⟨⟨hm, hfree⟩, hready⟩ | hsing
      · simp only [movB, Bool.and_eq_true, Bool.or_eq_true, Bool.not_eq_true'] at hm
        obtain ⟨hmov, _⟩ := hm
        have take : ∀ {v : Value} {x : AV}, YieldsIf C.P ops (SameK imm L keys w) o v a → VR imm w x v → awpOrdP C keys ops rest Q (putA env o.dst x) L → wpAnyH C.P .any ops Qc (SameK imm L keys w) (fuel + 1) listed a w := fun {v x} hy hx hk =>
          wpAnyH_take ho hsel hfree hready (fun c a w hp => (hpan c _ _ hp).elim) hy (fun _ _ => rfl) (awpOrdP_sound hC hsel hQ hpan rest fuel _ _ L _ w imm hl' hrest hk (hst.put hx o.dst) hG)
        rcases aoperG_cases h hst.env with ⟨hw, h⟩ | ⟨hw, h⟩
        · obtain ⟨v, x, hr, hx, hk⟩ := aopP_move hC hmov h hG hst.sat hst.env
          exact take (.inl ⟨hw, hr⟩) hx hk
        · exact take (.inr ⟨hw, rfl⟩) undef_VR h
      · have hr : Region.ready .any ops listed = [i] := by simpa using hsing
        refine wpAnyH_all hr (by simp) (fun j hj => ?_)
        obtain rfl : j = i := by simpa using hj
        unfold wpOp
        rw [ho]
        dsimp only
        rcases aoperG_cases h hst.env with ⟨hw, h⟩ | ⟨hw, h⟩
        · rw [if_pos hw]
          refine .inl (aopP_sound hC h hG hst.sat hst.env fun x L' imm' v w' hk hs hx ht hsame hown => ⟨hsame, ?_⟩)
          have hst' := (hst.step hs ht).put hx o.dst
          have hG' := hC.mono _ _ _ _ hG ht.imm1 (ht.immblock hst.sat.far hst.sat.immlt)
          refine wpAnyH_weak (S := SameK imm' L' keys w') (fun w2 h2 g hg => ?_) _ _ _ _ (awpOrdP_sound hC hsel hQ hpan rest fuel _ _ L' _ w' imm' hl' hrest hk hst' hG')
          rw [h2 g (hg.imp (ht.imm1 g) (hown g)), hsame g hg]
        · rw [if_neg (by rw [hw]; simp)]
          exact ⟨fun _ _ => rfl, awpOrdP_sound hC hsel hQ hpan rest fuel _ _ L _ w imm hl' hrest h (hst.put undef_VR o.dst) hG⟩

/-! ### Code -/
theorem wp_skip' {P : Program} {Q : Exit → Act → World → Prop} {a : Act} {w : World} (h : Q .normal a w) : Code.skip.wp P Q a w := Go.wp_skip h
theorem wp_loop_nat {C : Cx} {c : Code} {Q : Exit → Act → World → Prop} (J : Nat → Act → World → Prop) (n : Nat) {a : Act} {w : World} (h : J n a w)
    (round : ∀ n a w, J n a w → c.wp C.P (Exit.then (fun a' w' => ∃ m, m < n ∧ J m a' w') Q) a w) : (Code.loop c).wp C.P Q a w := by
  intro b k cs
  have key : ∀ n a w, J n a w → ∃ e a' w', Q e a' w' ∧ Arrives C.P (lone (b.at a (.code c :: .inLoop c :: k)) cs w) b k cs e a' w' := by
    intro n
    induction n using Nat.strongRecOn with
    | _ n ih =>
      intro a w hJ
      obtain ⟨e, a₁, w₁, hq, harr⟩ := round n a w hJ b (.inLoop c :: k) cs
      cases e with
      | normal =>
        obtain ⟨m, hm, hJ'⟩ := hq
        obtain ⟨e₂, a₂, w₂, hq₂, harr₂⟩ := ih m hm a₁ w₁ hJ'
        exact ⟨e₂, a₂, w₂, hq₂, .of_steps (Steps.trans harr (.one step_inLoop)) harr₂⟩
      | exit id => exact ⟨_, a₁, w₁, hq, .pass (x := .inLoop c) rfl (fun _ _ => .inl (by simp)) harr⟩
      | goto l => exact ⟨_, a₁, w₁, hq, .pass (x := .inLoop c) rfl (fun _ _ => .inl (by simp)) harr⟩
      | ret => exact ⟨_, a₁, w₁, hq, .pass (x := .inLoop c) rfl (fun _ _ => .inl (by simp)) harr⟩
      | panic ch => exact ⟨_, a₁, w₁, hq, .pass (x := .inLoop c) rfl (fun _ _ => .inl (by simp)) harr⟩
      | outgrown => exact ⟨_, a₁, w₁, hq, .pass (x := .inLoop c) rfl (fun _ _ => .inl (by simp)) harr⟩
  obtain ⟨e, a', w', hq, harr⟩ := key n a w h
  exact ⟨e, a', w', hq, .of_steps (.one step_loop) harr⟩
def Exit.inB (id : Nat) (Q : Exit → List AV → AHeap → Prop) : Exit → List AV → AHeap → Prop
  | .exit id', env, L => if id' = id then Q .normal env L else Q (.exit id') env L
  | e, env, L => Q e env L

def wk : List AV → List AV → Prop
  | _, [] => True
  | [], _ :: _ => False
  | x :: xs, y :: ys => (y = .junk ∨ x = y) ∧ wk xs ys

theorem wk_at : ∀ {xs ys : List AV}, wk xs ys → ys.length ≤ xs.length ∧ ∀ (t : Nat) (y : AV), ys[t]? = some y → y = .junk ∨ xs[t]? = some y
  | _, [], _ => ⟨Nat.zero_le _, by simp⟩
  | [], _ :: _, h => h.elim
  | x :: xs, y :: ys, h => by
    obtain ⟨h1, h2⟩ := h
    obtain ⟨hl, hh⟩ := wk_at h2
    refine ⟨by simp; omega, fun t z hz => ?_⟩
    cases t with
    | zero => simp at hz; subst hz; simpa using h1
    | succ t => simpa using hh t z (by simpa using hz)

theorem EnvR.wk {imm : Nat → Prop} {w : World} {env env' : List AV} {tmps : Array Value} (h : EnvR imm w env tmps) (hw : HB.wk env env') : EnvR imm w env' tmps := by
  obtain ⟨hl, hh⟩ := wk_at hw
  refine ⟨Nat.le_trans hl h.len, fun t y v hy hv => ?_⟩
  rcases hh t y hy with rfl | he
  · exact .junk v
  · exact h.at_ t y v he hv

theorem At.wk {C : Cx} {F : Fr} {env env' : List AV} {L : AHeap} {a : Act} {w : World} (h : At C F env L a w) (hw : HB.wk env env') : At C F env' L a w := by
  obtain ⟨imm, hst, hG⟩ := h
  exact ⟨imm, ⟨hst.sat, hst.env.wk hw, hst.tr, hst.defers⟩, hG⟩

theorem take_at {L : AHeap} {k j : Nat} {x : Nat × AObj} (h : (L.take k)[j]? = some x) : L[j]? = some x := by
  rw [List.getElem?_take] at h
  split at h
  · exact h
  · cases h
theorem Own.take {L : AHeap} {k g : Nat} (h : Own (L.take k) g) : Own L g := by
  obtain ⟨j, g', o, hj, ho⟩ := h
  exact ⟨j, g', o, take_at hj, ho⟩
theorem At.take {C : Cx} {F : Fr} {env : List AV} {L : AHeap} {a : Act} {w : World} (h : At C F env L a w) (k : Nat) : At C F env (L.take k) a w := by
  obtain ⟨imm, hst, hG⟩ := h
  have hs := hst.sat
  have ht := hst.tr
  exact ⟨imm, ⟨⟨fun j g o hj ho => hs.holds j g o (take_at hj) ho, fun j j' g g' i o o' h1 l1 h2 l2 => hs.apart j j' g g' i o o' (take_at h1) l1 (take_at h2) l2, fun g hg => hs.far g hg.take, fun g hg => hs.lt g hg.take, hs.immlt⟩,
    hst.env, ⟨ht.drawn, ht.os, ht.tape, ht.output, ht.size, ht.block, ht.imm1, ht.imm2, fun i hi => ht.own2 i hi.take⟩, hst.defers⟩, hG⟩

def Weak (env : List AV) (L : AHeap) (env1 : List AV) (L1 : AHeap) : Prop := ∀ (C : Cx) (F : Fr) (a : Act) (w : World), At C F env L a w → At C F env1 L1 a w
theorem Weak.wk {env env1 : List AV} (h : HB.wk env env1) (L : AHeap) (k : Nat) : Weak env L env1 (L.take k) := fun _ _ _ _ ha => (ha.wk h).take k
theorem Weak.wk' {env env1 : List AV} (h : HB.wk env env1) (L : AHeap) : Weak env L env1 L := fun _ _ _ _ ha => ha.wk h
theorem Weak.sel {env env1 : List AV} (hs : Subs env env1) {L L1 : AHeap} (ks : List Nat) (hnd : ks.Nodup) (hL : SubL (selL L ks) L1) : Weak env L env1 L1 := fun C F a w ha => by
  obtain ⟨imm, hst, hG⟩ := ha
  have ht := hst.tr
  obtain ⟨hlen, hat⟩ := hs.at_
  refine ⟨imm, ⟨hL.sat (selL_sat hst.sat hnd), ⟨by have := hst.env.1; omega, fun t x v hx hv => ?_⟩, ⟨ht.drawn, ht.os, ht.tape, ht.output, ht.size, ht.block, ht.imm1, ht.imm2, fun i hi => ?_⟩, hst.defers⟩, hG⟩
  · have hj : t < env.length := by rw [hlen]; exact (List.getElem?_eq_some_iff.1 hx).1
    exact hat t env[t] x (List.getElem?_eq_getElem hj) hx _ _ _ (hst.env.2 t _ v (List.getElem?_eq_getElem hj) hv)
  · rw [hL.own] at hi
    obtain ⟨k, g', o, _, hk, ho⟩ := own_selL hi
    exact ht.own2 i ⟨k, g', o, hk, ho⟩

def awp (C : Cx) : Code → (Exit → List AV → AHeap → Prop) → List AV → AHeap → Prop
  | .skip, Q, env, L => Q .normal env L
  | .region id ops false, Q, env, L => awpOps C ops ops.toList (Q .normal) env L ∨ SemC C (.region id ops false) Q env L
  | .region id ops true, Q, env, L => (∃ q order, (Region.noSelect ops && orderOk q ops order (Array.replicate ops.size false) && decide (order.length ≤ ops.size)) = true ∧ awpOrd C q ops order (Q .normal) env L) ∨
      (∃ ks order, (Region.noSelect ops && orderOkT ops ks order (Array.replicate ops.size false) && decide (order.length + ks.length ≤ ops.size)) = true ∧ awpOrd C true ops order (lastOps C ops ks (Q .normal)) env L) ∨
      (∃ keys order, (Region.noSelect ops && orderOk true ops order (Array.replicate ops.size false) && decide (order.length ≤ ops.size)) = true ∧ awpOrdP C keys ops order (Q .normal) env L) ∨
      SemC C (.region id ops true) Q env L
  | .seq x y, Q, env, L => awp C x (fun e env' L' => match e with
    | .normal => awp C y Q env' L'
    | e => Q e env' L') env L
  | .cond c x y, Q, env, L => match aeval env c with
    | .bool true => awp C x Q env L
    | .bool false => awp C y Q env L
    | _ => False
  | .block id b, Q, env, L => awp C b (Exit.inB id Q) env L
  | .loop b, Q, env, L => ∃ (I : Nat → List AV → AHeap → Prop) (n : Nat) (env0 : List AV) (L0 : AHeap), Weak env L env0 L0 ∧ I n env0 L0 ∧ ∀ n env L, I n env L → awp C b (fun e env' L' => match e with
    | .normal => ∃ m env1 L1, m < n ∧ Weak env' L' env1 L1 ∧ I m env1 L1
    | e => Q e env' L') env L
  | .exit id, Q, env, L => Q (.exit id) env L
  | .ret, Q, env, L => Q .ret env L
  | .scope c, Q, env, L => awp C c (fun e env' L' => match e with
    | .goto _ => False
    | e => Q e env' L') env L
  | .label _, Q, env, L => Q .normal env L
  | .rangeFunc f ps x y, Q, env, L => SemC C (.rangeFunc f ps x y) Q env L
  | _, _, _, _ => False

theorem At.drew {C : Cx} (hC : C.Ok) {F : Fr} {env : List AV} {L : AHeap} {a : Act} {w : World} (h : At C F env L a w) : At C F env L a w.drew := by
  obtain ⟨imm, hst, hG⟩ := h
  exact ⟨imm, hst.step hst.sat.drew (Tr.drew w), hC.mono _ _ _ _ hG (fun _ h => h) (fun _ _ => rfl)⟩

theorem awp_sound {C : Cx} (hC : C.Ok) {F : Fr} : ∀ (c : Code) (Q : Exit → List AV → AHeap → Prop) (env : List AV) (L : AHeap) (a : Act) (w : World), awp C c Q env L → At C F env L a w → c.wp C.P (QC C F Q) a w
  | .skip, Q, env, L, a, w, h, ha => wp_skip' (Q := QC C F Q) ⟨env, L, ha, h⟩
  | .region id ops false, Q, env, L, a, w, h, ha => by
    rcases h with h | h
    case inr => exact h F a w ha
    have := awpOps_text (ops := ops) (Qc := QC C F Q) hC (fun env L a w hq ha => ⟨env, L, ha, hq⟩) ops.size 0 env L a w (Nat.zero_add _) (by simpa using h) ha
    rw [← List.range_eq_range'] at this
    exact wp_region this
  | .region id ops true, Q, env, L, a, w, h, ha => by
    have ha0 := ha
    obtain ⟨imm, hst, hG⟩ := ha.drew hC
    rcases h with ⟨q, order, hcheck, h⟩ | ⟨k, order, hcheck, h⟩ | ⟨keys, order, hcheck, h⟩ | h
    case inr.inr.inr => exact h F a w ha0
    all_goals refine Code.wp_mono (Q := QN C F Q) (fun _ _ _ h => h.toC) ?_
    case inr.inr.inl =>
      simp only [Bool.and_eq_true, decide_eq_true_eq] at hcheck
      exact wp_region_held (S := SameK imm L keys w.drew) hC.mixed (awpOrdP_sound (Qc := QN C F Q) hC hcheck.1.1 (fun env L a w hq ha => ⟨env, L, ha, hq⟩) (fun c a w hp => hp) order ops.size _ env L a w.drew imm hcheck.2 hcheck.1.2 h hst hG)
    case inr.inl =>
      simp only [Bool.and_eq_true, decide_eq_true_eq] at hcheck
      exact wp_region_any hC.mixed (wpAnyT_any _ _ _ _ (awpOrdT_sound (Qc := QN C F Q) hC hcheck.1.1 (fun env L a w hq ha => ⟨env, L, ha, hq⟩) (fun c a w hp => hp) order ops.size _ env L a w.drew imm hcheck.2 hcheck.1.2 h hst hG))
    simp only [Bool.and_eq_true, decide_eq_true_eq] at hcheck
    exact wp_region_held (S := Stays q imm L w.drew) hC.mixed (awpOrd_sound (Qc := QN C F Q) hC hcheck.1.1 (fun env L a w hq ha => ⟨env, L, ha, hq⟩) (fun c a w hp => hp) order ops.size _ env L a w.drew imm hcheck.2 hcheck.1.2 h hst hG)
  | .seq x y, Q, env, L, a, w, h, ha => by
    refine wp_seq (Code.wp_mono ?_ (awp_sound hC x _ env L a w h ha))
    intro e a' w' hq
    cases e with
    | normal =>
      obtain ⟨env', L', ha', hq⟩ := hq
      exact awp_sound hC y Q env' L' a' w' hq ha'
    | panic c => exact hq
    | outgrown => exact hq
    | _ => exact hq
  | .cond c x y, Q, env, L, a, w, h, ha => by
    simp only [awp] at h
    obtain ⟨imm, hst, hG⟩ := ha
    have hv := aeval_VR hst.env c
    split at h
    · rename_i e; rw [e] at hv; generalize hvv : a.eval c = v at hv; cases hv
      exact wp_cond_true hvv (awp_sound hC x Q env L a w h ⟨imm, hst, hG⟩)
    · rename_i e; rw [e] at hv; generalize hvv : a.eval c = v at hv; cases hv
      exact wp_cond_false hvv (awp_sound hC y Q env L a w h ⟨imm, hst, hG⟩)
    · exact h.elim
  | .block id b, Q, env, L, a, w, h, ha => by
    refine wp_block (Code.wp_mono ?_ (awp_sound hC b _ env L a w h ha))
    intro e a' w' hq
    cases e with
    | exit id' =>
      obtain ⟨env', L', ha', hq⟩ := hq
      simp only [Go.Exit.inBlock, Exit.inB] at hq ⊢
      split
      · rename_i e; rw [if_pos e] at hq; exact ⟨env', L', ha', hq⟩
      · rename_i e; rw [if_neg e] at hq; exact ⟨env', L', ha', hq⟩
    | _ => exact hq
  | .loop b, Q, env, L, a, w, h, ha => by
    obtain ⟨I, n, env0, L0, hw0, hI, hround⟩ := h
    refine wp_loop_nat (C := C) (fun n a w => ∃ env L, At C F env L a w ∧ I n env L) n ⟨env0, L0, hw0 _ _ _ _ ha, hI⟩ (fun n a w ⟨env, L, ha, hI⟩ => ?_)
    refine Code.wp_mono ?_ (awp_sound hC b _ env L a w (hround n env L hI) ha)
    intro e a' w' hq
    cases e with
    | normal =>
      obtain ⟨env', L', ha', m, env1, L1, hm, hwk, hI'⟩ := hq
      exact ⟨m, hm, env1, L1, hwk _ _ _ _ ha', hI'⟩
    | _ => exact hq
  | .exit id, Q, env, L, a, w, h, ha => wp_exit (Q := QC C F Q) ⟨env, L, ha, h⟩
  | .ret, Q, env, L, a, w, h, ha => wp_ret (Q := QC C F Q) ⟨env, L, ha, h⟩
  | .rangeFunc _ _ _ _, _, _, _, _, _, h, ha => h _ _ _ ha
  | .scope c, Q, env, L, a, w, h, ha => by
    refine wp_scope_straight (Code.wp_mono ?_ (awp_sound hC c _ env L a w h ha))
    intro e a' w' hq
    cases e with
    | goto l =>
      obtain ⟨_, _, _, hq⟩ := hq
      exact hq.elim
    | _ => exact hq
  | .label _, Q, env, L, a, w, h, ha => wp_label (Q := QC C F Q) ⟨env, L, ha, h⟩
  | .goto _, _, _, _, _, _, h, _ => h.elim
  | .refuse _, _, _, _, _, _, h, _ => h.elim

end Go.Proofs.YtgpbppkmmlclfaaDoor.HB
/- Functions of the abstract machine: from a body to a contract. -/
namespace Go.Proofs.YtgpbppkmmlclfaaDoor.HB
open Go

def aress (C : Cx) (env : List AV) (L : AHeap) : List ResultVar → (List AV → Prop) → Prop
  | [], K => K []
  | .tmp t :: rest, K => aress C env L rest fun xs => K (env.getD t .junk :: xs)
  | .cell a t :: rest, K => match C.T t with
    | some ti => aptr L (env.getD a .junk) fun cs => aloadF ti cs fun v => aress C env L rest fun xs => K (v :: xs)
    | none => False
def aret : List AV → AV
  | [x] => x
  | xs => .tuple xs

def FinOk (r : AV) (L : AHeap) (r' : AV) (L' : AHeap) : Prop :=
  ∀ (D : Prop) (own0 imm0 : Nat → Prop) (w0 : World) (imm : Nat → Prop) (w : World) (v : Value), Sat imm w L → VR imm w r v → Tr D own0 imm0 w0 (Own L) imm w → ∃ imm', Sat imm' w L' ∧ VR imm' w r' v ∧ Tr D own0 imm0 w0 (Own L') imm' w

theorem FinOk.refl (r : AV) (L : AHeap) : FinOk r L r L := fun _ _ _ _ imm _ _ hs hv ht => ⟨imm, hs, hv, ht⟩
theorem not_own_nil (g : Nat) : ¬ Own [] g := fun ⟨k, g', o, hk, _⟩ => by simp at hk
theorem FinOk.lend {r r' : AV} {L : AHeap} (h : Lend L r r') : FinOk r L r' [] := fun D own0 imm0 w0 imm w v hs hv ht => by
  refine ⟨fun i => imm i ∨ Own L i, ⟨by simp, by simp, fun g hg => (not_own_nil g hg).elim, fun g hg => (not_own_nil g hg).elim, fun g hg => hg.elim (hs.immlt g) (hs.lt g)⟩, h.VR hs hv, ?_⟩
  refine ⟨ht.drawn, ht.os, ht.tape, ht.output, ht.size, ht.block, fun i hi => .inl (ht.imm1 i hi), fun i hi => ?_, fun i hi => (not_own_nil i hi).elim⟩
  rcases hi with hi | hi
  · exact ht.imm2 i hi
  · exact .inr (ht.own2 i hi)
theorem FinOk.drop (r : AV) (L : AHeap) : FinOk r L r [] := FinOk.lend (.same r)
theorem FinOk.keep (r : AV) {r' : AV} {L L' : AHeap} (ks : List Nat) (hr : Sub r r') (hnd : ks.Nodup) (hL : L' = ks.map fun k => L.getD k (0, .dead)) : FinOk r L r' L' := fun D own0 imm0 w0 imm w v hs hv ht => by
  have hat : ∀ (j g : Nat) (o : AObj), L'[j]? = some (g, o) → o.live → ∃ k, ks[j]? = some k ∧ L[k]? = some (g, o) := by
    intro j g o hj ho
    rw [hL, List.getElem?_map] at hj
    cases hk : ks[j]? with
    | none => simp [hk] at hj
    | some k =>
      simp only [hk, Option.map_some, Option.some.injEq, List.getD] at hj
      cases hl : L[k]? with
      | none => rw [hl] at hj; simp at hj; rw [← hj.2] at ho; exact ho.elim
      | some p => rw [hl] at hj; simp at hj; exact ⟨k, rfl, by rw [hl, hj]⟩
  have hown : ∀ i, Own L' i → Own L i := fun i ⟨j, g, o, hj, ho⟩ => by
    obtain ⟨k, _, hk⟩ := hat j g o hj ho.live
    exact ⟨k, g, o, hk, ho⟩
  refine ⟨imm, ⟨fun j g o hj ho => ?_, fun j j' g g' i o o' h1 l1 h2 l2 => ?_, fun g hg => hs.far g (hown g hg), fun g hg => hs.lt g (hown g hg), hs.immlt⟩, hr _ _ _ hv, ?_⟩
  · obtain ⟨k, _, hk⟩ := hat j g o hj ho
    exact hs.holds k g o hk ho
  · obtain ⟨k, e1, hk⟩ := hat j g o h1 l1.live
    obtain ⟨k', e2, hk'⟩ := hat j' g' o' h2 l2.live
    have := hs.apart k k' g g' i o o' hk l1 hk' l2
    subst this
    have hj : j < ks.length := (List.getElem?_eq_some_iff.1 e1).1
    exact (List.getElem?_inj hj hnd).1 (e1.trans e2.symm)
  · exact ⟨ht.drawn, ht.os, ht.tape, ht.output, ht.size, ht.block, ht.imm1, ht.imm2, fun i hi => ht.own2 i (hown i hi)⟩

def rv (tmps : Array Value) : ResultVar → Sem Value
  | .tmp t => pure (tmps.getD t undef)
  | .cell a t => do loadVar t (← asAddr (tmps.getD a undef))
theorem results_eq (fn : Func) (tmps : Array Value) : results fn tmps = (do let vs ← fn.results.mapM (rv tmps); pure (if h : vs.size = 1 then vs[0] else .tuple vs)) := by
  unfold results
  have e : (fun x => match x with
    | ResultVar.tmp t => pure (tmps.getD t undef)
    | ResultVar.cell a t => do
      let __do_lift ← asAddr (tmps.getD a undef)
      loadVar t __do_lift) = rv tmps := by
    funext r
    cases r <;> rfl
  exact congrArg (fun f : ResultVar → Sem Value => (do let vs ← fn.results.mapM f; pure (if h : vs.size = 1 then vs[0] else .tuple vs) : Sem Value)) e

theorem run_vals {P : Program} {w : World} (f : ResultVar → Sem Value) : ∀ (rs : List ResultVar) (vs : List Value), rs.length = vs.length → (∀ (j : Nat) (r : ResultVar) (v : Value), rs[j]? = some r → vs[j]? = some v → (f r).run P w = .ok v w) → (rs.mapM f).run P w = .ok vs w
  | [], [], _, _ => by simp
  | [], _ :: _, h, _ => by simp at h
  | _ :: _, [], h, _ => by simp at h
  | r :: rs, v :: vs, hl, h => by
    have h0 := h 0 r v rfl rfl
    have ih := run_vals f rs vs (by simpa using hl) (fun j r' v' hr hv => h (j + 1) r' v' (by simpa using hr) (by simpa using hv))
    simp [List.mapM_cons, h0, ih]

theorem aress_sound {C : Cx} (hC : C.Ok) {imm : Nat → Prop} {w : World} {env : List AV} {L : AHeap} {a : Act} (hs : Sat imm w L) (he : EnvR imm w env a.tmps) :
    ∀ (rs : List ResultVar) (K : List AV → Prop), aress C env L rs K → ∃ (xs : List AV) (vs : List Value), K xs ∧ xs.length = vs.length ∧ rs.length = vs.length ∧ (∀ (j : Nat) (x : AV) (v : Value), xs[j]? = some x → vs[j]? = some v → VR imm w x v) ∧
      ∀ (j : Nat) (r : ResultVar) (v : Value), rs[j]? = some r → vs[j]? = some v → (rv a.tmps r).run C.P w = .ok v w
  | [], K, h => ⟨[], [], h, rfl, rfl, by simp, by simp⟩
  | .tmp t :: rest, K, h => by
    obtain ⟨xs, vs, hk, h1, h2, h3, h4⟩ := aress_sound hC hs he rest _ h
    have hv := aeval_VR he (.tmp t)
    refine ⟨_, a.tmps.getD t undef :: vs, hk, by simp [h1], by simp [h2], fun j x v hx hv' => ?_, fun j r v hr hv' => ?_⟩
    · cases j with
      | zero => simp at hx hv'; subst hx; subst hv'; simpa [aeval, Act.eval, List.getD] using hv
      | succ j => exact h3 j x v (by simpa using hx) (by simpa using hv')
    · cases j with
      | zero => simp at hr hv'; subst hr; subst hv'; simp [rv]
      | succ j => exact h4 j r v (by simpa using hr) (by simpa using hv')
  | .cell p t :: rest, K, h => by
    simp only [aress] at h
    split at h
    case h_2 => exact h.elim
    rename_i ti ht
    have hp := aeval_VR he (.tmp p)
    obtain ⟨ad, cs, vs0, hpv, h, hvs, _, hc⟩ := aptr_sound hs hp h
    rw [aloadF_eq] at h
    unfold aloadT at h
    split at h
    case isFalse => exact h.elim
    rename_i hle
    obtain ⟨v, hr, hag, hone⟩ := run_loadVar_any (a := ad) (tiOf_spec (hC.types _ _ ht)) hvs hle
    have hrun := hr w hc
    have go : ∀ x, VR imm w x v → (aress C env L rest fun xs => K (x :: xs)) → ∃ (xs : List AV) (vs : List Value), K xs ∧ xs.length = vs.length ∧ (ResultVar.cell p t :: rest).length = vs.length ∧ (∀ (j : Nat) (x : AV) (v : Value), xs[j]? = some x → vs[j]? = some v → VR imm w x v) ∧
      ∀ (j : Nat) (r : ResultVar) (v : Value), (ResultVar.cell p t :: rest)[j]? = some r → vs[j]? = some v → (rv a.tmps r).run C.P w = .ok v w := by
      intro x hx h
      obtain ⟨xs, vs, hk, h1, h2, h3, h4⟩ := aress_sound hC hs he rest _ h
      refine ⟨_, v :: vs, hk, by simp [h1], by simp [h2], fun j y u hy hu => ?_, fun j r u hr' hu => ?_⟩
      · cases j with
        | zero => simp at hy hu; subst hy; subst hu; exact hx
        | succ j => exact h3 j y u (by simpa using hy) (by simpa using hu)
      · cases j with
        | zero =>
          simp at hr' hu
          subst hr'; subst hu
          have : a.tmps.getD p undef = .pointer (some ad) := hpv
          simp [rv, this, asAddr, hrun]
        | succ j => exact h4 j r u (by simpa using hr') (by simpa using hu)
    split at h
    · rename_i hagg
      refine go _ ?_ h
      rw [hag hagg]
      have := hvs.take ti.size
      exact .agg _ _ this.len this.one this.at_
    · rename_i hagg
      obtain ⟨u, hu, rfl⟩ := hone (by simpa using hagg)
      split at h
      · rename_i c rest'
        exact go _ (hvs.at_ 0 c v rfl hu) h
      · exact h.elim

theorem results_sound {C : Cx} (hC : C.Ok) {fn : Func} {imm : Nat → Prop} {w : World} {env : List AV} {L : AHeap} {a : Act} (hs : Sat imm w L) (he : EnvR imm w env a.tmps) {K : List AV → Prop} (h : aress C env L fn.results.toList K) :
    ∃ xs v, K xs ∧ (results fn a.tmps).run C.P w = .ok v w ∧ VR imm w (aret xs) v := by
  obtain ⟨xs, vs, hk, h1, h2, h3, h4⟩ := aress_sound hC hs he _ _ h
  have hm := run_vals (P := C.P) (w := w) (rv a.tmps) fn.results.toList vs h2 h4
  have hres : (results fn a.tmps).run C.P w = .ok (if hh : vs.toArray.size = 1 then vs.toArray[0] else .tuple vs.toArray) w := by
    rw [results_eq, ← Array.toArray_toList (xs := fn.results), List.mapM_toArray]
    simp only [Sem.run_bind, Sem.run_map]
    rw [hm]
    rfl
  refine ⟨xs, _, hk, hres, ?_⟩
  cases vs with
  | nil =>
    have : xs = [] := List.eq_nil_of_length_eq_zero h1
    subst this
    exact .tuple [] [] rfl (by simp)
  | cons v1 vs =>
    cases xs with
    | nil => simp at h1
    | cons x1 xs =>
      cases vs with
      | nil =>
        have : xs = [] := List.eq_nil_of_length_eq_zero (by simpa using h1)
        subst this
        exact h3 0 x1 v1 rfl rfl
      | cons v2 vs =>
        cases xs with
        | nil => simp at h1
        | cons x2 xs =>
          rw [dif_neg (by simp)]
          exact .tuple _ _ h1.symm h3

def apost (C : Cx) (fn : Func) (Q : AV → AHeap → Prop) : Exit → List AV → AHeap → Prop
  | .normal, env, L | .ret, env, L => aress C env L fn.results.toList fun xs => ∃ r L', FinOk (aret xs) L r L' ∧ Q r L'
  | _, _, _ => False

theorem FnSpec.intro {C : Cx} (hC : C.Ok) {f : FuncId} {fn : Func} {c : Code} {args : List AV} {L : AHeap} {Q : AV → AHeap → Prop} {n : Nat} (hf : C.P.funcs[f]? = some fn) (hb : fn.body = some c) (hname : (fn.name == "runtime.NumGoroutine") = false) (hn : fn.ntmps = n)
    (h : force (args ++ List.replicate (n - args.length) .junk) fun env => awp C c (apost C fn Q) env L) : FnSpec C f args L Q := by
  refine ⟨⟨fn, hf, hname, by simp [hb]⟩, fun imm w vs hG hs hl hv => ?_⟩
  rw [force_eq] at h
  subst hn
  have hlen : vs.toArray.size = args.length := by simpa using hl
  refine calls_of_wp hf hb ?_
  have henv : EnvR imm w (args ++ List.replicate (fn.ntmps - args.length) .junk) (vs.toArray ++ Array.replicate (fn.ntmps - vs.toArray.size) undef) := by
    refine ⟨by simp [hl], fun t x v hx hvv => ?_⟩
    by_cases ht : t < args.length
    · rw [List.getElem?_append_left ht] at hx
      rw [Array.getElem?_append_left (by omega)] at hvv
      exact hv t x v hx (by simpa using hvv)
    · rw [List.getElem?_append_right (by omega), List.getElem?_replicate] at hx
      split at hx
      · cases hx; exact .junk v
      · cases hx
  have hat : At C ⟨[], Own L, imm, w⟩ (args ++ List.replicate (fn.ntmps - args.length) .junk) L { tmps := vs.toArray ++ Array.replicate (fn.ntmps - vs.toArray.size) undef, defers := [] } w := ⟨imm, ⟨hs, henv, Tr.refl _ _ _, rfl⟩, hG⟩
  refine Code.wp_mono ?_ (awp_sound hC c _ _ L _ w h hat)
  have fin : ∀ (a' : Act) (w' : World) (env' : List AV) (L' : AHeap), At C ⟨[], Own L, imm, w⟩ env' L' a' w' → (aress C env' L' fn.results.toList fun xs => ∃ r L'', FinOk (aret xs) L' r L'' ∧ Q r L'') →
      a'.defers = [] ∧ ∃ v, (results fn a'.tmps).run C.P w' = .ok v w' ∧ ∃ v' r L' imm', Ending.returned v = .returned v' ∧ VR imm' w' r v' ∧ Sat imm' w' L' ∧ Tr C.D (Own L) imm w (Own L') imm' w' ∧ Q r L' := by
    intro a' w' env' L' ha h
    obtain ⟨imm', hst, _⟩ := ha
    obtain ⟨xs, v, ⟨r, L'', hfin, hq⟩, hrun, hvr⟩ := results_sound hC hst.sat hst.env h
    obtain ⟨imm2, h1, h2, h3⟩ := hfin _ _ _ _ _ _ _ hst.sat hvr hst.tr
    exact ⟨hst.defers, v, hrun, v, r, L'', imm2, rfl, h2, h1, h3, hq⟩
  intro e a' w' hq
  cases e with
  | normal => obtain ⟨env', L', ha, hq⟩ := hq; exact fin a' w' env' L' ha hq
  | ret => obtain ⟨env', L', ha, hq⟩ := hq; exact fin a' w' env' L' ha hq
  | exit id => obtain ⟨env', L', ha, hq⟩ := hq; exact hq.elim
  | goto l => obtain ⟨env', L', ha, hq⟩ := hq; exact hq.elim
  | panic c => obtain ⟨env', L', ha, hq⟩ := hq; exact hq.elim
  | outgrown => exact hq.elim

end Go.Proofs.YtgpbppkmmlclfaaDoor.HB
/- The same rules, one step each: what stands behind a step is kept as data, so that no step is told twice. -/
namespace Go.Proofs.YtgpbppkmmlclfaaDoor.HB
open Go

inductive Frame where
  | seq (y : Code)
  | blk (id : Nat)
  | lp (I : Nat → List AV → AHeap → Prop) (n : Nat)
  | op (ops : Array Oper) (i : Nat)
  | sc

def after (C : Cx) (Q : Exit → List AV → AHeap → Prop) : List Frame → Exit → List AV → AHeap → Prop
  | [], e, env, L => Q e env L
  | .seq y :: k, e, env, L => match e with
    | .normal => awp C y (after C Q k) env L
    | e => after C Q k e env L
  | .blk id :: k, e, env, L => Exit.inB id (after C Q k) e env L
  | .lp I n :: k, e, env, L => match e with
    | .normal => ∃ m env1 L1, m < n ∧ Weak env L env1 L1 ∧ I m env1 L1
    | e => after C Q k e env L
  | .sc :: k, e, env, L => match e with
    | .goto _ => False
    | e => after C Q k e env L
  | .op ops i :: k, e, env, L => match e with
    | .normal => lastOp C ops i (after C Q k .normal) env L
    | e => after C Q k e env L

structure Run (C : Cx) (Q : Exit → List AV → AHeap → Prop) (k : List Frame) (c : Code) (env : List AV) (L : AHeap) : Prop where
  ok : awp C c (after C Q k) env L
structure Cont (C : Cx) (Q : Exit → List AV → AHeap → Prop) (k : List Frame) (e : Exit) (env : List AV) (L : AHeap) : Prop where
  ok : after C Q k e env L
structure Ops (C : Cx) (Q : Exit → List AV → AHeap → Prop) (k : List Frame) (ops : Array Oper) (rest : List Oper) (env : List AV) (L : AHeap) : Prop where
  ok : awpOps C ops rest (after C Q k .normal) env L
structure Ord (C : Cx) (Q : Exit → List AV → AHeap → Prop) (k : List Frame) (q : Bool) (ops : Array Oper) (rest : List Nat) (env : List AV) (L : AHeap) : Prop where
  ok : awpOrd C q ops rest (after C Q k .normal) env L
structure OrdP (C : Cx) (Q : Exit → List AV → AHeap → Prop) (k : List Frame) (keys : List Nat) (ops : Array Oper) (rest : List Nat) (env : List AV) (L : AHeap) : Prop where
  ok : awpOrdP C keys ops rest (after C Q k .normal) env L

section
variable {C : Cx} {Q : Exit → List AV → AHeap → Prop} {k : List Frame} {env : List AV} {L : AHeap}

theorem Run.skip (h : Cont C Q k .normal env L) : Run C Q k .skip env L := ⟨h.ok⟩
theorem Run.exit {id : Nat} (h : Cont C Q k (.exit id) env L) : Run C Q k (.exit id) env L := ⟨h.ok⟩
theorem Run.ret (h : Cont C Q k .ret env L) : Run C Q k .ret env L := ⟨h.ok⟩
theorem Run.seq {x y : Code} (h : Run C Q (.seq y :: k) x env L) : Run C Q k (.seq x y) env L := by
  refine ⟨?_⟩
  have e : (fun (e : Exit) (env' : List AV) (L' : AHeap) => match e with
    | .normal => awp C y (after C Q k) env' L'
    | e => after C Q k e env' L') = after C Q (.seq y :: k) := by
    funext e env' L'
    cases e <;> rfl
  show awp C x (fun (e : Exit) (env' : List AV) (L' : AHeap) => match e with
    | .normal => awp C y (after C Q k) env' L'
    | e => after C Q k e env' L') env L
  rw [e]
  exact h.ok
theorem Run.blk {id : Nat} {b : Code} (h : Run C Q (.blk id :: k) b env L) : Run C Q k (.block id b) env L := by
  refine ⟨?_⟩
  have e : Exit.inB id (after C Q k) = after C Q (.blk id :: k) := rfl
  show awp C b (Exit.inB id (after C Q k)) env L
  rw [e]
  exact h.ok
theorem Run.cond {c : Operand} {x y : Code} (h : aevalK env c fun v => match v with
    | .bool true => Run C Q k x env L
    | .bool false => Run C Q k y env L
    | _ => False) : Run C Q k (.cond c x y) env L := by
  rw [aevalK_eq] at h
  refine ⟨?_⟩
  unfold awp
  split at h
  · rename_i e; first | exact h.ok | (rw [e]; exact h.ok)
  · rename_i e; first | exact h.ok | (rw [e]; exact h.ok)
  · exact h.elim
theorem Run.loopW {b : Code} (I : Nat → List AV → AHeap → Prop) (n : Nat) (env0 : List AV) (L0 : AHeap) (hw : Weak env L env0 L0) (hI : I n env0 L0)
    (h : ∀ n env L, I n env L → Run C Q (.lp I n :: k) b env L) : Run C Q k (.loop b) env L := by
  refine ⟨I, n, env0, L0, hw, hI, fun n env L hI => ?_⟩
  have e : (fun (e : Exit) (env' : List AV) (L' : AHeap) => match e with
    | .normal => ∃ m env1 L1, m < n ∧ Weak env' L' env1 L1 ∧ I m env1 L1
    | e => after C Q k e env' L') = after C Q (.lp I n :: k) := by
    funext e env' L'
    cases e <;> rfl
  have := (h n env L hI).ok
  rw [← e] at this
  exact this
theorem Run.loop {b : Code} (I : Nat → List AV → AHeap → Prop) (n : Nat) (env0 : List AV) (hw : wk env env0) (hI : I n env0 L)
    (h : ∀ n env L, I n env L → Run C Q (.lp I n :: k) b env L) : Run C Q k (.loop b) env L :=
  Run.loopW I n env0 L (Weak.wk' hw L) hI h
theorem Run.text {id : Nat} {ops : Array Oper} (h : Ops C Q k ops ops.toList env L) : Run C Q k (.region id ops false) env L := ⟨.inl h.ok⟩
theorem Run.sem0 {id : Nat} {ops : Array Oper} (h : SemC C (.region id ops false) (after C Q k) env L) : Run C Q k (.region id ops false) env L := ⟨.inr h⟩
theorem Run.sem1 {id : Nat} {ops : Array Oper} (h : SemC C (.region id ops true) (after C Q k) env L) : Run C Q k (.region id ops true) env L := ⟨.inr (.inr (.inr h))⟩
theorem Run.drawn {id : Nat} {ops : Array Oper} (q : Bool) (order : List Nat) (hc : (Region.noSelect ops && orderOk q ops order (Array.replicate ops.size false) && decide (order.length ≤ ops.size)) = true) (h : Ord C Q k q ops order env L) : Run C Q k (.region id ops true) env L :=
  ⟨.inl ⟨q, order, hc, h.ok⟩⟩
theorem Run.scope {c : Code} (h : Run C Q (.sc :: k) c env L) : Run C Q k (.scope c) env L := by
  refine ⟨?_⟩
  have e : (fun (e : Exit) (env' : List AV) (L' : AHeap) => match e with
    | .goto _ => False
    | e => after C Q k e env' L') = after C Q (.sc :: k) := by
    funext e env' L'
    cases e <;> rfl
  show awp C c (fun (e : Exit) (env' : List AV) (L' : AHeap) => match e with
    | .goto _ => False
    | e => after C Q k e env' L') env L
  rw [e]
  exact h.ok
theorem Run.label {l : Nat} (h : Cont C Q k .normal env L) : Run C Q k (.label l) env L := ⟨h.ok⟩
theorem Cont.sc (h : Cont C Q k .normal env L) : Cont C Q (.sc :: k) .normal env L := ⟨h.ok⟩
theorem Cont.nil {e : Exit} (h : Q e env L) : Cont C Q [] e env L := ⟨h⟩
theorem Cont.seq {y : Code} (h : Run C Q k y env L) : Cont C Q (.seq y :: k) .normal env L := ⟨h.ok⟩
theorem Cont.seq_ret {y : Code} (h : Cont C Q k .ret env L) : Cont C Q (.seq y :: k) .ret env L := ⟨h.ok⟩
theorem Cont.seq_exit {y : Code} {id : Nat} (h : Cont C Q k (.exit id) env L) : Cont C Q (.seq y :: k) (.exit id) env L := ⟨h.ok⟩
theorem Cont.blk {id : Nat} (h : Cont C Q k .normal env L) : Cont C Q (.blk id :: k) .normal env L := ⟨h.ok⟩
theorem Cont.blk_ret {id : Nat} (h : Cont C Q k .ret env L) : Cont C Q (.blk id :: k) .ret env L := ⟨h.ok⟩
theorem Cont.blk_exit {id id' : Nat} (h : match decide (id' = id) with
    | true => Cont C Q k .normal env L
    | false => Cont C Q k (.exit id') env L) : Cont C Q (.blk id :: k) (.exit id') env L := by
  refine ⟨?_⟩
  show if id' = id then after C Q k .normal env L else after C Q k (.exit id') env L
  by_cases e : id' = id
  · simp only [e, decide_true] at h
    rw [if_pos e]; exact h.ok
  · simp only [e, decide_false] at h
    rw [if_neg e]; exact h.ok
theorem Cont.lp {I : Nat → List AV → AHeap → Prop} {n : Nat} (h : ∃ m env1 k, m < n ∧ wk env env1 ∧ I m env1 (L.take k)) : Cont C Q (.lp I n :: k) .normal env L := by
  obtain ⟨m, env1, j, h1, h2, h3⟩ := h
  exact ⟨m, env1, L.take j, h1, Weak.wk h2 L j, h3⟩
theorem Cont.lpW {I : Nat → List AV → AHeap → Prop} {n : Nat} (h : ∃ m env1 L1, m < n ∧ Weak env L env1 L1 ∧ I m env1 L1) : Cont C Q (.lp I n :: k) .normal env L := ⟨h⟩
theorem Cont.lp_ret {I : Nat → List AV → AHeap → Prop} {n : Nat} (h : Cont C Q k .ret env L) : Cont C Q (.lp I n :: k) .ret env L := ⟨h.ok⟩
theorem Cont.lp_exit {I : Nat → List AV → AHeap → Prop} {n : Nat} {id : Nat} (h : Cont C Q k (.exit id) env L) : Cont C Q (.lp I n :: k) (.exit id) env L := ⟨h.ok⟩

theorem Cont.op {ops : Array Oper} {i : Nat} {o : Oper} (ho : ops[i]? = some o) (h : aoperG (aopF C) ops o env L fun env' L' => Cont C Q k .normal env' L') : Cont C Q (.op ops i :: k) .normal env L := by
  have e : (fun env' L' => Cont C Q k .normal env' L') = fun env' L' => after C Q k .normal env' L' := by
    funext env' L'
    exact propext ⟨fun h => h.ok, fun h => ⟨h⟩⟩
  rw [e] at h
  refine ⟨?_⟩
  show lastOp C ops i (after C Q k .normal) env L
  unfold lastOp
  rw [ho]
  exact h

theorem Ops.nil {ops : Array Oper} (h : Cont C Q k .normal env L) : Ops C Q k ops [] env L := ⟨h.ok⟩
theorem Ops.cons {ops : Array Oper} {o : Oper} {rest : List Oper} (h : aoperG (aopF C) ops o env L fun env' L' => Ops C Q k ops rest env' L') : Ops C Q k ops (o :: rest) env L := by
  have e : (fun env' L' => Ops C Q k ops rest env' L') = fun env' L' => awpOps C ops rest (after C Q k .normal) env' L' := by
    funext env' L'
    exact propext ⟨fun h => h.ok, fun h => ⟨h⟩⟩
  rw [e] at h
  exact ⟨h⟩
theorem OrdP.nil {keys : List Nat} {ops : Array Oper} (h : Cont C Q k .normal env L) : OrdP C Q k keys ops [] env L := ⟨h.ok⟩
theorem OrdP.cons {keys : List Nat} {ops : Array Oper} {i : Nat} {rest : List Nat} {o : Oper} (ho : ops[i]? = some o) (h : aoperG (aopP C keys) ops o env L fun env' L' => OrdP C Q k keys ops rest env' L') : OrdP C Q k keys ops (i :: rest) env L := by
  have e : (fun env' L' => OrdP C Q k keys ops rest env' L') = fun env' L' => awpOrdP C keys ops rest (after C Q k .normal) env' L' := by
    funext env' L'
    exact propext ⟨fun h => h.ok, fun h => ⟨h⟩⟩
  rw [e] at h
  refine ⟨?_⟩
  unfold awpOrdP
  rw [ho]
  exact h
theorem Ord.nil {q : Bool} {ops : Array Oper} (h : Cont C Q k .normal env L) : Ord C Q k q ops [] env L := ⟨h.ok⟩
theorem Ord.quiet {ops : Array Oper} {i : Nat} {rest : List Nat} {o : Oper} (ho : ops[i]? = some o) (h : aoperG (aopQF C) ops o env L fun env' L' => Ord C Q k true ops rest env' L') : Ord C Q k true ops (i :: rest) env L := by
  have e : (fun env' L' => Ord C Q k true ops rest env' L') = fun env' L' => awpOrd C true ops rest (after C Q k .normal) env' L' := by
    funext env' L'
    exact propext ⟨fun h => h.ok, fun h => ⟨h⟩⟩
  rw [e] at h
  refine ⟨?_⟩
  unfold awpOrd
  rw [ho]
  exact h
theorem Ord.loud {ops : Array Oper} {i : Nat} {rest : List Nat} {o : Oper} (ho : ops[i]? = some o) (h : aoperG (aopF C) ops o env L fun env' L' => Ord C Q k false ops rest env' L') : Ord C Q k false ops (i :: rest) env L := by
  have e : (fun env' L' => Ord C Q k false ops rest env' L') = fun env' L' => awpOrd C false ops rest (after C Q k .normal) env' L' := by
    funext env' L'
    exact propext ⟨fun h => h.ok, fun h => ⟨h⟩⟩
  rw [e] at h
  refine ⟨?_⟩
  unfold awpOrd
  rw [ho]
  exact h
end

/-! ### The same rules, gathered -/
section
variable {C : Cx} {Q : Exit → List AV → AHeap → Prop} {k : List Frame} {env : List AV} {L : AHeap}
def runB : Code → Bool
  | .seq .. | .region _ _ false | .cond .. | .block .. | .skip | .ret | .exit _ | .scope _ | .label _ => true
  | _ => false
def runNext (C : Cx) (Q : Exit → List AV → AHeap → Prop) (k : List Frame) : Code → List AV → AHeap → Prop
  | .seq x y, env, L => Run C Q (.seq y :: k) x env L
  | .region _ ops false, env, L => Ops C Q k ops ops.toList env L
  | .cond c x y, env, L => aevalK env c fun v => match v with
    | .bool true => Run C Q k x env L
    | .bool false => Run C Q k y env L
    | _ => False
  | .block id b, env, L => Run C Q (.blk id :: k) b env L
  | .skip, env, L => Cont C Q k .normal env L
  | .ret, env, L => Cont C Q k .ret env L
  | .exit id, env, L => Cont C Q k (.exit id) env L
  | .scope c, env, L => Run C Q (.sc :: k) c env L
  | .label _, env, L => Cont C Q k .normal env L
  | _, _, _ => False
theorem Run.go {c : Code} (_hb : runB c = true) (h : runNext C Q k c env L) : Run C Q k c env L := by
  unfold runNext at h
  split at h
  · exact Run.seq h
  · exact Run.text h
  · exact Run.cond h
  · exact Run.blk h
  · exact Run.skip h
  · exact Run.ret h
  · exact Run.exit h
  · exact Run.scope h
  · exact Run.label h
  · exact h.elim
def contB : List Frame → Exit → Bool
  | .lp .. :: _, .normal => false
  | _, _ => true
def contNext (C : Cx) (Q : Exit → List AV → AHeap → Prop) : List Frame → Exit → List AV → AHeap → Prop
  | [], e, env, L => Q e env L
  | .seq y :: k, .normal, env, L => Run C Q k y env L
  | .blk id :: k, .exit id', env, L => match decide (id' = id) with
    | true => Cont C Q k .normal env L
    | false => Cont C Q k (.exit id') env L
  | .lp .. :: _, .normal, _, _ => False
  | .sc :: _, .goto _, _, _ => False
  | .op ops i :: k, .normal, env, L => match ops[i]? with
    | some o => aoperG (aopF C) ops o env L fun env' L' => Cont C Q k .normal env' L'
    | none => False
  | _ :: k, e, env, L => Cont C Q k e env L
theorem Cont.go {e : Exit} (_hb : contB k e = true) (h : contNext C Q k e env L) : Cont C Q k e env L := by
  cases k with
  | nil => exact Cont.nil h
  | cons f k =>
    cases f with
    | seq y => cases e <;> first | exact Cont.seq h | exact ⟨(show Cont C Q k _ env L from h).ok⟩
    | blk id => cases e <;> first | exact ⟨(show Cont C Q k _ env L from h).ok⟩ | exact Cont.blk_exit h
    | lp I n => cases e <;> first | exact ⟨(show Cont C Q k _ env L from h).ok⟩ | exact False.elim h
    | sc => cases e <;> first | exact ⟨(show Cont C Q k _ env L from h).ok⟩ | exact False.elim h
    | op ops i =>
      cases e with
      | normal =>
        simp only [contNext] at h
        split at h
        · rename_i ho; exact Cont.op ho h
        · exact h.elim
      | _ => exact ⟨(show Cont C Q k _ env L from h).ok⟩
def opsNext (C : Cx) (Q : Exit → List AV → AHeap → Prop) (k : List Frame) (ops : Array Oper) : List Oper → List AV → AHeap → Prop
  | [], env, L => Cont C Q k .normal env L
  | o :: rest, env, L => aoperG (aopF C) ops o env L fun env' L' => Ops C Q k ops rest env' L'
theorem Ops.go {ops : Array Oper} {rest : List Oper} (h : opsNext C Q k ops rest env L) : Ops C Q k ops rest env L := by
  cases rest with
  | nil => exact Ops.nil h
  | cons o rest => exact Ops.cons h
def ordNext (C : Cx) (Q : Exit → List AV → AHeap → Prop) (k : List Frame) (ops : Array Oper) : Bool → List Nat → List AV → AHeap → Prop
  | _, [], env, L => Cont C Q k .normal env L
  | true, i :: rest, env, L => match ops[i]? with
    | some o => aoperG (aopQF C) ops o env L fun env' L' => Ord C Q k true ops rest env' L'
    | none => False
  | false, i :: rest, env, L => match ops[i]? with
    | some o => aoperG (aopF C) ops o env L fun env' L' => Ord C Q k false ops rest env' L'
    | none => False
theorem Ord.go {q : Bool} {ops : Array Oper} {rest : List Nat} (h : ordNext C Q k ops q rest env L) : Ord C Q k q ops rest env L := by
  cases rest with
  | nil => cases q <;> exact Ord.nil h
  | cons i rest =>
    cases q
    · simp only [ordNext] at h
      split at h
      · rename_i ho; exact Ord.loud ho h
      · exact h.elim
    · simp only [ordNext] at h
      split at h
      · rename_i ho; exact Ord.quiet ho h
      · exact h.elim
def ordPNext (C : Cx) (Q : Exit → List AV → AHeap → Prop) (k : List Frame) (keys : List Nat) (ops : Array Oper) : List Nat → List AV → AHeap → Prop
  | [], env, L => Cont C Q k .normal env L
  | i :: rest, env, L => match ops[i]? with
    | some o => aoperG (aopP C keys) ops o env L fun env' L' => OrdP C Q k keys ops rest env' L'
    | none => False
theorem OrdP.go {keys : List Nat} {ops : Array Oper} {rest : List Nat} (h : ordPNext C Q k keys ops rest env L) : OrdP C Q k keys ops rest env L := by
  cases rest with
  | nil => exact OrdP.nil h
  | cons i rest =>
    simp only [ordPNext] at h
    split at h
    · rename_i ho; exact OrdP.cons ho h
    · exact h.elim
end

theorem Lends.one {L : AHeap} {x x' : AV} (h : Lend L x x') : Lends L [x] [x'] := ⟨h, trivial⟩
theorem Lends.two {L : AHeap} {x x' y y' : AV} (h : Lend L x x') (k : Lend L y y') : Lends L [x, y] [x', y'] := ⟨h, k, trivial⟩
theorem Lends.three {L : AHeap} {x x' y y' z z' : AV} (h : Lend L x x') (k : Lend L y y') (l : Lend L z z') : Lends L [x, y, z] [x', y', z'] := ⟨h, k, l, trivial⟩
theorem Subs.one {x x' : AV} (h : HB.Sub x x') : Subs [x] [x'] := ⟨h, trivial⟩
theorem Subs.two {x x' y y' : AV} (h : HB.Sub x x') (k : HB.Sub y y') : Subs [x, y] [x', y'] := ⟨h, k, trivial⟩
theorem Subs.three {x x' y y' z z' : AV} (h : HB.Sub x x') (k : HB.Sub y y') (l : HB.Sub z z') : Subs [x, y, z] [x', y', z'] := ⟨h, k, l, trivial⟩
theorem FnSpec.start {C : Cx} (hC : C.Ok) {f : FuncId} {fn : Func} {c : Code} {args : List AV} {L : AHeap} {Q : AV → AHeap → Prop} {n : Nat} (hf : C.P.funcs[f]? = some fn) (hb : fn.body = some c) (hname : (fn.name == "runtime.NumGoroutine") = false) (hn : fn.ntmps = n)
    (h : force (args ++ List.replicate (n - args.length) .junk) fun env => Run C (apost C fn Q) [] c env L) : FnSpec C f args L Q := by
  rw [force_eq] at h
  refine FnSpec.intro hC hf hb hname hn ?_
  rw [force_eq]
  have e : after C (apost C fn Q) [] = apost C fn Q := rfl
  have := h.ok
  rw [e] at this
  exact this

abbrev Zl := @Ops.go
abbrev Zm := @Ord.go
abbrev Zn := @Run.go
abbrev Zo := @Cont.go
abbrev Zp := @OrdP.go
theorem Zy {a b : Prop} (h : a) (k : b) : a ∧ b := ⟨h, k⟩
theorem Z2 {a b : Nat} {q : Prop} (h : Nat.ble a b = true) (k : q) : a ≤ b ∧ q := ⟨Nat.le_of_ble_eq_true h, k⟩
theorem Z3 {n : Nat} {q : Prop} (k : q) : (0 : Int) ≤ (n : Int) ∧ q := ⟨Int.natCast_nonneg _, k⟩
theorem Sp {P Q : Prop} (k : Q) (f : Q → P := by intro h; (first|refine Zl ?_|refine Zy rfl ?_|refine Z2 rfl ?_|refine Z3 ?_|refine Zm ?_|refine Zn rfl ?_|refine Zo rfl ?_|refine Zp ?_); (repeat(first|refine Zl ?_|refine Zy rfl ?_|refine Z2 rfl ?_|refine Z3 ?_|refine Zm ?_|refine Zn rfl ?_|refine Zo rfl ?_|refine Zp ?_)); exact h) : P := f k
theorem Ss {P : Prop} (f : P := by repeat(first|exact trivial|refine Zy (Sub.junk _) ?_|refine Zy (Sub.refl _) ?_|refine Zy (Sub.sl _ _ _ _ _) ?_|refine Zy (Sub.ptr _ _ _ _) ?_)) : P := f
theorem Sl {P : Prop} (f : P := by repeat(first|exact trivial|refine Zy rfl ?_|refine Zy (SubO.refl _) ?_|refine Zy trivial ?_|refine Zy (SubO.cells (by repeat(first|exact trivial|refine Zy (Sub.refl _) ?_|refine Zy (Sub.sl _ _ _ _ _) ?_|refine Zy (Sub.ptr _ _ _ _) ?_))) ?_)) : P := f
end Go.Proofs.YtgpbppkmmlclfaaDoor.HB
/- What comes in: an argument's reading, as the abstract machine knows it. -/
namespace Go.Proofs.YtgpbppkmmlclfaaDoor.HB
open Go

def wrapC (agg : Bool) (c : List AV) : AV := if agg then .agg c else match c with
  | [x] => x
  | c => .agg c

inductive CellsOkZ (Z : Prop) (P : Program) : TypeId → List AV → Prop where
  | int {t : TypeId} {k : IntKind} (h : P.underlying t = some (.int k)) (n : Int) (hw : (Lit.int k n).wf = true) : CellsOkZ Z P t [.int k n]
  | bool {t : TypeId} (h : P.underlying t = some .bool) (b : Bool) : CellsOkZ Z P t [.bool b]
  | str {t : TypeId} (h : P.underlying t = some .string) (s : ByteArray) (hs : s.size ≤ maxLen) : CellsOkZ Z P t [.str s]
  | struct {t : TypeId} {fs : Array Field} (h : P.underlying t = some (.struct fs)) (yss : List (List AV)) (hl : yss.length = fs.toList.length)
      (hf : ∀ (i : Nat) (f : Field) (y : List AV), fs.toList[i]? = some f → yss[i]? = some y → CellsOkZ Z P f.type y) : CellsOkZ Z P t yss.flatten
  | slice {t e : TypeId} (h : P.underlying t = some (.slice e)) (xss : List (List AV)) (n : Nat) (hn : n ≤ xss.length) (hm : xss.length ≤ maxLen) (hz : Z → xss.length * P.bytesOf e ≤ reachBytes) (hx : ∀ c ∈ xss, CellsOkZ Z P e c) : CellsOkZ Z P t [.ro (P.cellsOf e) (xss.map (wrapC (aggT P e))) n]
def tiles (P : Program) : List Field → Nat → Nat → Bool
  | [], off, n => off == n
  | f :: fs, off, n => f.offset == off && tiles P fs (off + P.cellsOf f.type) n
def suppT (P : Program) : Nat → TypeId → Bool
  | 0, _ => false
  | d + 1, t => match P.underlying t with
    | some (.int _) | some .bool | some .string => true
    | some (.struct fs) => fs.toList.all (fun f => suppT P d f.type) && tiles P fs.toList 0 (P.cellsOf t)
    | some (.slice e) => suppT P d e && decide (0 < P.cellsOf e)
    | _ => false

theorem wrapC_flat (agg : Bool) (c : List AV) (h : ∀ x ∈ c, ∀ xs, x ≠ .agg xs) : flat (wrapC agg c) = c := by
  unfold wrapC
  split
  · rfl
  · split
    · rename_i x
      have := h x (by simp)
      cases x <;> first | rfl | exact absurd rfl (this _)
    · rfl

def flatC (c : List AV) : Prop := ∀ x ∈ c, ∀ xs, x ≠ AV.agg xs

theorem flatC_nil : flatC [] := by intro x hx; cases hx
theorem flatC_append {a b : List AV} (h : flatC a) (k : flatC b) : flatC (a ++ b) := fun x hx => (List.mem_append.1 hx).elim (h x) (k x)

theorem fits_each {H : Type} {P : Program} {ts : List TypeId} {ds : List (DataW H)} {j : Nat} {t : TypeId} {d : DataW H} (h : (DataW.weightsEach P ts ds).all (· ≤ reachBytes) = true) (ht : ts[j]? = some t) (hd : ds[j]? = some d) : (d.weights P t).all (· ≤ reachBytes) = true :=
  List.all_eq_true.2 fun n hn => List.all_eq_true.1 h n (DataW.weights_mem_each ht hd n hn)
theorem fits_all {H : Type} {P : Program} {e : TypeId} {d : DataW H} : ∀ {ds : List (DataW H)}, (DataW.weightsAll P e ds).all (· ≤ reachBytes) = true → d ∈ ds → (d.weights P e).all (· ≤ reachBytes) = true
  | d0 :: ds, h, hd => by
    simp only [DataW.weightsAll, List.all_append, Bool.and_eq_true] at h
    rcases List.mem_cons.1 hd with rfl | hd
    · exact h.1
    · exact fits_all h.2 hd
  | [], _, hd => by cases hd
theorem trod_fields {Z : Prop} {H : Type} {enc : TypeId × Value → H} {P : Program} {w : World} {spare : Nat → Bool} {held : Bool} {d fuel : Nat} {cs : List Value} {n : Nat} {imm : Nat → Prop}
    (ih : ∀ (t : TypeId) (cs : List Value) (x : DataW H × List MemPlace), suppT P d t = true → DataW.trod enc P w 0 spare held fuel t cs = some x → (Z → (x.1.weights P t).all (· ≤ reachBytes) = true) → ∃ ys, CellsOkZ Z P t ys ∧ flatC ys ∧ VRs imm w ys cs) (hn : cs.length = n) :
    ∀ (l : List Field) (off : Nat), tiles P l off n = true → l.all (fun f => suppT P d f.type) = true → (∀ (i : Nat) (f : Field), l[i]? = some f → ∃ x, DataW.trod enc P w 0 spare held fuel f.type ((cs.drop f.offset).take (P.cellsOf f.type)) = some x ∧ (Z → (x.1.weights P f.type).all (· ≤ reachBytes) = true)) →
    ∃ yss : List (List AV), yss.length = l.length ∧ (∀ (i : Nat) (f : Field) (y : List AV), l[i]? = some f → yss[i]? = some y → CellsOkZ Z P f.type y) ∧ flatC yss.flatten ∧ VRs imm w yss.flatten (cs.drop off) := by
  intro l
  induction l with
  | nil =>
    intro off ht _ _
    simp only [tiles, beq_iff_eq] at ht
    refine ⟨[], rfl, by simp, flatC_nil, ?_⟩
    rw [List.drop_of_length_le (by omega)]
    exact .nil _ _
  | cons f l ihl =>
    intro off ht hs hx
    simp only [tiles, Bool.and_eq_true, beq_iff_eq] at ht
    simp only [List.all_cons, Bool.and_eq_true] at hs
    obtain ⟨hoff, ht⟩ := ht
    obtain ⟨x, hx0, hw0⟩ := hx 0 f rfl
    obtain ⟨ys, h1, h2, h3⟩ := ih f.type _ x hs.1 hx0 hw0
    obtain ⟨yss, k1, k2, k3, k4⟩ := ihl _ ht hs.2 (fun i f' hf => hx (i + 1) f' hf)
    refine ⟨ys :: yss, by simp [k1], fun i f' y hf hy => ?_, ?_, ?_⟩
    · cases i with
      | zero => simp at hf hy; subst hf; subst hy; exact h1
      | succ i => exact k2 i f' y (by simpa using hf) (by simpa using hy)
    · rw [List.flatten_cons]; exact flatC_append h2 k3
    · rw [List.flatten_cons]
      have e : cs.drop off = (cs.drop f.offset).take (P.cellsOf f.type) ++ cs.drop (off + P.cellsOf f.type) := by
        rw [hoff, ← List.drop_drop, List.take_append_drop]
      rw [e]
      exact h3.append k4

theorem trod_cellsZ {Z : Prop} {H : Type} {enc : TypeId × Value → H} {P : Program} {w : World} {spare : Nat → Bool} {held : Bool} (hsp : ∀ b, spare b = true) : ∀ (d : Nat) (fuel : Nat) (t : TypeId) (cs : List Value) (x : DataW H × List MemPlace), suppT P d t = true → DataW.trod enc P w 0 spare held fuel t cs = some x → (Z → (x.1.weights P t).all (· ≤ reachBytes) = true) →
    ∃ ys, CellsOkZ Z P t ys ∧ flatC ys ∧ VRs (fun g => g < w.heap.size) w ys cs := by
  intro d
  induction d with
  | zero => intro _ t cs x h; cases h
  | succ d ih =>
    intro fuel t cs x hs h hw
    unfold suppT at hs
    split at hs
    · rename_i k hu
      obtain ⟨n, rfl, _, hwf⟩ := DataW.trod_int hu h
      exact ⟨_, .int hu n hwf, by intro x hx xs; simp at hx; subst hx; simp, .cons rfl (.int k n) (.nil _ _)⟩
    · rename_i hu
      obtain ⟨b, rfl, _⟩ := DataW.trod_bool hu h
      exact ⟨_, .bool hu b, by intro x hx xs; simp at hx; subst hx; simp, .cons rfl (.bool b) (.nil _ _)⟩
    · rename_i hu
      obtain ⟨s, rfl, _, hl⟩ := DataW.trod_string hu h
      exact ⟨_, .str hu s hl, by intro x hx xs; simp at hx; subst hx; simp, .cons rfl (.str s) (.nil _ _)⟩
    · rename_i fs hu
      simp only [Bool.and_eq_true] at hs
      obtain ⟨xs, n, rfl, rfl, hlen, hxl, hx⟩ := DataW.trod_struct hu h
      obtain ⟨yss, k1, k2, k3, k4⟩ := trod_fields (ih n) hlen fs.toList 0 hs.2 hs.1 (fun i f hf => by
        have hlt : i < xs.length := by rw [hxl]; simpa using (List.getElem?_eq_some_iff.1 hf).1
        refine ⟨xs[i], by rw [hx i f (by simpa using hf)]; exact List.getElem?_eq_getElem hlt, fun z => ?_⟩
        have h1 := hw z
        simp only [DataW.weights, hu] at h1
        exact fits_each (j := i) h1 (by rw [List.getElem?_map, hf]; rfl) (by rw [List.getElem?_map, List.getElem?_eq_getElem hlt]; rfl))
      exact ⟨_, .struct hu yss k1 k2, k3, by simpa using k4⟩
    · rename_i e hu
      simp only [Bool.and_eq_true, decide_eq_true_eq] at hs
      rcases Deep.open_slice hu h with ⟨rfl, _⟩ | ⟨a, len, cap, m, n, D, Pl, rfl, _, hlc, hcm, hm, rfl, hel⟩
      · refine ⟨[.ro (P.cellsOf e) [] 0], .slice hu [] 0 (Nat.le_refl _) (Nat.zero_le _) (fun _ => by simp) (by simp), by intro x hx xs; simp at hx; subst hx; simp, .cons rfl ?_ (.nil _ _)⟩
        exact .ro (P.cellsOf e) [] 0 none 0 [] (by simp) (by simp) (by simp) rfl (by simp) (by simp) (by simp)
      · rw [hsp, if_pos rfl] at hm
        subst hm
        have hz : Z → m * P.bytesOf e ≤ reachBytes ∧ ∀ i, i < m → ((D i).weights P e).all (· ≤ reachBytes) = true := fun z => by
          have h1 := hw z
          simp only [DataW.weights, hu, List.all_cons, List.all_append, Bool.and_eq_true, List.length_map, List.length_range, decide_eq_true_eq] at h1
          obtain ⟨h1, h2, h3⟩ := h1
          refine ⟨by rwa [show len + (m - len) = m by omega] at h1, fun i hi => ?_⟩
          by_cases hil : i < len
          · exact fits_all h2 (List.mem_map.2 ⟨i, List.mem_range.2 hil, rfl⟩)
          · exact fits_all h3 (List.mem_map.2 ⟨i - len, List.mem_range.2 (by omega), by rw [show len + (i - len) = i by omega]⟩)
        have hch : ∀ i : Nat, ∃ z : List Value × List AV, i < m → w.cells? 0 (a.add (i * P.cellsOf e)) (P.cellsOf e) = some z.1 ∧ CellsOkZ Z P e z.2 ∧ flatC z.2 ∧ VRs (fun g => g < w.heap.size) w z.2 z.1 := fun i => by
          by_cases hi : i < m
          · obtain ⟨cs', h1, h2⟩ := hel i hi
            obtain ⟨ys, k1, k2, k3⟩ := ih n e cs' _ hs.1 h2 (fun z => (hz z).2 i hi)
            exact ⟨(cs', ys), fun _ => ⟨h1, k1, k2, k3⟩⟩
          · exact ⟨([], []), fun h => absurd h hi⟩
        obtain ⟨F, hF⟩ := Classical.axiomOfChoice hch
        have hlen : ∀ i, i < m → (F i).1.length = P.cellsOf e := fun i hi => (World.cells?_some (hF i hi).1).2.1
        have key : ∀ k, k ≤ m → (((List.range k).map fun i => (F i).1).flatten).length = k * P.cellsOf e ∧ VRs (fun g => g < w.heap.size) w (((List.range k).map fun i => (F i).2).flatten) (((List.range k).map fun i => (F i).1).flatten) ∧
            ∀ (j : Nat) (u : Value), (((List.range k).map fun i => (F i).1).flatten)[j]? = some u → w.cell? (a.add j) = some u := by
          intro k
          induction k with
          | zero => intro _; exact ⟨by simp, .nil _ _, by simp⟩
          | succ k ihk =>
            intro hk
            obtain ⟨l1, l2, l3⟩ := ihk (by omega)
            rw [List.range_succ, List.map_append, List.map_append, List.flatten_append, List.flatten_append]
            simp only [List.map_cons, List.map_nil, List.flatten_cons, List.flatten_nil, List.append_nil]
            refine ⟨by rw [List.length_append, l1, hlen k (by omega), Nat.succ_mul], l2.append (hF k (by omega)).2.2.2, fun j u hj => ?_⟩
            by_cases hjl : j < k * P.cellsOf e
            · rw [List.getElem?_append_left (by omega)] at hj
              exact l3 j u hj
            · rw [List.getElem?_append_right (by omega), l1] at hj
              have hj' : j - k * P.cellsOf e < P.cellsOf e := by
                have := (List.getElem?_eq_some_iff.1 hj).1
                rw [hlen k (by omega)] at this
                exact this
              have := (World.cells?_some (hF k (by omega)).1).2.2 _ hj'
              rw [Addr.add_add, show k * P.cellsOf e + (j - k * P.cellsOf e) = j by omega] at this
              rw [this]
              exact hj
        obtain ⟨l1, l2, l3⟩ := key m (Nat.le_refl _)
        have hflats : flats (((List.range m).map fun i => (F i).2).map (wrapC (aggT P e))) = ((List.range m).map fun i => (F i).2).flatten := by
          unfold flats
          rw [List.flatMap_def, List.map_map]
          congr 1
          conv => rhs; rw [← List.map_id (((List.range m).map fun i => (F i).2))]
          refine List.map_congr_left fun c hc => ?_
          simp only [List.mem_map, List.mem_range] at hc
          obtain ⟨i, hi, rfl⟩ := hc
          exact wrapC_flat _ _ (hF i hi).2.2.1
        refine ⟨[.ro (P.cellsOf e) (((List.range m).map fun i => (F i).2).map (wrapC (aggT P e))) len], .slice hu _ len (by simpa using hlc) (by simpa using hcm) (fun z => by simpa using (hz z).1) (fun c hc => ?_), by intro x hx xs; simp at hx; subst hx; simp, .cons rfl ?_ (.nil _ _)⟩
        · simp only [List.mem_map, List.mem_range] at hc
          obtain ⟨i, hi, rfl⟩ := hc
          exact (hF i hi).2.1
        · refine .ro _ _ len (some a) m (((List.range m).map fun i => (F i).1).flatten) (by simpa using hlc) (by simp) (fun x hx => ?_) (by rw [hflats]; exact l2.len) (fun hpos => ⟨a, rfl, ?_, l3⟩) l2.one (by rw [hflats]; exact l2.at_)
          · simp only [List.mem_map, List.mem_range] at hx
            obtain ⟨c, ⟨i, hi, rfl⟩, rfl⟩ := hx
            rw [wrapC_flat _ _ (hF i hi).2.2.1, ← (hF i hi).2.2.2.len, hlen i hi]
          · have hm0 : 0 < m := by simpa using hpos
            have := World.cells?_block (hF 0 hm0).1 hs.2
            rwa [show (a.add (0 * P.cellsOf e)).block = a.block by unfold Addr.add; split <;> rfl] at this
    · cases hs

/-! ### Back from a reading -/
theorem CellsOkZ.int_inv {Z : Prop} {P : Program} {t : TypeId} {k : IntKind} (hu : P.underlying t = some (.int k)) {ys : List AV} (h : CellsOkZ Z P t ys) : ∃ n, (Lit.int k n).wf = true ∧ ys = [.int k n] := by
  cases h with
  | int h n hw => rw [hu] at h; cases h; exact ⟨n, hw, rfl⟩
  | bool h b => rw [hu] at h; cases h
  | str h s hs => rw [hu] at h; cases h
  | struct h yss hl hf => rw [hu] at h; cases h
  | slice h xss n hn hm hz hx => rw [hu] at h; cases h
theorem CellsOkZ.bool_inv {Z : Prop} {P : Program} {t : TypeId} (hu : P.underlying t = some .bool) {ys : List AV} (h : CellsOkZ Z P t ys) : ∃ b, ys = [.bool b] := by
  cases h with
  | int h n hw => rw [hu] at h; cases h
  | bool h b => exact ⟨b, rfl⟩
  | str h s hs => rw [hu] at h; cases h
  | struct h yss hl hf => rw [hu] at h; cases h
  | slice h xss n hn hm hz hx => rw [hu] at h; cases h
theorem CellsOkZ.str_inv {Z : Prop} {P : Program} {t : TypeId} (hu : P.underlying t = some .string) {ys : List AV} (h : CellsOkZ Z P t ys) : ∃ s, s.size ≤ maxLen ∧ ys = [.str s] := by
  cases h with
  | int h n hw => rw [hu] at h; cases h
  | bool h b => rw [hu] at h; cases h
  | str h s hs => exact ⟨s, hs, rfl⟩
  | struct h yss hl hf => rw [hu] at h; cases h
  | slice h xss n hn hm hz hx => rw [hu] at h; cases h
theorem CellsOkZ.slice_inv {Z : Prop} {P : Program} {t e : TypeId} (hu : P.underlying t = some (.slice e)) {ys : List AV} (h : CellsOkZ Z P t ys) :
    ∃ (xss : List (List AV)) (n : Nat), n ≤ xss.length ∧ xss.length ≤ maxLen ∧ (∀ c ∈ xss, CellsOkZ Z P e c) ∧ ys = [.ro (P.cellsOf e) (xss.map (wrapC (aggT P e))) n] := by
  cases h with
  | int h n hw => rw [hu] at h; cases h
  | bool h b => rw [hu] at h; cases h
  | str h s hs => rw [hu] at h; cases h
  | struct h yss hl hf => rw [hu] at h; cases h
  | slice h xss n hn hm hz hx => rw [hu] at h; cases h; exact ⟨xss, n, hn, hm, hx, rfl⟩
def FieldsOkZ (Z : Prop) (P : Program) : List Field → List (List AV) → Prop
  | [], [] => True
  | f :: fs, y :: ys => CellsOkZ Z P f.type y ∧ FieldsOkZ Z P fs ys
  | _, _ => False
theorem CellsOkZ.struct_inv {Z : Prop} {P : Program} {t : TypeId} {fs : Array Field} (hu : P.underlying t = some (.struct fs)) {ys : List AV} (h : CellsOkZ Z P t ys) : ∃ yss, FieldsOkZ Z P fs.toList yss ∧ ys = yss.flatten := by
  cases h with
  | int h n hw => rw [hu] at h; cases h
  | bool h b => rw [hu] at h; cases h
  | str h s hs => rw [hu] at h; cases h
  | slice h xss n hn hm hz hx => rw [hu] at h; cases h
  | struct h yss hl hf =>
    rw [hu] at h; cases h
    refine ⟨yss, ?_, rfl⟩
    generalize fs.toList = l at hl hf
    induction l generalizing yss with
    | nil => cases yss with
      | nil => trivial
      | cons => cases hl
    | cons f l ih => cases yss with
      | nil => cases hl
      | cons y yss => exact ⟨hf 0 f y rfl rfl, ih yss (by simpa using hl) (fun i f' y' h1 h2 => hf (i + 1) f' y' (by simpa using h1) (by simpa using h2))⟩
theorem FieldsOkZ.cons_inv {Z : Prop} {P : Program} {f : Field} {fs : List Field} {yss : List (List AV)} (h : FieldsOkZ Z P (f :: fs) yss) : ∃ y ys, yss = y :: ys ∧ CellsOkZ Z P f.type y ∧ FieldsOkZ Z P fs ys := by
  cases yss with
  | nil => exact h.elim
  | cons y ys => exact ⟨y, ys, rfl, h.1, h.2⟩
theorem FieldsOkZ.nil_inv {Z : Prop} {P : Program} {yss : List (List AV)} (h : FieldsOkZ Z P [] yss) : yss = [] := by
  cases yss with
  | nil => rfl
  | cons => exact h.elim
theorem map_told {α β γ : Type} {f : α → γ} {g : β → γ} : ∀ {xs : List α}, (∀ c ∈ xs, ∃ s, f c = g s) → ∃ l : List β, l.length = xs.length ∧ xs.map f = l.map g
  | [], _ => ⟨[], rfl, rfl⟩
  | x :: xs, h => by
    obtain ⟨s, hs⟩ := h x (by simp)
    obtain ⟨l, hl, hm⟩ := map_told (fun c hc => h c (List.mem_cons_of_mem _ hc))
    exact ⟨s :: l, by simp [hl], by simp [hs, hm]⟩

end Go.Proofs.YtgpbppkmmlclfaaDoor.HB
