/- The same rules, one step each: what stands behind a step is kept as data, so that no step is told twice. -/
import Derived.Test.YtfohedaadncefaaDoorHbM
namespace Go.Proofs.YtfohedaadncefaaDoor.HB
open Go

/-- What waits behind code. -/
inductive Frame where
  | seq (y : Code)
  | blk (id : Nat)
  | lp (I : Nat → List AV → AHeap → Prop) (n : Nat)
  | op (ops : Array Oper) (i : Nat)
  | sc

def after (C : Cx) (Q : Exit → List AV → AHeap → Prop) : List Frame → Exit → List AV → AHeap → Prop
  | [], e, env, L => Q e env L
  | .seq y :: k, e, env, L => match e with
    | .normal => awp C y (after C Q k) env L
    | e => after C Q k e env L
  | .blk id :: k, e, env, L => Exit.inB id (after C Q k) e env L
  | .lp I n :: k, e, env, L => match e with
    | .normal => ∃ m env1 L1, m < n ∧ Weak env L env1 L1 ∧ I m env1 L1
    | e => after C Q k e env L
  | .sc :: k, e, env, L => match e with
    | .goto _ => False
    | e => after C Q k e env L
  | .op ops i :: k, e, env, L => match e with
    | .normal => lastOp C ops i (after C Q k .normal) env L
    | e => after C Q k e env L

/-- Code that is to run. -/
structure Run (C : Cx) (Q : Exit → List AV → AHeap → Prop) (k : List Frame) (c : Code) (env : List AV) (L : AHeap) : Prop where
  ok : awp C c (after C Q k) env L
/-- Code that has ended. -/
structure Cont (C : Cx) (Q : Exit → List AV → AHeap → Prop) (k : List Frame) (e : Exit) (env : List AV) (L : AHeap) : Prop where
  ok : after C Q k e env L
/-- The rest of a region. -/
structure Ops (C : Cx) (Q : Exit → List AV → AHeap → Prop) (k : List Frame) (ops : Array Oper) (rest : List Oper) (env : List AV) (L : AHeap) : Prop where
  ok : awpOps C ops rest (after C Q k .normal) env L
/-- The rest of a region that draws its order. -/
structure Ord (C : Cx) (Q : Exit → List AV → AHeap → Prop) (k : List Frame) (q : Bool) (ops : Array Oper) (rest : List Nat) (env : List AV) (L : AHeap) : Prop where
  ok : awpOrd C q ops rest (after C Q k .normal) env L
structure OrdP (C : Cx) (Q : Exit → List AV → AHeap → Prop) (k : List Frame) (keys : List Nat) (ops : Array Oper) (rest : List Nat) (env : List AV) (L : AHeap) : Prop where
  ok : awpOrdP C keys ops rest (after C Q k .normal) env L

section
variable {C : Cx} {Q : Exit → List AV → AHeap → Prop} {k : List Frame} {env : List AV} {L : AHeap}

theorem Run.skip (h : Cont C Q k .normal env L) : Run C Q k .skip env L := ⟨h.ok⟩
theorem Run.exit {id : Nat} (h : Cont C Q k (.exit id) env L) : Run C Q k (.exit id) env L := ⟨h.ok⟩
theorem Run.ret (h : Cont C Q k .ret env L) : Run C Q k .ret env L := ⟨h.ok⟩
theorem Run.seq {x y : Code} (h : Run C Q (.seq y :: k) x env L) : Run C Q k (.seq x y) env L := by
  refine ⟨?_⟩
  have e : (fun (e : Exit) (env' : List AV) (L' : AHeap) => match e with
    | .normal => awp C y (after C Q k) env' L'
    | e => after C Q k e env' L') = after C Q (.seq y :: k) := by
    funext e env' L'
    cases e <;> rfl
  show awp C x (fun (e : Exit) (env' : List AV) (L' : AHeap) => match e with
    | .normal => awp C y (after C Q k) env' L'
    | e => after C Q k e env' L') env L
  rw [e]
  exact h.ok
theorem Run.blk {id : Nat} {b : Code} (h : Run C Q (.blk id :: k) b env L) : Run C Q k (.block id b) env L := by
  refine ⟨?_⟩
  have e : Exit.inB id (after C Q k) = after C Q (.blk id :: k) := rfl
  show awp C b (Exit.inB id (after C Q k)) env L
  rw [e]
  exact h.ok
theorem Run.cond {c : Operand} {x y : Code} (h : aevalK env c fun v => match v with
    | .bool true => Run C Q k x env L
    | .bool false => Run C Q k y env L
    | _ => False) : Run C Q k (.cond c x y) env L := by
  rw [aevalK_eq] at h
  refine ⟨?_⟩
  unfold awp
  split at h
  · rename_i e; rw [e]; exact h.ok
  · rename_i e; rw [e]; exact h.ok
  · exact h.elim
/-- A loop; what is said ahead of it may be said otherwise. -/
theorem Run.loopW {b : Code} (I : Nat → List AV → AHeap → Prop) (n : Nat) (env0 : List AV) (L0 : AHeap) (hw : Weak env L env0 L0) (hI : I n env0 L0)
    (h : ∀ n env L, I n env L → Run C Q (.lp I n :: k) b env L) : Run C Q k (.loop b) env L := by
  refine ⟨I, n, env0, L0, hw, hI, fun n env L hI => ?_⟩
  have e : (fun (e : Exit) (env' : List AV) (L' : AHeap) => match e with
    | .normal => ∃ m env1 L1, m < n ∧ Weak env' L' env1 L1 ∧ I m env1 L1
    | e => after C Q k e env' L') = after C Q (.lp I n :: k) := by
    funext e env' L'
    cases e <;> rfl
  have := (h n env L hI).ok
  rw [← e] at this
  exact this
theorem Run.loop {b : Code} (I : Nat → List AV → AHeap → Prop) (n : Nat) (env0 : List AV) (hw : wk env env0) (hI : I n env0 L)
    (h : ∀ n env L, I n env L → Run C Q (.lp I n :: k) b env L) : Run C Q k (.loop b) env L :=
  Run.loopW I n env0 L (Weak.wk' hw L) hI h
theorem Run.text {id : Nat} {ops : Array Oper} (h : Ops C Q k ops ops.toList env L) : Run C Q k (.region id ops false) env L := ⟨h.ok⟩
theorem Run.drawn {id : Nat} {ops : Array Oper} (q : Bool) (order : List Nat) (hc : (Region.noSelect ops && orderOk q ops order (Array.replicate ops.size false) && decide (order.length ≤ ops.size)) = true) (h : Ord C Q k q ops order env L) : Run C Q k (.region id ops true) env L :=
  ⟨.inl ⟨q, order, hc, h.ok⟩⟩
theorem after_ops {C : Cx} {Q : Exit → List AV → AHeap → Prop} {k : List Frame} (ops : Array Oper) : ∀ ks : List Nat, after C Q (ks.map (Frame.op ops) ++ k) .normal = lastOps C ops ks (after C Q k .normal)
  | [] => rfl
  | i :: ks => by
    funext env L
    show lastOp C ops i (after C Q (ks.map (Frame.op ops) ++ k) .normal) env L = _
    rw [after_ops ops ks]
    rfl
/-- A region that draws its order and ends in writes ('ks'). -/
theorem Run.drawnW {id : Nat} {ops : Array Oper} (ks : List Nat) (order : List Nat) (hc : (Region.noSelect ops && orderOkT ops ks order (Array.replicate ops.size false) && decide (order.length + ks.length ≤ ops.size)) = true) (h : Ord C Q (ks.map (Frame.op ops) ++ k) true ops order env L) : Run C Q k (.region id ops true) env L := by
  refine ⟨.inr (.inl ⟨ks, order, hc, ?_⟩)⟩
  have := h.ok
  rw [after_ops] at this
  exact this
/-- A region that draws its order and holds calls that write; what is loaded is kept. -/
theorem Run.drawnP {id : Nat} {ops : Array Oper} (keys : List Nat) (order : List Nat) (hc : (Region.noSelect ops && orderOk true ops order (Array.replicate ops.size false) && decide (order.length ≤ ops.size)) = true) (h : OrdP C Q k keys ops order env L) : Run C Q k (.region id ops true) env L :=
  ⟨.inr (.inr ⟨keys, order, hc, h.ok⟩)⟩

theorem Run.scope {c : Code} (h : Run C Q (.sc :: k) c env L) : Run C Q k (.scope c) env L := by
  refine ⟨?_⟩
  have e : (fun (e : Exit) (env' : List AV) (L' : AHeap) => match e with
    | .goto _ => False
    | e => after C Q k e env' L') = after C Q (.sc :: k) := by
    funext e env' L'
    cases e <;> rfl
  show awp C c (fun (e : Exit) (env' : List AV) (L' : AHeap) => match e with
    | .goto _ => False
    | e => after C Q k e env' L') env L
  rw [e]
  exact h.ok
theorem Run.label {l : Nat} (h : Cont C Q k .normal env L) : Run C Q k (.label l) env L := ⟨h.ok⟩
theorem Cont.sc (h : Cont C Q k .normal env L) : Cont C Q (.sc :: k) .normal env L := ⟨h.ok⟩
theorem Cont.sc_ret (h : Cont C Q k .ret env L) : Cont C Q (.sc :: k) .ret env L := ⟨h.ok⟩
theorem Cont.sc_exit {id : Nat} (h : Cont C Q k (.exit id) env L) : Cont C Q (.sc :: k) (.exit id) env L := ⟨h.ok⟩
theorem Cont.nil {e : Exit} (h : Q e env L) : Cont C Q [] e env L := ⟨h⟩
theorem Cont.seq {y : Code} (h : Run C Q k y env L) : Cont C Q (.seq y :: k) .normal env L := ⟨h.ok⟩
theorem Cont.seq_ret {y : Code} (h : Cont C Q k .ret env L) : Cont C Q (.seq y :: k) .ret env L := ⟨h.ok⟩
theorem Cont.seq_exit {y : Code} {id : Nat} (h : Cont C Q k (.exit id) env L) : Cont C Q (.seq y :: k) (.exit id) env L := ⟨h.ok⟩
theorem Cont.blk {id : Nat} (h : Cont C Q k .normal env L) : Cont C Q (.blk id :: k) .normal env L := ⟨h.ok⟩
theorem Cont.blk_ret {id : Nat} (h : Cont C Q k .ret env L) : Cont C Q (.blk id :: k) .ret env L := ⟨h.ok⟩
theorem Cont.blk_exit {id id' : Nat} (h : match decide (id' = id) with
    | true => Cont C Q k .normal env L
    | false => Cont C Q k (.exit id') env L) : Cont C Q (.blk id :: k) (.exit id') env L := by
  refine ⟨?_⟩
  show if id' = id then after C Q k .normal env L else after C Q k (.exit id') env L
  by_cases e : id' = id
  · simp only [e, decide_true] at h
    rw [if_pos e]; exact h.ok
  · simp only [e, decide_false] at h
    rw [if_neg e]; exact h.ok
theorem Cont.lp {I : Nat → List AV → AHeap → Prop} {n : Nat} (h : ∃ m env1 k, m < n ∧ wk env env1 ∧ I m env1 (L.take k)) : Cont C Q (.lp I n :: k) .normal env L := by
  obtain ⟨m, env1, j, h1, h2, h3⟩ := h
  exact ⟨m, env1, L.take j, h1, Weak.wk h2 L j, h3⟩
theorem Cont.lpW {I : Nat → List AV → AHeap → Prop} {n : Nat} (h : ∃ m env1 L1, m < n ∧ Weak env L env1 L1 ∧ I m env1 L1) : Cont C Q (.lp I n :: k) .normal env L := ⟨h⟩
theorem Cont.lp_ret {I : Nat → List AV → AHeap → Prop} {n : Nat} (h : Cont C Q k .ret env L) : Cont C Q (.lp I n :: k) .ret env L := ⟨h.ok⟩
theorem Cont.lp_exit {I : Nat → List AV → AHeap → Prop} {n : Nat} {id : Nat} (h : Cont C Q k (.exit id) env L) : Cont C Q (.lp I n :: k) (.exit id) env L := ⟨h.ok⟩

theorem Cont.op {ops : Array Oper} {i : Nat} {o : Oper} (ho : ops[i]? = some o) (h : aoperG (aopF C) ops o env L fun env' L' => Cont C Q k .normal env' L') : Cont C Q (.op ops i :: k) .normal env L := by
  have e : (fun env' L' => Cont C Q k .normal env' L') = fun env' L' => after C Q k .normal env' L' := by
    funext env' L'
    exact propext ⟨fun h => h.ok, fun h => ⟨h⟩⟩
  rw [e] at h
  refine ⟨?_⟩
  show lastOp C ops i (after C Q k .normal) env L
  unfold lastOp
  rw [ho]
  exact h

theorem Ops.nil {ops : Array Oper} (h : Cont C Q k .normal env L) : Ops C Q k ops [] env L := ⟨h.ok⟩
theorem Ops.cons {ops : Array Oper} {o : Oper} {rest : List Oper} (h : aoperG (aopF C) ops o env L fun env' L' => Ops C Q k ops rest env' L') : Ops C Q k ops (o :: rest) env L := by
  have e : (fun env' L' => Ops C Q k ops rest env' L') = fun env' L' => awpOps C ops rest (after C Q k .normal) env' L' := by
    funext env' L'
    exact propext ⟨fun h => h.ok, fun h => ⟨h⟩⟩
  rw [e] at h
  exact ⟨h⟩
theorem OrdP.nil {keys : List Nat} {ops : Array Oper} (h : Cont C Q k .normal env L) : OrdP C Q k keys ops [] env L := ⟨h.ok⟩
theorem OrdP.cons {keys : List Nat} {ops : Array Oper} {i : Nat} {rest : List Nat} {o : Oper} (ho : ops[i]? = some o) (h : aoperG (aopP C keys) ops o env L fun env' L' => OrdP C Q k keys ops rest env' L') : OrdP C Q k keys ops (i :: rest) env L := by
  have e : (fun env' L' => OrdP C Q k keys ops rest env' L') = fun env' L' => awpOrdP C keys ops rest (after C Q k .normal) env' L' := by
    funext env' L'
    exact propext ⟨fun h => h.ok, fun h => ⟨h⟩⟩
  rw [e] at h
  refine ⟨?_⟩
  unfold awpOrdP
  rw [ho]
  exact h
theorem Ord.nil {q : Bool} {ops : Array Oper} (h : Cont C Q k .normal env L) : Ord C Q k q ops [] env L := ⟨h.ok⟩
theorem Ord.quiet {ops : Array Oper} {i : Nat} {rest : List Nat} {o : Oper} (ho : ops[i]? = some o) (h : aoperG (aopQF C) ops o env L fun env' L' => Ord C Q k true ops rest env' L') : Ord C Q k true ops (i :: rest) env L := by
  have e : (fun env' L' => Ord C Q k true ops rest env' L') = fun env' L' => awpOrd C true ops rest (after C Q k .normal) env' L' := by
    funext env' L'
    exact propext ⟨fun h => h.ok, fun h => ⟨h⟩⟩
  rw [e] at h
  refine ⟨?_⟩
  unfold awpOrd
  rw [ho]
  exact h
theorem Ord.loud {ops : Array Oper} {i : Nat} {rest : List Nat} {o : Oper} (ho : ops[i]? = some o) (h : aoperG (aopF C) ops o env L fun env' L' => Ord C Q k false ops rest env' L') : Ord C Q k false ops (i :: rest) env L := by
  have e : (fun env' L' => Ord C Q k false ops rest env' L') = fun env' L' => awpOrd C false ops rest (after C Q k .normal) env' L' := by
    funext env' L'
    exact propext ⟨fun h => h.ok, fun h => ⟨h⟩⟩
  rw [e] at h
  refine ⟨?_⟩
  unfold awpOrd
  rw [ho]
  exact h
end

theorem Lends.one {L : AHeap} {x x' : AV} (h : Lend L x x') : Lends L [x] [x'] := ⟨h, trivial⟩
theorem Lends.two {L : AHeap} {x x' y y' : AV} (h : Lend L x x') (k : Lend L y y') : Lends L [x, y] [x', y'] := ⟨h, k, trivial⟩
theorem Lends.three {L : AHeap} {x x' y y' z z' : AV} (h : Lend L x x') (k : Lend L y y') (l : Lend L z z') : Lends L [x, y, z] [x', y', z'] := ⟨h, k, l, trivial⟩
theorem Subs.one {x x' : AV} (h : HB.Sub x x') : Subs [x] [x'] := ⟨h, trivial⟩
theorem Subs.two {x x' y y' : AV} (h : HB.Sub x x') (k : HB.Sub y y') : Subs [x, y] [x', y'] := ⟨h, k, trivial⟩
theorem Subs.three {x x' y y' z z' : AV} (h : HB.Sub x x') (k : HB.Sub y y') (l : HB.Sub z z') : Subs [x, y, z] [x', y', z'] := ⟨h, k, l, trivial⟩
theorem Subs.four {x x' y y' z z' u u' : AV} (h : HB.Sub x x') (k : HB.Sub y y') (l : HB.Sub z z') (m : HB.Sub u u') : Subs [x, y, z, u] [x', y', z', u'] := ⟨h, k, l, m, trivial⟩

theorem FnSpec.start {C : Cx} (hC : C.Ok) {f : FuncId} {fn : Func} {c : Code} {args : List AV} {L : AHeap} {Q : AV → AHeap → Prop} {n : Nat} (hf : C.P.funcs[f]? = some fn) (hb : fn.body = some c) (hname : (fn.name == "runtime.NumGoroutine") = false) (hn : fn.ntmps = n)
    (h : force (args ++ List.replicate (n - args.length) .junk) fun env => Run C (apost C fn Q) [] c env L) : FnSpec C f args L Q := by
  rw [force_eq] at h
  refine FnSpec.intro hC hf hb hname hn ?_
  rw [force_eq]
  have e : after C (apost C fn Q) [] = apost C fn Q := rfl
  have := h.ok
  rw [e] at this
  exact this

end Go.Proofs.YtfohedaadncefaaDoor.HB
