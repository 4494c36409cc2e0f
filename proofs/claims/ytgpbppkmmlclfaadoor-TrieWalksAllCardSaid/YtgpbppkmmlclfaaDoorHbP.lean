/- A law's row: from its contract in the abstract machine to what the given statement asks. -/
import Derived.Test.YtgpbppkmmlclfaaDoorHbL
import Derived.Carry
import Derived.Handed
import Derived.LaidLaws
import Derived.SizedLaws
import Derived.Lib.Overlaps
import Derived.Defers
import Derived.Laws.BytesString
import Derived.MapKept
import Derived.Maps.RangeRun
import Derived.Recover
namespace Go.Proofs.YtgpbppkmmlclfaaDoor.HB
open Go Go.ChangeShapes Go.WideShapes Go.RowKit

def ArgOkZ (Z : Prop) (P : Program) (t : TypeId) (x : AV) : Prop := ∃ ys, CellsOkZ Z P t ys ∧ x = wrapC (aggT P t) ys
inductive ArgsOkZ (Z : Prop) (P : Program) : List TypeId → List AV → Prop where
  | nil : ArgsOkZ Z P [] []
  | cons {t : TypeId} {x : AV} {ts : List TypeId} {xs : List AV} (h : ArgOkZ Z P t x) (hs : ArgsOkZ Z P ts xs) : ArgsOkZ Z P (t :: ts) (x :: xs)
abbrev ArgsOk (P : Program) : List TypeId → List AV → Prop := ArgsOkZ False P

theorem arg_VRZ {Z : Prop} {H : Type} {enc : TypeId × Value → H} {P : Program} {w : World} {d : Nat} {t : TypeId} {v : Value} {dt : DataW H} {p : List MemPlace} {base : Nat} (hs : suppT P d t = true) (ho : Value.okWide P w .any base t v)
    (h : DataW.Trod enc P w 0 (fun _ => true) true t v dt p) (hw : Z → (dt.weights P t).all (· ≤ reachBytes) = true) : ∃ x, ArgOkZ Z P t x ∧ VR (fun g => g < w.heap.size) w x v := by
  obtain ⟨fuel, hf⟩ := h
  obtain ⟨ys, h1, h2, h3⟩ := trod_cellsZ (Z := Z) (fun _ => rfl) d fuel t _ _ hs hf hw
  refine ⟨_, ⟨ys, h1, rfl⟩, ?_⟩
  cases d with
  | zero => cases hs
  | succ d =>
    unfold suppT at hs
    have hone : ∀ dd, P.underlying t = some dd → aggD dd = false → ∀ u, v.cells.toList = [u] → u = v → VR (fun g => g < w.heap.size) w (wrapC (aggT P t) ys) v := fun dd hu hd u hc e => by
      have ha : aggT P t = false := by unfold aggT; rw [hu]; exact hd
      rw [ha]
      rw [hc] at h3
      have hl := h3.len
      match ys, hl, h3 with
      | [y], _, h3 => exact e ▸ h3.at_ 0 y u rfl rfl
    split at hs
    · rename_i k hu
      obtain ⟨n, rfl⟩ := okWide_int hu ho
      exact hone _ hu rfl _ rfl rfl
    · rename_i hu
      obtain ⟨n, rfl⟩ := okWide_bool hu ho
      exact hone _ hu rfl _ rfl rfl
    · rename_i hu
      obtain ⟨n, rfl⟩ := okWide_string hu ho
      exact hone _ hu rfl _ rfl rfl
    · rename_i fs hu
      obtain ⟨cs, rfl, _⟩ := okWide_struct hu ho
      have ha : aggT P t = true := by unfold aggT; rw [hu]; rfl
      rw [ha]
      have h3' : VRs (fun g => g < w.heap.size) w ys cs.toList := by simpa [Value.cells] using h3
      have := VR.agg ys cs.toList h3'.len h3'.one h3'.at_
      rwa [Array.toArray_toList] at this
    · rename_i e hu
      obtain ⟨a, len, cap, rfl⟩ := okWide_slice hu ho
      exact hone _ hu rfl _ rfl rfl
    · cases hs

theorem args_inZ {Z : Prop} {H : Type} {enc : TypeId × Value → H} {P : Program} {w : World} {d base : Nat} : ∀ (ts : List TypeId) (vs : List Value) (ds : List (DataW H)) (ps : List MemPlace), ts.all (fun t => suppT P d t) = true →
    (∀ (j : Nat) (t : TypeId) (v : Value), ts[j]? = some t → vs[j]? = some v → Value.okWide P w .any base t v) → DataW.TrodAll enc P w 0 (fun _ => true) true ts vs ds ps → (Z → (DataW.weightsEach P ts ds).all (· ≤ reachBytes) = true) →
    ds.length = ts.length ∧ ∃ xs, ArgsOkZ Z P ts xs ∧ vs.length = xs.length ∧ ∀ (j : Nat) (x : AV) (v : Value), xs[j]? = some x → vs[j]? = some v → VR (fun g => g < w.heap.size) w x v
  | [], [], [], _, _, _, _, _ => ⟨rfl, [], .nil, rfl, by simp⟩
  | [], [], _ :: _, _, _, _, h, _ => h.elim
  | [], _ :: _, _, _, _, _, h, _ => by cases h
  | _ :: _, [], _, _, _, _, h, _ => by cases h
  | _ :: _, _ :: _, [], _, _, _, h, _ => by cases h
  | t :: ts, v :: vs, dt :: ds, ps, hs, ho, h, hw => by
    have hw1 : Z → (dt.weights P t).all (· ≤ reachBytes) = true ∧ (DataW.weightsEach P ts ds).all (· ≤ reachBytes) = true := fun z => by
      have h1 := hw z
      simp only [DataW.weightsEach, List.all_append, Bool.and_eq_true] at h1
      exact h1
    obtain ⟨p, q, h1, h2, _⟩ := h
    simp only [List.all_cons, Bool.and_eq_true] at hs
    obtain ⟨x, k1, k2⟩ := arg_VRZ hs.1 (ho 0 t v rfl rfl) h1 (fun z => (hw1 z).1)
    obtain ⟨hl, xs, l1, l2, l3⟩ := args_inZ ts vs ds q hs.2 (fun j t' v' ht hv => ho (j + 1) t' v' (by simpa using ht) (by simpa using hv)) h2 (fun z => (hw1 z).2)
    refine ⟨by simp [hl], x :: xs, .cons k1 l1, by simp [l2], fun j y u hy hu => ?_⟩
    cases j with
    | zero => simp at hy hu; subst hy; subst hu; exact k2
    | succ j => exact l3 j y u (by simpa using hy) (by simpa using hu)

theorem trodAll_stays {H : Type} {enc : TypeId × Value → H} {P : Program} (hl : laidOutB P = true) {W W' : World} (hb : Below W.heap.size W W') : ∀ (ts : List TypeId) (vs : List Value) (ds : List (DataW H)) (ps : List MemPlace),
    ts.all (fun t => P.readableRec t && decide (t < P.types.size)) = true → (∀ x ∈ ps, x.block < W.heap.size) → DataW.TrodAll enc P W 0 (fun _ => true) true ts vs ds ps → DataW.TrodAll enc P W' 0 (fun b => decide (b < W.heap.size)) true ts vs ds ps
  | [], [], [], _, _, _, h => h
  | [], [], _ :: _, _, _, _, h => h.elim
  | [], _ :: _, _, _, _, _, h => by cases h
  | _ :: _, [], _, _, _, _, h => by cases h
  | _ :: _, _ :: _, [], _, _, _, h => by cases h
  | t :: ts, v :: vs, dt :: ds, ps, hs, hp, h => by
    obtain ⟨p, q, h1, h2, rfl⟩ := h
    simp only [List.all_cons, Bool.and_eq_true, decide_eq_true_eq] at hs
    exact ⟨p, q, Below.trod hl hs.1.1 hs.1.2 h1 hb (fun x hx => hp x (List.mem_append_left _ hx)), trodAll_stays hl hb ts vs ds q hs.2 (fun x hx => hp x (List.mem_append_right _ hx)) h2, rfl⟩

theorem below_of_Tr {D : Prop} {own imm own' imm' : Nat → Prop} {w w' : World} (h : Tr D own imm w own' imm' w') (hn : ∀ g, ¬ own g) : Below w.heap.size w w' :=
  ⟨h.os, h.tape, h.output, h.size, fun k hk => h.block k hk (hn k)⟩

theorem law_contractZ (Z : Prop) {H : Type} {enc : TypeId × Value → H} {C : Cx} {f : FuncId} {fn : Func} {s : ChangeSpec} {tb : TypeId} (d : Nat) (hlaid : laidOutB C.P = true)
    (hts : fn.params.toList.all (fun t => suppT C.P d t) = true) (htr : fn.params.toList.all (fun t => C.P.readableRec t && decide (t < C.P.types.size)) = true)
    (hres : fn.resultTypes = #[tb]) (htb : C.P.underlying tb = some .bool) (hvars : ∀ (W W' : World) (gs : List (DataW H)) (q : List MemPlace), Below W.heap.size W W' → DataW.TrodVars enc C.P W (fun _ => true) s.vars gs q → DataW.TrodVars enc C.P W' (fun b => decide (b < W.heap.size)) s.vars gs q)
    (hfn : ∀ (ds gs : List (DataW H)), ds.length = fn.params.toList.length → gs.length = s.vars.length → (s.fn H (ds ++ gs)).results = [.lit (.bool true)] ∧ (s.fn H (ds ++ gs)).args = ds ∧ (s.fn H (ds ++ gs)).vars = gs)
    (law : ∀ xs, ArgsOkZ Z C.P fn.params.toList xs → FnSpec C f xs [] (fun r L' => r = .bool true ∧ L' = []))
    {W : World} {base : Nat} {args : Array Value} {ds gs : List (DataW H)} {before : List MemPlace} (hG : C.G (fun g => g < W.heap.size) W)
    (hval : ∀ (j : Nat) (t : TypeId) (v : Value), fn.params[j]? = some t → args[j]? = some v → Value.okWide C.P W .any base t v)
    (hW : DataW.Whole enc C.P fn.params.toList s.vars false W args.toList ds gs before) (hz : Z → (DataW.weightsEach C.P fn.params.toList ds).all (· ≤ reachBytes) = true) :
    Calls C.P f args W fun e W' => ∃ v, e = .returned v ∧ s.post enc C.P fn false true false false W args v W' := by
  have hW0 := hW
  obtain ⟨p, q, hA, hV, rfl, _, _⟩ := hW
  obtain ⟨hdl, xs, hx1, hx2, hx3⟩ := args_inZ (Z := Z) _ _ _ _ hts (fun j t v ht hv => hval j t v (by simpa using ht) (by simpa using hv)) hA hz
  have hgl : ∀ (ns : List String) (gs : List (DataW H)) (q : List MemPlace), DataW.TrodVars enc C.P W (fun _ => true) ns gs q → gs.length = ns.length := by
    intro ns
    induction ns with
    | nil => intro gs q h; cases gs with
      | nil => rfl
      | cons => exact h.elim
    | cons n ns ih => intro gs q h; cases gs with
      | nil => exact h.elim
      | cons g gs =>
        obtain ⟨_, _, _, _, _, q', _, _, _, _, hs, _⟩ := h
        simp [ih gs q' hs]
  obtain ⟨e1, e2, e3⟩ := hfn ds gs hdl (hgl _ _ _ hV)
  have hcall := (law xs hx1).2 (fun g => g < W.heap.size) W args.toList hG ⟨by simp, by simp, fun g hg => (not_own_nil g hg).elim, fun g hg => (not_own_nil g hg).elim, fun g hg => hg⟩ hx2 hx3
  rw [Array.toArray_toList] at hcall
  refine hcall.mono fun e W' hh => ?_
  obtain ⟨v, r, L', imm', rfl, hv, _, ht, rfl, rfl⟩ := hh
  have hb := below_of_Tr ht not_own_nil
  generalize hr : AV.bool true = r0 at hv
  cases hv <;> cases hr
  have hlt : ∀ x ∈ p ++ q, x.block < W.heap.size := fun x hx => by simpa using hW0.lt x hx
  refine ⟨_, rfl, ds, gs, _, [], p, q, hW0, ?_, ?_, ?_, hb.frame _, fun h => by cases h⟩
  · rw [e1, hres]
    exact trodAll_mk1 (shut_bool htb _)
  · rw [e2]
    exact trodAll_stays hlaid hb _ _ _ _ htr (fun x hx => hlt x (List.mem_append_left _ hx)) hA
  · rw [e3]
    exact hvars _ _ _ _ hb hV
theorem law_contract {H : Type} {enc : TypeId × Value → H} {C : Cx} {f : FuncId} {fn : Func} {s : ChangeSpec} {tb : TypeId} (d : Nat) (hlaid : laidOutB C.P = true)
    (hts : fn.params.toList.all (fun t => suppT C.P d t) = true) (htr : fn.params.toList.all (fun t => C.P.readableRec t && decide (t < C.P.types.size)) = true)
    (hres : fn.resultTypes = #[tb]) (htb : C.P.underlying tb = some .bool) (hvars : ∀ (W W' : World) (gs : List (DataW H)) (q : List MemPlace), Below W.heap.size W W' → DataW.TrodVars enc C.P W (fun _ => true) s.vars gs q → DataW.TrodVars enc C.P W' (fun b => decide (b < W.heap.size)) s.vars gs q)
    (hfn : ∀ (ds gs : List (DataW H)), ds.length = fn.params.toList.length → gs.length = s.vars.length → (s.fn H (ds ++ gs)).results = [.lit (.bool true)] ∧ (s.fn H (ds ++ gs)).args = ds ∧ (s.fn H (ds ++ gs)).vars = gs)
    (law : ∀ xs, ArgsOk C.P fn.params.toList xs → FnSpec C f xs [] (fun r L' => r = .bool true ∧ L' = []))
    {W : World} {base : Nat} {args : Array Value} {ds gs : List (DataW H)} {before : List MemPlace} (hG : C.G (fun g => g < W.heap.size) W)
    (hval : ∀ (j : Nat) (t : TypeId) (v : Value), fn.params[j]? = some t → args[j]? = some v → Value.okWide C.P W .any base t v)
    (hW : DataW.Whole enc C.P fn.params.toList s.vars false W args.toList ds gs before) :
    Calls C.P f args W fun e W' => ∃ v, e = .returned v ∧ s.post enc C.P fn false true false false W args v W' :=
  law_contractZ False d hlaid hts htr hres htb hvars hfn law hG hval hW (fun h => h.elim)

end Go.Proofs.YtgpbppkmmlclfaaDoor.HB
/- A row that lists package variables: from the law's contract to what the row asks, the world's shape kept. -/
namespace Go.Proofs.YtgpbppkmmlclfaaDoor.HB
open Go Go.ChangeShapes Go.WideShapes Go.RowKit

theorem returns_and_shaped {H : Type} {enc : TypeId × Value → H} {a : Assume} {C : Checked} {os : Os} {f : FuncId} {fn : Func} {s : ChangeSpec} {conds : List PathCond} {apart fresh handsOn again : Bool} {X : World → Array Value → Prop}
    (hX : ∀ (w w' : World) (args : Array Value), w.heap = w'.heap → X w args → X w' args)
    (own : ownKnob C.prog.godebug = none) (started : os.Started) (noInit : C.prog.inits.idxOf? f = none) (hfn : C.prog.funcs[f]? = some fn)
    (witness : ∃ (w : World) (tape : Tape) (i : Input), w.os = os ∧ (w.forCall tape i).Shaped C.prog ∧ i.vars = [] ∧ Input.okWide C.prog (w.forCall tape i) .any w.heap.size f i ∧
      ((s.pre enc C.prog fn conds apart (w.forCall tape i).memory i.args ∧ X (w.forCall tape i).memory i.args) ∧ sizedMet enc C.prog fn (OpenSpec.ofChange s) apart (w.forCall tape i).memory i.args) ∧ a.holds C.prog (lone (Frame.enter C.prog f i.args .normal) [] (w.forCall tape i)))
    (contract : ∀ (W : World) (base : Nat) (args : Array Value) (ds gs : List (DataW H)) (before : List MemPlace),
      (∀ (j : Nat) t v, fn.params[j]? = some t → args[j]? = some v → Value.okWide C.prog W .any base t v) →
      DataW.Whole enc C.prog fn.params.toList s.vars apart W args.toList ds gs before → X W args → W.ShapedOpen C.prog →
      Calls C.prog f args W fun e W' => ∃ v, e = .returned v ∧ s.post enc C.prog fn apart fresh handsOn again W args v W') :
    ReturnsInHanded a C os f .any (fun w args => (s.pre enc C.prog fn conds apart w args ∧ X w args) ∧ sizedMet enc C.prog fn (OpenSpec.ofChange s) apart w args) (s.post enc C.prog fn apart fresh handsOn again) := by
  refine returnsInHanded_of_calls own started noInit witness ?_
  intro w tape i _ hsh _ hok hpre _
  obtain ⟨_, _, _, fn', hfn', _, _, _, _, hval⟩ := hok
  have e : fn' = fn := Option.some.inj (hfn'.symm.trans hfn)
  subst e
  obtain ⟨⟨⟨ds, gs, before, hw, _⟩, hx⟩, _⟩ := hpre
  have hw' := DataW.Whole.of_heap (w' := w.forCall tape i) (by rfl) hw
  refine (contract (w.forCall tape i) w.heap.size i.args ds gs before hval hw' (hX _ _ _ (by rfl) hx) hsh).mono fun e W' ⟨v, he, hp⟩ => ?_
  subst he
  exact ChangeSpec.post_blind hp

end Go.Proofs.YtgpbppkmmlclfaaDoor.HB
/- More ways to end a function: some objects kept, said otherwise. -/
namespace Go.Proofs.YtgpbppkmmlclfaaDoor.HB
open Go

theorem FinOk.trans {r r' r'' : AV} {L L' L'' : AHeap} (h : FinOk r L r' L') (k : FinOk r' L' r'' L'') : FinOk r L r'' L'' := fun D own0 imm0 w0 imm w v hs hv ht => by
  obtain ⟨imm1, a, b, c⟩ := h D own0 imm0 w0 imm w v hs hv ht
  exact k D own0 imm0 w0 imm1 w v a b c
theorem FinOk.sub (r : AV) {L L' : AHeap} (h : SubL L L') : FinOk r L r L' := fun D own0 imm0 w0 imm w v hs hv ht =>
  ⟨imm, h.sat hs, hv, by rw [h.own]; exact ht⟩
theorem FinOk.keepS (r : AV) {r' : AV} {L L' L'' : AHeap} (ks : List Nat) (hr : Sub r r') (hnd : ks.Nodup) (hL : L' = ks.map fun k => L.getD k (0, .dead)) (hS : SubL L' L'') : FinOk r L r' L'' :=
  (FinOk.keep r ks hr hnd hL).trans (FinOk.sub r' hS)

theorem SubO.refl (o : AObj) : SubO o o := by
  cases o with
  | dead => trivial
  | cells t cs => exact SubO.cells (Subs.refl cs)
  | row e sz Cp xs => exact SubO.rowR e sz Cp xs
  | obj o => exact (rfl : o = o)
  | box S P => exact ⟨rfl, rfl⟩
theorem SubL.refl : ∀ L : AHeap, SubL L L
  | [] => trivial
  | (_, o) :: L => ⟨rfl, SubO.refl o, SubL.refl L⟩
end Go.Proofs.YtgpbppkmmlclfaaDoor.HB
/- What a row's end says of its room; the model's own slices.overlaps at two rows. -/
namespace Go.Proofs.YtgpbppkmmlclfaaDoor.HB
open Go

theorem FnSpec.capOf {C : Cx} {f : FuncId} {fn : Func} {args : List AV} {L : AHeap} {Q : AV → AHeap → Prop} (hf : C.P.funcs[f]? = some fn) (hb : fn.body.isSome = true) (hname : (fn.name == "runtime.NumGoroutine") = false)
    {k g e sz Cp : Nat} {xs : List AV} (hk : L[k]? = some (g, .row e sz Cp xs)) (h : xs.length ≤ Cp → FnSpec C f args L Q) : FnSpec C f args L Q := by
  refine ⟨⟨fn, hf, hname, hb⟩, fun imm w vs hG hs hl hv => ?_⟩
  have hle : xs.length ≤ Cp := by
    cases hs.holds k g _ hk trivial
    assumption
  exact (h hle).2 imm w vs hG hs hl hv

theorem overlaps_ext {C : Cx} (hC : C.Ok) {f : FuncId} {fn : Func} {t tR : TypeId} (hf : C.P.funcs[f]? = some fn) (hname : (fn.name == "runtime.NumGoroutine") = false) (hb : fn.body.isNone = true) (hn : Extern.findNext fn = none) (he : Extern.find fn = some (Extern.SlicesOverlaps.overlaps #[t, t] #[tR]))
    {e sz by_ : Nat} {ea : Bool} {zs : List AV} (ht : C.T t = some (.slice e sz by_ ea zs))
    {L : AHeap} {k g Cp lo n k' g' Cp' lo' n' e1 sz1 e2 sz2 : Nat} {xs ys : List AV} (hk : L[k]? = some (g, .row e1 sz1 Cp xs)) (hk' : L[k']? = some (g', .row e2 sz2 Cp' ys)) (hne : k ≠ k') (hpos : 0 < Cp') :
    ExtSpec C f [.sb k g Cp sz1 lo n, .sb k' g' Cp' sz2 lo' n'] L (.bool false) := by
  intro imm w vs hG hs hl hv
  obtain ⟨v1, v2, rfl⟩ : ∃ v1 v2, vs = [v1, v2] := by
    cases vs with
    | nil => simp at hl
    | cons v1 r => cases r with
      | nil => simp at hl
      | cons v2 r => cases r with
        | nil => exact ⟨v1, v2, rfl⟩
        | cons => simp at hl
  have h1 := hv 0 _ _ rfl rfl
  have h2 := hv 1 _ _ rfl rfl
  obtain ⟨hu, j, ze, hj, hsz, _⟩ := tiOf_slice (hC.types _ _ ht)
  cases h1 with
  | sb _ _ _ _ _ _ off a1 a0 =>
  cases h2 with
  | sb _ _ _ _ _ _ off' b1 b0 =>
  cases hs.holds k g _ hk trivial with
  | row _ _ _ _ vs1 spare1 hg1 hs1 hsz1 hC1 hm1 hx1 hv1 =>
  cases hs.holds k' g' _ hk' trivial with
  | row _ _ _ _ vs2 spare2 hg2 hs2 hsz2 hC2 hm2 hx2 hv2 =>
  have hgg : g ≠ g' := fun e => hne (hs.apart k k' g g' g _ _ hk rfl hk' e)
  refine ⟨.bool false, ?_, .bool _⟩
  rw [show ([Value.slice (some ⟨g, off, none⟩) n (Cp - lo), Value.slice (some ⟨g', off', none⟩) n' (Cp' - lo')].toArray) = #[Value.slice (some ⟨g, off, none⟩) n (Cp - lo), Value.slice (some ⟨g', off', none⟩) n' (Cp' - lo')] from rfl]
  rw [run_callFunc_extern hf hname hb hn he, Lib.run_overlaps_apart w t tR e hu j.size (fun w' => run_sizeOf w' hj) ⟨g, off, none⟩ ⟨g', off', none⟩ n (Cp - lo) n' (Cp' - lo') hgg e1 e2 (Cp * sz1) (Cp' * sz2)
    (by simp [World.shape?, hg1, ← hC1]) (by simp [World.shape?, hg2, ← hC2]) (by have := Nat.mul_pos hpos hs2; omega) (by simp [World.frozen?, hg1]) (by simp [World.frozen?, hg1])]
  rfl
end Go.Proofs.YtgpbppkmmlclfaaDoor.HB
/- Calls that panic, and the text's own panics; regions that draw their order and hold such calls. -/
namespace Go.Proofs.YtgpbppkmmlclfaaDoor.HB
open Go

abbrev chain1 (v : Value) : List PanicEntry := [{ v, recovered := false }]

def FnSpecE (C : Cx) (f : FuncId) (args : List AV) (L : AHeap) (Q : AV → AHeap → Prop) (QP : Value → AHeap → Prop) : Prop :=
  (∃ fn, C.P.funcs[f]? = some fn ∧ (fn.name == "runtime.NumGoroutine") = false ∧ fn.body.isSome = true) ∧
  ∀ (imm : Nat → Prop) (w : World) (vs : List Value), C.G imm w → Sat imm w L → vs.length = args.length → (∀ (j : Nat) (x : AV) (v : Value), args[j]? = some x → vs[j]? = some v → VR imm w x v) →
    Calls C.P f vs.toArray w (fun e w' => (∃ v r L' imm', e = .returned v ∧ VR imm' w' r v ∧ Sat imm' w' L' ∧ Tr C.D (Own L) imm w (Own L') imm' w' ∧ Q r L') ∨
      (∃ v L' imm', e = .panicked (chain1 v) ∧ Sat imm' w' L' ∧ Tr C.D (Own L) imm w (Own L') imm' w' ∧ QP v L'))

def apostE (C : Cx) (fn : Func) (Q : AV → AHeap → Prop) (QP : Value → AHeap → Prop) : Exit → List AV → AHeap → Prop
  | .normal, env, L | .ret, env, L => aress C env L fn.results.toList fun xs => ∃ r L', FinOk (aret xs) L r L' ∧ Q r L'
  | .panic ch, _, L => ∃ v L', ch = chain1 v ∧ FinOk .junk L .junk L' ∧ QP v L'
  | _, _, _ => False

theorem FnSpecE.start {C : Cx} (hC : C.Ok) {f : FuncId} {fn : Func} {c : Code} {args : List AV} {L : AHeap} {Q : AV → AHeap → Prop} {QP : Value → AHeap → Prop} {n : Nat} (hf : C.P.funcs[f]? = some fn) (hb : fn.body = some c) (hname : (fn.name == "runtime.NumGoroutine") = false) (hn : fn.ntmps = n)
    (h : force (args ++ List.replicate (n - args.length) .junk) fun env => Run C (apostE C fn Q QP) [] c env L) : FnSpecE C f args L Q QP := by
  rw [force_eq] at h
  have h := h.ok
  refine ⟨⟨fn, hf, hname, by simp [hb]⟩, fun imm w vs hG hs hl hv => ?_⟩
  subst hn
  refine calls_of_wp hf hb ?_
  have henv : EnvR imm w (args ++ List.replicate (fn.ntmps - args.length) .junk) (vs.toArray ++ Array.replicate (fn.ntmps - vs.toArray.size) undef) := by
    refine ⟨by simp [hl], fun t x v hx hvv => ?_⟩
    by_cases ht : t < args.length
    · rw [List.getElem?_append_left ht] at hx
      rw [Array.getElem?_append_left (by simpa [hl] using ht)] at hvv
      exact hv t x v hx (by simpa using hvv)
    · rw [List.getElem?_append_right (by omega), List.getElem?_replicate] at hx
      split at hx
      · cases hx; exact .junk v
      · cases hx
  have hat : At C ⟨[], Own L, imm, w⟩ (args ++ List.replicate (fn.ntmps - args.length) .junk) L { tmps := vs.toArray ++ Array.replicate (fn.ntmps - vs.toArray.size) undef, defers := [] } w := ⟨imm, ⟨hs, henv, Tr.refl _ _ _, rfl⟩, hG⟩
  refine Code.wp_mono ?_ (awp_sound hC c _ _ L _ w h hat)
  have fin : ∀ (a' : Act) (w' : World) (env' : List AV) (L' : AHeap), At C ⟨[], Own L, imm, w⟩ env' L' a' w' → (aress C env' L' fn.results.toList fun xs => ∃ r L'', FinOk (aret xs) L' r L'' ∧ Q r L'') →
      a'.defers = [] ∧ ∃ v, (results fn a'.tmps).run C.P w' = .ok v w' ∧ ((∃ v' r L' imm', Ending.returned v = .returned v' ∧ VR imm' w' r v' ∧ Sat imm' w' L' ∧ Tr C.D (Own L) imm w (Own L') imm' w' ∧ Q r L') ∨
        (∃ v' L' imm', Ending.returned v = .panicked (chain1 v') ∧ Sat imm' w' L' ∧ Tr C.D (Own L) imm w (Own L') imm' w' ∧ QP v' L')) := by
    intro a' w' env' L' ha h
    obtain ⟨imm', hst, _⟩ := ha
    obtain ⟨xs, v, ⟨r, L'', hfin, hq⟩, hrun, hvr⟩ := results_sound hC hst.sat hst.env h
    obtain ⟨imm2, h1, h2, h3⟩ := hfin _ _ _ _ _ _ _ hst.sat hvr hst.tr
    exact ⟨hst.defers, v, hrun, .inl ⟨v, r, L'', imm2, rfl, h2, h1, h3, hq⟩⟩
  intro e a' w' hq
  cases e with
  | normal => obtain ⟨env', L', ha, hq⟩ := hq; exact fin a' w' env' L' ha hq
  | ret => obtain ⟨env', L', ha, hq⟩ := hq; exact fin a' w' env' L' ha hq
  | exit id => obtain ⟨env', L', ha, hq⟩ := hq; exact hq.elim
  | goto l => obtain ⟨env', L', ha, hq⟩ := hq; exact hq.elim
  | panic c =>
    obtain ⟨env', L', ⟨imm', hst, _⟩, v, L'', rfl, hfin, hq⟩ := hq
    obtain ⟨imm2, h1, _, h3⟩ := hfin _ _ _ _ _ _ undef hst.sat (.junk _) hst.tr
    exact ⟨hst.defers, .inr ⟨v, L'', imm2, rfl, h1, h3, hq⟩⟩
  | outgrown => exact hq.elim

inductive ACallE (C : Cx) (keys : List Nat) (f : FuncId) (args : List AV) (L : AHeap) (K : AV → AHeap → Prop) (KP : Value → AHeap → Prop) : Prop where
  | quiet (h : ACallQ C f args L fun v => K v L) : ACallE C keys f args L K KP
  | sel (ks : List Nat) (hnd : ks.Nodup) (hdis : (keys.all fun k => !ks.contains k) = true) (args' : List AV) (Q : AV → AHeap → Prop) (QP : Value → AHeap → Prop) (hsub : Subs args args') (h : FnSpecE C f args' (selL L ks) Q QP)
      (k : ∀ r L', Q r L' → ∃ r', Sub r r' ∧ K r' (mergeL L ks L')) (kp : ∀ v L', QP v L' → KP v (mergeL L ks L')) : ACallE C keys f args L K KP

theorem ACallE.sound {C : Cx} (hC : C.Ok) {keys : List Nat} {f : FuncId} {args : List AV} {L : AHeap} {K : AV → AHeap → Prop} {KP : Value → AHeap → Prop} (h : ACallE C keys f args L K KP) {imm : Nat → Prop} {w : World} (hG : C.G imm w) (hs : Sat imm w L) {vs : List Value}
    (hl : vs.length = args.length) (hv : ∀ (j : Nat) (x : AV) (v : Value), args[j]? = some x → vs[j]? = some v → VR imm w x v) :
    (∃ fn, C.P.funcs[f]? = some fn ∧ (fn.name == "runtime.NumGoroutine") = false ∧ fn.body.isSome = true) ∧
    Calls C.P f vs.toArray w (fun e w' => (∃ v r L' imm', e = .returned v ∧ VR imm' w' r v ∧ Sat imm' w' L' ∧ Tr C.D (Own L) imm w (Own L') imm' w' ∧ SameK imm L keys w w' ∧ (∀ k ∈ keys, ∀ x, L[k]? = some x → L'[k]? = some x) ∧ K r L') ∨
      (∃ v L' imm', e = .panicked (chain1 v) ∧ Sat imm' w' L' ∧ Tr C.D (Own L) imm w (Own L') imm' w' ∧ KP v L')) := by
  cases h with
  | quiet h =>
    obtain ⟨h1, h2⟩ := ACallQ.sound hC h hG hs hl hv
    refine ⟨h1, h2.mono ?_⟩
    rintro e w' ⟨v, r, imm', rfl, a2, a3, a4, a5, a6⟩
    exact .inl ⟨v, r, L, imm', rfl, a2, a3, a4, fun g hg => a5 g (hg.imp id fun ⟨k, g', o, _, hk, ho⟩ => ⟨k, g', o, hk, ho⟩), fun _ _ _ h => h, a6⟩
  | sel ks hnd hdis args' Q QP hsub h k kp =>
    obtain ⟨hlen, hat⟩ := hsub.at_
    have hdis : ∀ k ∈ keys, k ∉ ks := fun k hk => by simpa using List.all_eq_true.1 hdis k hk
    refine ⟨h.1, (h.2 imm w vs hG (selL_sat hs hnd) (by omega) (fun j y v hy hvj => ?_)).mono ?_⟩
    · have hj : j < args.length := by rw [hlen]; exact (List.getElem?_eq_some_iff.1 hy).1
      exact hat j args[j] y (List.getElem?_eq_getElem hj) hy _ _ _ (hv j _ v (List.getElem?_eq_getElem hj) hvj)
    · rintro e w' (⟨v, r, L', imm', rfl, hr, hs', ht, hq⟩ | ⟨v, L', imm', rfl, hs', ht, hq⟩)
      · obtain ⟨r', hsub', hk⟩ := k r L' hq
        obtain ⟨m1, m2⟩ := merge_sat hs hs' ht
        refine .inl ⟨v, r', _, imm', rfl, hsub' _ _ _ hr, m1, m2, fun g hg => ?_, fun k hk _ hl => mergeL_keep (hdis k hk) hl, hk⟩
        have hlt : g < w.heap.size := hg.elim (hs.immlt g) fun ⟨k, g', o, _, hl, ho⟩ => hs.lt g ⟨k, g', o, hl, ho⟩
        refine ht.block g hlt fun hown => ?_
        obtain ⟨k', g1, o', hk', hl', ho'⟩ := own_selL hown
        rcases hg with hi | ⟨k, g2, o, hk, hl, ho⟩
        · exact hs.far g ⟨k', g1, o', hl', ho'⟩ hi
        · exact hdis k hk (hs.apart k k' g2 g1 g o o' hl ho hl' ho' ▸ hk')
      · obtain ⟨m1, m2⟩ := merge_sat hs hs' ht
        exact .inr ⟨v, _, imm', rfl, m1, m2, kp v L' hq⟩

def concB (P : Program) (t : TypeId) : Bool := match P.underlying t with
  | some (.struct _) => true
  | _ => false

def scal2 : AV → Bool
  | .agg ys => ys.all scal
  | x => scal x
def scalD : AV → Bool
  | .tuple xs => xs.all scal2
  | x => scal2 x
theorem VR.of_scal2 {imm imm' : Nat → Prop} {w w' : World} {x : AV} {v : Value} (h : VR imm w x v) (hs : scal2 x = true) : VR imm' w' x v := by
  cases x with
  | agg ys => exact h.of_scals (show scals (.agg ys) = true from hs)
  | _ => exact h.of_scal hs
theorem VR.of_scalD {imm imm' : Nat → Prop} {w w' : World} {x : AV} {v : Value} (h : VR imm w x v) (hs : scalD x = true) : VR imm' w' x v := by
  cases x with
  | tuple xs =>
    cases h with
    | tuple xs vs hl hv => exact .tuple xs vs hl (fun j y u hy hu => (hv j y u hy hu).of_scal2 ((List.all_eq_true.1 hs) y (List.mem_of_getElem? hy)))
  | _ => exact h.of_scal2 hs

inductive ACallT (C : Cx) (f : FuncId) (args : List AV) (L : AHeap) (K : AV → AHeap → Prop) (KP : Value → AHeap → Prop) : Prop where
  | ok (h : ACall C f args L K)
  | may (h : ACallE C [] f args L K KP)
  | lendD (args' : List AV) (Q : AV → AHeap → Prop) (hl : Lends L args args') (h : FnSpec C f args' [] Q) (k : ∀ r L', Q r L' → scalD r = true ∧ scalL L' = true ∧ ∃ r', Sub r r' ∧ K r' (L ++ L'))

theorem lendD_sound {C : Cx} (hC : C.Ok) {f : FuncId} {args args1 : List AV} {L : AHeap} {K : AV → AHeap → Prop} {Q : AV → AHeap → Prop} (hle : Lends L args args1) (h : FnSpec C f args1 [] Q) (k : ∀ r L', Q r L' → scalD r = true ∧ scalL L' = true ∧ ∃ r', Sub r r' ∧ K r' (L ++ L'))
    {imm : Nat → Prop} {w : World} (hG : C.G imm w) (hs : Sat imm w L) {vs : List Value} (hl : vs.length = args.length) (hv : ∀ (j : Nat) (x : AV) (v : Value), args[j]? = some x → vs[j]? = some v → VR imm w x v) :
    (∃ fn, C.P.funcs[f]? = some fn ∧ (fn.name == "runtime.NumGoroutine") = false ∧ fn.body.isSome = true) ∧
    Calls C.P f vs.toArray w (fun e w' => ∃ v r L' imm', e = .returned v ∧ VR imm' w' r v ∧ Sat imm' w' L' ∧ Tr C.D (Own L) imm w (Own L') imm' w' ∧ K r L') := by
  obtain ⟨hlen1, hat1⟩ := hle.at_
  have hnone : ∀ g, ¬ Own ([] : AHeap) g := fun g ⟨k, g', o, hk, _⟩ => by simp at hk
  have hlt' : ∀ i, imm i ∨ Own L i → i < w.heap.size := fun i hi => hi.elim (hs.immlt i) (hs.lt i)
  refine ⟨h.1, (h.2 (fun i => imm i ∨ Own L i) w vs (hC.mono _ _ _ _ hG (fun _ => .inl) (fun _ _ => rfl)) ⟨by simp, by simp, fun g hg => (hnone g hg).elim, fun g hg => (hnone g hg).elim, hlt'⟩ (by omega) (fun j y v hy hvj => ?_)).mono ?_⟩
  · have hj : j < args.length := by rw [hlen1]; exact (List.getElem?_eq_some_iff.1 hy).1
    exact (hat1 j args[j] y (List.getElem?_eq_getElem hj) hy).VR hs (hv j _ v (List.getElem?_eq_getElem hj) hvj)
  · rintro e w' ⟨v, r, L', imm', rfl, hr, hs', ht, hq⟩
    obtain ⟨hsc, hscL, r', hsub', hk⟩ := k r L' hq
    have hfar : ∀ g, Own L' g → ¬ imm g := fun g hg hi => hs'.far g hg (ht.imm1 g (.inl hi))
    have hs2 : Sat imm w' L' := ⟨fun j g o hj ho => (hs'.holds j g o hj ho).of_scal ((List.all_eq_true.1 hscL) _ (List.mem_of_getElem? hj)), hs'.apart, hfar, hs'.lt, fun g hg => Nat.lt_of_lt_of_le (hs.immlt g hg) ht.size⟩
    have ht2 : Tr C.D (Own (selL L [])) imm w (Own L') imm w' := ⟨ht.drawn, ht.os, ht.tape, ht.output, ht.size, ht.block, fun _ h => h, fun _ h => .inl h, ht.own2⟩
    obtain ⟨m1, m2⟩ := merge_sat (ks := []) hs hs2 ht2
    have hm : mergeL L [] L' = L ++ L' := by
      have : ∀ (L : AHeap) (j : Nat), mergeA [] L' j L = L ++ L' := by
        intro L
        induction L with
        | nil => intro j; rfl
        | cons x L ih => intro j; simp only [mergeA, idxN]; rw [ih]; rfl
      exact this L 0
    rw [hm] at m1 m2
    exact ⟨v, r', _, imm, rfl, hsub' _ _ _ (hr.of_scalD hsc), m1, m2, hk⟩

def strI (l : List Int) : ByteArray := ⟨(l.map fun n => UInt8.ofNat n.toNat).toArray⟩
def u8B (P : Program) (e : TypeId) : Bool := match P.underlying e with
  | some (.int .u8) => true
  | _ => false
def aconv (C : Cx) (src dst : TypeId) (x : AV) (K : AV → Prop) : Prop :=
  match C.T src, C.T dst, x with
  | some (.slice e _ _ _ _), some (.one .string _), .ro 1 xs n => u8B C.P e = true ∧ ∃ l : List Int, xs.take n = l.map (.int .u8) ∧ K (.str (strI l))
  | _, _, _ => False

def ifaceB (P : Program) (t : TypeId) : Bool := match P.underlying t with
  | some (.interface _) => true
  | _ => false
def aopT (C : Cx) (o : Oper) (env : List AV) (L : AHeap) (K : AV → AHeap → Prop) (KP : Value → AHeap → Prop) : Prop :=
  match o.op with
  | .call { callee := .value x, args, .. } => match afun (aeval env x) with
    | some f => evalsK env args.toList fun vs => ACallT C f vs L K KP
    | none => False
  | .panic x => match aeval env x with
    | .any (.iface t v) => KP (.iface t v) L
    | _ => False
  | .makeInterface t x => match aeval env x with
    | .agg [] => concB C.P t = true ∧ K (.any (.iface t (.agg #[]))) L
    | _ => False
  | .typeAssert x _ t true => match aeval env x with
    | .any (.iface t' v) => v = .agg #[] ∧ t' = t ∧ concB C.P t = true ∧ K (.tuple [.agg [], .bool true]) L
    | _ => False
  | .binOp .neq t x (.const .nilIface) _ => match aeval env x with
    | .any (.iface _ _) => ifaceB C.P t = true ∧ K (.bool true) L
    | .any .nilIface => ifaceB C.P t = true ∧ K (.bool false) L
    | _ => False
  | .convert src dst x => match C.T src with
    | some (.slice ..) => aconv C src dst (aeval env x) fun v => K v L
    | _ => aopF C o env L K
  | _ => aopF C o env L K

theorem run_call {C : Cx} {o : Oper} {x : Operand} {args : Array Operand} {ts : Array TypeId} (ho : o.op = .call { callee := .value x, args := args, argTypes := ts }) {a : Act} {f : FuncId} {fn : Func} {w : World}
    (hxv : a.eval x = .func (.func f) #[] #[]) (hf : C.P.funcs[f]? = some fn) (hname : (fn.name == "runtime.NumGoroutine") = false) (hb : fn.body.isSome = true) : (execOp a.eval o).run C.P w = .ok (.enter f (args.map a.eval)) w := by
  have h1 : fn.name ≠ "runtime.NumGoroutine" := by simpa using hname
  obtain ⟨cc, hcc⟩ := Option.isSome_iff_exists.1 hb
  unfold execOp
  simp [ho, hxv, resolve, Deferred.ofValue, invoke, callFunc, hf, h1, hcc]

theorem run_iface {C : Cx} {o : Oper} {t : TypeId} {x : Operand} (ho : o.op = .makeInterface t x) {a : Act} {w : World} (ht : concB C.P t = true) : (execOp a.eval o).run C.P w = .ok (.value (.iface t (a.eval x))) w := by
  unfold concB at ht
  split at ht
  case h_2 => cases ht
  rename_i fs hu
  simp [execOp, ho, Instr.makeInterface, run_underlying hu]

theorem aconv_sound {C : Cx} (hC : C.Ok) {src dst : TypeId} {x : AV} {K : AV → Prop} (h : aconv C src dst x K) {imm : Nat → Prop} {w : World} {v : Value} (hx : VR imm w x v) :
    ∃ u y, (convert src dst v).run C.P w = .ok u w ∧ VR imm w y u ∧ K y := by
  unfold aconv at h
  split at h
  case h_2 => exact h.elim
  rename_i e sz by_ ea zs zd xs n hs hd
  obtain ⟨hu8, l, hl, hk⟩ := h
  obtain ⟨hus, _⟩ := tiOf_slice (hC.types _ _ hs)
  have hud := tiOf_one (hC.types _ _ hd)
  have hue : C.P.underlying e = some (.int .u8) := by
    unfold u8B at hu8
    split at hu8
    · assumption
    · cases hu8
  cases hx with
  | ro _ _ _ A cap vs hn hcap hsz hvl ha h1 hv =>
    have hll : l.length = n := by
      have := congrArg List.length hl
      rw [List.length_take, List.length_map] at this
      omega
    have hflat : ∀ (ys : List AV), (∀ y ∈ ys, (flat y).length = 1) → (flats ys).length = ys.length := fun ys => by
      induction ys with
      | nil => intro _; rfl
      | cons y ys ih =>
        intro hy
        rw [flats_cons, List.length_append, ih (fun z hz => hy z (by simp [hz])), hy y (by simp)]
        simp; omega
    have hxl := hflat xs hsz
    have hat : ∀ (j : Nat) (b : Int), l[j]? = some b → (flats xs)[j]? = some (.int .u8 b) := by
      have : ∀ (xs : List AV) (l : List Int) (n : Nat), (∀ y ∈ xs, (flat y).length = 1) → xs.take n = l.map (.int .u8) → ∀ (j : Nat) (b : Int), l[j]? = some b → (flats xs)[j]? = some (.int .u8 b) := by
        intro xs
        induction xs with
        | nil => intro l n _ hl j b hj; cases l with
          | nil => simp at hj
          | cons => simp at hl
        | cons y ys ih =>
          intro l n hy hl j b hj
          cases l with
          | nil => simp at hj
          | cons c l =>
            cases n with
            | zero => simp at hl
            | succ n =>
              simp only [List.take_succ_cons, List.map_cons, List.cons.injEq] at hl
              obtain ⟨rfl, hl⟩ := hl
              rw [flats_cons]
              cases j with
              | zero => simp at hj; subst hj; rfl
              | succ j => exact ih l n (fun z hz => hy z (by simp [hz])) hl j b (by simpa using hj)
      exact this xs l n hsz hl
    have hvs : ∀ (j : Nat) (b : Int), l[j]? = some b → vs[j]? = some (.int .u8 b) := fun j b hj => by
      have hf := hat j b hj
      have hlt : j < vs.length := by rw [hvl]; exact (List.getElem?_eq_some_iff.1 hf).1
      have := hv j _ _ hf (List.getElem?_eq_getElem hlt)
      generalize hg : vs[j] = u at this
      cases this
      rw [List.getElem?_eq_getElem hlt, hg]
    have hstr : strI l = l.foldl (fun r n => r.push (UInt8.ofNat n.toNat)) ByteArray.empty := by
      have : ∀ (l : List Int) (s : ByteArray), l.foldl (fun r n => r.push (UInt8.ofNat n.toNat)) s = ⟨s.data ++ (l.map fun n => UInt8.ofNat n.toNat).toArray⟩ := by
        intro l
        induction l with
        | nil => intro s; simp
        | cons n l ih => intro s; rw [List.foldl_cons, ih]; simp [ByteArray.push]
      rw [this]
      simp [strI, ByteArray.empty, ByteArray.emptyWithCapacity]
      rfl
    refine ⟨.string (strI l), .str (strI l), ?_, .str _, hk⟩
    cases A with
    | none =>
      have hx0 : xs.length = 0 := by
        rcases Nat.eq_zero_or_pos xs.length with h0 | h0
        · exact h0
        · obtain ⟨a, e, _⟩ := ha h0; cases e
      have : l = [] := List.eq_nil_of_length_eq_zero (by omega)
      subst this
      rw [run_convert_bytes_string w src dst e _ _ _ hus hue hud]
      simp [Conv.bytesToString, strI, ByteArray.empty, ByteArray.emptyWithCapacity]
      rfl
    | some a =>
      rw [run_convert_bytes_string w src dst e _ _ _ hus hue hud, hstr]
      refine run_bytesToString w a n cap l ?_
      have := run_loadCells_list (P := C.P) w a (l.map (Value.int .u8)) (fun j u hj => by
        rw [List.getElem?_map] at hj
        cases hlj : l[j]? with
        | none => rw [hlj] at hj; cases hj
        | some b =>
          rw [hlj] at hj
          cases hj
          have hlt : 0 < xs.length := by have := (List.getElem?_eq_some_iff.1 hlj).1; omega
          obtain ⟨a', e, _, hc⟩ := ha hlt
          cases e
          exact hc j _ (hvs j b hlj))
      simpa [hll] using this

theorem run_iface_ne {P : Program} {w : World} {t u : TypeId} {v : Value} {ms : Array (String × TypeId)} (hu : P.underlying t = some (.interface ms)) : (Op.equal t (.iface u v) .nilIface).run P w = .ok false w := by
  unfold Op.equal
  obtain ⟨d, hd⟩ : ∃ d, Op.maxDepth = d + 1 := ⟨9999, rfl⟩
  rw [hd]
  simp [Op.equalIn, run_underlying hu]
theorem run_iface_nil {P : Program} {w : World} {t : TypeId} {ms : Array (String × TypeId)} (hu : P.underlying t = some (.interface ms)) : (Op.equal t .nilIface .nilIface).run P w = .ok true w := by
  unfold Op.equal
  obtain ⟨d, hd⟩ : ∃ d, Op.maxDepth = d + 1 := ⟨9999, rfl⟩
  rw [hd]
  simp [Op.equalIn, run_underlying hu]
theorem aopT_sound {C : Cx} (hC : C.Ok) {o : Oper} {env : List AV} {L : AHeap} {K : AV → AHeap → Prop} {KP : Value → AHeap → Prop} (h : aopT C o env L K KP) {imm : Nat → Prop} {w : World} {a : Act} (hG : C.G imm w) (hs : Sat imm w L) (he : EnvR imm w env a.tmps)
    {next : Act → World → Prop} {Q : Exit → Act → World → Prop}
    (hn : ∀ x L' imm' v w', K x L' → Sat imm' w' L' → VR imm' w' x v → Tr C.D (Own L) imm w (Own L') imm' w' → next (a.put o.dst v) w')
    (hp : ∀ v L' imm' w', KP v L' → Sat imm' w' L' → Tr C.D (Own L) imm w (Own L') imm' w' → Q (.panic (chain1 v)) a w') : o.wp C.P a w next Q := by
  unfold aopT at h
  split at h
  · rename_i x args ts ho
    have hx := aeval_VR he x
    split at h
    case h_2 => exact h.elim
    rename_i f hfx
    rw [evalsK_eq] at h
    have hxv := afun_VR hx hfx
    obtain ⟨hl, hv⟩ := args_VR he args
    cases h with
    | ok h =>
      refine aop_sound hC (o := o) (env := env) (L := L) (K := K) ?_ hG hs he hn
      unfold aop
      rw [ho]
      simp only [hfx]
      exact h
    | may h =>
      obtain ⟨⟨fn, hf, hname, hb⟩, hc⟩ := ACallE.sound hC h hG hs hl hv
      rw [Array.toArray_toList] at hc
      unfold Oper.wp
      rw [run_call ho hxv hf hname hb, Oper.upon_enter]
      refine hc.mono fun e w'' hh => ?_
      rcases hh with ⟨v, r, L', imm', rfl, a1, a2, a3, _, _, a6⟩ | ⟨v, L', imm', rfl, a2, a3, a6⟩
      · exact hn r L' imm' v w'' a6 a2 a1 a3
      · exact hp v L' imm' w'' a6 a2 a3
    | lendD args' Q' hle h k =>
      obtain ⟨⟨fn, hf, hname, hb⟩, hc⟩ := lendD_sound hC hle h k hG hs hl hv
      rw [Array.toArray_toList] at hc
      unfold Oper.wp
      rw [run_call ho hxv hf hname hb, Oper.upon_enter]
      refine hc.mono fun e w'' hh => ?_
      obtain ⟨v, r, L', imm', rfl, a1, a2, a3, a6⟩ := hh
      exact hn r L' imm' v w'' a6 a2 a1 a3
  · rename_i x ho
    have hx := aeval_VR he x
    split at h
    case h_2 => exact h.elim
    rename_i t v hev
    rw [hev] at hx
    generalize hxx : a.eval x = u at hx
    cases hx
    have hrun : (execOp a.eval o).run C.P w = .halt (.panic (.iface t v)) w := by
      unfold execOp
      have hr : (Instr.panic (Value.iface t v)).run C.P w = .halt (.panic (.iface t v)) w := rfl
      simp [ho, hxx, hr]
    unfold Oper.wp
    rw [hrun, Oper.upon_panic]
    exact hp _ _ imm w h hs (Tr.refl _ _ _)
  · rename_i t x ho
    have hx := aeval_VR he x
    split at h
    case h_2 => exact h.elim
    rename_i hev
    obtain ⟨ht, h⟩ := h
    rw [hev] at hx
    have hxx : a.eval x = .agg #[] := by
      generalize a.eval x = u at hx
      cases hx with
      | agg xs vs hl =>
        have := List.eq_nil_of_length_eq_zero (l := vs) (by have := hl; simp only [List.length_nil] at this; omega)
        rw [this]
    refine wp_value (v := .iface t (.agg #[])) ?_ (hn _ _ _ _ _ h hs (.any _) (Tr.refl _ _ _))
    rw [run_iface ho ht, hxx]
  · rename_i x xt t ho
    have hx := aeval_VR he x
    split at h
    case h_2 => exact h.elim
    rename_i t' v hev
    obtain ⟨rfl, rfl, ht, h⟩ := h
    rw [hev] at hx
    generalize hxx : a.eval x = u at hx
    cases hx
    have hrun : (execOp a.eval o).run C.P w = .ok (.value (.tuple #[.agg #[], .bool true])) w := by
      unfold concB at ht
      split at ht
      case h_2 => cases ht
      rename_i fs hu
      simp [execOp, ho, hxx, Instr.typeAssert, run_underlying hu]
    refine wp_value hrun (hn _ _ _ _ _ h hs ?_ (Tr.refl _ _ _))
    exact VR.tuple [.agg [], .bool true] [.agg #[], .bool true] rfl (fun j y u hy hu => by
      match j, hy, hu with
      | 0, hy, hu => simp at hy hu; subst hy; subst hu; exact .agg [] [] rfl (by simp) (by simp)
      | 1, hy, hu => simp at hy hu; subst hy; subst hu; exact .bool true
      | j + 2, hy, _ => simp at hy)
  · rename_i xt x r ho
    have hx := aeval_VR he x
    split at h
    · rename_i t v hev
      rw [hev] at hx
      generalize hxx : a.eval x = u at hx
      cases hx
      obtain ⟨ht, h⟩ := h
      have hrun : (execOp a.eval o).run C.P w = .ok (.value (.bool true)) w := by
        unfold ifaceB at ht
        split at ht
        case h_2 => cases ht
        rename_i ms hu
        have hc : a.eval (.const .nilIface) = .nilIface := rfl
        simp [execOp, ho, hxx, hc, eqGuard, binOp, run_iface_ne hu]
      exact wp_value hrun (hn _ _ _ _ _ h hs (.bool true) (Tr.refl _ _ _))
    · rename_i hev
      rw [hev] at hx
      generalize hxx : a.eval x = u at hx
      cases hx
      obtain ⟨ht, h⟩ := h
      have hrun : (execOp a.eval o).run C.P w = .ok (.value (.bool false)) w := by
        unfold ifaceB at ht
        split at ht
        case h_2 => cases ht
        rename_i ms hu
        have hc : a.eval (.const .nilIface) = .nilIface := rfl
        simp [execOp, ho, hxx, hc, eqGuard, binOp, run_iface_nil hu]
      exact wp_value hrun (hn _ _ _ _ _ h hs (.bool false) (Tr.refl _ _ _))
    · exact h.elim
  · rename_i src dst x ho
    split at h
    · obtain ⟨u, y, hr, hy, hk⟩ := aconv_sound hC h (aeval_VR he x)
      exact wp_value (by simp [execOp, ho, hr]) (hn _ _ _ _ _ hk hs hy (Tr.refl _ _ _))
    · rw [aopF_fun] at h
      exact aop_sound hC h hG hs he hn
  · rw [aopF_fun] at h
    exact aop_sound hC h hG hs he hn

def awpOpsT (C : Cx) (ops : Array Oper) (KP : Value → List AV → AHeap → Prop) : List Oper → (List AV → AHeap → Prop) → List AV → AHeap → Prop
  | [], Q, env, L => Q env L
  | o :: rest, Q, env, L => aoperG (fun o env L K => aopT C o env L K fun v L' => KP v env L') ops o env L fun env' L' => awpOpsT C ops KP rest Q env' L'

structure OpsT (C : Cx) (Q : Exit → List AV → AHeap → Prop) (k : List Frame) (ops : Array Oper) (rest : List Oper) (env : List AV) (L : AHeap) : Prop where
  ok : awpOpsT C ops (fun v => after C Q k (.panic (chain1 v))) rest (after C Q k .normal) env L
section
variable {C : Cx} {Q : Exit → List AV → AHeap → Prop} {k : List Frame} {env : List AV} {L : AHeap}
theorem OpsT.nil {ops : Array Oper} (h : Cont C Q k .normal env L) : OpsT C Q k ops [] env L := ⟨h.ok⟩
theorem OpsT.cons {ops : Array Oper} {o : Oper} {rest : List Oper} (h : aoperG (fun o env L K => aopT C o env L K fun v L' => Cont C Q k (.panic (chain1 v)) env L') ops o env L fun env' L' => OpsT C Q k ops rest env' L') : OpsT C Q k ops (o :: rest) env L := by
  have e : (fun env' L' => OpsT C Q k ops rest env' L') = fun env' L' => awpOpsT C ops (fun v => after C Q k (.panic (chain1 v))) rest (after C Q k .normal) env' L' := by
    funext env' L'
    exact propext ⟨fun h => h.ok, fun h => ⟨h⟩⟩
  have e2 : (fun (o : Oper) (env : List AV) (L : AHeap) (K : AV → AHeap → Prop) => aopT C o env L K fun v L' => Cont C Q k (.panic (chain1 v)) env L') = fun o env L K => aopT C o env L K fun v L' => after C Q k (.panic (chain1 v)) env L' := by
    funext o env L K
    congr 1
    funext v L'
    exact propext ⟨fun h => h.ok, fun h => ⟨h⟩⟩
  rw [e, e2] at h
  exact ⟨h⟩
end
end Go.Proofs.YtgpbppkmmlclfaaDoor.HB
/- Maps: values told wholly, keys, look-ups. -/
namespace Go.Proofs.YtgpbppkmmlclfaaDoor.HB
open Go

def toV1 : AV → Option Value
  | .bool b => some (.bool b)
  | .int k n => some (.int k n)
  | .str s => some (.string s)
  | .nilp => some (.pointer none)
  | .ptr _ g off => some (.pointer (some ⟨g, off, none⟩))
  | .el _ g _ sz i off => some (.pointer (some ⟨g, i * sz + off, none⟩))
  | .nils => some (.slice none 0 0)
  | .sl _ g C n => some (.slice (some ⟨g, 0, none⟩) n C)
  | .any v => if v.oneCell' then some v else none
  | _ => none
def toVs : List AV → Option (List Value)
  | [] => some []
  | x :: xs => match toV1 x, toVs xs with
    | some v, some vs => some (v :: vs)
    | _, _ => none
def toV : AV → Option Value
  | .agg xs => match toVs xs with
    | some vs => some (.agg vs.toArray)
    | none => none
  | x => toV1 x

theorem toV1_spec {imm : Nat → Prop} {w : World} {x : AV} {u v : Value} (h : toV1 x = some u) (hv : VR imm w x v) : v = u := by
  cases hv <;> simp only [toV1] at h <;> first | (cases h; rfl) | (cases h; done) | skip
  case any => split at h <;> cases h; rfl
theorem toV1_VR {x : AV} {u : Value} (h : toV1 x = some u) (imm : Nat → Prop) (w : World) : VR imm w x u ∧ u.oneCell' = true := by
  cases x <;> simp only [toV1] at h <;> first | (cases h; done) | (cases h; exact ⟨by constructor, rfl⟩) | skip
  case any v => split at h <;> cases h; rename_i h1; exact ⟨.any _, h1⟩
theorem toVs_spec {imm : Nat → Prop} {w : World} : ∀ {xs : List AV} {us vs : List Value}, toVs xs = some us → vs.length = xs.length → (∀ (j : Nat) (y : AV) (u : Value), xs[j]? = some y → vs[j]? = some u → VR imm w y u) → vs = us
  | [], us, vs, h, hl, _ => by
    cases h
    exact List.eq_nil_of_length_eq_zero (by simpa using hl)
  | x :: xs, us, [], _, hl, _ => by simp at hl
  | x :: xs, us, v :: vs, h, hl, hv => by
    simp only [toVs] at h
    split at h
    · rename_i u us' h1 h2
      cases h
      have e1 := toV1_spec h1 (hv 0 x v rfl rfl)
      have e2 : vs = us' := toVs_spec h2 (by simpa using hl) (fun j y w hy hw => hv (j + 1) y w (by simpa using hy) (by simpa using hw))
      rw [e1, e2]
    · cases h
theorem toVs_VR : ∀ {xs : List AV} {us : List Value}, toVs xs = some us → ∀ (imm : Nat → Prop) (w : World), us.length = xs.length ∧ (∀ u ∈ us, u.oneCell' = true) ∧ ∀ (j : Nat) (y : AV) (u : Value), xs[j]? = some y → us[j]? = some u → VR imm w y u
  | [], us, h, imm, w => by cases h; exact ⟨rfl, by simp, by simp⟩
  | x :: xs, us, h, imm, w => by
    simp only [toVs] at h
    split at h
    · rename_i u us' h1 h2
      cases h
      obtain ⟨a, b, c⟩ := toVs_VR h2 imm w
      obtain ⟨d, e⟩ := toV1_VR h1 imm w
      refine ⟨by simp [a], fun v hv => ?_, fun j y v hy hv => ?_⟩
      · rcases List.mem_cons.1 hv with rfl | hv
        · exact e
        · exact b v hv
      · cases j with
        | zero => simp at hy hv; subst hy; subst hv; exact d
        | succ j => exact c j y v (by simpa using hy) (by simpa using hv)
    · cases h
theorem toV_of {x : AV} (h : ∀ xs, x ≠ .agg xs) : toV x = toV1 x := by
  cases x <;> first | rfl | exact absurd rfl (h _)
theorem toV_spec {imm : Nat → Prop} {w : World} {x : AV} {u v : Value} (h : toV x = some u) (hv : VR imm w x v) : v = u := by
  cases x with
  | agg xs =>
    simp only [toV] at h
    split at h
    · rename_i us h1
      cases h
      cases hv with
      | agg _ vs hl h2 h3 => rw [toVs_spec h1 hl h3]
    · cases h
  | _ => rw [toV_of (by simp)] at h; exact toV1_spec h hv
theorem toV_VR {x : AV} {u : Value} (h : toV x = some u) (imm : Nat → Prop) (w : World) : VR imm w x u := by
  cases x with
  | agg xs =>
    simp only [toV] at h
    split at h
    · rename_i us h1
      cases h
      obtain ⟨a, b, c⟩ := toVs_VR h1 imm w
      exact .agg xs us a b c
    · cases h
  | _ => rw [toV_of (by simp)] at h; exact (toV1_VR h imm w).1

def keyB (P : Program) (kt : TypeId) : Bool := match P.underlying kt with
  | some (.int _) | some .string | some .bool => true
  | _ => false
def findAt (P : Program) (kt : TypeId) (kv : Value) (es : List MapEntry) : Option (Option (Nat × Value)) := match P.underlying kt with
  | some d => Instr.findNow d kv es 0
  | none => none
theorem keyB_spec {P : Program} {kt : TypeId} (h : keyB P kt = true) : ∃ d, P.underlying kt = some d ∧ (∃ k, d = .int k) ∨ P.underlying kt = some .string ∨ P.underlying kt = some .bool := by
  unfold keyB at h
  split at h
  · rename_i k e; exact ⟨_, .inl ⟨e, k, rfl⟩⟩
  · rename_i e; exact ⟨.string, .inr (.inl e)⟩
  · rename_i e; exact ⟨.bool, .inr (.inr e)⟩
  · cases h
theorem run_checkKey {P : Program} {kt : TypeId} (h : keyB P kt = true) (b : Bool) (v : Value) (w : World) : (Instr.checkKey b 10000 kt v).run P w = .ok () w := by
  obtain ⟨n, hn⟩ : ∃ n, (10000 : Nat) = n + 1 := ⟨9999, rfl⟩
  rw [hn]
  obtain ⟨d, (⟨e, k, rfl⟩ | e | e)⟩ := keyB_spec h <;> (unfold Instr.checkKey; rw [Sem.run_bind, run_underlying e]; rfl)
theorem run_findKey {P : Program} {kt : TypeId} {kv : Value} {es : List MapEntry} {r : Option (Nat × Value)} (h : findAt P kt kv es = some r) (w : World) : (Instr.findKey kt kv es).run P w = .ok r w := by
  unfold findAt at h
  split at h
  · rename_i d e
    unfold Instr.findKey
    rw [Sem.run_bind, run_underlying e]
    simp [h]
  · cases h
theorem run_getMap {P : Program} {w : World} {r : Nat} {es : Array MapEntry} {clock : Nat} (hb : w.heap[r]? = some (.map es clock)) : (getObj r).run P w = .ok (.map es clock) w := by
  simp [getObj, Sem.run, hb]
theorem run_setMap {P : Program} {w : World} {r : Nat} {es : Array MapEntry} {clock : Nat} (o : Obj) (hb : w.heap[r]? = some (.map es clock)) : (setObj r o).run P w = .ok () { w with heap := w.heap.setIfInBounds r o } := by
  simp [setObj, Sem.run, hb]

def azero (C : Cx) (t : TypeId) (K : AV → Prop) : Prop := match C.T t with
  | some ti => if ti.isAgg then K (.agg ti.zero) else match ti.zero with
    | [c] => K c
    | _ => False
  | none => False
theorem azero_sound {C : Cx} (hC : C.Ok) {t : TypeId} {K : AV → Prop} (h : azero C t K) (imm : Nat → Prop) (w : World) : ∃ z y, (∀ w', (zeroValue t).run C.P w' = .ok z w') ∧ VR imm w y z ∧ K y := by
  unfold azero at h
  split at h
  case h_2 => exact h.elim
  rename_i ti ht
  obtain ⟨i, d, z, hi, hd, hz, hsz, hag, hzs, h1, hzo, hA, hB⟩ := (tiOf_spec (hC.types _ _ ht)).ok
  have hrun : ∀ w', (zeroValue t).run C.P w' = .ok z w' := fun w' => by simp [zeroValue, typeInfo, hi, hz]
  have hx := map_ofV_VRs imm w z.cells.toList h1
  rw [hzo] at hx
  split at h
  · rename_i hg
    obtain ⟨cs, rfl⟩ := hA hg
    refine ⟨_, _, hrun, ?_, h⟩
    have := VR.agg (imm := imm) (w := w) ti.zero (Value.agg cs).cells.toList (by rw [hx.len]) hx.one hx.at_
    simpa [Value.cells] using this
  · rename_i hg
    have hone := hB (by simpa using hg)
    have hc : z.cells.toList = [z] := by cases z <;> simp_all [Value.cells, Value.oneCell']
    split at h
    · rename_i c e
      rw [e, hc] at hx
      exact ⟨_, _, hrun, hx.at_ 0 c z rfl rfl, h⟩
    · exact h.elim

theorem toV_eval {imm : Nat → Prop} {w : World} {env : List AV} {a : Act} (he : EnvR imm w env a.tmps) {x : Operand} {u : Value} (h : toV (aeval env x) = some u) : a.eval x = u := toV_spec h (aeval_VR he x)
inductive VRl (imm : Nat → Prop) (w : World) : List AV → List Value → Prop where
  | nil : VRl imm w [] []
  | cons {x : AV} {v : Value} {xs : List AV} {vs : List Value} (h : VR imm w x v) (t : VRl imm w xs vs) : VRl imm w (x :: xs) (v :: vs)
theorem tuple_VR {imm : Nat → Prop} {w : World} {xs : List AV} {vs : List Value} (h : VRl imm w xs vs) : VR imm w (.tuple xs) (.tuple vs.toArray) := by
  refine .tuple xs vs ?_ ?_
  · induction h with
    | nil => rfl
    | cons _ _ ih => simp [ih]
  · induction h with
    | nil => intro j y u hy hu; simp at hy
    | cons hx _ ih =>
      intro j y u hy hu
      cases j with
      | zero => simp at hy hu; subst hy; subst hu; exact hx
      | succ j => exact ih j y u (by simpa using hy) (by simpa using hu)
theorem findAt_nil {P : Program} {kt : TypeId} (h : keyB P kt = true) (kv : Value) : findAt P kt kv [] = some none := by
  obtain ⟨d, (⟨e, k, rfl⟩ | e | e)⟩ := keyB_spec h <;> (unfold findAt; rw [e]; rfl)
theorem map_get {imm : Nat → Prop} {w : World} {L : AHeap} (hs : Sat imm w L) {k g : Nat} {o : Obj} (hk : L[k]? = some (g, .obj o)) : w.heap[g]? = some o := by
  have hh := hs.holds k g _ hk trivial
  cases hh with
  | obj _ hg => exact hg

def alook (C : Cx) (r : Option (Nat × Value)) (vt : TypeId) (ok : Bool) (K : AV → Prop) : Prop := match r with
  | none => azero C vt fun z => K (if ok then .tuple [z, .bool false] else z)
  | some (_, v) => ∃ y, toV y = some v ∧ K (if ok then .tuple [y, .bool true] else y)
def alookup (C : Cx) (ks : Nat → Prop) (t : TypeId) (x ix : AV) (ok : Bool) (L : AHeap) (K : AV → Prop) : Prop := match C.P.underlying t, toV x, toV ix with
  | some (.map kt vt), some (.map none), some _ => keyB C.P kt = true ∧ alook C none vt ok K
  | some (.map kt vt), some (.map (some g)), some kv => keyB C.P kt = true ∧ ∃ (k : Nat) (es : Array MapEntry) (clock : Nat) (r : Option (Nat × Value)), ks k ∧ L[k]? = some (g, AObj.obj (.map es clock)) ∧ findAt C.P kt kv es.toList = some r ∧ alook C r vt ok K
  | _, _, _ => False
theorem alookup_sound {C : Cx} (hC : C.Ok) {ks : Nat → Prop} {t : TypeId} {x ix : Operand} {ok : Bool} {env : List AV} {L : AHeap} {K : AV → Prop} (h : alookup C ks t (aeval env x) (aeval env ix) ok L K) {imm : Nat → Prop} {w : World} {a : Act} (hs : Sat imm w L) (he : EnvR imm w env a.tmps) :
    ∃ v y, (∀ w', (∀ (k g : Nat) (o : Obj), ks k → L[k]? = some (g, .obj o) → w'.heap[g]? = w.heap[g]?) → (Instr.lookup t (a.eval x) (a.eval ix) ok).run C.P w' = .ok v w') ∧ VR imm w y v ∧ K y := by
  unfold alookup at h
  split at h
  · rename_i kt vt kv hu hx hk
    obtain ⟨hkb, h⟩ := h
    have hxe := toV_eval he hx
    have hke := toV_eval he hk
    obtain ⟨z, y, hz, hy, h⟩ := azero_sound hC h imm w
    refine ⟨if ok then .tuple #[z, .bool false] else z, _, fun w' _ => ?_, ?_, h⟩
    · simp [Instr.lookup, run_underlying hu, hxe, hke, run_checkKey hkb, run_findKey (findAt_nil hkb kv), hz]
    · cases ok
      · exact hy
      · exact tuple_VR (.cons hy (.cons (.bool false) .nil))
  · rename_i kt vt g kv hu hx hk
    obtain ⟨hkb, k, es, clock, r, hks, hL, hr, h⟩ := h
    have hxe := toV_eval he hx
    have hke := toV_eval he hk
    have hg := map_get hs hL
    cases r with
    | none =>
      obtain ⟨z, y, hz, hy, h⟩ := azero_sound hC h imm w
      refine ⟨if ok then .tuple #[z, .bool false] else z, _, fun w' hsame => ?_, ?_, h⟩
      · have hg' := (hsame k g _ hks hL).trans hg
        simp [Instr.lookup, run_underlying hu, hxe, hke, run_getMap hg', run_checkKey hkb, run_findKey hr, hz]
      · cases ok
        · exact hy
        · exact tuple_VR (.cons hy (.cons (.bool false) .nil))
    | some p =>
      obtain ⟨i, v⟩ := p
      obtain ⟨y, hy, h⟩ := h
      refine ⟨if ok then .tuple #[v, .bool true] else v, _, fun w' hsame => ?_, ?_, h⟩
      · have hg' := (hsame k g _ hks hL).trans hg
        simp [Instr.lookup, run_underlying hu, hxe, hke, run_getMap hg', run_checkKey hkb, run_findKey hr]
      · cases ok
        · exact toV_VR hy _ _
        · exact tuple_VR (.cons (toV_VR hy _ _) (.cons (.bool true) .nil))
  · exact h.elim
end Go.Proofs.YtgpbppkmmlclfaaDoor.HB
/- Regions that draw their order, with calls that may panic, things that are made, and writes at the end. -/
namespace Go.Proofs.YtgpbppkmmlclfaaDoor.HB
open Go

/-! ### What a panic leaves of a region's slots: nothing is said of them -/
def junkD (ops : Array Oper) (env : List AV) : List AV := ops.toList.foldl (fun e o => putA e o.dst .junk) env
theorem putA_len (e : List AV) (d : Option Tmp) (x : AV) : (putA e d x).length = e.length := by cases d <;> simp [putA]
theorem junk_fold_len : ∀ (l : List Oper) (e : List AV), (l.foldl (fun e o => putA e o.dst .junk) e).length = e.length
  | [], _ => rfl
  | o :: l, e => by rw [List.foldl_cons, junk_fold_len l, putA_len]
theorem junk_fold_at : ∀ (l : List Oper) (e : List AV) (t : Nat) (x : AV), (l.foldl (fun e o => putA e o.dst .junk) e)[t]? = some x → (x = .junk ∨ (e[t]? = some x ∧ ∀ o ∈ l, o.dst ≠ some t))
  | [], _, _, _, h => .inr ⟨h, by simp⟩
  | o :: l, _, t, x, h => by
    rw [List.foldl_cons] at h
    rcases junk_fold_at l _ t x h with h | ⟨h, hl⟩
    · exact .inl h
    · cases hd : o.dst with
      | none =>
        rw [hd] at h
        exact .inr ⟨h, fun o' ho' => by rcases List.mem_cons.1 ho' with rfl | ho'; rw [hd]; simp; exact hl o' ho'⟩
      | some d =>
        rw [hd] at h
        simp only [putA, List.getElem?_set] at h
        split at h
        · split at h
          · exact .inl (by simpa using h.symm)
          · cases h
        · rename_i hne
          refine .inr ⟨h, fun o' ho' => ?_⟩
          rcases List.mem_cons.1 ho' with rfl | ho'
          · rw [hd]; simpa using hne
          · exact hl o' ho'
structure Blind (ops : Array Oper) (env : List AV) : Prop where
  at_ : ∀ (i : Nat) (o : Oper) (t : Nat) (x : AV), ops[i]? = some o → o.dst = some t → env[t]? = some x → x = .junk
theorem junkD_blind (ops : Array Oper) (env : List AV) : Blind ops (junkD ops env) := ⟨fun i o t x ho hd hx => by
  rcases junk_fold_at _ _ _ _ hx with h | ⟨_, h⟩
  · exact h
  · exact absurd hd (h o (Array.mem_toList_iff.2 (Array.mem_of_getElem? ho)))⟩
theorem wk_of_at : ∀ {xs ys : List AV}, ys.length ≤ xs.length → (∀ (_t : Nat) (_y : AV), ys[_t]? = some _y → _y = .junk ∨ xs[_t]? = some _y) → wk xs ys
  | [], [], _, _ => trivial
  | _ :: _, [], _, _ => trivial
  | [], _ :: _, h, _ => by simp at h
  | x :: xs, y :: ys, h, hh => ⟨by simpa using hh 0 y rfl, wk_of_at (by simpa using h) fun t z hz => by simpa using hh (t + 1) z (by simpa using hz)⟩
theorem junkD_wk (ops : Array Oper) (env : List AV) : wk env (junkD ops env) :=
  wk_of_at (Nat.le_of_eq (junk_fold_len _ _)) fun _ _ hy => (junk_fold_at _ _ _ _ hy).imp id fun h => h.1
theorem wk_putA {env J : List AV} {d : Option Tmp} {x : AV} (h : wk env J) (hJ : ∀ (t : Nat) (y : AV), d = some t → J[t]? = some y → y = .junk) : wk (putA env d x) J := by
  obtain ⟨hl, hh⟩ := wk_at h
  refine wk_of_at (by rw [putA_len]; exact hl) fun t y hy => ?_
  cases d with
  | none => exact hh t y hy
  | some d =>
    by_cases e : d = t
    · subst e; exact .inl (hJ d y rfl hy)
    · rcases hh t y hy with h | h
      · exact .inl h
      · refine .inr ?_
        simp only [putA]
        rw [List.getElem?_set_ne e]
        exact h
theorem put_size (a : Act) (d : Option Tmp) (v : Value) : (a.put d v).tmps.size = a.tmps.size := by cases d <;> simp [Act.put]
theorem put_at (a : Act) (d : Tmp) (v : Value) (t : Nat) (h : d ≠ t) : (a.put (some d) v).tmps[t]? = a.tmps[t]? := by
  simp only [Act.put]
  rw [Array.getElem?_setIfInBounds]
  rw [if_neg h]
theorem At.unput {C : Cx} {F : Fr} {J : List AV} {L : AHeap} {a : Act} {w : World} {d : Option Tmp} {v : Value} (h : At C F J L (a.put d v) w) (hJ : ∀ (t : Nat) (y : AV), d = some t → J[t]? = some y → y = .junk) : At C F J L a w := by
  obtain ⟨imm, hst, hG⟩ := h
  refine ⟨imm, ⟨hst.sat, ⟨?_, fun t x u hx hu => ?_⟩, hst.tr, by rw [← hst.defers]; exact (put_defers a d v).symm⟩, hG⟩
  · have := hst.env.len
    rwa [put_size] at this
  · cases d with
    | none => exact hst.env.at_ t x u hx hu
    | some d =>
      by_cases e : d = t
      · subst e
        rw [hJ d x rfl hx]
        exact .junk u
      · exact hst.env.at_ t x u hx (by rw [put_at a d v t e]; exact hu)

/-! ### The order -/
def waitsT (ops : Array Oper) : Nat → Nat → Nat → Bool
  | 0, _, _ => false
  | n + 1, k, i => match ops[k]? with
    | some o => o.after.any fun e => Region.binds .any e && (e.on == i || waitsT ops n e.on i)
    | none => false
theorem waitsT_step {ops : Array Oper} {j s : Nat} {o : Oper} (ho : ops[j]? = some o) {e : _} (he : e ∈ o.after) (hb : Region.binds .any e = true) (hs : e.on = s) : ∀ (n k : Nat), waitsT ops n k j = true → ∃ m, waitsT ops m k s = true
  | 0, _, h => by cases h
  | n + 1, k, h => by
    unfold waitsT at h
    split at h
    · rename_i ok hok
      obtain ⟨e', he', hb'⟩ := Array.any_eq_true'.1 h
      simp only [Bool.and_eq_true, Bool.or_eq_true, beq_iff_eq] at hb'
      have up : ∀ m, waitsT ops m e'.on s = true → ∃ m, waitsT ops m k s = true := fun m hm => ⟨m + 1, by
        unfold waitsT
        rw [hok]
        exact Array.any_eq_true'.2 ⟨e', he', by simp [hb'.1, hm]⟩⟩
      rcases hb'.2 with e1 | h2
      · refine up 1 ?_
        rw [e1]
        unfold waitsT
        rw [ho]
        exact Array.any_eq_true'.2 ⟨e, he, by simp [hb, hs]⟩
      · obtain ⟨m, hm⟩ := waitsT_step ho he hb hs n _ h2
        exact up m hm
    · cases h
def predsA (ops : Array Oper) (j : Nat) : List Nat := match ops[j]? with
  | some o => (o.after.toList.filter (Region.binds .any ·)).map (·.on)
  | none => []
def addN (xs S : List Nat) : List Nat := xs.foldl (fun S x => if S.contains x then S else x :: S) S
def ancA (ops : Array Oper) : Nat → List Nat → List Nat
  | 0, S => S
  | n + 1, S => ancA ops n (if S.contains n then addN (predsA ops n) S else S)
def waitsA (ops : Array Oper) (k i : Nat) : Bool := i != k && (ancA ops (k + 1) [k]).contains i
theorem addN_mem {x : Nat} : ∀ {xs S : List Nat}, x ∈ addN xs S → x ∈ xs ∨ x ∈ S
  | [], _, h => .inr h
  | y :: xs, S, h => by
    have h : x ∈ addN xs (if S.contains y then S else y :: S) := h
    rcases addN_mem h with h | h
    · exact .inl (.tail _ h)
    · split at h
      · exact .inr h
      · rcases List.mem_cons.1 h with rfl | h
        · exact .inl (.head _)
        · exact .inr h
theorem ancA_sound {ops : Array Oper} {k : Nat} : ∀ (n : Nat) (S : List Nat), (∀ s ∈ S, s = k ∨ ∃ m, waitsT ops m k s = true) → ∀ s ∈ ancA ops n S, s = k ∨ ∃ m, waitsT ops m k s = true
  | 0, S, h, s, hs => h s hs
  | n + 1, S, h, s, hs => by
    refine ancA_sound n _ (fun s hs => ?_) s hs
    split at hs
    · rename_i hn
      have hn : n ∈ S := by simpa using hn
      rcases addN_mem hs with hs | hs
      · refine .inr ?_
        unfold predsA at hs
        split at hs
        · rename_i o ho
          obtain ⟨e, he, e1⟩ := List.mem_map.1 hs
          obtain ⟨he, hb⟩ := List.mem_filter.1 he
          rcases h n hn with rfl | ⟨m, hm⟩
          · refine ⟨1, ?_⟩
            unfold waitsT
            rw [ho]
            exact Array.any_eq_true'.2 ⟨e, Array.mem_toList_iff.1 he, by simp [hb, e1]⟩
          · exact waitsT_step ho (Array.mem_toList_iff.1 he) hb e1 m k hm
        · cases hs
      · exact h s hs
    · exact h s hs
theorem waitsA_sound {ops : Array Oper} {k i : Nat} (h : waitsA ops k i = true) : ∃ m, waitsT ops m k i = true := by
  unfold waitsA at h
  simp only [Bool.and_eq_true, bne_iff_ne, ne_eq] at h
  exact (ancA_sound (k + 1) [k] (fun s hs => .inl (by simpa using hs)) i (by simpa using h.2)).resolve_left h.1
def Closed (ops : Array Oper) (listed : Array Bool) : Prop := ∀ (j : Nat) (o : Oper), ops[j]? = some o → listed.getD j false = true → ∀ e ∈ o.after, Region.binds .any e = true → listed.getD e.on false = true
theorem getD_set_true {listed : Array Bool} {i j : Nat} (h : listed.getD i false = true) : (listed.setIfInBounds j true).getD i false = true := by
  by_cases e : j = i
  · subst e
    by_cases hlt : j < listed.size
    · simp [hlt]
    · simp [Array.getElem?_eq_none (Nat.le_of_not_lt hlt)] at h
  · rw [getD_set_ne false e]; exact h
theorem Closed.set {ops : Array Oper} {listed : Array Bool} (h : Closed ops listed) {j : Nat} (hj : j ∈ Region.ready .any ops listed) : Closed ops (listed.setIfInBounds j true) := fun k o ho hk e he hb => by
  by_cases hkj : j = k
  · subst hkj
    obtain ⟨_, o', ho', hall⟩ := mem_ready.1 hj
    rw [ho] at ho'
    cases ho'
    exact getD_set_true (hall e he hb)
  · rw [getD_set_ne false hkj] at hk
    exact getD_set_true (h k o ho hk e he hb)
theorem Closed.waits {ops : Array Oper} {listed : Array Bool} (h : Closed ops listed) : ∀ (n k i : Nat), listed.getD k false = true → waitsT ops n k i = true → listed.getD i false = true
  | 0, _, _, _, hw => by cases hw
  | n + 1, k, i, hk, hw => by
    unfold waitsT at hw
    split at hw
    · rename_i o ho
      obtain ⟨e, he, hb⟩ := Array.any_eq_true'.1 hw
      simp only [Bool.and_eq_true, Bool.or_eq_true, beq_iff_eq] at hb
      have h1 := h k o ho hk e he hb.1
      rcases hb.2 with e1 | h2
      · rw [← e1]; exact h1
      · exact Closed.waits h n _ _ h1 h2
    · cases hw
theorem Closed.ready {ops : Array Oper} {listed : Array Bool} (h : Closed ops listed) {n j i : Nat} (hj : j ∈ Region.ready .any ops listed) (hw : waitsT ops n j i = true) : listed.getD i false = true := by
  obtain ⟨_, o, ho, hall⟩ := mem_ready.1 hj
  cases n with
  | zero => cases hw
  | succ n =>
    unfold waitsT at hw
    rw [ho] at hw
    obtain ⟨e, he, hb⟩ := Array.any_eq_true'.1 hw
    simp only [Bool.and_eq_true, Bool.or_eq_true, beq_iff_eq] at hb
    have h1 := hall e he hb.1
    rcases hb.2 with e1 | h2
    · rw [← e1]; exact h1
    · exact h.waits n _ _ h1 h2

theorem wpAnyT_takeT {P : Program} {ops : Array Oper} {Q : Exit → Act → World → Prop} {S R : World → Prop} {ks : List Nat} {i : Nat} {oi : Oper} {v : Value} (hi : ops[i]? = some oi) (hsel : Region.noSelect ops = true)
    (hQ : ∀ c a w, Q (.panic c) (a.put oi.dst v) w → Q (.panic c) a w) (hk : (R = S ∧ ∀ k ∈ ks, ∃ n, waitsT ops n k i = true) ∨ ∀ w, R w) :
    ∀ (fuel : Nat) (listed : Array Bool) (a : Act) (w : World), Closed ops listed →
      (∀ j oj, ops[j]? = some oj → j ≠ i → listed.getD j true = false → (∀ e ∈ oj.after, Region.binds .any e = true → e.on ≠ i) → oi.apart ops oj = true) →
      i ∈ Region.ready .any ops listed → YieldsIf P ops R oi v a → R w →
      wpAnyT P ops Q S ks fuel (listed.setIfInBounds i true) (a.put oi.dst v) w → wpAnyT P ops Q S ks (fuel + 1) listed a w := by
  have hsel' := Region.noSelect_spec hsel
  intro fuel
  induction fuel with
  | zero =>
    intro listed a w _ _ hr hy hS H
    refine ⟨fun h => (by rw [h] at hr; cases hr), fun j hj => ?_⟩
    by_cases hji : j = i
    · subst hji; exact hy.wpOp hi hS ⟨fun _ h => h, H⟩
    · have := ready_mono hj hji
      rw [H.1] at this
      cases this
  | succ fuel ih =>
    intro listed a w hcl hfree hr hy hS H
    refine ⟨fun h => (by rw [h] at hr; cases hr), fun j hj => ?_⟩
    by_cases hji : j = i
    · subst hji; exact hy.wpOp hi hS ⟨fun _ h => h, H⟩
    obtain ⟨hjun, oj, hoj, hall⟩ := mem_ready.1 hj
    have hiun : ¬ listed.getD i false = true := fun h1 => by
      have h0 := (mem_ready.1 hr).1
      rcases Nat.lt_or_ge i listed.size with h' | h'
      · simp [h'] at h0 h1; rw [h0] at h1; cases h1
      · simp [Array.getElem?_eq_none h'] at h1
    have hnot : ∀ e ∈ oj.after, Region.binds .any e = true → e.on ≠ i := fun e he hb heq => hiun (heq ▸ hall e he hb)
    have hjk : (∀ k ∈ ks, ∃ n, waitsT ops n k i = true) → j ∉ ks := fun hk hm => by
      obtain ⟨n, hk⟩ := hk j hm
      exact hiun (hcl.ready hj hk)
    have h2 := wpOp_putIf hoj (hfree j oj hoj hji hjun hnot) (fun cs b => hsel' i oi cs b hi) (fun cs b => hsel' j oj cs b hoj) hQ hy (H.2 j (ready_mono hj hji))
    have hfree' : ∀ k ok, ops[k]? = some ok → k ≠ i → (listed.setIfInBounds j true).getD k true = false →
        (∀ e ∈ ok.after, Region.binds .any e = true → e.on ≠ i) → oi.apart ops ok = true := fun k ok hk hki hun hno => by
      refine hfree k ok hk hki ?_ hno
      by_cases hjk : j = k
      · subst hjk; exact hjun
      · rw [getD_set_ne true hjk] at hun; exact hun
    refine wpOp_mono (fun a' w' h3 => ?_) h2
    have hR : R w' := by
      rcases hk with ⟨rfl, hk⟩ | hk
      · exact h3.2.1 (hjk hk) hS
      · exact hk w'
    refine ⟨h3.2.1, ih (listed.setIfInBounds j true) a' w' (hcl.set hj) hfree' (ready_mono hr (Ne.symm hji)) h3.1 hR ?_⟩
    rw [Array.setIfInBounds_comm _ _ hji]
    exact h3.2.2

/-! ### Operations of the first part -/
def mkA : Op → Bool
  | .alloc _ | .box .. | .buildSlice .. => true
  | _ => false
def keptK (keys : List Nat) : AV → Bool
  | .ptr k _ _ => keys.contains k
  | .el k _ _ _ _ _ => keys.contains k
  | _ => false
def SameO (L : AHeap) (keys : List Nat) (w w' : World) : Prop := ∀ g, OwnK L keys g → w'.heap[g]? = w.heap[g]?
def aopE (C : Cx) (keys : List Nat) (o : Oper) (env : List AV) (L : AHeap) (K : AV → AHeap → Prop) (KP : Value → AHeap → Prop) : Prop :=
  match o.op with
  | .call { callee := .value x, args, .. } => match afun (aeval env x) with
    | some f => evalsK env args.toList fun vs => ACallE C keys f vs L K KP
    | none => False
  | .load t x => match keptK keys (aeval env x) with
    | true => aopF C { o with op := .load t x } env L K
    | false => False
  | .lookup t x ix ok => alookup C (· ∈ keys) t (aeval env x) (aeval env ix) ok L fun v => K v L
  | op => match movA op, mkA op with
    | true, _ => aopF C o env L K
    | false, true => aopF C o env L K
    | _, _ => False

theorem aptr_keptK {imm : Nat → Prop} {w : World} {L : AHeap} {keys : List Nat} (hs : Sat imm w L) {p : AV} {v : Value} (hp : VR imm w p v) {K : List AV → Prop} (h : aptr L p K) (hk : keptK keys p = true) :
    ∃ a cs vs, v = .pointer (some a) ∧ K cs ∧ VRs imm w cs vs ∧ OwnK L keys a.block ∧ ∀ (j : Nat) (u : Value), vs[j]? = some u → w.cell? (a.add j) = some u := by
  cases hp with
  | ptr k g off =>
    have hkk : k ∈ keys := by simpa [keptK] using hk
    obtain ⟨a, cs, vs, h1, h2, h3, h4, h5⟩ := aptr_sound hs (.ptr k g off) h
    cases h1
    simp only [aptr] at h
    split at h
    · rename_i g' t cs' hl
      obtain ⟨rfl, _⟩ := h
      exact ⟨_, cs, vs, rfl, h2, h3, ⟨k, _, _, hkk, hl, rfl⟩, h5⟩
    · exact h.elim
  | el k g C sz i off =>
    have hkk : k ∈ keys := by simpa [keptK] using hk
    obtain ⟨a, cs, vs, h1, h2, h3, h4, h5⟩ := aptr_sound hs (.el k g C sz i off) h
    cases h1
    simp only [aptr] at h
    split at h
    · rename_i g' e sz' C' xs hl
      obtain ⟨rfl, _⟩ := h
      exact ⟨_, cs, vs, rfl, h2, h3, ⟨k, _, _, hkk, hl, rfl⟩, h5⟩
    · exact h.elim
  | _ => cases hk

theorem aopE_move {C : Cx} (hC : C.Ok) {keys : List Nat} {o : Oper} (hm : movA o.op = true) {env : List AV} {L : AHeap} {K : AV → AHeap → Prop} {KP : Value → AHeap → Prop} (h : aopE C keys o env L K KP) {imm : Nat → Prop} {w : World} {a : Act} (hG : C.G imm w) (hs : Sat imm w L) (he : EnvR imm w env a.tmps) :
    ∃ v x, (∀ w', SameO L keys w w' → (execOp a.eval o).run C.P w' = .ok (.value v) w') ∧ VR imm w x v ∧ K x L := by
  unfold aopE at h
  split at h
  · rename_i x args ts ho; rw [ho] at hm; cases hm
  · rename_i t x ho
    split at h
    case h_2 => exact h.elim
    rename_i hkept
    rw [aopF_fun] at h
    unfold aop at h
    simp only at h
    split at h
    case h_2 => exact h.elim
    rename_i ti ht
    have hti := tiOf_spec (hC.types _ _ ht)
    obtain ⟨ad, cs, vs, hv, h, hvs, him, hc⟩ := aptr_keptK hs (aeval_VR he x) h hkept
    unfold aloadT at h
    split at h
    case isFalse => exact h.elim
    rename_i hle
    obtain ⟨v, hr, hag, hone⟩ := run_loadVar_any (a := ad) hti hvs hle
    have hrun : ∀ w', SameO L keys w w' → (execOp a.eval o).run C.P w' = .ok (.value v) w' := fun w' hsame => by
      have := hr w' (fun j u hj => by
        rw [World.cell?_of_block (w := w)]
        · exact hc j u hj
        · rw [show (ad.add j).block = ad.block by unfold Addr.add; split <;> rfl]; exact hsame _ him)
      simp [execOp, ho, Instr.loadAt, hv, Instr.sureAddr, this]
    split at h
    · rename_i hagg
      refine ⟨_, _, hrun, ?_, h⟩
      rw [hag hagg]
      have := hvs.take ti.size
      exact .agg _ _ this.len this.one this.at_
    · rename_i hagg
      obtain ⟨u, hu, rfl⟩ := hone (by simpa using hagg)
      split at h
      · rename_i c rest
        exact ⟨_, _, hrun, hvs.at_ 0 c v rfl hu, h⟩
      · exact h.elim
  · rename_i t x ix ok ho
    obtain ⟨v, y, hr, hy, hk⟩ := alookup_sound hC h hs he
    refine ⟨v, y, fun w' hsame => ?_, hy, hk⟩
    have := hr w' (fun k g o hk hL => hsame g ⟨k, _, _, hk, hL, rfl⟩)
    simp [execOp, ho, this]
  · rename_i hnc hnl hnk
    rw [hm] at h
    simp only [aopF_fun] at h
    obtain ⟨v, x, hr, hx, hk⟩ := aop_move hC hm h hG hs he
    refine ⟨v, x, fun w' _ => hr w' fun hl => ?_, hx, hk⟩
    cases ho : o.op with
    | load t x => exact absurd ho (hnl t x)
    | lookup t x ix ok => exact absurd ho (hnk t x ix ok)
    | _ => rw [ho] at hl; cases hl

theorem mk_at {C : Cx} (hC : C.Ok) {o : Oper} (hm : mkA o.op = true) {env : List AV} {L : AHeap} {K : AV → AHeap → Prop} (h : aop C o env L K) {imm : Nat → Prop} {w : World} {a : Act} (he : EnvR imm w env a.tmps) :
    ∃ v ob, (execOp a.eval o).run C.P w = .ok (.value v) (w.alloc ob) := by
  unfold aop at h
  cases ho : o.op with
  | box t x =>
    rw [ho] at h
    exact ⟨.pointer (some ⟨w.heap.size, 0, none⟩), .cells (a.eval x).cells t, by simp [execOp, ho, Instr.box, newVar, newRow]⟩
  | alloc t =>
    rw [ho] at h
    simp only at h
    split at h
    case h_2 => exact h.elim
    rename_i ti ht
    obtain ⟨i, d, z, hi, hd, hz, hsz, hag, hzs, h1, hzo, _, _⟩ := (tiOf_spec (hC.types _ _ ht)).ok
    exact ⟨.pointer (some ⟨w.heap.size, 0, none⟩), .cells z.cells t, by simp [execOp, ho, Instr.alloc, zeroValue, typeInfo, hi, hz, newVar, newRow]⟩
  | buildSlice t len parts =>
    rw [ho] at h
    simp only at h
    split at h
    case h_2 => exact h.elim
    rename_i e sz by_ ea zs ht
    split at h
    case isTrue =>
      rename_i hemp
      simp only [Bool.and_eq_true, beq_iff_eq, List.isEmpty_iff] at hemp
      obtain ⟨rfl, hpe⟩ := hemp
      have hpe' : parts = #[] := by rw [← Array.toArray_toList (xs := parts), hpe]
      subst hpe'
      obtain ⟨hu, j, ze, hj, hsz, hby, hze, hzs, hs0, _, _⟩ := tiOf_slice (hC.types _ _ ht)
      exact ⟨.slice (some ⟨w.heap.size, 0, none⟩) 0 0, .cells #[] e, by simp [execOp, ho, Instr.buildSlice, run_underlying hu, sizeOf, typeInfo, hj, Instr.fill, newRow]; congr 2; exact Array.eq_empty_of_size_eq_zero (by simp)⟩
    split at h
    case isFalse => exact h.elim
    rename_i hcond
    simp only [Bool.and_eq_true, beq_iff_eq, decide_eq_true_eq] at hcond
    obtain ⟨⟨⟨⟨hp, hlen⟩, hpos⟩, hsmall⟩, hlenm⟩ := hcond
    obtain ⟨hu, j, ze, hj, hsz, hby, hze, hzs, hs0, _, _⟩ := tiOf_slice (hC.types _ _ ht)
    obtain ⟨a1, a2, a3, a4⟩ := partsOk_spec (imm := imm) (w := w) (parts.toList.map fun p => (p.1, aeval env p.2)) (parts.toList.map fun p => a.eval p.2) 0 hp (by simp) (fun k p v hp hv => by
      rw [List.getElem?_map] at hp hv
      cases hj : parts.toList[k]? with
      | none => simp [hj] at hp
      | some y =>
        simp [hj] at hp hv
        subst hp; subst hv
        exact aeval_VR he y.2)
    simp only [List.map_map, Function.comp_def] at a1 a4
    simp only [List.length_map] at a1
    have hzip : (parts.map fun (i, x) => (i, a.eval x)).toList = ((parts.toList.map fun p => a.eval p.2).zipIdx 0).map fun x => (x.2, x.1) := by
      apply List.ext_getElem?
      intro k
      rw [Array.toList_map, List.getElem?_map, List.getElem?_map, List.getElem?_zipIdx, List.getElem?_map]
      cases hj : parts.toList[k]? with
      | none => simp
      | some y =>
        have : (parts.toList.map fun p => p.1)[k]? = some y.1 := by simp [hj]
        rw [a1] at this
        have hk : k < parts.toList.length := (List.getElem?_eq_some_iff.1 hj).1
        rw [List.getElem?_range' hk] at this
        simp at this
        simp [← this]
    have hfill := Great.fill_whole (s := sz) hs0 (parts.toList.map fun p => a.eval p.2) ((Array.range (len * sz)).map (ze.cells[· % ze.cells.size]!)) a3 (by simp [← hlen])
    rw [← hzip] at hfill
    have hr := run_buildSlice (P := C.P) w t e len (parts.map fun (i, x) => (i, a.eval x)) _ j ze hu hj hze (by rw [hsz]; omega) (by rw [hsz]; omega) (by rw [hsz]; exact hfill)
    exact ⟨.slice (some ⟨w.heap.size, 0, none⟩) len len, _, by simp only [execOp, ho]; rw [Sem.run_bind, hr]; rfl⟩
  | _ => rw [ho] at hm; cases hm

theorem mk_run {C : Cx} (hC : C.Ok) {o : Oper} (hm : mkA o.op = true) {env : List AV} {L : AHeap} {K : AV → AHeap → Prop} (h : aop C o env L K) {imm : Nat → Prop} {w : World} {a : Act} (hG : C.G imm w) (hs : Sat imm w L) (he : EnvR imm w env a.tmps)
    {next : Act → World → Prop} {Q : Exit → Act → World → Prop}
    (hn : ∀ x L' imm' v w', K x L' → Sat imm' w' L' → VR imm' w' x v → Tr C.D (Own L) imm w (Own L') imm' w' → (∀ g, g < w.heap.size → w'.heap[g]? = w.heap[g]?) → next (a.put o.dst v) w') : o.wp C.P a w next Q := by
  obtain ⟨v, ob, hr⟩ := mk_at hC hm h he
  have key := aop_sound hC h hG hs he (next := fun a' w' => (∀ g, g < w.heap.size → w'.heap[g]? = w.heap[g]?) → next a' w') (Q := Q) (fun x L' imm' v w' hk hs' hx ht hg => hn x L' imm' v w' hk hs' hx ht hg)
  unfold Oper.wp at key ⊢
  rw [hr, Oper.upon_value] at key ⊢
  exact key (fun g hg => (World.grownBy_alloc w ob none).block g hg (by simp))

theorem mk_ext {C : Cx} {o : Oper} (hm : mkA o.op = true) {env : List AV} {L : AHeap} {K : AV → AHeap → Prop} (h : aop C o env L K) : aop C o env L fun x L' => K x L' ∧ ∃ M, L' = L ++ M := by
  unfold aop at h ⊢
  cases ho : o.op with
  | box t x =>
    simp only [ho] at h ⊢
    cases hc : cellsA (aeval env x) with
    | none => rw [hc] at h; exact h.elim
    | some cs => rw [hc] at h; exact fun g => ⟨h g, _, rfl⟩
  | alloc t =>
    simp only [ho] at h ⊢
    cases hc : C.T t with
    | none => rw [hc] at h; exact h.elim
    | some cs => rw [hc] at h; exact fun g => ⟨h g, _, rfl⟩
  | buildSlice t len parts =>
    simp only [ho] at h ⊢
    cases hc : C.T t with
    | none => rw [hc] at h; exact h.elim
    | some ti =>
      rw [hc] at h
      cases ti with
      | slice e sz by_ ea zs =>
        simp only at h ⊢
        split at h
        · rename_i h1; rw [if_pos h1]; exact fun g => ⟨h g, _, rfl⟩
        · rename_i h1; rw [if_neg h1]
          split at h
          · rename_i h2; rw [if_pos h2]; exact fun g => ⟨h g, _, rfl⟩
          · exact h.elim
      | _ => exact h.elim
  | _ => rw [ho] at hm; cases hm
theorem OwnK.app {L M : AHeap} {keys : List Nat} {g : Nat} (h : OwnK L keys g) : OwnK (L ++ M) keys g := by
  obtain ⟨k, g', o, hk, hl, ho⟩ := h
  exact ⟨k, g', o, hk, by rw [List.getElem?_append_left (List.getElem?_eq_some_iff.1 hl).1]; exact hl, ho⟩

theorem aopE_sound {C : Cx} (hC : C.Ok) {keys : List Nat} {o : Oper} {env : List AV} {L : AHeap} {K : AV → AHeap → Prop} {KP : Value → AHeap → Prop} (h : aopE C keys o env L K KP) {imm : Nat → Prop} {w : World} {a : Act} (hG : C.G imm w) (hs : Sat imm w L) (he : EnvR imm w env a.tmps)
    {next : Act → World → Prop} {Q : Exit → Act → World → Prop}
    (hn : ∀ x L' imm' v w', K x L' → Sat imm' w' L' → VR imm' w' x v → Tr C.D (Own L) imm w (Own L') imm' w' → SameO L keys w w' → (∀ k ∈ keys, ∀ x, L[k]? = some x → L'[k]? = some x) → next (a.put o.dst v) w')
    (hp : ∀ v L' imm' w', KP v L' → Sat imm' w' L' → Tr C.D (Own L) imm w (Own L') imm' w' → Q (.panic (chain1 v)) a w') : o.wp C.P a w next Q := by
  by_cases hm : movA o.op = true
  · obtain ⟨v, x, hr, hx, hk⟩ := aopE_move hC hm h hG hs he
    exact wp_value (hr w (fun _ _ => rfl)) (hn _ _ _ _ _ hk hs hx (Tr.refl _ _ _) (fun _ _ => rfl) (fun _ _ _ h => h))
  unfold aopE at h
  split at h
  · rename_i x args ts ho
    have hx := aeval_VR he x
    split at h
    case h_2 => exact h.elim
    rename_i f hfx
    rw [evalsK_eq] at h
    have hxv := afun_VR hx hfx
    obtain ⟨hl, hv⟩ := args_VR he args
    obtain ⟨⟨fn, hf, hname, hb⟩, hc⟩ := ACallE.sound hC h hG hs hl hv
    rw [Array.toArray_toList] at hc
    unfold Oper.wp
    rw [run_call ho hxv hf hname hb, Oper.upon_enter]
    refine hc.mono fun e w'' hh => ?_
    rcases hh with ⟨v, r, L', imm', rfl, a1, a2, a3, a4, a5, a6⟩ | ⟨v, L', imm', rfl, a2, a3, a6⟩
    · exact hn r L' imm' v w'' a6 a2 a1 a3 (fun g hg => a4 g (.inr hg)) a5
    · exact hp v L' imm' w'' a6 a2 a3
  · rename_i t x ho; rw [ho] at hm; exact absurd rfl hm
  · rename_i t x ix ok ho; rw [ho] at hm; exact absurd rfl hm
  · have hm' : movA o.op = false := by cases hb : movA o.op; rfl; exact absurd hb hm
    rw [hm'] at h
    cases hk : mkA o.op with
    | false => rw [hk] at h; exact h.elim
    | true =>
      rw [hk] at h
      simp only [aopF_fun] at h
      refine mk_run hC hk (mk_ext hk h) hG hs he fun x L' imm' v w' hK hs' hx ht hold => ?_
      obtain ⟨hK, M, rfl⟩ := hK
      refine hn _ _ _ _ _ hK hs' hx ht (fun g hg => hold g ?_) (fun k _ x hx => by rw [List.getElem?_append_left (List.getElem?_eq_some_iff.1 hx).1]; exact hx)
      obtain ⟨k, g', o, _, hl, ho⟩ := hg
      exact hs.lt g ⟨k, g', o, hl, ho⟩

/-! ### The whole -/
def awpOrdE (C : Cx) (keys : List Nat) (ops : Array Oper) (KP : Value → AHeap → Prop) : List Nat → (List AV → AHeap → Prop) → List AV → AHeap → Prop
  | [], Q, env, L => Q env L
  | i :: rest, Q, env, L =>
    match ops[i]? with
    | none => False
    | some o => aoperG (fun o env L K => aopE C keys o env L K KP) ops o env L fun env' L' => awpOrdE C keys ops KP rest Q env' L'

def orderOkE (ops : Array Oper) (tail : List Nat) : List Nat → Array Bool → Bool
  | [], listed => orderOkW ops tail listed && (List.range listed.size).all fun i => listed.getD i true || tail.contains i
  | i :: rest, listed =>
    match ops[i]? with
    | none => false
    | some o => ((movB true o.op && Region.free .any ops listed i && (Region.ready .any ops listed).contains i && (movB false o.op || tail.all fun k => waitsA ops k i)) || (Region.ready .any ops listed == [i])) && orderOkE ops tail rest (listed.setIfInBounds i true)

def Inv (ops : Array Oper) (Qc : Exit → Act → World → Prop) : Prop := ∀ (i : Nat) (o : Oper) (v : Value) (c : List PanicEntry) (a : Act) (w : World), ops[i]? = some o → Qc (.panic c) (a.put o.dst v) w → Qc (.panic c) a w

theorem OwnK.back {L L' : AHeap} {keys : List Nat} (hk : ∀ k ∈ keys, ∀ x, L[k]? = some x → L'[k]? = some x) (hin : ∀ k ∈ keys, ∃ x, L[k]? = some x) (g : Nat) : OwnK L' keys g ↔ OwnK L keys g := by
  constructor
  · rintro ⟨k, g', o, hm, hl, ho⟩
    obtain ⟨x, hx⟩ := hin k hm
    have := hk k hm x hx
    rw [hl] at this
    exact ⟨k, g', o, hm, by rw [hx, ← this], ho⟩
  · rintro ⟨k, g', o, hm, hl, ho⟩
    exact ⟨k, g', o, hm, hk k hm _ hl, ho⟩

theorem awpOrdE_sound {C : Cx} (hC : C.Ok) {F : Fr} {keys ks : List Nat} {ops : Array Oper} {J : List AV} {T : List AV → AHeap → Prop} {KP : Value → AHeap → Prop} {Qc : Exit → Act → World → Prop} (hsel : Region.noSelect ops = true) (hT : ∀ (fuel : Nat) (listed : Array Bool) (env : List AV) (L : AHeap) (a : Act) (w : World), ks.length ≤ fuel → orderOkW ops ks listed = true → T env L → wk env J → At C F env L a w → wpAnyH C.P .any ops Qc (fun _ => True) fuel listed a w)
    (hJ : Blind ops J) (hP : ∀ v L a w, KP v L → At C F J L a w → Qc (.panic (chain1 v)) a w) (hinv : Inv ops Qc) :
    ∀ (order : List Nat) (fuel : Nat) (listed : Array Bool) (env : List AV) (L : AHeap) (a : Act) (w : World) (imm : Nat → Prop) (S : World → Prop), (∀ w', S w' ↔ SameO L keys w w') → (∀ k ∈ keys, ∃ x, L[k]? = some x) → order.length + ks.length ≤ fuel → orderOkE ops ks order listed = true → awpOrdE C keys ops KP order T env L →
      wk env J → Closed ops listed → St C.D F.ds F.own F.imm F.w env L imm a w → C.G imm w → wpAnyT C.P ops Qc S ks fuel listed a w
  | [], fuel, listed, env, L, a, w, imm, S, hS, _, hl, hok, h, hwk, _, hst, hG => by
    simp only [orderOkE, Bool.and_eq_true] at hok
    obtain ⟨hok, hall⟩ := hok
    refine wpAnyT_of_any fuel listed a w (fun i hi => ?_) (hT fuel listed env L a w (by simpa using hl) hok h hwk ⟨imm, hst, hG⟩)
    by_cases hlt : i < listed.size
    · have := List.all_eq_true.1 hall i (List.mem_range.2 hlt)
      rw [hi] at this
      simpa using this
    · simp [Array.getElem?_eq_none (Nat.le_of_not_lt hlt)] at hi
  | _ :: _, 0, _, _, _, _, _, _, _, _, _, hl, _, _, _, _, _, _ => by simp at hl
  | i :: rest, fuel + 1, listed, env, L, a, w, imm, S, hS, hin, hl, hok, h, hwk, hcl, hst, hG => by
    simp only [orderOkE] at hok
    simp only [awpOrdE] at h
    cases ho : ops[i]? with
    | none => rw [ho] at h; exact h.elim
    | some o =>
      rw [ho] at h hok
      simp only [Bool.and_eq_true, Bool.or_eq_true] at hok
      obtain ⟨hthis, hrest⟩ := hok
      have hl' : rest.length + ks.length ≤ fuel := by simp at hl; omega
      have hwk' : ∀ x, wk (putA env o.dst x) J := fun x => wk_putA hwk fun t y hd hy => hJ.at_ i o t y ho hd hy
      have hS0 : S w := (hS w).2 fun _ _ => rfl
      rcases hthis with ⟨⟨⟨hm, hfree⟩, hready⟩, hwait⟩ | hsing
      · have hmov : movA o.op = true := by simp only [movB, Bool.and_eq_true] at hm; exact hm.1
        have hready' : i ∈ Region.ready .any ops listed := by simpa using hready
        have go : ∀ {R : World → Prop} {v : Value} {x : AV}, ((R = S ∧ ∀ k ∈ ks, ∃ n, waitsT ops n k i = true) ∨ ∀ w, R w) → R w → YieldsIf C.P ops R o v a → VR imm w x v → awpOrdE C keys ops KP rest T (putA env o.dst x) L → wpAnyT C.P ops Qc S ks (fuel + 1) listed a w := fun {R v x} hk hR hy hx hK =>
          wpAnyT_takeT ho hsel (fun c a w hp => hinv i o _ c a w ho hp) hk fuel listed a w hcl (Region.free_spec ho hfree) hready' hy hR
            (awpOrdE_sound hC hsel hT hJ hP hinv rest fuel _ _ L _ w imm S hS hin hl' hrest hK (hwk' x) (hcl.set hready') (hst.put hx o.dst) hG)
        rcases hwait with hpure | hwait
        · have hload : isLoad o.op = false := by simp only [movB, Bool.and_eq_true, Bool.false_or, Bool.not_eq_true'] at hpure; exact hpure.2
          rcases aoperG_cases h hst.env with ⟨hw, h⟩ | ⟨hw, h⟩
          · have hP2 : aopE C keys o env L (fun v L' => awpOrdE C keys ops KP rest T (putA env o.dst v) L') KP := h
            have hA : aop C o env L (fun v L' => awpOrdE C keys ops KP rest T (putA env o.dst v) L') := by
              unfold aopE at hP2
              split at hP2
              · rename_i e; rw [e] at hmov; cases hmov
              · rename_i e; rw [e] at hload; cases hload
              · rename_i e; rw [e] at hload; cases hload
              · rw [hmov] at hP2
                rw [aopF_fun] at hP2
                exact hP2
            obtain ⟨v, x, hr, hx, hk⟩ := aop_move hC hmov hA hG hst.sat hst.env
            exact go (R := fun _ => True) (.inr fun _ => trivial) trivial (.inl ⟨hw, fun w' _ => hr w' (fun hl => by rw [hload] at hl; cases hl)⟩) hx hk
          · exact go (R := fun _ => True) (.inr fun _ => trivial) trivial (.inr ⟨hw, rfl⟩) undef_VR h
        · have hwait' : ∀ k ∈ ks, ∃ n, waitsT ops n k i = true := fun k hk => waitsA_sound (List.all_eq_true.1 hwait k hk)
          rcases aoperG_cases h hst.env with ⟨hw, h⟩ | ⟨hw, h⟩
          · obtain ⟨v, x, hr, hx, hk⟩ := aopE_move hC hmov h hG hst.sat hst.env
            exact go (R := S) (.inl ⟨rfl, hwait'⟩) hS0 (.inl ⟨hw, fun w' hw' => hr w' ((hS w').1 hw')⟩) hx hk
          · exact go (R := S) (.inl ⟨rfl, hwait'⟩) hS0 (.inr ⟨hw, rfl⟩) undef_VR h
      · have hr : Region.ready .any ops listed = [i] := by simpa using hsing
        refine ⟨fun h0 => absurd (hr.symm.trans h0) (by simp), fun j hj => ?_⟩
        have hj' := hj
        rw [hr] at hj
        obtain rfl : j = i := by simpa using hj
        unfold wpOp
        rw [ho]
        dsimp only
        rcases aoperG_cases h hst.env with ⟨hw, h⟩ | ⟨hw, h⟩
        · rw [if_pos hw]
          refine .inl (aopE_sound hC h hG hst.sat hst.env (fun x L' imm' v w' hk hs hx ht hsame hown => ?_) (fun v L' imm' w' hk hs ht => ?_))
          · have hst' := (hst.step hs ht).put hx o.dst
            have hG' := hC.mono _ _ _ _ hG ht.imm1 (ht.immblock hst.sat.far hst.sat.immlt)
            have hback := OwnK.back hown hin
            refine ⟨fun _ _ => (hS _).2 hsame, awpOrdE_sound hC hsel hT hJ hP hinv rest fuel _ _ L' _ w' imm' S (fun w2 => (hS w2).trans ⟨fun h2 g hg => ?_, fun h2 g hg => ?_⟩) (fun k hk => ?_) hl' hrest hk (hwk' _) (hcl.set hj') hst' hG'⟩
            · rw [h2 g ((hback g).1 hg), hsame g ((hback g).1 hg)]
            · rw [h2 g ((hback g).2 hg), hsame g hg]
            · obtain ⟨x, hx⟩ := hin k hk
              exact ⟨x, hown k hk x hx⟩
          · exact hP _ _ _ _ hk (At.wk ⟨imm', hst.step hs ht, hC.mono _ _ _ _ hG ht.imm1 (ht.immblock hst.sat.far hst.sat.immlt)⟩ hwk)
        · rw [if_neg (by rw [hw]; simp)]
          exact ⟨fun _ h => h, awpOrdE_sound hC hsel hT hJ hP hinv rest fuel _ _ L _ w imm S hS hin hl' hrest h (hwk' _) (hcl.set hj') (hst.put undef_VR o.dst) hG⟩

structure OrdE (C : Cx) (Q : Exit → List AV → AHeap → Prop) (k : List Frame) (keys : List Nat) (ops : Array Oper) (J : List AV) (rest : List Nat) (env : List AV) (L : AHeap) : Prop where
  ok : awpOrdE C keys ops (fun v L => after C Q k (.panic (chain1 v)) J L) rest (after C Q k .normal) env L
def QE (C : Cx) (F : Fr) (Q : Exit → List AV → AHeap → Prop) (J : List AV) : Exit → Act → World → Prop := fun e a w =>
  match e with
  | .panic c => ∃ v L, c = chain1 v ∧ Q (.panic c) J L ∧ At C F J L a w
  | e => QC C F Q e a w

section
variable {C : Cx} {Q : Exit → List AV → AHeap → Prop} {k : List Frame} {env : List AV} {L : AHeap}
theorem QE_inv {F : Fr} {ops : Array Oper} (env : List AV) : Inv ops (QE C F (after C Q k) (junkD ops env)) := fun i o v c a w ho hq => by
  obtain ⟨v', L, rfl, hk, ha⟩ := hq
  exact ⟨v', L, rfl, hk, ha.unput fun t y hd hy => (junkD_blind ops env).at_ i o t y ho hd hy⟩
theorem wp_drawnT (hC : C.Ok) {F : Fr} {id : Nat} {ops : Array Oper} (keys ks : List Nat) (order : List Nat) (hc : (Region.noSelect ops && orderOkE ops ks order (Array.replicate ops.size false) && decide (order.length + ks.length ≤ ops.size)) = true) (hk : (keys.all fun k => (L[k]?).isSome) = true)
    {T : List AV → AHeap → Prop} (hT : ∀ (fuel : Nat) (listed : Array Bool) (env' : List AV) (L : AHeap) (a : Act) (w : World), ks.length ≤ fuel → orderOkW ops ks listed = true → T env' L → wk env' (junkD ops env) → At C F env' L a w → wpAnyH C.P .any ops (QE C F (after C Q k) (junkD ops env)) (fun _ => True) fuel listed a w)
    (h : awpOrdE C keys ops (fun v L => after C Q k (.panic (chain1 v)) (junkD ops env) L) order T env L) {a : Act} {w : World} (ha : At C F env L a w) : Code.wp C.P (.region id ops true) (QC C F (after C Q k)) a w := by
  simp only [Bool.and_eq_true, decide_eq_true_eq] at hc
  obtain ⟨imm, hst, hG⟩ := ha.drew hC
  have hJ := junkD_blind ops env
  refine Code.wp_mono (Q := QE C F (after C Q k) (junkD ops env)) (fun e a w hq => ?_) (wp_region_any hC.mixed (wpAnyT_any _ _ _ _ (awpOrdE_sound (Qc := QE C F (after C Q k) (junkD ops env)) (J := junkD ops env) (ks := ks) hC hc.1.1 hT hJ (fun v L a w hk ha => ⟨v, L, rfl, hk, ha⟩) (QE_inv env) order ops.size _ env L a w.drew imm _ (fun _ => Iff.rfl) (fun k hm => ?_) hc.2 hc.1.2 h (junkD_wk ops env) (fun j o _ hj => ?_) hst hG)))
  · cases e with
    | panic c => obtain ⟨v, L, rfl, hk, ha⟩ := hq; exact ⟨_, L, ha, hk⟩
    | _ => exact hq
  · have := List.all_eq_true.1 hk k hm
    exact Option.isSome_iff_exists.1 this
  · exfalso
    rcases Nat.lt_or_ge j ops.size with h' | h'
    · simp [h'] at hj
    · simp [h'] at hj
theorem OrdE.nil {keys : List Nat} {ops : Array Oper} {J : List AV} (h : Cont C Q k .normal env L) : OrdE C Q k keys ops J [] env L := ⟨h.ok⟩
theorem OrdE.cons {keys : List Nat} {ops : Array Oper} {J : List AV} {i : Nat} {rest : List Nat} {o : Oper} (ho : ops[i]? = some o) (h : aoperG (fun o env L K => aopE C keys o env L K fun v L' => Cont C Q k (.panic (chain1 v)) J L') ops o env L fun env' L' => OrdE C Q k keys ops J rest env' L') : OrdE C Q k keys ops J (i :: rest) env L := by
  have e : (fun env' L' => OrdE C Q k keys ops J rest env' L') = fun env' L' => awpOrdE C keys ops (fun v L => after C Q k (.panic (chain1 v)) J L) rest (after C Q k .normal) env' L' := by
    funext env' L'
    exact propext ⟨fun h => h.ok, fun h => ⟨h⟩⟩
  have e2 : (fun (v : Value) (L' : AHeap) => Cont C Q k (.panic (chain1 v)) J L') = fun v L' => after C Q k (.panic (chain1 v)) J L' := by
    funext v L'
    exact propext ⟨fun h => h.ok, fun h => ⟨h⟩⟩
  rw [e, e2] at h
  refine ⟨?_⟩
  unfold awpOrdE
  rw [ho]
  exact h
end
end Go.Proofs.YtgpbppkmmlclfaaDoor.HB
/- Functions that defer one closure that recovers. -/
namespace Go.Proofs.YtgpbppkmmlclfaaDoor.HB
open Go

inductive Rec : FrameMode → FrameMode → Value → Prop where
  | none : Rec .returning .returning .nilIface
  | some (v : Value) : Rec (.panicking (chain1 v)) (.panicking [{ v, recovered := true }]) v
end Go.Proofs.YtgpbppkmmlclfaaDoor.HB
/- Regions in the text's order, by whatever sound rules for their operations; lists that are made. -/
namespace Go.Proofs.YtgpbppkmmlclfaaDoor.HB
open Go

abbrev OpRule := Oper → List AV → AHeap → (AV → AHeap → Prop) → (Value → AHeap → Prop) → Prop
def OpRule.Sound (C : Cx) (A : OpRule) : Prop := ∀ (o : Oper) (env : List AV) (L : AHeap) (K : AV → AHeap → Prop) (KP : Value → AHeap → Prop), A o env L K KP → ∀ (imm : Nat → Prop) (w : World) (a : Act), C.G imm w → Sat imm w L → EnvR imm w env a.tmps →
  ∀ (next : Act → World → Prop) (Q : Exit → Act → World → Prop), (∀ x L' imm' v w', K x L' → Sat imm' w' L' → VR imm' w' x v → Tr C.D (Own L) imm w (Own L') imm' w' → next (a.put o.dst v) w') →
    (∀ v L' imm' w', KP v L' → Sat imm' w' L' → Tr C.D (Own L) imm w (Own L') imm' w' → Q (.panic (chain1 v)) a w') → o.wp C.P a w next Q

def awpOpsA (A : OpRule) (ops : Array Oper) (KP : Value → List AV → AHeap → Prop) : List Oper → (List AV → AHeap → Prop) → List AV → AHeap → Prop
  | [], Q, env, L => Q env L
  | o :: rest, Q, env, L => aoperG (fun o env L K => A o env L K fun v L' => KP v env L') ops o env L fun env' L' => awpOpsA A ops KP rest Q env' L'

theorem awpOpsA_text {C : Cx} (hC : C.Ok) {A : OpRule} (hA : A.Sound C) {F : Fr} {ops : Array Oper} {Q : List AV → AHeap → Prop} {KP : Value → List AV → AHeap → Prop} {Qc : Exit → Act → World → Prop} (hQ : ∀ env L a w, Q env L → At C F env L a w → Qc .normal a w)
    (hP : ∀ v env L a w, KP v env L → At C F env L a w → Qc (.panic (chain1 v)) a w) :
    ∀ (n k : Nat) (env : List AV) (L : AHeap) (a : Act) (w : World), k + n = ops.size → awpOpsA A ops KP (ops.toList.drop k) Q env L → At C F env L a w → wpOps C.P ops Qc (List.range' k n) a w
  | 0, k, env, L, a, w, hk, h, ha => by
    rw [List.drop_of_length_le (by simp; omega)] at h
    exact hQ _ _ _ _ h ha
  | n + 1, k, env, L, a, w, hk, h, ha => by
    have hlt : k < ops.size := by omega
    have hd : ops.toList.drop k = ops[k] :: ops.toList.drop (k + 1) := by
      rw [List.drop_eq_getElem_cons (by simpa using hlt)]
      rfl
    rw [hd] at h
    rw [List.range'_succ]
    simp only [wpOps]
    rw [Array.getElem?_eq_getElem hlt]
    obtain ⟨imm, hst, hG⟩ := ha
    simp only
    rcases aoperG_cases h hst.env with ⟨hw, h⟩ | ⟨hw, h⟩
    · rw [if_pos hw]
      refine .inl (hA _ _ _ _ _ h _ _ _ hG hst.sat hst.env _ _ (fun x L' imm' v w' hk' hs hx ht => ?_) (fun v L' imm' w' hk' hs ht => ?_))
      · exact awpOpsA_text hC hA hQ hP n (k + 1) _ _ _ _ (by omega) hk' (At.next hC hst hG hs hx ht _)
      · exact hP _ _ _ _ _ hk' ⟨imm', hst.step hs ht, hC.mono _ _ _ _ hG ht.imm1 (ht.immblock hst.sat.far hst.sat.immlt)⟩
    · rw [if_neg (by rw [hw]; simp)]
      exact awpOpsA_text hC hA hQ hP n (k + 1) _ _ _ _ (by omega) h ⟨imm, hst.put undef_VR _, hG⟩

structure OpsA (C : Cx) (A : OpRule) (Q : Exit → List AV → AHeap → Prop) (k : List Frame) (ops : Array Oper) (rest : List Oper) (env : List AV) (L : AHeap) : Prop where
  ok : awpOpsA A ops (fun v => after C Q k (.panic (chain1 v))) rest (after C Q k .normal) env L
section
variable {C : Cx} {A : OpRule} {Q : Exit → List AV → AHeap → Prop} {k : List Frame} {env : List AV} {L : AHeap}
theorem Run.textA (hC : C.Ok) (hA : A.Sound C) {id : Nat} {ops : Array Oper} (h : OpsA C A Q k ops ops.toList env L) : Run C Q k (.region id ops false) env L :=
  Run.sem0 fun F a w ha => by
    have := awpOpsA_text (ops := ops) (Qc := QC C F (after C Q k)) hC hA (fun env L a w hq ha => ⟨env, L, ha, hq⟩) (fun v env L a w hq ha => ⟨env, L, ha, hq⟩) ops.size 0 env L a w (Nat.zero_add _) (by simpa using h.ok) ha
    rw [← List.range_eq_range'] at this
    exact wp_region this
theorem OpsA.nil {ops : Array Oper} (h : Cont C Q k .normal env L) : OpsA C A Q k ops [] env L := ⟨h.ok⟩
theorem OpsA.cons {ops : Array Oper} {o : Oper} {rest : List Oper} (h : aoperG (fun o env L K => A o env L K fun v L' => Cont C Q k (.panic (chain1 v)) env L') ops o env L fun env' L' => OpsA C A Q k ops rest env' L') : OpsA C A Q k ops (o :: rest) env L := by
  have e : (fun env' L' => OpsA C A Q k ops rest env' L') = fun env' L' => awpOpsA A ops (fun v => after C Q k (.panic (chain1 v))) rest (after C Q k .normal) env' L' := by
    funext env' L'
    exact propext ⟨fun h => h.ok, fun h => ⟨h⟩⟩
  have e2 : (fun (o : Oper) (env : List AV) (L : AHeap) (K : AV → AHeap → Prop) => A o env L K fun v L' => Cont C Q k (.panic (chain1 v)) env L') = fun o env L K => A o env L K fun v L' => after C Q k (.panic (chain1 v)) env L' := by
    funext o env L K
    congr 1
    funext v L'
    exact propext ⟨fun h => h.ok, fun h => ⟨h⟩⟩
  rw [e, e2] at h
  exact ⟨h⟩
end

def aopM (C : Cx) : OpRule := fun o env L K KP =>
  match o.op with
  | .makeSlice t x y => match C.T t, aeval env x, aeval env y with
    | some (.slice e 1 by_ _ [z]), .int _ n, .int _ m => m = n ∧ 0 ≤ n ∧ by_ * n.toNat ≤ 281474976710656 ∧ n ≤ 9223372036854775807 ∧ ∀ g, K (.sl L.length g n.toNat n.toNat) (L ++ [(g, .row e 1 n.toNat (List.replicate n.toNat z))])
    | _, _, _ => False
  | _ => aopT C o env L K KP
theorem aopM_sound {C : Cx} (hC : C.Ok) : (aopM C).Sound C := by
  intro o env L K KP h imm w a hG hs he next Q hn hp
  unfold aopM at h
  split at h
  case h_2 => exact aopT_sound hC h hG hs he hn hp
  rename_i t x y ho
  have hx := aeval_VR he x
  have hy := aeval_VR he y
  split at h
  case h_2 => exact h.elim
  rename_i e by_ ea z kn n km m ht ex ey
  obtain ⟨rfl, h0, hb, h63, hk⟩ := h
  rw [ex] at hx
  rw [ey] at hy
  generalize hxx : a.eval x = u at hx
  generalize hyy : a.eval y = u' at hy
  cases hx
  cases hy
  obtain ⟨hu, j, ze, hj, hsz, hby, hze, hzs, hs0, hz1, hzo, _, _⟩ := tiOf_slice (hC.types _ _ ht)
  have hcell : ∃ c, ze.cells = #[c] := by
    obtain ⟨l, hl⟩ : ∃ l, ze.cells = l.toArray := ⟨ze.cells.toList, by simp⟩
    rw [hl] at hz1
    cases l with
    | nil => simp at hz1
    | cons c l => cases l with
      | nil => exact ⟨c, hl⟩
      | cons => simp at hz1
  obtain ⟨c, hc⟩ := hcell
  have hb' : (by_ : Int) * m ≤ 281474976710656 := by
    have := Int.ofNat_le.2 hb
    rw [Int.natCast_mul, show ((m.toNat : Nat) : Int) = m by omega] at this
    exact this
  have hrun := run_make (P := C.P) w t e j ze hu hj hze kn km m m h0 (Int.le_refl _) (by rw [hby]; exact hb') h63
  have hcs : (madeCells ze.cells (m.toNat * j.size)).toList = List.replicate m.toNat c := by
    rw [hc, hsz, Nat.mul_one]
    exact toList_madeCells_one c _
  refine wp_value (v := .slice (some ⟨w.heap.size, 0, none⟩) m.toNat m.toNat) (w' := w.alloc (.cells (madeCells ze.cells (m.toNat * j.size)) e)) (by simp only [execOp, ho, hxx, hyy]; rw [Sem.run_bind, hrun]; rfl) ?_
  have hz : [ofV c] = [z] := by rw [← hz1, hc]; rfl
  have hzc : ofV c = z := by simpa using hz
  have hone : ∀ u ∈ ze.cells.toList, u.oneCell' = true := hzo
  have hflat : ∀ v : Value, flat (ofV v) = [ofV v] := fun v => by unfold ofV; split <;> rfl
  have hfl : ∀ k, flats (List.replicate k z) = List.replicate k z := fun k => by
    induction k with
    | zero => rfl
    | succ k ih => rw [List.replicate_succ, flats_cons, ih, ← hzc, hflat]; rfl
  have hrepl : VRs imm (w.alloc (.cells (madeCells ze.cells (m.toNat * j.size)) e)) (flats (List.replicate m.toNat z)) (List.replicate m.toNat c) := by
    rw [hfl, ← hzc, ← List.map_replicate]
    exact map_ofV_VRs _ _ _ (fun u hu => by
      rw [List.eq_of_mem_replicate hu]
      exact hone c (by rw [hc]; simp))
  refine hn _ _ imm _ _ (hk w.heap.size) (hs.new (by simp) (fun i hi => (World.grownBy_alloc w _ none).block i hi (by simp)) ?_) (.sl _ _ _ _) (Tr.alloc _ _)
  refine .row e 1 m.toNat _ (List.replicate m.toNat c) [] ?_ (by decide) (fun x hx => ?_) (by simp) (by simp [maxLen]; omega) (by simp) hrepl
  · rw [List.append_nil, ← hcs, Array.toArray_toList]
    exact heap_alloc_new w _
  · rw [List.eq_of_mem_replicate hx, ← hzc, hflat]; rfl
abbrev Za := @OpsA.cons
abbrev Zb := @OpsA.nil
end Go.Proofs.YtgpbppkmmlclfaaDoor.HB
/- Maps that the code at hand owns. -/
namespace Go.Proofs.YtgpbppkmmlclfaaDoor.HB
open Go

def aopMp (C : Cx) : OpRule := fun o env L K KP =>
  match o.op with
  | .makeMap _ none => ∀ g, K (.any (.map (some g))) (L ++ [(g, AObj.obj (.map #[] 0))])
  | .lookup t x ix ok => alookup C (fun _ => True) t (aeval env x) (aeval env ix) ok L fun v => K v L
  | .mapUpdate t m k x | .insert t m k x => match C.P.underlying t, toV (aeval env m), toV (aeval env k), toV (aeval env x) with
    | some (.map kt _), some (.map (some g)), some kv, some vv => keyB C.P kt = true ∧ ∃ (k : Nat) (es : Array MapEntry) (clock : Nat) (r : Option (Nat × Value)), L[k]? = some (g, AObj.obj (.map es clock)) ∧ findAt C.P kt kv es.toList = some r ∧ match r with
      | none => K (.tuple []) (L.set k (g, AObj.obj (.map (es.push { key := kv, val := vv, born := clock }) (clock + 1))))
      | some (i, _) => Instr.sameBits 10000 (((es[i]?).map (·.key)).getD kv) kv = true ∧ K (.tuple []) (L.set k (g, AObj.obj (.map (es.modify i fun e => { e with key := kv, val := vv }) clock)))
    | _, _, _, _ => False
  | .mapEntry t m k => match C.P.underlying t, toV (aeval env m), toV (aeval env k) with
    | some (.map kt vt), some (.map (some g)), some kv => keyB C.P kt = true ∧ ∃ (k : Nat) (es : Array MapEntry) (clock : Nat) (r : Option (Nat × Value)), L[k]? = some (g, AObj.obj (.map es clock)) ∧ findAt C.P kt kv es.toList = some r ∧ match r with
      | none => azero C vt fun z => ∃ u, toV z = some u ∧ K (.tuple [z, .int .i64 (clock : Nat)]) (L.set k (g, AObj.obj (.map (es.push { key := kv, val := u, born := clock }) (clock + 1))))
      | some (i, v) => Instr.sameBits 10000 (((es[i]?).map (·.key)).getD kv) kv = true ∧ ∃ y, toV y = some v ∧ K (.tuple [y, .int .i64 ((((es[i]?).map (·.born)).getD 0 : Nat))]) (L.set k (g, AObj.obj (.map (es.modify i fun e => { e with key := kv }) clock)))
    | _, _, _ => False
  | .entryStore _ m s x => match toV (aeval env m), toV (aeval env s), toV (aeval env x) with
    | some (.map (some g)), some (.int _ b), some vv => ∃ (k : Nat) (es : Array MapEntry) (clock i : Nat), L[k]? = some (g, AObj.obj (.map es clock)) ∧ es.findIdx? (fun e => (e.born : Int) == b) = some i ∧ K (.tuple []) (L.set k (g, AObj.obj (.map (es.modify i fun e => { e with val := vv }) clock)))
    | _, _, _ => False
  | .range t x => match C.P.underlying t, toV (aeval env x) with
    | some (.map _ _), some (.map none) => ∀ g, K (.ptr L.length g 0) (L ++ [(g, AObj.obj (.mapIter none 0 #[] 0))])
    | some (.map _ _), some (.map (some m)) => ∃ (k : Nat) (es : Array MapEntry) (clock : Nat), L[k]? = some (m, AObj.obj (.map es clock)) ∧ ∀ g, K (.ptr L.length g 0) (L ++ [(g, AObj.obj (.mapIter (some m) clock #[] clock))])
    | _, _ => False
  | .next x false => match aeval env x with
    | .ptr k g 0 => match L[k]? with
      | some (g', .obj (.mapIter none _ _ _)) => g' = g ∧ K (.tuple [.bool false]) L
      | some (g', .obj (.mapIter (some m) since seen last)) => g' = g ∧ ∃ (j : Nat) (es : Array MapEntry) (clock : Nat), L[j]? = some (m, AObj.obj (.map es clock)) ∧ (∀ e ∈ es.toList, e.born < since) ∧ since ≤ last ∧
          ((leftOf es seen).size = 0 → K (.tuple [.bool false]) L) ∧ ∀ e ∈ (leftOf es seen).toList, ∃ y z, toV y = some e.key ∧ toV z = some e.val ∧ K (.tuple [.bool true, y, z]) (L.set k (g, AObj.obj (.mapIter (some m) since (seen.push e.born) clock)))
      | _ => False
    | _ => False
  | .entry x => match aeval env x with
    | .ptr k g 0 => match L[k]? with
      | some (g', .obj (.mapIter (some m) _ seen last)) => g' = g ∧ ∃ (j : Nat) (es : Array MapEntry) (seen' : Array Nat) (e : MapEntry), L[j]? = some (m, AObj.obj (.map es last)) ∧ seen = seen'.push e.born ∧ e ∈ es.toList ∧ (es.toList.map (·.born)).Nodup ∧
          ∃ y z, toV y = some e.key ∧ toV z = some e.val ∧ K (.tuple [y, z]) L
      | _ => False
    | _ => False
  | .call { callee := .builtin .len, args := xs, argTypes := ts } => match ts.toList.map C.P.underlying, xs.toList.map (aeval env) with
    | [some (.map _ _)], [x] => match toV x with
      | some (.map none) => K (.int .i64 0) L
      | some (.map (some g)) => ∃ (k : Nat) (es : Array MapEntry) (clock : Nat), L[k]? = some (g, AObj.obj (.map es clock)) ∧ K (.int .i64 (es.size : Nat)) L
      | _ => False
    | _, _ => aopM C o env L K KP
  | .call { callee := .builtin .delete, args := xs, argTypes := ts } => match ts.toList.map C.P.underlying, xs.toList.map (aeval env) with
    | [some (.map kt _), _], [x, y] => match toV x, toV y with
      | some (.map none), some _ => keyB C.P kt = true ∧ K (.tuple []) L
      | some (.map (some g)), some kv => keyB C.P kt = true ∧ ∃ (k : Nat) (es : Array MapEntry) (clock : Nat) (r : Option (Nat × Value)), L[k]? = some (g, AObj.obj (.map es clock)) ∧ findAt C.P kt kv es.toList = some r ∧ match r with
        | none => K (.tuple []) L
        | some (i, _) => K (.tuple []) (L.set k (g, AObj.obj (.map (es.eraseIdxIfInBounds i) clock)))
      | _, _ => False
    | _, _ => False
  | _ => aopM C o env L K KP

theorem map_turn {D : Prop} {imm : Nat → Prop} {w : World} {L : AHeap} (hs : Sat imm w L) {k g : Nat} {o : Obj} (hk : L[k]? = some (g, .obj o)) (o' : Obj) :
    w.heap[g]? = some o ∧ Sat imm { w with heap := w.heap.setIfInBounds g o' } (L.set k (g, .obj o')) ∧ Tr D (Own L) imm w (Own (L.set k (g, .obj o'))) imm { w with heap := w.heap.setIfInBounds g o' } := by
  have hh := hs.holds k g _ hk trivial
  cases hh with
  | obj _ hg =>
    have hlt : g < w.heap.size := (Array.getElem?_eq_some_iff.1 hg).1
    have hold : ∀ i, i ≠ g → (w.heap.setIfInBounds g o')[i]? = w.heap[i]? := fun i hne => by simp [Ne.symm hne]
    refine ⟨hg, hs.turn hk trivial (by simp) (fun i _ hne => hold i hne) (.inl rfl) (.obj o' (by simp [hlt])), fun _ => Nat.le_refl _, rfl, rfl, rfl, by simp, fun i _ hno => hold i (fun e => hno (e ▸ ⟨k, _, _, hk, rfl⟩)), fun _ h => h, fun _ h => .inl h, fun i hi => ?_⟩
    rcases Own.set hk hi with h | h
    · exact .inl h
    · exact .inl ((show i = g from h) ▸ ⟨k, _, _, hk, rfl⟩)

theorem one_of {α β : Type} {f : α → β} {xs : Array α} {y : β} (h : xs.toList.map f = [y]) : ∃ x, xs = #[x] ∧ f x = y := by
  cases hl : xs.toList with
  | nil => simp [hl] at h
  | cons a r => cases r with
    | nil => rw [hl] at h; simp at h; exact ⟨a, by rw [← Array.toArray_toList (xs := xs), hl], h⟩
    | cons => simp [hl] at h
theorem two_of {α β : Type} {f : α → β} {xs : Array α} {y z : β} (h : xs.toList.map f = [y, z]) : ∃ a b, xs = #[a, b] ∧ f a = y ∧ f b = z := by
  cases hl : xs.toList with
  | nil => simp [hl] at h
  | cons a r => cases r with
    | nil => simp [hl] at h
    | cons b r => cases r with
      | nil => rw [hl] at h; simp at h; exact ⟨a, b, by rw [← Array.toArray_toList (xs := xs), hl], h.1, h.2⟩
      | cons => simp [hl] at h
theorem aopMp_sound {C : Cx} (hC : C.Ok) : (aopMp C).Sound C := by
  intro o env L K KP h imm w a hG hs he next Q hn hp
  have nil_ : VR imm w (.tuple []) (.tuple #[]) := .tuple [] [] rfl (by simp)
  unfold aopMp at h
  split at h
  · -- makeMap
    rename_i t ho
    refine wp_value (v := .map (some w.heap.size)) (w' := w.alloc (.map #[] 0)) (by simp [execOp, ho, Instr.makeMap, newObj, Sem.run]) ?_
    exact hn _ _ imm _ _ (h w.heap.size) (hs.new (by simp) (fun i hi => (World.grownBy_alloc w _ none).block i hi (by simp)) (.obj _ (MapKept.heap_alloc w _).1)) (.any _) (Tr.alloc _ _)
  · -- lookup
    rename_i t x ix ok ho
    obtain ⟨v, y, hr, hy, hk⟩ := alookup_sound hC h hs he
    refine wp_value (v := v) (w' := w) ?_ (hn _ _ imm _ _ hk hs hy (Tr.refl _ _ _))
    simp [execOp, ho, hr w (fun _ _ _ _ _ => rfl)]
  · -- mapUpdate
    rename_i t m k x ho
    split at h
    case h_2 => exact h.elim
    rename_i kt vt g kv vv hu hm hk hx
    obtain ⟨hkb, j, es, clock, r, hL, hr, h⟩ := h
    have hme := toV_eval he hm
    have hke := toV_eval he hk
    have hxe := toV_eval he hx
    cases r with
    | none =>
      obtain ⟨hg, hs', ht⟩ := map_turn hs hL (.map (es.push { key := kv, val := vv, born := clock }) (clock + 1))
      refine wp_skip ?_ (hn _ _ imm _ _ h hs' undef_VR ht)
      simp [execOp, ho, Instr.mapUpdate, run_underlying hu, hme, hke, hxe, run_getMap hg, run_checkKey hkb, run_findKey hr, run_setMap _ hg]
    | some p =>
      obtain ⟨i, v⟩ := p
      obtain ⟨hsame, h⟩ := h
      obtain ⟨hg, hs', ht⟩ := map_turn hs hL (.map (es.modify i fun e => { e with key := kv, val := vv }) clock)
      refine wp_skip ?_ (hn _ _ imm _ _ h hs' undef_VR ht)
      simp [execOp, ho, Instr.mapUpdate, run_underlying hu, hme, hke, hxe, run_getMap hg, run_checkKey hkb, run_findKey hr, Instr.keyThatStays, hsame, run_setMap _ hg]
  · -- insert
    rename_i t m k x ho
    split at h
    case h_2 => exact h.elim
    rename_i kt vt g kv vv hu hm hk hx
    obtain ⟨hkb, j, es, clock, r, hL, hr, h⟩ := h
    have hme := toV_eval he hm
    have hke := toV_eval he hk
    have hxe := toV_eval he hx
    cases r with
    | none =>
      obtain ⟨hg, hs', ht⟩ := map_turn hs hL (.map (es.push { key := kv, val := vv, born := clock }) (clock + 1))
      refine wp_skip ?_ (hn _ _ imm _ _ h hs' undef_VR ht)
      simp [execOp, ho, Instr.mapUpdate, run_underlying hu, hme, hke, hxe, run_getMap hg, run_checkKey hkb, run_findKey hr, run_setMap _ hg]
    | some p =>
      obtain ⟨i, v⟩ := p
      obtain ⟨hsame, h⟩ := h
      obtain ⟨hg, hs', ht⟩ := map_turn hs hL (.map (es.modify i fun e => { e with key := kv, val := vv }) clock)
      refine wp_skip ?_ (hn _ _ imm _ _ h hs' undef_VR ht)
      simp [execOp, ho, Instr.mapUpdate, run_underlying hu, hme, hke, hxe, run_getMap hg, run_checkKey hkb, run_findKey hr, Instr.keyThatStays, hsame, run_setMap _ hg]
  · -- mapEntry
    rename_i t m k ho
    split at h
    case h_2 => exact h.elim
    rename_i kt vt g kv hu hm hk
    obtain ⟨hkb, j, es, clock, r, hL, hr, h⟩ := h
    have hme := toV_eval he hm
    have hke := toV_eval he hk
    cases r with
    | none =>
      obtain ⟨z, y, hz, hy, u, hu2, h⟩ := azero_sound hC h imm w
      have e := toV_spec hu2 hy
      subst e
      obtain ⟨hg, hs', ht⟩ := map_turn hs hL (.map (es.push { key := kv, val := z, born := clock }) (clock + 1))
      refine wp_value (v := .tuple #[z, .int .i64 (clock : Nat)]) ?_ (hn _ _ imm _ _ h hs' (tuple_VR (.cons (toV_VR hu2 _ _) (.cons (.int _ _) .nil))) ht)
      simp [execOp, ho, Instr.mapEntry, run_underlying hu, hme, hke, run_getMap hg, run_checkKey hkb, run_findKey hr, hz, run_setMap _ hg, goInt]
    | some p =>
      obtain ⟨i, v⟩ := p
      obtain ⟨hsame, y, hy, h⟩ := h
      obtain ⟨hg, hs', ht⟩ := map_turn hs hL (.map (es.modify i fun e => { e with key := kv }) clock)
      refine wp_value (v := .tuple #[v, .int .i64 ((((es[i]?).map (·.born)).getD 0 : Nat))]) ?_ (hn _ _ imm _ _ h hs' (tuple_VR (.cons (toV_VR hy _ _) (.cons (.int _ _) .nil))) ht)
      simp [execOp, ho, Instr.mapEntry, run_underlying hu, hme, hke, run_getMap hg, run_checkKey hkb, run_findKey hr, Instr.keyThatStays, hsame, run_setMap _ hg, goInt]
      cases es[i]? <;> rfl
  · -- entryStore
    rename_i t m s x ho
    split at h
    case h_2 => exact h.elim
    rename_i g kb b vv hm hsv hx
    obtain ⟨j, es, clock, i, hL, hi, h⟩ := h
    have hme := toV_eval he hm
    have hse := toV_eval he hsv
    have hxe := toV_eval he hx
    obtain ⟨hg, hs', ht⟩ := map_turn hs hL (.map (es.modify i fun e => { e with val := vv }) clock)
    refine wp_skip ?_ (hn _ _ imm _ _ h hs' undef_VR ht)
    simp [execOp, ho, Instr.entryStore, hme, hse, hxe, run_getMap hg, asInt, asIntOf, hi, run_setMap _ hg]
  · -- range
    rename_i t x ho
    split at h
    · rename_i kt vt hu hx
      have hxe := toV_eval he hx
      refine wp_value (v := .pointer (some ⟨w.heap.size, 0, none⟩)) (w' := w.alloc (.mapIter none 0 #[] 0)) ?_ ?_
      · simp [execOp, ho, Instr.range, run_underlying hu, hxe, newObj, Sem.run]
      · exact hn _ _ imm _ _ (h w.heap.size) (hs.new (by simp) (fun i hi => (World.grownBy_alloc w _ none).block i hi (by simp)) (.obj _ (MapKept.heap_alloc w _).1)) (.ptr _ _ _) (Tr.alloc _ _)
    · rename_i kt vt m hu hx
      have hxe := toV_eval he hx
      obtain ⟨k, es, clock, hL, h⟩ := h
      have hg := map_get hs hL
      refine wp_value (v := .pointer (some ⟨w.heap.size, 0, none⟩)) (w' := w.alloc (.mapIter (some m) clock #[] clock)) ?_ ?_
      · simp [execOp, ho, Instr.range, run_underlying hu, hxe, run_getMap hg, newObj, Sem.run]
      · exact hn _ _ imm _ _ (h w.heap.size) (hs.new (by simp) (fun i hi => (World.grownBy_alloc w _ none).block i hi (by simp)) (.obj _ (MapKept.heap_alloc w _).1)) (.ptr _ _ _) (Tr.alloc _ _)
    · exact h.elim
  · -- next
    rename_i x ho
    have hx := aeval_VR he x
    split at h
    case h_2 => exact h.elim
    rename_i k g ex
    rw [ex] at hx
    generalize hxx : a.eval x = u at hx
    cases hx
    split at h
    · rename_i g' s0 se la hL
      obtain ⟨rfl, h⟩ := h
      have hg := map_get hs hL
      refine wp_value (v := .tuple #[.bool false]) (w' := w) ?_ (hn _ _ imm _ _ h hs (tuple_VR (.cons (.bool false) .nil)) (Tr.refl _ _ _))
      simp [execOp, ho, hxx, Instr.next, getObj, Sem.run, hg]
    · rename_i g' m since seen last hL
      obtain ⟨rfl, j, es, clock, hj, hold, hsl, hover, hnext⟩ := h
      have hg := map_get hs hL
      have hgm := map_get hs hj
      rcases run_next_at (P := C.P) w o.type g' m since last seen es clock hg hgm hold hsl with ⟨h0, hrun⟩ | ⟨e, hmem, w1, hw1, hrun⟩
      · refine wp_value (v := .tuple #[.bool false]) (w' := w) ?_ (hn _ _ imm _ _ (hover h0) hs (tuple_VR (.cons (.bool false) .nil)) (Tr.refl _ _ _))
        simp only [execOp, ho, hxx, Sem.run_bind, hrun]
        rfl
      · obtain ⟨y, z, hy, hz, h⟩ := hnext e hmem
        have hs1 : Sat imm w1 L := hw1.elim (fun e => e ▸ hs) (fun e => e ▸ hs.drew)
        have ht1 : Tr C.D (Own L) imm w (Own L) imm w1 := hw1.elim (fun e => e ▸ Tr.refl _ _ _) (fun e => e ▸ Tr.drew _)
        obtain ⟨hg1, hs', ht⟩ := map_turn hs1 hL (.mapIter (some m) since (seen.push e.born) clock)
        refine wp_value (v := .tuple #[.bool true, e.key, e.val]) ?_ (hn _ _ imm _ _ h hs' (tuple_VR (.cons (.bool true) (.cons (toV_VR hy _ _) (.cons (toV_VR hz _ _) .nil)))) (ht1.trans ht))
        simp only [execOp, ho, hxx, Sem.run_bind, hrun]
        rfl
    · exact h.elim
  · -- entry
    rename_i x ho
    have hx := aeval_VR he x
    split at h
    case h_2 => exact h.elim
    rename_i k g ex
    rw [ex] at hx
    generalize hxx : a.eval x = u at hx
    cases hx
    split at h
    case h_2 => exact h.elim
    rename_i g' m since seen last hL
    obtain ⟨rfl, j, es, seen', e, hj, rfl, hmem, hnd, y, z, hy, hz, h⟩ := h
    have hg := map_get hs hL
    have hgm := map_get hs hj
    have hrun := run_entry_at (P := C.P) w g' m since seen' es last e hg hgm hmem hnd
    refine wp_value (v := .tuple #[e.key, e.val]) (w' := w) ?_ (hn _ _ imm _ _ h hs (tuple_VR (.cons (toV_VR hy _ _) (.cons (toV_VR hz _ _) .nil))) (Tr.refl _ _ _))
    simp only [execOp, ho, hxx, Sem.run_bind, hrun]
    rfl
  · -- len
    rename_i xs ts ho
    split at h
    case h_2 => exact aopM_sound hC _ _ _ _ _ h _ _ _ hG hs he _ _ hn hp
    rename_i kt vt x0 hts hxs
    obtain ⟨t, hts, hu⟩ := one_of hts
    obtain ⟨x, hxs, hx0⟩ := one_of hxs
    subst hts; subst hxs
    split at h
    · rename_i hx
      subst hx0
      have hxe := toV_eval he hx
      refine wp_value (v := .int .i64 0) (w' := w) ?_ (hn _ _ imm _ _ h hs (.int _ _) (Tr.refl _ _ _))
      unfold execOp
      simp only [ho, resolve, invoke, Sem.run_bind, Sem.run_pure, Result.andThen_ok]
      simp [builtin, Builtin.len_, run_underlying hu, hxe, goInt]
    · rename_i g hx
      subst hx0
      have hxe := toV_eval he hx
      obtain ⟨k, es, clock, hL, h⟩ := h
      have hg := map_get hs hL
      refine wp_value (v := .int .i64 (es.size : Nat)) (w' := w) ?_ (hn _ _ imm _ _ h hs (.int _ _) (Tr.refl _ _ _))
      unfold execOp
      simp only [ho, resolve, invoke, Sem.run_bind, Sem.run_pure, Result.andThen_ok]
      simp [builtin, Builtin.len_, run_underlying hu, hxe, run_getMap hg, goInt]
    · exact h.elim
  · -- delete
    rename_i xs ts ho
    split at h
    case h_2 => exact h.elim
    rename_i kt vt u2 x0 y0 hts hxs
    obtain ⟨t, t', hts, hu, _⟩ := two_of hts
    obtain ⟨x, y, hxs, hx0, hy0⟩ := two_of hxs
    subst hts; subst hxs; subst hx0; subst hy0
    split at h
    · rename_i kv hx hk
      obtain ⟨hkb, h⟩ := h
      have hxe := toV_eval he hx
      have hke := toV_eval he hk
      refine wp_value (v := .tuple #[]) (w' := w) ?_ (hn _ _ imm _ _ h hs nil_ (Tr.refl _ _ _))
      unfold execOp
      simp only [ho, resolve, invoke, Sem.run_bind, Sem.run_pure, Result.andThen_ok]
      simp [builtin, Builtin.delete_, run_underlying hu, hxe, hke, run_checkKey hkb]
    · rename_i g kv hx hk
      obtain ⟨hkb, j, es, clock, r, hL, hr, h⟩ := h
      have hxe := toV_eval he hx
      have hke := toV_eval he hk
      cases r with
      | none =>
        obtain ⟨hg, hs', ht⟩ := map_turn hs hL (.map es clock)
        have hse : L.set j (g, AObj.obj (.map es clock)) = L := by
          obtain ⟨hlt, hge⟩ := List.getElem?_eq_some_iff.1 hL
          rw [← hge]; exact List.set_getElem_self hlt
        rw [hse] at hs' ht
        refine wp_value (v := .tuple #[]) ?_ (hn _ _ imm _ _ h hs' (.tuple [] [] rfl (by simp)) ht)
        unfold execOp
        simp only [ho, resolve, invoke, Sem.run_bind, Sem.run_pure, Result.andThen_ok]
        simp [builtin, Builtin.delete_, run_underlying hu, hxe, hke, run_getMap hg, run_checkKey hkb, run_findKey hr, run_setMap _ hg]
      | some p =>
        obtain ⟨i, v⟩ := p
        obtain ⟨hg, hs', ht⟩ := map_turn hs hL (.map (es.eraseIdxIfInBounds i) clock)
        refine wp_value (v := .tuple #[]) ?_ (hn _ _ imm _ _ h hs' (.tuple [] [] rfl (by simp)) ht)
        unfold execOp
        simp only [ho, resolve, invoke, Sem.run_bind, Sem.run_pure, Result.andThen_ok]
        simp [builtin, Builtin.delete_, run_underlying hu, hxe, hke, run_getMap hg, run_checkKey hkb, run_findKey hr, run_setMap _ hg]
    · exact h.elim
  · exact aopM_sound hC _ _ _ _ _ h _ _ _ hG hs he _ _ hn hp
end Go.Proofs.YtgpbppkmmlclfaaDoor.HB
