/- A law's row: from its contract in the abstract machine to what the given statement asks. -/
import Derived.Test.YtfohedaadncefaaDoorHbO
import Derived.Carry
namespace Go.Proofs.YtfohedaadncefaaDoor.HB
open Go Go.ChangeShapes Go.WideShapes Go.RowKit

/-- An argument, as the abstract machine is handed it. -/
def ArgOk (P : Program) (t : TypeId) (x : AV) : Prop := ∃ ys, CellsOk P t ys ∧ x = wrapC (aggT P t) ys
inductive ArgsOk (P : Program) : List TypeId → List AV → Prop where
  | nil : ArgsOk P [] []
  | cons {t : TypeId} {x : AV} {ts : List TypeId} {xs : List AV} (h : ArgOk P t x) (hs : ArgsOk P ts xs) : ArgsOk P (t :: ts) (x :: xs)

theorem arg_VR {H : Type} {enc : TypeId × Value → H} {P : Program} {w : World} {d : Nat} {t : TypeId} {v : Value} {dt : DataW H} {p : List MemPlace} {base : Nat} (hs : suppT P d t = true) (ho : Value.okWide P w .any base t v)
    (h : DataW.Trod enc P w 0 (fun _ => true) true t v dt p) : ∃ x, ArgOk P t x ∧ VR (fun g => g < w.heap.size) w x v := by
  obtain ⟨fuel, hf⟩ := h
  obtain ⟨ys, h1, h2, h3⟩ := trod_cells (fun _ => rfl) d fuel t _ _ hs hf
  refine ⟨_, ⟨ys, h1, rfl⟩, ?_⟩
  cases d with
  | zero => cases hs
  | succ d =>
    unfold suppT at hs
    have hone : ∀ dd, P.underlying t = some dd → aggD dd = false → ∀ u, v.cells.toList = [u] → u = v → VR (fun g => g < w.heap.size) w (wrapC (aggT P t) ys) v := fun dd hu hd u hc e => by
      have ha : aggT P t = false := by unfold aggT; rw [hu]; exact hd
      rw [ha]
      rw [hc] at h3
      have hl := h3.len
      match ys, hl, h3 with
      | [y], _, h3 => exact e ▸ h3.at_ 0 y u rfl rfl
    split at hs
    · rename_i k hu
      obtain ⟨n, rfl⟩ := okWide_int hu ho
      exact hone _ hu rfl _ rfl rfl
    · rename_i hu
      obtain ⟨n, rfl⟩ := okWide_bool hu ho
      exact hone _ hu rfl _ rfl rfl
    · rename_i hu
      obtain ⟨n, rfl⟩ := okWide_string hu ho
      exact hone _ hu rfl _ rfl rfl
    · rename_i fs hu
      obtain ⟨cs, rfl, _⟩ := okWide_struct hu ho
      have ha : aggT P t = true := by unfold aggT; rw [hu]; rfl
      rw [ha]
      have h3' : VRs (fun g => g < w.heap.size) w ys cs.toList := by simpa [Value.cells] using h3
      have := VR.agg ys cs.toList h3'.len h3'.one h3'.at_
      rwa [Array.toArray_toList] at this
    · rename_i e hu
      obtain ⟨a, len, cap, rfl⟩ := okWide_slice hu ho
      exact hone _ hu rfl _ rfl rfl
    · cases hs

theorem args_in {H : Type} {enc : TypeId × Value → H} {P : Program} {w : World} {d base : Nat} : ∀ (ts : List TypeId) (vs : List Value) (ds : List (DataW H)) (ps : List MemPlace), ts.all (fun t => suppT P d t) = true →
    (∀ (j : Nat) (t : TypeId) (v : Value), ts[j]? = some t → vs[j]? = some v → Value.okWide P w .any base t v) → DataW.TrodAll enc P w 0 (fun _ => true) true ts vs ds ps →
    ds.length = ts.length ∧ ∃ xs, ArgsOk P ts xs ∧ vs.length = xs.length ∧ ∀ (j : Nat) (x : AV) (v : Value), xs[j]? = some x → vs[j]? = some v → VR (fun g => g < w.heap.size) w x v
  | [], [], [], _, _, _, _ => ⟨rfl, [], .nil, rfl, by simp⟩
  | [], [], _ :: _, _, _, _, h => h.elim
  | [], _ :: _, _, _, _, _, h => by cases h
  | _ :: _, [], _, _, _, _, h => by cases h
  | _ :: _, _ :: _, [], _, _, _, h => by cases h
  | t :: ts, v :: vs, dt :: ds, ps, hs, ho, h => by
    obtain ⟨p, q, h1, h2, _⟩ := h
    simp only [List.all_cons, Bool.and_eq_true] at hs
    obtain ⟨x, k1, k2⟩ := arg_VR hs.1 (ho 0 t v rfl rfl) h1
    obtain ⟨hl, xs, l1, l2, l3⟩ := args_in ts vs ds q hs.2 (fun j t' v' ht hv => ho (j + 1) t' v' (by simpa using ht) (by simpa using hv)) h2
    refine ⟨by simp [hl], x :: xs, .cons k1 l1, by simp [l2], fun j y u hy hu => ?_⟩
    cases j with
    | zero => simp at hy hu; subst hy; subst hu; exact k2
    | succ j => exact l3 j y u (by simpa using hy) (by simpa using hu)

theorem trodAll_stays {H : Type} {enc : TypeId × Value → H} {P : Program} (hl : laidOutB P = true) {W W' : World} (hb : Below W.heap.size W W') : ∀ (ts : List TypeId) (vs : List Value) (ds : List (DataW H)) (ps : List MemPlace),
    ts.all (fun t => P.readableRec t && decide (t < P.types.size)) = true → (∀ x ∈ ps, x.block < W.heap.size) → DataW.TrodAll enc P W 0 (fun _ => true) true ts vs ds ps → DataW.TrodAll enc P W' 0 (fun b => decide (b < W.heap.size)) true ts vs ds ps
  | [], [], [], _, _, _, h => h
  | [], [], _ :: _, _, _, _, h => h.elim
  | [], _ :: _, _, _, _, _, h => by cases h
  | _ :: _, [], _, _, _, _, h => by cases h
  | _ :: _, _ :: _, [], _, _, _, h => by cases h
  | t :: ts, v :: vs, dt :: ds, ps, hs, hp, h => by
    obtain ⟨p, q, h1, h2, rfl⟩ := h
    simp only [List.all_cons, Bool.and_eq_true, decide_eq_true_eq] at hs
    exact ⟨p, q, Below.trod hl hs.1.1 hs.1.2 h1 hb (fun x hx => hp x (List.mem_append_left _ hx)), trodAll_stays hl hb ts vs ds q hs.2 (fun x hx => hp x (List.mem_append_right _ hx)) h2, rfl⟩

theorem below_of_Tr {own imm own' imm' : Nat → Prop} {w w' : World} (h : Tr own imm w own' imm' w') (hn : ∀ g, ¬ own g) : Below w.heap.size w w' :=
  ⟨h.os, h.tape, h.output, h.size, fun k hk => h.block k hk (hn k)⟩

/-- The law's contract, as the row asks it. -/
theorem law_contract {H : Type} {enc : TypeId × Value → H} {C : Cx} {f : FuncId} {fn : Func} {s : ChangeSpec} {tb : TypeId} (d : Nat) (hlaid : laidOutB C.P = true)
    (hts : fn.params.toList.all (fun t => suppT C.P d t) = true) (htr : fn.params.toList.all (fun t => C.P.readableRec t && decide (t < C.P.types.size)) = true)
    (hres : fn.resultTypes = #[tb]) (htb : C.P.underlying tb = some .bool) (hvars : ∀ (W W' : World) (gs : List (DataW H)) (q : List MemPlace), Below W.heap.size W W' → DataW.TrodVars enc C.P W (fun _ => true) s.vars gs q → DataW.TrodVars enc C.P W' (fun b => decide (b < W.heap.size)) s.vars gs q)
    (hfn : ∀ (ds gs : List (DataW H)), ds.length = fn.params.toList.length → gs.length = s.vars.length → (s.fn H (ds ++ gs)).results = [.lit (.bool true)] ∧ (s.fn H (ds ++ gs)).args = ds ∧ (s.fn H (ds ++ gs)).vars = gs)
    (law : ∀ xs, ArgsOk C.P fn.params.toList xs → FnSpec C f xs [] (fun r L' => r = .bool true ∧ L' = []))
    {W : World} {base : Nat} {args : Array Value} {ds gs : List (DataW H)} {before : List MemPlace} (hG : C.G (fun g => g < W.heap.size) W)
    (hval : ∀ (j : Nat) (t : TypeId) (v : Value), fn.params[j]? = some t → args[j]? = some v → Value.okWide C.P W .any base t v)
    (hW : DataW.Whole enc C.P fn.params.toList s.vars false W args.toList ds gs before) :
    Calls C.P f args W fun e W' => ∃ v, e = .returned v ∧ s.post enc C.P fn false true false false W args v W' := by
  have hW0 := hW
  obtain ⟨p, q, hA, hV, rfl, _, _⟩ := hW
  obtain ⟨hdl, xs, hx1, hx2, hx3⟩ := args_in _ _ _ _ hts (fun j t v ht hv => hval j t v (by simpa using ht) (by simpa using hv)) hA
  have hgl : ∀ (ns : List String) (gs : List (DataW H)) (q : List MemPlace), DataW.TrodVars enc C.P W (fun _ => true) ns gs q → gs.length = ns.length := by
    intro ns
    induction ns with
    | nil => intro gs q h; cases gs with
      | nil => rfl
      | cons => exact h.elim
    | cons n ns ih => intro gs q h; cases gs with
      | nil => exact h.elim
      | cons g gs =>
        obtain ⟨_, _, _, _, _, q', _, _, _, _, hs, _⟩ := h
        simp [ih gs q' hs]
  obtain ⟨e1, e2, e3⟩ := hfn ds gs hdl (hgl _ _ _ hV)
  have hcall := (law xs hx1).2 (fun g => g < W.heap.size) W args.toList hG ⟨by simp, by simp, fun g hg => (not_own_nil g hg).elim, fun g hg => (not_own_nil g hg).elim, fun g hg => hg⟩ hx2 hx3
  rw [Array.toArray_toList] at hcall
  refine hcall.mono fun e W' hh => ?_
  obtain ⟨v, r, L', imm', rfl, hv, _, ht, rfl, rfl⟩ := hh
  have hb := below_of_Tr ht not_own_nil
  generalize hr : AV.bool true = r0 at hv
  cases hv <;> cases hr
  have hlt : ∀ x ∈ p ++ q, x.block < W.heap.size := fun x hx => by simpa using hW0.lt x hx
  refine ⟨_, rfl, ds, gs, _, [], p, q, hW0, ?_, ?_, ?_, hb.frame _, fun h => by cases h⟩
  · rw [e1, hres]
    exact trodAll_mk1 (shut_bool htb _)
  · rw [e2]
    exact trodAll_stays hlaid hb _ _ _ _ htr (fun x hx => hlt x (List.mem_append_left _ hx)) hA
  · rw [e3]
    exact hvars _ _ _ _ hb hV

end Go.Proofs.YtfohedaadncefaaDoor.HB
