/- Functions as values that hold variables; what a function keeps and what it lends as it ends. -/
import Derived.Test.YtgpbppkmmlclfaaDoorHbP
import Derived.WalkSpells
import Derived.Lib.SplitLaws
import Derived.Shelf.SlSortCmp.NoneTotal
import Derived.RangeFuncRecord
import Derived.TacticsIn
import Derived.RangeFuncLeaves
import Derived.OrdersIn
namespace Go.Proofs.YtgpbppkmmlclfaaDoor.HB
open Go

def aopC (C : Cx) : OpRule := fun o env L K KP =>
  match o.op with
  | .makeFunc (.func f) first captured => match toVs (captured.toList.map (aeval env)) with
    | some cap => first.toList = [] ∧ K (.any (.func (.func f) #[] cap.toArray)) L
    | none => False
  | .call { callee := .value x, args := xs, .. } => match aeval env x with
    | .any (.func (.func f) first cap) => if cap.toList.isEmpty then aopMp C o env L K KP else first.toList = [] ∧ ∃ caps, toVs caps = some cap.toList ∧ ACall C f (xs.toList.map (aeval env) ++ caps) L K
    | _ => aopMp C o env L K KP
  | .binOp .eql t x (.const (.map none)) _ => match aeval env x, C.P.underlying t with
    | .any (.map r), some (.map _ _) => K (.bool r.isNone) L
    | _, _ => False
  | .binOp op t x (.const (.pointer none)) _ => match aeval env x, C.P.underlying t, isEq op with
    | .ptr .., some (.pointer _), some b => K (.bool (!b)) L
    | .nilp, some (.pointer _), some b => K (.bool b) L
    | _, _, _ => False
  | _ => aopMp C o env L K KP

theorem run_ptr_nil {P : Program} (w : World) {op : BinOp} {b : Bool} (ho : isEq op = some b) (t e : TypeId) (a : Option Addr) (h : P.underlying t = some (.pointer e)) :
    (binOp op t (.pointer a) (.pointer none)).run P w = .ok (.bool (a.isNone == b)) w := by
  have := isEq_some ho
  have he : (Op.equal t (.pointer a) (.pointer none)).run P w = .ok a.isNone w := by
    unfold Op.equal Op.maxDepth
    show (Op.equalIn (9999 + 1) t (.pointer a) (.pointer none)).run P w = _
    generalize 9999 = d
    cases a <;> simp [Op.equalIn, run_underlying h]
  cases b <;> subst this
  · cases a <;> simp [binOp, he]
  · cases a <;> simp [binOp, he]
theorem evals_VR {imm : Nat → Prop} {w : World} {env : List AV} {a : Act} (he : EnvR imm w env a.tmps) : ∀ xs : List Operand, (xs.map a.eval).length = (xs.map (aeval env)).length ∧ ∀ (j : Nat) (y : AV) (u : Value), (xs.map (aeval env))[j]? = some y → (xs.map a.eval)[j]? = some u → VR imm w y u := by
  intro xs
  refine ⟨by simp, fun j y u hy hu => ?_⟩
  rw [List.getElem?_map] at hy hu
  cases e : xs[j]? with
  | none => rw [e] at hy; cases hy
  | some x => rw [e] at hy hu; cases hy; cases hu; exact aeval_VR he x

theorem aopC_sound {C : Cx} (hC : C.Ok) : (aopC C).Sound C := by
  intro o env L K KP h imm w a hG hs he next Q hn hp
  unfold aopC at h
  split at h
  · rename_i f first captured ho
    split at h
    case h_2 => exact h.elim
    rename_i cap hc
    obtain ⟨hf, h⟩ := h
    obtain ⟨hl, hv⟩ := evals_VR he captured.toList
    have e := toVs_spec hc hl hv
    have e1 : captured.map a.eval = cap.toArray := by rw [← e]; rw [← Array.toArray_toList (xs := captured.map a.eval), Array.toList_map]
    have e2 : first.map a.eval = #[] := by rw [← Array.toArray_toList (xs := first.map a.eval), Array.toList_map, hf]; rfl
    refine wp_value (v := .func (.func f) #[] cap.toArray) (w' := w) ?_ (hn _ _ imm _ _ h hs (.any _) (Tr.refl _ _ _))
    simp [execOp, ho, Instr.makeFunc, e1, e2]
  · rename_i x xs _ ho
    split at h
    case h_2 => exact aopMp_sound hC _ _ _ _ _ h _ _ _ hG hs he _ _ hn hp
    rename_i f first cap hx
    split at h
    · exact aopMp_sound hC _ _ _ _ _ h _ _ _ hG hs he _ _ hn hp
    · obtain ⟨hf, caps, hcaps, h⟩ := h
      have hxv : a.eval x = .func (.func f) first cap := by have := aeval_VR he x; rw [hx] at this; generalize a.eval x = u at this; cases this; rfl
      have hf0 : first = #[] := by rw [← Array.toArray_toList (xs := first), hf]
      subst hf0
      obtain ⟨hl, hv⟩ := evals_VR he xs.toList
      obtain ⟨hcl, _, hcv⟩ := toVs_VR hcaps imm w
      have hv2 : ∀ (j : Nat) (y : AV) (u : Value), (xs.toList.map (aeval env) ++ caps)[j]? = some y → (xs.toList.map a.eval ++ cap.toList)[j]? = some u → VR imm w y u := by
        intro j y u hy hu
        by_cases hj : j < (xs.toList.map (aeval env)).length
        · rw [List.getElem?_append_left hj] at hy
          rw [List.getElem?_append_left (by rw [hl]; exact hj)] at hu
          exact hv j y u hy hu
        · rw [List.getElem?_append_right (by omega)] at hy
          rw [List.getElem?_append_right (by rw [hl]; omega)] at hu
          rw [hl] at hu
          exact hcv _ y u hy hu
      rcases ACall.sound hC h hG hs (vs := xs.toList.map a.eval ++ cap.toList) (by rw [List.length_append, List.length_append, hl, hcl]) hv2 with ⟨⟨fn, hff, hname, hb⟩, hc⟩ | ⟨v, r, hr, hvr, hk⟩
      · have e3 : (xs.toList.map a.eval ++ cap.toList).toArray = xs.map a.eval ++ cap := by
          apply Array.ext'
          simp
        rw [e3] at hc
        have h1 : fn.name ≠ "runtime.NumGoroutine" := by simpa using hname
        obtain ⟨cc, hcc⟩ := Option.isSome_iff_exists.1 hb
        have hrun : (execOp a.eval o).run C.P w = .ok (.enter f (xs.map a.eval ++ cap)) w := by
          unfold execOp
          simp [ho, hxv, resolve, Deferred.ofValue, invoke, callFunc, hff, h1, hcc]
        unfold Oper.wp
        rw [hrun, Oper.upon_enter]
        refine hc.mono fun e w'' hh => ?_
        obtain ⟨v, r, L', imm', rfl, a1, a2, a3, a4⟩ := hh
        exact hn r L' imm' v w'' a4 a2 a1 a3
      · have e3 : (xs.toList.map a.eval ++ cap.toList).toArray = xs.map a.eval ++ cap := by
          apply Array.ext'
          simp
        rw [e3] at hr
        refine wp_value (v := v) (w' := w) ?_ (hn r L imm v w hk hs hvr (Tr.refl _ _ _))
        unfold execOp
        simp only [ho, hxv, resolve, Deferred.ofValue, invoke, Sem.run_bind, Sem.run_pure, Result.andThen_ok]
        simpa using hr
  · rename_i t x t' ho
    have hx := aeval_VR he x
    split at h
    case h_2 => exact h.elim
    rename_i r kt vt ex hu
    rw [ex] at hx
    generalize hxx : a.eval x = u at hx
    cases hx
    refine wp_value (v := .bool r.isNone) (w' := w) ?_ (hn _ _ imm _ _ h hs (.bool _) (Tr.refl _ _ _))
    have hc : a.eval (.const (.map none)) = .map none := rfl
    simp [execOp, ho, hxx, hc, eqGuard, run_eql_map_nil w t kt vt r hu]
  · rename_i op t x t' ho
    have hx := aeval_VR he x
    have hc : a.eval (.const (.pointer none)) = .pointer none := rfl
    split at h
    · rename_i k g off e b ex hu hb
      rw [ex] at hx
      generalize hxx : a.eval x = u at hx
      cases hx
      refine wp_value (v := .bool (!b)) (w' := w) ?_ (hn _ _ imm _ _ h hs (.bool _) (Tr.refl _ _ _))
      have := run_ptr_nil w hb t e (some ⟨g, off, none⟩) hu
      have hg := eqGuard_plain (P := C.P) op t x (.const (.pointer none)) (.pointer (some ⟨g, off, none⟩)) (.pointer none) w (by simp) (by simp)
      simp only [execOp, ho, hxx, hc, Sem.run_bind, hg, Result.andThen_ok, this]
      cases b <;> rfl
    · rename_i e b ex hu hb
      rw [ex] at hx
      generalize hxx : a.eval x = u at hx
      cases hx
      refine wp_value (v := .bool b) (w' := w) ?_ (hn _ _ imm _ _ h hs (.bool _) (Tr.refl _ _ _))
      have := run_ptr_nil w hb t e none hu
      have hg := eqGuard_plain (P := C.P) op t x (.const (.pointer none)) (.pointer none) (.pointer none) w (by simp) (by simp)
      simp only [execOp, ho, hxx, hc, Sem.run_bind, hg, Result.andThen_ok, this]
      cases b <;> rfl
    · exact h.elim
  · exact aopMp_sound hC _ _ _ _ _ h _ _ _ hG hs he _ _ hn hp

theorem FinOk.keepLend {r r1 r' : AV} {L : AHeap} (ks : List Nat) (hnd : ks.Nodup) (hl : Lend (restL L ks) r r1) (hr : Sub r1 r') : FinOk r L r' (selL L ks) := fun D own0 imm0 w0 imm w v hs hv ht => by
  have hrest := restL_sat (ks := ks) hs
  have h0 := selL_sat (ks := ks) hs hnd
  have hsub : ∀ i, Own (restL L ks) i → Own L i := fun i ⟨k2, g2, o2, l2, e2⟩ => ⟨k2, g2, o2, (restL_live l2 e2.live).2, e2⟩
  have hsub2 : ∀ i, Own (selL L ks) i → Own L i := fun i hi => by
    obtain ⟨k1, g1, o1, m1, l1, e1⟩ := own_selL hi
    exact ⟨k1, g1, o1, l1, e1⟩
  refine ⟨fun i => imm i ∨ Own (restL L ks) i, ⟨fun j g o hj ho => (h0.holds j g o hj ho).mono (fun _ => .inl) (fun _ _ => rfl) (fun _ _ => rfl), h0.apart, fun g hg hi => ?_, h0.lt, fun i hi => hi.elim (hs.immlt i) (hrest.lt i)⟩, hr _ _ _ (hl.VR hrest hv), ?_⟩
  · rcases hi with hi | hi
    · exact h0.far g hg hi
    · obtain ⟨k1, g1, o1, m1, l1, e1⟩ := own_selL hg
      obtain ⟨k2, g2, o2, l2, e2⟩ := hi
      obtain ⟨m2, l2⟩ := restL_live l2 e2.live
      have := hs.apart k1 k2 g1 g2 g o1 o2 l1 e1 l2 e2
      exact m2 (this ▸ m1)
  · refine ⟨ht.drawn, ht.os, ht.tape, ht.output, ht.size, ht.block, fun i hi => .inl (ht.imm1 i hi), fun i hi => ?_, fun i hi => ht.own2 i (hsub2 i hi)⟩
    rcases hi with hi | hi
    · exact ht.imm2 i hi
    · exact .inr (ht.own2 i (hsub i hi))
theorem Zv {C : Cx} {Q : Exit → List AV → AHeap → Prop} {k : List Frame} {env : List AV} {L : AHeap} (hC : C.Ok) {id : Nat} {ops : Array Oper} (h : OpsA C (aopC C) Q k ops ops.toList env L) : Run C Q k (.region id ops false) env L := Run.textA hC (aopC_sound hC) h
end Go.Proofs.YtgpbppkmmlclfaaDoor.HB
/- The library's contracts, as the abstract machine calls them. -/
namespace Go.Proofs.YtgpbppkmmlclfaaDoor.HB
open Go Go.RowKit

theorem sat_nil {imm : Nat → Prop} {w : World} (h : ∀ g, imm g → g < w.heap.size) : Sat imm w [] :=
  ⟨by simp, by simp, fun g hg => (not_own_nil g hg).elim, fun g hg => (not_own_nil g hg).elim, h⟩
theorem FnSpec.of_belowD {C : Cx} {f : FuncId} {fn : Func} {args : List AV} {L : AHeap} {x : AV} (hf : C.P.funcs[f]? = some fn) (hn : (fn.name == "runtime.NumGoroutine") = false) (hb : fn.body.isSome = true) (hx : scals x = true)
    (h : ∀ (imm : Nat → Prop) (w : World) (vs : List Value), C.G imm w → Sat imm w L → vs.length = args.length → (∀ (j : Nat) (x : AV) (v : Value), args[j]? = some x → vs[j]? = some v → VR imm w x v) →
      ∃ v, VR imm w x v ∧ Calls C.P f vs.toArray w (fun e w' => e = .returned v ∧ Below w.heap.size w w' ∧ (C.D → w.drawn ≤ w'.drawn))) :
    FnSpec C f args L (fun r L' => r = x ∧ L' = L) := by
  refine ⟨⟨fn, hf, hn, hb⟩, fun imm w vs hG hs hl hv => ?_⟩
  obtain ⟨v, hxv, hc⟩ := h imm w vs hG hs hl hv
  refine hc.mono fun e w' ⟨he, hb, hd⟩ => ⟨v, x, L, imm, he, hxv.of_scals hx, ?_, ?_, rfl, rfl⟩
  · have hold : ∀ i, i < w.heap.size → w'.heap[i]? = w.heap[i]? := hb.block
    exact ⟨fun j g o hj ho => (hs.holds j g o hj ho).mono (fun _ x => x) (fun i hi => hold i (hs.immlt i hi)) (fun i hi => hold i (hs.lt i ⟨j, g, o, hj, hi⟩)), hs.apart, hs.far, fun g hg => Nat.lt_of_lt_of_le (hs.lt g hg) hb.size, fun g hg => Nat.lt_of_lt_of_le (hs.immlt g hg) hb.size⟩
  · exact ⟨hd, hb.os, hb.tape, hb.output, hb.size, fun i hi _ => hb.block i hi, fun _ h => h, fun _ h => .inl h, fun _ h => .inl h⟩

theorem FnSpec.of_same {C : Cx} {f : FuncId} {fn : Func} {args : List AV} {L : AHeap} {x : AV} (hf : C.P.funcs[f]? = some fn) (hn : (fn.name == "runtime.NumGoroutine") = false) (hb : fn.body.isSome = true) (hx : scals x = true)
    (h : ∀ (imm : Nat → Prop) (w : World) (vs : List Value), C.G imm w → Sat imm w L → vs.length = args.length → (∀ (j : Nat) (x : AV) (v : Value), args[j]? = some x → vs[j]? = some v → VR imm w x v) →
      ∃ v, VR imm w x v ∧ Calls C.P f vs.toArray w (fun e w' => e = .returned v ∧ w' = w)) :
    FnSpec C f args L (fun r L' => r = x ∧ L' = L) :=
  FnSpec.of_belowD hf hn hb hx fun imm w vs hG hs hl hv => by
    obtain ⟨v, h1, h2⟩ := h imm w vs hG hs hl hv
    exact ⟨v, h1, h2.mono fun e w' ⟨he, hw⟩ => ⟨he, hw ▸ Below.refl _ _, fun _ => hw ▸ Nat.le_refl _⟩⟩

theorem FnSpec.of_row {C : Cx} {f : FuncId} {fn : Func} {args : List AV} {e : TypeId} {xs : List AV} {us : List Value} {n : Nat} (hf : C.P.funcs[f]? = some fn) (hn : (fn.name == "runtime.NumGoroutine") = false) (hb : fn.body.isSome = true)
    (hus : ∀ imm w, VRs imm w xs us) (hx : ∀ x ∈ xs, (flat x).length = 1) (hfl : flats xs = xs) (hlen : us.length = n) (hmax : n ≤ maxLen)
    (h : ∀ (imm : Nat → Prop) (w : World) (vs : List Value), C.G imm w → vs.length = args.length → (∀ (j : Nat) (x : AV) (v : Value), args[j]? = some x → vs[j]? = some v → VR imm w x v) →
      Calls C.P f vs.toArray w (fun e' w' => e' = .returned (.slice (some ⟨w.heap.size, 0, none⟩) n n) ∧ w' = w.alloc (.cells us.toArray e))) :
    FnSpec C f args [] (fun r L' => ∃ g, r = .sl 0 g n n ∧ L' = [(g, .row e 1 n xs)]) := by
  refine ⟨⟨fn, hf, hn, hb⟩, fun imm w vs hG hs hl hv => ?_⟩
  refine (h imm w vs hG hl hv).mono fun e' w' ⟨he, hw⟩ => ⟨_, .sl 0 w.heap.size n n, [(w.heap.size, .row e 1 n xs)], imm, he, .sl .., ?_, ?_, _, rfl, rfl⟩
  · subst hw
    have hlen' : xs.length = n := by rw [← (hus imm w).len]; exact hlen
    refine Sat.new (L := []) (o := .row e 1 n xs) hs (by simp) (fun i hi => (World.grownBy_alloc w _ none).block i hi (by simp)) ?_
    refine .row e 1 n xs us [] ?_ (by decide) hx (by simp [hlen]) hmax (by omega) ?_
    · rw [List.append_nil]
      exact heap_alloc_new w _
    · rw [hfl]; exact hus _ _
  · subst hw
    exact Tr.alloc (L := []) _ _

theorem VR.str_inv {imm : Nat → Prop} {w : World} {s : ByteArray} {v : Value} (h : VR imm w (.str s) v) : v = .string s := by cases h; rfl
theorem VR.int_inv {imm : Nat → Prop} {w : World} {k : IntKind} {n : Int} {v : Value} (h : VR imm w (.int k n) v) : v = .int k n := by cases h; rfl

theorem two_vals {imm : Nat → Prop} {w : World} {x y : AV} {vs : List Value} (hl : vs.length = [x, y].length) (hv : ∀ (j : Nat) (z : AV) (v : Value), [x, y][j]? = some z → vs[j]? = some v → VR imm w z v) : ∃ u v, vs = [u, v] ∧ VR imm w x u ∧ VR imm w y v := by
  match vs, hl with
  | [u, v], _ => exact ⟨u, v, rfl, hv 0 x u rfl rfl, hv 1 y v rfl rfl⟩
theorem strs_VRs (imm : Nat → Prop) (w : World) : ∀ l : List ByteArray, VRs imm w (l.map .str) (l.map .string)
  | [] => .nil _ _
  | s :: l => .cons rfl (.str s) (strs_VRs imm w l)
theorem strs_flats : ∀ l : List ByteArray, flats (l.map AV.str) = l.map .str
  | [] => rfl
  | s :: l => by
    have := strs_flats l
    simp only [flats, List.map_cons, List.flatMap_cons, flat, List.singleton_append] at this ⊢
    rw [this]

end Go.Proofs.YtgpbppkmmlclfaaDoor.HB
/- The library's sort by a comparison, over lists of structs that the code at hand owns. -/
namespace Go.Proofs.YtgpbppkmmlclfaaDoor.HB
open Go Go.Shelf Go.RowKit Go.Lib Go.Sort

section
variable {α : Type}

theorem flatMap_get {enc : α → List Value} {k : Nat} (hk : ∀ x, (enc x).length = k) : ∀ (l : List α) (t : Nat), t < l.length * k → ∃ x, l[t / k]? = some x ∧ (l.flatMap enc)[t]? = (enc x)[t % k]?
  | [], t, h => by simp at h
  | x :: l, t, h => by
    have hk0 : 0 < k := by
      rcases Nat.eq_zero_or_pos k with e | e
      · subst e; simp at h
      · exact e
    by_cases ht : t < k
    · refine ⟨x, by rw [Nat.div_eq_of_lt ht]; rfl, ?_⟩
      rw [List.flatMap_cons, List.getElem?_append_left (by rw [hk]; exact ht), Nat.mod_eq_of_lt ht]
    · have h1 : t = (t - k) + k := by omega
      obtain ⟨y, hy, e⟩ := flatMap_get hk l (t - k) (by rw [List.length_cons, Nat.succ_mul] at h; omega)
      refine ⟨y, ?_, ?_⟩
      · rw [h1, Nat.add_div_right _ hk0, List.getElem?_cons_succ]; exact hy
      · rw [List.flatMap_cons, List.getElem?_append_right (by rw [hk]; omega), hk, e]
        conv => rhs; rw [h1, Nat.add_mod_right]

theorem flatMap_len {enc : α → List Value} {k : Nat} (hk : ∀ x, (enc x).length = k) : ∀ l : List α, (l.flatMap enc).length = l.length * k
  | [] => by simp
  | x :: l => by rw [List.flatMap_cons, List.length_append, hk, flatMap_len hk l, List.length_cons, Nat.succ_mul]; omega

theorem flatK_list [Inhabited α] {enc : α → List Value} {k : Nat} (hk : ∀ x, (enc x).length = k) (d : Array α) : (flatK enc k d).toList = d.toList.flatMap enc := by
  have hlen := flatMap_len hk d.toList
  apply List.ext_getElem?
  intro t
  by_cases ht : t < d.size * k
  · obtain ⟨x, hx, e⟩ := flatMap_get hk d.toList t (by simpa using ht)
    have h1 := get_flatK enc k d t ht
    have hs : t < (flatK enc k d).size := by rw [size_flatK]; exact ht
    rw [getElem!_pos _ t hs] at h1
    rw [Array.getElem?_toList, Array.getElem?_eq_getElem hs, h1, e]
    have hdx : d[t / k]! = x := by
      rw [Array.getElem?_toList] at hx
      obtain ⟨hh, e2⟩ := Array.getElem?_eq_some_iff.1 hx
      rw [getElem!_pos d _ hh]; exact e2
    rw [hdx]
    have hk0 : 0 < k := by
      rcases Nat.eq_zero_or_pos k with e | e
      · subst e; simp at ht
      · exact e
    have hm : t % k < (enc x).length := by rw [hk]; exact Nat.mod_lt _ hk0
    rw [List.getElem?_eq_getElem hm, getElem!_pos (enc x) (t % k) hm]
  · rw [List.getElem?_eq_none (by simp; omega), List.getElem?_eq_none (by rw [hlen]; simp; omega)]

theorem putCells_list (F : Array Value) (vs spare : List Value) (h : vs.length = F.size) : putCells id 0 F (vs ++ spare).toArray = (F.toList ++ spare).toArray := by
  apply Array.ext_getElem?
  intro j
  simp only [putCells, Array.getElem?_mapIdx, Nat.zero_le, true_and, Nat.zero_add, Nat.sub_zero, id]
  simp only [List.getElem?_toArray]
  by_cases hj : j < F.size
  · rw [List.getElem?_append_left (by omega), List.getElem?_append_left (by simpa using hj), List.getElem?_eq_getElem (by omega)]
    simp [hj]
  · rw [List.getElem?_append_right (by omega), List.getElem?_append_right (by simpa using hj)]
    simp only [hj, if_false]
    rw [h, Array.length_toList]
    cases spare[j - F.size]? <;> rfl

theorem flats_agg (cs : α → List AV) : ∀ l : List α, flats (l.map fun x => AV.agg (cs x)) = l.flatMap cs
  | [] => rfl
  | x :: l => by
    have := flats_agg cs l
    simp only [flats, List.map_cons, List.flatMap_cons, flat] at this ⊢
    rw [this]

theorem toVs_append : ∀ {xs ys : List AV} {us vs : List Value}, toVs xs = some us → toVs ys = some vs → toVs (xs ++ ys) = some (us ++ vs)
  | [], ys, us, vs, h, k => by cases h; exact k
  | x :: xs, ys, us, vs, h, k => by
    simp only [toVs] at h
    split at h
    · rename_i u us' h1 h2
      cases h
      simp only [List.cons_append, toVs, h1, toVs_append h2 k]
    · cases h
theorem toVs_flatMap {cs : α → List AV} {enc : α → List Value} (h : ∀ x, toVs (cs x) = some (enc x)) : ∀ l : List α, toVs (l.flatMap cs) = some (l.flatMap enc)
  | [] => rfl
  | x :: l => by rw [List.flatMap_cons, List.flatMap_cons]; exact toVs_append (h x) (toVs_flatMap h l)
end

theorem sw_heap {α : Type} [Inhabited α] (enc : α → List Value) (k : Nat) (w : World) (blk off m : Nat) (dk : Array α) (os : Array Obj) : (sortWorldK enc k w blk off m dk os).heap = w.heap.modify blk (onCells (putCells id off (flatK enc k dk))) ++ os := rfl

theorem cmp_lays {C : Cx} {α : Type} [Inhabited α] (hD : C.D) {f : FuncId} {cs : α → List AV} {enc : α → List Value} {k : Nat} (hcs : ∀ x, toVs (cs x) = some (enc x)) {cf : α → α → Int}
    (h : ∀ x y, FnSpec C f [.agg (cs x), .agg (cs y)] [] (fun r _ => r = .int .i64 (cf x y))) {blk off size : Nat} {w : World} {imm : Nat → Prop} (hlt : ∀ g, imm g → g < w.heap.size)
    (hG : ∀ (m : Nat) (os : Array Obj) (dk : Array α), dk.size = size → C.G imm (sortWorldK enc k w blk off m dk os)) :
    CmpLays C.P f #[] enc k cf blk off size w := by
  intro m os dk hs x y
  have hsz : w.heap.size ≤ (sortWorldK enc k w blk off m dk os).heap.size := by
    simp [sw_heap]
  have := (h x y).2 imm _ [.agg (enc x).toArray, .agg (enc y).toArray] (hG m os dk hs) (sat_nil (fun g hg => Nat.lt_of_lt_of_le (hlt g hg) hsz)) rfl (fun j z v hz hv => by
    have hx : ∀ x, VR imm (sortWorldK enc k w blk off m dk os) (.agg (cs x)) (.agg (enc x).toArray) := fun x => toV_VR (by simp [toV, hcs]) _ _
    match j, hz, hv with
    | 0, hz, hv => cases hz; cases hv; exact hx x
    | 1, hz, hv => cases hz; cases hv; exact hx y
    | j + 2, hz, _ => simp at hz)
  generalize sortWorldK enc k w blk off m dk os = W at this ⊢
  refine this.mono ?_
  rintro e w' ⟨v, r, L', imm', rfl, hr, _, ht, rfl⟩
  cases hr
  refine ⟨rfl, w'.drawn - W.drawn, w'.heap.extract W.heap.size w'.heap.size, ?_⟩
  have hd := ht.drawn hD
  obtain ⟨hp, tp, dr, o, ou⟩ := w'
  have h1 := ht.os; have h2 := ht.tape; have h3 := ht.output; have h4 := ht.size; have h5 := fun i hi => ht.block i hi (not_own_nil i)
  simp only at h1 h2 h3 h4 h5 hd
  subst h1; subst h2; subst h3
  unfold grow World.drewN
  simp only [World.mk.injEq, and_true, true_and]
  refine ⟨?_, by omega⟩
  apply Array.ext_getElem?
  intro i
  by_cases hi : i < W.heap.size
  · rw [Array.getElem?_append_left hi]; exact h5 i hi
  · rw [Array.getElem?_append_right (by omega), Array.getElem?_extract]
    by_cases hi2 : i < hp.size
    · rw [if_pos (by omega)]; congr 1; omega
    · rw [if_neg (by omega), Array.getElem?_eq_none (by omega)]

theorem enters_fn {P : Program} {f : FuncId} {fn : Func} (hf : P.funcs[f]? = some fn) (hname : (fn.name == "runtime.NumGoroutine") = false) (hb : fn.body.isSome = true) (args : Array Value) (w : World) : (callFunc f args).run P w = .ok (.enter f args) w := by
  have h1 : fn.name ≠ "runtime.NumGoroutine" := by simpa using hname
  obtain ⟨cc, hcc⟩ := Option.isSome_iff_exists.1 hb
  simp [callFunc, hf, h1, hcc]

theorem FnSpec.sortFunc {C C' : Cx} {ρ : Ren} {α : Type} [Inhabited α] (hC : C.Ok) (L : SlLaysF0.n6 C.P ρ) (hP : C'.P = C.P) (hGG : ∀ imm w, C.G imm w → C'.G imm w) (hD : C'.D) (hnD : ¬ C.D)
    (hfn : ∃ fn, C.P.funcs[ρ.f 6]? = some fn ∧ (fn.name == "runtime.NumGoroutine") = false ∧ fn.body.isSome = true) {k e Cap gr : Nat}
    (aE : ∀ w, (isAgg (ρ.t 24)).run C.P w = .ok true w) (zE : ∀ w, (Go.sizeOf (ρ.t 24)).run C.P w = .ok k w) (cs : α → List AV) (enc : α → List Value) (hcs : ∀ x, toVs (cs x) = some (enc x)) (hk : ∀ x, (enc x).length = k)
    (cf : α → α → Int) (hO : SWO (ltOf cf)) (f : FuncId) (hcmp : ∀ x y, FnSpec C' f [.agg (cs x), .agg (cs y)] [] (fun r _ => r = .int .i64 (cf x y))) (xs : List α) (hlen : xs.length < 4611686018427387904) (k0 : Nat) :
    FnSpec C (ρ.f 6) [.sl k0 gr Cap xs.length, .any (.func (.func f) #[] #[])] [(gr, .row e k Cap (xs.map fun x => .agg (cs x)))]
      (fun r L' => r = .tuple [] ∧ ∃ ys : List α, ys.Perm xs ∧ ys.Pairwise (fun a b => ltOf cf b a = false) ∧ L' = [(gr, .row e k Cap (ys.map fun x => .agg (cs x)))]) := by
  refine ⟨hfn, fun imm w vs hG hs hl hv => ?_⟩
  obtain ⟨u, v, rfl, hu, hv2⟩ := two_vals hl hv
  cases hu; cases hv2
  obtain ⟨fn2, hf2, hn2, hb2⟩ := (hcmp default default).1
  rw [hP] at hf2
  have hrow := hs.holds 0 gr _ rfl trivial
  have hgr : gr < w.heap.size := hs.lt gr ⟨0, _, _, rfl, rfl⟩
  have hfar := hs.far gr ⟨0, _, _, rfl, rfl⟩
  cases hrow with
  | row _ _ _ _ ws spare hg hs0 hsz hCp hm hx hvs =>
    have hws : ws = xs.flatMap enc := toVs_spec (by rw [flats_agg]; exact toVs_flatMap hcs xs) hvs.len hvs.at_
    have hF := flatK_list hk xs.toArray
    simp only [] at hF
    have hFs : (flatK enc k xs.toArray).size = xs.length * k := by simp
    have hwl : ws.length = xs.length * k := by rw [hws, flatMap_len hk]
    have hH : HoldsK enc k w gr 0 xs.toArray := by
      intro j hj
      have hjl : j < ws.length := by rw [hwl]; rw [hFs] at hj; exact hj
      have hcell : w.cell? ⟨gr, 0 + j, none⟩ = some ws[j] := by
        have := cell_at hg 0 j ws[j] (by simpa using (List.getElem?_append_left (l₂ := spare) hjl).trans (List.getElem?_eq_getElem hjl))
        have e : (⟨gr, 0, none⟩ : Addr).add j = ⟨gr, 0 + j, none⟩ := by unfold Addr.add; split <;> simp_all
        rw [← e]; exact this
      refine ⟨?_, ?_⟩
      · rw [hcell, getElem!_pos _ j hj]
        have : (flatK enc k xs.toArray).toList[j]? = ws[j]? := by rw [hF, hws]
        rw [Array.getElem?_toList, Array.getElem?_eq_getElem hj, List.getElem?_eq_getElem hjl] at this
        simpa using this.symm
      · simp [World.frozen?, hg]
    have hGs : ∀ (m : Nat) (os : Array Obj) (dk : Array α), dk.size = xs.toArray.size → C'.G imm (sortWorldK enc k w gr 0 m dk os) := fun m os dk _ => by
      refine hGG _ _ (hC.mono _ _ _ _ hG (fun _ h => h) fun i hi => ?_)
      have hne : gr ≠ i := fun e => hfar (e ▸ hi)
      have hil := hs.immlt i hi
      rw [sw_heap]
      rw [Array.getElem?_append_left (by simpa using hil), Array.getElem?_modify, if_neg hne]
    have hcl := cmp_lays (C := C') (blk := gr) (off := 0) (size := xs.toArray.size) (k := k) hD hcs hcmp hs.immlt hGs
    rw [hP] at hcl
    have hcon := AnyQ.slices_SortFunc L k aE zE enc hk (fun x v hv => (toVs_VR (hcs x) imm w).2.1 v hv) cf hO f #[] gr 0 Cap xs.toArray w (enters_fn hf2 hn2 hb2) hcl hH hgr (by simpa using hlen)
    refine hcon.mono ?_
    rintro e' w' ⟨rfl, d', n, os, hperm, hsort, rfl⟩
    obtain ⟨hds, _, hp⟩ := hperm
    have hds' : d'.size = xs.length := by simpa using hds
    have hpl : d'.toList.Perm xs := by
      have e : d'.toList.take xs.length = d'.toList := List.take_of_length_le (by simp [hds'])
      have hp2 : (d'.toList.take xs.length).Perm xs := by simpa [hds'] using hp
      rw [e] at hp2; exact hp2
    have hheap : ∀ i, i < w.heap.size → i ≠ gr → (sortWorldK enc k w gr 0 n d' os).heap[i]? = w.heap[i]? := fun i hi hne => by
      rw [sw_heap]
      rw [Array.getElem?_append_left (by simpa using hi), Array.getElem?_modify, if_neg (Ne.symm hne)]
    have hF' := flatK_list hk d'
    have hself : (sortWorldK enc k w gr 0 n d' os).heap[gr]? = some (.cells (d'.toList.flatMap enc ++ spare).toArray e (0, 0)) := by
      rw [sw_heap]
      rw [Array.getElem?_append_left (by simpa using hgr), Array.getElem?_modify, if_pos rfl, hg]
      simp only [Option.map_some, onCells]
      rw [putCells_list _ _ _ (by rw [hwl]; simp [hds']), hF']
    have hsize : w.heap.size ≤ (sortWorldK enc k w gr 0 n d' os).heap.size := by simp [sw_heap]
    have hvs' : VRs imm (sortWorldK enc k w gr 0 n d' os) (flats (d'.toList.map fun x => AV.agg (cs x))) (d'.toList.flatMap enc) := by
      rw [flats_agg]
      obtain ⟨a1, a2, a3⟩ := toVs_VR (toVs_flatMap hcs d'.toList) imm (sortWorldK enc k w gr 0 n d' os)
      exact ⟨a1, a2, a3⟩
    have hcl1 : ∀ x, (cs x).length = k := fun x => by rw [← hk x]; exact ((toVs_VR (hcs x) imm w).1).symm
    refine ⟨_, .tuple [], [(gr, .row e k Cap (d'.toList.map fun x => .agg (cs x)))], imm, rfl, .tuple [] [] rfl (by simp), ?_, ?_, rfl, d'.toList, hpl, ?_, rfl⟩
    · exact hs.turn (k := 0) rfl trivial hsize hheap (.inl rfl) (.row e k Cap _ _ spare hself hs0 (fun x hx => by
        obtain ⟨y, _, rfl⟩ := List.mem_map.1 hx
        exact hcl1 y) (by rw [← hCp, List.length_append, List.length_append, flatMap_len hk, hwl, Array.length_toList, hds']) hm (by simpa [hds'] using hx) hvs')
    · exact Tr.turn (L := [(gr, _)]) (k := 0) rfl trivial (fun h => (hnD h).elim) ⟨rfl, rfl, rfl, hsize, fun i hi hne => hheap i hi (fun e => hne (by rw [e]))⟩ (.inl rfl)
    · rw [List.pairwise_iff_getElem]
      intro i j hi hj hij
      have h2 := hsort i j (Nat.zero_le _) hij (by simpa [hds'] using hj)
      rw [getElem!_pos d' j (by simpa using hj), getElem!_pos d' i (by simpa using hi)] at h2
      simpa using h2

theorem FnSpec.sortFunc_nil {C : Cx} {ρ : Ren} (L : SlLaysF0.n6 C.P ρ) (hfn : ∃ fn, C.P.funcs[ρ.f 6]? = some fn ∧ (fn.name == "runtime.NumGoroutine") = false ∧ fn.body.isSome = true) (fv : Value) :
    FnSpec C (ρ.f 6) [.nils, .any fv] [] (fun r L' => r = .tuple [] ∧ L' = []) := by
  obtain ⟨fn, h1, h2, h3⟩ := hfn
  refine FnSpec.of_same h1 h2 h3 rfl fun imm w vs hG hs hl hv => ?_
  obtain ⟨u, v, rfl, hu, hv2⟩ := two_vals hl hv
  cases hu; cases hv2
  exact ⟨.tuple #[], .tuple [] [] rfl (by simp), AnyF.slices_SortFunc_none L none 0 fv w⟩
end Go.Proofs.YtgpbppkmmlclfaaDoor.HB
/- A map's entries as a list. -/
namespace Go.Proofs.YtgpbppkmmlclfaaDoor.HB
open Go

section
variable {α : Type} (key val : α → Value)

structure MapOk (M : List α) (es : Array MapEntry) (clock : Nat) : Prop where
  at_ : es.toList.map (fun e => (e.key, e.val)) = M.map fun x => (key x, val x)
  keys : (M.map key).Nodup
  born : (es.toList.map (·.born)).Nodup
  old : ∀ e ∈ es.toList, e.born < clock

variable {key val} {M : List α} {es : Array MapEntry} {clock : Nat}
theorem MapOk.nil : MapOk key val [] #[] 0 := ⟨rfl, by simp, by simp, by simp⟩
theorem MapOk.len (h : MapOk key val M es clock) : es.size = M.length := by
  have := congrArg List.length h.at_
  simpa using this
theorem MapOk.get (h : MapOk key val M es clock) {i : Nat} {x : α} (hx : M[i]? = some x) : ∃ e, es.toList[i]? = some e ∧ e.key = key x ∧ e.val = val x := by
  have := congrArg (·[i]?) h.at_
  simp only [List.getElem?_map, hx, Option.map_some] at this
  cases he : es.toList[i]? with
  | none => rw [he] at this; cases this
  | some e =>
    rw [he] at this
    simp only [Option.map_some, Option.some.injEq, Prod.mk.injEq] at this
    exact ⟨e, rfl, this.1, this.2⟩
theorem MapOk.of (h : MapOk key val M es clock) {i : Nat} {e : MapEntry} (he : es.toList[i]? = some e) : ∃ x, M[i]? = some x ∧ e.key = key x ∧ e.val = val x := by
  have := congrArg (·[i]?) h.at_
  simp only [List.getElem?_map, he, Option.map_some] at this
  cases hx : M[i]? with
  | none => rw [hx] at this; cases this
  | some x =>
    rw [hx] at this
    simp only [Option.map_some, Option.some.injEq, Prod.mk.injEq] at this
    exact ⟨x, rfl, this.1, this.2⟩
theorem MapOk.isKey {d : TypeDesc} (hd : ∀ x, MapKept.IsKey d (key x)) (h : MapOk key val M es clock) : ∀ e ∈ es.toList, MapKept.IsKey d e.key := fun e he => by
  obtain ⟨i, hi⟩ := List.mem_iff_getElem?.1 he
  obtain ⟨x, _, e1, _⟩ := h.of hi
  rw [e1]; exact hd x
theorem MapOk.miss {d : TypeDesc} {P : Program} {kt : TypeId} (hu : P.underlying kt = some d) (hd : ∀ x, MapKept.IsKey d (key x)) (h : MapOk key val M es clock) {kv : Value} (hk : MapKept.IsKey d kv) (hn : ∀ x ∈ M, key x ≠ kv) : findAt P kt kv es.toList = some none := by
  unfold findAt
  rw [hu]
  rcases MapKept.findNow_spec hk es.toList 0 (h.isKey hd) with ⟨h1, _⟩ | ⟨j, e, _, h2, h3⟩
  · exact h1
  · obtain ⟨x, hx, e1, _⟩ := h.of h2
    exact absurd (e1.symm.trans h3) (hn x (List.mem_of_getElem? hx))
theorem MapOk.hit {d : TypeDesc} {P : Program} {kt : TypeId} (hu : P.underlying kt = some d) (hd : ∀ x, MapKept.IsKey d (key x)) (h : MapOk key val M es clock) {i : Nat} {x : α} (hx : M[i]? = some x) : findAt P kt (key x) es.toList = some (some (i, val x)) := by
  unfold findAt
  rw [hu]
  rcases MapKept.findNow_spec (hd x) es.toList 0 (h.isKey hd) with ⟨_, h1⟩ | ⟨j, e, h1, h2, h3⟩
  · obtain ⟨e, he, e1, _⟩ := h.get hx
    exact absurd e1 (h1 e (List.mem_of_getElem? he))
  · obtain ⟨y, hy, e1, e2⟩ := h.of h2
    have hj : (M.map key)[j]? = (M.map key)[i]? := by rw [List.getElem?_map, List.getElem?_map, hy, hx]; simp [← e1, h3]
    have hjl : j < (M.map key).length := by rw [List.length_map]; exact (List.getElem?_eq_some_iff.1 hy).1
    have : j = i := (List.getElem?_inj hjl h.keys).1 hj
    subst this
    rw [hx] at hy
    cases hy
    show Instr.findNow d (key x) es.toList 0 = _
    rw [h1, e2, Nat.zero_add]
theorem MapOk.push (h : MapOk key val M es clock) {y : α} (hn : ∀ x ∈ M, key x ≠ key y) : MapOk key val (M ++ [y]) (es.push { key := key y, val := val y, born := clock }) (clock + 1) := by
  refine ⟨by simp [h.at_], ?_, ?_, fun e he => ?_⟩
  · rw [List.map_append, List.nodup_append]
    refine ⟨h.keys, by simp, fun a ha b hb => ?_⟩
    obtain ⟨x, hx, rfl⟩ := List.mem_map.1 ha
    simp at hb
    subst hb
    exact hn x hx
  · rw [Array.toList_push, List.map_append, List.nodup_append]
    refine ⟨h.born, by simp, fun a ha b hb => ?_⟩
    obtain ⟨x, hx, rfl⟩ := List.mem_map.1 ha
    simp at hb
    subst hb
    exact Nat.ne_of_lt (h.old x hx)
  · rw [Array.toList_push, List.mem_append] at he
    rcases he with he | he
    · exact Nat.lt_succ_of_lt (h.old e he)
    · simp at he; subst he; exact Nat.lt_succ_self _
theorem MapOk.bits {i : Nat} {x : α} (h : MapOk key val M es clock) (hx : M[i]? = some x) (hb : Instr.sameBits 10000 (key x) (key x) = true) (kv : Value) : Instr.sameBits 10000 (((es[i]?).map (·.key)).getD kv) (key x) = true := by
  obtain ⟨e, he, e1, _⟩ := h.get hx
  rw [Array.getElem?_toList] at he
  rw [he]
  simp only [Option.map_some, Option.getD_some, e1]
  exact hb
theorem MapOk.set {i : Nat} {x y : α} (h : MapOk key val M es clock) (hx : M[i]? = some x) (hk : key y = key x) : MapOk key val (M.set i y) (es.modify i fun e => { e with key := key y, val := val y }) clock := by
  have hb : (es.modify i fun e => { e with key := key y, val := val y }).toList.map (·.born) = es.toList.map (·.born) := by
    apply List.ext_getElem?
    intro j
    simp only [List.getElem?_map, Array.getElem?_toList, Array.getElem?_modify]
    split <;> cases es[j]? <;> rfl
  have hil := (List.getElem?_eq_some_iff.1 hx).1
  refine ⟨?_, ?_, hb ▸ h.born, fun e he => ?_⟩
  · apply List.ext_getElem?
    intro j
    have hj := congrArg (·[j]?) h.at_
    simp only [List.getElem?_map, Array.getElem?_toList, Array.getElem?_modify, List.getElem?_set] at hj ⊢
    by_cases e : i = j
    · subst e
      obtain ⟨e0, he0, _⟩ := h.get hx
      rw [Array.getElem?_toList] at he0
      simp [he0, hil]
    · simp [e, hj]
  · have : (M.set i y).map key = M.map key := by
      apply List.ext_getElem?
      intro j
      simp only [List.getElem?_map, List.getElem?_set]
      by_cases e : i = j
      · subst e; rw [if_pos rfl, if_pos hil, hx]; simp [hk]
      · simp [e]
    rw [this]; exact h.keys
  · have : e.born ∈ (es.modify i fun e => { e with key := key y, val := val y }).toList.map (·.born) := List.mem_map.2 ⟨e, he, rfl⟩
    rw [hb] at this
    obtain ⟨e', he', e1⟩ := List.mem_map.1 this
    rw [← e1]; exact h.old e' he'
theorem map_eraseIdx' {β γ : Type} (f : β → γ) : ∀ (l : List β) (i : Nat), (l.eraseIdx i).map f = (l.map f).eraseIdx i
  | [], _ => rfl
  | _ :: _, 0 => rfl
  | x :: l, i + 1 => by simp [map_eraseIdx' f l i]
theorem MapOk.erase (i : Nat) (h : MapOk key val M es clock) : MapOk key val (M.eraseIdx i) (es.eraseIdxIfInBounds i) clock := by
  have he : (es.eraseIdxIfInBounds i).toList = es.toList.eraseIdx i := by
    unfold Array.eraseIdxIfInBounds
    split
    · simp
    · rw [List.eraseIdx_of_length_le (by simpa using Nat.le_of_not_lt (by assumption))]
  have hs := List.eraseIdx_sublist es.toList i
  refine ⟨?_, ?_, ?_, fun e h' => ?_⟩
  · rw [he]
    have := congrArg (·.eraseIdx i) h.at_
    rw [map_eraseIdx', map_eraseIdx']; exact this
  · rw [map_eraseIdx']; exact (List.eraseIdx_sublist _ _).nodup h.keys
  · rw [he]; exact (hs.map _).nodup h.born
  · rw [he] at h'; exact h.old e (hs.subset h')

def Visited (M : List α) (es : Array MapEntry) (seen : Array Nat) (V : List α) : Prop :=
  ∃ idx : List Nat, idx.Nodup ∧ (∀ i ∈ idx, i < M.length) ∧ seen.toList.map some = idx.map (fun i => (es.toList[i]?).map (·.born)) ∧ V.map some = idx.map (M[·]?)
theorem nodup_le : ∀ (n : Nat) (l : List Nat), l.Nodup → (∀ i ∈ l, i < n) → l.length ≤ n
  | 0, l, _, h => by
    cases l with
    | nil => simp
    | cons a l => exact absurd (h a (.head _)) (by omega)
  | n + 1, l, hn, h => by
    by_cases hm : n ∈ l
    · have := nodup_le n (l.erase n) (hn.erase n) (fun i hi => by
        have h1 := h i (List.mem_of_mem_erase hi)
        have h2 : i ≠ n := ((List.Nodup.mem_erase_iff hn).1 hi).1
        omega)
      rw [List.length_erase_of_mem hm] at this
      omega
    · have := nodup_le n l hn (fun i hi => by
        have h1 := h i hi
        have h2 : i ≠ n := fun e => hm (e ▸ hi)
        omega)
      omega
theorem Visited.start : Visited M es #[] [] := ⟨[], by simp, by simp, rfl, rfl⟩
theorem Visited.len {seen : Array Nat} {V : List α} (h : Visited M es seen V) : V.length ≤ M.length := by
  obtain ⟨idx, h1, h2, _, h4⟩ := h
  have e := congrArg List.length h4
  simp only [List.length_map] at e
  rw [e]
  exact nodup_le _ _ h1 h2
theorem Visited.step {seen : Array Nat} {V : List α} (hm : MapOk key val M es clock) (h : Visited M es seen V) {e : MapEntry} (he : e ∈ (leftOf es seen).toList) :
    ∃ x, x ∈ M ∧ e.key = key x ∧ e.val = val x ∧ Visited M es (seen.push e.born) (V ++ [x]) ∧ V.length < M.length := by
  obtain ⟨idx, h1, h2, h3, h4⟩ := h
  unfold leftOf at he
  simp only [Array.toList_filter, List.mem_filter] at he
  obtain ⟨hes, hns⟩ := he
  obtain ⟨i, hi⟩ := List.mem_iff_getElem?.1 hes
  obtain ⟨x, hx, e1, e2⟩ := hm.of hi
  have hil : i < M.length := (List.getElem?_eq_some_iff.1 hx).1
  have hni : i ∉ idx := fun hmem => by
    have : some e.born ∈ idx.map (fun i => (es.toList[i]?).map (·.born)) := List.mem_map.2 ⟨i, hmem, by rw [hi]; rfl⟩
    rw [← h3] at this
    obtain ⟨b, hb, e3⟩ := List.mem_map.1 this
    cases e3
    have : e.born ∈ seen := Array.mem_toList_iff.1 hb
    simp [this] at hns
  have hv : Visited M es (seen.push e.born) (V ++ [x]) := by
    refine ⟨idx ++ [i], ?_, ?_, ?_, ?_⟩
    · rw [List.nodup_append]
      exact ⟨h1, by simp, fun a ha b hb => by simp at hb; subst hb; exact fun e => hni (e ▸ ha)⟩
    · intro j hj
      rcases List.mem_append.1 hj with hj | hj
      · exact h2 j hj
      · simp at hj; subst hj; exact hil
    · rw [Array.toList_push, List.map_append, List.map_append, h3, List.map_singleton, List.map_singleton, hi]
      rfl
    · rw [List.map_append, List.map_append, h4, List.map_singleton, List.map_singleton, hx]
  refine ⟨x, List.mem_of_getElem? hx, e1, e2, hv, ?_⟩
  have := hv.len
  simp at this
  omega
theorem Visited.stop {seen : Array Nat} {V : List α} (hm : MapOk key val M es clock) (h : Visited M es seen V) (h0 : (leftOf es seen).size = 0) : V.Perm M := by
  obtain ⟨idx, h1, h2, h3, h4⟩ := h
  have hall : ∀ i, i < M.length → i ∈ idx := fun i hi => by
    obtain ⟨e, he, _⟩ := hm.get (List.getElem?_eq_getElem hi)
    have hmem : e ∈ es.toList := List.mem_of_getElem? he
    have hc : e.born ∈ seen := by
      refine Classical.byContradiction fun hc => ?_
      have : e ∈ (leftOf es seen).toList := by
        unfold leftOf
        simp only [Array.toList_filter, List.mem_filter]
        exact ⟨hmem, by simp [hc]⟩
      have hl : (leftOf es seen).toList = [] := List.eq_nil_of_length_eq_zero (by simpa using h0)
      rw [hl] at this
      cases this
    have : some e.born ∈ seen.toList.map some := List.mem_map.2 ⟨_, Array.mem_toList_iff.2 hc, rfl⟩
    rw [h3] at this
    obtain ⟨j, hj, e3⟩ := List.mem_map.1 this
    cases he2 : es.toList[j]? with
    | none => rw [he2] at e3; cases e3
    | some e2 =>
      rw [he2] at e3
      simp only [Option.map_some, Option.some.injEq] at e3
      have hb : (es.toList.map (·.born))[j]? = (es.toList.map (·.born))[i]? := by rw [List.getElem?_map, List.getElem?_map, he2, he]; simp [e3]
      have hjl : j < (es.toList.map (·.born)).length := by rw [List.length_map]; exact (List.getElem?_eq_some_iff.1 he2).1
      have := (List.getElem?_inj hjl hm.born).1 hb
      exact this ▸ hj
  have hp : idx.Perm (List.range M.length) := by
    rw [List.perm_ext_iff_of_nodup h1 List.nodup_range]
    intro i
    exact ⟨fun hi => List.mem_range.2 (h2 i hi), fun hi => hall i (List.mem_range.1 hi)⟩
  have hr : (List.range M.length).map (M[·]?) = M.map some := by
    apply List.ext_getElem?
    intro j
    by_cases hj : j < M.length
    · simp [hj]
    · rw [List.getElem?_eq_none (by simp; omega), List.getElem?_eq_none (by simp; omega)]
  have hq : (V.map some).Perm (M.map some) := by rw [h4, ← hr]; exact hp.map _
  have := hq.filterMap id
  simpa [List.filterMap_map] using this
end
end Go.Proofs.YtgpbppkmmlclfaaDoor.HB
/- Regions that draw their order and end in whatever the rules know: writes into maps too. -/
namespace Go.Proofs.YtgpbppkmmlclfaaDoor.HB
open Go

def aopW (C : Cx) (A : OpRule) : OpRule := fun o env L K KP => match movB false o.op with
  | true => aopF C o env L K
  | false => A o env L K KP
def lastOpsA (C : Cx) (A : OpRule) (ops : Array Oper) (KP : Value → AHeap → Prop) : List Nat → (List AV → AHeap → Prop) → List AV → AHeap → Prop
  | [], Q, env, L => Q env L
  | i :: rest, Q, env, L => match ops[i]? with
    | none => False
    | some o => aoperG (fun o env L K => aopW C A o env L K KP) ops o env L fun env' L' => lastOpsA C A ops KP rest Q env' L'

theorem lastOpsA_sound {C : Cx} (hC : C.Ok) {A : OpRule} (hA : A.Sound C) {F : Fr} {ops : Array Oper} {J : List AV} {Q : List AV → AHeap → Prop} {KP : Value → AHeap → Prop} {Qc : Exit → Act → World → Prop} (hsel : Region.noSelect ops = true) (hQ : ∀ env L a w, Q env L → At C F env L a w → Qc .normal a w)
    (hJ : Blind ops J) (hP : ∀ v L a w, KP v L → At C F J L a w → Qc (.panic (chain1 v)) a w) (hinv : Inv ops Qc) :
    ∀ (order : List Nat) (fuel : Nat) (listed : Array Bool) (env : List AV) (L : AHeap) (a : Act) (w : World), order.length ≤ fuel → orderOkW ops order listed = true → lastOpsA C A ops KP order Q env L → wk env J →
      At C F env L a w → wpAnyH C.P .any ops Qc (fun _ => True) fuel listed a w
  | [], fuel, listed, env, L, a, w, _, hok, h, _, ha => by
    have : Region.ready .any ops listed = [] := by simpa [orderOkW] using hok
    exact wpAnyH_done this (hQ _ _ _ _ h ha) fuel
  | _ :: _, 0, _, _, _, _, _, hl, _, _, _, _ => by simp at hl
  | i :: rest, fuel + 1, listed, env, L, a, w, hl, hok, h, hwk, ha => by
    obtain ⟨imm, hst, hG⟩ := ha
    simp only [orderOkW] at hok
    simp only [lastOpsA] at h
    cases ho : ops[i]? with
    | none => rw [ho] at h; exact h.elim
    | some o =>
      rw [ho] at h hok
      simp only [Bool.and_eq_true, Bool.or_eq_true] at hok
      obtain ⟨hthis, hrest⟩ := hok
      have hl' : rest.length ≤ fuel := by simpa using hl
      have hwk' : ∀ x, wk (putA env o.dst x) J := fun x => wk_putA hwk fun t y hd hy => hJ.at_ i o t y ho hd hy
      by_cases hmv : movB false o.op = true
      · have hm := hmv
        simp only [movB, Bool.and_eq_true, Bool.or_eq_true, Bool.not_eq_true', Bool.false_eq_true, false_or] at hm
        obtain ⟨hmov, hload⟩ := hm
        have h : aoperG (aopF C) ops o env L fun env' L' => lastOpsA C A ops KP rest Q env' L' := by
          unfold aoperG at h ⊢
          simp only [aopW, hmv] at h
          exact h
        rw [aopF_fun] at h
        rcases hthis with ⟨⟨_, hfree⟩, hready⟩ | hsing
        · have take : ∀ {v : Value} {x : AV}, YieldsIf C.P ops (fun _ => True) o v a → VR imm w x v → lastOpsA C A ops KP rest Q (putA env o.dst x) L → wpAnyH C.P .any ops Qc (fun _ => True) (fuel + 1) listed a w := fun {v x} hy hx hk =>
            wpAnyH_take ho hsel hfree hready (fun c a w hp => hinv i o _ c a w ho hp) hy trivial (lastOpsA_sound hC hA hsel hQ hJ hP hinv rest fuel _ _ L _ w hl' hrest hk (hwk' _) ⟨imm, hst.put hx o.dst, hG⟩)
          rcases aoperG_cases h hst.env with ⟨hw, h⟩ | ⟨hw, h⟩
          · obtain ⟨v, x, hr, hx, hk⟩ := aop_move hC hmov h hG hst.sat hst.env
            exact take (.inl ⟨hw, fun w' _ => hr w' (fun hl => by rw [hload] at hl; cases hl)⟩) hx hk
          · exact take (.inr ⟨hw, rfl⟩) undef_VR h
        · have hr : Region.ready .any ops listed = [i] := by simpa using hsing
          refine wpAnyH_all hr (by simp) (fun j hj => ?_)
          obtain rfl : j = i := by simpa using hj
          unfold wpOp
          rw [ho]
          dsimp only
          rcases aoperG_cases h hst.env with ⟨hw, h⟩ | ⟨hw, h⟩
          · rw [if_pos hw]
            refine .inl (aop_sound hC h hG hst.sat hst.env fun x L' imm' v w' hk hs hx ht => ⟨trivial, lastOpsA_sound hC hA hsel hQ hJ hP hinv rest fuel _ _ L' _ w' hl' hrest hk (hwk' _) ?_⟩)
            exact At.next hC hst hG hs hx ht o.dst
          · rw [if_neg (by rw [hw]; simp)]
            exact ⟨trivial, lastOpsA_sound hC hA hsel hQ hJ hP hinv rest fuel _ _ L _ w hl' hrest h (hwk' _) ⟨imm, hst.put undef_VR o.dst, hG⟩⟩
      · have hmv : movB false o.op = false := by cases e : movB false o.op; rfl; exact absurd e hmv
        rcases hthis with ⟨⟨hm, _⟩, _⟩ | hsing
        · rw [hmv] at hm; cases hm
        have h : aoperG (fun o env L K => A o env L K KP) ops o env L fun env' L' => lastOpsA C A ops KP rest Q env' L' := by
          unfold aoperG at h ⊢
          simp only [aopW, hmv] at h
          exact h
        have hr : Region.ready .any ops listed = [i] := by simpa using hsing
        refine wpAnyH_all hr (by simp) (fun j hj => ?_)
        obtain rfl : j = i := by simpa using hj
        unfold wpOp
        rw [ho]
        dsimp only
        rcases aoperG_cases h hst.env with ⟨hw, h⟩ | ⟨hw, h⟩
        · rw [if_pos hw]
          refine .inl (hA _ _ _ _ _ h _ _ _ hG hst.sat hst.env _ _ (fun x L' imm' v w' hk hs hx ht => ⟨trivial, lastOpsA_sound hC hA hsel hQ hJ hP hinv rest fuel _ _ L' _ w' hl' hrest hk (hwk' _) ?_⟩) (fun v L' imm' w' hk hs ht => ?_))
          · exact At.next hC hst hG hs hx ht o.dst
          · exact hP _ _ _ _ hk (At.wk ⟨imm', hst.step hs ht, hC.mono _ _ _ _ hG ht.imm1 (ht.immblock hst.sat.far hst.sat.immlt)⟩ hwk)
        · rw [if_neg (by rw [hw]; simp)]
          exact ⟨trivial, lastOpsA_sound hC hA hsel hQ hJ hP hinv rest fuel _ _ L _ w hl' hrest h (hwk' _) ⟨imm, hst.put undef_VR o.dst, hG⟩⟩

structure OrdW (C : Cx) (A : OpRule) (Q : Exit → List AV → AHeap → Prop) (k : List Frame) (ops : Array Oper) (J : List AV) (rest : List Nat) (env : List AV) (L : AHeap) : Prop where
  ok : lastOpsA C A ops (fun v L => after C Q k (.panic (chain1 v)) J L) rest (after C Q k .normal) env L
structure OrdA (C : Cx) (A : OpRule) (Q : Exit → List AV → AHeap → Prop) (k : List Frame) (keys ks : List Nat) (ops : Array Oper) (J : List AV) (rest : List Nat) (env : List AV) (L : AHeap) : Prop where
  ok : awpOrdE C keys ops (fun v L => after C Q k (.panic (chain1 v)) J L) rest (lastOpsA C A ops (fun v L => after C Q k (.panic (chain1 v)) J L) ks (after C Q k .normal)) env L
section
variable {C : Cx} {A : OpRule} {Q : Exit → List AV → AHeap → Prop} {k : List Frame} {env : List AV} {L : AHeap}
theorem Run.drawnA (hC : C.Ok) (hA : A.Sound C) {id : Nat} {ops : Array Oper} (keys ks : List Nat) (order : List Nat) (hc : (Region.noSelect ops && orderOkE ops ks order (Array.replicate ops.size false) && decide (order.length + ks.length ≤ ops.size)) = true) (hk : (keys.all fun k => (L[k]?).isSome) = true)
    (h : OrdA C A Q k keys ks ops (junkD ops env) order env L) : Run C Q k (.region id ops true) env L :=
  Run.sem1 fun F a w ha => by
    have h := h.ok
    have hsel := hc
    simp only [Bool.and_eq_true, decide_eq_true_eq] at hsel
    exact wp_drawnT hC keys ks order hc hk (fun fuel listed env' L a w h1 h2 h3 h5 h4 => lastOpsA_sound hC hA hsel.1.1 (fun env L a w hq ha => ⟨env, L, ha, hq⟩) (junkD_blind ops env) (fun v L a w hk ha => ⟨v, L, rfl, hk, ha⟩) (QE_inv env) ks fuel listed env' L a w h1 h2 h3 h5 h4) h ha
theorem OrdA.nil {keys ks : List Nat} {ops : Array Oper} {J : List AV} (h : OrdW C A Q k ops J ks env L) : OrdA C A Q k keys ks ops J [] env L := ⟨h.ok⟩
theorem OrdW.nil {ops : Array Oper} {J : List AV} (h : Cont C Q k .normal env L) : OrdW C A Q k ops J [] env L := ⟨h.ok⟩
theorem OrdA.cons {keys ks : List Nat} {ops : Array Oper} {J : List AV} {i : Nat} {rest : List Nat} {o : Oper} (ho : ops[i]? = some o) (h : aoperG (fun o env L K => aopE C keys o env L K fun v L' => Cont C Q k (.panic (chain1 v)) J L') ops o env L fun env' L' => OrdA C A Q k keys ks ops J rest env' L') : OrdA C A Q k keys ks ops J (i :: rest) env L := by
  have e : (fun env' L' => OrdA C A Q k keys ks ops J rest env' L') = fun env' L' => awpOrdE C keys ops (fun v L => after C Q k (.panic (chain1 v)) J L) rest (lastOpsA C A ops (fun v L => after C Q k (.panic (chain1 v)) J L) ks (after C Q k .normal)) env' L' := by
    funext env' L'
    exact propext ⟨fun h => h.ok, fun h => ⟨h⟩⟩
  have e2 : (fun (v : Value) (L' : AHeap) => Cont C Q k (.panic (chain1 v)) J L') = fun v L' => after C Q k (.panic (chain1 v)) J L' := by
    funext v L'
    exact propext ⟨fun h => h.ok, fun h => ⟨h⟩⟩
  rw [e, e2] at h
  refine ⟨?_⟩
  unfold awpOrdE
  rw [ho]
  exact h
theorem OrdW.cons {ops : Array Oper} {J : List AV} {i : Nat} {rest : List Nat} {o : Oper} (ho : ops[i]? = some o) (h : aoperG (fun o env L K => aopW C A o env L K fun v L' => Cont C Q k (.panic (chain1 v)) J L') ops o env L fun env' L' => OrdW C A Q k ops J rest env' L') : OrdW C A Q k ops J (i :: rest) env L := by
  have e : (fun env' L' => OrdW C A Q k ops J rest env' L') = fun env' L' => lastOpsA C A ops (fun v L => after C Q k (.panic (chain1 v)) J L) rest (after C Q k .normal) env' L' := by
    funext env' L'
    exact propext ⟨fun h => h.ok, fun h => ⟨h⟩⟩
  have e2 : (fun (v : Value) (L' : AHeap) => Cont C Q k (.panic (chain1 v)) J L') = fun v L' => after C Q k (.panic (chain1 v)) J L' := by
    funext v L'
    exact propext ⟨fun h => h.ok, fun h => ⟨h⟩⟩
  rw [e, e2] at h
  refine ⟨?_⟩
  unfold lastOpsA
  rw [ho]
  exact h
end

theorem FnSpec.undraw {P : Program} {T : TTab} {E : TypeId → Option (List AV)} {GT : Nat → Option (List AV)} {G : (Nat → Prop) → World → Prop} {f : FuncId} {args : List AV} {L : AHeap} {Q : AV → AHeap → Prop} (h : FnSpec ⟨P, T, E, GT, G, True⟩ f args L Q) : FnSpec ⟨P, T, E, GT, G, False⟩ f args L Q :=
  ⟨h.1, fun imm w vs hG hs hl hv => (h.2 imm w vs hG hs hl hv).mono fun _ _ ⟨v, r, L', imm', a, b, c, d, q⟩ => ⟨v, r, L', imm', a, b, c, ⟨fun h => h.elim, d.os, d.tape, d.output, d.size, d.block, d.imm1, d.imm2, d.own2⟩, q⟩⟩
abbrev Zf := @OrdA.cons
abbrev Zg := @OrdA.nil
abbrev Zh := @OrdW.cons
abbrev Zi := @OrdW.nil
end Go.Proofs.YtgpbppkmmlclfaaDoor.HB
/- Regions that draw their order: what is loaded is kept, all else goes by whatever sound rules, one behind the other. -/
namespace Go.Proofs.YtgpbppkmmlclfaaDoor.HB
open Go

def unrest (keys : List Nat) : Nat → AHeap → AHeap → AHeap
  | _, [], L' => L'
  | j, x :: L, [] => (match keys.contains j with | true => x | false => (0, .dead)) :: unrest keys (j + 1) L []
  | j, x :: L, y :: L' => (match keys.contains j with | true => x | false => y) :: unrest keys (j + 1) L L'

theorem unrest_live {keys : List Nat} : ∀ {L L' : AHeap} {j0 j : Nat} {g : Nat} {o : AObj}, (unrest keys j0 L L')[j]? = some (g, o) → o.live → (j0 + j ∈ keys ∧ L[j]? = some (g, o)) ∨ L'[j]? = some (g, o)
  | [], L', j0, j, g, o, h, _ => .inr (by simpa [unrest] using h)
  | x :: L, [], j0, 0, g, o, h, ho => by
    simp only [unrest, List.getElem?_cons_zero, Option.some.injEq] at h
    cases hk : keys.contains j0 with
    | true => rw [hk] at h; exact .inl ⟨by simpa using hk, by rw [List.getElem?_cons_zero]; exact congrArg some h⟩
    | false => rw [hk] at h; cases h; exact ho.elim
  | x :: L, [], j0, j + 1, g, o, h, ho => by
    simp only [unrest, List.getElem?_cons_succ] at h
    rcases unrest_live h ho with ⟨h1, h2⟩ | h1
    · exact .inl ⟨by rw [show j0 + (j + 1) = j0 + 1 + j by omega]; exact h1, by rw [List.getElem?_cons_succ]; exact h2⟩
    · simp at h1
  | x :: L, y :: L', j0, 0, g, o, h, ho => by
    simp only [unrest, List.getElem?_cons_zero, Option.some.injEq] at h
    cases hk : keys.contains j0 with
    | true => rw [hk] at h; exact .inl ⟨by simpa using hk, by rw [List.getElem?_cons_zero]; exact congrArg some h⟩
    | false => rw [hk] at h; exact .inr (by rw [List.getElem?_cons_zero]; exact congrArg some h)
  | x :: L, y :: L', j0, j + 1, g, o, h, ho => by
    simp only [unrest, List.getElem?_cons_succ] at h
    rcases unrest_live h ho with ⟨h1, h2⟩ | h1
    · exact .inl ⟨by rw [show j0 + (j + 1) = j0 + 1 + j by omega]; exact h1, by rw [List.getElem?_cons_succ]; exact h2⟩
    · exact .inr (by rw [List.getElem?_cons_succ]; exact h1)
theorem unrest_keep {keys : List Nat} : ∀ {L L' : AHeap} {j0 j : Nat} {x : Nat × AObj}, j0 + j ∈ keys → L[j]? = some x → (unrest keys j0 L L')[j]? = some x
  | [], _, _, _, _, _, h => by simp at h
  | y :: L, [], j0, 0, x, hk, h => by
    simp only [unrest, List.getElem?_cons_zero]
    have : keys.contains j0 = true := by simpa using hk
    rw [this]; simpa using h
  | y :: L, [], j0, j + 1, x, hk, h => by
    simp only [unrest, List.getElem?_cons_succ]
    exact unrest_keep (by rw [show j0 + 1 + j = j0 + (j + 1) by omega]; exact hk) (by simpa using h)
  | y :: L, z :: L', j0, 0, x, hk, h => by
    simp only [unrest, List.getElem?_cons_zero]
    have : keys.contains j0 = true := by simpa using hk
    rw [this]; simpa using h
  | y :: L, z :: L', j0, j + 1, x, hk, h => by
    simp only [unrest, List.getElem?_cons_succ]
    exact unrest_keep (by rw [show j0 + 1 + j = j0 + (j + 1) by omega]; exact hk) (by simpa using h)

theorem own_restL {L : AHeap} {keys : List Nat} {i : Nat} (h : Own (restL L keys) i) : ∃ k g o, k ∉ keys ∧ L[k]? = some (g, o) ∧ o.owns g i := by
  obtain ⟨k, g, o, hk, ho⟩ := h
  obtain ⟨h1, h2⟩ := restL_live hk ho.live
  exact ⟨k, g, o, h1, h2, ho⟩
theorem unrest_sat {D : Prop} {imm imm' : Nat → Prop} {w w' : World} {L L' : AHeap} {keys : List Nat} (hs : Sat imm w L) (hs' : Sat imm' w' L') (ht : Tr D (Own (restL L keys)) imm w (Own L') imm' w') :
    Sat imm' w' (unrest keys 0 L L') ∧ Tr D (Own L) imm w (Own (unrest keys 0 L L')) imm' w' ∧ SameK imm L keys w w' ∧ ∀ g, OwnK L keys g → OwnK (unrest keys 0 L L') keys g := by
  have hsub : ∀ g, Own (restL L keys) g → Own L g := fun g hg => by obtain ⟨k, g', o, _, hk, ho⟩ := own_restL hg; exact ⟨k, g', o, hk, ho⟩
  have hkey : ∀ k g i o, k ∈ keys → L[k]? = some (g, o) → o.owns g i → ¬ Own (restL L keys) i := fun k g i o hk hl ho hg => by
    obtain ⟨k', g', o', hk', hl', ho'⟩ := own_restL hg
    have := hs.apart k k' g g' i o o' hl ho hl' ho'
    exact hk' (this ▸ hk)
  have hkey' : ∀ k g i o, k ∈ keys → L[k]? = some (g, o) → o.owns g i → ¬ Own L' i := fun k g i o hk hl ho hg => by
    rcases ht.own2 i hg with h | h
    · exact hkey k g i o hk hl ho h
    · have := hs.lt i ⟨k, g, o, hl, ho⟩; omega
  have himm : ∀ i, imm i → w'.heap[i]? = w.heap[i]? := ht.immblock (fun g hg => hs.far g (hsub g hg)) hs.immlt
  have hkb : ∀ k g i o, k ∈ keys → L[k]? = some (g, o) → o.owns g i → w'.heap[i]? = w.heap[i]? := fun k g i o hk hl ho => ht.block i (hs.lt i ⟨k, g, o, hl, ho⟩) (hkey k g i o hk hl ho)
  have hmem : ∀ (j g : Nat) (o : AObj), (unrest keys 0 L L')[j]? = some (g, o) → o.live → (j ∈ keys ∧ L[j]? = some (g, o)) ∨ L'[j]? = some (g, o) := fun j g o h ho => by
    have := unrest_live h ho
    rwa [Nat.zero_add] at this
  refine ⟨⟨fun j g o hj ho => ?_, fun j j' g g' i o o' h1 l1 h2 l2 => ?_, fun g hg => ?_, fun g hg => ?_, hs'.immlt⟩, ⟨ht.drawn, ht.os, ht.tape, ht.output, ht.size, fun i hi ho => ht.block i hi (fun h => ho (hsub i h)), ht.imm1, fun i hi => ?_, fun i hi => ?_⟩, fun g hg => ?_, fun g hg => ?_⟩
  · rcases hmem j g o hj ho with ⟨hk, hl⟩ | hl
    · exact (hs.holds j g o hl ho).mono ht.imm1 himm (fun i hi => hkb j g i o hk hl hi)
    · exact hs'.holds j g o hl ho
  · rcases hmem j g o h1 l1.live with ⟨hk, hl⟩ | hl <;> rcases hmem j' g' o' h2 l2.live with ⟨hk', hl'⟩ | hl'
    · exact hs.apart j j' g g' i o o' hl l1 hl' l2
    · exact (hkey' j g i o hk hl l1 ⟨j', g', o', hl', l2⟩).elim
    · exact (hkey' j' g' i o' hk' hl' l2 ⟨j, g, o, hl, l1⟩).elim
    · exact hs'.apart j j' g g' i o o' hl l1 hl' l2
  · obtain ⟨j, g', o, hj, ho⟩ := hg
    rcases hmem j g' o hj ho.live with ⟨hk, hl⟩ | hl
    · intro hi
      rcases ht.imm2 g hi with h | h | h
      · exact hs.far g ⟨j, g', o, hl, ho⟩ h
      · exact hkey j g' g o hk hl ho h
      · have := hs.lt g ⟨j, g', o, hl, ho⟩; omega
    · exact hs'.far g ⟨j, g', o, hl, ho⟩
  · obtain ⟨j, g', o, hj, ho⟩ := hg
    rcases hmem j g' o hj ho.live with ⟨hk, hl⟩ | hl
    · exact Nat.lt_of_lt_of_le (hs.lt g ⟨j, g', o, hl, ho⟩) ht.size
    · exact hs'.lt g ⟨j, g', o, hl, ho⟩
  · rcases ht.imm2 i hi with h | h | h
    · exact .inl h
    · exact .inr (.inl (hsub i h))
    · exact .inr (.inr h)
  · obtain ⟨j, g', o, hj, ho⟩ := hi
    rcases hmem j g' o hj ho.live with ⟨hk, hl⟩ | hl
    · exact .inl ⟨j, g', o, hl, ho⟩
    · exact (ht.own2 i ⟨j, g', o, hl, ho⟩).imp (hsub i) id
  · rcases hg with hg | ⟨k, g', o, hk, hl, ho⟩
    · exact himm g hg
    · exact hkb k g' g o hk hl ho
  · obtain ⟨k, g', o, hk, hl, ho⟩ := hg
    exact ⟨k, g', o, hk, unrest_keep (by rw [Nat.zero_add]; exact hk) hl, ho⟩

def aopK (C : Cx) (A : OpRule) (keys : List Nat) (o : Oper) (env : List AV) (L : AHeap) (K : AV → AHeap → Prop) : Prop :=
  match o.op with
  | .lookup t x ix ok => alookup C (· ∈ keys) t (aeval env x) (aeval env ix) ok L fun v => K v L
  | op => match movA op with
    | true => aopP C keys { o with op := op } env L K
    | false => forceL (restL L keys) fun L1 => A { o with op := op } env L1 (fun v L' => K v (unrest keys 0 L L')) (fun _ _ => False)

theorem aopK_move {C : Cx} (hC : C.Ok) {A : OpRule} {keys : List Nat} {o : Oper} (hm : movA o.op = true) {env : List AV} {L : AHeap} {K : AV → AHeap → Prop} (h : aopK C A keys o env L K) {imm : Nat → Prop} {w : World} {a : Act} (hG : C.G imm w) (hs : Sat imm w L) (he : EnvR imm w env a.tmps) :
    ∃ v x, (∀ w', SameK imm L keys w w' → (execOp a.eval o).run C.P w' = .ok (.value v) w') ∧ VR imm w x v ∧ K x L := by
  unfold aopK at h
  split at h
  · rename_i t x ix ok ho
    obtain ⟨v, y, hr, hy, hk⟩ := alookup_sound hC h hs he
    refine ⟨v, y, fun w' hsame => ?_, hy, hk⟩
    have := hr w' (fun k g o hk hL => hsame g (.inr ⟨k, _, _, hk, hL, rfl⟩))
    simp [execOp, ho, this]
  · rw [hm] at h
    exact aopP_move hC hm h hG hs he

theorem aopK_sound {C : Cx} (hC : C.Ok) {A : OpRule} (hA : A.Sound C) {keys : List Nat} {o : Oper} {env : List AV} {L : AHeap} {K : AV → AHeap → Prop} (h : aopK C A keys o env L K) {imm : Nat → Prop} {w : World} {a : Act} (hG : C.G imm w) (hs : Sat imm w L) (he : EnvR imm w env a.tmps)
    {next : Act → World → Prop} {Q : Exit → Act → World → Prop}
    (hn : ∀ x L' imm' v w', K x L' → Sat imm' w' L' → VR imm' w' x v → Tr C.D (Own L) imm w (Own L') imm' w' → SameK imm L keys w w' → (∀ g, OwnK L keys g → OwnK L' keys g) → next (a.put o.dst v) w') : o.wp C.P a w next Q := by
  by_cases hm : movA o.op = true
  · obtain ⟨v, x, hr, hx, hk⟩ := aopK_move hC hm h hG hs he
    exact wp_value (hr w (fun _ _ => rfl)) (hn _ _ _ _ _ hk hs hx (Tr.refl _ _ _) (fun _ _ => rfl) (fun _ h => h))
  unfold aopK at h
  split at h
  · rename_i ho; rw [ho] at hm; exact absurd rfl hm
  · have hm' : movA o.op = false := by cases hb : movA o.op; rfl; exact absurd hb hm
    rw [hm', forceL_eq] at h
    refine hA _ _ _ _ _ h imm w a hG (restL_sat hs) he next Q (fun x L' imm' v w' hk hs' hx ht => ?_) (fun v L' imm' w' hk _ _ => hk.elim)
    obtain ⟨u1, u2, u3, u4⟩ := unrest_sat hs hs' ht
    exact hn _ _ _ _ _ hk u1 hx u2 u3 u4

def awpOrdK (C : Cx) (A : OpRule) (keys : List Nat) (ops : Array Oper) : List Nat → (List AV → AHeap → Prop) → List AV → AHeap → Prop
  | [], Q, env, L => Q env L
  | i :: rest, Q, env, L =>
    match ops[i]? with
    | none => False
    | some o => aoperG (aopK C A keys) ops o env L fun env' L' => awpOrdK C A keys ops rest Q env' L'

theorem awpOrdK_sound {C : Cx} (hC : C.Ok) {A : OpRule} (hA : A.Sound C) {F : Fr} {keys : List Nat} {ops : Array Oper} {Q : List AV → AHeap → Prop} {Qc : Exit → Act → World → Prop} (hsel : Region.noSelect ops = true) (hQ : ∀ env L a w, Q env L → At C F env L a w → Qc .normal a w) (hpan : ∀ c a w, ¬ Qc (.panic c) a w) :
    ∀ (order : List Nat) (fuel : Nat) (listed : Array Bool) (env : List AV) (L : AHeap) (a : Act) (w : World) (imm : Nat → Prop), order.length ≤ fuel → orderOk true ops order listed = true → awpOrdK C A keys ops order Q env L →
      St C.D F.ds F.own F.imm F.w env L imm a w → C.G imm w → wpAnyH C.P .any ops Qc (SameK imm L keys w) fuel listed a w
  | [], fuel, listed, env, L, a, w, imm, _, hok, h, hst, hG => by
    have : Region.ready .any ops listed = [] := by simpa [orderOk] using hok
    exact wpAnyH_done this (hQ _ _ _ _ h ⟨imm, hst, hG⟩) fuel
  | i :: rest, 0, _, _, _, _, _, _, hl, _, _, _, _ => by simp at hl
  | i :: rest, fuel + 1, listed, env, L, a, w, imm, hl, hok, h, hst, hG => by
    simp only [orderOk] at hok
    simp only [awpOrdK] at h
    cases ho : ops[i]? with
    | none => rw [ho] at h; exact h.elim
    | some o =>
      rw [ho] at h hok
      simp only [Bool.and_eq_true, Bool.or_eq_true] at hok
      obtain ⟨hthis, hrest⟩ := hok
      have hl' : rest.length ≤ fuel := by simpa using hl
      rcases hthis with ⟨⟨hm, hfree⟩, hready⟩ | hsing
      · simp only [movB, Bool.and_eq_true, Bool.or_eq_true, Bool.not_eq_true'] at hm
        obtain ⟨hmov, _⟩ := hm
        have take : ∀ {v : Value} {x : AV}, YieldsIf C.P ops (SameK imm L keys w) o v a → VR imm w x v → awpOrdK C A keys ops rest Q (putA env o.dst x) L → wpAnyH C.P .any ops Qc (SameK imm L keys w) (fuel + 1) listed a w := fun {v x} hy hx hk =>
          wpAnyH_take ho hsel hfree hready (fun c a w hp => (hpan c _ _ hp).elim) hy (fun _ _ => rfl) (awpOrdK_sound hC hA hsel hQ hpan rest fuel _ _ L _ w imm hl' hrest hk (hst.put hx o.dst) hG)
        rcases aoperG_cases h hst.env with ⟨hw, h⟩ | ⟨hw, h⟩
        · obtain ⟨v, x, hr, hx, hk⟩ := aopK_move hC hmov h hG hst.sat hst.env
          exact take (.inl ⟨hw, hr⟩) hx hk
        · exact take (.inr ⟨hw, rfl⟩) undef_VR h
      · have hr : Region.ready .any ops listed = [i] := by simpa using hsing
        refine wpAnyH_all hr (by simp) (fun j hj => ?_)
        obtain rfl : j = i := by simpa using hj
        unfold wpOp
        rw [ho]
        dsimp only
        rcases aoperG_cases h hst.env with ⟨hw, h⟩ | ⟨hw, h⟩
        · rw [if_pos hw]
          refine .inl (aopK_sound hC hA h hG hst.sat hst.env fun x L' imm' v w' hk hs hx ht hsame hown => ⟨hsame, ?_⟩)
          have hst' := (hst.step hs ht).put hx o.dst
          have hG' := hC.mono _ _ _ _ hG ht.imm1 (ht.immblock hst.sat.far hst.sat.immlt)
          refine wpAnyH_weak (S := SameK imm' L' keys w') (fun w2 h2 g hg => ?_) _ _ _ _ (awpOrdK_sound hC hA hsel hQ hpan rest fuel _ _ L' _ w' imm' hl' hrest hk hst' hG')
          rw [h2 g (hg.imp (ht.imm1 g) (hown g)), hsame g hg]
        · rw [if_neg (by rw [hw]; simp)]
          exact ⟨fun _ _ => rfl, awpOrdK_sound hC hA hsel hQ hpan rest fuel _ _ L _ w imm hl' hrest h (hst.put undef_VR o.dst) hG⟩

structure OrdK (C : Cx) (A : OpRule) (Q : Exit → List AV → AHeap → Prop) (k : List Frame) (keys : List Nat) (ops : Array Oper) (rest : List Nat) (env : List AV) (L : AHeap) : Prop where
  ok : awpOrdK C A keys ops rest (after C Q k .normal) env L
section
variable {C : Cx} {A : OpRule} {Q : Exit → List AV → AHeap → Prop} {k : List Frame} {env : List AV} {L : AHeap}
theorem Run.drawnK (hC : C.Ok) (hA : A.Sound C) {id : Nat} {ops : Array Oper} (keys : List Nat) (order : List Nat) (hc : (Region.noSelect ops && orderOk true ops order (Array.replicate ops.size false) && decide (order.length ≤ ops.size)) = true) (h : OrdK C A Q k keys ops order env L) : Run C Q k (.region id ops true) env L :=
  Run.sem1 fun F a w ha => by
    simp only [Bool.and_eq_true, decide_eq_true_eq] at hc
    obtain ⟨imm, hst, hG⟩ := ha.drew hC
    refine Code.wp_mono (Q := QN C F (after C Q k)) (fun _ _ _ h => h.toC) ?_
    exact wp_region_held (S := SameK imm L keys w.drew) hC.mixed (awpOrdK_sound (Qc := QN C F (after C Q k)) hC hA hc.1.1 (fun env L a w hq ha => ⟨env, L, ha, hq⟩) (fun c a w hp => hp) order ops.size _ env L a w.drew imm hc.2 hc.1.2 h.ok hst hG)
theorem OrdK.nil {keys : List Nat} {ops : Array Oper} (h : Cont C Q k .normal env L) : OrdK C A Q k keys ops [] env L := ⟨h.ok⟩
theorem OrdK.cons {keys : List Nat} {ops : Array Oper} {i : Nat} {rest : List Nat} {o : Oper} (ho : ops[i]? = some o) (h : aoperG (aopK C A keys) ops o env L fun env' L' => OrdK C A Q k keys ops rest env' L') : OrdK C A Q k keys ops (i :: rest) env L := by
  have e : (fun env' L' => OrdK C A Q k keys ops rest env' L') = fun env' L' => awpOrdK C A keys ops rest (after C Q k .normal) env' L' := by
    funext env' L'
    exact propext ⟨fun h => h.ok, fun h => ⟨h⟩⟩
  rw [e] at h
  refine ⟨?_⟩
  unfold awpOrdK
  rw [ho]
  exact h
end
abbrev Zd := @OrdK.cons
abbrev Ze := @OrdK.nil
end Go.Proofs.YtgpbppkmmlclfaaDoor.HB
/- Regions in which two operations may go ahead of one another; what stands behind a region, told once. -/
namespace Go.Proofs.YtgpbppkmmlclfaaDoor.HB
open Go

inductive OTree where
  | nil
  | one (i : Nat) (t : OTree)
  | two (i : Nat) (t : OTree) (j : Nat) (u : OTree)
def OTree.depth : OTree → Nat
  | .nil => 0
  | .one _ t => t.depth + 1
  | .two _ t _ u => max t.depth u.depth + 1
def OTree.pre : List Nat → OTree → OTree
  | [], t => t
  | i :: l, t => .one i (pre l t)

def awpT (C : Cx) (A : OpRule) (keys : List Nat) (ops : Array Oper) : OTree → (List AV → AHeap → Prop) → List AV → AHeap → Prop
  | .nil, Q, env, L => Q env L
  | .one i t, Q, env, L => match ops[i]? with
    | none => False
    | some o => aoperG (aopK C A keys) ops o env L fun env' L' => awpT C A keys ops t Q env' L'
  | .two i t j u, Q, env, L => (match ops[i]? with
    | none => False
    | some o => aoperG (aopK C A keys) ops o env L fun env' L' => awpT C A keys ops t Q env' L') ∧ (match ops[j]? with
    | none => False
    | some o => aoperG (aopK C A keys) ops o env L fun env' L' => awpT C A keys ops u Q env' L')

structure OrdN (C : Cx) (A : OpRule) (Q : Exit → List AV → AHeap → Prop) (k : List Frame) (keys : List Nat) (ops : Array Oper) (t : OTree) (env : List AV) (L : AHeap) : Prop where
  ok : awpT C A keys ops t (after C Q k .normal) env L
section
variable {C : Cx} {A : OpRule} {Q : Exit → List AV → AHeap → Prop} {k : List Frame} {env : List AV} {L : AHeap}
theorem OrdN.nil {keys : List Nat} {ops : Array Oper} (h : Cont C Q k .normal env L) : OrdN C A Q k keys ops .nil env L := ⟨h.ok⟩
theorem OrdN.one {keys : List Nat} {ops : Array Oper} {i : Nat} {t : OTree} {o : Oper} (ho : ops[i]? = some o) (h : aoperG (aopK C A keys) ops o env L fun env' L' => OrdN C A Q k keys ops t env' L') : OrdN C A Q k keys ops (.one i t) env L := by
  have e : (fun env' L' => OrdN C A Q k keys ops t env' L') = fun env' L' => awpT C A keys ops t (after C Q k .normal) env' L' := by
    funext env' L'
    exact propext ⟨fun h => h.ok, fun h => ⟨h⟩⟩
  rw [e] at h
  refine ⟨?_⟩
  unfold awpT
  rw [ho]
  exact h
theorem OrdN.two {keys : List Nat} {ops : Array Oper} {i j : Nat} {t u : OTree} (h1 : OrdN C A Q k keys ops (.one i t) env L) (h2 : OrdN C A Q k keys ops (.one j u) env L) : OrdN C A Q k keys ops (.two i t j u) env L := by
  have a := h1.ok
  have b := h2.ok
  refine ⟨?_⟩
  unfold awpT at a b ⊢
  exact ⟨a, b⟩
def joinQ (I : List AV → AHeap → Prop) : Exit → List AV → AHeap → Prop
  | .normal, env, L => ∃ env1 L1, Weak env L env1 L1 ∧ I env1 L1
  | _, _, _ => False
theorem Run.join (hC : C.Ok) {id : Nat} {ops : Array Oper} (I : List AV → AHeap → Prop) (h1 : Run C (joinQ I) [] (.region id ops true) env L) (h2 : ∀ env L, I env L → Cont C Q k .normal env L) : Run C Q k (.region id ops true) env L :=
  Run.sem1 fun F a w ha => by
    have := awp_sound hC (.region id ops true) (after C (joinQ I) []) env L a w h1.ok ha
    refine Code.wp_mono (fun e a' w' hq => ?_) this
    cases e with
    | normal =>
      obtain ⟨env2, L2, ha2, env1, L1, hw, hi⟩ := hq
      exact ⟨env1, L1, hw C F a' w' ha2, (h2 env1 L1 hi).ok⟩
    | outgrown => exact hq
    | _ => obtain ⟨_, _, _, hq⟩ := hq; exact hq.elim
end
abbrev Zj := @OrdN.one
abbrev Zk := @OrdN.nil
end Go.Proofs.YtgpbppkmmlclfaaDoor.HB
/- Calls that are handed lists for good: what was owned is never written again. -/
namespace Go.Proofs.YtgpbppkmmlclfaaDoor.HB
open Go

inductive CallZ (C : Cx) (f : FuncId) (args : List AV) (L : AHeap) (K : AV → AHeap → Prop) (KP : Value → AHeap → Prop) : Prop where
  | plain (h : ACallT C f args L K KP)
  | frz (frz keep : List Nat) (hcov : ((List.range L.length).all fun k => frz.contains k || keep.contains k) = true) (args1 : List AV) (hl : Lends (restL L keep) args args1) (h : ACall C f args1 (restL L frz) K)

theorem frz_sat {D : Prop} {imm : Nat → Prop} {w : World} {L : AHeap} {frz keep : List Nat} (hs : Sat imm w L) (hcov : ((List.range L.length).all fun k => frz.contains k || keep.contains k) = true) :
    Sat (fun i => imm i ∨ Own (restL L keep) i) w (restL L frz) ∧ Tr D (Own L) imm w (Own (restL L frz)) (fun i => imm i ∨ Own (restL L keep) i) w := by
  have h0 := restL_sat (ks := frz) hs
  have h1 := restL_sat (ks := keep) hs
  have hsub : ∀ (ks : List Nat) i, Own (restL L ks) i → Own L i := fun ks i hi => by obtain ⟨k, g, o, _, hk, ho⟩ := own_restL hi; exact ⟨k, g, o, hk, ho⟩
  have hdis : ∀ i, Own (restL L frz) i → ¬ Own (restL L keep) i := fun i ha hb => by
    obtain ⟨k, g, o, hk, hl, ho⟩ := own_restL ha
    obtain ⟨k', g', o', hk', hl', ho'⟩ := own_restL hb
    have e := hs.apart k k' g g' i o o' hl ho hl' ho'
    subst e
    have := List.all_eq_true.1 hcov k (List.mem_range.2 (List.getElem?_eq_some_iff.1 hl).1)
    simp only [Bool.or_eq_true, List.contains_iff_mem] at this
    exact this.elim hk hk'
  refine ⟨⟨fun j g o hj ho => (h0.holds j g o hj ho).mono (fun _ => .inl) (fun _ _ => rfl) (fun _ _ => rfl), h0.apart, fun g hg hi => hi.elim (h0.far g hg) (hdis g hg), h0.lt, fun i hi => hi.elim (hs.immlt i) (h1.lt i)⟩, ?_⟩
  exact ⟨fun _ => Nat.le_refl _, rfl, rfl, rfl, Nat.le_refl _, fun _ _ _ => rfl, fun _ h => .inl h, fun i hi => hi.imp id fun h => .inl (hsub keep i h), fun i hi => .inl (hsub frz i hi)⟩

def aopZ (C : Cx) : OpRule := fun o env L K KP => match o.op with
  | .call { callee := .value x, args := xs, .. } => match afun (aeval env x) with
    | some f => evalsK env xs.toList fun vs => CallZ C f vs L K KP
    | none => aopC C o env L K KP
  | .convert src dst x => match aeval env x with
    | .sl k g Cp n => match L[k]? with
      | some (g', .row _ 1 Cp' xs) => g' = g ∧ Cp' = Cp ∧ n ≤ xs.length ∧ aconv C src dst (.ro 1 xs n) fun y => scal y = true ∧ K y L
      | _ => False
    | _ => aopC C o env L K KP
  | _ => aopC C o env L K KP

theorem afun_C {C : Cx} {o : Oper} {x : Operand} {xs : Array Operand} {ts : Array TypeId} {env : List AV} {L : AHeap} {K : AV → AHeap → Prop} {KP : Value → AHeap → Prop} {f : FuncId} (ho : o.op = .call { callee := .value x, args := xs, argTypes := ts }) (hf : afun (aeval env x) = some f) (h : ACallT C f (xs.toList.map (aeval env)) L K KP) : aopT C o env L K KP := by
  unfold aopT
  rw [ho]
  simp only [hf]
  rw [evalsK_eq]
  exact h

theorem aopT_sound' {C : Cx} (hC : C.Ok) : OpRule.Sound C (aopT C) := by
  intro o env L K KP h imm w a hG hs he next Q hn hp
  exact aopT_sound hC h hG hs he hn hp

theorem aopZ_sound {C : Cx} (hC : C.Ok) : (aopZ C).Sound C := by
  intro o env L K KP h imm w a hG hs he next Q hn hp
  unfold aopZ at h
  split at h
  · rename_i x xs ts ho
    split at h
    case h_2 => exact aopC_sound hC _ _ _ _ _ h _ _ _ hG hs he _ _ hn hp
    rename_i f hf
    rw [evalsK_eq] at h
    cases h with
    | plain h => exact aopT_sound' hC _ _ _ _ _ (afun_C ho hf h) _ _ _ hG hs he _ _ hn hp
    | frz frz keep hcov args1 hl h =>
      obtain ⟨s1, t1⟩ := frz_sat (D := C.D) hs hcov
      have hG1 := hC.mono _ _ _ _ hG t1.imm1 (fun _ _ => rfl)
      have hx := aeval_VR he x
      have hxv := afun_VR hx hf
      obtain ⟨hlen, hv⟩ := args_VR he xs
      obtain ⟨hl1, hat⟩ := hl.at_
      have hv1 : ∀ (j : Nat) (y : AV) (v : Value), args1[j]? = some y → (xs.map a.eval).toList[j]? = some v → VR (fun i => imm i ∨ Own (restL L keep) i) w y v := fun j y v hy hvj => by
        have hj : j < (xs.toList.map (aeval env)).length := by rw [hl1]; exact (List.getElem?_eq_some_iff.1 hy).1
        exact (hat j _ y (List.getElem?_eq_getElem hj) hy).VR (restL_sat hs) (hv j _ v (List.getElem?_eq_getElem hj) hvj)
      have hvl : (xs.map a.eval).toList.length = args1.length := by rw [hlen]; exact hl1
      rcases ACall.sound hC h hG1 s1 hvl hv1 with ⟨⟨fn, hff, hname, hb⟩, hc⟩ | ⟨v, r, hr, hvr, hk⟩
      · rw [Array.toArray_toList] at hc
        unfold Oper.wp
        rw [run_call ho hxv hff hname hb, Oper.upon_enter]
        refine hc.mono fun e w'' hh => ?_
        obtain ⟨v, r, L', imm', rfl, a1, a2, a3, a4⟩ := hh
        exact hn r L' imm' v w'' a4 a2 a1 (t1.trans a3)
      · rw [Array.toArray_toList] at hr
        refine wp_value (v := v) (w' := w) ?_ (hn r _ _ v w hk s1 hvr t1)
        unfold execOp
        simp only [ho, hxv, resolve, Deferred.ofValue, invoke, Sem.run_bind, Sem.run_pure, Result.andThen_ok]
        simpa using hr
  · rename_i src dst x ho
    split at h
    case h_2 => exact aopC_sound hC _ _ _ _ _ h _ _ _ hG hs he _ _ hn hp
    rename_i k g Cp n ex
    split at h
    case h_2 => exact h.elim
    rename_i g' e Cp' xs hL
    obtain ⟨rfl, rfl, hn', h⟩ := h
    have hx := aeval_VR he x
    rw [ex] at hx
    have hle : Lend L (.sl k g' Cp' n) (.ro 1 xs n) := .row k g' Cp' n e 1 xs hL hn'
    obtain ⟨u, y, hr, hy, hsc, hk⟩ := aconv_sound hC h (hle.VR hs hx)
    refine wp_value (v := u) (w' := w) ?_ (hn _ _ imm _ _ hk hs (hy.of_scal hsc) (Tr.refl _ _ _))
    simp [execOp, ho, hr]
  · exact aopC_sound hC _ _ _ _ _ h _ _ _ hG hs he _ _ hn hp
theorem Zw {C : Cx} {Q : Exit → List AV → AHeap → Prop} {k : List Frame} {env : List AV} {L : AHeap} (hC : C.Ok) {id : Nat} {ops : Array Oper} (h : OpsA C (aopZ C) Q k ops ops.toList env L) : Run C Q k (.region id ops false) env L := Run.textA hC (aopZ_sound hC) h
end Go.Proofs.YtgpbppkmmlclfaaDoor.HB
/- Objects that hold several blocks: a heap said as one object; the same heap, said otherwise. -/
namespace Go.Proofs.YtgpbppkmmlclfaaDoor.HB
open Go

structure SatC (imm : Nat → Prop) (w : World) (L : AHeap) : Prop where
  holds : ∀ (k g : Nat) (o : AObj), L[k]? = some (g, o) → o.live → Holds imm w g o
  apart : ∀ (k k' g g' i : Nat) (o o' : AObj), L[k]? = some (g, o) → o.owns g i → L[k']? = some (g', o') → o'.owns g' i → k = k'
theorem Sat.core {imm : Nat → Prop} {w : World} {L : AHeap} (h : Sat imm w L) : SatC imm w L := ⟨h.holds, h.apart⟩

theorem own_nil (i : Nat) : Own [] i ↔ False := ⟨not_own_nil i, False.elim⟩
theorem own_cons (x : Nat × AObj) (L : AHeap) (i : Nat) : Own (x :: L) i ↔ x.2.owns x.1 i ∨ Own L i := by
  constructor
  · rintro ⟨k, g, o, hk, ho⟩
    cases k with
    | zero => simp at hk; subst hk; exact .inl ho
    | succ k => exact .inr ⟨k, g, o, by simpa using hk, ho⟩
  · rintro (h | ⟨k, g, o, hk, ho⟩)
    · exact ⟨0, x.1, x.2, rfl, h⟩
    · exact ⟨k + 1, g, o, by simpa using hk, ho⟩
theorem own_app (L M : AHeap) (i : Nat) : Own (L ++ M) i ↔ Own L i ∨ Own M i := by
  induction L with
  | nil => simp [own_nil]
  | cons x L ih => rw [List.cons_append, own_cons, own_cons, ih, or_assoc]
theorem satC_nil (imm : Nat → Prop) (w : World) : SatC imm w [] ↔ True := ⟨fun _ => trivial, fun _ => ⟨by simp, by simp⟩⟩
theorem satC_cons (imm : Nat → Prop) (w : World) (x : Nat × AObj) (L : AHeap) : SatC imm w (x :: L) ↔ (x.2.live → Holds imm w x.1 x.2) ∧ (∀ i, x.2.owns x.1 i → ¬ Own L i) ∧ SatC imm w L := by
  constructor
  · intro h
    refine ⟨h.holds 0 x.1 x.2 rfl, fun i hi ⟨k, g, o, hk, ho⟩ => ?_, fun k g o hk => h.holds (k + 1) g o (by simpa using hk), fun k k' g g' i o o' h1 l1 h2 l2 => ?_⟩
    · have := h.apart 0 (k + 1) x.1 g i x.2 o rfl hi (by simpa using hk) ho
      omega
    · have := h.apart (k + 1) (k' + 1) g g' i o o' (by simpa using h1) l1 (by simpa using h2) l2
      omega
  · rintro ⟨h1, h2, h3⟩
    refine ⟨fun k g o hk hl => ?_, fun k k' g g' i o o' a1 l1 a2 l2 => ?_⟩
    · cases k with
      | zero => simp at hk; subst hk; exact h1 hl
      | succ k => exact h3.holds k g o (by simpa using hk) hl
    · cases k with
      | zero =>
        simp at a1; subst a1
        cases k' with
        | zero => rfl
        | succ k' => exact (h2 i l1 ⟨k', g', o', by simpa using a2, l2⟩).elim
      | succ k =>
        cases k' with
        | zero => simp at a2; subst a2; exact (h2 i l2 ⟨k, g, o, by simpa using a1, l1⟩).elim
        | succ k' => exact congrArg (· + 1) (h3.apart k k' g g' i o o' (by simpa using a1) l1 (by simpa using a2) l2)
theorem satC_app (imm : Nat → Prop) (w : World) (L M : AHeap) : SatC imm w (L ++ M) ↔ SatC imm w L ∧ SatC imm w M ∧ ∀ i, Own L i → ¬ Own M i := by
  induction L with
  | nil => simp [satC_nil, own_nil]
  | cons x L ih =>
    rw [List.cons_append, satC_cons, satC_cons, ih]
    constructor
    · rintro ⟨h1, h2, h3, h4, h5⟩
      refine ⟨⟨h1, fun i hi ho => h2 i hi ((own_app _ _ _).2 (.inl ho)), h3⟩, h4, fun i hi => ?_⟩
      rcases (own_cons _ _ _).1 hi with hi | hi
      · exact fun ho => h2 i hi ((own_app _ _ _).2 (.inr ho))
      · exact h5 i hi
    · rintro ⟨⟨h1, h2, h3⟩, h4, h5⟩
      refine ⟨h1, fun i hi ho => ?_, h3, h4, fun i hi => h5 i ((own_cons _ _ _).2 (.inr hi))⟩
      rcases (own_app _ _ _).1 ho with ho | ho
      · exact h2 i hi ho
      · exact h5 i ((own_cons _ _ _).2 (.inl hi)) ho

def boxL (L : AHeap) : AObj := .box (Own L) (fun imm w => SatC imm w L)
theorem boxL_ok (L : AHeap) : BoxOk (Own L) (fun imm w => SatC imm w L) := fun _ _ _ _ hi hc ho h =>
  ⟨fun k g o hk hl => (h.holds k g o hk hl).mono hi hc (fun i hi => ho i ⟨k, g, o, hk, hi⟩), h.apart⟩
theorem own_boxL (g : Nat) (L : AHeap) (i : Nat) : (boxL L).owns g i ↔ Own L i := Iff.rfl
theorem holds_boxL {imm : Nat → Prop} {w : World} (g : Nat) (L : AHeap) : Holds imm w g (boxL L) ↔ SatC imm w L := by
  constructor
  · intro h; cases h with
    | box _ _ hP _ => exact hP
  · exact fun h => .box _ _ h (boxL_ok L)

def Imp (L L' : AHeap) : Prop := (∀ i, Own L' i → Own L i) ∧ ∀ imm w, SatC imm w L → SatC imm w L'
theorem Imp.refl (L : AHeap) : Imp L L := ⟨fun _ h => h, fun _ _ h => h⟩
theorem Imp.trans {L L' L'' : AHeap} (h : Imp L L') (k : Imp L' L'') : Imp L L'' := ⟨fun i hi => h.1 i (k.1 i hi), fun imm w hs => k.2 imm w (h.2 imm w hs)⟩
theorem Imp.sat {L L' : AHeap} (h : Imp L L') {imm : Nat → Prop} {w : World} (hs : Sat imm w L) : Sat imm w L' :=
  have k := h.2 imm w hs.core
  ⟨k.holds, k.apart, fun i hi => hs.far i (h.1 i hi), fun i hi => hs.lt i (h.1 i hi), hs.immlt⟩
theorem Imp.app {L L' M M' : AHeap} (h : Imp L L') (k : Imp M M') : Imp (L ++ M) (L' ++ M') := by
  refine ⟨fun i hi => ?_, fun imm w hs => ?_⟩
  · rw [own_app] at hi ⊢
    exact hi.imp (h.1 i) (k.1 i)
  · rw [satC_app] at hs ⊢
    exact ⟨h.2 _ _ hs.1, k.2 _ _ hs.2.1, fun i hi ho => hs.2.2 i (h.1 i hi) (k.1 i ho)⟩
theorem Imp.cons (x : Nat × AObj) {L L' : AHeap} (h : Imp L L') : Imp (x :: L) (x :: L') := Imp.app (L := [x]) (L' := [x]) (.refl _) h
theorem Imp.perm {L L' : AHeap} (h : L.Perm L') : Imp L L' := by
  induction h with
  | nil => exact .refl _
  | cons x _ ih => exact ih.cons x
  | swap x y l =>
    refine ⟨fun i hi => ?_, fun imm w hs => ?_⟩
    · rw [own_cons, own_cons] at hi ⊢
      exact or_left_comm.1 hi
    · rw [satC_cons, satC_cons] at hs ⊢
      obtain ⟨h1, h2, h3, h4, h5⟩ := hs
      refine ⟨h3, fun i hi ho => ?_, h1, fun i hi ho => ?_, h5⟩
      · rcases (own_cons _ _ _).1 ho with ho | ho
        · exact h2 i ho ((own_cons _ _ _).2 (.inl hi))
        · exact h4 i hi ho
      · exact h2 i hi ((own_cons _ _ _).2 (.inr ho))
  | trans _ _ h1 h2 => exact h1.trans h2
theorem Imp.drop (x : Nat × AObj) (L : AHeap) : Imp (x :: L) L := ⟨fun _ hi => (own_cons _ _ _).2 (.inr hi), fun _ _ hs => ((satC_cons _ _ _ _).1 hs).2.2⟩
theorem Imp.unbox (g : Nat) (L : AHeap) : Imp [(g, boxL L)] L := by
  refine ⟨fun i hi => (own_cons _ _ _).2 (.inl hi), fun imm w hs => ?_⟩
  exact (holds_boxL g L).1 (((satC_cons _ _ _ _).1 hs).1 trivial)
theorem Imp.box (g : Nat) (L : AHeap) : Imp L [(g, boxL L)] := by
  refine ⟨fun i hi => ?_, fun imm w hs => ?_⟩
  · rcases (own_cons _ _ _).1 hi with hi | hi
    · exact hi
    · exact ((own_nil i).1 hi).elim
  · exact (satC_cons _ _ _ _).2 ⟨fun _ => (holds_boxL g L).2 hs, fun i _ ho => (own_nil i).1 ho, (satC_nil _ _).2 trivial⟩
theorem Imp.boxes (g : Nat) {L L' : AHeap} (h : Imp L L') : Imp [(g, boxL L)] [(g, boxL L')] := ((Imp.unbox g L).trans h).trans (.box g L')
theorem Imp.dead (g : Nat) (L : AHeap) : Imp L ((g, .dead) :: L) := by
  refine ⟨fun i hi => ?_, fun imm w hs => (satC_cons _ _ _ _).2 ⟨fun h => h.elim, fun i h => h.elim, hs⟩⟩
  rcases (own_cons _ _ _).1 hi with hi | hi
  · exact hi.elim
  · exact hi

theorem Imp.set {L : AHeap} {k : Nat} {x y : Nat × AObj} (hk : L[k]? = some x) (h : Imp [x] [y]) : Imp L (L.set k y) := by
  induction L generalizing k with
  | nil => simp at hk
  | cons z L ih =>
    cases k with
    | zero => simp at hk; subst hk; exact Imp.app (L := [z]) (L' := [y]) h (.refl L)
    | succ k => exact (ih (by simpa using hk)).cons z
theorem Imp.pick {L : AHeap} {k g : Nat} {M R K : AHeap} (hk : L[k]? = some (g, boxL M)) (h : Imp M (R ++ K)) : Imp L (L.set k (g, boxL R) ++ K) := by
  induction L generalizing k with
  | nil => simp at hk
  | cons z L ih =>
    cases k with
    | zero =>
      simp at hk; subst hk
      have h1 : Imp [(g, boxL M)] ((g, boxL R) :: K) := (((Imp.unbox g M).trans h).trans (Imp.app (.box g R) (.refl K)))
      have h2 : Imp ([(g, boxL M)] ++ L) (((g, boxL R) :: K) ++ L) := h1.app (.refl L)
      refine h2.trans (.perm ?_)
      simp only [List.set_cons_zero, List.cons_append, List.perm_cons]
      exact List.perm_append_comm
    | succ k => exact (ih (by simpa using hk)).cons z

theorem Weak.imp {env env1 : List AV} (hs : Subs env env1) {L L1 : AHeap} (hL : Imp L L1) : Weak env L env1 L1 := fun C F a w ha => by
  obtain ⟨imm, hst, hG⟩ := ha
  have ht := hst.tr
  obtain ⟨hlen, hat⟩ := hs.at_
  refine ⟨imm, ⟨hL.sat hst.sat, ⟨by have := hst.env.1; omega, fun t x v hx hv => ?_⟩, ⟨ht.drawn, ht.os, ht.tape, ht.output, ht.size, ht.block, ht.imm1, ht.imm2, fun i hi => ht.own2 i (hL.1 i hi)⟩, hst.defers⟩, hG⟩
  have hj : t < env.length := by rw [hlen]; exact (List.getElem?_eq_some_iff.1 hx).1
  exact hat t env[t] x (List.getElem?_eq_getElem hj) hx _ _ _ (hst.env.2 t _ v (List.getElem?_eq_getElem hj) hv)
theorem FinOk.imp (r : AV) {L L' : AHeap} (h : Imp L L') : FinOk r L r L' := fun _ _ _ _ imm _ _ hs hv ht =>
  ⟨imm, h.sat hs, hv, ⟨ht.drawn, ht.os, ht.tape, ht.output, ht.size, ht.block, ht.imm1, ht.imm2, fun i hi => ht.own2 i (h.1 i hi)⟩⟩
theorem FnSpec.imp {C : Cx} {f : FuncId} {args : List AV} {L L0 : AHeap} {Q : AV → AHeap → Prop} (hL : Imp L0 L) (h : FnSpec C f args L Q) : FnSpec C f args L0 Q := by
  refine ⟨h.1, fun imm w vs hG hs hl hv => (h.2 imm w vs hG (hL.sat hs) hl hv).mono ?_⟩
  rintro e w' ⟨v, r, L', imm', rfl, hr, hs', ht, hq⟩
  refine ⟨v, r, L', imm', rfl, hr, hs', ⟨ht.drawn, ht.os, ht.tape, ht.output, ht.size, fun i hi ho => ht.block i hi (fun h => ho (hL.1 i h)), ht.imm1, fun i hi => ?_, fun i hi => (ht.own2 i hi).imp (hL.1 i) id⟩, hq⟩
  rcases ht.imm2 i hi with h | h | h
  · exact .inl h
  · exact .inr (.inl (hL.1 i h))
  · exact .inr (.inr h)
theorem FnSpec.post {C : Cx} {f : FuncId} {args : List AV} {L : AHeap} {Q Q' : AV → AHeap → Prop} (h : FnSpec C f args L Q) (k : ∀ r L', Q r L' → ∃ r' L'', Sub r r' ∧ Imp L' L'' ∧ Q' r' L'') : FnSpec C f args L Q' := by
  refine ⟨h.1, fun imm w vs hG hs hl hv => (h.2 imm w vs hG hs hl hv).mono ?_⟩
  rintro e w' ⟨v, r, L', imm', rfl, hr, hs', ht, hq⟩
  obtain ⟨r', L'', h1, h2, h3⟩ := k r L' hq
  exact ⟨v, r', L'', imm', rfl, h1 _ _ _ hr, h2.sat hs', ⟨ht.drawn, ht.os, ht.tape, ht.output, ht.size, ht.block, ht.imm1, ht.imm2, fun i hi => ht.own2 i (h2.1 i hi)⟩, h3⟩
end Go.Proofs.YtgpbppkmmlclfaaDoor.HB
/- Ranges over functions: an iterator's code, a round's code. -/
namespace Go.Proofs.YtgpbppkmmlclfaaDoor.HB
open Go

abbrev fen (ro : Option Nat) : Fence := { Fence.wide with round := ro }
theorem calls_fen {ro : Option Nat} {n : Nat} {P : Program} {f : FuncId} {args : Array Value} {w : World} {R : Ending → World → Prop} (h : Calls P f args w R) : CallsIn (fen ro) n P f args w R := (callsIn_wide (n := n)).2 h
theorem rows_fen {ro : Option Nat} {n : Nat} {P : Program} {row : String} {args : Array Value} {w : World} {R : Value → World → Prop} (h : Rows P row args w R) : RowsIn (fen ro) n P row args w R := fun c cs _ =>
  let ⟨v, w', r, s⟩ := h c cs; ⟨v, w', r, (stepsIn_wide).2 s⟩

theorem oper_fen {ro : Option Nat} {n : Nat} {P : Program} {o : Oper} {a : Act} {w : World} {next : Act → World → Prop} {Q : Exit → Act → World → Prop} (hd : ∀ c, o.op ≠ .defer c) (h : o.wp P a w next Q) : o.wpIn (fen ro) n P a w next Q := by
  refine ⟨fun _ _ => trivial, ?_⟩
  rw [Oper.semAt_eq _ _ _ hd]
  unfold Oper.wp at h
  generalize (execOp a.eval o).run P w = r at h
  cases r with
  | ok x w' =>
    cases x with
    | value v => exact h
    | skip => exact h
    | defer d => exact h
    | enter f args => exact ⟨fun e => absurd e (by simp [Fence.wide]), calls_fen h⟩
    | row row args => exact ⟨fun e => absurd e (by simp [Fence.wide]), rows_fen h⟩
    | _ => exact h.elim
  | halt x w' => cases x <;> first | exact h | exact h.elim

def OpRule.SoundI (ro : Option Nat) (C : Cx) (A : OpRule) : Prop := ∀ (o : Oper) (env : List AV) (L : AHeap) (K : AV → AHeap → Prop) (KP : Value → AHeap → Prop), A o env L K KP → ∀ (n : Nat) (imm : Nat → Prop) (w : World) (a : Act), C.G imm w → Sat imm w L → EnvR imm w env a.tmps →
  ∀ (next : Act → World → Prop) (Q : Exit → Act → World → Prop), (∀ x L' imm' v w', K x L' → Sat imm' w' L' → VR imm' w' x v → Tr C.D (Own L) imm w (Own L') imm' w' → next (a.put o.dst v) w') →
    (∀ v L' imm' w', KP v L' → Sat imm' w' L' → Tr C.D (Own L) imm w (Own L') imm' w' → Q (.panic (chain1 v)) a w') → o.wpIn (fen ro) n C.P a w next Q

def YieldSpec (C : Cx) (l : Nat) (args : List AV) (L : AHeap) (Q : Bool → AHeap → Prop) : Prop :=
  ∀ (n : Nat) (imm : Nat → Prop) (w : World) (vs : List Value), C.G imm w → Sat imm w L → vs.length = args.length → (∀ (j : Nat) (x : AV) (v : Value), args[j]? = some x → vs[j]? = some v → VR imm w x v) →
    ∃ fn tmps assign body, (Instr.yield l vs.toArray).run C.P w = .ok (.round l fn tmps assign body) w ∧
      RoundIn (fen none) n C.P l fn tmps assign body w fun e w' => ∃ b L' imm', e = .returned (.bool b) ∧ Sat imm' w' L' ∧ Tr C.D (Own L) imm w (Own L') imm' w' ∧ Q b L'

def aopY (C : Cx) : OpRule := fun o env L K KP => match o.op with
  | .call { callee := .value x, args := xs, .. } => match aeval env x with
    | .any (.func (.yield l) first cap) => first.toList = [] ∧ cap.toList = [] ∧ ∃ (ks : List Nat) (Q : Bool → AHeap → Prop), ks.Nodup ∧ YieldSpec C l (xs.toList.map (aeval env)) (selL L ks) Q ∧ ∀ b L', Q b L' → K (.bool b) (mergeL L ks L')
    | _ => aopZ C o env L K KP
  | .defer _ => False
  | _ => aopZ C o env L K KP

theorem aopY_sound {C : Cx} (hC : C.Ok) : (aopY C).SoundI none C := by
  intro o env L K KP h n imm w a hG hs he next Q hn hp
  unfold aopY at h
  split at h
  · rename_i x xs ts ho
    have hd : ∀ c, o.op ≠ .defer c := fun c => by rw [ho]; intro e; cases e
    split at h
    case h_2 => exact oper_fen hd (aopZ_sound hC _ _ _ _ _ h _ _ _ hG hs he _ _ hn hp)
    rename_i l lb1 lb2 ex
    obtain ⟨e1, e2, ks, Qy, hnd, hY, hK⟩ := h
    obtain rfl : lb1 = #[] := by simpa using e1
    obtain rfl : lb2 = #[] := by simpa using e2
    have hx := aeval_VR he x
    rw [ex] at hx
    generalize hxx : a.eval x = u at hx
    cases hx
    obtain ⟨hlen, hv⟩ := args_VR he xs
    obtain ⟨fn, tmps, assign, body, hy, hR⟩ := hY (n - 1) imm w ((xs.map a.eval).toList) hG (selL_sat hs hnd) hlen hv
    rw [Array.toArray_toList] at hy
    refine ⟨fun _ _ => trivial, ?_⟩
    rw [Oper.semAt_eq _ _ _ hd]
    have hrun : (execOp a.eval o).run C.P w = .ok (.round l fn tmps assign body) w := by
      unfold execOp
      simp only [ho, hxx, resolve, Deferred.ofValue, invoke, Sem.run_bind, Sem.run_pure, Result.andThen_ok]
      simpa using hy
    rw [hrun]
    refine ⟨fun e => absurd e (by simp [Fence.wide]), hR.mono ?_⟩
    rintro e w' ⟨b, L', imm', rfl, hs', ht, hq⟩
    obtain ⟨m1, m2⟩ := merge_sat hs hs' ht
    exact hn _ _ _ _ _ (hK b L' hq) m1 (.bool b) m2
  · exact h.elim
  · rename_i h1 h2
    exact oper_fen (fun c => h2 c) (aopZ_sound hC _ _ _ _ _ h _ _ _ hG hs he _ _ hn hp)
def aopR (C : Cx) : OpRule := fun o env L K KP => match o.op with
  | .defer _ => False
  | _ => aopZ C o env L K KP
theorem aopR_sound {C : Cx} (hC : C.Ok) (ro : Option Nat) : (aopR C).SoundI ro C := by
  intro o env L K KP h n imm w a hG hs he next Q hn hp
  unfold aopR at h
  split at h
  · exact h.elim
  · rename_i h2
    exact oper_fen (fun c => h2 c) (aopZ_sound hC _ _ _ _ _ h _ _ _ hG hs he _ _ hn hp)

theorem least {p : Nat → Prop} (h : ∃ n, p n) : ∃ n, p n ∧ ∀ m, p m → n ≤ m := by
  obtain ⟨n, hn⟩ := h
  induction n using Nat.strongRecOn with
  | _ n ih =>
    by_cases hm : ∃ m, m < n ∧ p m
    · obtain ⟨m, hlt, hp⟩ := hm
      exact ih m hlt hp
    · exact ⟨n, hn, fun m hp => Nat.le_of_not_lt fun hlt => hm ⟨m, hlt, hp⟩⟩
def QCd (C : Cx) (F : Fr) (Q : List Deferred → Exit → List AV → AHeap → Prop) : Exit → Act → World → Prop := fun e a w =>
  match e with
  | .outgrown => False
  | e => ∃ ds env L, At C { F with ds := ds } env L a w ∧ Q ds e env L
def RunI (ro : Option Nat) (C : Cx) (Q : List Deferred → Exit → List AV → AHeap → Prop) (ds : List Deferred) (c : Code) (env : List AV) (L : AHeap) : Prop :=
  ∀ (n : Nat) (F : Fr) (a : Act) (w : World), At C { F with ds := ds } env L a w → c.wpIn (fen ro) n C.P (QCd C F Q) a w
def QS (ro : Option Nat) (C : Cx) (Q : List Deferred → Exit → List AV → AHeap → Prop) (y : Code) : List Deferred → Exit → List AV → AHeap → Prop
  | ds, .normal, env, L => RunI ro C Q ds y env L
  | ds, e, env, L => Q ds e env L
def QLp (I : Nat → List AV → AHeap → Prop) (n : Nat) (ds0 : List Deferred) (Q : List Deferred → Exit → List AV → AHeap → Prop) : List Deferred → Exit → List AV → AHeap → Prop
  | ds, .normal, env, L => ds = ds0 ∧ ∃ m env1 L1, m < n ∧ Weak env L env1 L1 ∧ I m env1 L1
  | ds, e, env, L => Q ds e env L

section
variable {ro : Option Nat} {C : Cx} {Q : List Deferred → Exit → List AV → AHeap → Prop} {ds : List Deferred} {env : List AV} {L : AHeap}
theorem RunI.run (hC : C.Ok) {c : Code} (h : Run C (Q ds) [] c env L) : RunI none C Q ds c env L := fun n F a w ha => wpIn_mono ((wpIn_wide (n := n)).2 (awp_sound hC _ _ _ _ _ _ h.ok ha)) fun e a w hq => by
  cases e with
  | outgrown => exact hq.elim
  | _ => obtain ⟨env, L, h1, h2⟩ := hq; exact ⟨ds, env, L, h1, h2⟩
theorem RunI.weak {c : Code} {env1 : List AV} {L1 : AHeap} (hw : Weak env L env1 L1) (h : RunI ro C Q ds c env1 L1) : RunI ro C Q ds c env L := fun n F a w ha => h n F a w (hw _ _ _ _ ha)
theorem RunI.seq {x y : Code} (h : RunI ro C (QS ro C Q y) ds x env L) : RunI ro C Q ds (.seq x y) env L := fun n F a w ha => by
  refine wpIn_seq (wpIn_mono (h n F a w ha) fun e a w hq => ?_)
  cases e with
  | normal => obtain ⟨ds', env', L', ha', hq⟩ := hq; exact hq n F a w ha'
  | outgrown => exact hq.elim
  | _ => exact hq
theorem RunI.skip (h : Q ds .normal env L) : RunI ro C Q ds .skip env L := fun _ _ _ _ ha => wpIn_skip ⟨ds, env, L, ha, h⟩
theorem RunI.exit {id : Nat} (h : Q ds (.exit id) env L) : RunI ro C Q ds (.exit id) env L := fun _ _ _ _ ha => wpIn_exit ⟨ds, env, L, ha, h⟩
theorem RunI.ret (h : Q ds .ret env L) : RunI ro C Q ds .ret env L := fun _ _ _ _ ha => wpIn_ret ⟨ds, env, L, ha, h⟩
theorem RunI.cond {c : Operand} {x y : Code} {b : Bool} (hc : aeval env c = .bool b) (h : RunI ro C Q ds (if b then x else y) env L) : RunI ro C Q ds (.cond c x y) env L := fun n F a w ha => by
  obtain ⟨imm, hst, hG⟩ := ha
  have hx := aeval_VR hst.env c
  rw [hc] at hx
  exact wpIn_cond (t := b) (by generalize a.eval c = u at hx; cases hx; rfl) (h n F a w ⟨imm, hst, hG⟩)
def QB (id : Nat) (Q : List Deferred → Exit → List AV → AHeap → Prop) : List Deferred → Exit → List AV → AHeap → Prop := fun ds => Exit.inB id (Q ds)
theorem RunI.blk {id : Nat} {b : Code} (h : RunI ro C (QB id Q) ds b env L) : RunI ro C Q ds (.block id b) env L := fun n F a w ha => by
  refine wpIn_block (wpIn_mono (h n F a w ha) fun e a w hq => ?_)
  cases e with
  | exit id' =>
    obtain ⟨ds', env', L', ha', hq⟩ := hq
    by_cases e : id' = id
    · subst e
      simp only [QB, Exit.inB, Exit.inBlock, if_true] at hq ⊢
      exact ⟨ds', env', L', ha', hq⟩
    · simp only [QB, Exit.inB, Exit.inBlock, if_neg e] at hq ⊢
      exact ⟨ds', env', L', ha', hq⟩
  | outgrown => exact hq.elim
  | _ => exact hq
theorem RunI.loop {b : Code} (I : Nat → List AV → AHeap → Prop) (n0 : Nat) (env0 : List AV) (L0 : AHeap) (hw : Weak env L env0 L0) (hI : I n0 env0 L0)
    (h : ∀ n env L, I n env L → RunI ro C (QLp I n ds Q) ds b env L) : RunI ro C Q ds (.loop b) env L := fun n F a w ha => by
  classical
  let J : Nat → Act → World → Prop := fun m a w => ∃ env L, I m env L ∧ At C { F with ds := ds } env L a w
  refine wpIn_loop (fun a w => ∃ m, J m a w) (fun a w => if h : ∃ m, J m a w then Classical.choose (least h) else 0) ⟨n0, env0, L0, hI, hw _ _ a w ha⟩ fun a w hJ => ?_
  have hmin : (if h : ∃ m, J m a w then Classical.choose (least h) else 0) = Classical.choose (least hJ) := by rw [dif_pos hJ]
  obtain ⟨env', L', hI', ha'⟩ := (Classical.choose_spec (least hJ)).1
  refine wpIn_mono (h _ env' L' hI' n F a w ha') fun e a2 w2 hq => ?_
  cases e with
  | normal =>
    obtain ⟨ds2, env2, L2, ha2, rfl, m, env3, L3, hm, hw3, hI3⟩ := hq
    have hJ2 : J m a2 w2 := ⟨env3, L3, hI3, hw3 _ _ a2 w2 ha2⟩
    refine ⟨⟨m, hJ2⟩, ?_⟩
    rw [hmin, dif_pos ⟨m, hJ2⟩]
    exact Nat.lt_of_le_of_lt ((Classical.choose_spec (least ⟨m, hJ2⟩)).2 m hJ2) hm
  | outgrown => exact hq.elim
  | _ => exact hq

theorem awpOpsI_text (hC : C.Ok) {A : OpRule} (hA : A.SoundI ro C) {F : Fr} {ops : Array Oper} {Q : List AV → AHeap → Prop} {KP : Value → List AV → AHeap → Prop} {Qc : Exit → Act → World → Prop} (hQ : ∀ env L a w, Q env L → At C F env L a w → Qc .normal a w)
    (hP : ∀ v env L a w, KP v env L → At C F env L a w → Qc (.panic (chain1 v)) a w) (m : Nat) :
    ∀ (n k : Nat) (env : List AV) (L : AHeap) (a : Act) (w : World), k + n = ops.size → awpOpsA A ops KP (ops.toList.drop k) Q env L → At C F env L a w → wpOpsIn (fen ro) m C.P ops Qc (List.range' k n) a w
  | 0, k, env, L, a, w, hk, h, ha => by
    rw [List.drop_of_length_le (by simp; omega)] at h
    exact hQ _ _ _ _ h ha
  | n + 1, k, env, L, a, w, hk, h, ha => by
    have hlt : k < ops.size := by omega
    have hd : ops.toList.drop k = ops[k] :: ops.toList.drop (k + 1) := by
      rw [List.drop_eq_getElem_cons (by simpa using hlt)]
      rfl
    rw [hd] at h
    rw [List.range'_succ]
    simp only [wpOpsIn]
    rw [Array.getElem?_eq_getElem hlt]
    obtain ⟨imm, hst, hG⟩ := ha
    simp only
    rcases aoperG_cases h hst.env with ⟨hw, h⟩ | ⟨hw, h⟩
    · rw [if_pos hw]
      refine hA _ _ _ _ _ h _ _ _ _ hG hst.sat hst.env _ _ (fun x L' imm' v w' hk' hs hx ht => ?_) (fun v L' imm' w' hk' hs ht => ?_)
      · exact awpOpsI_text hC hA hQ hP m n (k + 1) _ _ _ _ (by omega) hk' (At.next hC hst hG hs hx ht _)
      · exact hP _ _ _ _ _ hk' ⟨imm', hst.step hs ht, hC.mono _ _ _ _ hG ht.imm1 (ht.immblock hst.sat.far hst.sat.immlt)⟩
    · rw [if_neg (by rw [hw]; simp)]
      exact ⟨fun _ _ => trivial, awpOpsI_text hC hA hQ hP m n (k + 1) _ _ _ _ (by omega) h ⟨imm, hst.put undef_VR _, hG⟩⟩
theorem RunI.text (hC : C.Ok) {A : OpRule} (hA : A.SoundI ro C) {id : Nat} {ops : Array Oper} (h : OpsA C A (Q ds) [] ops ops.toList env L) : RunI ro C Q ds (.region id ops false) env L := fun n F a w ha => by
  have := awpOpsI_text (F := { F with ds := ds }) (ops := ops) (Qc := QCd C F Q) hC hA (fun env L a w hq ha => ⟨ds, env, L, ha, hq⟩) (fun v env L a w hq ha => ⟨ds, env, L, ha, hq⟩) n ops.size 0 env L a w (Nat.zero_add _) (by rw [List.drop_zero]; exact h.ok) ha
  rw [← List.range_eq_range'] at this
  exact wpIn_region this
end
theorem ContI.of {C : Cx} {Q : Exit → List AV → AHeap → Prop} {e : Exit} {env : List AV} {L : AHeap} (h : Q e env L) : Cont C Q [] e env L := ⟨h⟩
end Go.Proofs.YtgpbppkmmlclfaaDoor.HB
/- Ranges over functions: regions that draw their order in an iterator, a round, the statement, a function that holds one. -/
namespace Go.Proofs.YtgpbppkmmlclfaaDoor.HB
open Go

/-! ### Regions that draw their order -/
def movN : Op → Bool
  | .move _ | .assign _ | .fieldAddr .. | .nilCheck _ | .binOp .. | .unOp .. | .field .. | .build .. | .extract .. => true
  | _ => false
theorem movN_mov {o : Oper} (h : movN o.op = true) : movA o.op = true ∧ isLoad o.op = false ∧ ∀ (P : Program) (w : World) (ρ : Operand → Value), o.about P w ρ = none := by
  cases ho : o.op <;> rw [ho] at h <;> simp [movN] at h <;> refine ⟨rfl, rfl, fun P w ρ => ?_⟩ <;> simp [Oper.about, ho]
def aopN (C : Cx) (A : OpRule) (o : Oper) (env : List AV) (L : AHeap) (K : AV → AHeap → Prop) : Prop :=
  match movN o.op with
  | true => aop C o env L K
  | false => A o env L K fun _ _ => False
def otOkI (ops : Array Oper) : OTree → Array Bool → Bool
  | .nil, listed => (Region.ready .any ops listed).isEmpty
  | .one i t, listed => match ops[i]? with
    | none => false
    | some o => ((movN o.op && Region.free .any ops listed i && (Region.ready .any ops listed).contains i) || (Region.ready .any ops listed == [i])) && otOkI ops t (listed.setIfInBounds i true)
  | .two i t j u, listed => (Region.ready .any ops listed == [i, j]) && otOkI ops t (listed.setIfInBounds i true) && otOkI ops u (listed.setIfInBounds j true)
def awpTI (C : Cx) (A : OpRule) (ops : Array Oper) : OTree → (List AV → AHeap → Prop) → List AV → AHeap → Prop
  | .nil, Q, env, L => Q env L
  | .one i t, Q, env, L => match ops[i]? with
    | none => False
    | some o => aoperG (aopN C A) ops o env L fun env' L' => awpTI C A ops t Q env' L'
  | .two i t j u, Q, env, L => (match ops[i]? with
    | none => False
    | some o => aoperG (aopN C A) ops o env L fun env' L' => awpTI C A ops t Q env' L') ∧ (match ops[j]? with
    | none => False
    | some o => aoperG (aopN C A) ops o env L fun env' L' => awpTI C A ops u Q env' L')
theorem aopN_sound {C : Cx} (hC : C.Ok) {A : OpRule} (hA : A.SoundI none C) {o : Oper} {env : List AV} {L : AHeap} {K : AV → AHeap → Prop} (h : aopN C A o env L K) (n : Nat) {imm : Nat → Prop} {w : World} {a : Act} (hG : C.G imm w) (hs : Sat imm w L) (he : EnvR imm w env a.tmps)
    {next : Act → World → Prop} {Q : Exit → Act → World → Prop} (hn : ∀ x L' imm' v w', K x L' → Sat imm' w' L' → VR imm' w' x v → Tr C.D (Own L) imm w (Own L') imm' w' → next (a.put o.dst v) w') : o.wpIn (fen none) n C.P a w next Q := by
  unfold aopN at h
  split at h
  · rename_i hm
    exact oper_fen (fun c e => by rw [e] at hm; cases hm) (aop_sound hC h hG hs he hn)
  · exact hA _ _ _ _ _ h _ _ _ _ hG hs he _ _ hn fun _ _ _ _ h => h.elim
theorem awpTI_sound {C : Cx} (hC : C.Ok) {A : OpRule} (hA : A.SoundI none C) {F : Fr} {ops : Array Oper} {Q : List AV → AHeap → Prop} {Qc : Exit → Act → World → Prop} (n : Nat) (hsel : Region.noSelect ops = true) (hQ : ∀ env L a w, Q env L → At C F env L a w → Qc .normal a w) (hpan : ∀ c a w, ¬ Qc (.panic c) a w) :
    ∀ (t : OTree) (fuel : Nat) (listed : Array Bool) (env : List AV) (L : AHeap) (a : Act) (w : World) (imm : Nat → Prop), t.depth ≤ fuel → otOkI ops t listed = true → awpTI C A ops t Q env L →
      St C.D F.ds F.own F.imm F.w env L imm a w → C.G imm w → wpAnyIn (fen none) n C.P .any ops Qc fuel listed a w
  | .nil, fuel, listed, env, L, a, w, imm, _, hok, h, hst, hG => by
    have : Region.ready .any ops listed = [] := by simpa [otOkI] using hok
    exact wpAnyIn_done this (hQ _ _ _ _ h ⟨imm, hst, hG⟩) fuel
  | .one i t, 0, _, _, _, _, _, _, hl, _, _, _, _ => by simp [OTree.depth] at hl
  | .two i t j u, 0, _, _, _, _, _, _, hl, _, _, _, _ => by simp [OTree.depth] at hl
  | .one i t, fuel + 1, listed, env, L, a, w, imm, hl, hok, h, hst, hG => by
    simp only [otOkI] at hok
    simp only [awpTI] at h
    cases ho : ops[i]? with
    | none => rw [ho] at h; exact h.elim
    | some o =>
      rw [ho] at h hok
      simp only [Bool.and_eq_true, Bool.or_eq_true] at hok
      obtain ⟨hthis, hrest⟩ := hok
      have hl' : t.depth ≤ fuel := by simpa [OTree.depth] using hl
      rcases hthis with ⟨⟨hm, hfree⟩, hready⟩ | hsing
      · obtain ⟨hmov, hload, habout⟩ := movN_mov hm
        have take : ∀ {v : Value} {x : AV}, Yields C.P ops o v a → VR imm w x v → awpTI C A ops t Q (putA env o.dst x) L → wpAnyIn (fen none) n C.P .any ops Qc (fuel + 1) listed a w := fun {v x} hy hx hk =>
          wpAnyIn_take rfl ho hsel hfree hready (fun c a w hp => (hpan c _ _ hp).elim) ⟨hy, fun w => habout _ w _⟩ (awpTI_sound hC hA n hsel hQ hpan t fuel _ _ L _ w imm hl' hrest hk (hst.put hx o.dst) hG)
        rcases aoperG_cases h hst.env with ⟨hw, h⟩ | ⟨hw, h⟩
        · simp only [aopN, hm] at h
          obtain ⟨v, x, hr, hx, hk⟩ := aop_move hC hmov h hG hst.sat hst.env
          exact take (.inl ⟨hw, fun w' => hr w' fun e => by rw [hload] at e; cases e⟩) hx hk
        · exact take (.inr ⟨hw, rfl⟩) undef_VR h
      · have hr : Region.ready .any ops listed = [i] := by simpa using hsing
        refine wpAnyIn_all hr (by simp) (fun j hj => ?_)
        obtain rfl : j = i := by simpa using hj
        unfold wpOpIn
        rw [ho]
        dsimp only
        rcases aoperG_cases h hst.env with ⟨hw, h⟩ | ⟨hw, h⟩
        · rw [if_pos hw]
          refine aopN_sound hC hA h n hG hst.sat hst.env fun x L' imm' v w' hk hs hx ht => ?_
          exact awpTI_sound hC hA n hsel hQ hpan t fuel _ _ L' _ w' imm' hl' hrest hk ((hst.step hs ht).put hx o.dst) (hC.mono _ _ _ _ hG ht.imm1 (ht.immblock hst.sat.far hst.sat.immlt))
        · rw [if_neg (by rw [hw]; simp)]
          exact ⟨fun _ _ => trivial, awpTI_sound hC hA n hsel hQ hpan t fuel _ _ L _ w imm hl' hrest h (hst.put undef_VR o.dst) hG⟩
  | .two i t j u, fuel + 1, listed, env, L, a, w, imm, hl, hok, h, hst, hG => by
    simp only [otOkI, Bool.and_eq_true] at hok
    obtain ⟨⟨hr, hok1⟩, hok2⟩ := hok
    simp only [awpTI] at h
    have hr : Region.ready .any ops listed = [i, j] := by simpa using hr
    have hl1 : t.depth ≤ fuel := by simp only [OTree.depth] at hl; omega
    have hl2 : u.depth ≤ fuel := by simp only [OTree.depth] at hl; omega
    have go : ∀ (i : Nat) (t : OTree), (∀ (listed : Array Bool) (env : List AV) (L : AHeap) (a : Act) (w : World) (imm : Nat → Prop), otOkI ops t listed = true → awpTI C A ops t Q env L → St C.D F.ds F.own F.imm F.w env L imm a w → C.G imm w → wpAnyIn (fen none) n C.P .any ops Qc fuel listed a w) →
        otOkI ops t (listed.setIfInBounds i true) = true → (match ops[i]? with
        | none => False
        | some o => aoperG (aopN C A) ops o env L fun env' L' => awpTI C A ops t Q env' L') → wpOpIn (fen none) n C.P ops Qc i (wpAnyIn (fen none) n C.P .any ops Qc fuel (listed.setIfInBounds i true)) a w := fun i t ih hok h => by
      unfold wpOpIn
      cases ho : ops[i]? with
      | none => rw [ho] at h; exact h.elim
      | some o =>
      rw [ho] at h
      dsimp only at h ⊢
      rcases aoperG_cases h hst.env with ⟨hw, h⟩ | ⟨hw, h⟩
      · rw [if_pos hw]
        refine aopN_sound hC hA h n hG hst.sat hst.env fun x L' imm' v w' hk hs hx ht => ?_
        exact ih _ _ L' _ w' imm' hok hk ((hst.step hs ht).put hx o.dst) (hC.mono _ _ _ _ hG ht.imm1 (ht.immblock hst.sat.far hst.sat.immlt))
      · rw [if_neg (by rw [hw]; simp)]
        exact ⟨fun _ _ => trivial, ih _ _ L _ w imm hok h (hst.put undef_VR o.dst) hG⟩
    refine wpAnyIn_all hr (by simp) (fun k hk => ?_)
    have hk : k = i ∨ k = j := by simpa using hk
    rcases hk with rfl | rfl
    · exact go k t (fun listed env L a w imm h1 h2 h3 h4 => awpTI_sound hC hA n hsel hQ hpan t fuel listed env L a w imm hl1 h1 h2 h3 h4) hok1 h.1
    · exact go k u (fun listed env L a w imm h1 h2 h3 h4 => awpTI_sound hC hA n hsel hQ hpan u fuel listed env L a w imm hl2 h1 h2 h3 h4) hok2 h.2

structure OrdI (C : Cx) (A : OpRule) (Q : List AV → AHeap → Prop) (ops : Array Oper) (t : OTree) (env : List AV) (L : AHeap) : Prop where
  ok : awpTI C A ops t Q env L
def joinI (I : List AV → AHeap → Prop) : List AV → AHeap → Prop := fun env L => ∃ env1 L1, Weak env L env1 L1 ∧ I env1 L1
section
variable {C : Cx} {A : OpRule} {env : List AV} {L : AHeap}
theorem RunI.drawn (hC : C.Ok) (hA : A.SoundI none C) {Q : List Deferred → Exit → List AV → AHeap → Prop} {ds : List Deferred} {id : Nat} {ops : Array Oper} (I : List AV → AHeap → Prop) (t : OTree) (hc : (Region.noSelect ops && otOkI ops t (Array.replicate ops.size false) && decide (t.depth ≤ ops.size)) = true)
    (h : OrdI C A (joinI I) ops t env L) (hk : ∀ env L, I env L → Q ds .normal env L) : RunI none C Q ds (.region id ops true) env L := fun n F a w ha => by
  simp only [Bool.and_eq_true, decide_eq_true_eq] at hc
  obtain ⟨imm, hst, hG⟩ := ha.drew hC
  refine wpIn_mono (Q := fun e a w => e = .normal ∧ QCd C F Q e a w) ?_ fun _ _ _ h => h.2
  refine wpIn_region_any hC.mixed ?_
  exact awpTI_sound (F := { F with ds := ds }) hC hA n hc.1.1 (fun env L a w hq ha => by
    obtain ⟨env1, L1, hw, hi⟩ := hq
    exact ⟨rfl, ds, env1, L1, hw _ _ _ _ ha, hk _ _ hi⟩) (fun c a w hp => by cases hp.1) t ops.size _ env L a w.drew imm hc.2 hc.1.2 h.ok hst hG
theorem OrdI.nil {ops : Array Oper} {Q : List AV → AHeap → Prop} (h : Q env L) : OrdI C A Q ops .nil env L := ⟨h⟩
theorem OrdI.one {ops : Array Oper} {Q : List AV → AHeap → Prop} {i : Nat} {t : OTree} {o : Oper} (ho : ops[i]? = some o) (h : aoperG (aopN C A) ops o env L fun env' L' => OrdI C A Q ops t env' L') : OrdI C A Q ops (.one i t) env L := by
  have e : (fun env' L' => OrdI C A Q ops t env' L') = fun env' L' => awpTI C A ops t Q env' L' := by
    funext env' L'
    exact propext ⟨fun h => h.ok, fun h => ⟨h⟩⟩
  rw [e] at h
  refine ⟨?_⟩
  unfold awpTI
  rw [ho]
  exact h
theorem OrdI.two {ops : Array Oper} {Q : List AV → AHeap → Prop} {i j : Nat} {t u : OTree} (h1 : OrdI C A Q ops (.one i t) env L) (h2 : OrdI C A Q ops (.one j u) env L) : OrdI C A Q ops (.two i t j u) env L := by
  have a := h1.ok
  have b := h2.ok
  refine ⟨?_⟩
  unfold awpTI at a b ⊢
  exact ⟨a, b⟩
end

/-! ### A round -/
def envB (env : List AV) (tmps : Array Value) : AObj := .box (fun _ => False) (fun imm w => EnvR imm w env tmps)
theorem envB_ok (env : List AV) (tmps : Array Value) : BoxOk (fun _ => False) (fun imm w => EnvR imm w env tmps) := fun _ _ _ _ hi hc _ h => h.mono hi fun _ ha => World.cell?_of_block (hc _ ha)
abbrev RoundL (l : Nat) (rec : Loop) (env : List AV) (Lb : AHeap) : AHeap := [(0, boxL ((l, .obj (.loop rec)) :: (0, envB env rec.tmps) :: Lb))]
def putAs (env : List AV) : List Tmp → List AV → List AV
  | t :: ts, x :: xs => putAs (env.set t x) ts xs
  | _, _ => env
theorem EnvR.putAs {imm : Nat → Prop} {w : World} : ∀ {ps : List Tmp} {xs : List AV} {vs : List Value} {env : List AV} {tmps : Array Value}, EnvR imm w env tmps → vs.length = xs.length → (∀ (j : Nat) (x : AV) (v : Value), xs[j]? = some x → vs[j]? = some v → VR imm w x v) →
    EnvR imm w (HB.putAs env ps xs) ((ps.zip vs).foldl (fun t (p, v) => t.setIfInBounds p v) tmps)
  | [], xs, vs, env, tmps, h, _, _ => by unfold HB.putAs; simpa using h
  | t :: ps, [], vs, env, tmps, h, hl, _ => by
    have : vs = [] := by cases vs <;> simp_all
    subst this
    unfold HB.putAs
    simpa using h
  | t :: ps, x :: xs, [], env, tmps, h, hl, _ => by simp at hl
  | t :: ps, x :: xs, v :: vs, env, tmps, h, hl, hv => by
    have h0 := EnvR.put (a := { tmps := tmps, defers := [] }) h (hv 0 x v rfl rfl) (some t)
    have := EnvR.putAs (ps := ps) (xs := xs) (vs := vs) h0 (by simpa using hl) fun j x v hx hv' => hv (j + 1) x v (by simpa using hx) (by simpa using hv')
    unfold HB.putAs
    simpa [putA, Act.put] using this

theorem Sat.other {imm : Nat → Prop} {w w' : World} {L : AHeap} {l : Nat} (hs : Sat imm w L) (hl : ¬ Own L l) (hi : ¬ imm l) (hsz : w.heap.size ≤ w'.heap.size) (hold : ∀ i, i ≠ l → w'.heap[i]? = w.heap[i]?) : Sat imm w' L :=
  ⟨fun k g o hk ho => (hs.holds k g o hk ho).mono (fun _ h => h) (fun i hm => hold i fun e => hi (e ▸ hm)) (fun i hm => hold i fun e => hl ⟨k, g, o, hk, e ▸ hm⟩), hs.apart, hs.far, fun g hg => Nat.lt_of_lt_of_le (hs.lt g hg) hsz, fun g hg => Nat.lt_of_lt_of_le (hs.immlt g hg) hsz⟩

theorem own_round (l : Nat) (rec : Loop) (env : List AV) (Lb : AHeap) (i : Nat) : Own (RoundL l rec env Lb) i ↔ i = l ∨ Own Lb i := by
  unfold RoundL
  rw [own_cons, own_boxL, own_cons, own_cons]
  constructor
  · rintro ((h | h | h) | h)
    · exact .inl h
    · exact h.elim
    · exact .inr h
    · exact ((own_nil i).1 h).elim
  · rintro (h | h)
    · exact .inl (.inl h)
    · exact .inl (.inr (.inr h))
theorem sat_round {imm : Nat → Prop} {w : World} {l : Nat} {rec : Loop} {env : List AV} {Lb : AHeap} (hl : w.heap[l]? = some (.loop rec)) (he : EnvR imm w env rec.tmps) (hs : Sat imm w Lb) (ho : ¬ Own Lb l) (hi : ¬ imm l) : Sat imm w (RoundL l rec env Lb) := by
  have hll : l < w.heap.size := (Array.getElem?_eq_some_iff.1 hl).1
  refine ((Imp.box 0 _).2 _ _ ?_ |> fun h : SatC imm w (RoundL l rec env Lb) => ⟨h.holds, h.apart, fun i hi' => ?_, fun i hi' => ?_, hs.immlt⟩)
  · refine (satC_cons _ _ _ _).2 ⟨fun _ => .obj _ hl, fun i e h => ?_, (satC_cons _ _ _ _).2 ⟨fun _ => .box _ _ he (envB_ok _ _), fun i h => h.elim, hs.core⟩⟩
    have e : i = l := e
    rcases (own_cons _ _ _).1 h with h | h
    · exact h.elim
    · exact ho (e ▸ h)
  · rcases (own_round _ _ _ _ _).1 hi' with rfl | h
    · exact hi
    · exact hs.far i h
  · rcases (own_round _ _ _ _ _).1 hi' with rfl | h
    · exact hll
    · exact hs.lt i h
theorem round_sat {imm : Nat → Prop} {w : World} {l : Nat} {rec : Loop} {env : List AV} {Lb : AHeap} (hs : Sat imm w (RoundL l rec env Lb)) : w.heap[l]? = some (.loop rec) ∧ EnvR imm w env rec.tmps ∧ Sat imm w Lb ∧ ¬ Own Lb l ∧ ¬ imm l := by
  have hbox := (Imp.unbox 0 _).sat hs
  refine ⟨?_, ?_, ((Imp.drop _ _).trans (Imp.drop _ _)).sat hbox, fun ⟨k, g, o, hk, ho⟩ => ?_, hbox.far l ⟨0, l, _, rfl, rfl⟩⟩
  · cases hbox.holds 0 l _ rfl trivial with
    | obj _ h => exact h
  · cases hbox.holds 1 0 _ rfl trivial with
    | box _ _ h _ => exact h
  · have := hbox.apart 0 (k + 2) l g l _ o rfl rfl (by simpa using hk) ho
    omega

theorem YieldSpec.of {C : Cx} (hC : C.Ok) {l : Nat} {rec : Loop} {env : List AV} {Lb Lb' : AHeap} {args : List AV} (hst : rec.state = .ready) (hp : rec.pending = none) (hps : args.length = rec.params.size)
    (h : RunI (some l) C (QS (some l) C (fun _ e _ L => e = .normal ∧ Imp L Lb') rec.body) [] rec.assign (putAs env rec.params.toList args) Lb) :
    YieldSpec C l args (RoundL l rec env Lb) fun b L' => b = true ∧ L' = RoundL l rec env Lb' := by
  intro n imm w vs hG hs hlen hv
  obtain ⟨hl, henv, hsb, hlo, hli⟩ := round_sat hs
  have hll : l < w.heap.size := (Array.getElem?_eq_some_iff.1 hl).1
  have hy := run_yield (P := C.P) (args := vs.toArray) hl (by simp [hlen, hps])
  refine ⟨rec.fn, _, rec.assign, rec.body, hy, roundIn_of_wpIn trivial ?_⟩
  have hzip : (rec.params.zip vs.toArray).foldl (fun tmps (t, a) => tmps.setIfInBounds t a) rec.tmps = (rec.params.toList.zip vs).foldl (fun t (p, v) => t.setIfInBounds p v) rec.tmps := by
    rw [← Array.foldl_toList]
    simp
  have ha : At C ⟨[], Own Lb, imm, w⟩ (putAs env rec.params.toList args) Lb { tmps := (rec.params.zip vs.toArray).foldl (fun tmps (t, a) => tmps.setIfInBounds t a) rec.tmps, defers := [] } w :=
    ⟨imm, ⟨hsb, by rw [hzip]; exact henv.putAs hlen hv, Tr.refl _ _ _, rfl⟩, hG⟩
  refine wpIn_mono (h n ⟨[], Own Lb, imm, w⟩ _ w ha) fun e a1 w1 hq => ?_
  cases e with
  | normal =>
    obtain ⟨ds1, env1, L1, ⟨imm1, hst1, hG1⟩, hq⟩ := hq
    have ht1 : Tr C.D (Own Lb) imm w (Own L1) imm1 w1 := hst1.tr
    have hl1 : w1.heap[l]? = some (.loop rec) := (ht1.block l hll hlo).trans hl
    have hll1 : l < w1.heap.size := (Array.getElem?_eq_some_iff.1 hl1).1
    refine ⟨_, run_beginRound hl1 hst, ?_⟩
    have hlo1 : ¬ Own L1 l := fun h => (ht1.own2 l h).elim hlo (by omega)
    have hli1 : ¬ imm1 l := fun h => by
      rcases ht1.imm2 l h with h | h | h
      · exact hli h
      · exact hlo h
      · omega
    have hold2 : ∀ i, i ≠ l → (w1.putObj l (.loop { rec with state := .busy })).heap[i]? = w1.heap[i]? := fun i hi => World.putObj_heap_other hi
    have hs2 : Sat imm1 (w1.putObj l (.loop { rec with state := .busy })) L1 := hst1.sat.other hlo1 hli1 (by simp) hold2
    have hG2 : C.G imm1 (w1.putObj l (.loop { rec with state := .busy })) := hC.mono _ _ _ _ hG1 (fun _ h => h) (fun i hi => hold2 i fun e => hli1 (e ▸ hi))
    have ha2 : At C ⟨ds1, Own L1, imm1, w1.putObj l (.loop { rec with state := .busy })⟩ env1 L1 a1 (w1.putObj l (.loop { rec with state := .busy })) :=
      ⟨imm1, ⟨hs2, hst1.env.mono (fun _ h => h) (fun a ha => World.cell?_of_block (hold2 _ fun e => hli1 (e ▸ ha))), Tr.refl _ _ _, hst1.defers⟩, hG2⟩
    refine wpIn_mono (hq n ⟨ds1, Own L1, imm1, w1.putObj l (.loop { rec with state := .busy })⟩ a1 _ ha2) fun e a3 w3 hq3 => ?_
    cases e with
    | normal =>
      obtain ⟨ds3, env3, L3, ⟨imm3, hst3, _⟩, _, himp⟩ := hq3
      have ht3 : Tr C.D (Own L1) imm1 (w1.putObj l (.loop { rec with state := .busy })) (Own L3) imm3 w3 := hst3.tr
      have hl3 : w3.heap[l]? = some (.loop { rec with state := .busy }) := (ht3.block l (by simpa using hll1) hlo1).trans (World.putObj_heap_same hll1)
      have hll3 : l < w3.heap.size := (Array.getElem?_eq_some_iff.1 hl3).1
      have hlo3 : ¬ Own L3 l := fun h => (ht3.own2 l h).elim hlo1 (by simp; omega)
      have hli3 : ¬ imm3 l := fun h => by
        rcases ht3.imm2 l h with h | h | h
        · exact hli1 h
        · exact hlo1 h
        · simp at h; omega
      have hrec : { { rec with state := .busy } with state := if (none : Option Code).isNone then .ready else .done, pending := none } = rec := by
        cases rec
        simp_all
      have hend := run_endRound (P := C.P) none hl3
      rw [hrec] at hend
      have hold4 : ∀ i, i ≠ l → (w3.putObj l (.loop rec)).heap[i]? = w3.heap[i]? := fun i hi => World.putObj_heap_other hi
      have hs4 : Sat imm3 (w3.putObj l (.loop rec)) Lb' := (himp.sat hst3.sat).other (fun h => hlo3 (himp.1 l h)) hli3 (by simp) hold4
      have himm : ∀ i, imm i → imm3 i := fun i hi => ht3.imm1 i (ht1.imm1 i hi)
      have hfix : ∀ i, imm i → (w3.putObj l (.loop rec)).heap[i]? = w.heap[i]? := fun i hi => by
        have hne : i ≠ l := fun e => hli (e ▸ hi)
        rw [hold4 i hne, ht3.immblock hs2.far hs2.immlt i (ht1.imm1 i hi), hold2 i hne, ht1.immblock hsb.far hsb.immlt i hi]
      refine ⟨_, _, hend, true, _, imm3, rfl, sat_round (World.putObj_heap_same hll3) (henv.mono himm fun a ha => World.cell?_of_block (hfix _ ha)) hs4 (fun h => hlo3 (himp.1 l h)) hli3, ?_, rfl, rfl⟩
      refine ⟨fun hD => Nat.le_trans (ht1.drawn hD) (ht3.drawn hD), ht3.os.trans ht1.os, ht3.tape.trans ht1.tape, ht3.output.trans ht1.output, ?_, fun i hi ho => ?_, himm, fun i hi => ?_, fun i hi => ?_⟩
      · have a := ht1.size; have b := ht3.size; simp at b ⊢; omega
      · have hne : i ≠ l := fun e => ho ((own_round _ _ _ _ _).2 (.inl e))
        have h1 : ¬ Own Lb i := fun h => ho ((own_round _ _ _ _ _).2 (.inr h))
        have h2 : ¬ Own L1 i := fun h => (ht1.own2 i h).elim h1 (by omega)
        have hi1 : i < w1.heap.size := Nat.lt_of_lt_of_le hi ht1.size
        rw [hold4 i hne, ht3.block i (by simpa using hi1) h2, hold2 i hne, ht1.block i hi h1]
      · rcases ht3.imm2 i hi with h | h | h
        · rcases ht1.imm2 i h with h | h | h
          · exact .inl h
          · exact .inr (.inl ((own_round _ _ _ _ _).2 (.inr h)))
          · exact .inr (.inr h)
        · rcases ht1.own2 i h with h | h
          · exact .inr (.inl ((own_round _ _ _ _ _).2 (.inr h)))
          · exact .inr (.inr h)
        · have := ht1.size; simp at h; exact .inr (.inr (by omega))
      · rcases (own_round _ _ _ _ _).1 hi with rfl | h
        · exact .inl ((own_round _ _ _ _ _).2 (.inl rfl))
        · rcases ht3.own2 i (himp.1 i h) with h | h
          · rcases ht1.own2 i h with h | h
            · exact .inl ((own_round _ _ _ _ _).2 (.inr h))
            · exact .inr h
          · have := ht1.size; simp at h; exact .inr (by omega)
    | outgrown => exact hq3.elim
    | _ => obtain ⟨_, _, _, _, hq3, _⟩ := hq3; cases hq3
  | outgrown => exact hq.elim
  | _ => obtain ⟨_, _, _, _, hq, _⟩ := hq; cases hq
end Go.Proofs.YtgpbppkmmlclfaaDoor.HB
