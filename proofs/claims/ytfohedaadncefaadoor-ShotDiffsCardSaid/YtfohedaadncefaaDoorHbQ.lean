/- The library's contracts, as the abstract machine calls them. -/
import Derived.Test.YtfohedaadncefaaDoorHbP
import Derived.Lib.SplitLaws
namespace Go.Proofs.YtfohedaadncefaaDoor.HB
open Go Go.RowKit

theorem sat_nil {imm : Nat → Prop} {w : World} (h : ∀ g, imm g → g < w.heap.size) : Sat imm w [] :=
  ⟨by simp, by simp, fun g hg => (not_own_nil g hg).elim, fun g hg => (not_own_nil g hg).elim, h⟩
theorem tr_below {imm : Nat → Prop} {w w' : World} (h : Below w.heap.size w w') : Tr (Own []) imm w (Own []) imm w' :=
  ⟨h.os, h.tape, h.output, h.size, fun i hi _ => h.block i hi, fun _ h => h, fun _ h => .inl h, fun i hi => (not_own_nil i hi).elim⟩

/-- A function that computes and, if it makes memory, leaves it behind. -/
theorem FnSpec.of_below {C : Cx} {f : FuncId} {fn : Func} {args : List AV} {L : AHeap} {x : AV} (hf : C.P.funcs[f]? = some fn) (hn : (fn.name == "runtime.NumGoroutine") = false) (hb : fn.body.isSome = true) (hx : scals x = true)
    (h : ∀ (imm : Nat → Prop) (w : World) (vs : List Value), C.G imm w → Sat imm w L → vs.length = args.length → (∀ (j : Nat) (x : AV) (v : Value), args[j]? = some x → vs[j]? = some v → VR imm w x v) →
      ∃ v, VR imm w x v ∧ Calls C.P f vs.toArray w (fun e w' => e = .returned v ∧ Below w.heap.size w w')) :
    FnSpec C f args L (fun r L' => r = x ∧ L' = L) := by
  refine ⟨⟨fn, hf, hn, hb⟩, fun imm w vs hG hs hl hv => ?_⟩
  obtain ⟨v, hxv, hc⟩ := h imm w vs hG hs hl hv
  refine hc.mono fun e w' ⟨he, hb⟩ => ⟨v, x, L, imm, he, hxv.of_scals hx, ?_, ?_, rfl, rfl⟩
  · have hold : ∀ i, i < w.heap.size → w'.heap[i]? = w.heap[i]? := hb.block
    exact ⟨fun j g o hj ho => (hs.holds j g o hj ho).mono (fun _ x => x) (fun i hi => hold i (hs.immlt i hi)) (hold g (hs.lt g ⟨j, o, hj, ho⟩)), hs.apart, hs.far, fun g hg => Nat.lt_of_lt_of_le (hs.lt g hg) hb.size, fun g hg => Nat.lt_of_lt_of_le (hs.immlt g hg) hb.size⟩
  · exact ⟨hb.os, hb.tape, hb.output, hb.size, fun i hi _ => hb.block i hi, fun _ h => h, fun _ h => .inl h, fun _ h => .inl h⟩

theorem FnSpec.of_same {C : Cx} {f : FuncId} {fn : Func} {args : List AV} {L : AHeap} {x : AV} (hf : C.P.funcs[f]? = some fn) (hn : (fn.name == "runtime.NumGoroutine") = false) (hb : fn.body.isSome = true) (hx : scals x = true)
    (h : ∀ (imm : Nat → Prop) (w : World) (vs : List Value), C.G imm w → Sat imm w L → vs.length = args.length → (∀ (j : Nat) (x : AV) (v : Value), args[j]? = some x → vs[j]? = some v → VR imm w x v) →
      ∃ v, VR imm w x v ∧ Calls C.P f vs.toArray w (fun e w' => e = .returned v ∧ w' = w)) :
    FnSpec C f args L (fun r L' => r = x ∧ L' = L) :=
  FnSpec.of_below hf hn hb hx fun imm w vs hG hs hl hv => by
    obtain ⟨v, h1, h2⟩ := h imm w vs hG hs hl hv
    exact ⟨v, h1, h2.mono fun e w' ⟨he, hw⟩ => ⟨he, hw ▸ Below.refl _ _⟩⟩

/-- A function that makes one row and answers with it. -/
theorem FnSpec.of_row {C : Cx} {f : FuncId} {fn : Func} {args : List AV} {e : TypeId} {xs : List AV} {us : List Value} {n : Nat} (hf : C.P.funcs[f]? = some fn) (hn : (fn.name == "runtime.NumGoroutine") = false) (hb : fn.body.isSome = true)
    (hus : ∀ imm w, VRs imm w xs us) (hx : ∀ x ∈ xs, (flat x).length = 1) (hfl : flats xs = xs) (hlen : us.length = n) (hmax : n ≤ maxLen)
    (h : ∀ (imm : Nat → Prop) (w : World) (vs : List Value), C.G imm w → vs.length = args.length → (∀ (j : Nat) (x : AV) (v : Value), args[j]? = some x → vs[j]? = some v → VR imm w x v) →
      Calls C.P f vs.toArray w (fun e' w' => e' = .returned (.slice (some ⟨w.heap.size, 0, none⟩) n n) ∧ w' = w.alloc (.cells us.toArray e))) :
    FnSpec C f args [] (fun r L' => ∃ g, r = .sl 0 g n n ∧ L' = [(g, .row e 1 n xs)]) := by
  refine ⟨⟨fn, hf, hn, hb⟩, fun imm w vs hG hs hl hv => ?_⟩
  refine (h imm w vs hG hl hv).mono fun e' w' ⟨he, hw⟩ => ⟨_, .sl 0 w.heap.size n n, [(w.heap.size, .row e 1 n xs)], imm, he, .sl .., ?_, ?_, _, rfl, rfl⟩
  · subst hw
    have hlen' : xs.length = n := by rw [← (hus imm w).len]; exact hlen
    refine Sat.new (L := []) (o := .row e 1 n xs) hs (by simp) (fun i hi => (World.grownBy_alloc w _ none).block i hi (by simp)) ?_
    refine .row e 1 n xs us [] ?_ (by decide) hx (by simp [hlen]) hmax (by omega) ?_
    · rw [List.append_nil]
      exact heap_alloc_new w _
    · rw [hfl]; exact hus _ _
  · subst hw
    exact Tr.new (L := []) (World.grownBy_alloc w _ none) _

theorem VR.str_inv {imm : Nat → Prop} {w : World} {s : ByteArray} {v : Value} (h : VR imm w (.str s) v) : v = .string s := by cases h; rfl
theorem VR.int_inv {imm : Nat → Prop} {w : World} {k : IntKind} {n : Int} {v : Value} (h : VR imm w (.int k n) v) : v = .int k n := by cases h; rfl

/-- Two values that are handed in. -/
theorem two_vals {imm : Nat → Prop} {w : World} {x y : AV} {vs : List Value} (hl : vs.length = [x, y].length) (hv : ∀ (j : Nat) (z : AV) (v : Value), [x, y][j]? = some z → vs[j]? = some v → VR imm w z v) : ∃ u v, vs = [u, v] ∧ VR imm w x u ∧ VR imm w y v := by
  match vs, hl with
  | [u, v], _ => exact ⟨u, v, rfl, hv 0 x u rfl rfl, hv 1 y v rfl rfl⟩
theorem strs_VRs (imm : Nat → Prop) (w : World) : ∀ l : List ByteArray, VRs imm w (l.map .str) (l.map .string)
  | [] => .nil _ _
  | s :: l => .cons rfl (.str s) (strs_VRs imm w l)
theorem strs_flats : ∀ l : List ByteArray, flats (l.map AV.str) = l.map .str
  | [] => rfl
  | s :: l => by
    have := strs_flats l
    simp only [flats, List.map_cons, List.flatMap_cons, flat, List.singleton_append] at this ⊢
    rw [this]

end Go.Proofs.YtfohedaadncefaaDoor.HB
