/- A session's end: End. -/
import Derived.Test.YtcbjcmigecocgaaGreatDoorTwT9
import Derived.Test.YtcbjcmigecocgaaGreatDoorHbP
import Derived.Test.YtcbjcmigecocgaaGreatDoorRows
import Derived.Lib.LaidU8
import Derived.Shelf.Vars
import Derived.Lay
import Derived.MakeChecks
set_option linter.unusedVariables false
set_option linter.unusedSimpArgs false
namespace Go.Proofs.YtcbjcmigecocgaaGreatDoor.HBT
open Go Go.Proofs.YtcbjcmigecocgaaGreatDoor.HB Go.RowKit
set_option maxRecDepth 8000

def EndQ (gt gm : Nat) (l : List Fu) (s : Int) : AV → AHeap → Prop := fun r L' =>
  ∃ es cl, TM (endF l s).1 es cl ∧ r = encCs (endF l s).2 ∧ L' = TreeL gt gm es cl
def endL (l : List Fu) (s : Int) (i : Nat) : List Fu := ((l.take i).filter fun x => decide (x.o ≠ s)) ++ l.drop i
def endC (l : List Fu) (s : Int) (i : Nat) : List Chg := ((l.take i).filter fun x => decide (x.o = s)).map goneC
theorem endL_zero (l : List Fu) (s : Int) : endL l s 0 = l := by unfold endL; simp
theorem endC_len (l : List Fu) (s : Int) (i : Nat) : (endC l s i).length ≤ i := by
  unfold endC
  rw [List.length_map]
  exact Nat.le_trans (List.length_filter_le _ _) (by rw [List.length_take]; omega)
theorem end_no {l : List Fu} {s : Int} {i : Nat} {x : Fu} (h : l[i]? = some x) (ho : ¬ x.o = s) : endL l s (i + 1) = endL l s i ∧ endC l s (i + 1) = endC l s i := by
  unfold endL endC
  rw [List.take_add_one, h, drop_at h]
  simp [List.filter_append, ho]
theorem end_yes {l : List Fu} (hs : Sorted l) {s : Int} {i : Nat} {x : Fu} (h : l[i]? = some x) (ho : x.o = s) : endL l s (i + 1) = del (endL l s i) x.p ∧ endC l s (i + 1) = endC l s i ++ [goneC x] ∧ Sorted (endL l s i) ∧ x ∈ endL l s i := by
  have hsub : List.Sublist (endL l s i) l := by
    have := (List.filter_sublist (p := fun x : Fu => decide (x.o ≠ s)) (l := l.take i)).append (List.Sublist.refl (l.drop i))
    rw [List.take_append_drop] at this
    exact this
  have hsrt : Sorted (endL l s i) := List.Pairwise.sublist hsub hs
  refine ⟨?_, ?_, hsrt, ?_⟩
  · have hn := hs.nodup
    have e : l = l.take i ++ x :: l.drop (i + 1) := by rw [← drop_at h, List.take_append_drop]
    have hne : ∀ y, y ∈ l.take i ∨ y ∈ l.drop (i + 1) → y.p ≠ x.p := by
      rw [e, List.map_append, List.map_cons, List.nodup_append] at hn
      obtain ⟨_, h2, h3⟩ := hn
      rw [List.nodup_cons] at h2
      intro y hy
      rcases hy with hy | hy
      · exact h3 y.p (List.mem_map.2 ⟨y, hy, rfl⟩) x.p (.head _)
      · exact fun e => h2.1 (List.mem_map.2 ⟨y, hy, e⟩)
    unfold endL del
    rw [drop_at h, List.take_add_one, h, List.filter_append, List.filter_append, List.filter_cons_of_neg (by simp)]
    have e1 : ((l.take i).filter fun x => decide (x.o ≠ s)).filter (fun y => decide (y.p ≠ x.p)) = (l.take i).filter fun x => decide (x.o ≠ s) := List.filter_eq_self.2 fun y hy => by simpa using hne y (.inl (List.mem_filter.1 hy).1)
    have e2 : (l.drop (i + 1)).filter (fun y => decide (y.p ≠ x.p)) = l.drop (i + 1) := List.filter_eq_self.2 fun y hy => by simpa using hne y (.inr hy)
    rw [e1, e2]
    simp [ho]
  · unfold endC
    rw [List.take_add_one, h]
    simp [List.filter_append, ho]
  · unfold endL
    rw [drop_at h]
    simp
set_option maxHeartbeats 8000000 in
theorem end_spec (gt gm : Nat) {l : List Fu} {es : Array MapEntry} {cl : Nat} (hT : TM l es cl) (hi : TInv l) (s : Int) :
    FnSpec C 11 [.ptr 0 gt 0, .int .i64 s] (TreeL gt gm es cl) (EndQ gt gm l s) := by
  refine FnSpec.start C_ok Tryz.func11 rfl rfl Tryz.ntmps11 ?_
  repeat(first|refine Sc ?_|refine fun(_:Nat)=>?_)
  refine ACallT.ok (ACall.sel [0] (by decide) [.ptr 0 gt 0] _ (.one (Sub.refl _)) (none_spec gt (some gm)) ?_)
  rintro r L' ⟨rfl, rfl⟩
  refine ⟨.bool false, Sub.refl _, ?_⟩
  repeat(first|refine Sc ?_|refine fun(_:Nat)=>?_)
  refine ⟨fun h => ?_, fun h => ?_⟩
  · have h : s < 1 := h
    have he : endF l s = (l, []) := by unfold endF; rw [if_pos h]
    repeat(first|refine Sc ?_|refine fun(_:Nat)=>?_)
    exact ⟨encCs [], _, FinOk.keep _ [0, 1] (Sub.nilsRo 4) (by decide) rfl, es, cl, by rw [he]; exact hT, by rw [he], rfl⟩
  have h : ¬ s < 1 := h
  have he : endF l s = (l.filter fun x => decide (x.o ≠ s), (l.filter fun x => decide (x.o = s)).map goneC) := by unfold endF; rw [if_neg h]
  repeat(first|refine Sc ?_|refine fun(_:Nat)=>?_)
  refine ACallT.ok (ACall.sel [0, 1] (by decide) [.ptr 0 gt 0] _ (.one (Sub.refl _)) (nodes_spec gt gm hT hi) ?_)
  rintro r L' ⟨gn, Cn, rfl, rfl⟩
  refine ⟨.sl 2 gn Cn l.length, Sub.refl _, ?_⟩
  repeat(first|refine Sc ?_|refine fun(_:Nat)=>?_)
  refine Run.loopW (fun k env L => ∃ (i : Nat) (es' : Array MapEntry) (v : AV) (gc : Nat) (co : AObj), k = l.length - i ∧ i ≤ l.length ∧ TM (endL l s i) es' cl ∧ LC 3 (endC l s i) v gc co ∧ env = [.ptr 0 gt 0, .int .i64 s, .junk, .junk, .junk, v, .junk, .junk, .junk, .junk, .junk, .junk, .junk, .junk, .junk, .sl 2 gn Cn l.length, .int .i64 l.length, .int .i64 i, .junk, .junk, .junk, .junk, .junk, .junk, .junk, .junk, .junk, .junk, .junk, .junk, .junk, .junk, .junk, .junk, .junk, .junk, .junk, .junk] ∧ L = [(gt, .cells tT [.any (.map (some gm))]), (gm, .obj (.map es' cl)), (gn, .row tX 7 Cn (l.map encX)), (gc, co)]) l.length
    [.ptr 0 gt 0, .int .i64 s, .junk, .junk, .junk, .nils, .junk, .junk, .junk, .junk, .junk, .junk, .junk, .junk, .junk, .sl 2 gn Cn l.length, .int .i64 l.length, .int .i64 (0 : Nat), .junk, .junk, .junk, .junk, .junk, .junk, .junk, .junk, .junk, .junk, .junk, .junk, .junk, .junk, .junk, .junk, .junk, .junk, .junk, .junk] [(gt, .cells tT [.any (.map (some gm))]), (gm, .obj (.map es cl)), (gn, .row tX 7 Cn (l.map encX)), (0, .dead)] (Weak.sel ?_ [0, 1, 2, 9] (by decide) ?_) ⟨0, es, .nils, 0, .dead, by omega, by omega, by rw [endL_zero]; exact hT, .inl ⟨rfl, rfl, rfl⟩, rfl, rfl⟩ ?_
  · exact Ss
  · exact Sl
  rintro k env L ⟨i, es', v, gc, co, rfl, hil, hT', hv, rfl, rfl⟩
  repeat(first|refine Sc ?_|refine fun(_:Nat)=>?_)
  refine ⟨fun h => ?_, fun h => ?_⟩
  · have h : (i : Int) < (l.length : Int) := h
    have hi2 : i < l.length := by omega
    obtain ⟨x, ex⟩ : ∃ x, l[i]? = some x := ⟨_, List.getElem?_eq_getElem hi2⟩
    have hl64 := hi.len
    repeat(first|refine Sc ?_|refine fun(_:Nat)=>?_)
    refine ⟨h, ?_⟩
    repeat(first|refine Sc ?_|refine fun(_:Nat)=>?_)
    refine ⟨encX x, map_at encX ex, ?_⟩
    repeat(first|refine Sc ?_|refine fun(_:Nat)=>?_)
    refine ⟨fun ho => ?_, fun ho => ?_⟩
    · have ho : x.o = s := ho
      obtain ⟨e1, e2, e3, e4⟩ := end_yes hi.sorted ex ho
      obtain ⟨j, f1, f2, f3, f4, _⟩ := hT'.hit e3 e4
      rw [← e1] at f4
      have hcl : (endC l s i).length ≤ i := endC_len l s i
      repeat(first|refine Sc ?_|refine fun(_:Nat)=>?_)
      refine Run.drawnK C_ok (aopC_sound C_ok) [0, 4] [0, 1, 2, 3, 4, 5, 6] (by kernel_rfl) ?_
      repeat(first|refine Sc ?_|refine fun(_:Nat)=>?_)
      refine ⟨1, es', cl, some (j, valX x), rfl, f1, ?_⟩
      repeat(first|refine Sc ?_|refine fun(_:Nat)=>?_)
      refine ACallT.ok (ACall.ret (gone_spec x) ?_)
      repeat(first|refine Sc ?_|refine fun(_:Nat)=>?_)
      rcases hv with ⟨e0, rfl, rfl⟩ | ⟨Cp, rfl, rfl⟩
      · repeat(first|refine Sc ?_|refine fun(_:Nat)=>?_)
        refine ⟨fun h => absurd h (List.cons_ne_nil _ _), fun _ => ?_⟩
        repeat(first|refine Sc ?_|refine fun(_:Nat)=>?_)
        rename_i g' C'
        refine fun r hr => ?_
        obtain rfl := add1 hr (by omega)
        repeat(first|refine Sc ?_|refine fun(_:Nat)=>?_)
        refine Cont.lpW ?_
        refine ⟨l.length - (i + 1), _, _, by omega, Weak.sel ?_ [0, 1, 2, 6] (by decide) ?_, ⟨i + 1, _, .sl 3 g' C' 1, g', _, rfl, by omega, f4, e2.symm ▸ LN.one e0, rfl, rfl⟩⟩
        · exact Ss
        · exact Sl
      · repeat(first|refine Sc ?_|refine fun(_:Nat)=>?_)
        refine ⟨by simp, ?_⟩
        repeat(first|refine Sc ?_|refine fun(_:Nat)=>?_)
        refine ⟨by simp; omega, ?_⟩
        repeat(first|refine Sc ?_|refine fun(_:Nat)=>?_)
        rename_i g' C'
        refine fun r hr => ?_
        obtain rfl := add1 hr (by omega)
        repeat(first|refine Sc ?_|refine fun(_:Nat)=>?_)
        refine Cont.lpW ?_
        refine ⟨l.length - (i + 1), _, _, by omega, Weak.sel ?_ [0, 1, 2, 3] (by decide) ?_, ⟨i + 1, _, .sl 3 g' C' (((endC l s i).map encC).length + 1), g', .row tC 4 C' ((endC l s i).map encC ++ [encC (goneC x)]), rfl, by omega, f4, e2.symm ▸ LN.snoc, rfl, rfl⟩⟩
        · exact Ss
        · exact Sl
    · have ho : ¬ x.o = s := ho
      obtain ⟨e1, e2⟩ := end_no ex ho
      repeat(first|refine Sc ?_|refine fun(_:Nat)=>?_)
      refine fun r hr => ?_
      obtain rfl := add1 hr (by omega)
      repeat(first|refine Sc ?_|refine fun(_:Nat)=>?_)
      refine Cont.lpW ?_
      refine ⟨l.length - (i + 1), _, _, by omega, Weak.sel ?_ [0, 1, 2, 3] (by decide) ?_, ⟨i + 1, es', v, gc, co, rfl, by omega, e1.symm ▸ hT', e2.symm ▸ hv, rfl, rfl⟩⟩
      · exact Ss
      · exact Sl
  · have h : ¬ (i : Int) < (l.length : Int) := h
    have e0 : i = l.length := by omega
    subst e0
    have e1 : endL l s l.length = (endF l s).1 := by rw [he]; unfold endL; rw [List.take_length, List.drop_length, List.append_nil]
    have e2 : endC l s l.length = (endF l s).2 := by rw [he]; unfold endC; rw [List.take_length]
    rw [e1] at hT'
    rw [e2] at hv
    rcases hv with ⟨e0, rfl, rfl⟩ | ⟨Cp, rfl, rfl⟩
    · repeat(first|refine Sc ?_|refine fun(_:Nat)=>?_)
      exact ⟨encCs (endF l s).2, _, FinOk.keep _ [0, 1] (by rw [e0]; exact Sub.nilsRo 4) (by decide) rfl, es', cl, hT', rfl, rfl⟩
    · repeat(first|refine Sc ?_|refine fun(_:Nat)=>?_)
      exact ⟨encCs (endF l s).2, _, FinOk.keepLend (r1 := encCs (endF l s).2) [0, 1] (by decide) (.row 3 gc Cp _ tC 4 _ rfl (by simp)) (Sub.refl _), es', cl, hT', rfl, rfl⟩
end Go.Proofs.YtcbjcmigecocgaaGreatDoor.HBT
/- What the laws of this seat share: how a script is read, what the listed variables give, the witness. -/
namespace Go.Proofs.YtcbjcmigecocgaaGreatDoor.HBT
open Go Go.Proofs.YtcbjcmigecocgaaGreatDoor.HB Go.Proofs.YtcbjcmigecocgaaGreatDoor Go.ChangeShapes Go.WideShapes Go.ChangeAt Go.RowKit Go.Lib
set_option maxRecDepth 8000

theorem int_arg {Z : Prop} {x : AV} (h : ArgOkZ Z Tryz.prog 3 x) : ∃ n, x = .int .i64 n := by
  obtain ⟨ys, h, rfl⟩ := h
  obtain ⟨n, _, rfl⟩ := h.int_inv Tryz.underlying3
  have ha : aggT Tryz.prog 3 = false := by kernel_rfl
  exact ⟨n, by rw [ha]; rfl⟩
theorem str_arg {Z : Prop} {x : AV} (h : ArgOkZ Z Tryz.prog 9 x) : ∃ s : ByteArray, s.size ≤ maxLen ∧ x = .str s := by
  obtain ⟨ys, h, rfl⟩ := h
  obtain ⟨s, hs, rfl⟩ := h.str_inv Tryz.underlying9
  have ha : aggT Tryz.prog 9 = false := by kernel_rfl
  exact ⟨s, hs, by rw [ha]; rfl⟩
theorem op_arg {Z : Prop} {ys : List AV} (h : CellsOkZ Z Tryz.prog 79 ys) : ∃ s : Opp, wrapC true ys = encO s := by
  obtain ⟨yss, hf, rfl⟩ := h.struct_inv Tryz.underlying79
  obtain ⟨y0, yss, rfl, h0, hf⟩ := hf.cons_inv
  obtain ⟨y1, yss, rfl, h1, hf⟩ := hf.cons_inv
  obtain ⟨y2, yss, rfl, h2, hf⟩ := hf.cons_inv
  obtain ⟨y3, yss, rfl, h3, hf⟩ := hf.cons_inv
  obtain ⟨y4, yss, rfl, h4, hf⟩ := hf.cons_inv
  obtain rfl := hf.nil_inv
  obtain ⟨k, _, rfl⟩ := h0.int_inv Tryz.underlying3
  obtain ⟨p, _, rfl⟩ := h1.str_inv Tryz.underlying9
  obtain ⟨q, _, rfl⟩ := h2.str_inv Tryz.underlying9
  obtain ⟨n, _, rfl⟩ := h3.int_inv Tryz.underlying3
  obtain ⟨m, _, rfl⟩ := h4.int_inv Tryz.underlying3
  exact ⟨⟨k, p, q, n, m⟩, rfl⟩
theorem own : ownKnob Tryz.prog.godebug = none := by kernel_rfl
theorem laidOut : laidOutB Tryz.prog = true := by kernel_rfl
def laid : List (String × DataW Unit) := [("math/bits.deBruijn32tab", Rows.laid_math_bits_deBruijn32tab), ("math/bits.deBruijn64tab", Rows.laid_math_bits_deBruijn64tab), ("internal/strconv.uint64pow10", Rows.laid_internal_strconv_uint64pow10), ("unicode/utf8.acceptRanges", Rows.laid_unicode_utf8_acceptRanges), ("herald/place.named", Rows.laid_herald_place_named), ("unicode/utf8.first", Rows.laid_unicode_utf8_first)]

theorem gNamed : Tryz.prog.globalNamed "herald/place.named" = some 0 := by kernel_rfl
theorem tNamed : (Tryz.prog.globals[0]?).map (·.type) = some 126 := by kernel_rfl
theorem named_tab : (Rows.laid_herald_place_named : DataW Unit) = tabData .u8 namedRow := by kernel_rfl
theorem tPow : (Tryz.prog.globals[4]?).map (·.type) = some 194 := by kernel_rfl
theorem pow_tab : (Rows.laid_internal_strconv_uint64pow10 : DataW Unit) = tabData .u64 pow10Tab := by kernel_rfl

theorem cells_of_shaped {P : Program} {w : World} {g : Nat} {t : TypeId} {zero : Array Value} (h : w.ShapedOpen P) (hg : g < P.globals.size)
    (h0 : ((begin P (fun _ _ => 0) default).world.heap[g]?).bind Obj.row? = some (zero, t)) : ∃ cs, w.heap[g]? = some (.cells cs t) ∧ cs.size = zero.size :=
  let ⟨cs, h1, h2, _⟩ := h.1 g zero t hg h0
  ⟨cs, h1, h2⟩

theorem G_of {W : World} (hL : laidMetH Tryz.prog laid W) (hs : W.ShapedOpen Tryz.prog) : G (fun g => g < W.heap.size) W := by
  rw [MakeChecks.laidMetH_plain _ _ _ (by kernel_rfl)] at hL
  have h0 : ∃ t fr, W.heap[0]? = some (.cells (namedRow.map (Value.int .u8)).toArray t fr) := by
    obtain ⟨g, t, cs, fuel, p, hg, hty, hvar, hd⟩ := laidMet.reads hL (List.Mem.tail _ (List.Mem.tail _ (List.Mem.tail _ (List.Mem.tail _ (List.Mem.head _)))))
    obtain rfl := Option.some.inj (gNamed.symm.trans hg)
    obtain rfl := Option.some.inj (tNamed.symm.trans hty)
    rw [named_tab] at hd
    have hcs := cells_of_tab Tryz.underlying126 Tryz.underlying5 (by kernel_rfl) (by kernel_rfl) hd
    have hcs : cs = (namedRow.map (Value.int .u8)).toArray := by rw [← hcs]
    simp only [World.var?, hg, Option.bind_some] at hvar
    split at hvar
    · rename_i c t fr hb
      cases hvar
      exact ⟨t, fr, by rw [hb, hcs]⟩
    · cases hvar
  have h2 : ∃ t fr, W.heap[4]? = some (.cells (pow10Tab.map (Value.int .u64)).toArray t fr) := by
    obtain ⟨g, t, cs, fuel, p, hg, hty, hvar, hd⟩ := laidMet.reads hL (List.Mem.tail _ (List.Mem.tail _ (List.Mem.head _)))
    obtain rfl := Option.some.inj (pow_named.symm.trans hg)
    obtain rfl := Option.some.inj (tPow.symm.trans hty)
    rw [pow_tab] at hd
    have hcs := cells_of_tab Tryz.underlying194 Tryz.underlying147 (by kernel_rfl) (by kernel_rfl) hd
    have hcs : cs = (pow10Tab.map (Value.int .u64)).toArray := by rw [← hcs]
    simp only [World.var?, hg, Option.bind_some] at hvar
    split at hvar
    · rename_i c t fr hb
      cases hvar
      exact ⟨t, fr, by rw [hb, hcs]⟩
    · cases hvar
  have h1 : ∃ m t fr, W.heap[1]? = some (.cells #[.int .i64 m] t fr) := by
    obtain ⟨m, hm⟩ := cell_of_shapedOpen_int (k := .i64) (g := 1) (t := 3) (zero := #[.int .i64 0]) hs (of_decide_eq_true (by kernel_rfl)) (by kernel_rfl) rfl (by kernel_rfl) (by kernel_rfl) Tryz.underlying3
    obtain ⟨cs, h1, h2⟩ := cells_of_shaped (g := 1) (t := 3) (zero := #[.int .i64 0]) hs (of_decide_eq_true (by kernel_rfl)) (by kernel_rfl)
    refine ⟨m, 3, (0, 0), ?_⟩
    rw [h1]
    have h3 : cs[0]? = some (.int .i64 m) := by
      unfold World.cell? at hm
      rw [h1] at hm
      simpa using hm
    have : cs = #[.int .i64 m] := by
      apply Array.toList_inj.1
      obtain ⟨l⟩ := cs
      match l, h2, h3 with
      | [x], _, h3 => simp at h3; rw [h3]
    rw [this]
  have lt : ∀ {g : Nat} {o : Obj}, W.heap[g]? = some o → g < W.heap.size := fun h => (Array.getElem?_eq_some_iff.1 h).1
  obtain ⟨t, fr, e0⟩ := h0
  obtain ⟨m, t', fr', e1⟩ := h1
  obtain ⟨t2, fr2, e2⟩ := h2
  exact ⟨lt e0, lt e1, ⟨t, fr, e0⟩, ⟨m, t', fr', e1⟩, lt e2, t2, fr2, e2⟩

theorem door_met (os : Os) (args : Array Value) : laidMetH Tryz.prog laid ((World.laidAll Tryz.prog os laid).forCall (fun _ _ => 0) ⟨#[], args, []⟩).memory := by
  rw [MakeChecks.laidMetH_plain _ _ _ (by kernel_rfl)]
  exact laidMet_laidAll _ (by kernel_rfl) (by kernel_rfl)
theorem door_shape (os : Os) (args : Array Value) : ((World.laidAll Tryz.prog os laid).forCall (fun _ _ => 0) ⟨#[], args, []⟩).Shaped Tryz.prog := World.shaped_of_ZipB (by kernel_rfl) (by kernel_rfl)

end Go.Proofs.YtcbjcmigecocgaaGreatDoor.HBT
