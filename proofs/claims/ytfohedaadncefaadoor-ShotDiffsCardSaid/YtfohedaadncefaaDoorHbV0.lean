/- What the door seat's laws share: how a shot is read, what the listed variables give, the witness. -/
import Derived.Test.YtfohedaadncefaaDoorHbU
import Derived.Test.YtfohedaadncefaaDoorHbD9
import Derived.Test.YtfohedaadncefaaDoorRows
import Derived.Lib.LaidU8
import Derived.Shelf.Vars
import Derived.Lay
import Derived.MakeChecks
namespace Go.Proofs.YtfohedaadncefaaDoor.HBT
open Go Go.Proofs.YtfohedaadncefaaDoor.HB Go.Proofs.YtfohedaadncefaaDoor Go.ChangeShapes Go.WideShapes Go.ChangeAt Go.RowKit Go.Lib
set_option maxRecDepth 8000

theorem seen_arg {ys : List AV} (h : CellsOk Tryd.prog 50 ys) : ∃ s : { s : Sn // s.p.size ≤ maxLen }, wrapC true ys = enc s.1 := by
  obtain ⟨yss, hf, rfl⟩ := h.struct_inv Tryd.underlying50
  obtain ⟨y0, yss, rfl, h0, hf⟩ := hf.cons_inv
  obtain ⟨y1, yss, rfl, h1, hf⟩ := hf.cons_inv
  obtain ⟨y2, yss, rfl, h2, hf⟩ := hf.cons_inv
  obtain rfl := hf.nil_inv
  obtain ⟨p, hp, rfl⟩ := h0.str_inv Tryd.underlying9
  obtain ⟨q, _, rfl⟩ := h1.str_inv Tryd.underlying9
  obtain ⟨n, _, rfl⟩ := h2.int_inv Tryd.underlying3
  exact ⟨⟨⟨p, q, n⟩, hp⟩, rfl⟩

theorem shot_arg {x : AV} (h : ArgOk Tryd.prog 24 x) : ∃ st pl kd xs n, n ≤ xs.length ∧ (∀ x ∈ xs, x.p.size ≤ 9223372036854775807) ∧ pl.size ≤ maxLen ∧ x = shot st pl kd (rdo xs n) := by
  obtain ⟨ys, h, rfl⟩ := h
  obtain ⟨yss, hf, rfl⟩ := h.struct_inv Tryd.underlying24
  obtain ⟨y0, yss, rfl, h0, hf⟩ := hf.cons_inv
  obtain ⟨y1, yss, rfl, h1, hf⟩ := hf.cons_inv
  obtain ⟨y2, yss, rfl, h2, hf⟩ := hf.cons_inv
  obtain ⟨y3, yss, rfl, h3, hf⟩ := hf.cons_inv
  obtain rfl := hf.nil_inv
  obtain ⟨st, _, rfl⟩ := h0.int_inv Tryd.underlying3
  obtain ⟨pl, hpl, rfl⟩ := h1.str_inv Tryd.underlying9
  obtain ⟨kd, _, rfl⟩ := h2.int_inv Tryd.underlying3
  obtain ⟨xss, n, hn, _, hx, rfl⟩ := h3.slice_inv Tryd.underlying22
  have ha : aggT Tryd.prog 50 = true := by kernel_rfl
  have hc : Tryd.prog.cellsOf 50 = 3 := by kernel_rfl
  have ha2 : aggT Tryd.prog 24 = true := by kernel_rfl
  obtain ⟨l, hl, hm⟩ := map_told (f := wrapC true) (g := fun s : { s : Sn // s.p.size ≤ maxLen } => enc s.1) (fun c hc => seen_arg (hx c hc))
  refine ⟨st, pl, kd, l.map (·.1), n, by simp; omega, ?_, hpl, ?_⟩
  · intro x hx
    obtain ⟨y, _, rfl⟩ := List.mem_map.1 hx
    exact Nat.le_trans y.2 (by decide)
  · have hm2 : l.map (fun s : { s : Sn // s.p.size ≤ maxLen } => enc s.1) = (l.map (·.1)).map enc := by rw [List.map_map]; rfl
    rw [ha, hc, ha2, hm, hm2]
    rfl

theorem own : ownKnob Tryd.prog.godebug = none := by kernel_rfl
theorem laidOut : laidOutB Tryd.prog = true := by kernel_rfl
def laid : List (String × DataW Unit) := [("unicode/utf8.acceptRanges", Rows.laid_unicode_utf8_acceptRanges), ("herald/place.named", Rows.laid_herald_place_named), ("unicode/utf8.first", Rows.laid_unicode_utf8_first)]

theorem gNamed : Tryd.prog.globalNamed "herald/place.named" = some 0 := by kernel_rfl
theorem tNamed : (Tryd.prog.globals[0]?).map (·.type) = some 138 := by kernel_rfl
theorem named_tab : (Rows.laid_herald_place_named : DataW Unit) = tabData .u8 namedRow := by kernel_rfl

theorem cells_of_shaped {P : Program} {w : World} {g : Nat} {t : TypeId} {zero : Array Value} (h : w.ShapedOpen P) (hg : g < P.globals.size)
    (h0 : ((begin P (fun _ _ => 0) default).world.heap[g]?).bind Obj.row? = some (zero, t)) : ∃ cs, w.heap[g]? = some (.cells cs t) ∧ cs.size = zero.size :=
  let ⟨cs, h1, h2, _⟩ := h.1 g zero t hg h0
  ⟨cs, h1, h2⟩

theorem G_of {W : World} (hL : laidMetH Tryd.prog laid W) (hs : W.ShapedOpen Tryd.prog) : G (fun g => g < W.heap.size) W := by
  rw [MakeChecks.laidMetH_plain _ _ _ (by kernel_rfl)] at hL
  obtain ⟨g, t, cs, fuel, p, hg, hty, hvar, hd⟩ := laidMet.reads hL (List.Mem.tail _ (List.Mem.head _))
  obtain rfl := Option.some.inj (gNamed.symm.trans hg)
  obtain rfl := Option.some.inj (tNamed.symm.trans hty)
  rw [named_tab] at hd
  have hcs := cells_of_tab Tryd.underlying138 Tryd.underlying5 (by kernel_rfl) (by kernel_rfl) hd
  have hcs : cs = (namedRow.map (Value.int .u8)).toArray := by rw [← hcs]
  have h0 : ∃ t fr, W.heap[0]? = some (.cells (namedRow.map (Value.int .u8)).toArray t fr) := by
    simp only [World.var?, hg, Option.bind_some] at hvar
    split at hvar
    · rename_i c t fr hb
      cases hvar
      exact ⟨t, fr, by rw [hb, hcs]⟩
    · cases hvar
  have h1 : ∃ m t fr, W.heap[1]? = some (.cells #[.int .i64 m] t fr) := by
    obtain ⟨m, hm⟩ := cell_of_shapedOpen_int (k := .i64) (g := 1) (t := 3) (zero := #[.int .i64 0]) hs (of_decide_eq_true (by kernel_rfl)) (by kernel_rfl) rfl (by kernel_rfl) (by kernel_rfl) Tryd.underlying3
    obtain ⟨cs, h1, h2⟩ := cells_of_shaped (g := 1) (t := 3) (zero := #[.int .i64 0]) hs (of_decide_eq_true (by kernel_rfl)) (by kernel_rfl)
    refine ⟨m, 3, (0, 0), ?_⟩
    rw [h1]
    have h3 : cs[0]? = some (.int .i64 m) := by
      unfold World.cell? at hm
      rw [h1] at hm
      simpa using hm
    have : cs = #[.int .i64 m] := by
      apply Array.toList_inj.1
      obtain ⟨l⟩ := cs
      match l, h2, h3 with
      | [x], _, h3 => simp at h3; rw [h3]
    rw [this]
  have lt : ∀ {g : Nat} {o : Obj}, W.heap[g]? = some o → g < W.heap.size := fun h => (Array.getElem?_eq_some_iff.1 h).1
  obtain ⟨t, fr, e0⟩ := h0
  obtain ⟨m, t', fr', e1⟩ := h1
  exact ⟨lt e0, lt e1, ⟨t, fr, e0⟩, m, t', fr', e1⟩

/-- The witness meets the condition. -/
theorem door_met (os : Os) (args : Array Value) : laidMetH Tryd.prog laid ((World.laidAll Tryd.prog os laid).forCall (fun _ _ => 0) ⟨#[], args, []⟩).memory := by
  rw [MakeChecks.laidMetH_plain _ _ _ (by kernel_rfl)]
  exact laidMet_laidAll _ (by kernel_rfl) (by kernel_rfl)
theorem door_shape (os : Os) (args : Array Value) : ((World.laidAll Tryd.prog os laid).forCall (fun _ _ => 0) ⟨#[], args, []⟩).Shaped Tryd.prog := World.shaped_of_ZipB (by kernel_rfl) (by kernel_rfl)

end Go.Proofs.YtfohedaadncefaaDoor.HBT
