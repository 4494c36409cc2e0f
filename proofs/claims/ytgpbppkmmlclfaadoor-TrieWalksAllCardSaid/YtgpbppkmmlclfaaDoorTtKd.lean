/- What Match answers, plainly. -/
import Derived.Test.YtgpbppkmmlclfaaDoorTtKb
import Derived.Test.YtgpbppkmmlclfaaDoorTtK8
import Derived.Test.YtgpbppkmmlclfaaDoorHbP
import Derived.Test.YtgpbppkmmlclfaaDoorRows
import Derived.Lib.LaidU8
import Derived.Shelf.Vars
import Derived.Lay
import Derived.MakeChecks
set_option linter.unusedVariables false
set_option linter.unusedSimpArgs false
namespace Go.Proofs.YtgpbppkmmlclfaaDoor.HBT
open Go Go.Proofs.YtgpbppkmmlclfaaDoor.HB Go.RowKit
set_option maxRecDepth 8000

open Classical in
noncomputable def preN (ns : List ByteArray) (l : NL) : List On := (l.filter fun x => decide (x.1 <+: ns)).map (·.2)
theorem preN_nil : ∀ l : NL, preN [] l = hereN l
  | [] => rfl
  | ([], o) :: l => by
    have ih := preN_nil l
    unfold preN at ih ⊢
    rw [List.filter_cons_of_pos (by simp), List.map_cons, ih]; rfl
  | (m :: r, o) :: l => by
    have ih := preN_nil l
    unfold preN at ih ⊢
    rw [List.filter_cons_of_neg (by simp), ih]; rfl
theorem preN_cons (n : ByteArray) (r : List ByteArray) : ∀ l : NL, (hereN l ++ preN r (belowN l n)).Perm (preN (n :: r) l)
  | [] => List.Perm.refl _
  | ([], o) :: l => by
    have ih := preN_cons n r l
    rw [here_0, below_0]
    unfold preN at ih ⊢
    rw [List.filter_cons_of_pos (a := (([] : List ByteArray), o)) (by simp), List.map_cons, List.cons_append]
    exact ih.cons o
  | (m :: t, o) :: l => by
    have ih := preN_cons n r l
    rw [here_C]
    by_cases e : m = n
    · subst e
      rw [below_C]
      unfold preN at ih ⊢
      by_cases e2 : t <+: r
      · rw [List.filter_cons_of_pos (by simpa using e2), List.filter_cons_of_pos (a := (m :: t, o)) (by simpa using e2), List.map_cons, List.map_cons]
        exact List.perm_middle.trans (ih.cons o)
      · rw [List.filter_cons_of_neg (by simpa using e2), List.filter_cons_of_neg (a := (m :: t, o)) (by simpa using e2)]
        exact ih
    · rw [below_F e]
      unfold preN at ih ⊢
      rw [List.filter_cons_of_neg (a := (m :: t, o)) (by simp [e])]
      exact ih
theorem pathN_perm : ∀ (ns : List ByteArray) (l : NL), (pathN l ns).Perm (preN ns l)
  | [], l => by rw [preN_nil]; exact List.Perm.refl _
  | n :: r, l => (List.Perm.append_left _ (pathN_perm r (belowN l n))).trans (preN_cons n r l)
theorem begins_pre {c w : List ByteArray} (h : beginsP c w) : w <+: c := by
  refine ⟨c.drop w.length, List.ext_getElem? fun i => ?_⟩
  rcases Nat.lt_or_ge i w.length with hi | hi
  · rw [List.getElem?_append_left hi, h.2 i hi]
  · rw [List.getElem?_append_right hi, List.getElem?_drop]
    congr 1; omega
theorem tagged_pre (st k : Int) (p : ByteArray) : ∀ ons : List On, tagged (preN (namesOf p) (nlO ons)) st k p = tagged ons st k p
  | [] => rfl
  | o :: ons => by
    have ih := tagged_pre st k p ons
    unfold nlO at ih ⊢
    rw [List.map_cons]
    by_cases e : namesOf o.w.p <+: namesOf p
    · have e1 : preN (namesOf p) ((namesOf o.w.p, o) :: ons.map fun o => (namesOf o.w.p, o)) = o :: preN (namesOf p) (ons.map fun o => (namesOf o.w.p, o)) := by
        unfold preN
        rw [List.filter_cons_of_pos (by simpa using e)]; rfl
      rw [e1]
      have e2 := tagged_app [o] (preN (namesOf p) (ons.map fun o => (namesOf o.w.p, o))) st k p
      have e3 := tagged_app [o] ons st k p
      rw [List.singleton_append] at e2 e3
      rw [e2, e3, ih]
    · have e1 : preN (namesOf p) ((namesOf o.w.p, o) :: ons.map fun o => (namesOf o.w.p, o)) = preN (namesOf p) (ons.map fun o => (namesOf o.w.p, o)) := by
        unfold preN
        rw [List.filter_cons_of_neg (by simpa using e)]
      rw [e1, ih]
      have hn : ¬ coversO st k p o := fun h => e (begins_pre h.2.2.2.2.2.1)
      unfold tagged
      rw [List.filter_cons_of_neg (by simpa using hn)]
theorem tagged_bad {p : ByteArray} (h : parseE p ≠ 0) (st k : Int) (ons : List On) : tagged ons st k p = [] := by
  unfold tagged
  rw [List.filter_eq_nil_iff.2 (fun o _ => by
    have : ¬ coversO st k p o := fun e => h e.2.2.1
    simpa using this)]
  rfl
theorem matchTr_spec (ons : List On) (gt : Nat) (H : AHeap) (hT : IsTr ons gt H) (hn : ons.length ≤ 200) (st k : Int) (p d : ByteArray) (v : Int) :
    FnSpec C 10 [.ptr 0 gt 0, .int .i64 st, chA k p d v] [(0, boxL H)] (fun r L' => ∃ ys g o, LN encG tG 2 1 ys r g o ∧ ys.Perm (tagged ons st k p) ∧ ys.Pairwise (fun a b => ¬ cfT b a < 0) ∧ L' = [(0, boxL H), (g, o)]) := by
  obtain ⟨S, l, hS, hl, hok, hs⟩ := hT
  have hlen : l.length = ons.length := by rw [hl.length_eq]; unfold nlO; rw [List.length_map]
  refine (match_spec S l gt H hS (by omega) st k p d v).post ?_
  rintro r L' ⟨ys, g, o, h1, h2, h3, rfl⟩
  refine ⟨_, _, Sub.refl _, Imp.refl _, ys, g, o, h1, ?_, h3, rfl⟩
  by_cases hp : parseE p = 0
  · rw [if_pos hp] at h2
    refine h2.trans ?_
    rw [← tagged_pre st k p ons]
    exact tagged_perm ((pathN_perm _ _).trans ((hl.filter _).map _)) st k p
  · rw [if_neg hp] at h2
    rw [tagged_bad hp]; exact h2
end Go.Proofs.YtgpbppkmmlclfaaDoor.HBT
/- A trie is laid out of a list of watches. -/
namespace Go.Proofs.YtgpbppkmmlclfaaDoor.HBT
open Go Go.Proofs.YtgpbppkmmlclfaaDoor.HB Go.RowKit
set_option maxRecDepth 8000

abbrev tSe : TypeId := 34
abbrev rdS (xs : List On) (n : Nat) : AV := .ro 5 (xs.map encH) n
def layO (xs : List On) : List On := xs.foldl (fun ons x => addedO ons x.s x.w) []
theorem lay_snoc (xs : List On) (x : On) : layO (xs ++ [x]) = addedO (layO xs) x.s x.w := by
  unfold layO; rw [List.foldl_append]; rfl
theorem added_len (ons : List On) (s : Int) (w : Wt) : (addedO ons s w).length ≤ ons.length + 1 := by
  unfold addedO; split <;> simp
theorem layO_len (xs : List On) : (layO xs).length ≤ xs.length := by
  have : ∀ (xs : List On) (a : List On), (xs.foldl (fun ons x => addedO ons x.s x.w) a).length ≤ a.length + xs.length := by
    intro xs
    induction xs with
    | nil => intro a; simp
    | cons x xs ih =>
      intro a
      have h1 := ih (addedO a x.s x.w)
      have h2 := added_len a x.s x.w
      rw [List.foldl_cons, List.length_cons]; omega
  have := this xs []
  unfold layO; simpa using this
set_option maxHeartbeats 4000000 in
theorem laid_spec (xs : List On) (n : Nat) (hn : n ≤ xs.length) : FnSpec C 9 [rdS xs n] [] (fun r L' => ∃ gt H lv gl lo, IsTr (layO (xs.take (min n 60))) gt H ∧ LN encH tSe 5 1 (layO (xs.take (min n 60))) lv gl lo ∧ r = .tuple [.ptr 0 gt 0, lv] ∧ L' = [(0, boxL H), (gl, lo)]) := by
  refine FnSpec.start C_ok Tryd.func9 rfl rfl Tryd.ntmps9 ?_
  repeat(first|refine Sc ?_|refine fun(_:Nat)=>?_)
  refine ACallT.ok (ACall.pure _ newTr_spec ?_)
  rintro r L' ⟨gt, H, hT, rfl, rfl⟩
  refine ⟨_, Sub.refl _, ?_⟩
  repeat(first|refine Sc ?_|refine fun(_:Nat)=>?_)
  refine Run.loopW (fun m env L => ∃ (i : Nat) (H : AHeap) (lv : AV) (gl : Nat) (lo : AObj), m = 61 - i ∧ i ≤ 60 ∧ i ≤ n ∧ IsTr (layO (xs.take i)) gt H ∧ LN encH tSe 5 1 (layO (xs.take i)) lv gl lo ∧ env = [rdS xs n, .junk, .nilp, .nils, .ptr 0 gt 0, lv, .int .i64 i, .junk, .junk, .junk, .junk, .junk, .junk, .junk, .junk, .junk, .junk, .junk, .junk, .junk, .junk, .junk, .junk, .junk, .junk, .junk, .junk, .junk, .junk, .junk, .junk, .junk, .junk, .junk, .junk, .junk, .junk, .junk, .junk, .junk, .junk, .junk] ∧ L = [(0, boxL H), (gl, lo)]) 61
    [rdS xs n, .junk, .nilp, .nils, .ptr 0 gt 0, .nils, .int .i64 (0 : Nat), .junk, .junk, .junk, .junk, .junk, .junk, .junk, .junk, .junk, .junk, .junk, .junk, .junk, .junk, .junk, .junk, .junk, .junk, .junk, .junk, .junk, .junk, .junk, .junk, .junk, .junk, .junk, .junk, .junk, .junk, .junk, .junk, .junk, .junk, .junk] [(0, boxL H), (0, .dead)] (Weak.sel ?_ [0, 9] (by decide) ?_) ⟨0, H, .nils, 0, .dead, by omega, by omega, by omega, hT, .inl ⟨rfl, rfl, rfl⟩, rfl, rfl⟩ ?_
  · exact Ss
  · exact Sl
  clear hT H
  rintro m env L ⟨i, H, lv, gl, lo, rfl, h60, hin, hT, hlv, rfl, rfl⟩
  have hfin : ¬ ((i : Int) < (n : Int) ∧ (i : Int) < 60) → i = min n 60 := fun h => by omega
  have hll : (layO (xs.take i)).length ≤ 60 := by have := layO_len (xs.take i); rw [List.length_take] at this; omega
  repeat(first|refine Sc ?_|refine fun(_:Nat)=>?_)
  refine ⟨fun h => ?_, fun h => ?_⟩
  rotate_left
  · have e := hfin (fun e => h e.1)
    repeat(first|refine Sc ?_|refine fun(_:Nat)=>?_)
    rw [e] at hT hlv
    exact ⟨.tuple [.ptr 0 gt 0, lv], _, FinOk.keep _ [0, 1] (Sub.refl _) (by decide) rfl, gt, H, lv, gl, lo, hT, hlv, rfl, rfl⟩
  have h : (i : Int) < (n : Int) := h
  repeat(first|refine Sc ?_|refine fun(_:Nat)=>?_)
  refine ⟨fun h2 => ?_, fun h2 => ?_⟩
  rotate_left
  · have e := hfin (fun e => h2 e.2)
    repeat(first|refine Sc ?_|refine fun(_:Nat)=>?_)
    rw [e] at hT hlv
    exact ⟨.tuple [.ptr 0 gt 0, lv], _, FinOk.keep _ [0, 1] (Sub.refl _) (by decide) rfl, gt, H, lv, gl, lo, hT, hlv, rfl, rfl⟩
  have h2 : (i : Int) < 60 := h2
  obtain ⟨x, ex⟩ : ∃ x, xs[i]? = some x := ⟨_, List.getElem?_eq_getElem (by omega)⟩
  have hmore : xs.take (i + 1) = xs.take i ++ [x] := by rw [List.take_add_one, ex]; rfl
  repeat(first|refine Sc ?_|refine fun(_:Nat)=>?_)
  refine Run.drawnK C_ok (aopC_sound C_ok) [] [0, 1, 2, 3, 4, 5, 6, 7, 8, 9, 10, 11, 12] (by kernel_rfl) ?_
  repeat(first|refine Sc ?_|refine fun(_:Nat)=>?_)
  refine ⟨h, encH x, map_at encH ex, ?_⟩
  repeat(first|refine Sc ?_|refine fun(_:Nat)=>?_)
  refine ⟨h, encH x, map_at encH ex, ?_⟩
  repeat(first|refine Sc ?_|refine fun(_:Nat)=>?_)
  refine ACallT.ok (ACall.sel [0] (by decide) [.ptr 0 gt 0, .int .i64 x.s, encW x.w] _ ⟨Sub.refl _, Sub.refl _, Sub.refl _, trivial⟩ (addT_spec _ gt H hT (by omega) x.s x.w) ?_)
  rintro r L' ⟨H', rfl, hT', rfl⟩
  refine ⟨_, Sub.refl _, ?_⟩
  repeat(first|refine Sc ?_|refine fun(_:Nat)=>?_)
  refine ⟨fun h3 => ?_, fun h3 => ?_⟩
  · have h3 : addO (layO (xs.take i)) x.s x.w = 0 := h3
    have e : layO (xs.take (i + 1)) = layO (xs.take i) ++ [x] := by rw [hmore, lay_snoc]; unfold addedO; rw [if_pos h3]
    repeat(first|refine Sc ?_|refine fun(_:Nat)=>?_)
    refine ⟨h, encH x, map_at encH ex, ?_⟩
    repeat(first|refine Sc ?_|refine fun(_:Nat)=>?_)
    rcases hlv with ⟨e0, rfl, rfl⟩ | ⟨Cp, rfl, rfl⟩
    · repeat(first|refine Sc ?_|refine fun(_:Nat)=>?_)
      refine ⟨fun h => absurd h (List.cons_ne_nil _ _), fun _ => ?_⟩
      repeat(first|refine Sc ?_|refine fun(_:Nat)=>?_)
      rename_i g' Cp'
      refine fun r hr => ?_
      obtain rfl := add1 hr (by omega)
      repeat(first|refine Sc ?_|refine fun(_:Nat)=>?_)
      refine Cont.lpW ?_
      refine ⟨61 - (i + 1), _, _, by omega, Weak.sel ?_ [0, 3] (by decide) ?_, ⟨i + 1, H', .sl 1 g' Cp' 1, g', _, rfl, by omega, by omega, by rw [hmore, lay_snoc]; exact hT', by rw [e]; exact LN1 _ e0, rfl, rfl⟩⟩
      · exact Ss
      · exact Sl
    · repeat(first|refine Sc ?_|refine fun(_:Nat)=>?_)
      refine ⟨by simp, ?_⟩
      repeat(first|refine Sc ?_|refine fun(_:Nat)=>?_)
      refine ⟨by show (_ + 1) * _ ≤ _; rw [List.length_map]; omega, ?_⟩
      repeat(first|refine Sc ?_|refine fun(_:Nat)=>?_)
      rename_i g' Cp'
      refine fun r hr => ?_
      obtain rfl := add1 hr (by omega)
      repeat(first|refine Sc ?_|refine fun(_:Nat)=>?_)
      refine Cont.lpW ?_
      refine ⟨61 - (i + 1), _, _, by omega, Weak.sel ?_ [0, 1] (by decide) ?_, ⟨i + 1, H', .sl 1 g' Cp' (((layO (xs.take i)).map encH).length + 1), g', _, rfl, by omega, by omega, by rw [hmore, lay_snoc]; exact hT', by rw [e]; exact LN2 _, rfl, rfl⟩⟩
      · exact Ss
      · exact Sl
  · have h3 : ¬ addO (layO (xs.take i)) x.s x.w = 0 := h3
    have e : layO (xs.take (i + 1)) = layO (xs.take i) := by rw [hmore, lay_snoc]; unfold addedO; rw [if_neg h3]
    repeat(first|refine Sc ?_|refine fun(_:Nat)=>?_)
    refine fun r hr => ?_
    obtain rfl := add1 hr (by omega)
    repeat(first|refine Sc ?_|refine fun(_:Nat)=>?_)
    refine Cont.lpW ?_
    refine ⟨61 - (i + 1), _, _, by omega, Weak.sel ?_ [0, 1] (by decide) ?_, ⟨i + 1, H', lv, gl, _, rfl, by omega, by omega, by rw [hmore, lay_snoc]; exact hT', by rw [e]; exact hlv, rfl, rfl⟩⟩
    · exact Ss
    · exact Sl
end Go.Proofs.YtgpbppkmmlclfaaDoor.HBT
/- What the laws of this seat share: how lists of watches are read, what the listed variables give, the witness. -/
namespace Go.Proofs.YtgpbppkmmlclfaaDoor.HBT
open Go Go.Proofs.YtgpbppkmmlclfaaDoor.HB Go.Proofs.YtgpbppkmmlclfaaDoor Go.ChangeShapes Go.WideShapes Go.ChangeAt Go.RowKit Go.Lib
set_option maxRecDepth 8000

theorem int_arg {Z : Prop} {x : AV} (h : ArgOkZ Z Tryd.prog 3 x) : ∃ n, x = .int .i64 n := by
  obtain ⟨ys, h, rfl⟩ := h
  obtain ⟨n, _, rfl⟩ := h.int_inv Tryd.underlying3
  have ha : aggT Tryd.prog 3 = false := by kernel_rfl
  exact ⟨n, by rw [ha]; rfl⟩
theorem bool_arg {Z : Prop} {x : AV} (h : ArgOkZ Z Tryd.prog 4 x) : ∃ b, x = .bool b := by
  obtain ⟨ys, h, rfl⟩ := h
  obtain ⟨n, rfl⟩ := h.bool_inv Tryd.underlying4
  have ha : aggT Tryd.prog 4 = false := by kernel_rfl
  exact ⟨n, by rw [ha]; rfl⟩
theorem watch_arg {Z : Prop} {ys : List AV} (h : CellsOkZ Z Tryd.prog 32 ys) : ∃ w : Wt, ys = [.int .i64 w.id, .str w.p, .int .i64 w.k, .int .i64 w.f] := by
  obtain ⟨yss, hf, rfl⟩ := h.struct_inv Tryd.underlying32
  obtain ⟨y0, yss, rfl, h0, hf⟩ := hf.cons_inv
  obtain ⟨y1, yss, rfl, h1, hf⟩ := hf.cons_inv
  obtain ⟨y2, yss, rfl, h2, hf⟩ := hf.cons_inv
  obtain ⟨y3, yss, rfl, h3, hf⟩ := hf.cons_inv
  obtain rfl := hf.nil_inv
  obtain ⟨i, _, rfl⟩ := h0.int_inv Tryd.underlying3
  obtain ⟨p, _, rfl⟩ := h1.str_inv Tryd.underlying9
  obtain ⟨k, _, rfl⟩ := h2.int_inv Tryd.underlying3
  obtain ⟨f, _, rfl⟩ := h3.int_inv Tryd.underlying3
  exact ⟨⟨i, p, k, f⟩, rfl⟩
theorem seat_arg {Z : Prop} {ys : List AV} (h : CellsOkZ Z Tryd.prog 34 ys) : ∃ s : On, wrapC true ys = encH s := by
  obtain ⟨yss, hf, rfl⟩ := h.struct_inv Tryd.underlying34
  obtain ⟨y0, yss, rfl, h0, hf⟩ := hf.cons_inv
  obtain ⟨y1, yss, rfl, h1, hf⟩ := hf.cons_inv
  obtain rfl := hf.nil_inv
  obtain ⟨s, _, rfl⟩ := h0.int_inv Tryd.underlying3
  obtain ⟨w, rfl⟩ := watch_arg h1
  exact ⟨⟨s, w⟩, rfl⟩
theorem seats_arg {Z : Prop} {x : AV} (h : ArgOkZ Z Tryd.prog 22 x) : ∃ xs n, n ≤ xs.length ∧ x = rdS xs n := by
  obtain ⟨ys, h, rfl⟩ := h
  obtain ⟨xss, n, hn, _, hx, rfl⟩ := h.slice_inv Tryd.underlying22
  have ha : aggT Tryd.prog 34 = true := by kernel_rfl
  have hc : Tryd.prog.cellsOf 34 = 5 := by kernel_rfl
  have ha2 : aggT Tryd.prog 22 = false := by kernel_rfl
  obtain ⟨l, hl, hm⟩ := map_told (f := wrapC true) (g := encH) (fun c hc => seat_arg (hx c hc))
  refine ⟨l, n, by omega, ?_⟩
  rw [ha, hc, ha2, hm]
  rfl
theorem change_arg {Z : Prop} {x : AV} (h : ArgOkZ Z Tryd.prog 24 x) : ∃ k p d v, x = chA k p d v := by
  obtain ⟨ys, h, rfl⟩ := h
  have ha : aggT Tryd.prog 24 = true := by kernel_rfl
  obtain ⟨yss, hf, rfl⟩ := h.struct_inv Tryd.underlying24
  obtain ⟨y0, yss, rfl, h0, hf⟩ := hf.cons_inv
  obtain ⟨y1, yss, rfl, h1, hf⟩ := hf.cons_inv
  obtain ⟨y2, yss, rfl, h2, hf⟩ := hf.cons_inv
  obtain ⟨y3, yss, rfl, h3, hf⟩ := hf.cons_inv
  obtain rfl := hf.nil_inv
  obtain ⟨k, _, rfl⟩ := h0.int_inv Tryd.underlying3
  obtain ⟨p, _, rfl⟩ := h1.str_inv Tryd.underlying9
  obtain ⟨d, _, rfl⟩ := h2.str_inv Tryd.underlying9
  obtain ⟨v, _, rfl⟩ := h3.int_inv Tryd.underlying3
  exact ⟨k, p, d, v, by rw [ha]; rfl⟩
theorem own : ownKnob Tryd.prog.godebug = none := by kernel_rfl
theorem laidOut : laidOutB Tryd.prog = true := by kernel_rfl
def laid : List (String × DataW Unit) := [("unicode/utf8.acceptRanges", Rows.laid_unicode_utf8_acceptRanges), ("herald/place.named", Rows.laid_herald_place_named), ("unicode/utf8.first", Rows.laid_unicode_utf8_first)]

theorem gNamed : Tryd.prog.globalNamed "herald/place.named" = some 0 := by kernel_rfl
theorem tNamed : (Tryd.prog.globals[0]?).map (·.type) = some 110 := by kernel_rfl
theorem named_tab : (Rows.laid_herald_place_named : DataW Unit) = tabData .u8 namedRow := by kernel_rfl

theorem cells_of_shaped {P : Program} {w : World} {g : Nat} {t : TypeId} {zero : Array Value} (h : w.ShapedOpen P) (hg : g < P.globals.size)
    (h0 : ((begin P (fun _ _ => 0) default).world.heap[g]?).bind Obj.row? = some (zero, t)) : ∃ cs, w.heap[g]? = some (.cells cs t) ∧ cs.size = zero.size :=
  let ⟨cs, h1, h2, _⟩ := h.1 g zero t hg h0
  ⟨cs, h1, h2⟩

theorem G_of {W : World} (hL : laidMetH Tryd.prog laid W) (hs : W.ShapedOpen Tryd.prog) : G (fun g => g < W.heap.size) W := by
  rw [MakeChecks.laidMetH_plain _ _ _ (by kernel_rfl)] at hL
  have h0 : ∃ t fr, W.heap[0]? = some (.cells (namedRow.map (Value.int .u8)).toArray t fr) := by
    obtain ⟨g, t, cs, fuel, p, hg, hty, hvar, hd⟩ := laidMet.reads hL (List.Mem.tail _ (List.Mem.head _))
    obtain rfl := Option.some.inj (gNamed.symm.trans hg)
    obtain rfl := Option.some.inj (tNamed.symm.trans hty)
    rw [named_tab] at hd
    have hcs := cells_of_tab Tryd.underlying110 Tryd.underlying5 (by kernel_rfl) (by kernel_rfl) hd
    have hcs : cs = (namedRow.map (Value.int .u8)).toArray := by rw [← hcs]
    simp only [World.var?, hg, Option.bind_some] at hvar
    split at hvar
    · rename_i c t fr hb
      cases hvar
      exact ⟨t, fr, by rw [hb, hcs]⟩
    · cases hvar
  have h1 : ∃ m t fr, W.heap[1]? = some (.cells #[.int .i64 m] t fr) := by
    obtain ⟨m, hm⟩ := cell_of_shapedOpen_int (k := .i64) (g := 1) (t := 3) (zero := #[.int .i64 0]) hs (of_decide_eq_true (by kernel_rfl)) (by kernel_rfl) rfl (by kernel_rfl) (by kernel_rfl) Tryd.underlying3
    obtain ⟨cs, h1, h2⟩ := cells_of_shaped (g := 1) (t := 3) (zero := #[.int .i64 0]) hs (of_decide_eq_true (by kernel_rfl)) (by kernel_rfl)
    refine ⟨m, 3, (0, 0), ?_⟩
    rw [h1]
    have h3 : cs[0]? = some (.int .i64 m) := by
      unfold World.cell? at hm
      rw [h1] at hm
      simpa using hm
    have : cs = #[.int .i64 m] := by
      apply Array.toList_inj.1
      obtain ⟨l⟩ := cs
      match l, h2, h3 with
      | [x], _, h3 => simp at h3; rw [h3]
    rw [this]
  have lt : ∀ {g : Nat} {o : Obj}, W.heap[g]? = some o → g < W.heap.size := fun h => (Array.getElem?_eq_some_iff.1 h).1
  obtain ⟨t, fr, e0⟩ := h0
  obtain ⟨m, t', fr', e1⟩ := h1
  exact ⟨lt e0, lt e1, ⟨t, fr, e0⟩, m, t', fr', e1⟩

theorem door_met (os : Os) (args : Array Value) : laidMetH Tryd.prog laid ((World.laidAll Tryd.prog os laid).forCall (fun _ _ => 0) ⟨#[], args, []⟩).memory := by
  rw [MakeChecks.laidMetH_plain _ _ _ (by kernel_rfl)]
  exact laidMet_laidAll _ (by kernel_rfl) (by kernel_rfl)
theorem door_shape (os : Os) (args : Array Value) : ((World.laidAll Tryd.prog os laid).forCall (fun _ _ => 0) ⟨#[], args, []⟩).Shaped Tryd.prog := World.shaped_of_ZipB (by kernel_rfl) (by kernel_rfl)

end Go.Proofs.YtgpbppkmmlclfaaDoor.HBT
/- Lists of tags are held against one another. -/
namespace Go.Proofs.YtgpbppkmmlclfaaDoor.HBT
open Go Go.Proofs.YtgpbppkmmlclfaaDoor.HB Go.RowKit
set_option maxRecDepth 8000

abbrev rdG (xs : List Tg) : AV := .ro 2 (xs.map encG) xs.length
theorem sameTags_spec (a b : List Tg) (ha : a.length ≤ 1000) (hb : b.length ≤ 1000) : FnSpec C 17 [rdG a, rdG b] [] (fun r L' => r = .bool (decide (a = b)) ∧ L' = []) := by
  refine FnSpec.start C_ok Tryd.func17 rfl rfl Tryd.ntmps17 ?_
  repeat(first|refine Sc ?_|refine fun(_:Nat)=>?_)
  refine ⟨fun h => ?_, fun h => ?_⟩
  · have h : ¬ (a.length : Int) = (b.length : Int) := h
    repeat(first|refine Sc ?_|refine fun(_:Nat)=>?_)
    exact ⟨_, [], FinOk.drop _ _, congrArg AV.bool (decide_eq_false (p := a = b) fun e => h (by rw [e])).symm, rfl⟩
  have h : (a.length : Int) = (b.length : Int) := Decidable.of_not_not h
  have hl : a.length = b.length := by omega
  repeat(first|refine Sc ?_|refine fun(_:Nat)=>?_)
  refine Run.loop (fun m env L => ∃ i : Nat, m = a.length - i ∧ i ≤ a.length ∧ a.take i = b.take i ∧ env = [rdG a, rdG b, .junk, .junk, .bool false, .int .i64 i, .junk, .junk, .junk, .junk, .junk, .junk, .junk, .junk, .junk, .junk, .junk, .junk, .junk, .junk, .junk, .junk, .junk, .junk, .junk, .junk] ∧ L = []) a.length
    [rdG a, rdG b, .junk, .junk, .bool false, .int .i64 (0 : Nat), .junk, .junk, .junk, .junk, .junk, .junk, .junk, .junk, .junk, .junk, .junk, .junk, .junk, .junk, .junk, .junk, .junk, .junk, .junk, .junk] ?_ ⟨0, by omega, by omega, rfl, rfl, rfl⟩ ?_
  · repeat(first|exact trivial|refine ⟨.inl rfl, ?_⟩|refine ⟨.inr rfl, ?_⟩)
  rintro m env L ⟨i, rfl, hi, hp, rfl, rfl⟩
  repeat(first|refine Sc ?_|refine fun(_:Nat)=>?_)
  refine ⟨fun h => ?_, fun h => ?_⟩
  · have h : (i : Int) < (a.length : Int) := h
    obtain ⟨x, ex⟩ : ∃ x, a[i]? = some x := ⟨_, List.getElem?_eq_getElem (by omega)⟩
    obtain ⟨y, ey⟩ : ∃ y, b[i]? = some y := ⟨_, List.getElem?_eq_getElem (by omega)⟩
    repeat(first|refine Sc ?_|refine fun(_:Nat)=>?_)
    refine Run.drawnK C_ok (aopC_sound C_ok) [] [0, 1, 2, 3, 4, 5, 6, 7, 8] (by kernel_rfl) ?_
    repeat(first|refine Sc ?_|refine fun(_:Nat)=>?_)
    refine ⟨h, encG x, map_at encG ex, ?_⟩
    repeat(first|refine Sc ?_|refine fun(_:Nat)=>?_)
    refine ⟨show (i : Int) < (b.length : Int) by omega, encG y, map_at encG ey, ?_⟩
    repeat(first|refine Sc ?_|refine fun(_:Nat)=>?_)
    refine ⟨fun h => ?_, fun h => ?_⟩
    · have h : ¬ (x.1 = y.1 ∧ x.2 = y.2) := by simpa [allEq, eq1] using h
      repeat(first|refine Sc ?_|refine fun(_:Nat)=>?_)
      refine ⟨_, [], FinOk.drop _ _, congrArg AV.bool (decide_eq_false (p := a = b) fun e => h ?_).symm, rfl⟩
      subst e
      rw [ex] at ey
      cases ey
      exact ⟨rfl, rfl⟩
    · have h : x.1 = y.1 ∧ x.2 = y.2 := by simpa [allEq, eq1] using h
      repeat(first|refine Sc ?_|refine fun(_:Nat)=>?_)
      refine fun r hr => ?_
      obtain rfl := add1 hr (by omega)
      repeat(first|refine Sc ?_|refine fun(_:Nat)=>?_)
      refine Cont.lp ?_
      refine ⟨a.length - (i + 1), [rdG a, rdG b, .junk, .junk, .bool false, .int .i64 (i + 1 : Nat), .junk, .junk, .junk, .junk, .junk, .junk, .junk, .junk, .junk, .junk, .junk, .junk, .junk, .junk, .junk, .junk, .junk, .junk, .junk, .junk], 99, by omega, ?_, ⟨i + 1, rfl, by omega, ?_, rfl, rfl⟩⟩
      · repeat(first|exact trivial|refine ⟨.inl rfl, ?_⟩|refine ⟨.inr rfl, ?_⟩)
      · rw [List.take_add_one, List.take_add_one, ex, ey, hp, Prod.ext h.1 h.2]
  · have h : ¬ (i : Int) < (a.length : Int) := h
    obtain rfl : i = a.length := by omega
    repeat(first|refine Sc ?_|refine fun(_:Nat)=>?_)
    refine ⟨_, [], FinOk.drop _ _, congrArg AV.bool (decide_eq_true (p := a = b) ?_).symm, rfl⟩
    rw [List.take_length, hl, List.take_length] at hp
    exact hp
end Go.Proofs.YtgpbppkmmlclfaaDoor.HBT
/- A small trie is as the document fixes it. -/
namespace Go.Proofs.YtgpbppkmmlclfaaDoor.HBT
open Go Go.Proofs.YtgpbppkmmlclfaaDoor.HB Go.RowKit
set_option maxRecDepth 8000

def bA : ByteArray := ⟨#[47, 97]⟩
def bABC : ByteArray := ⟨#[47, 97, 47, 98, 47, 99]⟩
def bX : ByteArray := ⟨#[47, 120]⟩
def bAB : ByteArray := ⟨#[47, 97, 47, 98]⟩
def n1 (c : UInt8) : ByteArray := ⟨#[c]⟩
theorem pA : parseE bA = 0 ∧ namesOf bA = [n1 97] := by constructor <;> kernel_rfl
theorem pABC : parseE bABC = 0 ∧ namesOf bABC = [n1 97, n1 98, n1 99] := by constructor <;> kernel_rfl
theorem pX : parseE bX = 0 := by kernel_rfl
theorem pAB : parseE bAB = 0 ∧ namesOf bAB = [n1 97, n1 98] := by constructor <;> kernel_rfl
abbrev w1 : Wt := ⟨2, bA, 2, 0⟩
abbrev w2 : Wt := ⟨7, bABC, 1, 0⟩
abbrev w3 : Wt := ⟨2, bX, 1, 0⟩
theorem add1_0 : addO [] 1 w1 = 0 := addE_0 (by decide) pA.1 (by decide) (by simp [listO]) (by simp [listO])
theorem add2_0 : addO [⟨1, w1⟩] 2 w2 = 0 := addE_0 (by decide) pABC.1 (by decide) (by simp [listO]) (by simp [listO])
theorem add3_90 : addO [⟨1, w1⟩, ⟨2, w2⟩] 1 w3 = 90 := addE_90x (by decide) pX (by decide) ⟨w1, by simp [listO], rfl⟩
theorem match_b : tagged [⟨1, w1⟩, ⟨2, w2⟩] 9 3 bAB = [((1 : Int), (2 : Int))] := by
  have h1 : coversO 9 3 bAB ⟨1, w1⟩ := ⟨by decide, pA.1, pAB.1, by decide, by decide, by
    rw [pA.2, pAB.2]
    refine ⟨by decide, fun i hi => ?_⟩
    have : i = 0 := by simp at hi; omega
    subst this; rfl, .inr (.inl ⟨rfl, by decide, by rw [pA.2, pAB.2]; decide⟩)⟩
  have h2 : ¬ coversO 9 3 bAB ⟨2, w2⟩ := fun h => by
    obtain ⟨_, _, _, _, _, hb, _⟩ := h
    have := hb.1
    rw [show namesOf (⟨2, w2⟩ : On).w.p = _ from pABC.2, pAB.2] at this
    exact absurd this (by decide)
  unfold tagged
  rw [List.filter_cons_of_pos (by simpa using h1), List.filter_cons_of_neg (by simpa using h2)]
  rfl
theorem size_b : sizeD 7 (nlO [⟨1, w1⟩, ⟨2, w2⟩]) = 4 := by
  have e : nlO [⟨1, w1⟩, ⟨2, w2⟩] = [([n1 97], ⟨1, w1⟩), ([n1 97, n1 98, n1 99], ⟨2, w2⟩)] := by
    show [(namesOf bA, _), (namesOf bABC, _)] = _
    rw [pA.2, pABC.2]
  rw [e]
  simp [sizeD, heads, belowN]
end Go.Proofs.YtgpbppkmmlclfaaDoor.HBT
/- begins. -/
namespace Go.Proofs.YtgpbppkmmlclfaaDoor.HBT
open Go Go.Proofs.YtgpbppkmmlclfaaDoor.HB Go.RowKit
set_option maxRecDepth 8000

set_option maxHeartbeats 4000000 in
theorem begins9_spec : FnSpec C 8 [] [] (fun r L' => r = .bool true ∧ L' = []) := by
  refine FnSpec.start C_ok Tryd.func8 rfl rfl Tryd.ntmps8 ?_
  repeat(first|refine Sc ?_|refine fun(_:Nat)=>?_)
  refine ACallT.ok (ACall.pure _ newTr_spec ?_)
  rintro r L' ⟨gt, H, hT, rfl, rfl⟩
  refine ⟨_, Sub.refl _, ?_⟩
  repeat(first|refine Sc ?_|refine fun(_:Nat)=>?_)
  refine ACallT.ok (ACall.sel [0] (by decide) [.ptr 0 gt 0, .int .i64 1, encW w1] _ ⟨Sub.refl _, Sub.refl _, Sub.refl _, trivial⟩ (addT_spec [] gt H hT (by decide) 1 w1) ?_)
  rintro r L' ⟨H1, rfl, hT1, rfl⟩
  rw [add1_0]
  have hT1 : IsTr [⟨1, w1⟩] gt H1 := by unfold addedO at hT1; rw [if_pos add1_0] at hT1; exact hT1
  refine ⟨_, Sub.refl _, ?_⟩
  repeat(first|refine Sc ?_|refine fun(_:Nat)=>?_)
  refine ACallT.ok (ACall.sel [0] (by decide) [.ptr 0 gt 0, .int .i64 2, encW w2] _ ⟨Sub.refl _, Sub.refl _, Sub.refl _, trivial⟩ (addT_spec [⟨1, w1⟩] gt H1 hT1 (by decide) 2 w2) ?_)
  rintro r L' ⟨H2, rfl, hT2, rfl⟩
  rw [add2_0]
  have hT2 : IsTr [⟨1, w1⟩, ⟨2, w2⟩] gt H2 := by unfold addedO at hT2; rw [if_pos add2_0] at hT2; exact hT2
  refine ⟨_, Sub.refl _, ?_⟩
  repeat(first|refine Sc ?_|refine fun(_:Nat)=>?_)
  refine ACallT.ok (ACall.sel [0] (by decide) [.ptr 0 gt 0, .int .i64 1, encW w3] _ ⟨Sub.refl _, Sub.refl _, Sub.refl _, trivial⟩ (addT_spec [⟨1, w1⟩, ⟨2, w2⟩] gt H2 hT2 (by decide) 1 w3) ?_)
  rintro r L' ⟨H3, rfl, hT3, rfl⟩
  rw [add3_90]
  have hT3 : IsTr [⟨1, w1⟩, ⟨2, w2⟩] gt H3 := by unfold addedO at hT3; rw [if_neg (by rw [add3_90]; decide)] at hT3; exact hT3
  refine ⟨_, Sub.refl _, ?_⟩
  repeat(first|refine Sc ?_|refine fun(_:Nat)=>?_)
  refine ACallT.ok (ACall.sel [0] (by decide) [.ptr 0 gt 0, .int .i64 9, chA 3 bAB ⟨#[]⟩ 0] _ ⟨Sub.refl _, Sub.refl _, Sub.refl _, trivial⟩ (matchTr_spec _ gt H3 hT3 (by decide) 9 3 bAB ⟨#[]⟩ 0) ?_)
  rintro r L' ⟨ys, g, o, hys, hp, _, rfl⟩
  rw [match_b] at hp
  obtain rfl : ys = [((1 : Int), (2 : Int))] := List.perm_singleton.1 hp
  rcases hys with ⟨h, _, _⟩ | ⟨Cp, rfl, rfl⟩
  · cases h
  refine ⟨_, Sub.refl _, ?_⟩
  repeat(first|refine Sc ?_|refine fun(_:Nat)=>?_)
  refine ⟨fun _ => ?_, fun h => absurd rfl h⟩
  repeat(first|refine Sc ?_|refine fun(_:Nat)=>?_)
  refine ⟨fun _ => ?_, fun h => absurd rfl h⟩
  repeat(first|refine Sc ?_|refine fun(_:Nat)=>?_)
  refine ⟨fun _ => ?_, fun h => absurd rfl h⟩
  repeat(first|refine Sc ?_|refine fun(_:Nat)=>?_)
  refine ACallT.ok (ACall.ret_lend (args' := [rdG [(1, 2)], rdG [(1, 2)]]) (.two (.row 1 _ _ _ tG 2 _ rfl (by simp)) (.row 2 _ _ _ tG 2 _ rfl (by simp))) (sameTags_spec [(1, 2)] [(1, 2)] (by decide) (by decide)) rfl ?_)
  rw [decide_eq_true (p := [((1 : Int), (2 : Int))] = [(1, 2)]) rfl]
  repeat(first|refine Sc ?_|refine fun(_:Nat)=>?_)
  have hsz := sizeTr_spec _ gt H3 hT3 (by decide)
  rw [size_b] at hsz
  refine ACallT.ok (ACall.sel [0] (by decide) [.ptr 0 gt 0] _ ⟨Sub.refl _, trivial⟩ hsz ?_)
  rintro r L' ⟨rfl, rfl⟩
  refine ⟨_, Sub.refl _, ?_⟩
  repeat(first|refine Sc ?_|refine fun(_:Nat)=>?_)
  refine ⟨fun _ => ?_, fun h => absurd rfl h⟩
  repeat(first|refine Sc ?_|refine fun(_:Nat)=>?_)
  exact ⟨_, [], FinOk.drop _ _, rfl, rfl⟩
end Go.Proofs.YtgpbppkmmlclfaaDoor.HBT
/- What is laid, plainly: no watch twice; which tags are answered. -/
namespace Go.Proofs.YtgpbppkmmlclfaaDoor.HBT
open Go Go.Proofs.YtgpbppkmmlclfaaDoor.HB Go.RowKit
set_option maxRecDepth 8000

abbrev tgO (o : On) : Tg := (o.s, o.w.id)
theorem added_nodup {ons : List On} (h : (ons.map tgO).Nodup) (s : Int) (w : Wt) : ((addedO ons s w).map tgO).Nodup := by
  unfold addedO
  split
  · rename_i h0
    obtain ⟨_, _, _, hx, _⟩ := addE_zero h0
    rw [List.map_append, List.nodup_append]
    refine ⟨h, by simp, fun a ha b hb => ?_⟩
    obtain ⟨o, ho, rfl⟩ := List.mem_map.1 ha
    simp at hb
    subst hb
    intro e
    have e1 : o.s = s := congrArg Prod.fst e
    have e2 : o.w.id = w.id := congrArg Prod.snd e
    exact hx ⟨o.w, List.mem_map.2 ⟨o, List.mem_filter.2 ⟨ho, by simpa using e1⟩, rfl⟩, e2⟩
  · exact h
theorem layO_nodup (xs : List On) : ((layO xs).map tgO).Nodup := by
  have : ∀ (xs a : List On), (a.map tgO).Nodup → ((xs.foldl (fun ons x => addedO ons x.s x.w) a).map tgO).Nodup := by
    intro xs
    induction xs with
    | nil => intro a h; exact h
    | cons x xs ih => intro a h; exact ih _ (added_nodup h x.s x.w)
  exact this xs [] (by simp)
theorem tagged_mem {ons : List On} (h : (ons.map tgO).Nodup) {o : On} (ho : o ∈ ons) (st k : Int) (p : ByteArray) : tgO o ∈ tagged ons st k p ↔ coversO st k p o := by
  unfold tagged
  rw [List.mem_map]
  constructor
  · rintro ⟨o', h', e⟩
    obtain ⟨h1, h2⟩ := List.mem_filter.1 h'
    obtain ⟨i, hi⟩ := List.mem_iff_getElem?.1 ho
    obtain ⟨j, hj⟩ := List.mem_iff_getElem?.1 h1
    have e2 : (ons.map tgO)[i]? = (ons.map tgO)[j]? := by rw [List.getElem?_map, List.getElem?_map, hi, hj]; exact congrArg some e.symm
    have hil := (List.getElem?_eq_some_iff.1 hi).1
    have := (List.getElem?_inj (by simpa using hil) h).1 e2
    subst this
    rw [hi] at hj
    cases hj
    simpa using h2
  · intro hc
    exact ⟨o, List.mem_filter.2 ⟨ho, by simpa using hc⟩, rfl⟩
theorem tagged_nodup {ons : List On} (h : (ons.map tgO).Nodup) (st k : Int) (p : ByteArray) : (tagged ons st k p).Nodup :=
  List.Nodup.sublist (List.Sublist.map _ List.filter_sublist) h
theorem tags_strict {ys : List Tg} (hn : ys.Nodup) (hs : ys.Pairwise (fun a b => ¬ cfT b a < 0)) {j : Nat} {a b : Tg} (ha : ys[j]? = some a) (hb : ys[j + 1]? = some b) : a.1 < b.1 ∨ (a.1 = b.1 ∧ a.2 < b.2) := by
  have hlt : j < j + 1 := by omega
  obtain ⟨h1, e1⟩ := List.getElem?_eq_some_iff.1 ha
  obtain ⟨h2, e2⟩ := List.getElem?_eq_some_iff.1 hb
  have hne := List.pairwise_iff_getElem.1 hn j (j + 1) h1 h2 hlt
  have hle := List.pairwise_iff_getElem.1 hs j (j + 1) h1 h2 hlt
  rw [e1, e2] at hne hle
  rw [cfT_neg] at hle
  have : ¬ (a.1 = b.1 ∧ a.2 = b.2) := fun e => hne (Prod.ext e.1 e.2)
  omega
end Go.Proofs.YtgpbppkmmlclfaaDoor.HBT
/- What is answered, read only. -/
namespace Go.Proofs.YtgpbppkmmlclfaaDoor.HBT
open Go Go.Proofs.YtgpbppkmmlclfaaDoor.HB Go.RowKit
set_option maxRecDepth 8000

theorem FnSpec.fin {C : Cx} {f : FuncId} {args : List AV} {L : AHeap} {Q Q' : AV → AHeap → Prop} (h : FnSpec C f args L Q) (k : ∀ r L', Q r L' → ∃ r' L'', FinOk r L' r' L'' ∧ Q' r' L'') : FnSpec C f args L Q' := by
  refine ⟨h.1, fun imm w vs hG hs hl hv => (h.2 imm w vs hG hs hl hv).mono ?_⟩
  rintro e w' ⟨v, r, L', imm', rfl, hr, hs', ht, hq⟩
  obtain ⟨r', L'', hf, h3⟩ := k r L' hq
  obtain ⟨imm2, hs2, hr2, ht2⟩ := hf C.D (Own L) imm w imm' w' v hs' hr ht
  exact ⟨v, r', L'', imm2, rfl, hr2, hs2, ht2, h3⟩
theorem laidR_spec (xs : List On) (n : Nat) (hn : n ≤ xs.length) : FnSpec C 9 [rdS xs n] [] (fun r L' => ∃ gt H, IsTr (layO (xs.take (min n 60))) gt H ∧ r = .tuple [.ptr 0 gt 0, rdS (layO (xs.take (min n 60))) (layO (xs.take (min n 60))).length] ∧ L' = [(0, boxL H)]) := by
  refine FnSpec.fin (laid_spec xs n hn) ?_
  rintro r L' ⟨gt, H, lv, gl, lo, hT, hlv, rfl, rfl⟩
  rcases hlv with ⟨e0, rfl, rfl⟩ | ⟨Cp, rfl, rfl⟩
  · refine ⟨_, _, FinOk.keepLend [0] (by decide) (Lend.tuples (.two (.same _) (.nils 5))) (Sub.refl _), gt, H, hT, ?_, rfl⟩
    rw [e0]; rfl
  · exact ⟨_, _, FinOk.keepLend [0] (by decide) (Lend.tuples (.two (.same _) (.row 1 gl Cp _ tSe 5 _ rfl (by simp)))) (Sub.refl _), gt, H, hT, rfl, rfl⟩
theorem matchR_spec (ons : List On) (gt : Nat) (H : AHeap) (hT : IsTr ons gt H) (hn : ons.length ≤ 200) (st k : Int) (p d : ByteArray) (v : Int) :
    FnSpec C 10 [.ptr 0 gt 0, .int .i64 st, chA k p d v] [(0, boxL H)] (fun r L' => ∃ ys : List Tg, ys.Perm (tagged ons st k p) ∧ ys.Pairwise (fun a b => ¬ cfT b a < 0) ∧ r = rdG ys ∧ L' = [(0, boxL H)]) := by
  refine FnSpec.fin (matchTr_spec ons gt H hT hn st k p d v) ?_
  rintro r L' ⟨ys, g, o, hlv, h1, h2, rfl⟩
  rcases hlv with ⟨rfl, rfl, rfl⟩ | ⟨Cp, rfl, rfl⟩
  · exact ⟨_, _, FinOk.keepLend [0] (by decide) (.nils 2) (Sub.refl _), [], h1, h2, rfl, rfl⟩
  · exact ⟨_, _, FinOk.keepLend [0] (by decide) (.row 1 g Cp _ tG 2 _ rfl (by simp)) (Sub.refl _), ys, h1, h2, rfl, rfl⟩
theorem ofTr_spec (ons : List On) (gt : Nat) (H : AHeap) (hT : IsTr ons gt H) (s : Int) :
    FnSpec C 14 [.ptr 0 gt 0, .int .i64 s] [(0, boxL H)] (fun r L' => ∃ ws g o, ws.Perm (listO ons s) ∧ SortedW ws ∧ ws.length ≤ 4 ∧ LN encW tW 4 1 ws r g o ∧ L' = [(0, boxL H), (g, o)]) := by
  obtain ⟨S, l, hS, hl, hok, hs⟩ := hT
  refine (of_spec S l gt H hS s (fun x hx => ⟨(hs.ok x hx).1, by have := (hs.ok x hx).2.2; omega⟩)).post ?_
  rintro r L' ⟨g, o, h1, rfl⟩
  exact ⟨_, _, Sub.refl _, Imp.refl _, ofS S s, g, o, hs.of s, (ofS_ok s hs.ok).1, (ofS_ok s hs.ok).2, h1, rfl⟩
theorem ofR_spec (ons : List On) (gt : Nat) (H : AHeap) (hT : IsTr ons gt H) (s : Int) :
    FnSpec C 14 [.ptr 0 gt 0, .int .i64 s] [(0, boxL H)] (fun r L' => ∃ ws : List Wt, ws.Perm (listO ons s) ∧ SortedW ws ∧ ws.length ≤ 4 ∧ r = rdW ws ∧ L' = [(0, boxL H)]) := by
  refine FnSpec.fin (ofTr_spec ons gt H hT s) ?_
  rintro r L' ⟨ws, g, o, h1, h2, h4, hlv, rfl⟩
  rcases hlv with ⟨rfl, rfl, rfl⟩ | ⟨Cp, rfl, rfl⟩
  · exact ⟨_, _, FinOk.keepLend [0] (by decide) (.nils 4) (Sub.refl _), [], h1, h2, h4, rfl, rfl⟩
  · exact ⟨_, _, FinOk.keepLend [0] (by decide) (.row 1 g Cp _ tW 4 _ rfl (by simp)) (Sub.refl _), ws, h1, h2, h4, rfl, rfl⟩
end Go.Proofs.YtgpbppkmmlclfaaDoor.HBT
