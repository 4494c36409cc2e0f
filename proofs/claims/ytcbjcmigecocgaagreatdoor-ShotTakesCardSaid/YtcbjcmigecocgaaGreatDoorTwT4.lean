/- Lists of nodes in order: inOrder, Nodes, kids. -/
import Derived.Test.YtcbjcmigecocgaaGreatDoorTwT2
set_option linter.unusedVariables false
set_option linter.unusedSimpArgs false
namespace Go.Proofs.YtcbjcmigecocgaaGreatDoor.HBT
open Go Go.Proofs.YtcbjcmigecocgaaGreatDoor.HB Go.RowKit Go.Shelf Go.Sort
set_option maxRecDepth 8000

abbrev PX := { x : Fu // parseE x.p = 0 }
instance : Inhabited PX := ⟨⟨rootF, parse_slash⟩⟩
def cfX (x y : PX) : Int := orderB x.1.p y.1.p
theorem swoX : SWO (ltOf cfX) where
  irrefl := fun x => decide_eq_false (orderB_irrefl _)
  trans := fun x y z h1 h2 => decide_eq_true (orderB_trans (of_decide_eq_true h1) (of_decide_eq_true h2))
  ntrans := fun x y z h1 h2 => by
    have h1 := of_decide_eq_false h1
    have h2 := of_decide_eq_false h2
    refine decide_eq_false fun h => ?_
    unfold cfX at h1 h2 h
    have hs := orderB_swap x.1.p y.1.p
    by_cases e : orderB x.1.p y.1.p = 0
    · rw [orderB_eq.1 e] at h; exact h2 h
    · exact h2 (orderB_trans (by omega) h)

theorem cmp_spec (x y : PX) : FnSpec CD 57 [encX x.1, encX y.1] [] (fun r _ => r = .int .i64 (cfX x y)) := by
  refine FnSpec.start CD_ok Tryz.func57 rfl rfl Tryz.ntmps57 ?_
  repeat(first|refine Sp ?_|refine fun(_:Nat)=>?_)
  refine ACall.ret (order_specD _ _ (Nat.le_trans (place_size x.2) (by decide))) ?_
  repeat(first|refine Sp ?_|refine fun(_:Nat)=>?_)
  exact ⟨_, [], FinOk.drop _ _, rfl⟩

theorem sortF_spec (k0 g Cp : Nat) (xs : List PX) (hn : xs.length ≤ 1000) : FnSpec C 56 [.sl k0 g Cp xs.length, .any (.func (.func 57) #[] #[])] [(g, .row tX 7 Cp (xs.map fun x => encX x.1))]
    (fun r L' => r = .tuple [] ∧ ∃ ys : List PX, ys.Perm xs ∧ ys.Pairwise (fun a b => ltOf cfX b a = false) ∧ L' = [(g, .row tX 7 Cp (ys.map fun x => encX x.1))]) :=
  FnSpec.sortFunc (C := C) (C' := CD) (ρ := Tryz.sortFull_ren) C_ok Tryz.sortFull rfl (fun _ _ h => h) trivial (fun h => h) ⟨_, Tryz.func56, rfl, rfl⟩ Tryz.isAgg63 Tryz.sizeOf63
    (fun x : PX => [.str x.1.p, .str x.1.d, .int .i64 x.1.v, .int .i64 x.1.m, .int .i64 x.1.c, .int .i64 x.1.o, .int .i64 x.1.k]) (fun x => [.string x.1.p, .string x.1.d, .int .i64 x.1.v, .int .i64 x.1.m, .int .i64 x.1.c, .int .i64 x.1.o, .int .i64 x.1.k]) (fun x => rfl) (fun x => rfl) cfX swoX
    57 cmp_spec xs (by omega) k0

theorem sub_list : ∀ {xs : List Fu}, (∀ x ∈ xs, parseE x.p = 0) → ∃ ys : List PX, ys.map (·.1) = xs
  | [], _ => ⟨[], rfl⟩
  | x :: xs, h => by
    obtain ⟨ys, e⟩ := sub_list (xs := xs) fun y hy => h y (.tail _ hy)
    exact ⟨⟨x, h x (.head _)⟩ :: ys, by rw [List.map_cons, e]⟩

theorem inOrder_spec (k0 g Cp : Nat) (xs l : List Fu) (hv : ∀ x ∈ xs, parseE x.p = 0) (hl : Sorted l) (hp : xs.Perm l) (hn : xs.length ≤ 1000) :
    FnSpec C 34 [.sl k0 g Cp xs.length] [(g, .row tX 7 Cp (xs.map encX))] (fun r L' => r = .sl 0 g Cp l.length ∧ L' = [(g, .row tX 7 Cp (l.map encX))]) := by
  obtain ⟨ys, rfl⟩ := sub_list hv
  have hm : ∀ ys : List PX, (ys.map (·.1)).map encX = ys.map fun x => encX x.1 := fun ys => by rw [List.map_map]; rfl
  have hc := sortF_spec k0 g Cp ys (by simpa using hn)
  have hfin : ∀ zs : List PX, zs.Perm ys → zs.Pairwise (fun a b => ltOf cfX b a = false) → zs.map (·.1) = l := fun zs h1 h2 => by
    have h3 : (zs.map (·.1)).Perm l := (h1.map _).trans hp
    have hnd : ((zs.map (·.1)).map (·.p)).Nodup := nodup_perm h3 hl.nodup
    refine Sorted.uniq ?_ hl h3
    unfold Sorted
    have h4 : (zs.map (·.1)).Pairwise (fun a b => a.p ≠ b.p) := List.pairwise_map.1 hnd
    have h5 : (zs.map (·.1)).Pairwise (fun a b => ¬ orderB b.p a.p < 0) := by
      rw [List.pairwise_map]
      refine h2.imp fun {a b} h => ?_
      exact of_decide_eq_false h
    refine (h4.and h5).imp fun {a b} h => ?_
    have h6 : orderB a.p b.p ≠ 0 := fun e => h.1 (orderB_eq.1 e)
    have := orderB_swap a.p b.p
    omega
  have hlen : l.length = ys.length := by rw [← hp.length_eq, List.length_map]
  rw [hm, List.length_map]
  refine FnSpec.start C_ok Tryz.func34 rfl rfl Tryz.ntmps34 ?_
  repeat(first|refine Sc ?_|refine fun(_:Nat)=>?_)
  refine ACallT.ok (ACall.all _ hc ?_)
  rintro r L' ⟨rfl, zs, h1, h2, rfl⟩
  repeat(first|refine Sc ?_|refine fun(_:Nat)=>?_)
  refine ⟨.sl 0 g Cp l.length, _, FinOk.keep _ [0] (by rw [hlen]; exact Sub.sl _ 0 _ _ _) (by decide) rfl, rfl, ?_⟩
  have := hfin zs h1 h2
  rw [← this, List.map_map]
  rfl
theorem inOrder_nil : FnSpec C 34 [.nils] [] (fun r L' => r = .nils ∧ L' = []) := by
  have hc := FnSpec.sortFunc_nil (C := C) (ρ := Tryz.sortFull_ren) Tryz.sortFull ⟨_, Tryz.func56, rfl, rfl⟩ (.func (.func 57) #[] #[])
  refine FnSpec.start C_ok Tryz.func34 rfl rfl Tryz.ntmps34 ?_
  repeat(first|refine Sc ?_|refine fun(_:Nat)=>?_)
  refine ACallT.ok (ACall.all _ hc ?_)
  rintro r L' ⟨rfl, rfl⟩
  repeat(first|refine Sc ?_|refine fun(_:Nat)=>?_)
  exact ⟨_, [], FinOk.drop _ _, rfl, rfl⟩

theorem leftOf_mem {es : Array MapEntry} {seen : Array Nat} {e : MapEntry} (h : e ∈ (leftOf es seen).toList) : e ∈ es.toList := by
  unfold leftOf at h
  simp only [Array.toList_filter, List.mem_filter] at h
  exact h.1
theorem kids_spec (gm : Nat) {l : List Fu} {es : Array MapEntry} {cl : Nat} (h : TM l es cl) (hi : TInv l) (at_ : ByteArray) :
    FnSpec C 41 [.any (.map (some gm)), .str at_] [(gm, .obj (.map es cl))] (fun r L' => ∃ v g o, LX 1 (kidsF l at_) v g o ∧ r = v ∧ L' = [(gm, .obj (.map es cl)), (g, o)]) := by
  obtain ⟨M, hp, hm⟩ := h.map
  refine FnSpec.start C_ok Tryz.func41 rfl rfl Tryz.ntmps41 ?_
  repeat(first|refine Sc ?_|refine fun(_:Nat)=>?_)
  refine ⟨0, es, cl, rfl, ?_⟩
  repeat(first|refine Sc ?_|refine fun(_:Nat)=>?_)
  rename_i gi
  refine Run.loopW (fun k env L => ∃ (V : List Fu) (seen : Array Nat) (v : AV) (g : Nat) (o : AObj), k = M.length - V.length ∧ Visited M es seen V ∧ LX 2 (kidsF V at_) v g o ∧ env = [.any (.map (some gm)), .str at_, .junk, .junk, .nils, v, .junk, .junk, .junk, .junk, .junk, .ptr 1 gi 0, .junk, .junk, .junk, .junk, .junk, .junk, .junk, .junk, .junk, .junk, .junk, .junk, .junk, .junk, .junk, .junk, .junk, .junk, .junk, .junk, .junk, .junk, .junk] ∧ L = [(gm, .obj (.map es cl)), (gi, .obj (.mapIter (some gm) cl seen cl)), (g, o)]) M.length
    [.any (.map (some gm)), .str at_, .junk, .junk, .nils, .nils, .junk, .junk, .junk, .junk, .junk, .ptr 1 gi 0, .junk, .junk, .junk, .junk, .junk, .junk, .junk, .junk, .junk, .junk, .junk, .junk, .junk, .junk, .junk, .junk, .junk, .junk, .junk, .junk, .junk, .junk, .junk] [(gm, .obj (.map es cl)), (gi, .obj (.mapIter (some gm) cl #[] cl)), (0, .dead)] (Weak.sel ?_ [0, 1, 9] (by decide) ⟨rfl, SubO.refl _, rfl, SubO.refl _, rfl, trivial, trivial⟩)
    ⟨[], #[], .nils, 0, .dead, by simp, Visited.start, .inl ⟨rfl, rfl, rfl⟩, rfl, rfl⟩ ?_
  · exact Ss
  rintro k env L ⟨V, seen, v, g, o, rfl, hV, hv, rfl, rfl⟩
  repeat(first|refine Sc ?_|refine fun(_:Nat)=>?_)
  refine ⟨0, es, cl, rfl, hm.old, Nat.le_refl _, fun h0 => ?_, fun e he => ?_⟩
  · have hVM := hV.stop hm h0
    have hkp : (kidsF V at_).Perm (kidsF l at_) := (hVM.trans hp).filter _
    repeat(first|refine Sc ?_|refine fun(_:Nat)=>?_)
    rcases hv with ⟨e0, rfl, rfl⟩ | ⟨Cp, rfl, rfl⟩
    · rw [e0] at hkp
      have hk0 : kidsF l at_ = [] := List.nil_perm.1 hkp
      refine ACallT.ok (ACall.ret inOrder_nil ?_)
      repeat(first|refine Sc ?_|refine fun(_:Nat)=>?_)
      exact ⟨.nils, _, FinOk.keep _ [0, 9] (Sub.refl _) (by decide) rfl, .nils, 0, .dead, .inl ⟨hk0, rfl, rfl⟩, rfl, rfl⟩
    · refine ACallT.ok (ACall.sel [2] (by decide) [.sl 0 g Cp (kidsF V at_).length] _ (.one (Sub.sl _ _ _ _ _)) (inOrder_spec 0 g Cp (kidsF V at_) (kidsF l at_) (fun y hy => ?_) (hi.sorted.filter _) hkp ?_) ?_)
      · exact (hi.ok y (hp.mem_iff.1 (hVM.mem_iff.1 (List.mem_filter.1 hy).1))).1
      · have h1 := List.length_filter_le (fun x : Fu => decide (childB x.p at_)) V
        have h2 := hV.len
        have h3 := hp.length_eq
        have h4 := hi.len
        unfold kidsF
        omega
      rintro r L' ⟨rfl, rfl⟩
      refine ⟨.sl 2 g Cp (kidsF l at_).length, Sub.sl _ _ _ _ _, ?_⟩
      repeat(first|refine Sc ?_|refine fun(_:Nat)=>?_)
      exact ⟨.sl 1 g Cp (kidsF l at_).length, _, FinOk.keep _ [0, 2] (Sub.sl _ _ _ _ _) (by decide) rfl, _, g, _, .inr ⟨Cp, rfl, rfl⟩, rfl, rfl⟩
  · obtain ⟨x, hx, ek, ev, hV', hlt⟩ := hV.step hm he
    refine ⟨.str x.p, encX x, by rw [ek]; rfl, by rw [ev]; rfl, ?_⟩
    repeat(first|refine Sc ?_|refine fun(_:Nat)=>?_)
    refine ⟨0, es, seen, e, rfl, rfl, leftOf_mem he, hm.born, .str x.p, encX x, by rw [ek]; rfl, by rw [ev]; rfl, ?_⟩
    repeat(first|refine Sc ?_|refine fun(_:Nat)=>?_)
    refine ACallT.ok (ACall.ret (parent_spec x.p) ?_)
    repeat(first|refine Sc ?_|refine fun(_:Nat)=>?_)
    have hsub : ∀ V : List Fu, (kidsF V at_).length ≤ V.length := fun V => List.length_filter_le _ V
    have hlen : (kidsF V at_).length ≤ 64 := by
      have h1 := hsub V
      have h2 := hV.len
      have h3 := hp.length_eq
      have h4 := hi.len
      omega
    have hno : ¬ childB x.p at_ → kidsF (V ++ [x]) at_ = kidsF V at_ := fun h => by unfold kidsF; rw [List.filter_append]; simp [h]
    have hyes : childB x.p at_ → kidsF (V ++ [x]) at_ = kidsF V at_ ++ [x] := fun h => by unfold kidsF; rw [List.filter_append]; simp [h]
    refine ⟨fun h1 => ?_, fun h1 => ?_⟩
    · have h1 : parentE x.p = 0 := h1
      repeat(first|refine Sc ?_|refine fun(_:Nat)=>?_)
      refine ⟨fun h2 => ?_, fun h2 => ?_⟩
      · have h2 : parentB x.p = at_ := h2
        have hc : childB x.p at_ := ⟨h1, h2⟩
        repeat(first|refine Sc ?_|refine fun(_:Nat)=>?_)
        rcases hv with ⟨e0, rfl, rfl⟩ | ⟨Cp, rfl, rfl⟩
        · repeat(first|refine Sc ?_|refine fun(_:Nat)=>?_)
          refine ⟨fun h => absurd h (List.cons_ne_nil _ _), fun _ => ?_⟩
          repeat(first|refine Sc ?_|refine fun(_:Nat)=>?_)
          rename_i g' Cp'
          refine Cont.lpW ?_
          refine ⟨M.length - (V ++ [x]).length, _, _, by rw [List.length_append]; simp only [List.length_singleton]; omega, Weak.sel ?_ [0, 1, 5] (by decide) ?_, ⟨V ++ [x], _, .sl 2 g' Cp' 1, g', _, rfl, hV', (hyes hc).symm ▸ LN.one e0, rfl, rfl⟩⟩
          · exact Ss
          · exact Sl
        · repeat(first|refine Sc ?_|refine fun(_:Nat)=>?_)
          refine ⟨by simp, ?_⟩
          repeat(first|refine Sc ?_|refine fun(_:Nat)=>?_)
          refine ⟨by simp; omega, ?_⟩
          repeat(first|refine Sc ?_|refine fun(_:Nat)=>?_)
          rename_i g' Cp'
          refine Cont.lpW ?_
          refine ⟨M.length - (V ++ [x]).length, _, _, by rw [List.length_append]; simp only [List.length_singleton]; omega, Weak.sel ?_ [0, 1, 2] (by decide) ?_, ⟨V ++ [x], _, .sl 2 g' Cp' (((kidsF V at_).map encX).length + 1), g', .row tX 7 Cp' ((kidsF V at_).map encX ++ [encX x]), rfl, hV', (hyes hc).symm ▸ LN.snoc, rfl, rfl⟩⟩
          · exact Ss
          · exact Sl
      · have h2 : ¬ parentB x.p = at_ := h2
        have hc : ¬ childB x.p at_ := fun h => h2 h.2
        repeat(first|refine Sc ?_|refine fun(_:Nat)=>?_)
        refine Cont.lpW ?_
        refine ⟨M.length - (V ++ [x]).length, _, _, by rw [List.length_append]; simp only [List.length_singleton]; omega, Weak.sel ?_ [0, 1, 2] (by decide) ?_, ⟨V ++ [x], _, v, g, o, rfl, hV', (hno hc).symm ▸ hv, rfl, rfl⟩⟩
        · exact Ss
        · exact Sl
    · have h1 : ¬ parentE x.p = 0 := h1
      have hc : ¬ childB x.p at_ := fun h => h1 h.1
      repeat(first|refine Sc ?_|refine fun(_:Nat)=>?_)
      refine Cont.lpW ?_
      refine ⟨M.length - (V ++ [x]).length, _, _, by rw [List.length_append]; simp only [List.length_singleton]; omega, Weak.sel ?_ [0, 1, 2] (by decide) ?_, ⟨V ++ [x], _, v, g, o, rfl, hV', (hno hc).symm ▸ hv, rfl, rfl⟩⟩
      · exact Ss
      · exact Sl
theorem nodes_spec (gt gm : Nat) {l : List Fu} {es : Array MapEntry} {cl : Nat} (h : TM l es cl) (hi : TInv l) :
    FnSpec C 22 [.ptr 0 gt 0] (TreeL gt gm es cl) (fun r L' => ∃ g Cp, r = .sl 2 g Cp l.length ∧ L' = TreeL gt gm es cl ++ [(g, .row tX 7 Cp (l.map encX))]) := by
  obtain ⟨M, hp, hm⟩ := h.map
  refine FnSpec.start C_ok Tryz.func22 rfl rfl Tryz.ntmps22 ?_
  repeat(first|refine Sc ?_|refine fun(_:Nat)=>?_)
  refine ACallT.ok (ACall.sel [0] (by decide) [.ptr 0 gt 0] _ (.one (Sub.refl _)) (none_spec gt (some gm)) ?_)
  rintro r L' ⟨rfl, rfl⟩
  refine ⟨_, Sub.refl _, ?_⟩
  repeat(first|refine Sc ?_|refine fun(_:Nat)=>?_)
  refine ⟨1, es, cl, rfl, ?_⟩
  repeat(first|refine Sc ?_|refine fun(_:Nat)=>?_)
  rename_i gi
  refine Run.loopW (fun k env L => ∃ (V : List Fu) (seen : Array Nat) (v : AV) (g : Nat) (o : AObj), k = M.length - V.length ∧ Visited M es seen V ∧ LX 3 V v g o ∧ env = [.ptr 0 gt 0, .junk, .nils, v, .junk, .junk, .junk, .junk, .junk, .junk, .junk, .junk, .ptr 2 gi 0, .junk, .junk, .junk, .junk, .junk, .junk, .junk, .junk, .junk, .junk] ∧ L = [(gt, .cells tT [.any (.map (some gm))]), (gm, .obj (.map es cl)), (gi, .obj (.mapIter (some gm) cl seen cl)), (g, o)]) M.length
    [.ptr 0 gt 0, .junk, .nils, .nils, .junk, .junk, .junk, .junk, .junk, .junk, .junk, .junk, .ptr 2 gi 0, .junk, .junk, .junk, .junk, .junk, .junk, .junk, .junk, .junk, .junk] [(gt, .cells tT [.any (.map (some gm))]), (gm, .obj (.map es cl)), (gi, .obj (.mapIter (some gm) cl #[] cl)), (0, .dead)] (Weak.sel ?_ [0, 1, 2, 9] (by decide) ⟨rfl, SubO.refl _, rfl, SubO.refl _, rfl, SubO.refl _, rfl, trivial, trivial⟩)
    ⟨[], #[], .nils, 0, .dead, by simp, Visited.start, .inl ⟨rfl, rfl, rfl⟩, rfl, rfl⟩ ?_
  · exact Ss
  rintro k env L ⟨V, seen, v, g, o, rfl, hV, hv, rfl, rfl⟩
  repeat(first|refine Sc ?_|refine fun(_:Nat)=>?_)
  refine ⟨1, es, cl, rfl, hm.old, Nat.le_refl _, fun h0 => ?_, fun e he => ?_⟩
  · have hVM := hV.stop hm h0
    have hkp : V.Perm l := hVM.trans hp
    repeat(first|refine Sc ?_|refine fun(_:Nat)=>?_)
    rcases hv with ⟨e0, rfl, rfl⟩ | ⟨Cp, rfl, rfl⟩
    · rw [e0] at hkp
      obtain ⟨r, hr, _⟩ := hi.root
      rw [List.nil_perm.1 hkp] at hr
      cases hr
    · refine ACallT.ok (ACall.sel [3] (by decide) [.sl 0 g Cp V.length] _ (.one (Sub.sl _ _ _ _ _)) (inOrder_spec 0 g Cp V l (fun y hy => (hi.ok y (hkp.mem_iff.1 hy)).1) hi.sorted hkp ?_) ?_)
      · have h3 := hkp.length_eq
        have h4 := hi.len
        omega
      rintro r L' ⟨rfl, rfl⟩
      refine ⟨.sl 3 g Cp l.length, Sub.sl _ _ _ _ _, ?_⟩
      repeat(first|refine Sc ?_|refine fun(_:Nat)=>?_)
      exact ⟨.sl 2 g Cp l.length, _, FinOk.keep _ [0, 1, 3] (Sub.sl _ _ _ _ _) (by decide) rfl, g, Cp, rfl, rfl⟩
  · obtain ⟨x, hx, ek, ev, hV', hlt⟩ := hV.step hm he
    refine ⟨.str x.p, encX x, by rw [ek]; rfl, by rw [ev]; rfl, ?_⟩
    repeat(first|refine Sc ?_|refine fun(_:Nat)=>?_)
    refine ⟨1, es, seen, e, rfl, rfl, leftOf_mem he, hm.born, .str x.p, encX x, by rw [ek]; rfl, by rw [ev]; rfl, ?_⟩
    have hlen : V.length ≤ 64 := by
      have h3 := hp.length_eq
      have h4 := hi.len
      omega
    repeat(first|refine Sc ?_|refine fun(_:Nat)=>?_)
    rcases hv with ⟨e0, rfl, rfl⟩ | ⟨Cp, rfl, rfl⟩
    · repeat(first|refine Sc ?_|refine fun(_:Nat)=>?_)
      refine ⟨fun h => absurd h (List.cons_ne_nil _ _), fun _ => ?_⟩
      repeat(first|refine Sc ?_|refine fun(_:Nat)=>?_)
      rename_i g' Cp'
      refine Cont.lpW ?_
      refine ⟨M.length - (V ++ [x]).length, _, _, by rw [List.length_append]; simp only [List.length_singleton]; omega, Weak.sel ?_ [0, 1, 2, 6] (by decide) ?_, ⟨V ++ [x], _, .sl 3 g' Cp' 1, g', _, rfl, hV', LN.one e0, rfl, rfl⟩⟩
      · exact Ss
      · exact Sl
    · repeat(first|refine Sc ?_|refine fun(_:Nat)=>?_)
      refine ⟨by simp, ?_⟩
      repeat(first|refine Sc ?_|refine fun(_:Nat)=>?_)
      refine ⟨by simp; omega, ?_⟩
      repeat(first|refine Sc ?_|refine fun(_:Nat)=>?_)
      rename_i g' Cp'
      refine Cont.lpW ?_
      refine ⟨M.length - (V ++ [x]).length, _, _, by rw [List.length_append]; simp only [List.length_singleton]; omega, Weak.sel ?_ [0, 1, 2, 3] (by decide) ?_, ⟨V ++ [x], _, .sl 3 g' Cp' ((V.map encX).length + 1), g', .row tX 7 Cp' (V.map encX ++ [encX x]), rfl, hV', LN.snoc, rfl, rfl⟩⟩
      · exact Ss
      · exact Sl
end Go.Proofs.YtcbjcmigecocgaaGreatDoor.HBT
