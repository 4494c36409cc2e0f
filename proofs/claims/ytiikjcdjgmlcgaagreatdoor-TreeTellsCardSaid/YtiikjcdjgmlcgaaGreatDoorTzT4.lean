/- Lists of nodes in order: inOrder, Nodes, kids. -/
import Derived.Test.YtiikjcdjgmlcgaaGreatDoorTzTy
namespace Go.Proofs.YtiikjcdjgmlcgaaGreatDoor.HBT
open Go Go.Proofs.YtiikjcdjgmlcgaaGreatDoor.HB Go.RowKit Go.Shelf Go.Sort
set_option maxRecDepth 8000

/-- Nodes at places. -/
abbrev PX := { x : Fu // parseE x.p = 0 }
instance : Inhabited PX := ⟨⟨rootF, parse_slash⟩⟩
def cfX (x y : PX) : Int := orderB x.1.p y.1.p
theorem swoX : SWO (ltOf cfX) where
  irrefl := fun x => decide_eq_false (orderB_irrefl _)
  trans := fun x y z h1 h2 => decide_eq_true (orderB_trans (of_decide_eq_true h1) (of_decide_eq_true h2))
  ntrans := fun x y z h1 h2 => by
    have h1 := of_decide_eq_false h1
    have h2 := of_decide_eq_false h2
    refine decide_eq_false fun h => ?_
    unfold cfX at h1 h2 h
    have hs := orderB_swap x.1.p y.1.p
    by_cases e : orderB x.1.p y.1.p = 0
    · rw [orderB_eq.1 e] at h; exact h2 h
    · exact h2 (orderB_trans (by omega) h)

theorem cmp_spec (x y : PX) : FnSpec CD 70 [encX x.1, encX y.1] [] (fun r _ => r = .int .i64 (cfX x y)) := by
  refine FnSpec.start CD_ok Tryz.func70 rfl rfl Tryz.ntmps70 ?_
  repeat (first | refine Ops.go ?_ | refine And.intro rfl ?_ | refine And.intro (Nat.le_of_ble_eq_true rfl) ?_ | refine And.intro (Int.natCast_nonneg _) ?_ | refine fun (_ : Nat) => ?_ | refine Ord.go ?_ | refine Run.go rfl ?_ | refine Cont.go rfl ?_ | refine OrdP.go ?_)
  refine ACall.ret (order_specD _ _ (Nat.le_trans (place_size x.2) (by decide))) ?_
  repeat (first | refine Ops.go ?_ | refine And.intro rfl ?_ | refine And.intro (Nat.le_of_ble_eq_true rfl) ?_ | refine And.intro (Int.natCast_nonneg _) ?_ | refine fun (_ : Nat) => ?_ | refine Ord.go ?_ | refine Run.go rfl ?_ | refine Cont.go rfl ?_ | refine OrdP.go ?_)
  exact ⟨_, [], FinOk.drop _ _, rfl⟩

theorem sortF_spec (k0 g Cp : Nat) (xs : List PX) (hn : xs.length ≤ 1000) : FnSpec C 69 [.sl k0 g Cp xs.length, .any (.func (.func 70) #[] #[])] [(g, .row tX 7 Cp (xs.map fun x => encX x.1))]
    (fun r L' => r = .tuple [] ∧ ∃ ys : List PX, ys.Perm xs ∧ ys.Pairwise (fun a b => ltOf cfX b a = false) ∧ L' = [(g, .row tX 7 Cp (ys.map fun x => encX x.1))]) :=
  FnSpec.sortFunc (C := C) (C' := CD) (ρ := Tryz.sortFull_ren) C_ok Tryz.sortFull rfl (fun _ _ h => h) trivial (fun h => h) ⟨_, Tryz.func69, rfl, rfl⟩ Tryz.isAgg58 Tryz.sizeOf58
    (fun x : PX => [.str x.1.p, .str x.1.d, .int .i64 x.1.v, .int .i64 x.1.m, .int .i64 x.1.c, .int .i64 x.1.o, .int .i64 x.1.k]) (fun x => [.string x.1.p, .string x.1.d, .int .i64 x.1.v, .int .i64 x.1.m, .int .i64 x.1.c, .int .i64 x.1.o, .int .i64 x.1.k]) (fun x => rfl) (fun x => rfl) cfX swoX
    70 cmp_spec xs (by omega) k0

theorem sub_list : ∀ {xs : List Fu}, (∀ x ∈ xs, parseE x.p = 0) → ∃ ys : List PX, ys.map (·.1) = xs
  | [], _ => ⟨[], rfl⟩
  | x :: xs, h => by
    obtain ⟨ys, e⟩ := sub_list (xs := xs) fun y hy => h y (.tail _ hy)
    exact ⟨⟨x, h x (.head _)⟩ :: ys, by rw [List.map_cons, e]⟩

theorem inOrder_spec (k0 g Cp : Nat) (xs l : List Fu) (hv : ∀ x ∈ xs, parseE x.p = 0) (hl : Sorted l) (hp : xs.Perm l) (hn : xs.length ≤ 1000) :
    FnSpec C 46 [.sl k0 g Cp xs.length] [(g, .row tX 7 Cp (xs.map encX))] (fun r L' => r = .sl 0 g Cp l.length ∧ L' = [(g, .row tX 7 Cp (l.map encX))]) := by
  obtain ⟨ys, rfl⟩ := sub_list hv
  have hm : ∀ ys : List PX, (ys.map (·.1)).map encX = ys.map fun x => encX x.1 := fun ys => by rw [List.map_map]; rfl
  have hc := sortF_spec k0 g Cp ys (by simpa using hn)
  have hfin : ∀ zs : List PX, zs.Perm ys → zs.Pairwise (fun a b => ltOf cfX b a = false) → zs.map (·.1) = l := fun zs h1 h2 => by
    have h3 : (zs.map (·.1)).Perm l := (h1.map _).trans hp
    have hnd : ((zs.map (·.1)).map (·.p)).Nodup := nodup_perm h3 hl.nodup
    refine Sorted.uniq ?_ hl h3
    unfold Sorted
    have h4 : (zs.map (·.1)).Pairwise (fun a b => a.p ≠ b.p) := List.pairwise_map.1 hnd
    have h5 : (zs.map (·.1)).Pairwise (fun a b => ¬ orderB b.p a.p < 0) := by
      rw [List.pairwise_map]
      refine h2.imp fun {a b} h => ?_
      exact of_decide_eq_false h
    refine (h4.and h5).imp fun {a b} h => ?_
    have h6 : orderB a.p b.p ≠ 0 := fun e => h.1 (orderB_eq.1 e)
    have := orderB_swap a.p b.p
    omega
  have hlen : l.length = ys.length := by rw [← hp.length_eq, List.length_map]
  rw [hm, List.length_map]
  refine FnSpec.start C_ok Tryz.func46 rfl rfl Tryz.ntmps46 ?_
  repeat (first | refine OpsA.cons ?_ | refine OpsA.nil ?_ | refine Run.textA C_ok (aopC_sound C_ok) ?_ | refine And.intro rfl ?_ | refine And.intro (Nat.le_of_ble_eq_true rfl) ?_ | refine And.intro (Int.natCast_nonneg _) ?_ | refine fun (_ : Nat) => ?_ | refine Run.go rfl ?_ | refine Cont.go rfl ?_)
  refine ACallT.ok (ACall.all _ hc ?_)
  rintro r L' ⟨rfl, zs, h1, h2, rfl⟩
  repeat (first | refine OpsA.cons ?_ | refine OpsA.nil ?_ | refine Run.textA C_ok (aopC_sound C_ok) ?_ | refine And.intro rfl ?_ | refine And.intro (Nat.le_of_ble_eq_true rfl) ?_ | refine And.intro (Int.natCast_nonneg _) ?_ | refine fun (_ : Nat) => ?_ | refine Run.go rfl ?_ | refine Cont.go rfl ?_)
  refine ⟨.sl 0 g Cp l.length, _, FinOk.keep _ [0] (by rw [hlen]; exact Sub.sl _ 0 _ _ _) (by decide) rfl, rfl, ?_⟩
  have := hfin zs h1 h2
  rw [← this, List.map_map]
  rfl
theorem inOrder_nil : FnSpec C 46 [.nils] [] (fun r L' => r = .nils ∧ L' = []) := by
  have hc := FnSpec.sortFunc_nil (C := C) (ρ := Tryz.sortFull_ren) Tryz.sortFull ⟨_, Tryz.func69, rfl, rfl⟩ (.func (.func 70) #[] #[])
  refine FnSpec.start C_ok Tryz.func46 rfl rfl Tryz.ntmps46 ?_
  repeat (first | refine OpsA.cons ?_ | refine OpsA.nil ?_ | refine Run.textA C_ok (aopC_sound C_ok) ?_ | refine And.intro rfl ?_ | refine And.intro (Nat.le_of_ble_eq_true rfl) ?_ | refine And.intro (Int.natCast_nonneg _) ?_ | refine fun (_ : Nat) => ?_ | refine Run.go rfl ?_ | refine Cont.go rfl ?_)
  refine ACallT.ok (ACall.all _ hc ?_)
  rintro r L' ⟨rfl, rfl⟩
  repeat (first | refine OpsA.cons ?_ | refine OpsA.nil ?_ | refine Run.textA C_ok (aopC_sound C_ok) ?_ | refine And.intro rfl ?_ | refine And.intro (Nat.le_of_ble_eq_true rfl) ?_ | refine And.intro (Int.natCast_nonneg _) ?_ | refine fun (_ : Nat) => ?_ | refine Run.go rfl ?_ | refine Cont.go rfl ?_)
  exact ⟨_, [], FinOk.drop _ _, rfl, rfl⟩

theorem leftOf_mem {es : Array MapEntry} {seen : Array Nat} {e : MapEntry} (h : e ∈ (leftOf es seen).toList) : e ∈ es.toList := by
  unfold leftOf at h
  simp only [Array.toList_filter, List.mem_filter] at h
  exact h.1
theorem kids_spec (gm : Nat) {l : List Fu} {es : Array MapEntry} {cl : Nat} (h : TM l es cl) (hi : TInv l) (at_ : ByteArray) :
    FnSpec C 77 [.any (.map (some gm)), .str at_] [(gm, .obj (.map es cl))] (fun r L' => ∃ v g o, LX 1 (kidsF l at_) v g o ∧ r = v ∧ L' = [(gm, .obj (.map es cl)), (g, o)]) := by
  obtain ⟨M, hp, hm⟩ := h.map
  refine FnSpec.start C_ok Tryz.func77 rfl rfl Tryz.ntmps77 ?_
  repeat (first | refine OpsA.cons ?_ | refine OpsA.nil ?_ | refine Run.textA C_ok (aopC_sound C_ok) ?_ | refine And.intro rfl ?_ | refine And.intro (Nat.le_of_ble_eq_true rfl) ?_ | refine And.intro (Int.natCast_nonneg _) ?_ | refine fun (_ : Nat) => ?_ | refine Run.go rfl ?_ | refine Cont.go rfl ?_)
  refine ⟨0, es, cl, rfl, ?_⟩
  repeat (first | refine OpsA.cons ?_ | refine OpsA.nil ?_ | refine Run.textA C_ok (aopC_sound C_ok) ?_ | refine And.intro rfl ?_ | refine And.intro (Nat.le_of_ble_eq_true rfl) ?_ | refine And.intro (Int.natCast_nonneg _) ?_ | refine fun (_ : Nat) => ?_ | refine Run.go rfl ?_ | refine Cont.go rfl ?_)
  rename_i gi
  refine Run.loopW (fun k env L => ∃ (V : List Fu) (seen : Array Nat) (v : AV) (g : Nat) (o : AObj), k = M.length - V.length ∧ Visited M es seen V ∧ LX 2 (kidsF V at_) v g o ∧ env = [.any (.map (some gm)), .str at_, .junk, .junk, .nils, v, .junk, .junk, .junk, .junk, .junk, .ptr 1 gi 0, .junk, .junk, .junk, .junk, .junk, .junk, .junk, .junk, .junk, .junk, .junk, .junk, .junk, .junk, .junk, .junk, .junk, .junk, .junk, .junk, .junk, .junk, .junk] ∧ L = [(gm, .obj (.map es cl)), (gi, .obj (.mapIter (some gm) cl seen cl)), (g, o)]) M.length
    [.any (.map (some gm)), .str at_, .junk, .junk, .nils, .nils, .junk, .junk, .junk, .junk, .junk, .ptr 1 gi 0, .junk, .junk, .junk, .junk, .junk, .junk, .junk, .junk, .junk, .junk, .junk, .junk, .junk, .junk, .junk, .junk, .junk, .junk, .junk, .junk, .junk, .junk, .junk] [(gm, .obj (.map es cl)), (gi, .obj (.mapIter (some gm) cl #[] cl)), (0, .dead)] (Weak.sel ?_ [0, 1, 9] (by decide) ⟨rfl, SubO.refl _, rfl, SubO.refl _, rfl, trivial, trivial⟩)
    ⟨[], #[], .nils, 0, .dead, by simp, Visited.start, .inl ⟨rfl, rfl, rfl⟩, rfl, rfl⟩ ?_
  · repeat (first | exact trivial | refine And.intro (Sub.junk _) ?_ | refine And.intro (Sub.refl _) ?_ | refine And.intro (Sub.sl _ _ _ _ _) ?_ | refine And.intro (Sub.ptr _ _ _ _) ?_)
  rintro k env L ⟨V, seen, v, g, o, rfl, hV, hv, rfl, rfl⟩
  repeat (first | refine OpsA.cons ?_ | refine OpsA.nil ?_ | refine Run.textA C_ok (aopC_sound C_ok) ?_ | refine And.intro rfl ?_ | refine And.intro (Nat.le_of_ble_eq_true rfl) ?_ | refine And.intro (Int.natCast_nonneg _) ?_ | refine fun (_ : Nat) => ?_ | refine Run.go rfl ?_ | refine Cont.go rfl ?_)
  refine ⟨0, es, cl, rfl, hm.old, Nat.le_refl _, fun h0 => ?_, fun e he => ?_⟩
  · have hVM := hV.stop hm h0
    have hkp : (kidsF V at_).Perm (kidsF l at_) := (hVM.trans hp).filter _
    repeat (first | refine OpsA.cons ?_ | refine OpsA.nil ?_ | refine Run.textA C_ok (aopC_sound C_ok) ?_ | refine And.intro rfl ?_ | refine And.intro (Nat.le_of_ble_eq_true rfl) ?_ | refine And.intro (Int.natCast_nonneg _) ?_ | refine fun (_ : Nat) => ?_ | refine Run.go rfl ?_ | refine Cont.go rfl ?_)
    rcases hv with ⟨e0, rfl, rfl⟩ | ⟨Cp, rfl, rfl⟩
    · rw [e0] at hkp
      have hk0 : kidsF l at_ = [] := List.nil_perm.1 hkp
      refine ACallT.ok (ACall.ret inOrder_nil ?_)
      repeat (first | refine OpsA.cons ?_ | refine OpsA.nil ?_ | refine Run.textA C_ok (aopC_sound C_ok) ?_ | refine And.intro rfl ?_ | refine And.intro (Nat.le_of_ble_eq_true rfl) ?_ | refine And.intro (Int.natCast_nonneg _) ?_ | refine fun (_ : Nat) => ?_ | refine Run.go rfl ?_ | refine Cont.go rfl ?_)
      exact ⟨.nils, _, FinOk.keep _ [0, 9] (Sub.refl _) (by decide) rfl, .nils, 0, .dead, .inl ⟨hk0, rfl, rfl⟩, rfl, rfl⟩
    · refine ACallT.ok (ACall.sel [2] (by decide) [.sl 0 g Cp (kidsF V at_).length] _ (.one (Sub.sl _ _ _ _ _)) (inOrder_spec 0 g Cp (kidsF V at_) (kidsF l at_) (fun y hy => ?_) (hi.sorted.filter _) hkp ?_) ?_)
      · exact (hi.ok y (hp.mem_iff.1 (hVM.mem_iff.1 (List.mem_filter.1 hy).1))).1
      · have h1 := List.length_filter_le (fun x : Fu => decide (childB x.p at_)) V
        have h2 := hV.len
        have h3 := hp.length_eq
        have h4 := hi.len
        unfold kidsF
        omega
      rintro r L' ⟨rfl, rfl⟩
      refine ⟨.sl 2 g Cp (kidsF l at_).length, Sub.sl _ _ _ _ _, ?_⟩
      repeat (first | refine OpsA.cons ?_ | refine OpsA.nil ?_ | refine Run.textA C_ok (aopC_sound C_ok) ?_ | refine And.intro rfl ?_ | refine And.intro (Nat.le_of_ble_eq_true rfl) ?_ | refine And.intro (Int.natCast_nonneg _) ?_ | refine fun (_ : Nat) => ?_ | refine Run.go rfl ?_ | refine Cont.go rfl ?_)
      exact ⟨.sl 1 g Cp (kidsF l at_).length, _, FinOk.keep _ [0, 2] (Sub.sl _ _ _ _ _) (by decide) rfl, _, g, _, .inr ⟨Cp, rfl, rfl⟩, rfl, rfl⟩
  · obtain ⟨x, hx, ek, ev, hV', hlt⟩ := hV.step hm he
    refine ⟨.str x.p, encX x, by rw [ek]; rfl, by rw [ev]; rfl, ?_⟩
    repeat (first | refine OpsA.cons ?_ | refine OpsA.nil ?_ | refine Run.textA C_ok (aopC_sound C_ok) ?_ | refine And.intro rfl ?_ | refine And.intro (Nat.le_of_ble_eq_true rfl) ?_ | refine And.intro (Int.natCast_nonneg _) ?_ | refine fun (_ : Nat) => ?_ | refine Run.go rfl ?_ | refine Cont.go rfl ?_)
    refine ⟨0, es, seen, e, rfl, rfl, leftOf_mem he, hm.born, .str x.p, encX x, by rw [ek]; rfl, by rw [ev]; rfl, ?_⟩
    repeat (first | refine OpsA.cons ?_ | refine OpsA.nil ?_ | refine Run.textA C_ok (aopC_sound C_ok) ?_ | refine And.intro rfl ?_ | refine And.intro (Nat.le_of_ble_eq_true rfl) ?_ | refine And.intro (Int.natCast_nonneg _) ?_ | refine fun (_ : Nat) => ?_ | refine Run.go rfl ?_ | refine Cont.go rfl ?_)
    refine ACallT.ok (ACall.ret (parent_spec x.p) ?_)
    repeat (first | refine OpsA.cons ?_ | refine OpsA.nil ?_ | refine Run.textA C_ok (aopC_sound C_ok) ?_ | refine And.intro rfl ?_ | refine And.intro (Nat.le_of_ble_eq_true rfl) ?_ | refine And.intro (Int.natCast_nonneg _) ?_ | refine fun (_ : Nat) => ?_ | refine Run.go rfl ?_ | refine Cont.go rfl ?_)
    have hsub : ∀ V : List Fu, (kidsF V at_).length ≤ V.length := fun V => List.length_filter_le _ V
    have hlen : (kidsF V at_).length ≤ 64 := by
      have h1 := hsub V
      have h2 := hV.len
      have h3 := hp.length_eq
      have h4 := hi.len
      omega
    have hno : ¬ childB x.p at_ → kidsF (V ++ [x]) at_ = kidsF V at_ := fun h => by unfold kidsF; rw [List.filter_append]; simp [h]
    have hyes : childB x.p at_ → kidsF (V ++ [x]) at_ = kidsF V at_ ++ [x] := fun h => by unfold kidsF; rw [List.filter_append]; simp [h]
    refine ⟨fun h1 => ?_, fun h1 => ?_⟩
    · have h1 : parentE x.p = 0 := h1
      repeat (first | refine OpsA.cons ?_ | refine OpsA.nil ?_ | refine Run.textA C_ok (aopC_sound C_ok) ?_ | refine And.intro rfl ?_ | refine And.intro (Nat.le_of_ble_eq_true rfl) ?_ | refine And.intro (Int.natCast_nonneg _) ?_ | refine fun (_ : Nat) => ?_ | refine Run.go rfl ?_ | refine Cont.go rfl ?_)
      refine ⟨fun h2 => ?_, fun h2 => ?_⟩
      · have h2 : parentB x.p = at_ := h2
        have hc : childB x.p at_ := ⟨h1, h2⟩
        repeat (first | refine OpsA.cons ?_ | refine OpsA.nil ?_ | refine Run.textA C_ok (aopC_sound C_ok) ?_ | refine And.intro rfl ?_ | refine And.intro (Nat.le_of_ble_eq_true rfl) ?_ | refine And.intro (Int.natCast_nonneg _) ?_ | refine fun (_ : Nat) => ?_ | refine Run.go rfl ?_ | refine Cont.go rfl ?_)
        rcases hv with ⟨e0, rfl, rfl⟩ | ⟨Cp, rfl, rfl⟩
        · repeat (first | refine OpsA.cons ?_ | refine OpsA.nil ?_ | refine Run.textA C_ok (aopC_sound C_ok) ?_ | refine And.intro rfl ?_ | refine And.intro (Nat.le_of_ble_eq_true rfl) ?_ | refine And.intro (Int.natCast_nonneg _) ?_ | refine fun (_ : Nat) => ?_ | refine Run.go rfl ?_ | refine Cont.go rfl ?_)
          refine ⟨fun h => absurd h (List.cons_ne_nil _ _), fun _ => ?_⟩
          repeat (first | refine OpsA.cons ?_ | refine OpsA.nil ?_ | refine Run.textA C_ok (aopC_sound C_ok) ?_ | refine And.intro rfl ?_ | refine And.intro (Nat.le_of_ble_eq_true rfl) ?_ | refine And.intro (Int.natCast_nonneg _) ?_ | refine fun (_ : Nat) => ?_ | refine Run.go rfl ?_ | refine Cont.go rfl ?_)
          rename_i g' Cp'
          refine Cont.lpW ?_
          refine ⟨M.length - (V ++ [x]).length, _, _, by rw [List.length_append]; simp only [List.length_singleton]; omega, Weak.sel ?_ [0, 1, 5] (by decide) ?_, ⟨V ++ [x], _, .sl 2 g' Cp' 1, g', _, rfl, hV', (hyes hc).symm ▸ LN.one e0, rfl, rfl⟩⟩
          · repeat (first | exact trivial | refine And.intro (Sub.junk _) ?_ | refine And.intro (Sub.refl _) ?_ | refine And.intro (Sub.sl _ _ _ _ _) ?_ | refine And.intro (Sub.ptr _ _ _ _) ?_)
          · repeat (first | exact trivial | refine And.intro rfl ?_ | refine And.intro (SubO.refl _) ?_ | refine And.intro trivial ?_ | refine And.intro (SubO.cells (by repeat (first | exact trivial | refine And.intro (Sub.refl _) ?_ | refine And.intro (Sub.sl _ _ _ _ _) ?_ | refine And.intro (Sub.ptr _ _ _ _) ?_))) ?_)
        · repeat (first | refine OpsA.cons ?_ | refine OpsA.nil ?_ | refine Run.textA C_ok (aopC_sound C_ok) ?_ | refine And.intro rfl ?_ | refine And.intro (Nat.le_of_ble_eq_true rfl) ?_ | refine And.intro (Int.natCast_nonneg _) ?_ | refine fun (_ : Nat) => ?_ | refine Run.go rfl ?_ | refine Cont.go rfl ?_)
          refine ⟨by simp, ?_⟩
          repeat (first | refine OpsA.cons ?_ | refine OpsA.nil ?_ | refine Run.textA C_ok (aopC_sound C_ok) ?_ | refine And.intro rfl ?_ | refine And.intro (Nat.le_of_ble_eq_true rfl) ?_ | refine And.intro (Int.natCast_nonneg _) ?_ | refine fun (_ : Nat) => ?_ | refine Run.go rfl ?_ | refine Cont.go rfl ?_)
          refine ⟨by simp; omega, ?_⟩
          repeat (first | refine OpsA.cons ?_ | refine OpsA.nil ?_ | refine Run.textA C_ok (aopC_sound C_ok) ?_ | refine And.intro rfl ?_ | refine And.intro (Nat.le_of_ble_eq_true rfl) ?_ | refine And.intro (Int.natCast_nonneg _) ?_ | refine fun (_ : Nat) => ?_ | refine Run.go rfl ?_ | refine Cont.go rfl ?_)
          rename_i g' Cp'
          refine Cont.lpW ?_
          refine ⟨M.length - (V ++ [x]).length, _, _, by rw [List.length_append]; simp only [List.length_singleton]; omega, Weak.sel ?_ [0, 1, 2] (by decide) ?_, ⟨V ++ [x], _, .sl 2 g' Cp' (((kidsF V at_).map encX).length + 1), g', .row tX 7 Cp' ((kidsF V at_).map encX ++ [encX x]), rfl, hV', (hyes hc).symm ▸ LN.snoc, rfl, rfl⟩⟩
          · repeat (first | exact trivial | refine And.intro (Sub.junk _) ?_ | refine And.intro (Sub.refl _) ?_ | refine And.intro (Sub.sl _ _ _ _ _) ?_ | refine And.intro (Sub.ptr _ _ _ _) ?_)
          · repeat (first | exact trivial | refine And.intro rfl ?_ | refine And.intro (SubO.refl _) ?_ | refine And.intro trivial ?_ | refine And.intro (SubO.cells (by repeat (first | exact trivial | refine And.intro (Sub.refl _) ?_ | refine And.intro (Sub.sl _ _ _ _ _) ?_ | refine And.intro (Sub.ptr _ _ _ _) ?_))) ?_)
      · have h2 : ¬ parentB x.p = at_ := h2
        have hc : ¬ childB x.p at_ := fun h => h2 h.2
        repeat (first | refine OpsA.cons ?_ | refine OpsA.nil ?_ | refine Run.textA C_ok (aopC_sound C_ok) ?_ | refine And.intro rfl ?_ | refine And.intro (Nat.le_of_ble_eq_true rfl) ?_ | refine And.intro (Int.natCast_nonneg _) ?_ | refine fun (_ : Nat) => ?_ | refine Run.go rfl ?_ | refine Cont.go rfl ?_)
        refine Cont.lpW ?_
        refine ⟨M.length - (V ++ [x]).length, _, _, by rw [List.length_append]; simp only [List.length_singleton]; omega, Weak.sel ?_ [0, 1, 2] (by decide) ?_, ⟨V ++ [x], _, v, g, o, rfl, hV', (hno hc).symm ▸ hv, rfl, rfl⟩⟩
        · repeat (first | exact trivial | refine And.intro (Sub.junk _) ?_ | refine And.intro (Sub.refl _) ?_ | refine And.intro (Sub.sl _ _ _ _ _) ?_ | refine And.intro (Sub.ptr _ _ _ _) ?_)
        · repeat (first | exact trivial | refine And.intro rfl ?_ | refine And.intro (SubO.refl _) ?_ | refine And.intro trivial ?_ | refine And.intro (SubO.cells (by repeat (first | exact trivial | refine And.intro (Sub.refl _) ?_ | refine And.intro (Sub.sl _ _ _ _ _) ?_ | refine And.intro (Sub.ptr _ _ _ _) ?_))) ?_)
    · have h1 : ¬ parentE x.p = 0 := h1
      have hc : ¬ childB x.p at_ := fun h => h1 h.1
      repeat (first | refine OpsA.cons ?_ | refine OpsA.nil ?_ | refine Run.textA C_ok (aopC_sound C_ok) ?_ | refine And.intro rfl ?_ | refine And.intro (Nat.le_of_ble_eq_true rfl) ?_ | refine And.intro (Int.natCast_nonneg _) ?_ | refine fun (_ : Nat) => ?_ | refine Run.go rfl ?_ | refine Cont.go rfl ?_)
      refine Cont.lpW ?_
      refine ⟨M.length - (V ++ [x]).length, _, _, by rw [List.length_append]; simp only [List.length_singleton]; omega, Weak.sel ?_ [0, 1, 2] (by decide) ?_, ⟨V ++ [x], _, v, g, o, rfl, hV', (hno hc).symm ▸ hv, rfl, rfl⟩⟩
      · repeat (first | exact trivial | refine And.intro (Sub.junk _) ?_ | refine And.intro (Sub.refl _) ?_ | refine And.intro (Sub.sl _ _ _ _ _) ?_ | refine And.intro (Sub.ptr _ _ _ _) ?_)
      · repeat (first | exact trivial | refine And.intro rfl ?_ | refine And.intro (SubO.refl _) ?_ | refine And.intro trivial ?_ | refine And.intro (SubO.cells (by repeat (first | exact trivial | refine And.intro (Sub.refl _) ?_ | refine And.intro (Sub.sl _ _ _ _ _) ?_ | refine And.intro (Sub.ptr _ _ _ _) ?_))) ?_)
theorem nodes_spec (gt gm : Nat) {l : List Fu} {es : Array MapEntry} {cl : Nat} (h : TM l es cl) (hi : TInv l) :
    FnSpec C 17 [.ptr 0 gt 0] (TreeL gt gm es cl) (fun r L' => ∃ g Cp, r = .sl 2 g Cp l.length ∧ L' = TreeL gt gm es cl ++ [(g, .row tX 7 Cp (l.map encX))]) := by
  obtain ⟨M, hp, hm⟩ := h.map
  refine FnSpec.start C_ok Tryz.func17 rfl rfl Tryz.ntmps17 ?_
  repeat (first | refine OpsA.cons ?_ | refine OpsA.nil ?_ | refine Run.textA C_ok (aopC_sound C_ok) ?_ | refine And.intro rfl ?_ | refine And.intro (Nat.le_of_ble_eq_true rfl) ?_ | refine And.intro (Int.natCast_nonneg _) ?_ | refine fun (_ : Nat) => ?_ | refine Run.go rfl ?_ | refine Cont.go rfl ?_)
  refine ACallT.ok (ACall.sel [0] (by decide) [.ptr 0 gt 0] _ (.one (Sub.refl _)) (none_spec gt (some gm)) ?_)
  rintro r L' ⟨rfl, rfl⟩
  refine ⟨_, Sub.refl _, ?_⟩
  repeat (first | refine OpsA.cons ?_ | refine OpsA.nil ?_ | refine Run.textA C_ok (aopC_sound C_ok) ?_ | refine And.intro rfl ?_ | refine And.intro (Nat.le_of_ble_eq_true rfl) ?_ | refine And.intro (Int.natCast_nonneg _) ?_ | refine fun (_ : Nat) => ?_ | refine Run.go rfl ?_ | refine Cont.go rfl ?_)
  refine ⟨1, es, cl, rfl, ?_⟩
  repeat (first | refine OpsA.cons ?_ | refine OpsA.nil ?_ | refine Run.textA C_ok (aopC_sound C_ok) ?_ | refine And.intro rfl ?_ | refine And.intro (Nat.le_of_ble_eq_true rfl) ?_ | refine And.intro (Int.natCast_nonneg _) ?_ | refine fun (_ : Nat) => ?_ | refine Run.go rfl ?_ | refine Cont.go rfl ?_)
  rename_i gi
  refine Run.loopW (fun k env L => ∃ (V : List Fu) (seen : Array Nat) (v : AV) (g : Nat) (o : AObj), k = M.length - V.length ∧ Visited M es seen V ∧ LX 3 V v g o ∧ env = [.ptr 0 gt 0, .junk, .nils, v, .junk, .junk, .junk, .junk, .junk, .junk, .junk, .junk, .ptr 2 gi 0, .junk, .junk, .junk, .junk, .junk, .junk, .junk, .junk, .junk, .junk] ∧ L = [(gt, .cells tT [.any (.map (some gm))]), (gm, .obj (.map es cl)), (gi, .obj (.mapIter (some gm) cl seen cl)), (g, o)]) M.length
    [.ptr 0 gt 0, .junk, .nils, .nils, .junk, .junk, .junk, .junk, .junk, .junk, .junk, .junk, .ptr 2 gi 0, .junk, .junk, .junk, .junk, .junk, .junk, .junk, .junk, .junk, .junk] [(gt, .cells tT [.any (.map (some gm))]), (gm, .obj (.map es cl)), (gi, .obj (.mapIter (some gm) cl #[] cl)), (0, .dead)] (Weak.sel ?_ [0, 1, 2, 9] (by decide) ⟨rfl, SubO.refl _, rfl, SubO.refl _, rfl, SubO.refl _, rfl, trivial, trivial⟩)
    ⟨[], #[], .nils, 0, .dead, by simp, Visited.start, .inl ⟨rfl, rfl, rfl⟩, rfl, rfl⟩ ?_
  · repeat (first | exact trivial | refine And.intro (Sub.junk _) ?_ | refine And.intro (Sub.refl _) ?_ | refine And.intro (Sub.sl _ _ _ _ _) ?_ | refine And.intro (Sub.ptr _ _ _ _) ?_)
  rintro k env L ⟨V, seen, v, g, o, rfl, hV, hv, rfl, rfl⟩
  repeat (first | refine OpsA.cons ?_ | refine OpsA.nil ?_ | refine Run.textA C_ok (aopC_sound C_ok) ?_ | refine And.intro rfl ?_ | refine And.intro (Nat.le_of_ble_eq_true rfl) ?_ | refine And.intro (Int.natCast_nonneg _) ?_ | refine fun (_ : Nat) => ?_ | refine Run.go rfl ?_ | refine Cont.go rfl ?_)
  refine ⟨1, es, cl, rfl, hm.old, Nat.le_refl _, fun h0 => ?_, fun e he => ?_⟩
  · have hVM := hV.stop hm h0
    have hkp : V.Perm l := hVM.trans hp
    repeat (first | refine OpsA.cons ?_ | refine OpsA.nil ?_ | refine Run.textA C_ok (aopC_sound C_ok) ?_ | refine And.intro rfl ?_ | refine And.intro (Nat.le_of_ble_eq_true rfl) ?_ | refine And.intro (Int.natCast_nonneg _) ?_ | refine fun (_ : Nat) => ?_ | refine Run.go rfl ?_ | refine Cont.go rfl ?_)
    rcases hv with ⟨e0, rfl, rfl⟩ | ⟨Cp, rfl, rfl⟩
    · rw [e0] at hkp
      obtain ⟨r, hr, _⟩ := hi.root
      rw [List.nil_perm.1 hkp] at hr
      cases hr
    · refine ACallT.ok (ACall.sel [3] (by decide) [.sl 0 g Cp V.length] _ (.one (Sub.sl _ _ _ _ _)) (inOrder_spec 0 g Cp V l (fun y hy => (hi.ok y (hkp.mem_iff.1 hy)).1) hi.sorted hkp ?_) ?_)
      · have h3 := hkp.length_eq
        have h4 := hi.len
        omega
      rintro r L' ⟨rfl, rfl⟩
      refine ⟨.sl 3 g Cp l.length, Sub.sl _ _ _ _ _, ?_⟩
      repeat (first | refine OpsA.cons ?_ | refine OpsA.nil ?_ | refine Run.textA C_ok (aopC_sound C_ok) ?_ | refine And.intro rfl ?_ | refine And.intro (Nat.le_of_ble_eq_true rfl) ?_ | refine And.intro (Int.natCast_nonneg _) ?_ | refine fun (_ : Nat) => ?_ | refine Run.go rfl ?_ | refine Cont.go rfl ?_)
      exact ⟨.sl 2 g Cp l.length, _, FinOk.keep _ [0, 1, 3] (Sub.sl _ _ _ _ _) (by decide) rfl, g, Cp, rfl, rfl⟩
  · obtain ⟨x, hx, ek, ev, hV', hlt⟩ := hV.step hm he
    refine ⟨.str x.p, encX x, by rw [ek]; rfl, by rw [ev]; rfl, ?_⟩
    repeat (first | refine OpsA.cons ?_ | refine OpsA.nil ?_ | refine Run.textA C_ok (aopC_sound C_ok) ?_ | refine And.intro rfl ?_ | refine And.intro (Nat.le_of_ble_eq_true rfl) ?_ | refine And.intro (Int.natCast_nonneg _) ?_ | refine fun (_ : Nat) => ?_ | refine Run.go rfl ?_ | refine Cont.go rfl ?_)
    refine ⟨1, es, seen, e, rfl, rfl, leftOf_mem he, hm.born, .str x.p, encX x, by rw [ek]; rfl, by rw [ev]; rfl, ?_⟩
    have hlen : V.length ≤ 64 := by
      have h3 := hp.length_eq
      have h4 := hi.len
      omega
    repeat (first | refine OpsA.cons ?_ | refine OpsA.nil ?_ | refine Run.textA C_ok (aopC_sound C_ok) ?_ | refine And.intro rfl ?_ | refine And.intro (Nat.le_of_ble_eq_true rfl) ?_ | refine And.intro (Int.natCast_nonneg _) ?_ | refine fun (_ : Nat) => ?_ | refine Run.go rfl ?_ | refine Cont.go rfl ?_)
    rcases hv with ⟨e0, rfl, rfl⟩ | ⟨Cp, rfl, rfl⟩
    · repeat (first | refine OpsA.cons ?_ | refine OpsA.nil ?_ | refine Run.textA C_ok (aopC_sound C_ok) ?_ | refine And.intro rfl ?_ | refine And.intro (Nat.le_of_ble_eq_true rfl) ?_ | refine And.intro (Int.natCast_nonneg _) ?_ | refine fun (_ : Nat) => ?_ | refine Run.go rfl ?_ | refine Cont.go rfl ?_)
      refine ⟨fun h => absurd h (List.cons_ne_nil _ _), fun _ => ?_⟩
      repeat (first | refine OpsA.cons ?_ | refine OpsA.nil ?_ | refine Run.textA C_ok (aopC_sound C_ok) ?_ | refine And.intro rfl ?_ | refine And.intro (Nat.le_of_ble_eq_true rfl) ?_ | refine And.intro (Int.natCast_nonneg _) ?_ | refine fun (_ : Nat) => ?_ | refine Run.go rfl ?_ | refine Cont.go rfl ?_)
      rename_i g' Cp'
      refine Cont.lpW ?_
      refine ⟨M.length - (V ++ [x]).length, _, _, by rw [List.length_append]; simp only [List.length_singleton]; omega, Weak.sel ?_ [0, 1, 2, 6] (by decide) ?_, ⟨V ++ [x], _, .sl 3 g' Cp' 1, g', _, rfl, hV', LN.one e0, rfl, rfl⟩⟩
      · repeat (first | exact trivial | refine And.intro (Sub.junk _) ?_ | refine And.intro (Sub.refl _) ?_ | refine And.intro (Sub.sl _ _ _ _ _) ?_ | refine And.intro (Sub.ptr _ _ _ _) ?_)
      · repeat (first | exact trivial | refine And.intro rfl ?_ | refine And.intro (SubO.refl _) ?_ | refine And.intro trivial ?_ | refine And.intro (SubO.cells (by repeat (first | exact trivial | refine And.intro (Sub.refl _) ?_ | refine And.intro (Sub.sl _ _ _ _ _) ?_ | refine And.intro (Sub.ptr _ _ _ _) ?_))) ?_)
    · repeat (first | refine OpsA.cons ?_ | refine OpsA.nil ?_ | refine Run.textA C_ok (aopC_sound C_ok) ?_ | refine And.intro rfl ?_ | refine And.intro (Nat.le_of_ble_eq_true rfl) ?_ | refine And.intro (Int.natCast_nonneg _) ?_ | refine fun (_ : Nat) => ?_ | refine Run.go rfl ?_ | refine Cont.go rfl ?_)
      refine ⟨by simp, ?_⟩
      repeat (first | refine OpsA.cons ?_ | refine OpsA.nil ?_ | refine Run.textA C_ok (aopC_sound C_ok) ?_ | refine And.intro rfl ?_ | refine And.intro (Nat.le_of_ble_eq_true rfl) ?_ | refine And.intro (Int.natCast_nonneg _) ?_ | refine fun (_ : Nat) => ?_ | refine Run.go rfl ?_ | refine Cont.go rfl ?_)
      refine ⟨by simp; omega, ?_⟩
      repeat (first | refine OpsA.cons ?_ | refine OpsA.nil ?_ | refine Run.textA C_ok (aopC_sound C_ok) ?_ | refine And.intro rfl ?_ | refine And.intro (Nat.le_of_ble_eq_true rfl) ?_ | refine And.intro (Int.natCast_nonneg _) ?_ | refine fun (_ : Nat) => ?_ | refine Run.go rfl ?_ | refine Cont.go rfl ?_)
      rename_i g' Cp'
      refine Cont.lpW ?_
      refine ⟨M.length - (V ++ [x]).length, _, _, by rw [List.length_append]; simp only [List.length_singleton]; omega, Weak.sel ?_ [0, 1, 2, 3] (by decide) ?_, ⟨V ++ [x], _, .sl 3 g' Cp' ((V.map encX).length + 1), g', .row tX 7 Cp' (V.map encX ++ [encX x]), rfl, hV', LN.snoc, rfl, rfl⟩⟩
      · repeat (first | exact trivial | refine And.intro (Sub.junk _) ?_ | refine And.intro (Sub.refl _) ?_ | refine And.intro (Sub.sl _ _ _ _ _) ?_ | refine And.intro (Sub.ptr _ _ _ _) ?_)
      · repeat (first | exact trivial | refine And.intro rfl ?_ | refine And.intro (SubO.refl _) ?_ | refine And.intro trivial ?_ | refine And.intro (SubO.cells (by repeat (first | exact trivial | refine And.intro (Sub.refl _) ?_ | refine And.intro (Sub.sl _ _ _ _ _) ?_ | refine And.intro (Sub.ptr _ _ _ _) ?_))) ?_)
end Go.Proofs.YtiikjcdjgmlcgaaGreatDoor.HBT
/- Names and counted places, as the program makes them. -/
namespace Go.Proofs.YtiikjcdjgmlcgaaGreatDoor.HBT
open Go Go.Proofs.YtiikjcdjgmlcgaaGreatDoor.HB Go.RowKit
set_option maxRecDepth 8000

theorem below_drewN (w : World) (k : Nat) (os : Array Obj) : Below w.heap.size w (Sort.grow (w.drewN k) os) :=
  ⟨rfl, rfl, rfl, by simp [Sort.grow, World.drewN], fun i hi => by simp only [Sort.grow, World.drewN]; rw [Array.getElem?_append_left hi]⟩
theorem pow_named : Tryz.prog.globalNamed "internal/strconv.uint64pow10" = some 4 := by kernel_rfl
theorem tab_of {imm : Nat → Prop} {w : World} (hG : G imm w) : Lib.TabIs Tryz.prog w "internal/strconv.uint64pow10" .u64 Lib.pow10Tab := by
  obtain ⟨_, _, _, _, _, t, fr, h⟩ := hG
  unfold Lib.TabIs World.var?
  rw [pow_named]
  simp [h]
theorem itoa_spec (n : Int) (h0 : -9223372036854775808 ≤ n) (h1 : n ≤ 9223372036854775807) : FnSpec C 121 [.int .i64 n] [] (fun r L' => r = .str ⟨(Lib.itoa n).toArray⟩ ∧ L' = []) :=
  FnSpec.of_below Tryz.func121 rfl rfl rfl fun imm w vs hG _ hl hv => by
    obtain ⟨v, rfl⟩ : ∃ v, vs = [v] := by
      match vs, hl with
      | [v], _ => exact ⟨v, rfl⟩
    rw [(hv 0 _ v rfl rfl).int_inv]
    refine ⟨_, .str _, (Tryz.strconv_Itoa n h0 h1 w (tab_of hG)).mono ?_⟩
    rintro e w' ⟨rfl, k, os, rfl⟩
    exact ⟨rfl, below_drewN w k os⟩
theorem repeat_spec (s : ByteArray) (c : Nat) (hc : c ≤ 1000) (hs : s.size ≤ 1000) : FnSpec C 122 [.str s, .int .i64 (c : Int)] [] (fun r L' => r = .str ⟨(Lib.repeatL s.data.toList c).toArray⟩ ∧ L' = []) :=
  FnSpec.of_below Tryz.func122 rfl rfl rfl fun imm w vs hG _ hl hv => by
    obtain ⟨u, v, rfl, hu, hv'⟩ := two_vals hl hv
    rw [hu.str_inv, hv'.int_inv]
    exact ⟨_, .str _, Tryz.strings_Repeat s c w (by omega) (Nat.le_trans (Nat.mul_le_mul hs hc) (by decide))⟩
theorem cloneS_spec (s : ByteArray) (hs : s.size ≤ 1000) : FnSpec C 123 [.str s] [] (fun r L' => r = .str s ∧ L' = []) :=
  FnSpec.of_below Tryz.func123 rfl rfl rfl fun imm w vs hG _ hl hv => by
    obtain ⟨v, rfl⟩ : ∃ v, vs = [v] := by
      match vs, hl with
      | [v], _ => exact ⟨v, rfl⟩
    rw [(hv 0 _ v rfl rfl).str_inv]
    exact ⟨_, .str _, Tryz.stringslite_Clone s w (by omega)⟩
theorem clone_str (s : ByteArray) (hs : s.size ≤ 1000) : FnSpec C 95 [.str s] [] (fun r L' => r = .str s ∧ L' = []) := by
  refine FnSpec.start C_ok Tryz.func95 rfl rfl Tryz.ntmps95 ?_
  repeat (first | refine OpsA.cons ?_ | refine OpsA.nil ?_ | refine Run.textA C_ok (aopC_sound C_ok) ?_ | refine And.intro rfl ?_ | refine And.intro (Nat.le_of_ble_eq_true rfl) ?_ | refine And.intro (Int.natCast_nonneg _) ?_ | refine fun (_ : Nat) => ?_ | refine Run.go rfl ?_ | refine Cont.go rfl ?_)
  refine ACallT.ok (ACall.ret (cloneS_spec s hs) ?_)
  repeat (first | refine OpsA.cons ?_ | refine OpsA.nil ?_ | refine Run.textA C_ok (aopC_sound C_ok) ?_ | refine And.intro rfl ?_ | refine And.intro (Nat.le_of_ble_eq_true rfl) ?_ | refine And.intro (Int.natCast_nonneg _) ?_ | refine fun (_ : Nat) => ?_ | refine Run.go rfl ?_ | refine Cont.go rfl ?_)
  exact ⟨_, [], FinOk.drop _ _, rfl, rfl⟩

theorem dec_digs (k : Nat) (h : k ≤ 99999) : Lib.repeatL [48] (5 - (Lib.decDigits k).length) ++ Lib.decDigits k = digs k ∧ (Lib.decDigits k).length ≤ 5 := by
  have d1 : ∀ u, u < 10 → Lib.decDigits u = [UInt8.ofNat (48 + u)] := fun u hu => by rw [Lib.decDigits, dif_pos hu]
  have d2 : ∀ u, 10 ≤ u → Lib.decDigits u = Lib.decDigits (u / 10) ++ [UInt8.ofNat (48 + u % 10)] := fun u hu => by
    conv => lhs; rw [Lib.decDigits, dif_neg (Nat.not_lt.2 hu)]
  have z : UInt8.ofNat (48 + 0) = (48 : UInt8) := rfl
  by_cases h1 : k < 10
  · have e1 : k / 10000 % 10 = 0 := by omega
    have e2 : k / 1000 % 10 = 0 := by omega
    have e3 : k / 100 % 10 = 0 := by omega
    have e4 : k / 10 % 10 = 0 := by omega
    have e5 : k % 10 = k := by omega
    rw [d1 k h1]; unfold digs; rw [e1, e2, e3, e4, e5]
    exact ⟨rfl, by simp⟩
  by_cases h2 : k < 100
  · have e1 : k / 10000 % 10 = 0 := by omega
    have e2 : k / 1000 % 10 = 0 := by omega
    have e3 : k / 100 % 10 = 0 := by omega
    have e4 : k / 10 % 10 = k / 10 := by omega
    rw [d2 k (by omega), d1 (k / 10) (by omega)]; unfold digs; rw [e1, e2, e3, e4]
    exact ⟨rfl, by simp⟩
  by_cases h3 : k < 1000
  · have e1 : k / 10000 % 10 = 0 := by omega
    have e2 : k / 1000 % 10 = 0 := by omega
    have e3 : k / 100 % 10 = k / 10 / 10 := by omega
    rw [d2 k (by omega), d2 (k / 10) (by omega), d1 (k / 10 / 10) (by omega)]; unfold digs; rw [e1, e2, e3]
    exact ⟨rfl, by simp⟩
  by_cases h4 : k < 10000
  · have e1 : k / 10000 % 10 = 0 := by omega
    have e2 : k / 1000 % 10 = k / 10 / 10 / 10 := by omega
    have e3 : k / 100 % 10 = k / 10 / 10 % 10 := by omega
    rw [d2 k (by omega), d2 (k / 10) (by omega), d2 (k / 10 / 10) (by omega), d1 (k / 10 / 10 / 10) (by omega)]; unfold digs; rw [e1, e2, e3]
    exact ⟨rfl, by simp⟩
  · have e1 : k / 10000 % 10 = k / 10 / 10 / 10 / 10 := by omega
    have e2 : k / 1000 % 10 = k / 10 / 10 / 10 % 10 := by omega
    have e3 : k / 100 % 10 = k / 10 / 10 % 10 := by omega
    rw [d2 k (by omega), d2 (k / 10) (by omega), d2 (k / 10 / 10) (by omega), d2 (k / 10 / 10 / 10) (by omega), d1 (k / 10 / 10 / 10 / 10) (by omega)]; unfold digs; rw [e1, e2, e3]
    exact ⟨rfl, by simp⟩

theorem last_at {l : List ByteArray} {n : ByteArray} (h : l.getLast? = some n) : (l.map AV.str)[l.length - 1]? = some (.str n) := by
  rw [List.getLast?_eq_getElem?] at h
  rw [List.getElem?_map, h]; rfl

theorem name_spec (s : ByteArray) : FnSpec C 78 [.str s] [] (fun r L' => r = .tuple [.str (nameB s), .int .i64 (parseE s)] ∧ L' = []) := by
  refine FnSpec.start C_ok Tryz.func78 rfl rfl Tryz.ntmps78 ?_
  repeat (first | refine OpsA.cons ?_ | refine OpsA.nil ?_ | refine Run.textA C_ok (aopC_sound C_ok) ?_ | refine And.intro rfl ?_ | refine And.intro (Nat.le_of_ble_eq_true rfl) ?_ | refine And.intro (Int.natCast_nonneg _) ?_ | refine fun (_ : Nat) => ?_ | refine Run.go rfl ?_ | refine Cont.go rfl ?_)
  refine ACallT.ok (ACall.pure _ (parse_spec s) ?_)
  rintro r L' (⟨h, rfl, rfl⟩ | ⟨h, hn, rfl, rfl⟩ | ⟨h, hn, g, rfl, rfl⟩)
  · refine ⟨_, Sub.refl _, ?_⟩
    repeat (first | refine OpsA.cons ?_ | refine OpsA.nil ?_ | refine Run.textA C_ok (aopC_sound C_ok) ?_ | refine And.intro rfl ?_ | refine And.intro (Nat.le_of_ble_eq_true rfl) ?_ | refine And.intro (Int.natCast_nonneg _) ?_ | refine fun (_ : Nat) => ?_ | refine Run.go rfl ?_ | refine Cont.go rfl ?_)
    refine ⟨fun _ => ?_, fun e => absurd h e⟩
    repeat (first | refine OpsA.cons ?_ | refine OpsA.nil ?_ | refine Run.textA C_ok (aopC_sound C_ok) ?_ | refine And.intro rfl ?_ | refine And.intro (Nat.le_of_ble_eq_true rfl) ?_ | refine And.intro (Int.natCast_nonneg _) ?_ | refine fun (_ : Nat) => ?_ | refine Run.go rfl ?_ | refine Cont.go rfl ?_)
    exact ⟨_, [], FinOk.drop _ _, by unfold nameB; rw [if_pos h]; rfl, rfl⟩
  · refine ⟨_, Sub.refl _, ?_⟩
    repeat (first | refine OpsA.cons ?_ | refine OpsA.nil ?_ | refine Run.textA C_ok (aopC_sound C_ok) ?_ | refine And.intro rfl ?_ | refine And.intro (Nat.le_of_ble_eq_true rfl) ?_ | refine And.intro (Int.natCast_nonneg _) ?_ | refine fun (_ : Nat) => ?_ | refine Run.go rfl ?_ | refine Cont.go rfl ?_)
    refine ⟨fun e => absurd rfl e, fun _ => ?_⟩
    repeat (first | refine OpsA.cons ?_ | refine OpsA.nil ?_ | refine Run.textA C_ok (aopC_sound C_ok) ?_ | refine And.intro rfl ?_ | refine And.intro (Nat.le_of_ble_eq_true rfl) ?_ | refine And.intro (Int.natCast_nonneg _) ?_ | refine fun (_ : Nat) => ?_ | refine Run.go rfl ?_ | refine Cont.go rfl ?_)
    refine ⟨fun _ => ?_, fun e => absurd rfl e⟩
    repeat (first | refine OpsA.cons ?_ | refine OpsA.nil ?_ | refine Run.textA C_ok (aopC_sound C_ok) ?_ | refine And.intro rfl ?_ | refine And.intro (Nat.le_of_ble_eq_true rfl) ?_ | refine And.intro (Int.natCast_nonneg _) ?_ | refine fun (_ : Nat) => ?_ | refine Run.go rfl ?_ | refine Cont.go rfl ?_)
    exact ⟨_, [], FinOk.drop _ _, by unfold nameB; rw [if_neg (by rw [h]; decide), hn, h]; rfl, rfl⟩
  · obtain ⟨h1, h2⟩ := place_names h
    refine ⟨_, Sub.refl _, ?_⟩
    repeat (first | refine OpsA.cons ?_ | refine OpsA.nil ?_ | refine Run.textA C_ok (aopC_sound C_ok) ?_ | refine And.intro rfl ?_ | refine And.intro (Nat.le_of_ble_eq_true rfl) ?_ | refine And.intro (Int.natCast_nonneg _) ?_ | refine fun (_ : Nat) => ?_ | refine Run.go rfl ?_ | refine Cont.go rfl ?_)
    refine ⟨fun e => absurd rfl e, fun _ => ?_⟩
    repeat (first | refine OpsA.cons ?_ | refine OpsA.nil ?_ | refine Run.textA C_ok (aopC_sound C_ok) ?_ | refine And.intro rfl ?_ | refine And.intro (Nat.le_of_ble_eq_true rfl) ?_ | refine And.intro (Int.natCast_nonneg _) ?_ | refine fun (_ : Nat) => ?_ | refine Run.go rfl ?_ | refine Cont.go rfl ?_)
    refine ⟨fun e => ?_, fun hne => ?_⟩
    · have e : ((namesOf s).length : Int) = 0 := e
      have e0 : namesOf s = [] := List.eq_nil_of_length_eq_zero (by omega)
      repeat (first | refine OpsA.cons ?_ | refine OpsA.nil ?_ | refine Run.textA C_ok (aopC_sound C_ok) ?_ | refine And.intro rfl ?_ | refine And.intro (Nat.le_of_ble_eq_true rfl) ?_ | refine And.intro (Int.natCast_nonneg _) ?_ | refine fun (_ : Nat) => ?_ | refine Run.go rfl ?_ | refine Cont.go rfl ?_)
      exact ⟨_, [], FinOk.drop _ _, by unfold nameB; rw [if_neg (by rw [h]; decide), e0, h]; rfl, rfl⟩
    · have hne : ¬ ((namesOf s).length : Int) = 0 := hne
      obtain ⟨nm, hnm⟩ : ∃ nm, (namesOf s).getLast? = some nm := by
        cases e : (namesOf s).getLast? with
        | none => rw [List.getLast?_eq_none_iff] at e; rw [e] at hne; exact absurd rfl hne
        | some nm => exact ⟨nm, rfl⟩
      have hsz : nm.size ≤ 16 := isNameB_size (h1.2 nm (List.mem_of_getLast? hnm))
      repeat (first | refine OpsA.cons ?_ | refine OpsA.nil ?_ | refine Run.textA C_ok (aopC_sound C_ok) ?_ | refine And.intro rfl ?_ | refine And.intro (Nat.le_of_ble_eq_true rfl) ?_ | refine And.intro (Int.natCast_nonneg _) ?_ | refine fun (_ : Nat) => ?_ | refine Run.go rfl ?_ | refine Cont.go rfl ?_)
      refine fun r hr => ?_
      obtain rfl : r = (((namesOf s).length - 1 : Nat) : Int) := by rw [hr, IntKind.wrap_i64]; omega
      repeat (first | refine OpsA.cons ?_ | refine OpsA.nil ?_ | refine Run.textA C_ok (aopC_sound C_ok) ?_ | refine And.intro rfl ?_ | refine And.intro (Nat.le_of_ble_eq_true rfl) ?_ | refine And.intro (Int.natCast_nonneg _) ?_ | refine fun (_ : Nat) => ?_ | refine Run.go rfl ?_ | refine Cont.go rfl ?_)
      refine ⟨by omega, ?_⟩
      repeat (first | refine OpsA.cons ?_ | refine OpsA.nil ?_ | refine Run.textA C_ok (aopC_sound C_ok) ?_ | refine And.intro rfl ?_ | refine And.intro (Nat.le_of_ble_eq_true rfl) ?_ | refine And.intro (Int.natCast_nonneg _) ?_ | refine fun (_ : Nat) => ?_ | refine Run.go rfl ?_ | refine Cont.go rfl ?_)
      refine ⟨.str nm, last_at hnm, ?_⟩
      repeat (first | refine OpsA.cons ?_ | refine OpsA.nil ?_ | refine Run.textA C_ok (aopC_sound C_ok) ?_ | refine And.intro rfl ?_ | refine And.intro (Nat.le_of_ble_eq_true rfl) ?_ | refine And.intro (Int.natCast_nonneg _) ?_ | refine fun (_ : Nat) => ?_ | refine Run.go rfl ?_ | refine Cont.go rfl ?_)
      refine ACallT.ok (ACall.ret (clone_str nm (by omega)) ?_)
      repeat (first | refine OpsA.cons ?_ | refine OpsA.nil ?_ | refine Run.textA C_ok (aopC_sound C_ok) ?_ | refine And.intro rfl ?_ | refine And.intro (Nat.le_of_ble_eq_true rfl) ?_ | refine And.intro (Int.natCast_nonneg _) ?_ | refine fun (_ : Nat) => ?_ | refine Run.go rfl ?_ | refine Cont.go rfl ?_)
      exact ⟨_, [], FinOk.drop _ _, by unfold nameB; rw [if_neg (by rw [h]; decide), hnm, h]; rfl, rfl⟩
set_option maxHeartbeats 1000000 in
theorem counted_spec (s : ByteArray) (k : Int) : FnSpec C 94 [.str s, .int .i64 k] [] (fun r L' => r = .tuple [.str (if countedE s k = 0 then countedB s k else eS), .int .i64 (countedE s k)] ∧ L' = []) := by
  refine FnSpec.start C_ok Tryz.func94 rfl rfl Tryz.ntmps94 ?_
  repeat (first | refine OpsA.cons ?_ | refine OpsA.nil ?_ | refine Run.textA C_ok (aopC_sound C_ok) ?_ | refine And.intro rfl ?_ | refine And.intro (Nat.le_of_ble_eq_true rfl) ?_ | refine And.intro (Int.natCast_nonneg _) ?_ | refine fun (_ : Nat) => ?_ | refine Run.go rfl ?_ | refine Cont.go rfl ?_)
  refine ACallT.ok (ACall.pure _ (parse_spec s) ?_)
  rintro r L' (⟨h, rfl, rfl⟩ | ⟨h, hn, rfl, rfl⟩ | ⟨h, hn, g, rfl, rfl⟩)
  · refine ⟨_, Sub.refl _, ?_⟩
    repeat (first | refine OpsA.cons ?_ | refine OpsA.nil ?_ | refine Run.textA C_ok (aopC_sound C_ok) ?_ | refine And.intro rfl ?_ | refine And.intro (Nat.le_of_ble_eq_true rfl) ?_ | refine And.intro (Int.natCast_nonneg _) ?_ | refine fun (_ : Nat) => ?_ | refine Run.go rfl ?_ | refine Cont.go rfl ?_)
    refine ⟨fun _ => ?_, fun e => absurd h e⟩
    repeat (first | refine OpsA.cons ?_ | refine OpsA.nil ?_ | refine Run.textA C_ok (aopC_sound C_ok) ?_ | refine And.intro rfl ?_ | refine And.intro (Nat.le_of_ble_eq_true rfl) ?_ | refine And.intro (Int.natCast_nonneg _) ?_ | refine fun (_ : Nat) => ?_ | refine Run.go rfl ?_ | refine Cont.go rfl ?_)
    have ec : countedE s k = parseE s := by unfold countedE; rw [if_pos h]
    exact ⟨_, [], FinOk.drop _ _, by rw [ec, if_neg h]; rfl, rfl⟩
  · have ec : countedE s k = 47 := by unfold countedE; rw [if_neg (by rw [h]; decide), if_pos hn]
    refine ⟨_, Sub.refl _, ?_⟩
    repeat (first | refine OpsA.cons ?_ | refine OpsA.nil ?_ | refine Run.textA C_ok (aopC_sound C_ok) ?_ | refine And.intro rfl ?_ | refine And.intro (Nat.le_of_ble_eq_true rfl) ?_ | refine And.intro (Int.natCast_nonneg _) ?_ | refine fun (_ : Nat) => ?_ | refine Run.go rfl ?_ | refine Cont.go rfl ?_)
    refine ⟨fun e => absurd rfl e, fun _ => ?_⟩
    repeat (first | refine OpsA.cons ?_ | refine OpsA.nil ?_ | refine Run.textA C_ok (aopC_sound C_ok) ?_ | refine And.intro rfl ?_ | refine And.intro (Nat.le_of_ble_eq_true rfl) ?_ | refine And.intro (Int.natCast_nonneg _) ?_ | refine fun (_ : Nat) => ?_ | refine Run.go rfl ?_ | refine Cont.go rfl ?_)
    refine ⟨fun _ => ?_, fun e => absurd rfl e⟩
    repeat (first | refine OpsA.cons ?_ | refine OpsA.nil ?_ | refine Run.textA C_ok (aopC_sound C_ok) ?_ | refine And.intro rfl ?_ | refine And.intro (Nat.le_of_ble_eq_true rfl) ?_ | refine And.intro (Int.natCast_nonneg _) ?_ | refine fun (_ : Nat) => ?_ | refine Run.go rfl ?_ | refine Cont.go rfl ?_)
    exact ⟨_, [], FinOk.drop _ _, by rw [ec]; rfl, rfl⟩
  · obtain ⟨h1, h2⟩ := place_names h
    refine ⟨_, Sub.refl _, ?_⟩
    repeat (first | refine OpsA.cons ?_ | refine OpsA.nil ?_ | refine Run.textA C_ok (aopC_sound C_ok) ?_ | refine And.intro rfl ?_ | refine And.intro (Nat.le_of_ble_eq_true rfl) ?_ | refine And.intro (Int.natCast_nonneg _) ?_ | refine fun (_ : Nat) => ?_ | refine Run.go rfl ?_ | refine Cont.go rfl ?_)
    refine ⟨fun e => absurd rfl e, fun _ => ?_⟩
    repeat (first | refine OpsA.cons ?_ | refine OpsA.nil ?_ | refine Run.textA C_ok (aopC_sound C_ok) ?_ | refine And.intro rfl ?_ | refine And.intro (Nat.le_of_ble_eq_true rfl) ?_ | refine And.intro (Int.natCast_nonneg _) ?_ | refine fun (_ : Nat) => ?_ | refine Run.go rfl ?_ | refine Cont.go rfl ?_)
    refine ⟨fun e => ?_, fun hne => ?_⟩
    · have e : ((namesOf s).length : Int) = 0 := e
      have e0 : namesOf s = [] := List.eq_nil_of_length_eq_zero (by omega)
      have ec : countedE s k = 47 := by unfold countedE; rw [if_neg (by rw [h]; decide), if_pos e0]
      repeat (first | refine OpsA.cons ?_ | refine OpsA.nil ?_ | refine Run.textA C_ok (aopC_sound C_ok) ?_ | refine And.intro rfl ?_ | refine And.intro (Nat.le_of_ble_eq_true rfl) ?_ | refine And.intro (Int.natCast_nonneg _) ?_ | refine fun (_ : Nat) => ?_ | refine Run.go rfl ?_ | refine Cont.go rfl ?_)
      exact ⟨_, [], FinOk.drop _ _, by rw [ec]; rfl, rfl⟩
    have hne : ¬ ((namesOf s).length : Int) = 0 := hne
    have hn0 : namesOf s ≠ [] := fun e => hne (by rw [e]; rfl)
    obtain ⟨nm, hnm⟩ : ∃ nm, (namesOf s).getLast? = some nm := by
      cases e : (namesOf s).getLast? with
      | none => rw [List.getLast?_eq_none_iff] at e; rw [e] at hne; exact absurd rfl hne
      | some nm => exact ⟨nm, rfl⟩
    have hlb : longB s = decide (11 < nm.size) := by unfold longB; rw [hnm]
    repeat (first | refine OpsA.cons ?_ | refine OpsA.nil ?_ | refine Run.textA C_ok (aopC_sound C_ok) ?_ | refine And.intro rfl ?_ | refine And.intro (Nat.le_of_ble_eq_true rfl) ?_ | refine And.intro (Int.natCast_nonneg _) ?_ | refine fun (_ : Nat) => ?_ | refine Run.go rfl ?_ | refine Cont.go rfl ?_)
    refine fun r hr => ?_
    obtain rfl : r = (((namesOf s).length - 1 : Nat) : Int) := by rw [hr, IntKind.wrap_i64]; omega
    repeat (first | refine OpsA.cons ?_ | refine OpsA.nil ?_ | refine Run.textA C_ok (aopC_sound C_ok) ?_ | refine And.intro rfl ?_ | refine And.intro (Nat.le_of_ble_eq_true rfl) ?_ | refine And.intro (Int.natCast_nonneg _) ?_ | refine fun (_ : Nat) => ?_ | refine Run.go rfl ?_ | refine Cont.go rfl ?_)
    refine ⟨by omega, ?_⟩
    repeat (first | refine OpsA.cons ?_ | refine OpsA.nil ?_ | refine Run.textA C_ok (aopC_sound C_ok) ?_ | refine And.intro rfl ?_ | refine And.intro (Nat.le_of_ble_eq_true rfl) ?_ | refine And.intro (Int.natCast_nonneg _) ?_ | refine fun (_ : Nat) => ?_ | refine Run.go rfl ?_ | refine Cont.go rfl ?_)
    refine ⟨.str nm, last_at hnm, ?_⟩
    repeat (first | refine OpsA.cons ?_ | refine OpsA.nil ?_ | refine Run.textA C_ok (aopC_sound C_ok) ?_ | refine And.intro rfl ?_ | refine And.intro (Nat.le_of_ble_eq_true rfl) ?_ | refine And.intro (Int.natCast_nonneg _) ?_ | refine fun (_ : Nat) => ?_ | refine Run.go rfl ?_ | refine Cont.go rfl ?_)
    have hce : countedE s k = if longB s then 10 else if k < 0 ∨ 99999 < k then 1 else 0 := by unfold countedE; rw [if_neg (by rw [h]; decide), if_neg hn0]
    refine ⟨fun e => ?_, fun e => ?_⟩
    · have e : (11 : Int) < (nm.size : Int) := e
      have ec : countedE s k = 10 := by rw [hce, hlb, if_pos (by simp; omega)]
      repeat (first | refine OpsA.cons ?_ | refine OpsA.nil ?_ | refine Run.textA C_ok (aopC_sound C_ok) ?_ | refine And.intro rfl ?_ | refine And.intro (Nat.le_of_ble_eq_true rfl) ?_ | refine And.intro (Int.natCast_nonneg _) ?_ | refine fun (_ : Nat) => ?_ | refine Run.go rfl ?_ | refine Cont.go rfl ?_)
      exact ⟨_, [], FinOk.drop _ _, by rw [ec]; rfl, rfl⟩
    have e11 : ¬ (11 : Int) < (nm.size : Int) := e
    have hce : countedE s k = if k < 0 ∨ 99999 < k then 1 else 0 := by rw [hce, hlb, if_neg (by simp; omega)]
    repeat (first | refine OpsA.cons ?_ | refine OpsA.nil ?_ | refine Run.textA C_ok (aopC_sound C_ok) ?_ | refine And.intro rfl ?_ | refine And.intro (Nat.le_of_ble_eq_true rfl) ?_ | refine And.intro (Int.natCast_nonneg _) ?_ | refine fun (_ : Nat) => ?_ | refine Run.go rfl ?_ | refine Cont.go rfl ?_)
    refine ⟨fun e => ?_, fun e => ?_⟩
    · have e : k < 0 := e
      have ec : countedE s k = 1 := by rw [hce, if_pos (.inl e)]
      repeat (first | refine OpsA.cons ?_ | refine OpsA.nil ?_ | refine Run.textA C_ok (aopC_sound C_ok) ?_ | refine And.intro rfl ?_ | refine And.intro (Nat.le_of_ble_eq_true rfl) ?_ | refine And.intro (Int.natCast_nonneg _) ?_ | refine fun (_ : Nat) => ?_ | refine Run.go rfl ?_ | refine Cont.go rfl ?_)
      exact ⟨_, [], FinOk.drop _ _, by rw [ec]; rfl, rfl⟩
    have ek0 : ¬ k < 0 := e
    repeat (first | refine OpsA.cons ?_ | refine OpsA.nil ?_ | refine Run.textA C_ok (aopC_sound C_ok) ?_ | refine And.intro rfl ?_ | refine And.intro (Nat.le_of_ble_eq_true rfl) ?_ | refine And.intro (Int.natCast_nonneg _) ?_ | refine fun (_ : Nat) => ?_ | refine Run.go rfl ?_ | refine Cont.go rfl ?_)
    refine ⟨fun e => ?_, fun e => ?_⟩
    · have e : 99999 < k := e
      have ec : countedE s k = 1 := by rw [hce, if_pos (.inr e)]
      repeat (first | refine OpsA.cons ?_ | refine OpsA.nil ?_ | refine Run.textA C_ok (aopC_sound C_ok) ?_ | refine And.intro rfl ?_ | refine And.intro (Nat.le_of_ble_eq_true rfl) ?_ | refine And.intro (Int.natCast_nonneg _) ?_ | refine fun (_ : Nat) => ?_ | refine Run.go rfl ?_ | refine Cont.go rfl ?_)
      exact ⟨_, [], FinOk.drop _ _, by rw [ec]; rfl, rfl⟩
    have ek1 : ¬ 99999 < k := e
    have ec : countedE s k = 0 := by rw [hce, if_neg (by omega)]
    obtain ⟨hd, hd5⟩ := dec_digs k.toNat (by omega)
    have hit : Lib.itoa k = Lib.decDigits k.toNat := by unfold Lib.itoa; rw [if_neg ek0]
    repeat (first | refine OpsA.cons ?_ | refine OpsA.nil ?_ | refine Run.textA C_ok (aopC_sound C_ok) ?_ | refine And.intro rfl ?_ | refine And.intro (Nat.le_of_ble_eq_true rfl) ?_ | refine And.intro (Int.natCast_nonneg _) ?_ | refine fun (_ : Nat) => ?_ | refine Run.go rfl ?_ | refine Cont.go rfl ?_)
    refine ACallT.ok (ACall.ret (itoa_spec k (by omega) (by omega)) ?_)
    repeat (first | refine OpsA.cons ?_ | refine OpsA.nil ?_ | refine Run.textA C_ok (aopC_sound C_ok) ?_ | refine And.intro rfl ?_ | refine And.intro (Nat.le_of_ble_eq_true rfl) ?_ | refine And.intro (Int.natCast_nonneg _) ?_ | refine fun (_ : Nat) => ?_ | refine Run.go rfl ?_ | refine Cont.go rfl ?_)
    rw [hit]
    refine fun r hr => ?_
    have hsz : (⟨(Lib.decDigits k.toNat).toArray⟩ : ByteArray).size = (Lib.decDigits k.toNat).length := by rw [size_list]
    obtain rfl : r = ((5 - (Lib.decDigits k.toNat).length : Nat) : Int) := by rw [hr, IntKind.wrap_i64, hsz]; omega
    repeat (first | refine OpsA.cons ?_ | refine OpsA.nil ?_ | refine Run.textA C_ok (aopC_sound C_ok) ?_ | refine And.intro rfl ?_ | refine And.intro (Nat.le_of_ble_eq_true rfl) ?_ | refine And.intro (Int.natCast_nonneg _) ?_ | refine fun (_ : Nat) => ?_ | refine Run.go rfl ?_ | refine Cont.go rfl ?_)
    have hrs := repeat_spec ⟨#[48]⟩ (5 - (Lib.decDigits k.toNat).length) (by omega) (by decide)
    obtain ⟨R, hR, hRs⟩ : ∃ R : ByteArray, R = ⟨(Lib.repeatL (⟨#[48]⟩ : ByteArray).data.toList (5 - (Lib.decDigits k.toNat).length)).toArray⟩ ∧ R.size ≤ 5 := ⟨_, rfl, by rw [size_list]; simp only [Lib.repeatL_length]; simp⟩
    rw [← hR] at hrs
    refine ACallT.ok (ACall.ret hrs ?_)
    have hs102 := place_size h
    repeat (first | refine OpsA.cons ?_ | refine OpsA.nil ?_ | refine Run.textA C_ok (aopC_sound C_ok) ?_ | refine And.intro rfl ?_ | refine And.intro (Nat.le_of_ble_eq_true rfl) ?_ | refine And.intro (Int.natCast_nonneg _) ?_ | refine fun (_ : Nat) => ?_ | refine Run.go rfl ?_ | refine Cont.go rfl ?_)
    refine ⟨by omega, ?_⟩
    repeat (first | refine OpsA.cons ?_ | refine OpsA.nil ?_ | refine Run.textA C_ok (aopC_sound C_ok) ?_ | refine And.intro rfl ?_ | refine And.intro (Nat.le_of_ble_eq_true rfl) ?_ | refine And.intro (Int.natCast_nonneg _) ?_ | refine fun (_ : Nat) => ?_ | refine Run.go rfl ?_ | refine Cont.go rfl ?_)
    refine ⟨by rw [ByteArray.size_append, hsz]; omega, ?_⟩
    repeat (first | refine OpsA.cons ?_ | refine OpsA.nil ?_ | refine Run.textA C_ok (aopC_sound C_ok) ?_ | refine And.intro rfl ?_ | refine And.intro (Nat.le_of_ble_eq_true rfl) ?_ | refine And.intro (Int.natCast_nonneg _) ?_ | refine fun (_ : Nat) => ?_ | refine Run.go rfl ?_ | refine Cont.go rfl ?_)
    refine ⟨_, [], FinOk.drop _ _, ?_, rfl⟩
    rw [ec, if_pos rfl]
    refine congrArg (fun z => AV.tuple [AV.str z, AV.int .i64 0]) (bytes_inj ?_)
    subst hR
    unfold countedB
    rw [← hd]
    simp [ByteArray.data_append]
end Go.Proofs.YtiikjcdjgmlcgaaGreatDoor.HBT
/- One op of a request: set, drop. -/
namespace Go.Proofs.YtiikjcdjgmlcgaaGreatDoor.HBT
open Go Go.Proofs.YtiikjcdjgmlcgaaGreatDoor.HB Go.RowKit
set_option maxRecDepth 8000

theorem set_upd : ∀ {M : List Fu}, (M.map (·.p)).Nodup → ∀ {i : Nat} {x y : Fu}, M[i]? = some x → y.p = x.p → M.set i y = upd M y
  | [], _, i, x, y, h, _ => by simp at h
  | z :: M, hn, 0, x, y, h, e => by
    simp at h; subst h
    rw [List.map_cons, List.nodup_cons] at hn
    unfold upd
    rw [List.set_cons_zero, List.map_cons, if_pos e.symm]
    congr 1
    refine (List.map_id M).symm.trans (List.map_congr_left fun u hu => ?_)
    rw [if_neg]; rfl
    intro e2
    exact hn.1 (List.mem_map.2 ⟨u, hu, by rw [e2, e]⟩)
  | z :: M, hn, i + 1, x, y, h, e => by
    rw [List.map_cons, List.nodup_cons] at hn
    have h : M[i]? = some x := by simpa using h
    unfold upd
    rw [List.set_cons_succ, List.map_cons, if_neg, set_upd hn.2 h e]
    · rfl
    · intro e2
      exact hn.1 (List.mem_map.2 ⟨x, List.mem_of_getElem? h, by rw [e2, e]⟩)
theorem erase_del : ∀ {M : List Fu}, (M.map (·.p)).Nodup → ∀ {i : Nat} {x : Fu}, M[i]? = some x → M.eraseIdx i = del M x.p
  | [], _, i, x, h => by simp at h
  | z :: M, hn, 0, x, h => by
    simp at h; subst h
    rw [List.map_cons, List.nodup_cons] at hn
    unfold del
    rw [List.eraseIdx_cons_zero, List.filter_cons_of_neg (by simp)]
    refine (List.filter_eq_self.2 fun u hu => ?_).symm
    have : u.p ≠ z.p := fun e => hn.1 (List.mem_map.2 ⟨u, hu, e⟩)
    simpa using this
  | z :: M, hn, i + 1, x, h => by
    rw [List.map_cons, List.nodup_cons] at hn
    have h : M[i]? = some x := by simpa using h
    unfold del
    rw [List.eraseIdx_cons_succ, List.filter_cons_of_pos, erase_del hn.2 h]
    · rfl
    · have : z.p ≠ x.p := fun e => hn.1 (List.mem_map.2 ⟨x, List.mem_of_getElem? h, e.symm⟩)
      simpa using this
theorem beq_bytes (s : ByteArray) : (s == s) = true := by
  cases s with
  | mk d => show (d == d) = true; simp
theorem keyS (x : Fu) : MapKept.IsKey .string (keyX x) := trivial
theorem u9 : C.P.underlying 9 = some .string := Tryz.underlying9
theorem keyX_inj {x y : Fu} (h : keyX x = keyX y) : x.p = y.p := by unfold keyX at h; exact Value.string.inj h
/-- A node that is there, and one that is not, as the map tells. -/
theorem TM.hit {l : List Fu} {es : Array MapEntry} {cl : Nat} (h : TM l es cl) (hs : Sorted l) {x : Fu} (hx : x ∈ l) :
    ∃ i, findAt C.P 9 (.string x.p) es.toList = some (some (i, valX x)) ∧ Instr.sameBits 10000 (((es[i]?).map (·.key)).getD (.string x.p)) (.string x.p) = true ∧
      (∀ y : Fu, y.p = x.p → TM (upd l y) (es.modify i fun e => { e with key := .string x.p, val := valX y }) cl) ∧ TM (del l x.p) (es.eraseIdxIfInBounds i) cl ∧
      ∃ e, es[i]? = some e ∧ e.key = .string x.p ∧ e.val = valX x ∧ e.born < cl ∧ es.findIdx? (fun e' => (e'.born : Int) == e.born) = some i := by
  obtain ⟨M, hp, hm⟩ := h.map
  obtain ⟨i, hi⟩ := List.mem_iff_getElem?.1 (hp.mem_iff.2 hx)
  have hn : (M.map (·.p)).Nodup := nodup_perm hp hs.nodup
  refine ⟨i, hm.hit u9 keyS hi, hm.bits hi (by simp only [keyX, Instr.sameBits]; exact beq_bytes _) _, fun y hy => ?_, ?_, ?_⟩
  · have := hm.set (y := y) hi (by unfold keyX; rw [hy])
    rw [set_upd hn hi hy] at this
    have e : keyX y = .string x.p := by unfold keyX; rw [hy]
    rw [e] at this
    exact ⟨upd M y, hp.map _, this⟩
  · have := hm.erase i
    rw [erase_del hn hi] at this
    exact ⟨del M x.p, hp.filter _, this⟩
  · obtain ⟨e, he, e1, e2⟩ := hm.get hi
    have hei : es[i]? = some e := by rwa [Array.getElem?_toList] at he
    refine ⟨e, hei, e1, e2, hm.old e (List.mem_of_getElem? he), ?_⟩
    have hil : i < es.size := (Array.getElem?_eq_some_iff.1 hei).1
    have hge : es[i] = e := (Array.getElem?_eq_some_iff.1 hei).2
    refine Array.findIdx?_eq_some_iff_getElem.2 ⟨hil, by rw [hge]; simp, fun j hj => ?_⟩
    have hjl : j < es.size := by omega
    intro hb
    have hb : es[j].born = e.born := by
      have : ((es[j].born : Nat) : Int) = (e.born : Nat) := by simpa using hb
      omega
    have : (es.toList.map (·.born))[j]? = (es.toList.map (·.born))[i]? := by
      rw [List.getElem?_map, List.getElem?_map, he, Array.getElem?_toList, Array.getElem?_eq_getElem hjl]
      simp [hb]
    have := (List.getElem?_inj (by simpa using hjl) hm.born).1 this
    omega
theorem TM.miss {l : List Fu} {es : Array MapEntry} {cl : Nat} (h : TM l es cl) {p : ByteArray} (hn : ∀ x ∈ l, x.p ≠ p) : findAt C.P 9 (.string p) es.toList = some none := by
  obtain ⟨M, hp, hm⟩ := h.map
  exact hm.miss u9 keyS (kv := .string p) trivial fun x hx e => hn x (hp.mem_iff.1 hx) (by unfold keyX at e; exact Value.string.inj e)
theorem TM.push {l l' : List Fu} {es : Array MapEntry} {cl : Nat} (h : TM l es cl) {y : Fu} (hn : ∀ x ∈ l, x.p ≠ y.p) (hl : l'.Perm (y :: l)) : TM l' (es.push { key := .string y.p, val := valX y, born := cl }) (cl + 1) := by
  obtain ⟨M, hp, hm⟩ := h.map
  refine ⟨M ++ [y], ?_, hm.push (y := y) fun x hx e => hn x (hp.mem_iff.1 hx) (keyX_inj e)⟩
  exact (List.perm_append_comm (l₁ := M) (l₂ := [y])).trans ((hp.cons y).trans hl.symm)
theorem TM.len {l : List Fu} {es : Array MapEntry} {cl : Nat} (h : TM l es cl) : es.size = l.length := by
  obtain ⟨M, hp, hm⟩ := h.map
  rw [hm.len, hp.length_eq]

/-- A request that is being played, in memory. -/
abbrev WorkL (gw gm : Nat) (s st : Int) (cv : AV) (es : Array MapEntry) (cl : Nat) (gc : Nat) (co : AObj) : AHeap := [(gw, .cells tW [.any (.map (some gm)), .int .i64 s, .int .i64 st, cv]), (gm, .obj (.map es cl)), (gc, co)]
abbrev zeroR : AV := .agg [.str eS, .str eS, .int .i64 0, .int .i64 0, .int .i64 0, .int .i64 0, .nils]
/-- What an op answers. -/
def OneQ (gw gm : Nat) (s st : Int) (cs : List Chg) : One → AV → AHeap → Prop
  | .error e, r, L' => r = .tuple [zeroR, .int .i64 e] ∧ L' = []
  | .ok (l', x, c), r, L' => ∃ es cl cv gc co, TM l' es cl ∧ LC 2 (cs ++ c) cv gc co ∧ r = .tuple [encR x, .int .i64 0] ∧ L' = WorkL gw gm s st cv es cl gc co

theorem subR0 {r : Res} (h : r.kids = []) : Sub (.tuple [encRk r .nils, .int .i64 0]) (.tuple [encR r, .int .i64 0]) := by
  refine Sub.tuples ⟨Sub.aggs ⟨Sub.refl _, Sub.refl _, Sub.refl _, Sub.refl _, Sub.refl _, Sub.refl _, ?_, trivial⟩, Sub.refl _, trivial⟩
  rw [h]; exact Sub.nilsRo 1
set_option maxHeartbeats 1000000 in
theorem set_spec (gw gm gc : Nat) (s st : Int) (cs : List Chg) (cv : AV) (co : AObj) (hc : LC 2 cs cv gc co) (hcs : cs.length ≤ 100) {l : List Fu} {es : Array MapEntry} {cl : Nat} (h : TM l es cl) (hi : TInv l) {x : Fu} (hx : x ∈ l) (d : ByteArray) :
    FnSpec C 74 [.ptr 0 gw 0, encX x, .str d] (WorkL gw gm s st cv es cl gc co)
      (OneQ gw gm s st cs (if 2147483647 ≤ x.v then .error 46 else .ok (upd l { x with d := d, c := st, v := x.v + 1 }, told { x with d := d, c := st, v := x.v + 1 }, [⟨2, x.p, d, x.v + 1⟩]))) := by
  obtain ⟨M, hp, hm⟩ := h.map
  refine FnSpec.start C_ok Tryz.func74 rfl rfl Tryz.ntmps74 ?_
  repeat (first | refine OpsA.cons ?_ | refine OpsA.nil ?_ | refine Run.textA C_ok (aopC_sound C_ok) ?_ | refine And.intro rfl ?_ | refine And.intro (Nat.le_of_ble_eq_true rfl) ?_ | refine And.intro (Int.natCast_nonneg _) ?_ | refine fun (_ : Nat) => ?_ | refine Run.go rfl ?_ | refine Cont.go rfl ?_)
  rename_i gx gr
  refine ⟨fun hv => ?_, fun hv => ?_⟩
  · have hv : 2147483647 ≤ x.v := hv
    repeat (first | refine OpsA.cons ?_ | refine OpsA.nil ?_ | refine Run.textA C_ok (aopC_sound C_ok) ?_ | refine And.intro rfl ?_ | refine And.intro (Nat.le_of_ble_eq_true rfl) ?_ | refine And.intro (Int.natCast_nonneg _) ?_ | refine fun (_ : Nat) => ?_ | refine Run.go rfl ?_ | refine Cont.go rfl ?_)
    exact ⟨_, [], FinOk.drop _ _, by rw [if_pos hv]; exact ⟨rfl, rfl⟩⟩
  have hv : ¬ 2147483647 ≤ x.v := hv
  rw [if_neg hv]
  have hok := hi.ok x hx
  obtain ⟨i, f1, f2, f3, f4, _⟩ := h.hit hi.sorted hx
  repeat (first | refine OpsA.cons ?_ | refine OpsA.nil ?_ | refine Run.textA C_ok (aopC_sound C_ok) ?_ | refine And.intro rfl ?_ | refine And.intro (Nat.le_of_ble_eq_true rfl) ?_ | refine And.intro (Int.natCast_nonneg _) ?_ | refine fun (_ : Nat) => ?_ | refine Run.go rfl ?_ | refine Cont.go rfl ?_)
  refine Run.drawnK C_ok (aopC_sound C_ok) [0] [0, 1, 2, 3, 4, 5, 6, 7, 8] (by kernel_rfl) ?_
  repeat (first | refine OpsA.cons ?_ | refine OpsA.nil ?_ | refine OrdK.cons rfl ?_ | refine OrdK.nil ?_ | refine Run.textA C_ok (aopC_sound C_ok) ?_ | refine And.intro rfl ?_ | refine And.intro (Nat.le_of_ble_eq_true rfl) ?_ | refine And.intro (Int.natCast_nonneg _) ?_ | refine fun (_ : Nat) => ?_ | refine Run.go rfl ?_ | refine Cont.go rfl ?_)
  refine fun r hr => ?_
  obtain rfl : r = x.v + 1 := by
    have := hok.2.2.1
    rw [hr, IntKind.wrap_i64]; omega
  repeat (first | refine OpsA.cons ?_ | refine OpsA.nil ?_ | refine OrdK.cons rfl ?_ | refine OrdK.nil ?_ | refine Run.textA C_ok (aopC_sound C_ok) ?_ | refine And.intro rfl ?_ | refine And.intro (Nat.le_of_ble_eq_true rfl) ?_ | refine And.intro (Int.natCast_nonneg _) ?_ | refine fun (_ : Nat) => ?_ | refine Run.go rfl ?_ | refine Cont.go rfl ?_)
  refine Run.drawnK C_ok (aopC_sound C_ok) [0, 3] [0, 1, 2, 3, 4, 5, 6, 7] (by kernel_rfl) ?_
  repeat (first | refine OpsA.cons ?_ | refine OpsA.nil ?_ | refine OrdK.cons rfl ?_ | refine OrdK.nil ?_ | refine Run.textA C_ok (aopC_sound C_ok) ?_ | refine And.intro rfl ?_ | refine And.intro (Nat.le_of_ble_eq_true rfl) ?_ | refine And.intro (Int.natCast_nonneg _) ?_ | refine fun (_ : Nat) => ?_ | refine Run.go rfl ?_ | refine Cont.go rfl ?_)
  refine ⟨1, es, cl, some (i, valX x), rfl, f1, f2, ?_⟩
  repeat (first | refine OpsA.cons ?_ | refine OpsA.nil ?_ | refine OrdK.cons rfl ?_ | refine OrdK.nil ?_ | refine Run.textA C_ok (aopC_sound C_ok) ?_ | refine And.intro rfl ?_ | refine And.intro (Nat.le_of_ble_eq_true rfl) ?_ | refine And.intro (Int.natCast_nonneg _) ?_ | refine fun (_ : Nat) => ?_ | refine Run.go rfl ?_ | refine Cont.go rfl ?_)
  refine Run.drawnA C_ok (aopC_sound C_ok) [0, 3] [12, 13, 14, 15] [0, 1, 2, 3, 5, 7, 8, 4, 6, 9, 10, 11] (by kernel_rfl) (by kernel_rfl) ?_
  repeat (first | refine OpsA.cons ?_ | refine OpsA.nil ?_ | refine OrdK.cons rfl ?_ | refine OrdK.nil ?_ | refine OrdA.cons rfl ?_ | refine OrdA.nil ?_ | refine OrdW.cons rfl ?_ | refine OrdW.nil ?_ | refine Run.textA C_ok (aopC_sound C_ok) ?_ | refine And.intro rfl ?_ | refine And.intro (Nat.le_of_ble_eq_true rfl) ?_ | refine And.intro (Int.natCast_nonneg _) ?_ | refine fun (_ : Nat) => ?_ | refine Run.go rfl ?_ | refine Cont.go rfl ?_)
  rcases hc with ⟨rfl, rfl, rfl⟩ | ⟨Cp, rfl, rfl⟩
  · repeat (first | refine OpsA.cons ?_ | refine OpsA.nil ?_ | refine OrdK.cons rfl ?_ | refine OrdK.nil ?_ | refine OrdA.cons rfl ?_ | refine OrdA.nil ?_ | refine OrdW.cons rfl ?_ | refine OrdW.nil ?_ | refine Run.textA C_ok (aopC_sound C_ok) ?_ | refine And.intro rfl ?_ | refine And.intro (Nat.le_of_ble_eq_true rfl) ?_ | refine And.intro (Int.natCast_nonneg _) ?_ | refine fun (_ : Nat) => ?_ | refine Run.go rfl ?_ | refine Cont.go rfl ?_)
    refine ⟨fun h => absurd h (List.cons_ne_nil _ _), fun _ => ?_⟩
    repeat (first | refine OpsA.cons ?_ | refine OpsA.nil ?_ | refine OrdK.cons rfl ?_ | refine OrdK.nil ?_ | refine OrdA.cons rfl ?_ | refine OrdA.nil ?_ | refine OrdW.cons rfl ?_ | refine OrdW.nil ?_ | refine Run.textA C_ok (aopC_sound C_ok) ?_ | refine And.intro rfl ?_ | refine And.intro (Nat.le_of_ble_eq_true rfl) ?_ | refine And.intro (Int.natCast_nonneg _) ?_ | refine fun (_ : Nat) => ?_ | refine Run.go rfl ?_ | refine Cont.go rfl ?_)
    refine ACallT.ok (ACall.ret (told_spec { x with d := d, c := st, v := x.v + 1 }) ?_)
    repeat (first | refine OpsA.cons ?_ | refine OpsA.nil ?_ | refine OrdK.cons rfl ?_ | refine OrdK.nil ?_ | refine OrdA.cons rfl ?_ | refine OrdA.nil ?_ | refine OrdW.cons rfl ?_ | refine OrdW.nil ?_ | refine Run.textA C_ok (aopC_sound C_ok) ?_ | refine And.intro rfl ?_ | refine And.intro (Nat.le_of_ble_eq_true rfl) ?_ | refine And.intro (Int.natCast_nonneg _) ?_ | refine fun (_ : Nat) => ?_ | refine Run.go rfl ?_ | refine Cont.go rfl ?_)
    rename_i g' Cp'
    refine ⟨.tuple [encR (told { x with d := d, c := st, v := x.v + 1 }), .int .i64 0], WorkL gw gm s st (.sl 2 g' Cp' 1) _ cl g' (.row tC 4 Cp' [encC ⟨2, x.p, d, x.v + 1⟩]), FinOk.keepS _ [0, 1, 6] (subR0 rfl) (by decide) rfl ⟨rfl, SubO.cells ⟨Sub.refl _, Sub.refl _, Sub.refl _, Sub.sl _ _ _ _ _, trivial⟩, rfl, SubO.refl _, rfl, SubO.refl _, trivial⟩, _, cl, _, g', _, f3 { x with d := d, c := st, v := x.v + 1 } rfl, LN.one rfl, rfl, rfl⟩
  · repeat (first | refine OpsA.cons ?_ | refine OpsA.nil ?_ | refine OrdK.cons rfl ?_ | refine OrdK.nil ?_ | refine OrdA.cons rfl ?_ | refine OrdA.nil ?_ | refine OrdW.cons rfl ?_ | refine OrdW.nil ?_ | refine Run.textA C_ok (aopC_sound C_ok) ?_ | refine And.intro rfl ?_ | refine And.intro (Nat.le_of_ble_eq_true rfl) ?_ | refine And.intro (Int.natCast_nonneg _) ?_ | refine fun (_ : Nat) => ?_ | refine Run.go rfl ?_ | refine Cont.go rfl ?_)
    refine ⟨by simp, ?_⟩
    repeat (first | refine OpsA.cons ?_ | refine OpsA.nil ?_ | refine OrdK.cons rfl ?_ | refine OrdK.nil ?_ | refine OrdA.cons rfl ?_ | refine OrdA.nil ?_ | refine OrdW.cons rfl ?_ | refine OrdW.nil ?_ | refine Run.textA C_ok (aopC_sound C_ok) ?_ | refine And.intro rfl ?_ | refine And.intro (Nat.le_of_ble_eq_true rfl) ?_ | refine And.intro (Int.natCast_nonneg _) ?_ | refine fun (_ : Nat) => ?_ | refine Run.go rfl ?_ | refine Cont.go rfl ?_)
    refine ⟨by simp; omega, ?_⟩
    repeat (first | refine OpsA.cons ?_ | refine OpsA.nil ?_ | refine OrdK.cons rfl ?_ | refine OrdK.nil ?_ | refine OrdA.cons rfl ?_ | refine OrdA.nil ?_ | refine OrdW.cons rfl ?_ | refine OrdW.nil ?_ | refine Run.textA C_ok (aopC_sound C_ok) ?_ | refine And.intro rfl ?_ | refine And.intro (Nat.le_of_ble_eq_true rfl) ?_ | refine And.intro (Int.natCast_nonneg _) ?_ | refine fun (_ : Nat) => ?_ | refine Run.go rfl ?_ | refine Cont.go rfl ?_)
    refine ACallT.ok (ACall.ret (told_spec { x with d := d, c := st, v := x.v + 1 }) ?_)
    repeat (first | refine OpsA.cons ?_ | refine OpsA.nil ?_ | refine OrdK.cons rfl ?_ | refine OrdK.nil ?_ | refine OrdA.cons rfl ?_ | refine OrdA.nil ?_ | refine OrdW.cons rfl ?_ | refine OrdW.nil ?_ | refine Run.textA C_ok (aopC_sound C_ok) ?_ | refine And.intro rfl ?_ | refine And.intro (Nat.le_of_ble_eq_true rfl) ?_ | refine And.intro (Int.natCast_nonneg _) ?_ | refine fun (_ : Nat) => ?_ | refine Run.go rfl ?_ | refine Cont.go rfl ?_)
    rename_i g' Cp'
    refine ⟨.tuple [encR (told { x with d := d, c := st, v := x.v + 1 }), .int .i64 0], WorkL gw gm s st (.sl 2 g' Cp' ((cs.map encC).length + 1)) _ cl g' (.row tC 4 Cp' (cs.map encC ++ [encC ⟨2, x.p, d, x.v + 1⟩])), FinOk.keepS _ [0, 1, 2] (subR0 rfl) (by decide) rfl ⟨rfl, SubO.cells ⟨Sub.refl _, Sub.refl _, Sub.refl _, Sub.refl _, trivial⟩, rfl, SubO.refl _, rfl, SubO.refl _, trivial⟩, _, cl, _, g', _, f3 { x with d := d, c := st, v := x.v + 1 } rfl, LN.snoc, rfl, rfl⟩
set_option maxHeartbeats 1000000 in
theorem drop_spec (gw gm gc : Nat) (s st : Int) (cs : List Chg) (cv : AV) (co : AObj) (hc : LC 2 cs cv gc co) (hcs : cs.length ≤ 100) {l : List Fu} {es : Array MapEntry} {cl : Nat} (h : TM l es cl) (hi : TInv l) {x : Fu} (hx : x ∈ l) :
    FnSpec C 75 [.ptr 0 gw 0, encX x] (WorkL gw gm s st cv es cl gc co)
      (OneQ gw gm s st cs (if kidsF l x.p ≠ [] then .error 43 else .ok (del l x.p, ⟨x.p, eS, 0, 0, 0, 0, []⟩, [goneC x]))) := by
  obtain ⟨i, f1, f2, f3, f4, _⟩ := h.hit hi.sorted hx
  refine FnSpec.start C_ok Tryz.func75 rfl rfl Tryz.ntmps75 ?_
  repeat (first | refine OpsA.cons ?_ | refine OpsA.nil ?_ | refine Run.textA C_ok (aopC_sound C_ok) ?_ | refine And.intro rfl ?_ | refine And.intro (Nat.le_of_ble_eq_true rfl) ?_ | refine And.intro (Int.natCast_nonneg _) ?_ | refine fun (_ : Nat) => ?_ | refine Run.go rfl ?_ | refine Cont.go rfl ?_)
  refine Run.drawnK C_ok (aopC_sound C_ok) [0, 3] [0, 1, 2, 3, 4, 5, 6, 7, 8] (by kernel_rfl) ?_
  repeat (first | refine OpsA.cons ?_ | refine OpsA.nil ?_ | refine OrdK.cons rfl ?_ | refine OrdK.nil ?_ | refine Run.textA C_ok (aopC_sound C_ok) ?_ | refine And.intro rfl ?_ | refine And.intro (Nat.le_of_ble_eq_true rfl) ?_ | refine And.intro (Int.natCast_nonneg _) ?_ | refine fun (_ : Nat) => ?_ | refine Run.go rfl ?_ | refine Cont.go rfl ?_)
  refine ACallT.ok (ACall.sel [1] (by decide) [.any (.map (some gm)), .str x.p] _ (.two (Sub.refl _) (Sub.refl _)) (kids_spec gm h hi x.p) ?_)
  rintro r L' ⟨v, g, o, hv, rfl, rfl⟩
  rename_i gx gr
  rcases hv with ⟨e0, rfl, rfl⟩ | ⟨Cp, rfl, rfl⟩
  · rw [if_neg (by rw [e0]; exact fun h => h rfl)]
    refine ⟨_, Sub.refl _, ?_⟩
    repeat (first | refine OpsA.cons ?_ | refine OpsA.nil ?_ | refine OrdK.cons rfl ?_ | refine OrdK.nil ?_ | refine Run.textA C_ok (aopC_sound C_ok) ?_ | refine And.intro rfl ?_ | refine And.intro (Nat.le_of_ble_eq_true rfl) ?_ | refine And.intro (Int.natCast_nonneg _) ?_ | refine fun (_ : Nat) => ?_ | refine Run.go rfl ?_ | refine Cont.go rfl ?_)
    refine ⟨fun h => absurd h (by decide), fun _ => ?_⟩
    repeat (first | refine OpsA.cons ?_ | refine OpsA.nil ?_ | refine OrdK.cons rfl ?_ | refine OrdK.nil ?_ | refine Run.textA C_ok (aopC_sound C_ok) ?_ | refine And.intro rfl ?_ | refine And.intro (Nat.le_of_ble_eq_true rfl) ?_ | refine And.intro (Int.natCast_nonneg _) ?_ | refine fun (_ : Nat) => ?_ | refine Run.go rfl ?_ | refine Cont.go rfl ?_)
    refine Run.drawnK C_ok (aopC_sound C_ok) [0, 3] [0, 1, 2, 3, 4, 5, 6] (by kernel_rfl) ?_
    repeat (first | refine OpsA.cons ?_ | refine OpsA.nil ?_ | refine OrdK.cons rfl ?_ | refine OrdK.nil ?_ | refine Run.textA C_ok (aopC_sound C_ok) ?_ | refine And.intro rfl ?_ | refine And.intro (Nat.le_of_ble_eq_true rfl) ?_ | refine And.intro (Int.natCast_nonneg _) ?_ | refine fun (_ : Nat) => ?_ | refine Run.go rfl ?_ | refine Cont.go rfl ?_)
    refine ⟨1, es, cl, some (i, valX x), rfl, f1, ?_⟩
    repeat (first | refine OpsA.cons ?_ | refine OpsA.nil ?_ | refine OrdK.cons rfl ?_ | refine OrdK.nil ?_ | refine Run.textA C_ok (aopC_sound C_ok) ?_ | refine And.intro rfl ?_ | refine And.intro (Nat.le_of_ble_eq_true rfl) ?_ | refine And.intro (Int.natCast_nonneg _) ?_ | refine fun (_ : Nat) => ?_ | refine Run.go rfl ?_ | refine Cont.go rfl ?_)
    refine Run.drawnA C_ok (aopC_sound C_ok) [0, 3] [8, 9, 10, 11] [0, 1, 2, 3, 4, 5, 6, 7] (by kernel_rfl) (by kernel_rfl) ?_
    repeat (first | refine OpsA.cons ?_ | refine OpsA.nil ?_ | refine OrdK.cons rfl ?_ | refine OrdK.nil ?_ | refine OrdA.cons rfl ?_ | refine OrdA.nil ?_ | refine OrdW.cons rfl ?_ | refine OrdW.nil ?_ | refine Run.textA C_ok (aopC_sound C_ok) ?_ | refine And.intro rfl ?_ | refine And.intro (Nat.le_of_ble_eq_true rfl) ?_ | refine And.intro (Int.natCast_nonneg _) ?_ | refine fun (_ : Nat) => ?_ | refine Run.go rfl ?_ | refine Cont.go rfl ?_)
    refine ACallE.quiet (ACallQ.ret (gone_spec x) ?_)
    repeat (first | refine OpsA.cons ?_ | refine OpsA.nil ?_ | refine OrdK.cons rfl ?_ | refine OrdK.nil ?_ | refine OrdA.cons rfl ?_ | refine OrdA.nil ?_ | refine OrdW.cons rfl ?_ | refine OrdW.nil ?_ | refine Run.textA C_ok (aopC_sound C_ok) ?_ | refine And.intro rfl ?_ | refine And.intro (Nat.le_of_ble_eq_true rfl) ?_ | refine And.intro (Int.natCast_nonneg _) ?_ | refine fun (_ : Nat) => ?_ | refine Run.go rfl ?_ | refine Cont.go rfl ?_)
    rcases hc with ⟨rfl, rfl, rfl⟩ | ⟨Cp', rfl, rfl⟩
    · repeat (first | refine OpsA.cons ?_ | refine OpsA.nil ?_ | refine OrdK.cons rfl ?_ | refine OrdK.nil ?_ | refine OrdA.cons rfl ?_ | refine OrdA.nil ?_ | refine OrdW.cons rfl ?_ | refine OrdW.nil ?_ | refine Run.textA C_ok (aopC_sound C_ok) ?_ | refine And.intro rfl ?_ | refine And.intro (Nat.le_of_ble_eq_true rfl) ?_ | refine And.intro (Int.natCast_nonneg _) ?_ | refine fun (_ : Nat) => ?_ | refine Run.go rfl ?_ | refine Cont.go rfl ?_)
      refine ⟨fun h => absurd h (List.cons_ne_nil _ _), fun _ => ?_⟩
      repeat (first | refine OpsA.cons ?_ | refine OpsA.nil ?_ | refine OrdK.cons rfl ?_ | refine OrdK.nil ?_ | refine OrdA.cons rfl ?_ | refine OrdA.nil ?_ | refine OrdW.cons rfl ?_ | refine OrdW.nil ?_ | refine Run.textA C_ok (aopC_sound C_ok) ?_ | refine And.intro rfl ?_ | refine And.intro (Nat.le_of_ble_eq_true rfl) ?_ | refine And.intro (Int.natCast_nonneg _) ?_ | refine fun (_ : Nat) => ?_ | refine Run.go rfl ?_ | refine Cont.go rfl ?_)
      rename_i g' Cp'
      refine ⟨.tuple [encR ⟨x.p, eS, 0, 0, 0, 0, []⟩, .int .i64 0], WorkL gw gm s st (.sl 2 g' Cp' 1) _ cl g' (.row tC 4 Cp' [encC (goneC x)]), FinOk.keepS _ [0, 1, 7] (subR0 (r := ⟨x.p, eS, 0, 0, 0, 0, []⟩) rfl) (by decide) rfl ⟨rfl, SubO.cells ⟨Sub.refl _, Sub.refl _, Sub.refl _, Sub.sl _ _ _ _ _, trivial⟩, rfl, SubO.refl _, rfl, SubO.refl _, trivial⟩, _, cl, _, g', _, f4, LN.one rfl, rfl, rfl⟩
    · repeat (first | refine OpsA.cons ?_ | refine OpsA.nil ?_ | refine OrdK.cons rfl ?_ | refine OrdK.nil ?_ | refine OrdA.cons rfl ?_ | refine OrdA.nil ?_ | refine OrdW.cons rfl ?_ | refine OrdW.nil ?_ | refine Run.textA C_ok (aopC_sound C_ok) ?_ | refine And.intro rfl ?_ | refine And.intro (Nat.le_of_ble_eq_true rfl) ?_ | refine And.intro (Int.natCast_nonneg _) ?_ | refine fun (_ : Nat) => ?_ | refine Run.go rfl ?_ | refine Cont.go rfl ?_)
      refine ⟨by simp, ?_⟩
      repeat (first | refine OpsA.cons ?_ | refine OpsA.nil ?_ | refine OrdK.cons rfl ?_ | refine OrdK.nil ?_ | refine OrdA.cons rfl ?_ | refine OrdA.nil ?_ | refine OrdW.cons rfl ?_ | refine OrdW.nil ?_ | refine Run.textA C_ok (aopC_sound C_ok) ?_ | refine And.intro rfl ?_ | refine And.intro (Nat.le_of_ble_eq_true rfl) ?_ | refine And.intro (Int.natCast_nonneg _) ?_ | refine fun (_ : Nat) => ?_ | refine Run.go rfl ?_ | refine Cont.go rfl ?_)
      refine ⟨by simp; omega, ?_⟩
      repeat (first | refine OpsA.cons ?_ | refine OpsA.nil ?_ | refine OrdK.cons rfl ?_ | refine OrdK.nil ?_ | refine OrdA.cons rfl ?_ | refine OrdA.nil ?_ | refine OrdW.cons rfl ?_ | refine OrdW.nil ?_ | refine Run.textA C_ok (aopC_sound C_ok) ?_ | refine And.intro rfl ?_ | refine And.intro (Nat.le_of_ble_eq_true rfl) ?_ | refine And.intro (Int.natCast_nonneg _) ?_ | refine fun (_ : Nat) => ?_ | refine Run.go rfl ?_ | refine Cont.go rfl ?_)
      rename_i g' Cp'
      refine ⟨.tuple [encR ⟨x.p, eS, 0, 0, 0, 0, []⟩, .int .i64 0], WorkL gw gm s st (.sl 2 g' Cp' ((cs.map encC).length + 1)) _ cl g' (.row tC 4 Cp' (cs.map encC ++ [encC (goneC x)])), FinOk.keepS _ [0, 1, 2] (subR0 (r := ⟨x.p, eS, 0, 0, 0, 0, []⟩) rfl) (by decide) rfl ⟨rfl, SubO.cells ⟨Sub.refl _, Sub.refl _, Sub.refl _, Sub.refl _, trivial⟩, rfl, SubO.refl _, rfl, SubO.refl _, trivial⟩, _, cl, _, g', _, f4, LN.snoc, rfl, rfl⟩
  · by_cases e0 : kidsF l x.p = []
    · rw [if_neg (by rw [e0]; exact fun h => h rfl)]
      refine ⟨.sl 5 g Cp (kidsF l x.p).length, Sub.sl _ _ _ _ _, ?_⟩
      repeat (first | refine OpsA.cons ?_ | refine OpsA.nil ?_ | refine OrdK.cons rfl ?_ | refine OrdK.nil ?_ | refine Run.textA C_ok (aopC_sound C_ok) ?_ | refine And.intro rfl ?_ | refine And.intro (Nat.le_of_ble_eq_true rfl) ?_ | refine And.intro (Int.natCast_nonneg _) ?_ | refine fun (_ : Nat) => ?_ | refine Run.go rfl ?_ | refine Cont.go rfl ?_)
      refine ⟨fun h => absurd h (by rw [e0]; decide), fun _ => ?_⟩
      repeat (first | refine OpsA.cons ?_ | refine OpsA.nil ?_ | refine OrdK.cons rfl ?_ | refine OrdK.nil ?_ | refine Run.textA C_ok (aopC_sound C_ok) ?_ | refine And.intro rfl ?_ | refine And.intro (Nat.le_of_ble_eq_true rfl) ?_ | refine And.intro (Int.natCast_nonneg _) ?_ | refine fun (_ : Nat) => ?_ | refine Run.go rfl ?_ | refine Cont.go rfl ?_)
      refine Run.drawnK C_ok (aopC_sound C_ok) [0, 3] [0, 1, 2, 3, 4, 5, 6] (by kernel_rfl) ?_
      repeat (first | refine OpsA.cons ?_ | refine OpsA.nil ?_ | refine OrdK.cons rfl ?_ | refine OrdK.nil ?_ | refine Run.textA C_ok (aopC_sound C_ok) ?_ | refine And.intro rfl ?_ | refine And.intro (Nat.le_of_ble_eq_true rfl) ?_ | refine And.intro (Int.natCast_nonneg _) ?_ | refine fun (_ : Nat) => ?_ | refine Run.go rfl ?_ | refine Cont.go rfl ?_)
      refine ⟨1, es, cl, some (i, valX x), rfl, f1, ?_⟩
      repeat (first | refine OpsA.cons ?_ | refine OpsA.nil ?_ | refine OrdK.cons rfl ?_ | refine OrdK.nil ?_ | refine Run.textA C_ok (aopC_sound C_ok) ?_ | refine And.intro rfl ?_ | refine And.intro (Nat.le_of_ble_eq_true rfl) ?_ | refine And.intro (Int.natCast_nonneg _) ?_ | refine fun (_ : Nat) => ?_ | refine Run.go rfl ?_ | refine Cont.go rfl ?_)
      refine Run.drawnA C_ok (aopC_sound C_ok) [0, 3] [8, 9, 10, 11] [0, 1, 2, 3, 4, 5, 6, 7] (by kernel_rfl) (by kernel_rfl) ?_
      repeat (first | refine OpsA.cons ?_ | refine OpsA.nil ?_ | refine OrdK.cons rfl ?_ | refine OrdK.nil ?_ | refine OrdA.cons rfl ?_ | refine OrdA.nil ?_ | refine OrdW.cons rfl ?_ | refine OrdW.nil ?_ | refine Run.textA C_ok (aopC_sound C_ok) ?_ | refine And.intro rfl ?_ | refine And.intro (Nat.le_of_ble_eq_true rfl) ?_ | refine And.intro (Int.natCast_nonneg _) ?_ | refine fun (_ : Nat) => ?_ | refine Run.go rfl ?_ | refine Cont.go rfl ?_)
      refine ACallE.quiet (ACallQ.ret (gone_spec x) ?_)
      repeat (first | refine OpsA.cons ?_ | refine OpsA.nil ?_ | refine OrdK.cons rfl ?_ | refine OrdK.nil ?_ | refine OrdA.cons rfl ?_ | refine OrdA.nil ?_ | refine OrdW.cons rfl ?_ | refine OrdW.nil ?_ | refine Run.textA C_ok (aopC_sound C_ok) ?_ | refine And.intro rfl ?_ | refine And.intro (Nat.le_of_ble_eq_true rfl) ?_ | refine And.intro (Int.natCast_nonneg _) ?_ | refine fun (_ : Nat) => ?_ | refine Run.go rfl ?_ | refine Cont.go rfl ?_)
      rcases hc with ⟨rfl, rfl, rfl⟩ | ⟨Cp', rfl, rfl⟩
      · repeat (first | refine OpsA.cons ?_ | refine OpsA.nil ?_ | refine OrdK.cons rfl ?_ | refine OrdK.nil ?_ | refine OrdA.cons rfl ?_ | refine OrdA.nil ?_ | refine OrdW.cons rfl ?_ | refine OrdW.nil ?_ | refine Run.textA C_ok (aopC_sound C_ok) ?_ | refine And.intro rfl ?_ | refine And.intro (Nat.le_of_ble_eq_true rfl) ?_ | refine And.intro (Int.natCast_nonneg _) ?_ | refine fun (_ : Nat) => ?_ | refine Run.go rfl ?_ | refine Cont.go rfl ?_)
        refine ⟨fun h => absurd h (List.cons_ne_nil _ _), fun _ => ?_⟩
        repeat (first | refine OpsA.cons ?_ | refine OpsA.nil ?_ | refine OrdK.cons rfl ?_ | refine OrdK.nil ?_ | refine OrdA.cons rfl ?_ | refine OrdA.nil ?_ | refine OrdW.cons rfl ?_ | refine OrdW.nil ?_ | refine Run.textA C_ok (aopC_sound C_ok) ?_ | refine And.intro rfl ?_ | refine And.intro (Nat.le_of_ble_eq_true rfl) ?_ | refine And.intro (Int.natCast_nonneg _) ?_ | refine fun (_ : Nat) => ?_ | refine Run.go rfl ?_ | refine Cont.go rfl ?_)
        rename_i g' Cp'
        refine ⟨.tuple [encR ⟨x.p, eS, 0, 0, 0, 0, []⟩, .int .i64 0], WorkL gw gm s st (.sl 2 g' Cp' 1) _ cl g' (.row tC 4 Cp' [encC (goneC x)]), FinOk.keepS _ [0, 1, 7] (subR0 (r := ⟨x.p, eS, 0, 0, 0, 0, []⟩) rfl) (by decide) rfl ⟨rfl, SubO.cells ⟨Sub.refl _, Sub.refl _, Sub.refl _, Sub.sl _ _ _ _ _, trivial⟩, rfl, SubO.refl _, rfl, SubO.refl _, trivial⟩, _, cl, _, g', _, f4, LN.one rfl, rfl, rfl⟩
      · repeat (first | refine OpsA.cons ?_ | refine OpsA.nil ?_ | refine OrdK.cons rfl ?_ | refine OrdK.nil ?_ | refine OrdA.cons rfl ?_ | refine OrdA.nil ?_ | refine OrdW.cons rfl ?_ | refine OrdW.nil ?_ | refine Run.textA C_ok (aopC_sound C_ok) ?_ | refine And.intro rfl ?_ | refine And.intro (Nat.le_of_ble_eq_true rfl) ?_ | refine And.intro (Int.natCast_nonneg _) ?_ | refine fun (_ : Nat) => ?_ | refine Run.go rfl ?_ | refine Cont.go rfl ?_)
        refine ⟨by simp, ?_⟩
        repeat (first | refine OpsA.cons ?_ | refine OpsA.nil ?_ | refine OrdK.cons rfl ?_ | refine OrdK.nil ?_ | refine OrdA.cons rfl ?_ | refine OrdA.nil ?_ | refine OrdW.cons rfl ?_ | refine OrdW.nil ?_ | refine Run.textA C_ok (aopC_sound C_ok) ?_ | refine And.intro rfl ?_ | refine And.intro (Nat.le_of_ble_eq_true rfl) ?_ | refine And.intro (Int.natCast_nonneg _) ?_ | refine fun (_ : Nat) => ?_ | refine Run.go rfl ?_ | refine Cont.go rfl ?_)
        refine ⟨by simp; omega, ?_⟩
        repeat (first | refine OpsA.cons ?_ | refine OpsA.nil ?_ | refine OrdK.cons rfl ?_ | refine OrdK.nil ?_ | refine OrdA.cons rfl ?_ | refine OrdA.nil ?_ | refine OrdW.cons rfl ?_ | refine OrdW.nil ?_ | refine Run.textA C_ok (aopC_sound C_ok) ?_ | refine And.intro rfl ?_ | refine And.intro (Nat.le_of_ble_eq_true rfl) ?_ | refine And.intro (Int.natCast_nonneg _) ?_ | refine fun (_ : Nat) => ?_ | refine Run.go rfl ?_ | refine Cont.go rfl ?_)
        rename_i g' Cp'
        refine ⟨.tuple [encR ⟨x.p, eS, 0, 0, 0, 0, []⟩, .int .i64 0], WorkL gw gm s st (.sl 2 g' Cp' ((cs.map encC).length + 1)) _ cl g' (.row tC 4 Cp' (cs.map encC ++ [encC (goneC x)])), FinOk.keepS _ [0, 1, 2] (subR0 (r := ⟨x.p, eS, 0, 0, 0, 0, []⟩) rfl) (by decide) rfl ⟨rfl, SubO.cells ⟨Sub.refl _, Sub.refl _, Sub.refl _, Sub.refl _, trivial⟩, rfl, SubO.refl _, rfl, SubO.refl _, trivial⟩, _, cl, _, g', _, f4, LN.snoc, rfl, rfl⟩
    · rw [if_pos e0]
      refine ⟨.sl 5 g Cp (kidsF l x.p).length, Sub.sl _ _ _ _ _, ?_⟩
      repeat (first | refine OpsA.cons ?_ | refine OpsA.nil ?_ | refine OrdK.cons rfl ?_ | refine OrdK.nil ?_ | refine Run.textA C_ok (aopC_sound C_ok) ?_ | refine And.intro rfl ?_ | refine And.intro (Nat.le_of_ble_eq_true rfl) ?_ | refine And.intro (Int.natCast_nonneg _) ?_ | refine fun (_ : Nat) => ?_ | refine Run.go rfl ?_ | refine Cont.go rfl ?_)
      refine ⟨fun _ => ?_, fun h => absurd (show (0 : Int) < ((kidsF l x.p).length : Int) from by have := List.length_pos_iff.2 e0; omega) h⟩
      repeat (first | refine OpsA.cons ?_ | refine OpsA.nil ?_ | refine OrdK.cons rfl ?_ | refine OrdK.nil ?_ | refine Run.textA C_ok (aopC_sound C_ok) ?_ | refine And.intro rfl ?_ | refine And.intro (Nat.le_of_ble_eq_true rfl) ?_ | refine And.intro (Int.natCast_nonneg _) ?_ | refine fun (_ : Nat) => ?_ | refine Run.go rfl ?_ | refine Cont.go rfl ?_)
      exact ⟨_, [], FinOk.drop _ _, rfl, rfl⟩
end Go.Proofs.YtiikjcdjgmlcgaaGreatDoor.HBT
/- Entries of a map that are written in two steps; flags. -/
namespace Go.Proofs.YtiikjcdjgmlcgaaGreatDoor.HBT
open Go Go.Proofs.YtiikjcdjgmlcgaaGreatDoor.HB Go.RowKit
set_option maxRecDepth 8000

theorem modify2 (es : Array MapEntry) (i : Nat) (k v : Value) : (es.modify i fun e => { e with key := k }).modify i (fun e => { e with val := v }) = es.modify i fun e => { e with key := k, val := v } := by
  apply Array.ext_getElem?
  intro j
  simp only [Array.getElem?_modify]
  by_cases e : i = j
  · simp only [if_pos e]; cases es[j]? <;> rfl
  · simp only [if_neg e]
theorem TM.hit2 {l : List Fu} {es : Array MapEntry} {cl : Nat} (h : TM l es cl) (hs : Sorted l) {x : Fu} (hx : x ∈ l) :
    ∃ i, findAt C.P 9 (.string x.p) es.toList = some (some (i, valX x)) ∧ Instr.sameBits 10000 (((es[i]?).map (·.key)).getD (.string x.p)) (.string x.p) = true ∧
      (es.modify i fun e => { e with key := .string x.p }).findIdx? (fun e => (e.born : Int) == ((((es[i]?).map (·.born)).getD 0 : Nat) : Int)) = some i ∧
      ∀ y : Fu, y.p = x.p → TM (upd l y) ((es.modify i fun e => { e with key := .string x.p }).modify i fun e => { e with val := valX y }) cl := by
  obtain ⟨i, f1, f2, f3, _, e, he, ek, ev, _, hf⟩ := h.hit hs hx
  refine ⟨i, f1, f2, ?_, fun y hy => by rw [modify2]; exact f3 y hy⟩
  have e1 : (es.modify i fun e => { e with key := Value.string x.p }).findIdx? (fun e' => (e'.born : Int) == ((((es[i]?).map (·.born)).getD 0 : Nat) : Int)) = es.findIdx? (fun e' => (e'.born : Int) == ((((es[i]?).map (·.born)).getD 0 : Nat) : Int)) := by
    congr 1
    apply Array.ext_getElem?
    intro j
    rw [Array.getElem?_modify]
    by_cases hj : i = j
    · subst hj
      rw [if_pos rfl, he]
      simp only [Option.map_some, ← ek]
    · rw [if_neg hj]
  rw [e1, he]
  exact hf
theorem TM.push2 {l l' : List Fu} {es : Array MapEntry} {cl : Nat} (h : TM l es cl) {y : Fu} (hn : ∀ x ∈ l, x.p ≠ y.p) (hl : l'.Perm (y :: l)) (u : Value) :
    (es.push { key := .string y.p, val := u, born := cl }).findIdx? (fun e => (e.born : Int) == ((cl : Nat) : Int)) = some es.size ∧
      TM l' ((es.push { key := .string y.p, val := u, born := cl }).modify es.size fun e => { e with val := valX y }) (cl + 1) := by
  constructor
  · obtain ⟨M, hp, hm⟩ := h.map
    refine Array.findIdx?_eq_some_iff_getElem.2 ⟨by simp, by simp, fun j hj => ?_⟩
    have hjl : j < es.size := hj
    rw [Array.getElem_push_lt hjl]
    have := hm.old es[j] (Array.getElem_mem_toList hjl)
    simp
    omega
  · have := h.push hn hl
    have e : (es.push { key := .string y.p, val := u, born := cl }).modify es.size (fun e => { e with val := valX y }) = es.push { key := .string y.p, val := valX y, born := cl } := by
      apply Array.ext_getElem?
      intro j
      rw [Array.getElem?_modify, Array.getElem?_push, Array.getElem?_push]
      by_cases hj : es.size = j
      · subst hj; simp
      · rw [if_neg hj, if_neg (fun e => hj e.symm), if_neg (fun e => hj e.symm)]
    rw [e]; exact this
theorem upd_ins_perm (l : List Fu) {x a : Fu} (h : x.p ≠ a.p) : (upd (ins x l) a).Perm (x :: upd l a) := by
  have h1 : (upd (ins x l) a).Perm (upd (x :: l) a) := (ins_perm x l).map _
  have h2 : upd (x :: l) a = x :: upd l a := by unfold upd; rw [List.map_cons, if_neg h]
  rw [h2] at h1
  exact h1
theorem upd_far {l : List Fu} {a : Fu} {p : ByteArray} (h : ∀ x ∈ l, x.p ≠ p) : ∀ x ∈ upd l a, x.p ≠ p := fun x hx => by
  have : x.p ∈ (upd l a).map (·.p) := List.mem_map.2 ⟨x, hx, rfl⟩
  rw [upd_places] at this
  obtain ⟨y, hy, e⟩ := List.mem_map.1 this
  rw [← e]; exact h y hy
theorem flag1 {f : Int} (h0 : ¬ f < 0) (h3 : ¬ 3 < f) : decide (bitsV .and .i64 f 1 ≠ 0) = isBrf f := by
  have : f = 0 ∨ f = 1 ∨ f = 2 ∨ f = 3 := by omega
  rcases this with rfl | rfl | rfl | rfl <;> decide
theorem flag2 {f : Int} (h0 : ¬ f < 0) (h3 : ¬ 3 < f) : decide (bitsV .and .i64 f 2 ≠ 0) = isCnt f := by
  have : f = 0 ∨ f = 1 ∨ f = 2 ∨ f = 3 := by omega
  rcases this with rfl | rfl | rfl | rfl <;> decide
end Go.Proofs.YtiikjcdjgmlcgaaGreatDoor.HBT
/- What one op makes of the nodes, kind by kind; contracts told more shortly. -/
namespace Go.Proofs.YtiikjcdjgmlcgaaGreatDoor.HBT
open Go Go.Proofs.YtiikjcdjgmlcgaaGreatDoor.HB Go.RowKit
set_option maxRecDepth 8000

theorem play_2 (l : List Fu) (s st : Int) (p d : ByteArray) (v f : Int) : playF l s st ⟨2, p, d, v, f⟩ = if parseE p ≠ 0 then .error 10 else if 64 < d.size then .error 45 else match findF l p with
    | none => .error 40
    | some x => if v ≠ -1 ∧ v ≠ x.v then .error 42 else if 2147483647 ≤ x.v then .error 46 else .ok (upd l { x with d := d, c := st, v := x.v + 1 }, told { x with d := d, c := st, v := x.v + 1 }, [⟨2, x.p, d, x.v + 1⟩]) := by
  unfold playF
  simp only [show ¬ ((2 : Int) = 1) by decide, show ¬ ((2 : Int) = 3) by decide, show ((2 : Int) ≤ 4) by decide, if_false, if_true, false_and, true_and]
  exact if_neg (by decide)
theorem play_3 (l : List Fu) (s st : Int) (p d : ByteArray) (v f : Int) : playF l s st ⟨3, p, d, v, f⟩ = if parseE p ≠ 0 then .error 10 else if p = slash then .error 47 else match findF l p with
    | none => .error 40
    | some x => if v ≠ -1 ∧ v ≠ x.v then .error 42 else if kidsF l x.p ≠ [] then .error 43 else .ok (del l x.p, ⟨x.p, eS, 0, 0, 0, 0, []⟩, [goneC x]) := by
  unfold playF
  simp only [show ¬ ((3 : Int) = 1) by decide, show ¬ ((3 : Int) = 2) by decide, show ((3 : Int) ≤ 4) by decide, if_false, if_true, false_and, true_and]
  exact if_neg (by decide)
theorem play_4 (l : List Fu) (s st : Int) (p d : ByteArray) (v f : Int) : playF l s st ⟨4, p, d, v, f⟩ = if parseE p ≠ 0 then .error 10 else match findF l p with
    | none => .error 40
    | some x => if v ≠ -1 ∧ v ≠ x.v then .error 42 else .ok (l, told x, []) := by
  unfold playF
  simp only [show ¬ ((4 : Int) = 1) by decide, show ¬ ((4 : Int) = 2) by decide, show ¬ ((4 : Int) = 3) by decide, show ¬ ((4 : Int) = 5) by decide, show ¬ ((4 : Int) = 7) by decide, show ((4 : Int) ≤ 4) by decide, if_false, false_and, true_and]
  exact if_neg (by decide)
theorem play_5 (l : List Fu) (s st : Int) (p d : ByteArray) (v f : Int) : playF l s st ⟨5, p, d, v, f⟩ = if parseE p ≠ 0 then .error 10 else match findF l p with
    | none => .error 40
    | some x => .ok (l, { told x with d := x.d }, []) := by
  unfold playF
  simp only [show ¬ ((5 : Int) = 1) by decide, show ¬ ((5 : Int) = 2) by decide, show ¬ ((5 : Int) = 3) by decide, show ¬ ((5 : Int) ≤ 4) by decide, if_false, if_true, false_and]
  exact if_neg (by decide)
theorem play_6 (l : List Fu) (s st : Int) (p d : ByteArray) (v f : Int) : playF l s st ⟨6, p, d, v, f⟩ = if parseE p ≠ 0 then .error 10 else match findF l p with
    | none => .error 40
    | some x => .ok (l, told x, []) := by
  unfold playF
  simp only [show ¬ ((6 : Int) = 1) by decide, show ¬ ((6 : Int) = 2) by decide, show ¬ ((6 : Int) = 3) by decide, show ¬ ((6 : Int) ≤ 4) by decide, show ¬ ((6 : Int) = 5) by decide, show ¬ ((6 : Int) = 7) by decide, if_false, false_and]
  exact if_neg (by decide)
theorem play_7 (l : List Fu) (s st : Int) (p d : ByteArray) (v f : Int) : playF l s st ⟨7, p, d, v, f⟩ = if parseE p ≠ 0 then .error 10 else match findF l p with
    | none => .error 40
    | some x => .ok (l, { told x with kids := (kidsF l x.p).map fun y => nameB y.p }, []) := by
  unfold playF
  simp only [show ¬ ((7 : Int) = 1) by decide, show ¬ ((7 : Int) = 2) by decide, show ¬ ((7 : Int) = 3) by decide, show ¬ ((7 : Int) ≤ 4) by decide, show ¬ ((7 : Int) = 5) by decide, if_false, if_true, false_and]
  exact if_neg (by decide)

theorem LN.move {α : Type} {e : α → AV} {t : TypeId} {sz k : Nat} {l : List α} {v : AV} {g : Nat} {o : AObj} (h : LN e t sz k l v g o) (k' : Nat) : ∃ v', Sub v v' ∧ LN e t sz k' l v' g o := by
  rcases h with ⟨a, rfl, b⟩ | ⟨Cp, rfl, b⟩
  · exact ⟨_, Sub.refl _, .inl ⟨a, rfl, b⟩⟩
  · exact ⟨_, Sub.sl _ k' _ _ _, .inr ⟨Cp, rfl, b⟩⟩
theorem LN.lend {α : Type} {e : α → AV} {t : TypeId} {sz k : Nat} {l : List α} {v : AV} {g : Nat} {o : AObj} {L : AHeap} (h : LN e t sz k l v g o) (hk : L[k]? = some (g, o)) : Lend L v (.ro sz (l.map e) l.length) := by
  rcases h with ⟨rfl, rfl, rfl⟩ | ⟨Cp, rfl, rfl⟩
  · exact .nils sz
  · exact .row k g Cp _ t sz _ hk (by rw [List.length_map]; exact Nat.le_refl _)
theorem map_at {α : Type} (e : α → AV) {l : List α} {i : Nat} {x : α} (h : l[i]? = some x) : (l.map e)[i]? = some (e x) := by rw [List.getElem?_map, h]; rfl
theorem Lend.tuples {L : AHeap} {xs ys : List AV} (h : Lends L xs ys) : Lend L (.tuple xs) (.tuple ys) := .tuple xs ys h.at_.1 h.at_.2
abbrev zeroRs : List AV := [.str eS, .str eS, .int .i64 0, .int .i64 0, .int .i64 0, .int .i64 0, .nils]
/-- Names of one's own. -/
abbrev LS := LN AV.str 9 1
theorem FnSpec.fin {C : Cx} {f : FuncId} {args : List AV} {L : AHeap} {Q Q' : AV → AHeap → Prop} (h : FnSpec C f args L Q) (hq : ∀ r L', Q r L' → ∃ r' L'', FinOk r L' r' L'' ∧ Q' r' L'') : FnSpec C f args L Q' :=
  ⟨h.1, fun imm w vs hG hs hl hv => (h.2 imm w vs hG hs hl hv).mono fun _ _ ⟨v, r, L', imm', a, b, c, d, q⟩ => by
    obtain ⟨r', L'', hf, hq'⟩ := hq r L' q
    obtain ⟨imm2, h1, h2, h3⟩ := hf _ _ _ _ _ _ _ c b d
    exact ⟨v, r', L'', imm2, a, h2, h1, h3, hq'⟩⟩
theorem parse_code (s : ByteArray) : FnSpec C 29 [.str s] [] (fun r L' => r = .tuple [.junk, .int .i64 (parseE s)] ∧ L' = []) :=
  FnSpec.fin (parse_spec s) fun r L' h => by
    refine ⟨.tuple [.junk, .int .i64 (parseE s)], [], FinOk.keep _ [] ?_ (by simp) rfl, rfl, rfl⟩
    rcases h with ⟨h, rfl, rfl⟩ | ⟨h, hn, rfl, rfl⟩ | ⟨h, hn, g, rfl, rfl⟩
    · exact Sub.tuples ⟨Sub.junk _, Sub.refl _, trivial⟩
    · exact Sub.tuples ⟨Sub.junk _, by rw [h]; exact Sub.refl _, trivial⟩
    · exact Sub.tuples ⟨Sub.junk _, by rw [h]; exact Sub.refl _, trivial⟩
theorem name_one (s : ByteArray) : FnSpec C 78 [.str s] [] (fun r L' => r = .tuple [.str (nameB s), .junk] ∧ L' = []) :=
  FnSpec.fin (name_spec s) fun r L' h => by
    obtain ⟨rfl, rfl⟩ := h
    exact ⟨.tuple [.str (nameB s), .junk], [], FinOk.keep _ [] (Sub.tuples ⟨Sub.refl _, Sub.junk _, trivial⟩) (by simp) rfl, rfl, rfl⟩
end Go.Proofs.YtiikjcdjgmlcgaaGreatDoor.HBT
/- One op of a request, of kind 2. -/
namespace Go.Proofs.YtiikjcdjgmlcgaaGreatDoor.HBT
open Go Go.Proofs.YtiikjcdjgmlcgaaGreatDoor.HB Go.RowKit
set_option maxRecDepth 8000

set_option maxHeartbeats 8000000 in
theorem op_2 (gw gm gc : Nat) (s st : Int) (cs : List Chg) (cv : AV) (co : AObj) (hc : LC 2 cs cv gc co) (hcs : cs.length ≤ 100) {l : List Fu} {es : Array MapEntry} {cl : Nat} (hT : TM l es cl) (hi : TInv l) (p d : ByteArray) (v f : Int) :
    FnSpec C 49 [.ptr 0 gw 0, .agg [.int .i64 2, .str p, .str d, .int .i64 v, .int .i64 f]] (WorkL gw gm s st cv es cl gc co) (OneQ gw gm s st cs (playF l s st ⟨2, p, d, v, f⟩)) := by
  have err : ∀ e, playF l s st ⟨2, p, d, v, f⟩ = .error e → OneQ gw gm s st cs (playF l s st ⟨2, p, d, v, f⟩) (.tuple [zeroR, .int .i64 e]) [] := fun e he => by rw [he]; exact ⟨rfl, rfl⟩
  rw [play_2] at err ⊢
  refine FnSpec.start C_ok Tryz.func49 rfl rfl Tryz.ntmps49 ?_
  repeat (first | refine OpsA.cons ?_ | refine OpsA.nil ?_ | refine Run.textA C_ok (aopC_sound C_ok) ?_ | refine And.intro rfl ?_ | refine And.intro (Nat.le_of_ble_eq_true rfl) ?_ | refine And.intro (Int.natCast_nonneg _) ?_ | refine fun (_ : Nat) => ?_ | refine Run.go rfl ?_ | refine Cont.go rfl ?_)
  rename_i go gr
  refine ⟨fun h => absurd h (by decide), fun _ => ?_⟩
  repeat (first | refine OpsA.cons ?_ | refine OpsA.nil ?_ | refine Run.textA C_ok (aopC_sound C_ok) ?_ | refine And.intro rfl ?_ | refine And.intro (Nat.le_of_ble_eq_true rfl) ?_ | refine And.intro (Int.natCast_nonneg _) ?_ | refine fun (_ : Nat) => ?_ | refine Run.go rfl ?_ | refine Cont.go rfl ?_)
  refine ⟨fun h => absurd h (by decide), fun _ => ?_⟩
  repeat (first | refine OpsA.cons ?_ | refine OpsA.nil ?_ | refine Run.textA C_ok (aopC_sound C_ok) ?_ | refine And.intro rfl ?_ | refine And.intro (Nat.le_of_ble_eq_true rfl) ?_ | refine And.intro (Int.natCast_nonneg _) ?_ | refine fun (_ : Nat) => ?_ | refine Run.go rfl ?_ | refine Cont.go rfl ?_)
  refine ⟨fun h => absurd h (by decide), fun _ => ?_⟩
  repeat (first | refine OpsA.cons ?_ | refine OpsA.nil ?_ | refine Run.textA C_ok (aopC_sound C_ok) ?_ | refine And.intro rfl ?_ | refine And.intro (Nat.le_of_ble_eq_true rfl) ?_ | refine And.intro (Int.natCast_nonneg _) ?_ | refine fun (_ : Nat) => ?_ | refine Run.go rfl ?_ | refine Cont.go rfl ?_)
  refine ACallT.ok (ACall.ret (r0 := .agg [.bool false, .bool true, .bool true]) (needs_spec 2) ?_)
  repeat (first | refine OpsA.cons ?_ | refine OpsA.nil ?_ | refine Run.textA C_ok (aopC_sound C_ok) ?_ | refine And.intro rfl ?_ | refine And.intro (Nat.le_of_ble_eq_true rfl) ?_ | refine And.intro (Int.natCast_nonneg _) ?_ | refine fun (_ : Nat) => ?_ | refine Run.go rfl ?_ | refine Cont.go rfl ?_)
  refine Run.drawnK C_ok (aopC_sound C_ok) [0, 1, 3] [0, 1, 2, 3, 4, 5, 6, 7, 8, 9, 10, 11, 12] (by kernel_rfl) ?_
  repeat (first | refine OpsA.cons ?_ | refine OpsA.nil ?_ | refine OrdK.cons rfl ?_ | refine OrdK.nil ?_ | refine Run.textA C_ok (aopC_sound C_ok) ?_ | refine And.intro rfl ?_ | refine And.intro (Nat.le_of_ble_eq_true rfl) ?_ | refine And.intro (Int.natCast_nonneg _) ?_ | refine fun (_ : Nat) => ?_ | refine Run.go rfl ?_ | refine Cont.go rfl ?_)
  cases hf : findF l p with
  | none =>
    rw [hf] at err
    refine ⟨1, es, cl, none, by decide, rfl, hT.miss (findF_none hf), ?_⟩
    repeat (first | refine OpsA.cons ?_ | refine OpsA.nil ?_ | refine OrdK.cons rfl ?_ | refine OrdK.nil ?_ | refine Run.textA C_ok (aopC_sound C_ok) ?_ | refine And.intro rfl ?_ | refine And.intro (Nat.le_of_ble_eq_true rfl) ?_ | refine And.intro (Int.natCast_nonneg _) ?_ | refine fun (_ : Nat) => ?_ | refine Run.go rfl ?_ | refine Cont.go rfl ?_)
    refine ACallT.ok (ACall.ret (parse_code p) ?_)
    repeat (first | refine OpsA.cons ?_ | refine OpsA.nil ?_ | refine OrdK.cons rfl ?_ | refine OrdK.nil ?_ | refine Run.textA C_ok (aopC_sound C_ok) ?_ | refine And.intro rfl ?_ | refine And.intro (Nat.le_of_ble_eq_true rfl) ?_ | refine And.intro (Int.natCast_nonneg _) ?_ | refine fun (_ : Nat) => ?_ | refine Run.go rfl ?_ | refine Cont.go rfl ?_)
    refine ⟨fun h => ?_, fun h => ?_⟩
    · have h : parseE p ≠ 0 := h
      repeat (first | refine OpsA.cons ?_ | refine OpsA.nil ?_ | refine OrdK.cons rfl ?_ | refine OrdK.nil ?_ | refine Run.textA C_ok (aopC_sound C_ok) ?_ | refine And.intro rfl ?_ | refine And.intro (Nat.le_of_ble_eq_true rfl) ?_ | refine And.intro (Int.natCast_nonneg _) ?_ | refine fun (_ : Nat) => ?_ | refine Run.go rfl ?_ | refine Cont.go rfl ?_)
      exact ⟨_, [], FinOk.drop _ _, err 10 (by rw [if_pos h])⟩
    have hpp : parseE p = 0 := Classical.not_not.1 h
    have nc : ¬ parseE p ≠ 0 := fun h => h hpp
    repeat (first | refine OpsA.cons ?_ | refine OpsA.nil ?_ | refine OrdK.cons rfl ?_ | refine OrdK.nil ?_ | refine Run.textA C_ok (aopC_sound C_ok) ?_ | refine And.intro rfl ?_ | refine And.intro (Nat.le_of_ble_eq_true rfl) ?_ | refine And.intro (Int.natCast_nonneg _) ?_ | refine fun (_ : Nat) => ?_ | refine Run.go rfl ?_ | refine Cont.go rfl ?_)
    refine ⟨fun h => ?_, fun h => ?_⟩
    · have h : (64 : Int) < (d.size : Int) := h
      repeat (first | refine OpsA.cons ?_ | refine OpsA.nil ?_ | refine OrdK.cons rfl ?_ | refine OrdK.nil ?_ | refine Run.textA C_ok (aopC_sound C_ok) ?_ | refine And.intro rfl ?_ | refine And.intro (Nat.le_of_ble_eq_true rfl) ?_ | refine And.intro (Int.natCast_nonneg _) ?_ | refine fun (_ : Nat) => ?_ | refine Run.go rfl ?_ | refine Cont.go rfl ?_)
      exact ⟨_, [], FinOk.drop _ _, err 45 (by rw [if_neg nc, if_pos (show 64 < d.size by omega)])⟩
    have nd0 : ¬ ((64 : Int) < (d.size : Int)) := h
    repeat (first | refine OpsA.cons ?_ | refine OpsA.nil ?_ | refine OrdK.cons rfl ?_ | refine OrdK.nil ?_ | refine Run.textA C_ok (aopC_sound C_ok) ?_ | refine And.intro rfl ?_ | refine And.intro (Nat.le_of_ble_eq_true rfl) ?_ | refine And.intro (Int.natCast_nonneg _) ?_ | refine fun (_ : Nat) => ?_ | refine Run.go rfl ?_ | refine Cont.go rfl ?_)
    have nd : ¬ 64 < d.size := by omega
    exact ⟨_, [], FinOk.drop _ _, err 40 (by rw [if_neg nc, if_neg nd])⟩
  | some x =>
    rw [hf] at err
    dsimp only at err ⊢
    obtain ⟨hxm, hxp⟩ := findF_some hf
    obtain ⟨i, g1, _⟩ := hT.hit hi.sorted hxm
    rw [hxp] at g1
    refine ⟨1, es, cl, some (i, valX x), by decide, rfl, g1, encX x, rfl, ?_⟩
    repeat (first | refine OpsA.cons ?_ | refine OpsA.nil ?_ | refine OrdK.cons rfl ?_ | refine OrdK.nil ?_ | refine Run.textA C_ok (aopC_sound C_ok) ?_ | refine And.intro rfl ?_ | refine And.intro (Nat.le_of_ble_eq_true rfl) ?_ | refine And.intro (Int.natCast_nonneg _) ?_ | refine fun (_ : Nat) => ?_ | refine Run.go rfl ?_ | refine Cont.go rfl ?_)
    refine ACallT.ok (ACall.ret (parse_code p) ?_)
    repeat (first | refine OpsA.cons ?_ | refine OpsA.nil ?_ | refine OrdK.cons rfl ?_ | refine OrdK.nil ?_ | refine Run.textA C_ok (aopC_sound C_ok) ?_ | refine And.intro rfl ?_ | refine And.intro (Nat.le_of_ble_eq_true rfl) ?_ | refine And.intro (Int.natCast_nonneg _) ?_ | refine fun (_ : Nat) => ?_ | refine Run.go rfl ?_ | refine Cont.go rfl ?_)
    refine ⟨fun h => ?_, fun h => ?_⟩
    · have h : parseE p ≠ 0 := h
      repeat (first | refine OpsA.cons ?_ | refine OpsA.nil ?_ | refine OrdK.cons rfl ?_ | refine OrdK.nil ?_ | refine Run.textA C_ok (aopC_sound C_ok) ?_ | refine And.intro rfl ?_ | refine And.intro (Nat.le_of_ble_eq_true rfl) ?_ | refine And.intro (Int.natCast_nonneg _) ?_ | refine fun (_ : Nat) => ?_ | refine Run.go rfl ?_ | refine Cont.go rfl ?_)
      exact ⟨_, [], FinOk.drop _ _, err 10 (by rw [if_pos h])⟩
    have hpp : parseE p = 0 := Classical.not_not.1 h
    have nc : ¬ parseE p ≠ 0 := fun h => h hpp
    repeat (first | refine OpsA.cons ?_ | refine OpsA.nil ?_ | refine OrdK.cons rfl ?_ | refine OrdK.nil ?_ | refine Run.textA C_ok (aopC_sound C_ok) ?_ | refine And.intro rfl ?_ | refine And.intro (Nat.le_of_ble_eq_true rfl) ?_ | refine And.intro (Int.natCast_nonneg _) ?_ | refine fun (_ : Nat) => ?_ | refine Run.go rfl ?_ | refine Cont.go rfl ?_)
    refine ⟨fun h => ?_, fun h => ?_⟩
    · have h : (64 : Int) < (d.size : Int) := h
      repeat (first | refine OpsA.cons ?_ | refine OpsA.nil ?_ | refine OrdK.cons rfl ?_ | refine OrdK.nil ?_ | refine Run.textA C_ok (aopC_sound C_ok) ?_ | refine And.intro rfl ?_ | refine And.intro (Nat.le_of_ble_eq_true rfl) ?_ | refine And.intro (Int.natCast_nonneg _) ?_ | refine fun (_ : Nat) => ?_ | refine Run.go rfl ?_ | refine Cont.go rfl ?_)
      exact ⟨_, [], FinOk.drop _ _, err 45 (by rw [if_neg nc, if_pos (show 64 < d.size by omega)])⟩
    have nd0 : ¬ ((64 : Int) < (d.size : Int)) := h
    repeat (first | refine OpsA.cons ?_ | refine OpsA.nil ?_ | refine OrdK.cons rfl ?_ | refine OrdK.nil ?_ | refine Run.textA C_ok (aopC_sound C_ok) ?_ | refine And.intro rfl ?_ | refine And.intro (Nat.le_of_ble_eq_true rfl) ?_ | refine And.intro (Int.natCast_nonneg _) ?_ | refine fun (_ : Nat) => ?_ | refine Run.go rfl ?_ | refine Cont.go rfl ?_)
    have nd : ¬ 64 < d.size := by omega
    by_cases hv : v ≠ -1 ∧ v ≠ x.v
    · refine ⟨fun _ => ?_, fun h => absurd hv.1 h⟩
      repeat (first | refine OpsA.cons ?_ | refine OpsA.nil ?_ | refine OrdK.cons rfl ?_ | refine OrdK.nil ?_ | refine Run.textA C_ok (aopC_sound C_ok) ?_ | refine And.intro rfl ?_ | refine And.intro (Nat.le_of_ble_eq_true rfl) ?_ | refine And.intro (Int.natCast_nonneg _) ?_ | refine fun (_ : Nat) => ?_ | refine Run.go rfl ?_ | refine Cont.go rfl ?_)
      refine ⟨fun _ => ?_, fun h => absurd hv.2 h⟩
      repeat (first | refine OpsA.cons ?_ | refine OpsA.nil ?_ | refine OrdK.cons rfl ?_ | refine OrdK.nil ?_ | refine Run.textA C_ok (aopC_sound C_ok) ?_ | refine And.intro rfl ?_ | refine And.intro (Nat.le_of_ble_eq_true rfl) ?_ | refine And.intro (Int.natCast_nonneg _) ?_ | refine fun (_ : Nat) => ?_ | refine Run.go rfl ?_ | refine Cont.go rfl ?_)
      exact ⟨_, [], FinOk.drop _ _, err 42 (by rw [if_neg nc, if_neg nd, if_pos hv])⟩
    refine ⟨fun h1 => ?_, fun h1 => ?_⟩
    · have h1 : v ≠ -1 := h1
      repeat (first | refine OpsA.cons ?_ | refine OpsA.nil ?_ | refine OrdK.cons rfl ?_ | refine OrdK.nil ?_ | refine Run.textA C_ok (aopC_sound C_ok) ?_ | refine And.intro rfl ?_ | refine And.intro (Nat.le_of_ble_eq_true rfl) ?_ | refine And.intro (Int.natCast_nonneg _) ?_ | refine fun (_ : Nat) => ?_ | refine Run.go rfl ?_ | refine Cont.go rfl ?_)
      refine ⟨fun h2 => absurd ⟨h1, h2⟩ hv, fun _ => ?_⟩
      repeat (first | refine OpsA.cons ?_ | refine OpsA.nil ?_ | refine OrdK.cons rfl ?_ | refine OrdK.nil ?_ | refine Run.textA C_ok (aopC_sound C_ok) ?_ | refine And.intro rfl ?_ | refine And.intro (Nat.le_of_ble_eq_true rfl) ?_ | refine And.intro (Int.natCast_nonneg _) ?_ | refine fun (_ : Nat) => ?_ | refine Run.go rfl ?_ | refine Cont.go rfl ?_)
      refine ⟨fun _ => ?_, fun h => absurd (by decide) h⟩
      repeat (first | refine OpsA.cons ?_ | refine OpsA.nil ?_ | refine OrdK.cons rfl ?_ | refine OrdK.nil ?_ | refine Run.textA C_ok (aopC_sound C_ok) ?_ | refine And.intro rfl ?_ | refine And.intro (Nat.le_of_ble_eq_true rfl) ?_ | refine And.intro (Int.natCast_nonneg _) ?_ | refine fun (_ : Nat) => ?_ | refine Run.go rfl ?_ | refine Cont.go rfl ?_)
      refine ACallT.ok (ACall.sel [0, 1, 2] (by decide) [.ptr 0 gw 0, encX x, .str d] _ (.three (Sub.refl _) (Sub.refl _) (Sub.refl _)) (set_spec gw gm gc s st cs cv co hc hcs hT hi hxm d) ?_)
      rw [if_neg nc, if_neg nd, if_neg hv]
      intro r L' hq
      by_cases hx : 2147483647 ≤ x.v
      · rw [if_pos hx] at hq ⊢
        obtain ⟨rfl, rfl⟩ := hq
        refine ⟨_, Sub.refl _, ?_⟩
        repeat (first | refine OpsA.cons ?_ | refine OpsA.nil ?_ | refine OrdK.cons rfl ?_ | refine OrdK.nil ?_ | refine Run.textA C_ok (aopC_sound C_ok) ?_ | refine And.intro rfl ?_ | refine And.intro (Nat.le_of_ble_eq_true rfl) ?_ | refine And.intro (Int.natCast_nonneg _) ?_ | refine fun (_ : Nat) => ?_ | refine Run.go rfl ?_ | refine Cont.go rfl ?_)
        exact ⟨_, [], FinOk.drop _ _, rfl, rfl⟩
      · rw [if_neg hx] at hq ⊢
        obtain ⟨es', cl', cv', gc', co', q1, q2, rfl, rfl⟩ := hq
        refine ⟨_, Sub.refl _, ?_⟩
        repeat (first | refine OpsA.cons ?_ | refine OpsA.nil ?_ | refine OrdK.cons rfl ?_ | refine OrdK.nil ?_ | refine Run.textA C_ok (aopC_sound C_ok) ?_ | refine And.intro rfl ?_ | refine And.intro (Nat.le_of_ble_eq_true rfl) ?_ | refine And.intro (Int.natCast_nonneg _) ?_ | refine fun (_ : Nat) => ?_ | refine Run.go rfl ?_ | refine Cont.go rfl ?_)
        exact ⟨_, _, FinOk.keep _ [0, 1, 2] (Sub.refl _) (by decide) rfl, es', cl', cv', gc', co', q1, q2, rfl, rfl⟩
    · repeat (first | refine OpsA.cons ?_ | refine OpsA.nil ?_ | refine OrdK.cons rfl ?_ | refine OrdK.nil ?_ | refine Run.textA C_ok (aopC_sound C_ok) ?_ | refine And.intro rfl ?_ | refine And.intro (Nat.le_of_ble_eq_true rfl) ?_ | refine And.intro (Int.natCast_nonneg _) ?_ | refine fun (_ : Nat) => ?_ | refine Run.go rfl ?_ | refine Cont.go rfl ?_)
      refine ⟨fun _ => ?_, fun h => absurd (by decide) h⟩
      repeat (first | refine OpsA.cons ?_ | refine OpsA.nil ?_ | refine OrdK.cons rfl ?_ | refine OrdK.nil ?_ | refine Run.textA C_ok (aopC_sound C_ok) ?_ | refine And.intro rfl ?_ | refine And.intro (Nat.le_of_ble_eq_true rfl) ?_ | refine And.intro (Int.natCast_nonneg _) ?_ | refine fun (_ : Nat) => ?_ | refine Run.go rfl ?_ | refine Cont.go rfl ?_)
      refine ACallT.ok (ACall.sel [0, 1, 2] (by decide) [.ptr 0 gw 0, encX x, .str d] _ (.three (Sub.refl _) (Sub.refl _) (Sub.refl _)) (set_spec gw gm gc s st cs cv co hc hcs hT hi hxm d) ?_)
      rw [if_neg nc, if_neg nd, if_neg hv]
      intro r L' hq
      by_cases hx : 2147483647 ≤ x.v
      · rw [if_pos hx] at hq ⊢
        obtain ⟨rfl, rfl⟩ := hq
        refine ⟨_, Sub.refl _, ?_⟩
        repeat (first | refine OpsA.cons ?_ | refine OpsA.nil ?_ | refine OrdK.cons rfl ?_ | refine OrdK.nil ?_ | refine Run.textA C_ok (aopC_sound C_ok) ?_ | refine And.intro rfl ?_ | refine And.intro (Nat.le_of_ble_eq_true rfl) ?_ | refine And.intro (Int.natCast_nonneg _) ?_ | refine fun (_ : Nat) => ?_ | refine Run.go rfl ?_ | refine Cont.go rfl ?_)
        exact ⟨_, [], FinOk.drop _ _, rfl, rfl⟩
      · rw [if_neg hx] at hq ⊢
        obtain ⟨es', cl', cv', gc', co', q1, q2, rfl, rfl⟩ := hq
        refine ⟨_, Sub.refl _, ?_⟩
        repeat (first | refine OpsA.cons ?_ | refine OpsA.nil ?_ | refine OrdK.cons rfl ?_ | refine OrdK.nil ?_ | refine Run.textA C_ok (aopC_sound C_ok) ?_ | refine And.intro rfl ?_ | refine And.intro (Nat.le_of_ble_eq_true rfl) ?_ | refine And.intro (Int.natCast_nonneg _) ?_ | refine fun (_ : Nat) => ?_ | refine Run.go rfl ?_ | refine Cont.go rfl ?_)
        exact ⟨_, _, FinOk.keep _ [0, 1, 2] (Sub.refl _) (by decide) rfl, es', cl', cv', gc', co', q1, q2, rfl, rfl⟩
end Go.Proofs.YtiikjcdjgmlcgaaGreatDoor.HBT
