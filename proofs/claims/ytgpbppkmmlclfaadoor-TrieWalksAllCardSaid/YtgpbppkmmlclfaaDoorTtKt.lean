/- A trie is walked. -/
import Derived.Test.YtgpbppkmmlclfaaDoorTtKo
import Derived.Test.YtgpbppkmmlclfaaDoorTtKq
import Derived.Test.YtgpbppkmmlclfaaDoorTtKd
import Derived.Test.YtgpbppkmmlclfaaDoorHbZq
set_option linter.unusedVariables false
set_option linter.unusedSimpArgs false
namespace Go.Proofs.YtgpbppkmmlclfaaDoor.HBT
open Go Go.Proofs.YtgpbppkmmlclfaaDoor.HB Go.RowKit
set_option maxRecDepth 8000

abbrev capL (gb gt : Nat) : Nat × AObj := (gb, .cells 26 [.ptr 0 gt 0])
abbrev walkF (gb : Nat) : Value := .func (.func 39) #[] #[.pointer (some ⟨gb, 0, none⟩)]
theorem walkC_spec (gt : Nat) : FnSpec C 21 [.ptr 0 gt 0] [] (fun r L' => ∃ gb, r = .any (walkF gb) ∧ L' = [capL gb gt]) := by
  refine FnSpec.start C_ok Tryd.func21 rfl rfl Tryd.ntmps21 ?_
  repeat(first|refine Sc ?_|refine fun(_:Nat)=>?_)
  rename_i gb
  exact ⟨_, _, FinOk.keep _ [0] (Sub.refl _) (by decide) rfl, gb, rfl, rfl⟩
theorem allTr_spec (ons : List On) (gt : Nat) (H : AHeap) (hT : IsTr ons gt H) (hn : ons.length ≤ 1000) :
    FnSpec C 40 [.ptr 0 gt 0, .nils] [(0, boxL H)] (fun r L' => ∃ acc g' o', acc.Perm ons ∧ LH 1 acc r g' o' ∧ L' = [(0, boxL H), (g', o')]) := by
  obtain ⟨S, l, ⟨ofv, Hn, go, oo, hN, ho⟩, hl, hok, hs⟩ := hT
  have hlen : l.length = ons.length := by rw [hl.length_eq]; unfold nlO; rw [List.length_map]
  have hd : ∀ x ∈ l, x.1.length < 7 := fun x hx => by
    obtain ⟨o, ho, rfl⟩ := List.mem_map.1 (hl.mem_iff.1 hx)
    have := names_len (hok o ho)
    show (namesOf o.w.p).length < 7
    omega
  have hv : (valsN l).Perm ons := by
    have := hl.map (·.2)
    unfold valsN
    refine this.trans ?_
    unfold nlO
    rw [List.map_map]
    exact List.Perm.of_eq (List.map_id' _)
  have hcall := allR ofv l gt Hn hN hd (by omega)
  refine FnSpec.imp (L := [(0, boxL Hn)] ++ [(go, oo), (0, boxL (S.map rowS))]) (.unbox _ _) ((hcall.frame _).post ?_)
  rintro r L' ⟨_, ⟨acc, g', o', h1, h2, rfl⟩, rfl⟩
  refine ⟨_, _, Sub.refl _, (Imp.perm (List.Perm.cons _ (List.perm_append_comm (l₁ := [(g', o')]) (l₂ := [(go, oo), (0, boxL (S.map rowS))])))).trans (Imp.app (L := [_, _, _]) (M := [_]) (.box 0 _) (.refl _)), acc, g', o', h1.trans hv, h2, rfl⟩
theorem walk1_spec (ons : List On) (gt : Nat) (H : AHeap) (hT : IsTr ons gt H) (hn : ons.length ≤ 1000) (gb l : Nat) (J : List On → Nat → Nat × AObj → Prop) (x0 : Nat × AObj)
    (h0 : ∀ ys, J ys 0 x0) (hY : ∀ ys : List On, ys.Perm ons → Walked ys → ∀ i o, ys[i]? = some o → ∀ x, J ys i x → YieldSpec C l [.str o.w.p, encT o] [x] (fun b L' => b = true ∧ ∃ x', J ys (i + 1) x' ∧ L' = [x'])) :
    FnSpec C 39 [.any (.func (.yield l) #[] #[]), .ptr 1 gb 0] [(0, boxL H), capL gb gt, x0] (fun r L' => ∃ ys x, ys.Perm ons ∧ Walked ys ∧ J ys ys.length x ∧ L' = [(0, boxL H), capL gb gt, x]) := by
  refine FnSpec.startX C_ok Tryd.func39 rfl rfl Tryd.ntmps39 ?_
  repeat(first|refine RunX.seq ?_|refine RunX.text C_ok (aopY_sound C_ok) ?_|refine RunX.blk ?_|refine RunX.skip ?_|refine RunX.exit ?_|refine RunX.ret ?_|refine RunX.condT rfl ?_|refine RunX.condF rfl ?_|refine Cont.ofX ?_|refine Cont.ofX_exit ?_|refine Cont.ofX_ret ?_|refine ContX.seq ?_|refine ContX.seq_exit ?_|refine ContX.seq_ret ?_|refine ContX.blk ?_|refine ContX.blk_exit ?_|refine ContX.blk_far rfl ?_|refine ContX.blk_ret ?_|refine ContX.lp_exit ?_|refine ContX.lp_ret ?_|refine ContX.nil ?_|refine Za ?_|refine Zb ?_|refine OrdI.one rfl ?_|refine OrdI.nil ?_|refine Zy rfl ?_|refine Z2 rfl ?_|refine Z3 ?_)
  refine CallZ.plain (ACallT.ok (ACall.sel [0] (by decide) [.ptr 0 gt 0, .nils] _ ⟨Sub.refl _, Sub.refl _, trivial⟩ (allTr_spec ons gt H hT hn) ?_))
  rintro r L' ⟨acc, g', o', hacc, hv, rfl⟩
  obtain ⟨v3, hv3, hs3, _⟩ := hv.re 3
  refine ⟨v3, hs3, ?_⟩
  have hpa : ∀ x ∈ acc, parseE x.w.p = 0 := fun x hx => by
    obtain ⟨S, l, _, _, hok, _⟩ := hT
    exact hok x (hacc.mem_iff.1 hx)
  have hal : acc.length ≤ 1000 := by rw [hacc.length_eq]; exact hn
  rcases hv3 with ⟨rfl, rfl, rfl⟩ | ⟨Cp, rfl, rfl⟩
  · repeat(first|refine RunX.seq ?_|refine RunX.text C_ok (aopY_sound C_ok) ?_|refine RunX.blk ?_|refine RunX.skip ?_|refine RunX.exit ?_|refine RunX.ret ?_|refine RunX.condT rfl ?_|refine RunX.condF rfl ?_|refine Cont.ofX ?_|refine Cont.ofX_exit ?_|refine Cont.ofX_ret ?_|refine ContX.seq ?_|refine ContX.seq_exit ?_|refine ContX.seq_ret ?_|refine ContX.blk ?_|refine ContX.blk_exit ?_|refine ContX.blk_far rfl ?_|refine ContX.blk_ret ?_|refine ContX.lp_exit ?_|refine ContX.lp_ret ?_|refine ContX.nil ?_|refine Za ?_|refine Zb ?_|refine OrdI.one rfl ?_|refine OrdI.nil ?_|refine Zy rfl ?_|refine Z2 rfl ?_|refine Z3 ?_)
    refine CallZ.plain (ACallT.ok (ACall.ret sortH_nil ?_))
    repeat(first|refine RunX.seq ?_|refine RunX.text C_ok (aopY_sound C_ok) ?_|refine RunX.blk ?_|refine RunX.skip ?_|refine RunX.exit ?_|refine RunX.ret ?_|refine RunX.condT rfl ?_|refine RunX.condF rfl ?_|refine Cont.ofX ?_|refine Cont.ofX_exit ?_|refine Cont.ofX_ret ?_|refine ContX.seq ?_|refine ContX.seq_exit ?_|refine ContX.seq_ret ?_|refine ContX.blk ?_|refine ContX.blk_exit ?_|refine ContX.blk_far rfl ?_|refine ContX.blk_ret ?_|refine ContX.lp_exit ?_|refine ContX.lp_ret ?_|refine ContX.nil ?_|refine Za ?_|refine Zb ?_|refine OrdI.one rfl ?_|refine OrdI.nil ?_|refine Zy rfl ?_|refine Z2 rfl ?_|refine Z3 ?_)
    refine RunX.loop (fun m env L => m = 0 ∧ env = [.any (.func (.yield l) #[] #[]), .ptr 1 gb 0, .junk, .nils, .junk, .junk, .junk, .junk, .junk, .junk, .junk, .junk, .junk, .junk, .nils, .int .i64 0, .int .i64 0, .junk, .junk, .junk, .junk, .junk, .junk, .junk, .junk, .junk, .junk, .junk, .junk] ∧ L = [(0, boxL H), capL gb gt, x0]) 0
      [.any (.func (.yield l) #[] #[]), .ptr 1 gb 0, .junk, .nils, .junk, .junk, .junk, .junk, .junk, .junk, .junk, .junk, .junk, .junk, .nils, .int .i64 0, .int .i64 0, .junk, .junk, .junk, .junk, .junk, .junk, .junk, .junk, .junk, .junk, .junk, .junk] [(0, boxL H), capL gb gt, x0] (Weak.sel ?_ [0, 1, 2] (by decide) ?_) ⟨rfl, rfl, rfl⟩ ?_
    · exact Ss
    · exact Sl
    rintro m env L ⟨rfl, rfl, rfl⟩
    repeat(first|refine RunX.seq ?_|refine RunX.text C_ok (aopY_sound C_ok) ?_|refine RunX.blk ?_|refine RunX.skip ?_|refine RunX.exit ?_|refine RunX.ret ?_|refine RunX.condT rfl ?_|refine RunX.condF rfl ?_|refine Cont.ofX ?_|refine Cont.ofX_exit ?_|refine Cont.ofX_ret ?_|refine ContX.seq ?_|refine ContX.seq_exit ?_|refine ContX.seq_ret ?_|refine ContX.blk ?_|refine ContX.blk_exit ?_|refine ContX.blk_far rfl ?_|refine ContX.blk_ret ?_|refine ContX.lp_exit ?_|refine ContX.lp_ret ?_|refine ContX.nil ?_|refine Za ?_|refine Zb ?_|refine OrdI.one rfl ?_|refine OrdI.nil ?_|refine Zy rfl ?_|refine Z2 rfl ?_|refine Z3 ?_)
    refine ⟨fun h => absurd h (by decide), fun _ => ?_⟩
    repeat(first|refine RunX.seq ?_|refine RunX.text C_ok (aopY_sound C_ok) ?_|refine RunX.blk ?_|refine RunX.skip ?_|refine RunX.exit ?_|refine RunX.ret ?_|refine RunX.condT rfl ?_|refine RunX.condF rfl ?_|refine Cont.ofX ?_|refine Cont.ofX_exit ?_|refine Cont.ofX_ret ?_|refine ContX.seq ?_|refine ContX.seq_exit ?_|refine ContX.seq_ret ?_|refine ContX.blk ?_|refine ContX.blk_exit ?_|refine ContX.blk_far rfl ?_|refine ContX.blk_ret ?_|refine ContX.lp_exit ?_|refine ContX.lp_ret ?_|refine ContX.nil ?_|refine Za ?_|refine Zb ?_|refine OrdI.one rfl ?_|refine OrdI.nil ?_|refine Zy rfl ?_|refine Z2 rfl ?_|refine Z3 ?_)
    exact postI.done (finI.none rfl ⟨_, _, FinOk.keep _ [0, 1, 2] (Sub.refl _) (by decide) rfl, [], x0, hacc, List.Pairwise.nil, h0 [], rfl⟩)
  · repeat(first|refine RunX.seq ?_|refine RunX.text C_ok (aopY_sound C_ok) ?_|refine RunX.blk ?_|refine RunX.skip ?_|refine RunX.exit ?_|refine RunX.ret ?_|refine RunX.condT rfl ?_|refine RunX.condF rfl ?_|refine Cont.ofX ?_|refine Cont.ofX_exit ?_|refine Cont.ofX_ret ?_|refine ContX.seq ?_|refine ContX.seq_exit ?_|refine ContX.seq_ret ?_|refine ContX.blk ?_|refine ContX.blk_exit ?_|refine ContX.blk_far rfl ?_|refine ContX.blk_ret ?_|refine ContX.lp_exit ?_|refine ContX.lp_ret ?_|refine ContX.nil ?_|refine Za ?_|refine Zb ?_|refine OrdI.one rfl ?_|refine OrdI.nil ?_|refine Zy rfl ?_|refine Z2 rfl ?_|refine Z3 ?_)
    refine CallZ.plain (ACallT.ok (ACall.sel [3] (by decide) [.sl 0 g' Cp acc.length, .any (.func (.func 42) #[] #[])] _ ⟨Sub.sl _ _ _ _ _, Sub.refl _, trivial⟩ (sortH_spec 0 g' Cp acc hpa hal) ?_))
    rintro r L' ⟨ys, rfl, hys, hw, rfl⟩
    have hyo := hys.trans hacc
    have hyl : ys.length ≤ 1000 := by rw [hyo.length_eq]; exact hn
    rw [← hys.length_eq]
    refine ⟨_, Sub.refl _, ?_⟩
    repeat(first|refine RunX.seq ?_|refine RunX.text C_ok (aopY_sound C_ok) ?_|refine RunX.blk ?_|refine RunX.skip ?_|refine RunX.exit ?_|refine RunX.ret ?_|refine RunX.condT rfl ?_|refine RunX.condF rfl ?_|refine Cont.ofX ?_|refine Cont.ofX_exit ?_|refine Cont.ofX_ret ?_|refine ContX.seq ?_|refine ContX.seq_exit ?_|refine ContX.seq_ret ?_|refine ContX.blk ?_|refine ContX.blk_exit ?_|refine ContX.blk_far rfl ?_|refine ContX.blk_ret ?_|refine ContX.lp_exit ?_|refine ContX.lp_ret ?_|refine ContX.nil ?_|refine Za ?_|refine Zb ?_|refine OrdI.one rfl ?_|refine OrdI.nil ?_|refine Zy rfl ?_|refine Z2 rfl ?_|refine Z3 ?_)
    refine RunX.loop (fun m env L => ∃ (i : Nat) (x : Nat × AObj), m = ys.length - i ∧ i ≤ ys.length ∧ J ys i x ∧ env = [.any (.func (.yield l) #[] #[]), .ptr 1 gb 0, .junk, .sl 3 g' Cp ys.length, .junk, .junk, .junk, .junk, .junk, .junk, .junk, .junk, .junk, .junk, .sl 3 g' Cp ys.length, .int .i64 ys.length, .int .i64 i, .junk, .junk, .junk, .junk, .junk, .junk, .junk, .junk, .junk, .junk, .junk, .junk] ∧ L = [(0, boxL H), capL gb gt, x, (g', .row tH 5 Cp (ys.map encH))]) ys.length
      [.any (.func (.yield l) #[] #[]), .ptr 1 gb 0, .junk, .sl 3 g' Cp ys.length, .junk, .junk, .junk, .junk, .junk, .junk, .junk, .junk, .junk, .junk, .sl 3 g' Cp ys.length, .int .i64 ys.length, .int .i64 (0 : Nat), .junk, .junk, .junk, .junk, .junk, .junk, .junk, .junk, .junk, .junk, .junk, .junk] [(0, boxL H), capL gb gt, x0, (g', .row tH 5 Cp (ys.map encH))] (Weak.sel ?_ [0, 1, 2, 3] (by decide) ?_) ⟨0, x0, by omega, by omega, h0 ys, rfl, rfl⟩ ?_
    · exact Ss
    · exact Sl
    rintro m env L ⟨i, x, rfl, hi, hJ, rfl, rfl⟩
    repeat(first|refine RunX.seq ?_|refine RunX.text C_ok (aopY_sound C_ok) ?_|refine RunX.blk ?_|refine RunX.skip ?_|refine RunX.exit ?_|refine RunX.ret ?_|refine RunX.condT rfl ?_|refine RunX.condF rfl ?_|refine Cont.ofX ?_|refine Cont.ofX_exit ?_|refine Cont.ofX_ret ?_|refine ContX.seq ?_|refine ContX.seq_exit ?_|refine ContX.seq_ret ?_|refine ContX.blk ?_|refine ContX.blk_exit ?_|refine ContX.blk_far rfl ?_|refine ContX.blk_ret ?_|refine ContX.lp_exit ?_|refine ContX.lp_ret ?_|refine ContX.nil ?_|refine Za ?_|refine Zb ?_|refine OrdI.one rfl ?_|refine OrdI.nil ?_|refine Zy rfl ?_|refine Z2 rfl ?_|refine Z3 ?_)
    refine ⟨fun h => ?_, fun h => ?_⟩
    rotate_left
    · have h : ¬ (i : Int) < (ys.length : Int) := h
      obtain rfl : i = ys.length := by omega
      repeat(first|refine RunX.seq ?_|refine RunX.text C_ok (aopY_sound C_ok) ?_|refine RunX.blk ?_|refine RunX.skip ?_|refine RunX.exit ?_|refine RunX.ret ?_|refine RunX.condT rfl ?_|refine RunX.condF rfl ?_|refine Cont.ofX ?_|refine Cont.ofX_exit ?_|refine Cont.ofX_ret ?_|refine ContX.seq ?_|refine ContX.seq_exit ?_|refine ContX.seq_ret ?_|refine ContX.blk ?_|refine ContX.blk_exit ?_|refine ContX.blk_far rfl ?_|refine ContX.blk_ret ?_|refine ContX.lp_exit ?_|refine ContX.lp_ret ?_|refine ContX.nil ?_|refine Za ?_|refine Zb ?_|refine OrdI.one rfl ?_|refine OrdI.nil ?_|refine Zy rfl ?_|refine Z2 rfl ?_|refine Z3 ?_)
      exact postI.done (finI.none rfl ⟨_, _, FinOk.keep _ [0, 1, 2] (Sub.refl _) (by decide) rfl, ys, x, hyo, hw, hJ, rfl⟩)
    have h : (i : Int) < (ys.length : Int) := h
    obtain ⟨o, eo⟩ : ∃ o, ys[i]? = some o := ⟨_, List.getElem?_eq_getElem (by omega)⟩
    have hYo := hY ys hyo hw i o eo x hJ
    repeat(first|refine RunX.seq ?_|refine RunX.text C_ok (aopY_sound C_ok) ?_|refine RunX.blk ?_|refine RunX.skip ?_|refine RunX.exit ?_|refine RunX.ret ?_|refine RunX.condT rfl ?_|refine RunX.condF rfl ?_|refine Cont.ofX ?_|refine Cont.ofX_exit ?_|refine Cont.ofX_ret ?_|refine ContX.seq ?_|refine ContX.seq_exit ?_|refine ContX.seq_ret ?_|refine ContX.blk ?_|refine ContX.blk_exit ?_|refine ContX.blk_far rfl ?_|refine ContX.blk_ret ?_|refine ContX.lp_exit ?_|refine ContX.lp_ret ?_|refine ContX.nil ?_|refine Za ?_|refine Zb ?_|refine OrdI.one rfl ?_|refine OrdI.nil ?_|refine Zy rfl ?_|refine Z2 rfl ?_|refine Z3 ?_)
    refine ⟨h, ?_⟩
    repeat(first|refine RunX.seq ?_|refine RunX.text C_ok (aopY_sound C_ok) ?_|refine RunX.blk ?_|refine RunX.skip ?_|refine RunX.exit ?_|refine RunX.ret ?_|refine RunX.condT rfl ?_|refine RunX.condF rfl ?_|refine Cont.ofX ?_|refine Cont.ofX_exit ?_|refine Cont.ofX_ret ?_|refine ContX.seq ?_|refine ContX.seq_exit ?_|refine ContX.seq_ret ?_|refine ContX.blk ?_|refine ContX.blk_exit ?_|refine ContX.blk_far rfl ?_|refine ContX.blk_ret ?_|refine ContX.lp_exit ?_|refine ContX.lp_ret ?_|refine ContX.nil ?_|refine Za ?_|refine Zb ?_|refine OrdI.one rfl ?_|refine OrdI.nil ?_|refine Zy rfl ?_|refine Z2 rfl ?_|refine Z3 ?_)
    refine ⟨encH o, map_at encH eo, ?_⟩
    repeat(first|refine RunX.seq ?_|refine RunX.text C_ok (aopY_sound C_ok) ?_|refine RunX.blk ?_|refine RunX.skip ?_|refine RunX.exit ?_|refine RunX.ret ?_|refine RunX.condT rfl ?_|refine RunX.condF rfl ?_|refine Cont.ofX ?_|refine Cont.ofX_exit ?_|refine Cont.ofX_ret ?_|refine ContX.seq ?_|refine ContX.seq_exit ?_|refine ContX.seq_ret ?_|refine ContX.blk ?_|refine ContX.blk_exit ?_|refine ContX.blk_far rfl ?_|refine ContX.blk_ret ?_|refine ContX.lp_exit ?_|refine ContX.lp_ret ?_|refine ContX.nil ?_|refine Za ?_|refine Zb ?_|refine OrdI.one rfl ?_|refine OrdI.nil ?_|refine Zy rfl ?_|refine Z2 rfl ?_|refine Z3 ?_)
    intro g5
    repeat(first|refine RunX.seq ?_|refine RunX.text C_ok (aopY_sound C_ok) ?_|refine RunX.blk ?_|refine RunX.skip ?_|refine RunX.exit ?_|refine RunX.ret ?_|refine RunX.condT rfl ?_|refine RunX.condF rfl ?_|refine Cont.ofX ?_|refine Cont.ofX_exit ?_|refine Cont.ofX_ret ?_|refine ContX.seq ?_|refine ContX.seq_exit ?_|refine ContX.seq_ret ?_|refine ContX.blk ?_|refine ContX.blk_exit ?_|refine ContX.blk_far rfl ?_|refine ContX.blk_ret ?_|refine ContX.lp_exit ?_|refine ContX.lp_ret ?_|refine ContX.nil ?_|refine Za ?_|refine Zb ?_|refine OrdI.one rfl ?_|refine OrdI.nil ?_|refine Zy rfl ?_|refine Z2 rfl ?_|refine Z3 ?_)
    refine RunX.drawn C_ok (aopY_sound C_ok) (fun env L => ∃ x', J ys (i + 1) x' ∧ env = [.any (.func (.yield l) #[] #[]), .ptr 1 gb 0, .junk, .sl 3 g' Cp ys.length, .junk, .junk, .junk, .junk, .junk, .junk, .junk, .junk, .junk, .junk, .sl 3 g' Cp ys.length, .int .i64 ys.length, .int .i64 i, .junk, .junk, .junk, .junk, .junk, .junk, .junk, .junk, .junk, .junk, .bool false, .junk] ∧ L = [(0, boxL H), capL gb gt, x', (g', .row tH 5 Cp (ys.map encH))]) (.one 0 (.one 1 (.one 2 (.two 3 (.one 4 (.one 5 (.one 6 (.one 7 .nil)))) 4 (.two 3 (.one 5 (.one 6 (.one 7 .nil))) 5 (.one 3 (.one 6 (.one 7 .nil)))))))) (by kernel_rfl) ?_ ?_
    · repeat(first|refine RunX.seq ?_|refine RunX.text C_ok (aopY_sound C_ok) ?_|refine RunX.blk ?_|refine RunX.skip ?_|refine RunX.exit ?_|refine RunX.ret ?_|refine RunX.condT rfl ?_|refine RunX.condF rfl ?_|refine Cont.ofX ?_|refine Cont.ofX_exit ?_|refine Cont.ofX_ret ?_|refine ContX.seq ?_|refine ContX.seq_exit ?_|refine ContX.seq_ret ?_|refine ContX.blk ?_|refine ContX.blk_exit ?_|refine ContX.blk_far rfl ?_|refine ContX.blk_ret ?_|refine ContX.lp_exit ?_|refine ContX.lp_ret ?_|refine ContX.nil ?_|refine Za ?_|refine Zb ?_|refine OrdI.one rfl ?_|refine OrdI.nil ?_|refine Zy rfl ?_|refine Z2 rfl ?_|refine Z3 ?_)
      refine OrdI.two ?_ ?_
      · repeat(first|refine RunX.seq ?_|refine RunX.text C_ok (aopY_sound C_ok) ?_|refine RunX.blk ?_|refine RunX.skip ?_|refine RunX.exit ?_|refine RunX.ret ?_|refine RunX.condT rfl ?_|refine RunX.condF rfl ?_|refine Cont.ofX ?_|refine Cont.ofX_exit ?_|refine Cont.ofX_ret ?_|refine ContX.seq ?_|refine ContX.seq_exit ?_|refine ContX.seq_ret ?_|refine ContX.blk ?_|refine ContX.blk_exit ?_|refine ContX.blk_far rfl ?_|refine ContX.blk_ret ?_|refine ContX.lp_exit ?_|refine ContX.lp_ret ?_|refine ContX.nil ?_|refine Za ?_|refine Zb ?_|refine OrdI.one rfl ?_|refine OrdI.nil ?_|refine Zy rfl ?_|refine Z2 rfl ?_|refine Z3 ?_)
        refine CallZ.plain (ACallT.ok (ACall.ret (tag_spec o) ?_))
        repeat(first|refine RunX.seq ?_|refine RunX.text C_ok (aopY_sound C_ok) ?_|refine RunX.blk ?_|refine RunX.skip ?_|refine RunX.exit ?_|refine RunX.ret ?_|refine RunX.condT rfl ?_|refine RunX.condF rfl ?_|refine Cont.ofX ?_|refine Cont.ofX_exit ?_|refine Cont.ofX_ret ?_|refine ContX.seq ?_|refine ContX.seq_exit ?_|refine ContX.seq_ret ?_|refine ContX.blk ?_|refine ContX.blk_exit ?_|refine ContX.blk_far rfl ?_|refine ContX.blk_ret ?_|refine ContX.lp_exit ?_|refine ContX.lp_ret ?_|refine ContX.nil ?_|refine Za ?_|refine Zb ?_|refine OrdI.one rfl ?_|refine OrdI.nil ?_|refine Zy rfl ?_|refine Z2 rfl ?_|refine Z3 ?_)
        refine ⟨[2], _, by decide, hYo, ?_⟩
        rintro b L' ⟨rfl, x', hJ', rfl⟩
        repeat(first|refine RunX.seq ?_|refine RunX.text C_ok (aopY_sound C_ok) ?_|refine RunX.blk ?_|refine RunX.skip ?_|refine RunX.exit ?_|refine RunX.ret ?_|refine RunX.condT rfl ?_|refine RunX.condF rfl ?_|refine Cont.ofX ?_|refine Cont.ofX_exit ?_|refine Cont.ofX_ret ?_|refine ContX.seq ?_|refine ContX.seq_exit ?_|refine ContX.seq_ret ?_|refine ContX.blk ?_|refine ContX.blk_exit ?_|refine ContX.blk_far rfl ?_|refine ContX.blk_ret ?_|refine ContX.lp_exit ?_|refine ContX.lp_ret ?_|refine ContX.nil ?_|refine Za ?_|refine Zb ?_|refine OrdI.one rfl ?_|refine OrdI.nil ?_|refine Zy rfl ?_|refine Z2 rfl ?_|refine Z3 ?_)
        refine ⟨_, _, Weak.sel ?_ [0, 1, 2, 3] (by decide) ?_, ⟨x', hJ', rfl, rfl⟩⟩
        · exact Ss
        · exact Sl
      · repeat(first|refine RunX.seq ?_|refine RunX.text C_ok (aopY_sound C_ok) ?_|refine RunX.blk ?_|refine RunX.skip ?_|refine RunX.exit ?_|refine RunX.ret ?_|refine RunX.condT rfl ?_|refine RunX.condF rfl ?_|refine Cont.ofX ?_|refine Cont.ofX_exit ?_|refine Cont.ofX_ret ?_|refine ContX.seq ?_|refine ContX.seq_exit ?_|refine ContX.seq_ret ?_|refine ContX.blk ?_|refine ContX.blk_exit ?_|refine ContX.blk_far rfl ?_|refine ContX.blk_ret ?_|refine ContX.lp_exit ?_|refine ContX.lp_ret ?_|refine ContX.nil ?_|refine Za ?_|refine Zb ?_|refine OrdI.one rfl ?_|refine OrdI.nil ?_|refine Zy rfl ?_|refine Z2 rfl ?_|refine Z3 ?_)
        refine OrdI.two ?_ ?_
        · repeat(first|refine RunX.seq ?_|refine RunX.text C_ok (aopY_sound C_ok) ?_|refine RunX.blk ?_|refine RunX.skip ?_|refine RunX.exit ?_|refine RunX.ret ?_|refine RunX.condT rfl ?_|refine RunX.condF rfl ?_|refine Cont.ofX ?_|refine Cont.ofX_exit ?_|refine Cont.ofX_ret ?_|refine ContX.seq ?_|refine ContX.seq_exit ?_|refine ContX.seq_ret ?_|refine ContX.blk ?_|refine ContX.blk_exit ?_|refine ContX.blk_far rfl ?_|refine ContX.blk_ret ?_|refine ContX.lp_exit ?_|refine ContX.lp_ret ?_|refine ContX.nil ?_|refine Za ?_|refine Zb ?_|refine OrdI.one rfl ?_|refine OrdI.nil ?_|refine Zy rfl ?_|refine Z2 rfl ?_|refine Z3 ?_)
          refine CallZ.plain (ACallT.ok (ACall.ret (tag_spec o) ?_))
          repeat(first|refine RunX.seq ?_|refine RunX.text C_ok (aopY_sound C_ok) ?_|refine RunX.blk ?_|refine RunX.skip ?_|refine RunX.exit ?_|refine RunX.ret ?_|refine RunX.condT rfl ?_|refine RunX.condF rfl ?_|refine Cont.ofX ?_|refine Cont.ofX_exit ?_|refine Cont.ofX_ret ?_|refine ContX.seq ?_|refine ContX.seq_exit ?_|refine ContX.seq_ret ?_|refine ContX.blk ?_|refine ContX.blk_exit ?_|refine ContX.blk_far rfl ?_|refine ContX.blk_ret ?_|refine ContX.lp_exit ?_|refine ContX.lp_ret ?_|refine ContX.nil ?_|refine Za ?_|refine Zb ?_|refine OrdI.one rfl ?_|refine OrdI.nil ?_|refine Zy rfl ?_|refine Z2 rfl ?_|refine Z3 ?_)
          refine ⟨[2], _, by decide, hYo, ?_⟩
          rintro b L' ⟨rfl, x', hJ', rfl⟩
          repeat(first|refine RunX.seq ?_|refine RunX.text C_ok (aopY_sound C_ok) ?_|refine RunX.blk ?_|refine RunX.skip ?_|refine RunX.exit ?_|refine RunX.ret ?_|refine RunX.condT rfl ?_|refine RunX.condF rfl ?_|refine Cont.ofX ?_|refine Cont.ofX_exit ?_|refine Cont.ofX_ret ?_|refine ContX.seq ?_|refine ContX.seq_exit ?_|refine ContX.seq_ret ?_|refine ContX.blk ?_|refine ContX.blk_exit ?_|refine ContX.blk_far rfl ?_|refine ContX.blk_ret ?_|refine ContX.lp_exit ?_|refine ContX.lp_ret ?_|refine ContX.nil ?_|refine Za ?_|refine Zb ?_|refine OrdI.one rfl ?_|refine OrdI.nil ?_|refine Zy rfl ?_|refine Z2 rfl ?_|refine Z3 ?_)
          refine ⟨_, _, Weak.sel ?_ [0, 1, 2, 3] (by decide) ?_, ⟨x', hJ', rfl, rfl⟩⟩
          · exact Ss
          · exact Sl
        · repeat(first|refine RunX.seq ?_|refine RunX.text C_ok (aopY_sound C_ok) ?_|refine RunX.blk ?_|refine RunX.skip ?_|refine RunX.exit ?_|refine RunX.ret ?_|refine RunX.condT rfl ?_|refine RunX.condF rfl ?_|refine Cont.ofX ?_|refine Cont.ofX_exit ?_|refine Cont.ofX_ret ?_|refine ContX.seq ?_|refine ContX.seq_exit ?_|refine ContX.seq_ret ?_|refine ContX.blk ?_|refine ContX.blk_exit ?_|refine ContX.blk_far rfl ?_|refine ContX.blk_ret ?_|refine ContX.lp_exit ?_|refine ContX.lp_ret ?_|refine ContX.nil ?_|refine Za ?_|refine Zb ?_|refine OrdI.one rfl ?_|refine OrdI.nil ?_|refine Zy rfl ?_|refine Z2 rfl ?_|refine Z3 ?_)
          refine CallZ.plain (ACallT.ok (ACall.ret (tag_spec o) ?_))
          repeat(first|refine RunX.seq ?_|refine RunX.text C_ok (aopY_sound C_ok) ?_|refine RunX.blk ?_|refine RunX.skip ?_|refine RunX.exit ?_|refine RunX.ret ?_|refine RunX.condT rfl ?_|refine RunX.condF rfl ?_|refine Cont.ofX ?_|refine Cont.ofX_exit ?_|refine Cont.ofX_ret ?_|refine ContX.seq ?_|refine ContX.seq_exit ?_|refine ContX.seq_ret ?_|refine ContX.blk ?_|refine ContX.blk_exit ?_|refine ContX.blk_far rfl ?_|refine ContX.blk_ret ?_|refine ContX.lp_exit ?_|refine ContX.lp_ret ?_|refine ContX.nil ?_|refine Za ?_|refine Zb ?_|refine OrdI.one rfl ?_|refine OrdI.nil ?_|refine Zy rfl ?_|refine Z2 rfl ?_|refine Z3 ?_)
          refine ⟨[2], _, by decide, hYo, ?_⟩
          rintro b L' ⟨rfl, x', hJ', rfl⟩
          repeat(first|refine RunX.seq ?_|refine RunX.text C_ok (aopY_sound C_ok) ?_|refine RunX.blk ?_|refine RunX.skip ?_|refine RunX.exit ?_|refine RunX.ret ?_|refine RunX.condT rfl ?_|refine RunX.condF rfl ?_|refine Cont.ofX ?_|refine Cont.ofX_exit ?_|refine Cont.ofX_ret ?_|refine ContX.seq ?_|refine ContX.seq_exit ?_|refine ContX.seq_ret ?_|refine ContX.blk ?_|refine ContX.blk_exit ?_|refine ContX.blk_far rfl ?_|refine ContX.blk_ret ?_|refine ContX.lp_exit ?_|refine ContX.lp_ret ?_|refine ContX.nil ?_|refine Za ?_|refine Zb ?_|refine OrdI.one rfl ?_|refine OrdI.nil ?_|refine Zy rfl ?_|refine Z2 rfl ?_|refine Z3 ?_)
          refine ⟨_, _, Weak.sel ?_ [0, 1, 2, 3] (by decide) ?_, ⟨x', hJ', rfl, rfl⟩⟩
          · exact Ss
          · exact Sl
    · rintro env L ⟨x', hJ', rfl, rfl⟩
      repeat(first|refine RunX.seq ?_|refine RunX.text C_ok (aopY_sound C_ok) ?_|refine RunX.blk ?_|refine RunX.skip ?_|refine RunX.exit ?_|refine RunX.ret ?_|refine RunX.condT rfl ?_|refine RunX.condF rfl ?_|refine Cont.ofX ?_|refine Cont.ofX_exit ?_|refine Cont.ofX_ret ?_|refine ContX.seq ?_|refine ContX.seq_exit ?_|refine ContX.seq_ret ?_|refine ContX.blk ?_|refine ContX.blk_exit ?_|refine ContX.blk_far rfl ?_|refine ContX.blk_ret ?_|refine ContX.lp_exit ?_|refine ContX.lp_ret ?_|refine ContX.nil ?_|refine Za ?_|refine Zb ?_|refine OrdI.one rfl ?_|refine OrdI.nil ?_|refine Zy rfl ?_|refine Z2 rfl ?_|refine Z3 ?_)
      refine fun r hr => ?_
      obtain rfl := add1 hr (by omega)
      repeat(first|refine RunX.seq ?_|refine RunX.text C_ok (aopY_sound C_ok) ?_|refine RunX.blk ?_|refine RunX.skip ?_|refine RunX.exit ?_|refine RunX.ret ?_|refine RunX.condT rfl ?_|refine RunX.condF rfl ?_|refine Cont.ofX ?_|refine Cont.ofX_exit ?_|refine Cont.ofX_ret ?_|refine ContX.seq ?_|refine ContX.seq_exit ?_|refine ContX.seq_ret ?_|refine ContX.blk ?_|refine ContX.blk_exit ?_|refine ContX.blk_far rfl ?_|refine ContX.blk_ret ?_|refine ContX.lp_exit ?_|refine ContX.lp_ret ?_|refine ContX.nil ?_|refine Za ?_|refine Zb ?_|refine OrdI.one rfl ?_|refine OrdI.nil ?_|refine Zy rfl ?_|refine Z2 rfl ?_|refine Z3 ?_)
      refine ContX.lp ⟨ys.length - (i + 1), _, _, by omega, Weak.sel ?_ [0, 1, 2, 3] (by decide) ?_, ⟨i + 1, x', rfl, by omega, hJ', rfl, rfl⟩⟩
      · exact Ss
      · exact Sl
end Go.Proofs.YtgpbppkmmlclfaaDoor.HBT
