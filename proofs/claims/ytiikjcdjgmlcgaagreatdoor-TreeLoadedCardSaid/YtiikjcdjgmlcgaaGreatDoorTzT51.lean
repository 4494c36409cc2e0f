/- The law TreeLoaded, walked. -/
import Derived.Test.YtiikjcdjgmlcgaaGreatDoorTzT43
import Derived.Test.YtiikjcdjgmlcgaaGreatDoorTzT9
import Derived.Test.YtiikjcdjgmlcgaaGreatDoorCards
import Derived.Test.YtiikjcdjgmlcgaaGreatDoorTie
import Derived.SevenTiedAt
namespace Go.Proofs.YtiikjcdjgmlcgaaGreatDoor.HBT
open Go Go.Proofs.YtiikjcdjgmlcgaaGreatDoor.HB Go.RowKit
set_option maxRecDepth 8000

set_option maxHeartbeats 4000000 in
theorem lawLoaded_spec (xs : List Stp) (n : Nat) (hn : n ≤ xs.length) (hok : ∀ x ∈ xs, x.ok) (cut : Int) : FnSpec C 3 [rdS xs n, .int .i64 cut] [] (fun r L' => r = .bool true ∧ L' = []) := by
  refine FnSpec.start C_ok Tryz.func3 rfl rfl Tryz.ntmps3 ?_
  repeat (first | refine OpsA.cons ?_ | refine OpsA.nil ?_ | refine Run.textA C_ok (aopZ_sound C_ok) ?_ | refine And.intro rfl ?_ | refine And.intro (Nat.le_of_ble_eq_true rfl) ?_ | refine And.intro (Int.natCast_nonneg _) ?_ | refine fun (_ : Nat) => ?_ | refine Run.go rfl ?_ | refine Cont.go rfl ?_)
  refine CallZ.plain (ACallT.ok (ACall.pure _ new_spec ?_))
  rintro r L' ⟨gt, gm, es, cl, hT, rfl, rfl⟩
  refine ⟨_, Sub.refl _, ?_⟩
  repeat (first | refine OpsA.cons ?_ | refine OpsA.nil ?_ | refine Run.textA C_ok (aopZ_sound C_ok) ?_ | refine And.intro rfl ?_ | refine And.intro (Nat.le_of_ble_eq_true rfl) ?_ | refine And.intro (Int.natCast_nonneg _) ?_ | refine fun (_ : Nat) => ?_ | refine Run.go rfl ?_ | refine Cont.go rfl ?_)
  refine Run.loopW (fun k env L => ∃ (i : Nat) (l : List Fu) (gm : Nat) (es : Array MapEntry) (cl : Nat), k = 121 - i ∧ i ≤ 120 ∧ TM l es cl ∧ TInv l ∧ ((env = [rdS xs n, .int .i64 cut, .junk, .junk, .junk, .ptr 0 gt 0, .nilp, .int .i64 i, .junk, .junk, .junk, .junk, .junk, .junk, .junk, .junk, .junk, .junk, .junk, .junk, .junk, .junk, .junk, .junk, .junk, .junk, .junk, .junk, .junk, .junk, .junk, .junk, .junk, .junk, .junk, .junk, .junk, .junk, .junk, .junk, .junk, .junk, .junk, .junk, .junk, .junk, .junk, .junk, .junk, .junk, .junk, .junk, .junk, .junk, .junk, .junk, .junk, .junk, .junk, .junk, .junk, .junk, .junk, .junk, .junk, .junk, .junk, .junk, .junk, .junk, .junk, .junk, .junk, .junk, .junk, .junk, .junk, .junk, .junk, .junk, .junk, .junk, .junk, .junk, .junk, .junk, .junk, .junk, .junk, .junk, .junk, .junk, .junk, .junk, .junk, .junk, .junk, .junk, .junk, .junk, .junk, .junk, .junk, .junk, .junk, .junk, .junk, .junk, .junk, .junk, .junk, .junk, .junk, .junk, .junk, .junk, .junk, .junk, .junk, .junk] ∧ L = TreeL gt gm es cl) ∨ (∃ gu gmu esu clu, TM l esu clu ∧ env = [rdS xs n, .int .i64 cut, .junk, .junk, .junk, .ptr 0 gt 0, .ptr 2 gu 0, .int .i64 i, .junk, .junk, .junk, .junk, .junk, .junk, .junk, .junk, .junk, .junk, .junk, .junk, .junk, .junk, .junk, .junk, .junk, .junk, .junk, .junk, .junk, .junk, .junk, .junk, .junk, .junk, .junk, .junk, .junk, .junk, .junk, .junk, .junk, .junk, .junk, .junk, .junk, .junk, .junk, .junk, .junk, .junk, .junk, .junk, .junk, .junk, .junk, .junk, .junk, .junk, .junk, .junk, .junk, .junk, .junk, .junk, .junk, .junk, .junk, .junk, .junk, .junk, .junk, .junk, .junk, .junk, .junk, .junk, .junk, .junk, .junk, .junk, .junk, .junk, .junk, .junk, .junk, .junk, .junk, .junk, .junk, .junk, .junk, .junk, .junk, .junk, .junk, .junk, .junk, .junk, .junk, .junk, .junk, .junk, .junk, .junk, .junk, .junk, .junk, .junk, .junk, .junk, .junk, .junk, .junk, .junk, .junk, .junk, .junk, .junk, .junk, .junk] ∧ L = TreeL gt gm es cl ++ TreeL gu gmu esu clu))) 121
    [rdS xs n, .int .i64 cut, .junk, .junk, .junk, .ptr 0 gt 0, .nilp, .int .i64 (0 : Nat), .junk, .junk, .junk, .junk, .junk, .junk, .junk, .junk, .junk, .junk, .junk, .junk, .junk, .junk, .junk, .junk, .junk, .junk, .junk, .junk, .junk, .junk, .junk, .junk, .junk, .junk, .junk, .junk, .junk, .junk, .junk, .junk, .junk, .junk, .junk, .junk, .junk, .junk, .junk, .junk, .junk, .junk, .junk, .junk, .junk, .junk, .junk, .junk, .junk, .junk, .junk, .junk, .junk, .junk, .junk, .junk, .junk, .junk, .junk, .junk, .junk, .junk, .junk, .junk, .junk, .junk, .junk, .junk, .junk, .junk, .junk, .junk, .junk, .junk, .junk, .junk, .junk, .junk, .junk, .junk, .junk, .junk, .junk, .junk, .junk, .junk, .junk, .junk, .junk, .junk, .junk, .junk, .junk, .junk, .junk, .junk, .junk, .junk, .junk, .junk, .junk, .junk, .junk, .junk, .junk, .junk, .junk, .junk, .junk, .junk, .junk, .junk] (TreeL gt gm es cl) (Weak.sel ?_ [0, 1] (by decide) ?_) ⟨0, [rootF], gm, es, cl, by omega, by omega, hT, TInv.new, .inl ⟨rfl, rfl⟩⟩ ?_
  · repeat (first | exact trivial | refine And.intro (Sub.junk _) ?_ | refine And.intro (Sub.refl _) ?_ | refine And.intro (Sub.sl _ _ _ _ _) ?_ | refine And.intro (Sub.ptr _ _ _ _) ?_)
  · repeat (first | exact trivial | refine And.intro rfl ?_ | refine And.intro (SubO.refl _) ?_ | refine And.intro trivial ?_ | refine And.intro (SubO.cells (by repeat (first | exact trivial | refine And.intro (Sub.refl _) ?_ | refine And.intro (Sub.sl _ _ _ _ _) ?_ | refine And.intro (Sub.ptr _ _ _ _) ?_))) ?_)
  rintro k env L ⟨i, l, gm, es, cl, rfl, hi, hT, hI, (⟨rfl, rfl⟩ | ⟨gu, gmu, esu, clu, hTu, rfl, rfl⟩)⟩
  · repeat (first | refine OpsA.cons ?_ | refine OpsA.nil ?_ | refine Run.textA C_ok (aopZ_sound C_ok) ?_ | refine And.intro rfl ?_ | refine And.intro (Nat.le_of_ble_eq_true rfl) ?_ | refine And.intro (Int.natCast_nonneg _) ?_ | refine fun (_ : Nat) => ?_ | refine Run.go rfl ?_ | refine Cont.go rfl ?_)
    refine ⟨fun h => ?_, fun h => ?_⟩
    rotate_left
    · repeat (first | refine OpsA.cons ?_ | refine OpsA.nil ?_ | refine Run.textA C_ok (aopZ_sound C_ok) ?_ | refine And.intro rfl ?_ | refine And.intro (Nat.le_of_ble_eq_true rfl) ?_ | refine And.intro (Int.natCast_nonneg _) ?_ | refine fun (_ : Nat) => ?_ | refine Run.go rfl ?_ | refine Cont.go rfl ?_)
      refine CallZ.plain (ACallT.ok (ACall.ret known_spec ?_))
      repeat (first | refine OpsA.cons ?_ | refine OpsA.nil ?_ | refine Run.textA C_ok (aopZ_sound C_ok) ?_ | refine And.intro rfl ?_ | refine And.intro (Nat.le_of_ble_eq_true rfl) ?_ | refine And.intro (Int.natCast_nonneg _) ?_ | refine fun (_ : Nat) => ?_ | refine Run.go rfl ?_ | refine Cont.go rfl ?_)
      exact ⟨_, [], FinOk.drop _ _, rfl, rfl⟩
    have h : (i : Int) < (n : Int) := h
    repeat (first | refine OpsA.cons ?_ | refine OpsA.nil ?_ | refine Run.textA C_ok (aopZ_sound C_ok) ?_ | refine And.intro rfl ?_ | refine And.intro (Nat.le_of_ble_eq_true rfl) ?_ | refine And.intro (Int.natCast_nonneg _) ?_ | refine fun (_ : Nat) => ?_ | refine Run.go rfl ?_ | refine Cont.go rfl ?_)
    refine ⟨fun h2 => ?_, fun h2 => ?_⟩
    rotate_left
    · repeat (first | refine OpsA.cons ?_ | refine OpsA.nil ?_ | refine Run.textA C_ok (aopZ_sound C_ok) ?_ | refine And.intro rfl ?_ | refine And.intro (Nat.le_of_ble_eq_true rfl) ?_ | refine And.intro (Int.natCast_nonneg _) ?_ | refine fun (_ : Nat) => ?_ | refine Run.go rfl ?_ | refine Cont.go rfl ?_)
      refine CallZ.plain (ACallT.ok (ACall.ret known_spec ?_))
      repeat (first | refine OpsA.cons ?_ | refine OpsA.nil ?_ | refine Run.textA C_ok (aopZ_sound C_ok) ?_ | refine And.intro rfl ?_ | refine And.intro (Nat.le_of_ble_eq_true rfl) ?_ | refine And.intro (Int.natCast_nonneg _) ?_ | refine fun (_ : Nat) => ?_ | refine Run.go rfl ?_ | refine Cont.go rfl ?_)
      exact ⟨_, [], FinOk.drop _ _, rfl, rfl⟩
    have h2 : (i : Int) < 120 := h2
    obtain ⟨x, ex⟩ : ∃ x, xs[i]? = some x := ⟨_, List.getElem?_eq_getElem (by omega)⟩
    have hx := hok x (List.mem_of_getElem? ex)
    repeat (first | refine OpsA.cons ?_ | refine OpsA.nil ?_ | refine Run.textA C_ok (aopZ_sound C_ok) ?_ | refine And.intro rfl ?_ | refine And.intro (Nat.le_of_ble_eq_true rfl) ?_ | refine And.intro (Int.natCast_nonneg _) ?_ | refine fun (_ : Nat) => ?_ | refine Run.go rfl ?_ | refine Cont.go rfl ?_)
    refine ⟨fun hc => ?_, fun hc => ?_⟩
    · repeat (first | refine OpsA.cons ?_ | refine OpsA.nil ?_ | refine Run.textA C_ok (aopZ_sound C_ok) ?_ | refine And.intro rfl ?_ | refine And.intro (Nat.le_of_ble_eq_true rfl) ?_ | refine And.intro (Int.natCast_nonneg _) ?_ | refine fun (_ : Nat) => ?_ | refine Run.go rfl ?_ | refine Cont.go rfl ?_)
      refine CallZ.plain (ACallT.ok (ACall.sel [0, 1] (by decide) [.ptr 0 gt 0] _ (.one (Sub.refl _)) (nodes_spec gt gm hT hI) ?_))
      rintro r L' ⟨gn, Cn, rfl, rfl⟩
      refine ⟨.sl 2 gn Cn l.length, Sub.sl _ _ _ _ _, ?_⟩
      have hld := load_spec l l.length (Nat.le_refl _)
      rw [List.take_length] at hld
      repeat (first | refine OpsA.cons ?_ | refine OpsA.nil ?_ | refine Run.textA C_ok (aopZ_sound C_ok) ?_ | refine And.intro rfl ?_ | refine And.intro (Nat.le_of_ble_eq_true rfl) ?_ | refine And.intro (Int.natCast_nonneg _) ?_ | refine fun (_ : Nat) => ?_ | refine Run.go rfl ?_ | refine Cont.go rfl ?_)
      refine CallZ.frz [2] [0, 1] (by kernel_rfl) [rdX l] ⟨.row 2 gn Cn _ tX 7 _ rfl (by simp), trivial⟩ (ACall.pure _ hld ?_)
      rintro r L' (⟨_, _, gu, gmu, esu, clu, hTu, rfl, rfl⟩ | ⟨h, _, _⟩)
      rotate_left
      · exact absurd hI.loadE h
      refine ⟨.tuple [.ptr 3 gu 0, .int .i64 0], Sub.tuples ⟨Sub.ptr _ _ _ _, Sub.refl _, trivial⟩, ?_⟩
      repeat (first | refine OpsA.cons ?_ | refine OpsA.nil ?_ | refine Run.textA C_ok (aopZ_sound C_ok) ?_ | refine And.intro rfl ?_ | refine And.intro (Nat.le_of_ble_eq_true rfl) ?_ | refine And.intro (Int.natCast_nonneg _) ?_ | refine fun (_ : Nat) => ?_ | refine Run.go rfl ?_ | refine Cont.go rfl ?_)
      refine CallZ.plain (ACallT.ok (ACall.ret (num_spec 0) ?_))
      repeat (first | refine OpsA.cons ?_ | refine OpsA.nil ?_ | refine Run.textA C_ok (aopZ_sound C_ok) ?_ | refine And.intro rfl ?_ | refine And.intro (Nat.le_of_ble_eq_true rfl) ?_ | refine And.intro (Int.natCast_nonneg _) ?_ | refine fun (_ : Nat) => ?_ | refine Run.go rfl ?_ | refine Cont.go rfl ?_)
      refine ⟨fun h => absurd rfl h, fun _ => ?_⟩
      repeat (first | refine OpsA.cons ?_ | refine OpsA.nil ?_ | refine Run.textA C_ok (aopZ_sound C_ok) ?_ | refine And.intro rfl ?_ | refine And.intro (Nat.le_of_ble_eq_true rfl) ?_ | refine And.intro (Int.natCast_nonneg _) ?_ | refine fun (_ : Nat) => ?_ | refine Run.go rfl ?_ | refine Cont.go rfl ?_)
      refine ⟨h, encS x, map_at encS ex, ?_⟩
      repeat (first | refine OpsA.cons ?_ | refine OpsA.nil ?_ | refine Run.textA C_ok (aopZ_sound C_ok) ?_ | refine And.intro rfl ?_ | refine And.intro (Nat.le_of_ble_eq_true rfl) ?_ | refine And.intro (Int.natCast_nonneg _) ?_ | refine fun (_ : Nat) => ?_ | refine Run.go rfl ?_ | refine Cont.go rfl ?_)
      refine ⟨fun hk => ?_, fun hk => ?_⟩
      · have hk : x.k = 1 := hk
        repeat (first | refine OpsA.cons ?_ | refine OpsA.nil ?_ | refine Run.textA C_ok (aopZ_sound C_ok) ?_ | refine And.intro rfl ?_ | refine And.intro (Nat.le_of_ble_eq_true rfl) ?_ | refine And.intro (Int.natCast_nonneg _) ?_ | refine fun (_ : Nat) => ?_ | refine Run.go rfl ?_ | refine Cont.go rfl ?_)
        refine CallZ.plain (ACallT.ok (ACall.sel [0, 1] (by decide) [.ptr 0 gt 0, .int .i64 x.s, .int .i64 x.st, .ro 5 (x.ops.map encO) x.no] _ ⟨Sub.refl _, Sub.refl _, Sub.refl _, Sub.refl _, trivial⟩ (play_spec gt gm hT hI x.s x.st x.ops x.no hx) ?_))
        intro r L' hq
        have hI2 : TInv (playR l x.s x.st (x.ops.take x.no)).1 := playR_inv hI
        have hsm := playR_small (s := x.s) (st := x.st) (ops := x.ops.take x.no) hI
        have hq2 := play_spec gu gmu hTu hI x.s x.st x.ops x.no hx
        obtain ⟨gm2, es2, cl2, hT2, rfl, rfl⟩ := hq
        generalize hR : (playR l x.s x.st (x.ops.take x.no)) = R at hT2 hI2 hsm ⊢
        obtain ⟨l2, ⟨rst, code, at_, rs⟩, cs⟩ := R
        obtain ⟨z1, z2, z3⟩ := hsm
        refine ⟨.tuple [encP ⟨rst, code, at_, rs⟩, encCs cs], Sub.refl _, ?_⟩
        repeat (first | refine OpsA.cons ?_ | refine OpsA.nil ?_ | refine Run.textA C_ok (aopZ_sound C_ok) ?_ | refine And.intro rfl ?_ | refine And.intro (Nat.le_of_ble_eq_true rfl) ?_ | refine And.intro (Int.natCast_nonneg _) ?_ | refine fun (_ : Nat) => ?_ | refine Run.go rfl ?_ | refine Cont.go rfl ?_)
        refine CallZ.plain (ACallT.ok (ACall.sel [3, 4] (by decide) [.ptr 0 gu 0, .int .i64 x.s, .int .i64 x.st, .ro 5 (x.ops.map encO) x.no] _ ⟨Sub.ptr _ _ _ _, Sub.refl _, Sub.refl _, Sub.refl _, trivial⟩ hq2 ?_))
        intro r L' hq
        obtain ⟨gm3, es3, cl3, hT3, rfl, rfl⟩ := hq
        rw [hR] at hT3 ⊢
        refine ⟨.tuple [encP ⟨rst, code, at_, rs⟩, encCs cs], Sub.refl _, ?_⟩
        repeat (first | refine OpsA.cons ?_ | refine OpsA.nil ?_ | refine Run.textA C_ok (aopZ_sound C_ok) ?_ | refine And.intro rfl ?_ | refine And.intro (Nat.le_of_ble_eq_true rfl) ?_ | refine And.intro (Int.natCast_nonneg _) ?_ | refine fun (_ : Nat) => ?_ | refine Run.go rfl ?_ | refine Cont.go rfl ?_)
        refine CallZ.plain (ACallT.ok (ACall.ret (reply_same ⟨rst, code, at_, rs⟩ z2 z1) ?_))
        repeat (first | refine OpsA.cons ?_ | refine OpsA.nil ?_ | refine Run.textA C_ok (aopZ_sound C_ok) ?_ | refine And.intro rfl ?_ | refine And.intro (Nat.le_of_ble_eq_true rfl) ?_ | refine And.intro (Int.natCast_nonneg _) ?_ | refine fun (_ : Nat) => ?_ | refine Run.go rfl ?_ | refine Cont.go rfl ?_)
        refine CallZ.plain (ACallT.ok (ACall.ret (changes_same cs z3) ?_))
        repeat (first | refine OpsA.cons ?_ | refine OpsA.nil ?_ | refine Run.textA C_ok (aopZ_sound C_ok) ?_ | refine And.intro rfl ?_ | refine And.intro (Nat.le_of_ble_eq_true rfl) ?_ | refine And.intro (Int.natCast_nonneg _) ?_ | refine fun (_ : Nat) => ?_ | refine Run.go rfl ?_ | refine Cont.go rfl ?_)
        refine fun r hr => ?_
        obtain rfl := add1 hr (by omega)
        repeat (first | refine OpsA.cons ?_ | refine OpsA.nil ?_ | refine Run.textA C_ok (aopZ_sound C_ok) ?_ | refine And.intro rfl ?_ | refine And.intro (Nat.le_of_ble_eq_true rfl) ?_ | refine And.intro (Int.natCast_nonneg _) ?_ | refine fun (_ : Nat) => ?_ | refine Run.go rfl ?_ | refine Cont.go rfl ?_)
        refine Cont.lpW ?_
        refine ⟨121 - (i + 1), _, _, by omega, Weak.sel ?_ [0, 1, 3, 4] (by decide) ?_, ⟨i + 1, l2, gm2, es2, cl2, rfl, by omega, hT2, hI2, .inr ⟨gu, gm3, es3, cl3, hT3, rfl, rfl⟩⟩⟩
        · repeat (first | exact trivial | refine And.intro (Sub.junk _) ?_ | refine And.intro (Sub.refl _) ?_ | refine And.intro (Sub.sl _ _ _ _ _) ?_ | refine And.intro (Sub.ptr _ _ _ _) ?_)
        · repeat (first | exact trivial | refine And.intro rfl ?_ | refine And.intro (SubO.refl _) ?_ | refine And.intro trivial ?_ | refine And.intro (SubO.cells (by repeat (first | exact trivial | refine And.intro (Sub.refl _) ?_ | refine And.intro (Sub.sl _ _ _ _ _) ?_ | refine And.intro (Sub.ptr _ _ _ _) ?_))) ?_)
      have hk1 : ¬ x.k = 1 := hk
      repeat (first | refine OpsA.cons ?_ | refine OpsA.nil ?_ | refine Run.textA C_ok (aopZ_sound C_ok) ?_ | refine And.intro rfl ?_ | refine And.intro (Nat.le_of_ble_eq_true rfl) ?_ | refine And.intro (Int.natCast_nonneg _) ?_ | refine fun (_ : Nat) => ?_ | refine Run.go rfl ?_ | refine Cont.go rfl ?_)
      refine ⟨fun hk => ?_, fun hk => ?_⟩
      · have hk : x.k = 2 := hk
        repeat (first | refine OpsA.cons ?_ | refine OpsA.nil ?_ | refine Run.textA C_ok (aopZ_sound C_ok) ?_ | refine And.intro rfl ?_ | refine And.intro (Nat.le_of_ble_eq_true rfl) ?_ | refine And.intro (Int.natCast_nonneg _) ?_ | refine fun (_ : Nat) => ?_ | refine Run.go rfl ?_ | refine Cont.go rfl ?_)
        refine CallZ.plain (ACallT.ok (ACall.sel [0, 1] (by decide) [.ptr 0 gt 0, .int .i64 x.s] _ (.two (Sub.refl _) (Sub.refl _)) (end_spec gt gm hT hI x.s) ?_))
        intro r L' hq
        have hI2 : TInv (endF l x.s).1 := endF_inv hI
        have hsm := endF_small (s := x.s) hI
        have hq2 := end_spec gu gmu hTu hI x.s
        obtain ⟨es2, cl2, hT2, rfl, rfl⟩ := hq
        generalize hR : (endF l x.s) = R at hT2 hI2 hsm ⊢
        obtain ⟨l2, cs⟩ := R
        refine ⟨_, Sub.refl _, ?_⟩
        repeat (first | refine OpsA.cons ?_ | refine OpsA.nil ?_ | refine Run.textA C_ok (aopZ_sound C_ok) ?_ | refine And.intro rfl ?_ | refine And.intro (Nat.le_of_ble_eq_true rfl) ?_ | refine And.intro (Int.natCast_nonneg _) ?_ | refine fun (_ : Nat) => ?_ | refine Run.go rfl ?_ | refine Cont.go rfl ?_)
        refine CallZ.plain (ACallT.ok (ACall.sel [3, 4] (by decide) [.ptr 0 gu 0, .int .i64 x.s] _ (.two (Sub.ptr _ _ _ _) (Sub.refl _)) hq2 ?_))
        intro r L' hq
        obtain ⟨es3, cl3, hT3, rfl, rfl⟩ := hq
        rw [hR] at hT3 ⊢
        refine ⟨_, Sub.refl _, ?_⟩
        repeat (first | refine OpsA.cons ?_ | refine OpsA.nil ?_ | refine Run.textA C_ok (aopZ_sound C_ok) ?_ | refine And.intro rfl ?_ | refine And.intro (Nat.le_of_ble_eq_true rfl) ?_ | refine And.intro (Int.natCast_nonneg _) ?_ | refine fun (_ : Nat) => ?_ | refine Run.go rfl ?_ | refine Cont.go rfl ?_)
        refine CallZ.plain (ACallT.ok (ACall.ret (changes_same cs hsm) ?_))
        repeat (first | refine OpsA.cons ?_ | refine OpsA.nil ?_ | refine Run.textA C_ok (aopZ_sound C_ok) ?_ | refine And.intro rfl ?_ | refine And.intro (Nat.le_of_ble_eq_true rfl) ?_ | refine And.intro (Int.natCast_nonneg _) ?_ | refine fun (_ : Nat) => ?_ | refine Run.go rfl ?_ | refine Cont.go rfl ?_)
        refine fun r hr => ?_
        obtain rfl := add1 hr (by omega)
        repeat (first | refine OpsA.cons ?_ | refine OpsA.nil ?_ | refine Run.textA C_ok (aopZ_sound C_ok) ?_ | refine And.intro rfl ?_ | refine And.intro (Nat.le_of_ble_eq_true rfl) ?_ | refine And.intro (Int.natCast_nonneg _) ?_ | refine fun (_ : Nat) => ?_ | refine Run.go rfl ?_ | refine Cont.go rfl ?_)
        refine Cont.lpW ?_
        refine ⟨121 - (i + 1), _, _, by omega, Weak.sel ?_ [0, 1, 3, 4] (by decide) ?_, ⟨i + 1, l2, gm, es2, cl2, rfl, by omega, hT2, hI2, .inr ⟨gu, gmu, es3, cl3, hT3, rfl, rfl⟩⟩⟩
        · repeat (first | exact trivial | refine And.intro (Sub.junk _) ?_ | refine And.intro (Sub.refl _) ?_ | refine And.intro (Sub.sl _ _ _ _ _) ?_ | refine And.intro (Sub.ptr _ _ _ _) ?_)
        · repeat (first | exact trivial | refine And.intro rfl ?_ | refine And.intro (SubO.refl _) ?_ | refine And.intro trivial ?_ | refine And.intro (SubO.cells (by repeat (first | exact trivial | refine And.intro (Sub.refl _) ?_ | refine And.intro (Sub.sl _ _ _ _ _) ?_ | refine And.intro (Sub.ptr _ _ _ _) ?_))) ?_)
      have hk2 : ¬ x.k = 2 := hk
      repeat (first | refine OpsA.cons ?_ | refine OpsA.nil ?_ | refine Run.textA C_ok (aopZ_sound C_ok) ?_ | refine And.intro rfl ?_ | refine And.intro (Nat.le_of_ble_eq_true rfl) ?_ | refine And.intro (Int.natCast_nonneg _) ?_ | refine fun (_ : Nat) => ?_ | refine Run.go rfl ?_ | refine Cont.go rfl ?_)
      refine fun r hr => ?_
      obtain rfl := add1 hr (by omega)
      repeat (first | refine OpsA.cons ?_ | refine OpsA.nil ?_ | refine Run.textA C_ok (aopZ_sound C_ok) ?_ | refine And.intro rfl ?_ | refine And.intro (Nat.le_of_ble_eq_true rfl) ?_ | refine And.intro (Int.natCast_nonneg _) ?_ | refine fun (_ : Nat) => ?_ | refine Run.go rfl ?_ | refine Cont.go rfl ?_)
      refine Cont.lpW ?_
      refine ⟨121 - (i + 1), _, _, by omega, Weak.sel ?_ [0, 1, 3, 4] (by decide) ?_, ⟨i + 1, l, gm, es, cl, rfl, by omega, hT, hI, .inr ⟨gu, gmu, esu, clu, hTu, rfl, rfl⟩⟩⟩
      · repeat (first | exact trivial | refine And.intro (Sub.junk _) ?_ | refine And.intro (Sub.refl _) ?_ | refine And.intro (Sub.sl _ _ _ _ _) ?_ | refine And.intro (Sub.ptr _ _ _ _) ?_)
      · repeat (first | exact trivial | refine And.intro rfl ?_ | refine And.intro (SubO.refl _) ?_ | refine And.intro trivial ?_ | refine And.intro (SubO.cells (by repeat (first | exact trivial | refine And.intro (Sub.refl _) ?_ | refine And.intro (Sub.sl _ _ _ _ _) ?_ | refine And.intro (Sub.ptr _ _ _ _) ?_))) ?_)
    · repeat (first | refine OpsA.cons ?_ | refine OpsA.nil ?_ | refine Run.textA C_ok (aopZ_sound C_ok) ?_ | refine And.intro rfl ?_ | refine And.intro (Nat.le_of_ble_eq_true rfl) ?_ | refine And.intro (Int.natCast_nonneg _) ?_ | refine fun (_ : Nat) => ?_ | refine Run.go rfl ?_ | refine Cont.go rfl ?_)
      refine ⟨h, encS x, map_at encS ex, ?_⟩
      repeat (first | refine OpsA.cons ?_ | refine OpsA.nil ?_ | refine Run.textA C_ok (aopZ_sound C_ok) ?_ | refine And.intro rfl ?_ | refine And.intro (Nat.le_of_ble_eq_true rfl) ?_ | refine And.intro (Int.natCast_nonneg _) ?_ | refine fun (_ : Nat) => ?_ | refine Run.go rfl ?_ | refine Cont.go rfl ?_)
      refine ⟨fun hk => ?_, fun hk => ?_⟩
      · have hk : x.k = 1 := hk
        repeat (first | refine OpsA.cons ?_ | refine OpsA.nil ?_ | refine Run.textA C_ok (aopZ_sound C_ok) ?_ | refine And.intro rfl ?_ | refine And.intro (Nat.le_of_ble_eq_true rfl) ?_ | refine And.intro (Int.natCast_nonneg _) ?_ | refine fun (_ : Nat) => ?_ | refine Run.go rfl ?_ | refine Cont.go rfl ?_)
        refine CallZ.plain (ACallT.ok (ACall.sel [0, 1] (by decide) [.ptr 0 gt 0, .int .i64 x.s, .int .i64 x.st, .ro 5 (x.ops.map encO) x.no] _ ⟨Sub.refl _, Sub.refl _, Sub.refl _, Sub.refl _, trivial⟩ (play_spec gt gm hT hI x.s x.st x.ops x.no hx) ?_))
        intro r L' hq
        have hI2 : TInv (playR l x.s x.st (x.ops.take x.no)).1 := playR_inv hI
        have hsm := playR_small (s := x.s) (st := x.st) (ops := x.ops.take x.no) hI
        obtain ⟨gm2, es2, cl2, hT2, rfl, rfl⟩ := hq
        generalize hR : (playR l x.s x.st (x.ops.take x.no)) = R at hT2 hI2 hsm ⊢
        obtain ⟨l2, ⟨rst, code, at_, rs⟩, cs⟩ := R
        obtain ⟨z1, z2, z3⟩ := hsm
        refine ⟨.tuple [encP ⟨rst, code, at_, rs⟩, encCs cs], Sub.refl _, ?_⟩
        repeat (first | refine OpsA.cons ?_ | refine OpsA.nil ?_ | refine Run.textA C_ok (aopZ_sound C_ok) ?_ | refine And.intro rfl ?_ | refine And.intro (Nat.le_of_ble_eq_true rfl) ?_ | refine And.intro (Int.natCast_nonneg _) ?_ | refine fun (_ : Nat) => ?_ | refine Run.go rfl ?_ | refine Cont.go rfl ?_)
        refine fun r hr => ?_
        obtain rfl := add1 hr (by omega)
        repeat (first | refine OpsA.cons ?_ | refine OpsA.nil ?_ | refine Run.textA C_ok (aopZ_sound C_ok) ?_ | refine And.intro rfl ?_ | refine And.intro (Nat.le_of_ble_eq_true rfl) ?_ | refine And.intro (Int.natCast_nonneg _) ?_ | refine fun (_ : Nat) => ?_ | refine Run.go rfl ?_ | refine Cont.go rfl ?_)
        refine Cont.lpW ?_
        refine ⟨121 - (i + 1), _, _, by omega, Weak.sel ?_ [0, 1] (by decide) ?_, ⟨i + 1, l2, gm2, es2, cl2, rfl, by omega, hT2, hI2, .inl ⟨rfl, rfl⟩⟩⟩
        · repeat (first | exact trivial | refine And.intro (Sub.junk _) ?_ | refine And.intro (Sub.refl _) ?_ | refine And.intro (Sub.sl _ _ _ _ _) ?_ | refine And.intro (Sub.ptr _ _ _ _) ?_)
        · repeat (first | exact trivial | refine And.intro rfl ?_ | refine And.intro (SubO.refl _) ?_ | refine And.intro trivial ?_ | refine And.intro (SubO.cells (by repeat (first | exact trivial | refine And.intro (Sub.refl _) ?_ | refine And.intro (Sub.sl _ _ _ _ _) ?_ | refine And.intro (Sub.ptr _ _ _ _) ?_))) ?_)
      have hk1 : ¬ x.k = 1 := hk
      repeat (first | refine OpsA.cons ?_ | refine OpsA.nil ?_ | refine Run.textA C_ok (aopZ_sound C_ok) ?_ | refine And.intro rfl ?_ | refine And.intro (Nat.le_of_ble_eq_true rfl) ?_ | refine And.intro (Int.natCast_nonneg _) ?_ | refine fun (_ : Nat) => ?_ | refine Run.go rfl ?_ | refine Cont.go rfl ?_)
      refine ⟨fun hk => ?_, fun hk => ?_⟩
      · have hk : x.k = 2 := hk
        repeat (first | refine OpsA.cons ?_ | refine OpsA.nil ?_ | refine Run.textA C_ok (aopZ_sound C_ok) ?_ | refine And.intro rfl ?_ | refine And.intro (Nat.le_of_ble_eq_true rfl) ?_ | refine And.intro (Int.natCast_nonneg _) ?_ | refine fun (_ : Nat) => ?_ | refine Run.go rfl ?_ | refine Cont.go rfl ?_)
        refine CallZ.plain (ACallT.ok (ACall.sel [0, 1] (by decide) [.ptr 0 gt 0, .int .i64 x.s] _ (.two (Sub.refl _) (Sub.refl _)) (end_spec gt gm hT hI x.s) ?_))
        intro r L' hq
        have hI2 : TInv (endF l x.s).1 := endF_inv hI
        have hsm := endF_small (s := x.s) hI
        obtain ⟨es2, cl2, hT2, rfl, rfl⟩ := hq
        generalize hR : (endF l x.s) = R at hT2 hI2 hsm ⊢
        obtain ⟨l2, cs⟩ := R
        refine ⟨_, Sub.refl _, ?_⟩
        repeat (first | refine OpsA.cons ?_ | refine OpsA.nil ?_ | refine Run.textA C_ok (aopZ_sound C_ok) ?_ | refine And.intro rfl ?_ | refine And.intro (Nat.le_of_ble_eq_true rfl) ?_ | refine And.intro (Int.natCast_nonneg _) ?_ | refine fun (_ : Nat) => ?_ | refine Run.go rfl ?_ | refine Cont.go rfl ?_)
        refine fun r hr => ?_
        obtain rfl := add1 hr (by omega)
        repeat (first | refine OpsA.cons ?_ | refine OpsA.nil ?_ | refine Run.textA C_ok (aopZ_sound C_ok) ?_ | refine And.intro rfl ?_ | refine And.intro (Nat.le_of_ble_eq_true rfl) ?_ | refine And.intro (Int.natCast_nonneg _) ?_ | refine fun (_ : Nat) => ?_ | refine Run.go rfl ?_ | refine Cont.go rfl ?_)
        refine Cont.lpW ?_
        refine ⟨121 - (i + 1), _, _, by omega, Weak.sel ?_ [0, 1] (by decide) ?_, ⟨i + 1, l2, gm, es2, cl2, rfl, by omega, hT2, hI2, .inl ⟨rfl, rfl⟩⟩⟩
        · repeat (first | exact trivial | refine And.intro (Sub.junk _) ?_ | refine And.intro (Sub.refl _) ?_ | refine And.intro (Sub.sl _ _ _ _ _) ?_ | refine And.intro (Sub.ptr _ _ _ _) ?_)
        · repeat (first | exact trivial | refine And.intro rfl ?_ | refine And.intro (SubO.refl _) ?_ | refine And.intro trivial ?_ | refine And.intro (SubO.cells (by repeat (first | exact trivial | refine And.intro (Sub.refl _) ?_ | refine And.intro (Sub.sl _ _ _ _ _) ?_ | refine And.intro (Sub.ptr _ _ _ _) ?_))) ?_)
      have hk2 : ¬ x.k = 2 := hk
      repeat (first | refine OpsA.cons ?_ | refine OpsA.nil ?_ | refine Run.textA C_ok (aopZ_sound C_ok) ?_ | refine And.intro rfl ?_ | refine And.intro (Nat.le_of_ble_eq_true rfl) ?_ | refine And.intro (Int.natCast_nonneg _) ?_ | refine fun (_ : Nat) => ?_ | refine Run.go rfl ?_ | refine Cont.go rfl ?_)
      refine fun r hr => ?_
      obtain rfl := add1 hr (by omega)
      repeat (first | refine OpsA.cons ?_ | refine OpsA.nil ?_ | refine Run.textA C_ok (aopZ_sound C_ok) ?_ | refine And.intro rfl ?_ | refine And.intro (Nat.le_of_ble_eq_true rfl) ?_ | refine And.intro (Int.natCast_nonneg _) ?_ | refine fun (_ : Nat) => ?_ | refine Run.go rfl ?_ | refine Cont.go rfl ?_)
      refine Cont.lpW ?_
      refine ⟨121 - (i + 1), _, _, by omega, Weak.sel ?_ [0, 1] (by decide) ?_, ⟨i + 1, l, gm, es, cl, rfl, by omega, hT, hI, .inl ⟨rfl, rfl⟩⟩⟩
      · repeat (first | exact trivial | refine And.intro (Sub.junk _) ?_ | refine And.intro (Sub.refl _) ?_ | refine And.intro (Sub.sl _ _ _ _ _) ?_ | refine And.intro (Sub.ptr _ _ _ _) ?_)
      · repeat (first | exact trivial | refine And.intro rfl ?_ | refine And.intro (SubO.refl _) ?_ | refine And.intro trivial ?_ | refine And.intro (SubO.cells (by repeat (first | exact trivial | refine And.intro (Sub.refl _) ?_ | refine And.intro (Sub.sl _ _ _ _ _) ?_ | refine And.intro (Sub.ptr _ _ _ _) ?_))) ?_)
  · repeat (first | refine OpsA.cons ?_ | refine OpsA.nil ?_ | refine Run.textA C_ok (aopZ_sound C_ok) ?_ | refine And.intro rfl ?_ | refine And.intro (Nat.le_of_ble_eq_true rfl) ?_ | refine And.intro (Int.natCast_nonneg _) ?_ | refine fun (_ : Nat) => ?_ | refine Run.go rfl ?_ | refine Cont.go rfl ?_)
    refine ⟨fun h => ?_, fun h => ?_⟩
    rotate_left
    · have hs := same_spec l l (by have := hI.len; omega)
      rw [decide_eq_true rfl] at hs
      repeat (first | refine OpsA.cons ?_ | refine OpsA.nil ?_ | refine Run.textA C_ok (aopZ_sound C_ok) ?_ | refine And.intro rfl ?_ | refine And.intro (Nat.le_of_ble_eq_true rfl) ?_ | refine And.intro (Int.natCast_nonneg _) ?_ | refine fun (_ : Nat) => ?_ | refine Run.go rfl ?_ | refine Cont.go rfl ?_)
      refine CallZ.plain (ACallT.ok (ACall.sel [0, 1] (by decide) [.ptr 0 gt 0] _ (.one (Sub.refl _)) (nodes_spec gt gm hT hI) ?_))
      rintro r L' ⟨gn, Cn, rfl, rfl⟩
      refine ⟨.sl 4 gn Cn l.length, Sub.sl _ _ _ _ _, ?_⟩
      repeat (first | refine OpsA.cons ?_ | refine OpsA.nil ?_ | refine Run.textA C_ok (aopZ_sound C_ok) ?_ | refine And.intro rfl ?_ | refine And.intro (Nat.le_of_ble_eq_true rfl) ?_ | refine And.intro (Int.natCast_nonneg _) ?_ | refine fun (_ : Nat) => ?_ | refine Run.go rfl ?_ | refine Cont.go rfl ?_)
      refine CallZ.plain (ACallT.ok (ACall.sel [2, 3] (by decide) [.ptr 0 gu 0] _ (.one (Sub.ptr _ _ _ _)) (nodes_spec gu gmu hTu hI) ?_))
      rintro r L' ⟨gn2, Cn2, rfl, rfl⟩
      refine ⟨.sl 5 gn2 Cn2 l.length, Sub.sl _ _ _ _ _, ?_⟩
      repeat (first | refine OpsA.cons ?_ | refine OpsA.nil ?_ | refine Run.textA C_ok (aopZ_sound C_ok) ?_ | refine And.intro rfl ?_ | refine And.intro (Nat.le_of_ble_eq_true rfl) ?_ | refine And.intro (Int.natCast_nonneg _) ?_ | refine fun (_ : Nat) => ?_ | refine Run.go rfl ?_ | refine Cont.go rfl ?_)
      refine CallZ.plain (ACallT.ok (ACall.ret_lend (.two (.row 4 gn Cn _ tX 7 _ rfl (by simp)) (.row 5 gn2 Cn2 _ tX 7 _ rfl (by simp))) hs rfl ?_))
      repeat (first | refine OpsA.cons ?_ | refine OpsA.nil ?_ | refine Run.textA C_ok (aopZ_sound C_ok) ?_ | refine And.intro rfl ?_ | refine And.intro (Nat.le_of_ble_eq_true rfl) ?_ | refine And.intro (Int.natCast_nonneg _) ?_ | refine fun (_ : Nat) => ?_ | refine Run.go rfl ?_ | refine Cont.go rfl ?_)
      refine CallZ.plain (ACallT.ok (ACall.ret known_spec ?_))
      repeat (first | refine OpsA.cons ?_ | refine OpsA.nil ?_ | refine Run.textA C_ok (aopZ_sound C_ok) ?_ | refine And.intro rfl ?_ | refine And.intro (Nat.le_of_ble_eq_true rfl) ?_ | refine And.intro (Int.natCast_nonneg _) ?_ | refine fun (_ : Nat) => ?_ | refine Run.go rfl ?_ | refine Cont.go rfl ?_)
      exact ⟨_, [], FinOk.drop _ _, rfl, rfl⟩
    have h : (i : Int) < (n : Int) := h
    repeat (first | refine OpsA.cons ?_ | refine OpsA.nil ?_ | refine Run.textA C_ok (aopZ_sound C_ok) ?_ | refine And.intro rfl ?_ | refine And.intro (Nat.le_of_ble_eq_true rfl) ?_ | refine And.intro (Int.natCast_nonneg _) ?_ | refine fun (_ : Nat) => ?_ | refine Run.go rfl ?_ | refine Cont.go rfl ?_)
    refine ⟨fun h2 => ?_, fun h2 => ?_⟩
    rotate_left
    · have hs := same_spec l l (by have := hI.len; omega)
      rw [decide_eq_true rfl] at hs
      repeat (first | refine OpsA.cons ?_ | refine OpsA.nil ?_ | refine Run.textA C_ok (aopZ_sound C_ok) ?_ | refine And.intro rfl ?_ | refine And.intro (Nat.le_of_ble_eq_true rfl) ?_ | refine And.intro (Int.natCast_nonneg _) ?_ | refine fun (_ : Nat) => ?_ | refine Run.go rfl ?_ | refine Cont.go rfl ?_)
      refine CallZ.plain (ACallT.ok (ACall.sel [0, 1] (by decide) [.ptr 0 gt 0] _ (.one (Sub.refl _)) (nodes_spec gt gm hT hI) ?_))
      rintro r L' ⟨gn, Cn, rfl, rfl⟩
      refine ⟨.sl 4 gn Cn l.length, Sub.sl _ _ _ _ _, ?_⟩
      repeat (first | refine OpsA.cons ?_ | refine OpsA.nil ?_ | refine Run.textA C_ok (aopZ_sound C_ok) ?_ | refine And.intro rfl ?_ | refine And.intro (Nat.le_of_ble_eq_true rfl) ?_ | refine And.intro (Int.natCast_nonneg _) ?_ | refine fun (_ : Nat) => ?_ | refine Run.go rfl ?_ | refine Cont.go rfl ?_)
      refine CallZ.plain (ACallT.ok (ACall.sel [2, 3] (by decide) [.ptr 0 gu 0] _ (.one (Sub.ptr _ _ _ _)) (nodes_spec gu gmu hTu hI) ?_))
      rintro r L' ⟨gn2, Cn2, rfl, rfl⟩
      refine ⟨.sl 5 gn2 Cn2 l.length, Sub.sl _ _ _ _ _, ?_⟩
      repeat (first | refine OpsA.cons ?_ | refine OpsA.nil ?_ | refine Run.textA C_ok (aopZ_sound C_ok) ?_ | refine And.intro rfl ?_ | refine And.intro (Nat.le_of_ble_eq_true rfl) ?_ | refine And.intro (Int.natCast_nonneg _) ?_ | refine fun (_ : Nat) => ?_ | refine Run.go rfl ?_ | refine Cont.go rfl ?_)
      refine CallZ.plain (ACallT.ok (ACall.ret_lend (.two (.row 4 gn Cn _ tX 7 _ rfl (by simp)) (.row 5 gn2 Cn2 _ tX 7 _ rfl (by simp))) hs rfl ?_))
      repeat (first | refine OpsA.cons ?_ | refine OpsA.nil ?_ | refine Run.textA C_ok (aopZ_sound C_ok) ?_ | refine And.intro rfl ?_ | refine And.intro (Nat.le_of_ble_eq_true rfl) ?_ | refine And.intro (Int.natCast_nonneg _) ?_ | refine fun (_ : Nat) => ?_ | refine Run.go rfl ?_ | refine Cont.go rfl ?_)
      refine CallZ.plain (ACallT.ok (ACall.ret known_spec ?_))
      repeat (first | refine OpsA.cons ?_ | refine OpsA.nil ?_ | refine Run.textA C_ok (aopZ_sound C_ok) ?_ | refine And.intro rfl ?_ | refine And.intro (Nat.le_of_ble_eq_true rfl) ?_ | refine And.intro (Int.natCast_nonneg _) ?_ | refine fun (_ : Nat) => ?_ | refine Run.go rfl ?_ | refine Cont.go rfl ?_)
      exact ⟨_, [], FinOk.drop _ _, rfl, rfl⟩
    have h2 : (i : Int) < 120 := h2
    obtain ⟨x, ex⟩ : ∃ x, xs[i]? = some x := ⟨_, List.getElem?_eq_getElem (by omega)⟩
    have hx := hok x (List.mem_of_getElem? ex)
    repeat (first | refine OpsA.cons ?_ | refine OpsA.nil ?_ | refine Run.textA C_ok (aopZ_sound C_ok) ?_ | refine And.intro rfl ?_ | refine And.intro (Nat.le_of_ble_eq_true rfl) ?_ | refine And.intro (Int.natCast_nonneg _) ?_ | refine fun (_ : Nat) => ?_ | refine Run.go rfl ?_ | refine Cont.go rfl ?_)
    refine ⟨fun hc => ?_, fun hc => ?_⟩
    · repeat (first | refine OpsA.cons ?_ | refine OpsA.nil ?_ | refine Run.textA C_ok (aopZ_sound C_ok) ?_ | refine And.intro rfl ?_ | refine And.intro (Nat.le_of_ble_eq_true rfl) ?_ | refine And.intro (Int.natCast_nonneg _) ?_ | refine fun (_ : Nat) => ?_ | refine Run.go rfl ?_ | refine Cont.go rfl ?_)
      refine CallZ.plain (ACallT.ok (ACall.sel [0, 1] (by decide) [.ptr 0 gt 0] _ (.one (Sub.refl _)) (nodes_spec gt gm hT hI) ?_))
      rintro r L' ⟨gn, Cn, rfl, rfl⟩
      refine ⟨.sl 4 gn Cn l.length, Sub.sl _ _ _ _ _, ?_⟩
      have hld := load_spec l l.length (Nat.le_refl _)
      rw [List.take_length] at hld
      repeat (first | refine OpsA.cons ?_ | refine OpsA.nil ?_ | refine Run.textA C_ok (aopZ_sound C_ok) ?_ | refine And.intro rfl ?_ | refine And.intro (Nat.le_of_ble_eq_true rfl) ?_ | refine And.intro (Int.natCast_nonneg _) ?_ | refine fun (_ : Nat) => ?_ | refine Run.go rfl ?_ | refine Cont.go rfl ?_)
      refine CallZ.frz [4] [0, 1, 2, 3] (by kernel_rfl) [rdX l] ⟨.row 4 gn Cn _ tX 7 _ rfl (by simp), trivial⟩ (ACall.pure _ hld ?_)
      rintro r L' (⟨_, _, gu, gmu, esu, clu, hTu, rfl, rfl⟩ | ⟨h, _, _⟩)
      rotate_left
      · exact absurd hI.loadE h
      refine ⟨.tuple [.ptr 5 gu 0, .int .i64 0], Sub.tuples ⟨Sub.ptr _ _ _ _, Sub.refl _, trivial⟩, ?_⟩
      repeat (first | refine OpsA.cons ?_ | refine OpsA.nil ?_ | refine Run.textA C_ok (aopZ_sound C_ok) ?_ | refine And.intro rfl ?_ | refine And.intro (Nat.le_of_ble_eq_true rfl) ?_ | refine And.intro (Int.natCast_nonneg _) ?_ | refine fun (_ : Nat) => ?_ | refine Run.go rfl ?_ | refine Cont.go rfl ?_)
      refine CallZ.plain (ACallT.ok (ACall.ret (num_spec 0) ?_))
      repeat (first | refine OpsA.cons ?_ | refine OpsA.nil ?_ | refine Run.textA C_ok (aopZ_sound C_ok) ?_ | refine And.intro rfl ?_ | refine And.intro (Nat.le_of_ble_eq_true rfl) ?_ | refine And.intro (Int.natCast_nonneg _) ?_ | refine fun (_ : Nat) => ?_ | refine Run.go rfl ?_ | refine Cont.go rfl ?_)
      refine ⟨fun h => absurd rfl h, fun _ => ?_⟩
      repeat (first | refine OpsA.cons ?_ | refine OpsA.nil ?_ | refine Run.textA C_ok (aopZ_sound C_ok) ?_ | refine And.intro rfl ?_ | refine And.intro (Nat.le_of_ble_eq_true rfl) ?_ | refine And.intro (Int.natCast_nonneg _) ?_ | refine fun (_ : Nat) => ?_ | refine Run.go rfl ?_ | refine Cont.go rfl ?_)
      refine ⟨h, encS x, map_at encS ex, ?_⟩
      repeat (first | refine OpsA.cons ?_ | refine OpsA.nil ?_ | refine Run.textA C_ok (aopZ_sound C_ok) ?_ | refine And.intro rfl ?_ | refine And.intro (Nat.le_of_ble_eq_true rfl) ?_ | refine And.intro (Int.natCast_nonneg _) ?_ | refine fun (_ : Nat) => ?_ | refine Run.go rfl ?_ | refine Cont.go rfl ?_)
      refine ⟨fun hk => ?_, fun hk => ?_⟩
      · have hk : x.k = 1 := hk
        repeat (first | refine OpsA.cons ?_ | refine OpsA.nil ?_ | refine Run.textA C_ok (aopZ_sound C_ok) ?_ | refine And.intro rfl ?_ | refine And.intro (Nat.le_of_ble_eq_true rfl) ?_ | refine And.intro (Int.natCast_nonneg _) ?_ | refine fun (_ : Nat) => ?_ | refine Run.go rfl ?_ | refine Cont.go rfl ?_)
        refine CallZ.plain (ACallT.ok (ACall.sel [0, 1] (by decide) [.ptr 0 gt 0, .int .i64 x.s, .int .i64 x.st, .ro 5 (x.ops.map encO) x.no] _ ⟨Sub.refl _, Sub.refl _, Sub.refl _, Sub.refl _, trivial⟩ (play_spec gt gm hT hI x.s x.st x.ops x.no hx) ?_))
        intro r L' hq
        have hI2 : TInv (playR l x.s x.st (x.ops.take x.no)).1 := playR_inv hI
        have hsm := playR_small (s := x.s) (st := x.st) (ops := x.ops.take x.no) hI
        have hq2 := play_spec gu gmu hTu hI x.s x.st x.ops x.no hx
        obtain ⟨gm2, es2, cl2, hT2, rfl, rfl⟩ := hq
        generalize hR : (playR l x.s x.st (x.ops.take x.no)) = R at hT2 hI2 hsm ⊢
        obtain ⟨l2, ⟨rst, code, at_, rs⟩, cs⟩ := R
        obtain ⟨z1, z2, z3⟩ := hsm
        refine ⟨.tuple [encP ⟨rst, code, at_, rs⟩, encCs cs], Sub.refl _, ?_⟩
        repeat (first | refine OpsA.cons ?_ | refine OpsA.nil ?_ | refine Run.textA C_ok (aopZ_sound C_ok) ?_ | refine And.intro rfl ?_ | refine And.intro (Nat.le_of_ble_eq_true rfl) ?_ | refine And.intro (Int.natCast_nonneg _) ?_ | refine fun (_ : Nat) => ?_ | refine Run.go rfl ?_ | refine Cont.go rfl ?_)
        refine CallZ.plain (ACallT.ok (ACall.sel [5, 6] (by decide) [.ptr 0 gu 0, .int .i64 x.s, .int .i64 x.st, .ro 5 (x.ops.map encO) x.no] _ ⟨Sub.ptr _ _ _ _, Sub.refl _, Sub.refl _, Sub.refl _, trivial⟩ hq2 ?_))
        intro r L' hq
        obtain ⟨gm3, es3, cl3, hT3, rfl, rfl⟩ := hq
        rw [hR] at hT3 ⊢
        refine ⟨.tuple [encP ⟨rst, code, at_, rs⟩, encCs cs], Sub.refl _, ?_⟩
        repeat (first | refine OpsA.cons ?_ | refine OpsA.nil ?_ | refine Run.textA C_ok (aopZ_sound C_ok) ?_ | refine And.intro rfl ?_ | refine And.intro (Nat.le_of_ble_eq_true rfl) ?_ | refine And.intro (Int.natCast_nonneg _) ?_ | refine fun (_ : Nat) => ?_ | refine Run.go rfl ?_ | refine Cont.go rfl ?_)
        refine CallZ.plain (ACallT.ok (ACall.ret (reply_same ⟨rst, code, at_, rs⟩ z2 z1) ?_))
        repeat (first | refine OpsA.cons ?_ | refine OpsA.nil ?_ | refine Run.textA C_ok (aopZ_sound C_ok) ?_ | refine And.intro rfl ?_ | refine And.intro (Nat.le_of_ble_eq_true rfl) ?_ | refine And.intro (Int.natCast_nonneg _) ?_ | refine fun (_ : Nat) => ?_ | refine Run.go rfl ?_ | refine Cont.go rfl ?_)
        refine CallZ.plain (ACallT.ok (ACall.ret (changes_same cs z3) ?_))
        repeat (first | refine OpsA.cons ?_ | refine OpsA.nil ?_ | refine Run.textA C_ok (aopZ_sound C_ok) ?_ | refine And.intro rfl ?_ | refine And.intro (Nat.le_of_ble_eq_true rfl) ?_ | refine And.intro (Int.natCast_nonneg _) ?_ | refine fun (_ : Nat) => ?_ | refine Run.go rfl ?_ | refine Cont.go rfl ?_)
        refine fun r hr => ?_
        obtain rfl := add1 hr (by omega)
        repeat (first | refine OpsA.cons ?_ | refine OpsA.nil ?_ | refine Run.textA C_ok (aopZ_sound C_ok) ?_ | refine And.intro rfl ?_ | refine And.intro (Nat.le_of_ble_eq_true rfl) ?_ | refine And.intro (Int.natCast_nonneg _) ?_ | refine fun (_ : Nat) => ?_ | refine Run.go rfl ?_ | refine Cont.go rfl ?_)
        refine Cont.lpW ?_
        refine ⟨121 - (i + 1), _, _, by omega, Weak.sel ?_ [0, 1, 5, 6] (by decide) ?_, ⟨i + 1, l2, gm2, es2, cl2, rfl, by omega, hT2, hI2, .inr ⟨gu, gm3, es3, cl3, hT3, rfl, rfl⟩⟩⟩
        · repeat (first | exact trivial | refine And.intro (Sub.junk _) ?_ | refine And.intro (Sub.refl _) ?_ | refine And.intro (Sub.sl _ _ _ _ _) ?_ | refine And.intro (Sub.ptr _ _ _ _) ?_)
        · repeat (first | exact trivial | refine And.intro rfl ?_ | refine And.intro (SubO.refl _) ?_ | refine And.intro trivial ?_ | refine And.intro (SubO.cells (by repeat (first | exact trivial | refine And.intro (Sub.refl _) ?_ | refine And.intro (Sub.sl _ _ _ _ _) ?_ | refine And.intro (Sub.ptr _ _ _ _) ?_))) ?_)
      have hk1 : ¬ x.k = 1 := hk
      repeat (first | refine OpsA.cons ?_ | refine OpsA.nil ?_ | refine Run.textA C_ok (aopZ_sound C_ok) ?_ | refine And.intro rfl ?_ | refine And.intro (Nat.le_of_ble_eq_true rfl) ?_ | refine And.intro (Int.natCast_nonneg _) ?_ | refine fun (_ : Nat) => ?_ | refine Run.go rfl ?_ | refine Cont.go rfl ?_)
      refine ⟨fun hk => ?_, fun hk => ?_⟩
      · have hk : x.k = 2 := hk
        repeat (first | refine OpsA.cons ?_ | refine OpsA.nil ?_ | refine Run.textA C_ok (aopZ_sound C_ok) ?_ | refine And.intro rfl ?_ | refine And.intro (Nat.le_of_ble_eq_true rfl) ?_ | refine And.intro (Int.natCast_nonneg _) ?_ | refine fun (_ : Nat) => ?_ | refine Run.go rfl ?_ | refine Cont.go rfl ?_)
        refine CallZ.plain (ACallT.ok (ACall.sel [0, 1] (by decide) [.ptr 0 gt 0, .int .i64 x.s] _ (.two (Sub.refl _) (Sub.refl _)) (end_spec gt gm hT hI x.s) ?_))
        intro r L' hq
        have hI2 : TInv (endF l x.s).1 := endF_inv hI
        have hsm := endF_small (s := x.s) hI
        have hq2 := end_spec gu gmu hTu hI x.s
        obtain ⟨es2, cl2, hT2, rfl, rfl⟩ := hq
        generalize hR : (endF l x.s) = R at hT2 hI2 hsm ⊢
        obtain ⟨l2, cs⟩ := R
        refine ⟨_, Sub.refl _, ?_⟩
        repeat (first | refine OpsA.cons ?_ | refine OpsA.nil ?_ | refine Run.textA C_ok (aopZ_sound C_ok) ?_ | refine And.intro rfl ?_ | refine And.intro (Nat.le_of_ble_eq_true rfl) ?_ | refine And.intro (Int.natCast_nonneg _) ?_ | refine fun (_ : Nat) => ?_ | refine Run.go rfl ?_ | refine Cont.go rfl ?_)
        refine CallZ.plain (ACallT.ok (ACall.sel [5, 6] (by decide) [.ptr 0 gu 0, .int .i64 x.s] _ (.two (Sub.ptr _ _ _ _) (Sub.refl _)) hq2 ?_))
        intro r L' hq
        obtain ⟨es3, cl3, hT3, rfl, rfl⟩ := hq
        rw [hR] at hT3 ⊢
        refine ⟨_, Sub.refl _, ?_⟩
        repeat (first | refine OpsA.cons ?_ | refine OpsA.nil ?_ | refine Run.textA C_ok (aopZ_sound C_ok) ?_ | refine And.intro rfl ?_ | refine And.intro (Nat.le_of_ble_eq_true rfl) ?_ | refine And.intro (Int.natCast_nonneg _) ?_ | refine fun (_ : Nat) => ?_ | refine Run.go rfl ?_ | refine Cont.go rfl ?_)
        refine CallZ.plain (ACallT.ok (ACall.ret (changes_same cs hsm) ?_))
        repeat (first | refine OpsA.cons ?_ | refine OpsA.nil ?_ | refine Run.textA C_ok (aopZ_sound C_ok) ?_ | refine And.intro rfl ?_ | refine And.intro (Nat.le_of_ble_eq_true rfl) ?_ | refine And.intro (Int.natCast_nonneg _) ?_ | refine fun (_ : Nat) => ?_ | refine Run.go rfl ?_ | refine Cont.go rfl ?_)
        refine fun r hr => ?_
        obtain rfl := add1 hr (by omega)
        repeat (first | refine OpsA.cons ?_ | refine OpsA.nil ?_ | refine Run.textA C_ok (aopZ_sound C_ok) ?_ | refine And.intro rfl ?_ | refine And.intro (Nat.le_of_ble_eq_true rfl) ?_ | refine And.intro (Int.natCast_nonneg _) ?_ | refine fun (_ : Nat) => ?_ | refine Run.go rfl ?_ | refine Cont.go rfl ?_)
        refine Cont.lpW ?_
        refine ⟨121 - (i + 1), _, _, by omega, Weak.sel ?_ [0, 1, 5, 6] (by decide) ?_, ⟨i + 1, l2, gm, es2, cl2, rfl, by omega, hT2, hI2, .inr ⟨gu, gmu, es3, cl3, hT3, rfl, rfl⟩⟩⟩
        · repeat (first | exact trivial | refine And.intro (Sub.junk _) ?_ | refine And.intro (Sub.refl _) ?_ | refine And.intro (Sub.sl _ _ _ _ _) ?_ | refine And.intro (Sub.ptr _ _ _ _) ?_)
        · repeat (first | exact trivial | refine And.intro rfl ?_ | refine And.intro (SubO.refl _) ?_ | refine And.intro trivial ?_ | refine And.intro (SubO.cells (by repeat (first | exact trivial | refine And.intro (Sub.refl _) ?_ | refine And.intro (Sub.sl _ _ _ _ _) ?_ | refine And.intro (Sub.ptr _ _ _ _) ?_))) ?_)
      have hk2 : ¬ x.k = 2 := hk
      repeat (first | refine OpsA.cons ?_ | refine OpsA.nil ?_ | refine Run.textA C_ok (aopZ_sound C_ok) ?_ | refine And.intro rfl ?_ | refine And.intro (Nat.le_of_ble_eq_true rfl) ?_ | refine And.intro (Int.natCast_nonneg _) ?_ | refine fun (_ : Nat) => ?_ | refine Run.go rfl ?_ | refine Cont.go rfl ?_)
      refine fun r hr => ?_
      obtain rfl := add1 hr (by omega)
      repeat (first | refine OpsA.cons ?_ | refine OpsA.nil ?_ | refine Run.textA C_ok (aopZ_sound C_ok) ?_ | refine And.intro rfl ?_ | refine And.intro (Nat.le_of_ble_eq_true rfl) ?_ | refine And.intro (Int.natCast_nonneg _) ?_ | refine fun (_ : Nat) => ?_ | refine Run.go rfl ?_ | refine Cont.go rfl ?_)
      refine Cont.lpW ?_
      refine ⟨121 - (i + 1), _, _, by omega, Weak.sel ?_ [0, 1, 5, 6] (by decide) ?_, ⟨i + 1, l, gm, es, cl, rfl, by omega, hT, hI, .inr ⟨gu, gmu, esu, clu, hTu, rfl, rfl⟩⟩⟩
      · repeat (first | exact trivial | refine And.intro (Sub.junk _) ?_ | refine And.intro (Sub.refl _) ?_ | refine And.intro (Sub.sl _ _ _ _ _) ?_ | refine And.intro (Sub.ptr _ _ _ _) ?_)
      · repeat (first | exact trivial | refine And.intro rfl ?_ | refine And.intro (SubO.refl _) ?_ | refine And.intro trivial ?_ | refine And.intro (SubO.cells (by repeat (first | exact trivial | refine And.intro (Sub.refl _) ?_ | refine And.intro (Sub.sl _ _ _ _ _) ?_ | refine And.intro (Sub.ptr _ _ _ _) ?_))) ?_)
    · repeat (first | refine OpsA.cons ?_ | refine OpsA.nil ?_ | refine Run.textA C_ok (aopZ_sound C_ok) ?_ | refine And.intro rfl ?_ | refine And.intro (Nat.le_of_ble_eq_true rfl) ?_ | refine And.intro (Int.natCast_nonneg _) ?_ | refine fun (_ : Nat) => ?_ | refine Run.go rfl ?_ | refine Cont.go rfl ?_)
      refine ⟨h, encS x, map_at encS ex, ?_⟩
      repeat (first | refine OpsA.cons ?_ | refine OpsA.nil ?_ | refine Run.textA C_ok (aopZ_sound C_ok) ?_ | refine And.intro rfl ?_ | refine And.intro (Nat.le_of_ble_eq_true rfl) ?_ | refine And.intro (Int.natCast_nonneg _) ?_ | refine fun (_ : Nat) => ?_ | refine Run.go rfl ?_ | refine Cont.go rfl ?_)
      refine ⟨fun hk => ?_, fun hk => ?_⟩
      · have hk : x.k = 1 := hk
        repeat (first | refine OpsA.cons ?_ | refine OpsA.nil ?_ | refine Run.textA C_ok (aopZ_sound C_ok) ?_ | refine And.intro rfl ?_ | refine And.intro (Nat.le_of_ble_eq_true rfl) ?_ | refine And.intro (Int.natCast_nonneg _) ?_ | refine fun (_ : Nat) => ?_ | refine Run.go rfl ?_ | refine Cont.go rfl ?_)
        refine CallZ.plain (ACallT.ok (ACall.sel [0, 1] (by decide) [.ptr 0 gt 0, .int .i64 x.s, .int .i64 x.st, .ro 5 (x.ops.map encO) x.no] _ ⟨Sub.refl _, Sub.refl _, Sub.refl _, Sub.refl _, trivial⟩ (play_spec gt gm hT hI x.s x.st x.ops x.no hx) ?_))
        intro r L' hq
        have hI2 : TInv (playR l x.s x.st (x.ops.take x.no)).1 := playR_inv hI
        have hsm := playR_small (s := x.s) (st := x.st) (ops := x.ops.take x.no) hI
        have hq2 := play_spec gu gmu hTu hI x.s x.st x.ops x.no hx
        obtain ⟨gm2, es2, cl2, hT2, rfl, rfl⟩ := hq
        generalize hR : (playR l x.s x.st (x.ops.take x.no)) = R at hT2 hI2 hsm ⊢
        obtain ⟨l2, ⟨rst, code, at_, rs⟩, cs⟩ := R
        obtain ⟨z1, z2, z3⟩ := hsm
        refine ⟨.tuple [encP ⟨rst, code, at_, rs⟩, encCs cs], Sub.refl _, ?_⟩
        repeat (first | refine OpsA.cons ?_ | refine OpsA.nil ?_ | refine Run.textA C_ok (aopZ_sound C_ok) ?_ | refine And.intro rfl ?_ | refine And.intro (Nat.le_of_ble_eq_true rfl) ?_ | refine And.intro (Int.natCast_nonneg _) ?_ | refine fun (_ : Nat) => ?_ | refine Run.go rfl ?_ | refine Cont.go rfl ?_)
        refine CallZ.plain (ACallT.ok (ACall.sel [2, 3] (by decide) [.ptr 0 gu 0, .int .i64 x.s, .int .i64 x.st, .ro 5 (x.ops.map encO) x.no] _ ⟨Sub.ptr _ _ _ _, Sub.refl _, Sub.refl _, Sub.refl _, trivial⟩ hq2 ?_))
        intro r L' hq
        obtain ⟨gm3, es3, cl3, hT3, rfl, rfl⟩ := hq
        rw [hR] at hT3 ⊢
        refine ⟨.tuple [encP ⟨rst, code, at_, rs⟩, encCs cs], Sub.refl _, ?_⟩
        repeat (first | refine OpsA.cons ?_ | refine OpsA.nil ?_ | refine Run.textA C_ok (aopZ_sound C_ok) ?_ | refine And.intro rfl ?_ | refine And.intro (Nat.le_of_ble_eq_true rfl) ?_ | refine And.intro (Int.natCast_nonneg _) ?_ | refine fun (_ : Nat) => ?_ | refine Run.go rfl ?_ | refine Cont.go rfl ?_)
        refine CallZ.plain (ACallT.ok (ACall.ret (reply_same ⟨rst, code, at_, rs⟩ z2 z1) ?_))
        repeat (first | refine OpsA.cons ?_ | refine OpsA.nil ?_ | refine Run.textA C_ok (aopZ_sound C_ok) ?_ | refine And.intro rfl ?_ | refine And.intro (Nat.le_of_ble_eq_true rfl) ?_ | refine And.intro (Int.natCast_nonneg _) ?_ | refine fun (_ : Nat) => ?_ | refine Run.go rfl ?_ | refine Cont.go rfl ?_)
        refine CallZ.plain (ACallT.ok (ACall.ret (changes_same cs z3) ?_))
        repeat (first | refine OpsA.cons ?_ | refine OpsA.nil ?_ | refine Run.textA C_ok (aopZ_sound C_ok) ?_ | refine And.intro rfl ?_ | refine And.intro (Nat.le_of_ble_eq_true rfl) ?_ | refine And.intro (Int.natCast_nonneg _) ?_ | refine fun (_ : Nat) => ?_ | refine Run.go rfl ?_ | refine Cont.go rfl ?_)
        refine fun r hr => ?_
        obtain rfl := add1 hr (by omega)
        repeat (first | refine OpsA.cons ?_ | refine OpsA.nil ?_ | refine Run.textA C_ok (aopZ_sound C_ok) ?_ | refine And.intro rfl ?_ | refine And.intro (Nat.le_of_ble_eq_true rfl) ?_ | refine And.intro (Int.natCast_nonneg _) ?_ | refine fun (_ : Nat) => ?_ | refine Run.go rfl ?_ | refine Cont.go rfl ?_)
        refine Cont.lpW ?_
        refine ⟨121 - (i + 1), _, _, by omega, Weak.sel ?_ [0, 1, 2, 3] (by decide) ?_, ⟨i + 1, l2, gm2, es2, cl2, rfl, by omega, hT2, hI2, .inr ⟨gu, gm3, es3, cl3, hT3, rfl, rfl⟩⟩⟩
        · repeat (first | exact trivial | refine And.intro (Sub.junk _) ?_ | refine And.intro (Sub.refl _) ?_ | refine And.intro (Sub.sl _ _ _ _ _) ?_ | refine And.intro (Sub.ptr _ _ _ _) ?_)
        · repeat (first | exact trivial | refine And.intro rfl ?_ | refine And.intro (SubO.refl _) ?_ | refine And.intro trivial ?_ | refine And.intro (SubO.cells (by repeat (first | exact trivial | refine And.intro (Sub.refl _) ?_ | refine And.intro (Sub.sl _ _ _ _ _) ?_ | refine And.intro (Sub.ptr _ _ _ _) ?_))) ?_)
      have hk1 : ¬ x.k = 1 := hk
      repeat (first | refine OpsA.cons ?_ | refine OpsA.nil ?_ | refine Run.textA C_ok (aopZ_sound C_ok) ?_ | refine And.intro rfl ?_ | refine And.intro (Nat.le_of_ble_eq_true rfl) ?_ | refine And.intro (Int.natCast_nonneg _) ?_ | refine fun (_ : Nat) => ?_ | refine Run.go rfl ?_ | refine Cont.go rfl ?_)
      refine ⟨fun hk => ?_, fun hk => ?_⟩
      · have hk : x.k = 2 := hk
        repeat (first | refine OpsA.cons ?_ | refine OpsA.nil ?_ | refine Run.textA C_ok (aopZ_sound C_ok) ?_ | refine And.intro rfl ?_ | refine And.intro (Nat.le_of_ble_eq_true rfl) ?_ | refine And.intro (Int.natCast_nonneg _) ?_ | refine fun (_ : Nat) => ?_ | refine Run.go rfl ?_ | refine Cont.go rfl ?_)
        refine CallZ.plain (ACallT.ok (ACall.sel [0, 1] (by decide) [.ptr 0 gt 0, .int .i64 x.s] _ (.two (Sub.refl _) (Sub.refl _)) (end_spec gt gm hT hI x.s) ?_))
        intro r L' hq
        have hI2 : TInv (endF l x.s).1 := endF_inv hI
        have hsm := endF_small (s := x.s) hI
        have hq2 := end_spec gu gmu hTu hI x.s
        obtain ⟨es2, cl2, hT2, rfl, rfl⟩ := hq
        generalize hR : (endF l x.s) = R at hT2 hI2 hsm ⊢
        obtain ⟨l2, cs⟩ := R
        refine ⟨_, Sub.refl _, ?_⟩
        repeat (first | refine OpsA.cons ?_ | refine OpsA.nil ?_ | refine Run.textA C_ok (aopZ_sound C_ok) ?_ | refine And.intro rfl ?_ | refine And.intro (Nat.le_of_ble_eq_true rfl) ?_ | refine And.intro (Int.natCast_nonneg _) ?_ | refine fun (_ : Nat) => ?_ | refine Run.go rfl ?_ | refine Cont.go rfl ?_)
        refine CallZ.plain (ACallT.ok (ACall.sel [2, 3] (by decide) [.ptr 0 gu 0, .int .i64 x.s] _ (.two (Sub.ptr _ _ _ _) (Sub.refl _)) hq2 ?_))
        intro r L' hq
        obtain ⟨es3, cl3, hT3, rfl, rfl⟩ := hq
        rw [hR] at hT3 ⊢
        refine ⟨_, Sub.refl _, ?_⟩
        repeat (first | refine OpsA.cons ?_ | refine OpsA.nil ?_ | refine Run.textA C_ok (aopZ_sound C_ok) ?_ | refine And.intro rfl ?_ | refine And.intro (Nat.le_of_ble_eq_true rfl) ?_ | refine And.intro (Int.natCast_nonneg _) ?_ | refine fun (_ : Nat) => ?_ | refine Run.go rfl ?_ | refine Cont.go rfl ?_)
        refine CallZ.plain (ACallT.ok (ACall.ret (changes_same cs hsm) ?_))
        repeat (first | refine OpsA.cons ?_ | refine OpsA.nil ?_ | refine Run.textA C_ok (aopZ_sound C_ok) ?_ | refine And.intro rfl ?_ | refine And.intro (Nat.le_of_ble_eq_true rfl) ?_ | refine And.intro (Int.natCast_nonneg _) ?_ | refine fun (_ : Nat) => ?_ | refine Run.go rfl ?_ | refine Cont.go rfl ?_)
        refine fun r hr => ?_
        obtain rfl := add1 hr (by omega)
        repeat (first | refine OpsA.cons ?_ | refine OpsA.nil ?_ | refine Run.textA C_ok (aopZ_sound C_ok) ?_ | refine And.intro rfl ?_ | refine And.intro (Nat.le_of_ble_eq_true rfl) ?_ | refine And.intro (Int.natCast_nonneg _) ?_ | refine fun (_ : Nat) => ?_ | refine Run.go rfl ?_ | refine Cont.go rfl ?_)
        refine Cont.lpW ?_
        refine ⟨121 - (i + 1), _, _, by omega, Weak.sel ?_ [0, 1, 2, 3] (by decide) ?_, ⟨i + 1, l2, gm, es2, cl2, rfl, by omega, hT2, hI2, .inr ⟨gu, gmu, es3, cl3, hT3, rfl, rfl⟩⟩⟩
        · repeat (first | exact trivial | refine And.intro (Sub.junk _) ?_ | refine And.intro (Sub.refl _) ?_ | refine And.intro (Sub.sl _ _ _ _ _) ?_ | refine And.intro (Sub.ptr _ _ _ _) ?_)
        · repeat (first | exact trivial | refine And.intro rfl ?_ | refine And.intro (SubO.refl _) ?_ | refine And.intro trivial ?_ | refine And.intro (SubO.cells (by repeat (first | exact trivial | refine And.intro (Sub.refl _) ?_ | refine And.intro (Sub.sl _ _ _ _ _) ?_ | refine And.intro (Sub.ptr _ _ _ _) ?_))) ?_)
      have hk2 : ¬ x.k = 2 := hk
      repeat (first | refine OpsA.cons ?_ | refine OpsA.nil ?_ | refine Run.textA C_ok (aopZ_sound C_ok) ?_ | refine And.intro rfl ?_ | refine And.intro (Nat.le_of_ble_eq_true rfl) ?_ | refine And.intro (Int.natCast_nonneg _) ?_ | refine fun (_ : Nat) => ?_ | refine Run.go rfl ?_ | refine Cont.go rfl ?_)
      refine fun r hr => ?_
      obtain rfl := add1 hr (by omega)
      repeat (first | refine OpsA.cons ?_ | refine OpsA.nil ?_ | refine Run.textA C_ok (aopZ_sound C_ok) ?_ | refine And.intro rfl ?_ | refine And.intro (Nat.le_of_ble_eq_true rfl) ?_ | refine And.intro (Int.natCast_nonneg _) ?_ | refine fun (_ : Nat) => ?_ | refine Run.go rfl ?_ | refine Cont.go rfl ?_)
      refine Cont.lpW ?_
      refine ⟨121 - (i + 1), _, _, by omega, Weak.sel ?_ [0, 1, 2, 3] (by decide) ?_, ⟨i + 1, l, gm, es, cl, rfl, by omega, hT, hI, .inr ⟨gu, gmu, esu, clu, hTu, rfl, rfl⟩⟩⟩
      · repeat (first | exact trivial | refine And.intro (Sub.junk _) ?_ | refine And.intro (Sub.refl _) ?_ | refine And.intro (Sub.sl _ _ _ _ _) ?_ | refine And.intro (Sub.ptr _ _ _ _) ?_)
      · repeat (first | exact trivial | refine And.intro rfl ?_ | refine And.intro (SubO.refl _) ?_ | refine And.intro trivial ?_ | refine And.intro (SubO.cells (by repeat (first | exact trivial | refine And.intro (Sub.refl _) ?_ | refine And.intro (Sub.sl _ _ _ _ _) ?_ | refine And.intro (Sub.ptr _ _ _ _) ?_))) ?_)
end Go.Proofs.YtiikjcdjgmlcgaaGreatDoor.HBT
/- Proved: the law TreeLoaded returns true for every input, and its argument reads behind the call as it read before; what the row lists is tied to the program's text. Conditions: none beside the card's own. -/
namespace Go.Proofs.YtiikjcdjgmlcgaaGreatDoor.HBT
open Go Go.Proofs.YtiikjcdjgmlcgaaGreatDoor.HB Go.Proofs.YtiikjcdjgmlcgaaGreatDoor Go.ChangeShapes Go.WideShapes Go.ChangeAt Go.RowKit Go.Lib
set_option maxRecDepth 8000

set_option maxRecDepth 100000 in
theorem loaded_lifted (os : Os) (started : os.Started) (H : Type) (enc : TypeId × Value → H) :
    ReturnsInHanded {} Tryz.checked os 3 .any (fun w args => (Rows.treeLoadedSpec.pre enc Tryz.prog Tryz.f3 [] false w args ∧ laidMetH Tryz.prog laid w) ∧ sizedMet enc Tryz.prog Tryz.f3 (OpenSpec.ofChange Rows.treeLoadedSpec) false w args)
      (Rows.treeLoadedSpec.post enc Tryz.prog Tryz.f3 false true false false) := by
  refine returns_and_shaped (C := Tryz.checked) (X := fun w _ => laidMetH Tryz.prog laid w) (fun _ _ _ hh h => h.of_heap hh) own started (by kernel_rfl) Tryz.func3
    (ChangeSpec.witness_shaped (enc := enc) (C := Tryz.checked) (os := os) (X := fun w _ => laidMetH Tryz.prog laid w) false (World.laidAll Tryz.prog os laid) #[.slice none 0 0, .int .i64 0] 8 (World.laidAll_os _ _ _)
      (door_shape os _) (by kernel_rfl) (by kernel_rfl) (by kernel_rfl) (door_met os _)) ?_
  intro W base args ds gs before hval hW hL hs
  refine law_contract (C := C) (tb := 4) 8 laidOut (by kernel_rfl) (by kernel_rfl) (by kernel_rfl) Tryz.underlying4 ?_ ?_ ?_ (G_of hL hs) hval hW
  · intro W W' gs q _ h
    cases gs with
    | nil => exact h
    | cons => exact h.elim
  · intro ds gs hd hg
    match ds, gs, hd, hg with
    | [d1, d2], [], _, _ => exact ⟨rfl, rfl, rfl⟩
  · intro xs hxs
    have hxs : ArgsOk Tryz.prog [22, 3] xs := hxs
    cases hxs with
    | cons h1 h =>
      cases h with
      | cons h2 h =>
        cases h
        obtain ⟨xs, n, hn, hok, rfl⟩ := steps_arg h1
        obtain ⟨s, rfl⟩ := int_arg h2
        exact lawLoaded_spec xs n hn hok s

theorem loaded_row : Rows.TreeLoadedSaid :=
  OpenClaim.holds_of_wide 3 Tryz.f3 rfl rfl rfl rfl rfl rfl rfl ⟨rfl, rfl, rfl, rfl, rfl⟩ rfl rfl rfl rfl rfl (by kernel_rfl) Tryz.func3 (by kernel_rfl)
    (of_decide_eq_true (by kernel_rfl)) (by unfold Func.isWrapper; rw [if_neg (by decide +kernel)]; exact ⟨rfl, rfl⟩)
    (fun os started H enc _ => loaded_lifted os started H enc)

theorem loaded_holds : Rows.TreeLoadedCardSaid :=
  Claim7.holds_tied_plain_at .later [] [.data, .data, .data, .data, .data, .pinned] true (true, "a173a9eb6dc21041d37dd500cfd57f3d5f89cb1d874a3f58c76021ed9cc7ddc1") true
    loaded_row (fun _ h => by cases h) (by kernel_rfl) (fun _ h => by cases h) treeLoaded_row_tie rfl ⟨rfl, rfl⟩ (by kernel_rfl) rfl
    (fun f fn hf hfn => by
      obtain rfl : f = 3 := Option.some.inj ((show Tryz.prog.funcNamed "herald/heraldlaw4.TreeLoaded" = some 3 by kernel_rfl).symm.trans hf) |>.symm
      obtain rfl : fn = Tryz.f3 := (Option.some.inj (Tryz.func3.symm.trans hfn)).symm
      exact ⟨by kernel_rfl, fun j t ht => by
        rw [Tryz.params3] at ht
        have hm : t ∈ [22, 3] := by simpa using Array.mem_of_getElem? ht
        have hall : ([22, 3].all fun u => !Tryz.prog.wantsStandIn u) = true := by kernel_rfl
        exact (show Tryz.prog.wantsStandIn t = false by simpa using List.all_eq_true.1 hall t hm)⟩)
    (by kernel_rfl)

end Go.Proofs.YtiikjcdjgmlcgaaGreatDoor.HBT
