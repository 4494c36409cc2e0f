/- The law TreeSound, walked. -/
import Derived.Test.YtiikjcdjgmlcgaaDoorTdT9
import Derived.Test.YtiikjcdjgmlcgaaDoorHbP
import Derived.Test.YtiikjcdjgmlcgaaDoorRows
import Derived.Lib.LaidU8
import Derived.Shelf.Vars
import Derived.Lay
import Derived.MakeChecks
import Derived.Test.YtiikjcdjgmlcgaaDoorCards
import Derived.Test.YtiikjcdjgmlcgaaDoorTie
import Derived.SevenTiedAt
namespace Go.Proofs.YtiikjcdjgmlcgaaDoor.HBT
open Go Go.Proofs.YtiikjcdjgmlcgaaDoor.HB Go.RowKit
set_option maxRecDepth 8000

/-- A step of a script. -/
structure Stp where
  k : Int
  s : Int
  st : Int
  ops : List Opp
  no : Nat
  p : ByteArray
  n : Int
def Stp.ok (x : Stp) : Prop := x.no ≤ x.ops.length
abbrev encS (x : Stp) : AV := .agg [.int .i64 x.k, .int .i64 x.s, .int .i64 x.st, .ro 5 (x.ops.map encO) x.no, .str x.p, .int .i64 x.n]
abbrev rdS (xs : List Stp) (n : Nat) : AV := .ro 6 (xs.map encS) n

set_option maxHeartbeats 8000000 in
theorem lawSound_spec (xs : List Stp) (n : Nat) (hn : n ≤ xs.length) (hok : ∀ x ∈ xs, x.ok) : FnSpec C 3 [rdS xs n] [] (fun r L' => r = .bool true ∧ L' = []) := by
  refine FnSpec.start C_ok Tryd.func3 rfl rfl Tryd.ntmps3 ?_
  repeat (first | refine OpsA.cons ?_ | refine OpsA.nil ?_ | refine OrdA.cons rfl ?_ | refine OrdA.nil ?_ | refine OrdW.cons rfl ?_ | refine OrdW.nil ?_ | refine OrdK.cons rfl ?_ | refine OrdK.nil ?_ | refine OrdN.one rfl ?_ | refine OrdN.nil ?_ | refine Run.textA C_ok (aopC_sound C_ok) ?_ | refine And.intro rfl ?_ | refine And.intro (Nat.le_of_ble_eq_true rfl) ?_ | refine And.intro (Int.natCast_nonneg _) ?_ | refine fun (_ : Nat) => ?_ | refine Ord.go ?_ | refine Run.go rfl ?_ | refine Cont.go rfl ?_ | refine OrdP.go ?_)
  refine ACallT.ok (ACall.pure _ new_spec ?_)
  rintro r L' ⟨gt, gm, es, cl, hT, rfl, rfl⟩
  refine ⟨_, Sub.refl _, ?_⟩
  repeat (first | refine OpsA.cons ?_ | refine OpsA.nil ?_ | refine OrdA.cons rfl ?_ | refine OrdA.nil ?_ | refine OrdW.cons rfl ?_ | refine OrdW.nil ?_ | refine OrdK.cons rfl ?_ | refine OrdK.nil ?_ | refine OrdN.one rfl ?_ | refine OrdN.nil ?_ | refine Run.textA C_ok (aopC_sound C_ok) ?_ | refine And.intro rfl ?_ | refine And.intro (Nat.le_of_ble_eq_true rfl) ?_ | refine And.intro (Int.natCast_nonneg _) ?_ | refine fun (_ : Nat) => ?_ | refine Ord.go ?_ | refine Run.go rfl ?_ | refine Cont.go rfl ?_ | refine OrdP.go ?_)
  refine Run.loopW (fun k env L => ∃ (i : Nat) (l : List Fu) (gm : Nat) (es : Array MapEntry) (cl : Nat), k = 121 - i ∧ i ≤ 120 ∧ TM l es cl ∧ TInv l ∧ env = [rdS xs n, .junk, .junk, .ptr 0 gt 0, .int .i64 i, .junk, .junk, .junk, .junk, .junk, .junk, .junk, .junk, .junk, .junk, .junk, .junk, .junk, .junk, .junk, .junk, .junk, .junk, .junk, .junk, .junk, .junk, .junk, .junk, .junk, .junk, .junk, .junk, .junk, .junk, .junk, .junk, .junk, .junk, .junk, .junk, .junk, .junk, .junk, .junk, .junk, .junk, .junk, .junk, .junk, .junk, .junk, .junk, .junk, .junk, .junk, .junk, .junk, .junk, .junk] ∧ L = TreeL gt gm es cl) 121
    [rdS xs n, .junk, .junk, .ptr 0 gt 0, .int .i64 (0 : Nat), .junk, .junk, .junk, .junk, .junk, .junk, .junk, .junk, .junk, .junk, .junk, .junk, .junk, .junk, .junk, .junk, .junk, .junk, .junk, .junk, .junk, .junk, .junk, .junk, .junk, .junk, .junk, .junk, .junk, .junk, .junk, .junk, .junk, .junk, .junk, .junk, .junk, .junk, .junk, .junk, .junk, .junk, .junk, .junk, .junk, .junk, .junk, .junk, .junk, .junk, .junk, .junk, .junk, .junk, .junk] (TreeL gt gm es cl) (Weak.sel ?_ [0, 1] (by decide) ?_) ⟨0, [rootF], gm, es, cl, by omega, by omega, hT, TInv.new, rfl, rfl⟩ ?_
  · repeat (first | exact trivial | refine And.intro (Sub.junk _) ?_ | refine And.intro (Sub.refl _) ?_ | refine And.intro (Sub.sl _ _ _ _ _) ?_ | refine And.intro (Sub.ptr _ _ _ _) ?_)
  · repeat (first | exact trivial | refine And.intro rfl ?_ | refine And.intro (SubO.refl _) ?_ | refine And.intro trivial ?_ | refine And.intro (SubO.cells (by repeat (first | exact trivial | refine And.intro (Sub.refl _) ?_ | refine And.intro (Sub.sl _ _ _ _ _) ?_ | refine And.intro (Sub.ptr _ _ _ _) ?_))) ?_)
  rintro k env L ⟨i, l, gm, es, cl, rfl, hi, hT, hI, rfl, rfl⟩
  repeat (first | refine OpsA.cons ?_ | refine OpsA.nil ?_ | refine OrdA.cons rfl ?_ | refine OrdA.nil ?_ | refine OrdW.cons rfl ?_ | refine OrdW.nil ?_ | refine OrdK.cons rfl ?_ | refine OrdK.nil ?_ | refine OrdN.one rfl ?_ | refine OrdN.nil ?_ | refine Run.textA C_ok (aopC_sound C_ok) ?_ | refine And.intro rfl ?_ | refine And.intro (Nat.le_of_ble_eq_true rfl) ?_ | refine And.intro (Int.natCast_nonneg _) ?_ | refine fun (_ : Nat) => ?_ | refine Ord.go ?_ | refine Run.go rfl ?_ | refine Cont.go rfl ?_ | refine OrdP.go ?_)
  refine ⟨fun h => ?_, fun h => ?_⟩
  rotate_left
  · repeat (first | refine OpsA.cons ?_ | refine OpsA.nil ?_ | refine OrdA.cons rfl ?_ | refine OrdA.nil ?_ | refine OrdW.cons rfl ?_ | refine OrdW.nil ?_ | refine OrdK.cons rfl ?_ | refine OrdK.nil ?_ | refine OrdN.one rfl ?_ | refine OrdN.nil ?_ | refine Run.textA C_ok (aopC_sound C_ok) ?_ | refine And.intro rfl ?_ | refine And.intro (Nat.le_of_ble_eq_true rfl) ?_ | refine And.intro (Int.natCast_nonneg _) ?_ | refine fun (_ : Nat) => ?_ | refine Ord.go ?_ | refine Run.go rfl ?_ | refine Cont.go rfl ?_ | refine OrdP.go ?_)
    refine ACallT.ok (ACall.ret known_spec ?_)
    repeat (first | refine OpsA.cons ?_ | refine OpsA.nil ?_ | refine OrdA.cons rfl ?_ | refine OrdA.nil ?_ | refine OrdW.cons rfl ?_ | refine OrdW.nil ?_ | refine OrdK.cons rfl ?_ | refine OrdK.nil ?_ | refine OrdN.one rfl ?_ | refine OrdN.nil ?_ | refine Run.textA C_ok (aopC_sound C_ok) ?_ | refine And.intro rfl ?_ | refine And.intro (Nat.le_of_ble_eq_true rfl) ?_ | refine And.intro (Int.natCast_nonneg _) ?_ | refine fun (_ : Nat) => ?_ | refine Ord.go ?_ | refine Run.go rfl ?_ | refine Cont.go rfl ?_ | refine OrdP.go ?_)
    exact ⟨_, [], FinOk.drop _ _, rfl, rfl⟩
  have h : (i : Int) < (n : Int) := h
  repeat (first | refine OpsA.cons ?_ | refine OpsA.nil ?_ | refine OrdA.cons rfl ?_ | refine OrdA.nil ?_ | refine OrdW.cons rfl ?_ | refine OrdW.nil ?_ | refine OrdK.cons rfl ?_ | refine OrdK.nil ?_ | refine OrdN.one rfl ?_ | refine OrdN.nil ?_ | refine Run.textA C_ok (aopC_sound C_ok) ?_ | refine And.intro rfl ?_ | refine And.intro (Nat.le_of_ble_eq_true rfl) ?_ | refine And.intro (Int.natCast_nonneg _) ?_ | refine fun (_ : Nat) => ?_ | refine Ord.go ?_ | refine Run.go rfl ?_ | refine Cont.go rfl ?_ | refine OrdP.go ?_)
  refine ⟨fun h2 => ?_, fun h2 => ?_⟩
  rotate_left
  · repeat (first | refine OpsA.cons ?_ | refine OpsA.nil ?_ | refine OrdA.cons rfl ?_ | refine OrdA.nil ?_ | refine OrdW.cons rfl ?_ | refine OrdW.nil ?_ | refine OrdK.cons rfl ?_ | refine OrdK.nil ?_ | refine OrdN.one rfl ?_ | refine OrdN.nil ?_ | refine Run.textA C_ok (aopC_sound C_ok) ?_ | refine And.intro rfl ?_ | refine And.intro (Nat.le_of_ble_eq_true rfl) ?_ | refine And.intro (Int.natCast_nonneg _) ?_ | refine fun (_ : Nat) => ?_ | refine Ord.go ?_ | refine Run.go rfl ?_ | refine Cont.go rfl ?_ | refine OrdP.go ?_)
    refine ACallT.ok (ACall.ret known_spec ?_)
    repeat (first | refine OpsA.cons ?_ | refine OpsA.nil ?_ | refine OrdA.cons rfl ?_ | refine OrdA.nil ?_ | refine OrdW.cons rfl ?_ | refine OrdW.nil ?_ | refine OrdK.cons rfl ?_ | refine OrdK.nil ?_ | refine OrdN.one rfl ?_ | refine OrdN.nil ?_ | refine Run.textA C_ok (aopC_sound C_ok) ?_ | refine And.intro rfl ?_ | refine And.intro (Nat.le_of_ble_eq_true rfl) ?_ | refine And.intro (Int.natCast_nonneg _) ?_ | refine fun (_ : Nat) => ?_ | refine Ord.go ?_ | refine Run.go rfl ?_ | refine Cont.go rfl ?_ | refine OrdP.go ?_)
    exact ⟨_, [], FinOk.drop _ _, rfl, rfl⟩
  have h2 : (i : Int) < 120 := h2
  obtain ⟨x, ex⟩ : ∃ x, xs[i]? = some x := ⟨_, List.getElem?_eq_getElem (by omega)⟩
  have hx := hok x (List.mem_of_getElem? ex)
  repeat (first | refine OpsA.cons ?_ | refine OpsA.nil ?_ | refine OrdA.cons rfl ?_ | refine OrdA.nil ?_ | refine OrdW.cons rfl ?_ | refine OrdW.nil ?_ | refine OrdK.cons rfl ?_ | refine OrdK.nil ?_ | refine OrdN.one rfl ?_ | refine OrdN.nil ?_ | refine Run.textA C_ok (aopC_sound C_ok) ?_ | refine And.intro rfl ?_ | refine And.intro (Nat.le_of_ble_eq_true rfl) ?_ | refine And.intro (Int.natCast_nonneg _) ?_ | refine fun (_ : Nat) => ?_ | refine Ord.go ?_ | refine Run.go rfl ?_ | refine Cont.go rfl ?_ | refine OrdP.go ?_)
  refine ⟨h, encS x, map_at encS ex, ?_⟩
  repeat (first | refine OpsA.cons ?_ | refine OpsA.nil ?_ | refine OrdA.cons rfl ?_ | refine OrdA.nil ?_ | refine OrdW.cons rfl ?_ | refine OrdW.nil ?_ | refine OrdK.cons rfl ?_ | refine OrdK.nil ?_ | refine OrdN.one rfl ?_ | refine OrdN.nil ?_ | refine Run.textA C_ok (aopC_sound C_ok) ?_ | refine And.intro rfl ?_ | refine And.intro (Nat.le_of_ble_eq_true rfl) ?_ | refine And.intro (Int.natCast_nonneg _) ?_ | refine fun (_ : Nat) => ?_ | refine Ord.go ?_ | refine Run.go rfl ?_ | refine Cont.go rfl ?_ | refine OrdP.go ?_)
  refine ⟨fun hk => ?_, fun hk => ?_⟩
  · have hk : x.k = 1 := hk
    repeat (first | refine OpsA.cons ?_ | refine OpsA.nil ?_ | refine OrdA.cons rfl ?_ | refine OrdA.nil ?_ | refine OrdW.cons rfl ?_ | refine OrdW.nil ?_ | refine OrdK.cons rfl ?_ | refine OrdK.nil ?_ | refine OrdN.one rfl ?_ | refine OrdN.nil ?_ | refine Run.textA C_ok (aopC_sound C_ok) ?_ | refine And.intro rfl ?_ | refine And.intro (Nat.le_of_ble_eq_true rfl) ?_ | refine And.intro (Int.natCast_nonneg _) ?_ | refine fun (_ : Nat) => ?_ | refine Ord.go ?_ | refine Run.go rfl ?_ | refine Cont.go rfl ?_ | refine OrdP.go ?_)
    refine Run.drawnK C_ok (aopC_sound C_ok) [] [0, 1, 2, 3, 4, 5, 6, 7, 8, 9, 10, 11, 12, 13, 14, 15, 16] (by kernel_rfl) ?_
    repeat (first | refine OpsA.cons ?_ | refine OpsA.nil ?_ | refine OrdA.cons rfl ?_ | refine OrdA.nil ?_ | refine OrdW.cons rfl ?_ | refine OrdW.nil ?_ | refine OrdK.cons rfl ?_ | refine OrdK.nil ?_ | refine OrdN.one rfl ?_ | refine OrdN.nil ?_ | refine Run.textA C_ok (aopC_sound C_ok) ?_ | refine And.intro rfl ?_ | refine And.intro (Nat.le_of_ble_eq_true rfl) ?_ | refine And.intro (Int.natCast_nonneg _) ?_ | refine fun (_ : Nat) => ?_ | refine Ord.go ?_ | refine Run.go rfl ?_ | refine Cont.go rfl ?_ | refine OrdP.go ?_)
    refine ⟨h, encS x, map_at encS ex, ?_⟩
    repeat (first | refine OpsA.cons ?_ | refine OpsA.nil ?_ | refine OrdA.cons rfl ?_ | refine OrdA.nil ?_ | refine OrdW.cons rfl ?_ | refine OrdW.nil ?_ | refine OrdK.cons rfl ?_ | refine OrdK.nil ?_ | refine OrdN.one rfl ?_ | refine OrdN.nil ?_ | refine Run.textA C_ok (aopC_sound C_ok) ?_ | refine And.intro rfl ?_ | refine And.intro (Nat.le_of_ble_eq_true rfl) ?_ | refine And.intro (Int.natCast_nonneg _) ?_ | refine fun (_ : Nat) => ?_ | refine Ord.go ?_ | refine Run.go rfl ?_ | refine Cont.go rfl ?_ | refine OrdP.go ?_)
    refine ⟨h, encS x, map_at encS ex, ?_⟩
    repeat (first | refine OpsA.cons ?_ | refine OpsA.nil ?_ | refine OrdA.cons rfl ?_ | refine OrdA.nil ?_ | refine OrdW.cons rfl ?_ | refine OrdW.nil ?_ | refine OrdK.cons rfl ?_ | refine OrdK.nil ?_ | refine OrdN.one rfl ?_ | refine OrdN.nil ?_ | refine Run.textA C_ok (aopC_sound C_ok) ?_ | refine And.intro rfl ?_ | refine And.intro (Nat.le_of_ble_eq_true rfl) ?_ | refine And.intro (Int.natCast_nonneg _) ?_ | refine fun (_ : Nat) => ?_ | refine Ord.go ?_ | refine Run.go rfl ?_ | refine Cont.go rfl ?_ | refine OrdP.go ?_)
    refine ⟨h, encS x, map_at encS ex, ?_⟩
    repeat (first | refine OpsA.cons ?_ | refine OpsA.nil ?_ | refine OrdA.cons rfl ?_ | refine OrdA.nil ?_ | refine OrdW.cons rfl ?_ | refine OrdW.nil ?_ | refine OrdK.cons rfl ?_ | refine OrdK.nil ?_ | refine OrdN.one rfl ?_ | refine OrdN.nil ?_ | refine Run.textA C_ok (aopC_sound C_ok) ?_ | refine And.intro rfl ?_ | refine And.intro (Nat.le_of_ble_eq_true rfl) ?_ | refine And.intro (Int.natCast_nonneg _) ?_ | refine fun (_ : Nat) => ?_ | refine Ord.go ?_ | refine Run.go rfl ?_ | refine Cont.go rfl ?_ | refine OrdP.go ?_)
    refine ACallT.ok (ACall.sel [0, 1] (by decide) [.ptr 0 gt 0, .int .i64 x.s, .int .i64 x.st, .ro 5 (x.ops.map encO) x.no] _ ⟨Sub.refl _, Sub.refl _, Sub.refl _, Sub.refl _, trivial⟩ (play_spec gt gm hT hI x.s x.st x.ops x.no hx) ?_)
    intro r L' hq
    have hI2 : TInv (playR l x.s x.st (x.ops.take x.no)).1 := playR_inv hI
    obtain ⟨gm2, es2, cl2, hT2, rfl, rfl⟩ := hq
    generalize (playR l x.s x.st (x.ops.take x.no)).1 = l2 at hT2 hI2
    refine ⟨_, Sub.refl _, ?_⟩
    repeat (first | refine OpsA.cons ?_ | refine OpsA.nil ?_ | refine OrdA.cons rfl ?_ | refine OrdA.nil ?_ | refine OrdW.cons rfl ?_ | refine OrdW.nil ?_ | refine OrdK.cons rfl ?_ | refine OrdK.nil ?_ | refine OrdN.one rfl ?_ | refine OrdN.nil ?_ | refine Run.textA C_ok (aopC_sound C_ok) ?_ | refine And.intro rfl ?_ | refine And.intro (Nat.le_of_ble_eq_true rfl) ?_ | refine And.intro (Int.natCast_nonneg _) ?_ | refine fun (_ : Nat) => ?_ | refine Ord.go ?_ | refine Run.go rfl ?_ | refine Cont.go rfl ?_ | refine OrdP.go ?_)
    refine ACallT.ok (ACall.sel [0, 1] (by decide) [.ptr 0 gt 0] _ (.one (Sub.refl _)) (nodes_spec gt gm2 hT2 hI2) ?_)
    rintro r L' ⟨gn, Cn, rfl, rfl⟩
    refine ⟨.sl 2 gn Cn l2.length, Sub.refl _, ?_⟩
    repeat (first | refine OpsA.cons ?_ | refine OpsA.nil ?_ | refine OrdA.cons rfl ?_ | refine OrdA.nil ?_ | refine OrdW.cons rfl ?_ | refine OrdW.nil ?_ | refine OrdK.cons rfl ?_ | refine OrdK.nil ?_ | refine OrdN.one rfl ?_ | refine OrdN.nil ?_ | refine Run.textA C_ok (aopC_sound C_ok) ?_ | refine And.intro rfl ?_ | refine And.intro (Nat.le_of_ble_eq_true rfl) ?_ | refine And.intro (Int.natCast_nonneg _) ?_ | refine fun (_ : Nat) => ?_ | refine Ord.go ?_ | refine Run.go rfl ?_ | refine Cont.go rfl ?_ | refine OrdP.go ?_)
    refine ACallT.ok (ACall.ret_lend (.one (.row 2 gn Cn _ tX 7 _ rfl (by simp))) (sound_spec hI2) rfl ?_)
    repeat (first | refine OpsA.cons ?_ | refine OpsA.nil ?_ | refine OrdA.cons rfl ?_ | refine OrdA.nil ?_ | refine OrdW.cons rfl ?_ | refine OrdW.nil ?_ | refine OrdK.cons rfl ?_ | refine OrdK.nil ?_ | refine OrdN.one rfl ?_ | refine OrdN.nil ?_ | refine Run.textA C_ok (aopC_sound C_ok) ?_ | refine And.intro rfl ?_ | refine And.intro (Nat.le_of_ble_eq_true rfl) ?_ | refine And.intro (Int.natCast_nonneg _) ?_ | refine fun (_ : Nat) => ?_ | refine Ord.go ?_ | refine Run.go rfl ?_ | refine Cont.go rfl ?_ | refine OrdP.go ?_)
    refine fun r hr => ?_
    obtain rfl := add1 hr (by omega)
    repeat (first | refine OpsA.cons ?_ | refine OpsA.nil ?_ | refine OrdA.cons rfl ?_ | refine OrdA.nil ?_ | refine OrdW.cons rfl ?_ | refine OrdW.nil ?_ | refine OrdK.cons rfl ?_ | refine OrdK.nil ?_ | refine OrdN.one rfl ?_ | refine OrdN.nil ?_ | refine Run.textA C_ok (aopC_sound C_ok) ?_ | refine And.intro rfl ?_ | refine And.intro (Nat.le_of_ble_eq_true rfl) ?_ | refine And.intro (Int.natCast_nonneg _) ?_ | refine fun (_ : Nat) => ?_ | refine Ord.go ?_ | refine Run.go rfl ?_ | refine Cont.go rfl ?_ | refine OrdP.go ?_)
    refine Cont.lpW ?_
    refine ⟨121 - (i + 1), _, _, by omega, Weak.sel ?_ [0, 1] (by decide) ?_, ⟨i + 1, l2, gm2, es2, cl2, rfl, by omega, hT2, hI2, rfl, rfl⟩⟩
    · repeat (first | exact trivial | refine And.intro (Sub.junk _) ?_ | refine And.intro (Sub.refl _) ?_ | refine And.intro (Sub.sl _ _ _ _ _) ?_ | refine And.intro (Sub.ptr _ _ _ _) ?_)
    · repeat (first | exact trivial | refine And.intro rfl ?_ | refine And.intro (SubO.refl _) ?_ | refine And.intro trivial ?_ | refine And.intro (SubO.cells (by repeat (first | exact trivial | refine And.intro (Sub.refl _) ?_ | refine And.intro (Sub.sl _ _ _ _ _) ?_ | refine And.intro (Sub.ptr _ _ _ _) ?_))) ?_)
  have hk1 : ¬ x.k = 1 := hk
  repeat (first | refine OpsA.cons ?_ | refine OpsA.nil ?_ | refine OrdA.cons rfl ?_ | refine OrdA.nil ?_ | refine OrdW.cons rfl ?_ | refine OrdW.nil ?_ | refine OrdK.cons rfl ?_ | refine OrdK.nil ?_ | refine OrdN.one rfl ?_ | refine OrdN.nil ?_ | refine Run.textA C_ok (aopC_sound C_ok) ?_ | refine And.intro rfl ?_ | refine And.intro (Nat.le_of_ble_eq_true rfl) ?_ | refine And.intro (Int.natCast_nonneg _) ?_ | refine fun (_ : Nat) => ?_ | refine Ord.go ?_ | refine Run.go rfl ?_ | refine Cont.go rfl ?_ | refine OrdP.go ?_)
  refine ⟨fun hk => ?_, fun hk => ?_⟩
  · have hk : x.k = 2 := hk
    repeat (first | refine OpsA.cons ?_ | refine OpsA.nil ?_ | refine OrdA.cons rfl ?_ | refine OrdA.nil ?_ | refine OrdW.cons rfl ?_ | refine OrdW.nil ?_ | refine OrdK.cons rfl ?_ | refine OrdK.nil ?_ | refine OrdN.one rfl ?_ | refine OrdN.nil ?_ | refine Run.textA C_ok (aopC_sound C_ok) ?_ | refine And.intro rfl ?_ | refine And.intro (Nat.le_of_ble_eq_true rfl) ?_ | refine And.intro (Int.natCast_nonneg _) ?_ | refine fun (_ : Nat) => ?_ | refine Ord.go ?_ | refine Run.go rfl ?_ | refine Cont.go rfl ?_ | refine OrdP.go ?_)
    refine ⟨h, encS x, map_at encS ex, ?_⟩
    repeat (first | refine OpsA.cons ?_ | refine OpsA.nil ?_ | refine OrdA.cons rfl ?_ | refine OrdA.nil ?_ | refine OrdW.cons rfl ?_ | refine OrdW.nil ?_ | refine OrdK.cons rfl ?_ | refine OrdK.nil ?_ | refine OrdN.one rfl ?_ | refine OrdN.nil ?_ | refine Run.textA C_ok (aopC_sound C_ok) ?_ | refine And.intro rfl ?_ | refine And.intro (Nat.le_of_ble_eq_true rfl) ?_ | refine And.intro (Int.natCast_nonneg _) ?_ | refine fun (_ : Nat) => ?_ | refine Ord.go ?_ | refine Run.go rfl ?_ | refine Cont.go rfl ?_ | refine OrdP.go ?_)
    refine ACallT.ok (ACall.sel [0, 1] (by decide) [.ptr 0 gt 0, .int .i64 x.s] _ (.two (Sub.refl _) (Sub.refl _)) (end_spec gt gm hT hI x.s) ?_)
    intro r L' hq
    have hI2 : TInv (endF l x.s).1 := endF_inv hI
    obtain ⟨es2, cl2, hT2, rfl, rfl⟩ := hq
    generalize (endF l x.s).1 = l2 at hT2 hI2
    refine ⟨_, Sub.refl _, ?_⟩
    repeat (first | refine OpsA.cons ?_ | refine OpsA.nil ?_ | refine OrdA.cons rfl ?_ | refine OrdA.nil ?_ | refine OrdW.cons rfl ?_ | refine OrdW.nil ?_ | refine OrdK.cons rfl ?_ | refine OrdK.nil ?_ | refine OrdN.one rfl ?_ | refine OrdN.nil ?_ | refine Run.textA C_ok (aopC_sound C_ok) ?_ | refine And.intro rfl ?_ | refine And.intro (Nat.le_of_ble_eq_true rfl) ?_ | refine And.intro (Int.natCast_nonneg _) ?_ | refine fun (_ : Nat) => ?_ | refine Ord.go ?_ | refine Run.go rfl ?_ | refine Cont.go rfl ?_ | refine OrdP.go ?_)
    refine ACallT.ok (ACall.sel [0, 1] (by decide) [.ptr 0 gt 0] _ (.one (Sub.refl _)) (nodes_spec gt gm hT2 hI2) ?_)
    rintro r L' ⟨gn, Cn, rfl, rfl⟩
    refine ⟨.sl 2 gn Cn l2.length, Sub.refl _, ?_⟩
    repeat (first | refine OpsA.cons ?_ | refine OpsA.nil ?_ | refine OrdA.cons rfl ?_ | refine OrdA.nil ?_ | refine OrdW.cons rfl ?_ | refine OrdW.nil ?_ | refine OrdK.cons rfl ?_ | refine OrdK.nil ?_ | refine OrdN.one rfl ?_ | refine OrdN.nil ?_ | refine Run.textA C_ok (aopC_sound C_ok) ?_ | refine And.intro rfl ?_ | refine And.intro (Nat.le_of_ble_eq_true rfl) ?_ | refine And.intro (Int.natCast_nonneg _) ?_ | refine fun (_ : Nat) => ?_ | refine Ord.go ?_ | refine Run.go rfl ?_ | refine Cont.go rfl ?_ | refine OrdP.go ?_)
    refine ACallT.ok (ACall.ret_lend (.one (.row 2 gn Cn _ tX 7 _ rfl (by simp))) (sound_spec hI2) rfl ?_)
    repeat (first | refine OpsA.cons ?_ | refine OpsA.nil ?_ | refine OrdA.cons rfl ?_ | refine OrdA.nil ?_ | refine OrdW.cons rfl ?_ | refine OrdW.nil ?_ | refine OrdK.cons rfl ?_ | refine OrdK.nil ?_ | refine OrdN.one rfl ?_ | refine OrdN.nil ?_ | refine Run.textA C_ok (aopC_sound C_ok) ?_ | refine And.intro rfl ?_ | refine And.intro (Nat.le_of_ble_eq_true rfl) ?_ | refine And.intro (Int.natCast_nonneg _) ?_ | refine fun (_ : Nat) => ?_ | refine Ord.go ?_ | refine Run.go rfl ?_ | refine Cont.go rfl ?_ | refine OrdP.go ?_)
    refine fun r hr => ?_
    obtain rfl := add1 hr (by omega)
    repeat (first | refine OpsA.cons ?_ | refine OpsA.nil ?_ | refine OrdA.cons rfl ?_ | refine OrdA.nil ?_ | refine OrdW.cons rfl ?_ | refine OrdW.nil ?_ | refine OrdK.cons rfl ?_ | refine OrdK.nil ?_ | refine OrdN.one rfl ?_ | refine OrdN.nil ?_ | refine Run.textA C_ok (aopC_sound C_ok) ?_ | refine And.intro rfl ?_ | refine And.intro (Nat.le_of_ble_eq_true rfl) ?_ | refine And.intro (Int.natCast_nonneg _) ?_ | refine fun (_ : Nat) => ?_ | refine Ord.go ?_ | refine Run.go rfl ?_ | refine Cont.go rfl ?_ | refine OrdP.go ?_)
    refine Cont.lpW ?_
    refine ⟨121 - (i + 1), _, _, by omega, Weak.sel ?_ [0, 1] (by decide) ?_, ⟨i + 1, l2, gm, es2, cl2, rfl, by omega, hT2, hI2, rfl, rfl⟩⟩
    · repeat (first | exact trivial | refine And.intro (Sub.junk _) ?_ | refine And.intro (Sub.refl _) ?_ | refine And.intro (Sub.sl _ _ _ _ _) ?_ | refine And.intro (Sub.ptr _ _ _ _) ?_)
    · repeat (first | exact trivial | refine And.intro rfl ?_ | refine And.intro (SubO.refl _) ?_ | refine And.intro trivial ?_ | refine And.intro (SubO.cells (by repeat (first | exact trivial | refine And.intro (Sub.refl _) ?_ | refine And.intro (Sub.sl _ _ _ _ _) ?_ | refine And.intro (Sub.ptr _ _ _ _) ?_))) ?_)
  have hk2 : ¬ x.k = 2 := hk
  repeat (first | refine OpsA.cons ?_ | refine OpsA.nil ?_ | refine OrdA.cons rfl ?_ | refine OrdA.nil ?_ | refine OrdW.cons rfl ?_ | refine OrdW.nil ?_ | refine OrdK.cons rfl ?_ | refine OrdK.nil ?_ | refine OrdN.one rfl ?_ | refine OrdN.nil ?_ | refine Run.textA C_ok (aopC_sound C_ok) ?_ | refine And.intro rfl ?_ | refine And.intro (Nat.le_of_ble_eq_true rfl) ?_ | refine And.intro (Int.natCast_nonneg _) ?_ | refine fun (_ : Nat) => ?_ | refine Ord.go ?_ | refine Run.go rfl ?_ | refine Cont.go rfl ?_ | refine OrdP.go ?_)
  refine ACallT.ok (ACall.sel [0, 1] (by decide) [.ptr 0 gt 0] _ (.one (Sub.refl _)) (nodes_spec gt gm hT hI) ?_)
  rintro r L' ⟨gn, Cn, rfl, rfl⟩
  refine ⟨.sl 2 gn Cn l.length, Sub.refl _, ?_⟩
  repeat (first | refine OpsA.cons ?_ | refine OpsA.nil ?_ | refine OrdA.cons rfl ?_ | refine OrdA.nil ?_ | refine OrdW.cons rfl ?_ | refine OrdW.nil ?_ | refine OrdK.cons rfl ?_ | refine OrdK.nil ?_ | refine OrdN.one rfl ?_ | refine OrdN.nil ?_ | refine Run.textA C_ok (aopC_sound C_ok) ?_ | refine And.intro rfl ?_ | refine And.intro (Nat.le_of_ble_eq_true rfl) ?_ | refine And.intro (Int.natCast_nonneg _) ?_ | refine fun (_ : Nat) => ?_ | refine Ord.go ?_ | refine Run.go rfl ?_ | refine Cont.go rfl ?_ | refine OrdP.go ?_)
  refine ACallT.ok (ACall.ret_lend (.one (.row 2 gn Cn _ tX 7 _ rfl (by simp))) (sound_spec hI) rfl ?_)
  repeat (first | refine OpsA.cons ?_ | refine OpsA.nil ?_ | refine OrdA.cons rfl ?_ | refine OrdA.nil ?_ | refine OrdW.cons rfl ?_ | refine OrdW.nil ?_ | refine OrdK.cons rfl ?_ | refine OrdK.nil ?_ | refine OrdN.one rfl ?_ | refine OrdN.nil ?_ | refine Run.textA C_ok (aopC_sound C_ok) ?_ | refine And.intro rfl ?_ | refine And.intro (Nat.le_of_ble_eq_true rfl) ?_ | refine And.intro (Int.natCast_nonneg _) ?_ | refine fun (_ : Nat) => ?_ | refine Ord.go ?_ | refine Run.go rfl ?_ | refine Cont.go rfl ?_ | refine OrdP.go ?_)
  refine fun r hr => ?_
  obtain rfl := add1 hr (by omega)
  repeat (first | refine OpsA.cons ?_ | refine OpsA.nil ?_ | refine OrdA.cons rfl ?_ | refine OrdA.nil ?_ | refine OrdW.cons rfl ?_ | refine OrdW.nil ?_ | refine OrdK.cons rfl ?_ | refine OrdK.nil ?_ | refine OrdN.one rfl ?_ | refine OrdN.nil ?_ | refine Run.textA C_ok (aopC_sound C_ok) ?_ | refine And.intro rfl ?_ | refine And.intro (Nat.le_of_ble_eq_true rfl) ?_ | refine And.intro (Int.natCast_nonneg _) ?_ | refine fun (_ : Nat) => ?_ | refine Ord.go ?_ | refine Run.go rfl ?_ | refine Cont.go rfl ?_ | refine OrdP.go ?_)
  refine Cont.lpW ?_
  refine ⟨121 - (i + 1), _, _, by omega, Weak.sel ?_ [0, 1] (by decide) ?_, ⟨i + 1, l, gm, es, cl, rfl, by omega, hT, hI, rfl, rfl⟩⟩
  · repeat (first | exact trivial | refine And.intro (Sub.junk _) ?_ | refine And.intro (Sub.refl _) ?_ | refine And.intro (Sub.sl _ _ _ _ _) ?_ | refine And.intro (Sub.ptr _ _ _ _) ?_)
  · repeat (first | exact trivial | refine And.intro rfl ?_ | refine And.intro (SubO.refl _) ?_ | refine And.intro trivial ?_ | refine And.intro (SubO.cells (by repeat (first | exact trivial | refine And.intro (Sub.refl _) ?_ | refine And.intro (Sub.sl _ _ _ _ _) ?_ | refine And.intro (Sub.ptr _ _ _ _) ?_))) ?_)
end Go.Proofs.YtiikjcdjgmlcgaaDoor.HBT
/- What the laws of this seat share: how a script is read, what the listed variables give, the witness. -/
namespace Go.Proofs.YtiikjcdjgmlcgaaDoor.HBT
open Go Go.Proofs.YtiikjcdjgmlcgaaDoor.HB Go.Proofs.YtiikjcdjgmlcgaaDoor Go.ChangeShapes Go.WideShapes Go.ChangeAt Go.RowKit Go.Lib
set_option maxRecDepth 8000

theorem int_arg {x : AV} (h : ArgOk Tryd.prog 3 x) : ∃ n, x = .int .i64 n := by
  obtain ⟨ys, h, rfl⟩ := h
  obtain ⟨n, _, rfl⟩ := h.int_inv Tryd.underlying3
  have ha : aggT Tryd.prog 3 = false := by kernel_rfl
  exact ⟨n, by rw [ha]; rfl⟩
theorem str_arg {x : AV} (h : ArgOk Tryd.prog 9 x) : ∃ s : ByteArray, s.size ≤ maxLen ∧ x = .str s := by
  obtain ⟨ys, h, rfl⟩ := h
  obtain ⟨s, hs, rfl⟩ := h.str_inv Tryd.underlying9
  have ha : aggT Tryd.prog 9 = false := by kernel_rfl
  exact ⟨s, hs, by rw [ha]; rfl⟩
theorem op_arg {ys : List AV} (h : CellsOk Tryd.prog 50 ys) : ∃ s : Opp, wrapC true ys = encO s := by
  obtain ⟨yss, hf, rfl⟩ := h.struct_inv Tryd.underlying50
  obtain ⟨y0, yss, rfl, h0, hf⟩ := hf.cons_inv
  obtain ⟨y1, yss, rfl, h1, hf⟩ := hf.cons_inv
  obtain ⟨y2, yss, rfl, h2, hf⟩ := hf.cons_inv
  obtain ⟨y3, yss, rfl, h3, hf⟩ := hf.cons_inv
  obtain ⟨y4, yss, rfl, h4, hf⟩ := hf.cons_inv
  obtain rfl := hf.nil_inv
  obtain ⟨k, _, rfl⟩ := h0.int_inv Tryd.underlying3
  obtain ⟨p, _, rfl⟩ := h1.str_inv Tryd.underlying9
  obtain ⟨q, _, rfl⟩ := h2.str_inv Tryd.underlying9
  obtain ⟨n, _, rfl⟩ := h3.int_inv Tryd.underlying3
  obtain ⟨m, _, rfl⟩ := h4.int_inv Tryd.underlying3
  exact ⟨⟨k, p, q, n, m⟩, rfl⟩
theorem step_arg {ys : List AV} (h : CellsOk Tryd.prog 27 ys) : ∃ s : { s : Stp // s.ok }, wrapC true ys = encS s.1 := by
  obtain ⟨yss, hf, rfl⟩ := h.struct_inv Tryd.underlying27
  obtain ⟨y0, yss, rfl, h0, hf⟩ := hf.cons_inv
  obtain ⟨y1, yss, rfl, h1, hf⟩ := hf.cons_inv
  obtain ⟨y2, yss, rfl, h2, hf⟩ := hf.cons_inv
  obtain ⟨y3, yss, rfl, h3, hf⟩ := hf.cons_inv
  obtain ⟨y4, yss, rfl, h4, hf⟩ := hf.cons_inv
  obtain ⟨y5, yss, rfl, h5, hf⟩ := hf.cons_inv
  obtain rfl := hf.nil_inv
  obtain ⟨k, _, rfl⟩ := h0.int_inv Tryd.underlying3
  obtain ⟨s, _, rfl⟩ := h1.int_inv Tryd.underlying3
  obtain ⟨st, _, rfl⟩ := h2.int_inv Tryd.underlying3
  obtain ⟨xss, n, hn, _, hx, rfl⟩ := h3.slice_inv Tryd.underlying25
  obtain ⟨p, _, rfl⟩ := h4.str_inv Tryd.underlying9
  obtain ⟨m, _, rfl⟩ := h5.int_inv Tryd.underlying3
  have ha : aggT Tryd.prog 50 = true := by kernel_rfl
  have hc : Tryd.prog.cellsOf 50 = 5 := by kernel_rfl
  obtain ⟨l, hl, hm⟩ := map_told (f := wrapC true) (g := fun s : Opp => encO s) (fun c hc => op_arg (hx c hc))
  refine ⟨⟨⟨k, s, st, l, n, p, m⟩, ?_⟩, ?_⟩
  · show n ≤ l.length
    omega
  · rw [ha, hc, hm]
    rfl
theorem steps_arg {x : AV} (h : ArgOk Tryd.prog 22 x) : ∃ xs n, n ≤ xs.length ∧ (∀ x ∈ xs, Stp.ok x) ∧ x = rdS xs n := by
  obtain ⟨ys, h, rfl⟩ := h
  obtain ⟨xss, n, hn, _, hx, rfl⟩ := h.slice_inv Tryd.underlying22
  have ha : aggT Tryd.prog 27 = true := by kernel_rfl
  have hc : Tryd.prog.cellsOf 27 = 6 := by kernel_rfl
  have ha2 : aggT Tryd.prog 22 = false := by kernel_rfl
  obtain ⟨l, hl, hm⟩ := map_told (f := wrapC true) (g := fun s : { s : Stp // s.ok } => encS s.1) (fun c hc => step_arg (hx c hc))
  refine ⟨l.map (·.1), n, by simp; omega, ?_, ?_⟩
  · intro x hx
    obtain ⟨y, _, rfl⟩ := List.mem_map.1 hx
    exact y.2
  · have hm2 : l.map (fun s : { s : Stp // s.ok } => encS s.1) = (l.map (·.1)).map encS := by rw [List.map_map]; rfl
    rw [ha, hc, ha2, hm, hm2]
    rfl

theorem own : ownKnob Tryd.prog.godebug = none := by kernel_rfl
theorem laidOut : laidOutB Tryd.prog = true := by kernel_rfl
def laid : List (String × DataW Unit) := [("math/bits.deBruijn32tab", Rows.laid_math_bits_deBruijn32tab), ("math/bits.deBruijn64tab", Rows.laid_math_bits_deBruijn64tab), ("internal/strconv.uint64pow10", Rows.laid_internal_strconv_uint64pow10), ("unicode/utf8.acceptRanges", Rows.laid_unicode_utf8_acceptRanges), ("herald/place.named", Rows.laid_herald_place_named), ("unicode/utf8.first", Rows.laid_unicode_utf8_first)]

theorem gNamed : Tryd.prog.globalNamed "herald/place.named" = some 0 := by kernel_rfl
theorem tNamed : (Tryd.prog.globals[0]?).map (·.type) = some 102 := by kernel_rfl
theorem named_tab : (Rows.laid_herald_place_named : DataW Unit) = tabData .u8 namedRow := by kernel_rfl
theorem tPow : (Tryd.prog.globals[2]?).map (·.type) = some 159 := by kernel_rfl
theorem pow_tab : (Rows.laid_internal_strconv_uint64pow10 : DataW Unit) = tabData .u64 pow10Tab := by kernel_rfl

theorem cells_of_shaped {P : Program} {w : World} {g : Nat} {t : TypeId} {zero : Array Value} (h : w.ShapedOpen P) (hg : g < P.globals.size)
    (h0 : ((begin P (fun _ _ => 0) default).world.heap[g]?).bind Obj.row? = some (zero, t)) : ∃ cs, w.heap[g]? = some (.cells cs t) ∧ cs.size = zero.size :=
  let ⟨cs, h1, h2, _⟩ := h.1 g zero t hg h0
  ⟨cs, h1, h2⟩

theorem G_of {W : World} (hL : laidMetH Tryd.prog laid W) (hs : W.ShapedOpen Tryd.prog) : G (fun g => g < W.heap.size) W := by
  rw [MakeChecks.laidMetH_plain _ _ _ (by kernel_rfl)] at hL
  have h0 : ∃ t fr, W.heap[0]? = some (.cells (namedRow.map (Value.int .u8)).toArray t fr) := by
    obtain ⟨g, t, cs, fuel, p, hg, hty, hvar, hd⟩ := laidMet.reads hL (List.Mem.tail _ (List.Mem.tail _ (List.Mem.tail _ (List.Mem.tail _ (List.Mem.head _)))))
    obtain rfl := Option.some.inj (gNamed.symm.trans hg)
    obtain rfl := Option.some.inj (tNamed.symm.trans hty)
    rw [named_tab] at hd
    have hcs := cells_of_tab Tryd.underlying102 Tryd.underlying5 (by kernel_rfl) (by kernel_rfl) hd
    have hcs : cs = (namedRow.map (Value.int .u8)).toArray := by rw [← hcs]
    simp only [World.var?, hg, Option.bind_some] at hvar
    split at hvar
    · rename_i c t fr hb
      cases hvar
      exact ⟨t, fr, by rw [hb, hcs]⟩
    · cases hvar
  have h2 : ∃ t fr, W.heap[2]? = some (.cells (pow10Tab.map (Value.int .u64)).toArray t fr) := by
    obtain ⟨g, t, cs, fuel, p, hg, hty, hvar, hd⟩ := laidMet.reads hL (List.Mem.tail _ (List.Mem.tail _ (List.Mem.head _)))
    obtain rfl := Option.some.inj (pow_named.symm.trans hg)
    obtain rfl := Option.some.inj (tPow.symm.trans hty)
    rw [pow_tab] at hd
    have hcs := cells_of_tab Tryd.underlying159 Tryd.underlying126 (by kernel_rfl) (by kernel_rfl) hd
    have hcs : cs = (pow10Tab.map (Value.int .u64)).toArray := by rw [← hcs]
    simp only [World.var?, hg, Option.bind_some] at hvar
    split at hvar
    · rename_i c t fr hb
      cases hvar
      exact ⟨t, fr, by rw [hb, hcs]⟩
    · cases hvar
  have h1 : ∃ m t fr, W.heap[1]? = some (.cells #[.int .i64 m] t fr) := by
    obtain ⟨m, hm⟩ := cell_of_shapedOpen_int (k := .i64) (g := 1) (t := 3) (zero := #[.int .i64 0]) hs (of_decide_eq_true (by kernel_rfl)) (by kernel_rfl) rfl (by kernel_rfl) (by kernel_rfl) Tryd.underlying3
    obtain ⟨cs, h1, h2⟩ := cells_of_shaped (g := 1) (t := 3) (zero := #[.int .i64 0]) hs (of_decide_eq_true (by kernel_rfl)) (by kernel_rfl)
    refine ⟨m, 3, (0, 0), ?_⟩
    rw [h1]
    have h3 : cs[0]? = some (.int .i64 m) := by
      unfold World.cell? at hm
      rw [h1] at hm
      simpa using hm
    have : cs = #[.int .i64 m] := by
      apply Array.toList_inj.1
      obtain ⟨l⟩ := cs
      match l, h2, h3 with
      | [x], _, h3 => simp at h3; rw [h3]
    rw [this]
  have lt : ∀ {g : Nat} {o : Obj}, W.heap[g]? = some o → g < W.heap.size := fun h => (Array.getElem?_eq_some_iff.1 h).1
  obtain ⟨t, fr, e0⟩ := h0
  obtain ⟨m, t', fr', e1⟩ := h1
  obtain ⟨t2, fr2, e2⟩ := h2
  exact ⟨lt e0, lt e1, ⟨t, fr, e0⟩, ⟨m, t', fr', e1⟩, lt e2, t2, fr2, e2⟩

/-- The witness meets the condition. -/
theorem door_met (os : Os) (args : Array Value) : laidMetH Tryd.prog laid ((World.laidAll Tryd.prog os laid).forCall (fun _ _ => 0) ⟨#[], args, []⟩).memory := by
  rw [MakeChecks.laidMetH_plain _ _ _ (by kernel_rfl)]
  exact laidMet_laidAll _ (by kernel_rfl) (by kernel_rfl)
theorem door_shape (os : Os) (args : Array Value) : ((World.laidAll Tryd.prog os laid).forCall (fun _ _ => 0) ⟨#[], args, []⟩).Shaped Tryd.prog := World.shaped_of_ZipB (by kernel_rfl) (by kernel_rfl)

end Go.Proofs.YtiikjcdjgmlcgaaDoor.HBT
/- The laws' helpers: played, same, find. -/
namespace Go.Proofs.YtiikjcdjgmlcgaaDoor.HBT
open Go Go.Proofs.YtiikjcdjgmlcgaaDoor.HB Go.RowKit
set_option maxRecDepth 8000

set_option maxHeartbeats 8000000 in
theorem played_spec (xs : List Stp) (n : Nat) (hn : n ≤ xs.length) (hok : ∀ x ∈ xs, x.ok) : FnSpec C 14 [rdS xs n] [] (fun r L' => ∃ gt gm es cl l, TM l es cl ∧ TInv l ∧ r = .ptr 0 gt 0 ∧ L' = TreeL gt gm es cl) := by
  refine FnSpec.start C_ok Tryd.func14 rfl rfl Tryd.ntmps14 ?_
  repeat (first | refine OpsA.cons ?_ | refine OpsA.nil ?_ | refine OrdA.cons rfl ?_ | refine OrdA.nil ?_ | refine OrdW.cons rfl ?_ | refine OrdW.nil ?_ | refine OrdK.cons rfl ?_ | refine OrdK.nil ?_ | refine OrdN.one rfl ?_ | refine OrdN.nil ?_ | refine Run.textA C_ok (aopC_sound C_ok) ?_ | refine And.intro rfl ?_ | refine And.intro (Nat.le_of_ble_eq_true rfl) ?_ | refine And.intro (Int.natCast_nonneg _) ?_ | refine fun (_ : Nat) => ?_ | refine Ord.go ?_ | refine Run.go rfl ?_ | refine Cont.go rfl ?_ | refine OrdP.go ?_)
  refine ACallT.ok (ACall.pure _ new_spec ?_)
  rintro r L' ⟨gt, gm, es, cl, hT, rfl, rfl⟩
  refine ⟨_, Sub.refl _, ?_⟩
  repeat (first | refine OpsA.cons ?_ | refine OpsA.nil ?_ | refine OrdA.cons rfl ?_ | refine OrdA.nil ?_ | refine OrdW.cons rfl ?_ | refine OrdW.nil ?_ | refine OrdK.cons rfl ?_ | refine OrdK.nil ?_ | refine OrdN.one rfl ?_ | refine OrdN.nil ?_ | refine Run.textA C_ok (aopC_sound C_ok) ?_ | refine And.intro rfl ?_ | refine And.intro (Nat.le_of_ble_eq_true rfl) ?_ | refine And.intro (Int.natCast_nonneg _) ?_ | refine fun (_ : Nat) => ?_ | refine Ord.go ?_ | refine Run.go rfl ?_ | refine Cont.go rfl ?_ | refine OrdP.go ?_)
  refine Run.loopW (fun k env L => ∃ (i : Nat) (l : List Fu) (gm : Nat) (es : Array MapEntry) (cl : Nat), k = 121 - i ∧ i ≤ 120 ∧ TM l es cl ∧ TInv l ∧ env = [rdS xs n, .junk, .junk, .ptr 0 gt 0, .int .i64 i, .junk, .junk, .junk, .junk, .junk, .junk, .junk, .junk, .junk, .junk, .junk, .junk, .junk, .junk, .junk, .junk, .junk, .junk, .junk, .junk, .junk, .junk, .junk, .junk, .junk, .junk, .junk, .junk, .junk, .junk, .junk, .junk, .junk, .junk, .junk, .junk, .junk, .junk, .junk, .junk, .junk, .junk, .junk, .junk, .junk, .junk, .junk, .junk, .junk] ∧ L = TreeL gt gm es cl) 121
    [rdS xs n, .junk, .junk, .ptr 0 gt 0, .int .i64 (0 : Nat), .junk, .junk, .junk, .junk, .junk, .junk, .junk, .junk, .junk, .junk, .junk, .junk, .junk, .junk, .junk, .junk, .junk, .junk, .junk, .junk, .junk, .junk, .junk, .junk, .junk, .junk, .junk, .junk, .junk, .junk, .junk, .junk, .junk, .junk, .junk, .junk, .junk, .junk, .junk, .junk, .junk, .junk, .junk, .junk, .junk, .junk, .junk, .junk, .junk] (TreeL gt gm es cl) (Weak.sel ?_ [0, 1] (by decide) ?_) ⟨0, [rootF], gm, es, cl, by omega, by omega, hT, TInv.new, rfl, rfl⟩ ?_
  · repeat (first | exact trivial | refine And.intro (Sub.junk _) ?_ | refine And.intro (Sub.refl _) ?_ | refine And.intro (Sub.sl _ _ _ _ _) ?_ | refine And.intro (Sub.ptr _ _ _ _) ?_)
  · repeat (first | exact trivial | refine And.intro rfl ?_ | refine And.intro (SubO.refl _) ?_ | refine And.intro trivial ?_ | refine And.intro (SubO.cells (by repeat (first | exact trivial | refine And.intro (Sub.refl _) ?_ | refine And.intro (Sub.sl _ _ _ _ _) ?_ | refine And.intro (Sub.ptr _ _ _ _) ?_))) ?_)
  rintro k env L ⟨i, l, gm, es, cl, rfl, hi, hT, hI, rfl, rfl⟩
  repeat (first | refine OpsA.cons ?_ | refine OpsA.nil ?_ | refine OrdA.cons rfl ?_ | refine OrdA.nil ?_ | refine OrdW.cons rfl ?_ | refine OrdW.nil ?_ | refine OrdK.cons rfl ?_ | refine OrdK.nil ?_ | refine OrdN.one rfl ?_ | refine OrdN.nil ?_ | refine Run.textA C_ok (aopC_sound C_ok) ?_ | refine And.intro rfl ?_ | refine And.intro (Nat.le_of_ble_eq_true rfl) ?_ | refine And.intro (Int.natCast_nonneg _) ?_ | refine fun (_ : Nat) => ?_ | refine Ord.go ?_ | refine Run.go rfl ?_ | refine Cont.go rfl ?_ | refine OrdP.go ?_)
  refine ⟨fun h => ?_, fun h => ?_⟩
  rotate_left
  · repeat (first | refine OpsA.cons ?_ | refine OpsA.nil ?_ | refine OrdA.cons rfl ?_ | refine OrdA.nil ?_ | refine OrdW.cons rfl ?_ | refine OrdW.nil ?_ | refine OrdK.cons rfl ?_ | refine OrdK.nil ?_ | refine OrdN.one rfl ?_ | refine OrdN.nil ?_ | refine Run.textA C_ok (aopC_sound C_ok) ?_ | refine And.intro rfl ?_ | refine And.intro (Nat.le_of_ble_eq_true rfl) ?_ | refine And.intro (Int.natCast_nonneg _) ?_ | refine fun (_ : Nat) => ?_ | refine Ord.go ?_ | refine Run.go rfl ?_ | refine Cont.go rfl ?_ | refine OrdP.go ?_)
    exact ⟨.ptr 0 gt 0, _, FinOk.keep _ [0, 1] (Sub.refl _) (by decide) rfl, gt, gm, es, cl, l, hT, hI, rfl, rfl⟩
  have h : (i : Int) < (n : Int) := h
  repeat (first | refine OpsA.cons ?_ | refine OpsA.nil ?_ | refine OrdA.cons rfl ?_ | refine OrdA.nil ?_ | refine OrdW.cons rfl ?_ | refine OrdW.nil ?_ | refine OrdK.cons rfl ?_ | refine OrdK.nil ?_ | refine OrdN.one rfl ?_ | refine OrdN.nil ?_ | refine Run.textA C_ok (aopC_sound C_ok) ?_ | refine And.intro rfl ?_ | refine And.intro (Nat.le_of_ble_eq_true rfl) ?_ | refine And.intro (Int.natCast_nonneg _) ?_ | refine fun (_ : Nat) => ?_ | refine Ord.go ?_ | refine Run.go rfl ?_ | refine Cont.go rfl ?_ | refine OrdP.go ?_)
  refine ⟨fun h2 => ?_, fun h2 => ?_⟩
  rotate_left
  · repeat (first | refine OpsA.cons ?_ | refine OpsA.nil ?_ | refine OrdA.cons rfl ?_ | refine OrdA.nil ?_ | refine OrdW.cons rfl ?_ | refine OrdW.nil ?_ | refine OrdK.cons rfl ?_ | refine OrdK.nil ?_ | refine OrdN.one rfl ?_ | refine OrdN.nil ?_ | refine Run.textA C_ok (aopC_sound C_ok) ?_ | refine And.intro rfl ?_ | refine And.intro (Nat.le_of_ble_eq_true rfl) ?_ | refine And.intro (Int.natCast_nonneg _) ?_ | refine fun (_ : Nat) => ?_ | refine Ord.go ?_ | refine Run.go rfl ?_ | refine Cont.go rfl ?_ | refine OrdP.go ?_)
    exact ⟨.ptr 0 gt 0, _, FinOk.keep _ [0, 1] (Sub.refl _) (by decide) rfl, gt, gm, es, cl, l, hT, hI, rfl, rfl⟩
  have h2 : (i : Int) < 120 := h2
  obtain ⟨x, ex⟩ : ∃ x, xs[i]? = some x := ⟨_, List.getElem?_eq_getElem (by omega)⟩
  have hx := hok x (List.mem_of_getElem? ex)
  repeat (first | refine OpsA.cons ?_ | refine OpsA.nil ?_ | refine OrdA.cons rfl ?_ | refine OrdA.nil ?_ | refine OrdW.cons rfl ?_ | refine OrdW.nil ?_ | refine OrdK.cons rfl ?_ | refine OrdK.nil ?_ | refine OrdN.one rfl ?_ | refine OrdN.nil ?_ | refine Run.textA C_ok (aopC_sound C_ok) ?_ | refine And.intro rfl ?_ | refine And.intro (Nat.le_of_ble_eq_true rfl) ?_ | refine And.intro (Int.natCast_nonneg _) ?_ | refine fun (_ : Nat) => ?_ | refine Ord.go ?_ | refine Run.go rfl ?_ | refine Cont.go rfl ?_ | refine OrdP.go ?_)
  refine ⟨h, encS x, map_at encS ex, ?_⟩
  repeat (first | refine OpsA.cons ?_ | refine OpsA.nil ?_ | refine OrdA.cons rfl ?_ | refine OrdA.nil ?_ | refine OrdW.cons rfl ?_ | refine OrdW.nil ?_ | refine OrdK.cons rfl ?_ | refine OrdK.nil ?_ | refine OrdN.one rfl ?_ | refine OrdN.nil ?_ | refine Run.textA C_ok (aopC_sound C_ok) ?_ | refine And.intro rfl ?_ | refine And.intro (Nat.le_of_ble_eq_true rfl) ?_ | refine And.intro (Int.natCast_nonneg _) ?_ | refine fun (_ : Nat) => ?_ | refine Ord.go ?_ | refine Run.go rfl ?_ | refine Cont.go rfl ?_ | refine OrdP.go ?_)
  refine ⟨fun hk => ?_, fun hk => ?_⟩
  · have hk : x.k = 1 := hk
    repeat (first | refine OpsA.cons ?_ | refine OpsA.nil ?_ | refine OrdA.cons rfl ?_ | refine OrdA.nil ?_ | refine OrdW.cons rfl ?_ | refine OrdW.nil ?_ | refine OrdK.cons rfl ?_ | refine OrdK.nil ?_ | refine OrdN.one rfl ?_ | refine OrdN.nil ?_ | refine Run.textA C_ok (aopC_sound C_ok) ?_ | refine And.intro rfl ?_ | refine And.intro (Nat.le_of_ble_eq_true rfl) ?_ | refine And.intro (Int.natCast_nonneg _) ?_ | refine fun (_ : Nat) => ?_ | refine Ord.go ?_ | refine Run.go rfl ?_ | refine Cont.go rfl ?_ | refine OrdP.go ?_)
    refine Run.drawnK C_ok (aopC_sound C_ok) [] [0, 1, 2, 3, 4, 5, 6, 7, 8, 9, 10, 11, 12, 13, 14, 15, 16] (by kernel_rfl) ?_
    repeat (first | refine OpsA.cons ?_ | refine OpsA.nil ?_ | refine OrdA.cons rfl ?_ | refine OrdA.nil ?_ | refine OrdW.cons rfl ?_ | refine OrdW.nil ?_ | refine OrdK.cons rfl ?_ | refine OrdK.nil ?_ | refine OrdN.one rfl ?_ | refine OrdN.nil ?_ | refine Run.textA C_ok (aopC_sound C_ok) ?_ | refine And.intro rfl ?_ | refine And.intro (Nat.le_of_ble_eq_true rfl) ?_ | refine And.intro (Int.natCast_nonneg _) ?_ | refine fun (_ : Nat) => ?_ | refine Ord.go ?_ | refine Run.go rfl ?_ | refine Cont.go rfl ?_ | refine OrdP.go ?_)
    refine ⟨h, encS x, map_at encS ex, ?_⟩
    repeat (first | refine OpsA.cons ?_ | refine OpsA.nil ?_ | refine OrdA.cons rfl ?_ | refine OrdA.nil ?_ | refine OrdW.cons rfl ?_ | refine OrdW.nil ?_ | refine OrdK.cons rfl ?_ | refine OrdK.nil ?_ | refine OrdN.one rfl ?_ | refine OrdN.nil ?_ | refine Run.textA C_ok (aopC_sound C_ok) ?_ | refine And.intro rfl ?_ | refine And.intro (Nat.le_of_ble_eq_true rfl) ?_ | refine And.intro (Int.natCast_nonneg _) ?_ | refine fun (_ : Nat) => ?_ | refine Ord.go ?_ | refine Run.go rfl ?_ | refine Cont.go rfl ?_ | refine OrdP.go ?_)
    refine ⟨h, encS x, map_at encS ex, ?_⟩
    repeat (first | refine OpsA.cons ?_ | refine OpsA.nil ?_ | refine OrdA.cons rfl ?_ | refine OrdA.nil ?_ | refine OrdW.cons rfl ?_ | refine OrdW.nil ?_ | refine OrdK.cons rfl ?_ | refine OrdK.nil ?_ | refine OrdN.one rfl ?_ | refine OrdN.nil ?_ | refine Run.textA C_ok (aopC_sound C_ok) ?_ | refine And.intro rfl ?_ | refine And.intro (Nat.le_of_ble_eq_true rfl) ?_ | refine And.intro (Int.natCast_nonneg _) ?_ | refine fun (_ : Nat) => ?_ | refine Ord.go ?_ | refine Run.go rfl ?_ | refine Cont.go rfl ?_ | refine OrdP.go ?_)
    refine ⟨h, encS x, map_at encS ex, ?_⟩
    repeat (first | refine OpsA.cons ?_ | refine OpsA.nil ?_ | refine OrdA.cons rfl ?_ | refine OrdA.nil ?_ | refine OrdW.cons rfl ?_ | refine OrdW.nil ?_ | refine OrdK.cons rfl ?_ | refine OrdK.nil ?_ | refine OrdN.one rfl ?_ | refine OrdN.nil ?_ | refine Run.textA C_ok (aopC_sound C_ok) ?_ | refine And.intro rfl ?_ | refine And.intro (Nat.le_of_ble_eq_true rfl) ?_ | refine And.intro (Int.natCast_nonneg _) ?_ | refine fun (_ : Nat) => ?_ | refine Ord.go ?_ | refine Run.go rfl ?_ | refine Cont.go rfl ?_ | refine OrdP.go ?_)
    refine ACallT.ok (ACall.sel [0, 1] (by decide) [.ptr 0 gt 0, .int .i64 x.s, .int .i64 x.st, .ro 5 (x.ops.map encO) x.no] _ ⟨Sub.refl _, Sub.refl _, Sub.refl _, Sub.refl _, trivial⟩ (play_spec gt gm hT hI x.s x.st x.ops x.no hx) ?_)
    intro r L' hq
    have hI2 : TInv (playR l x.s x.st (x.ops.take x.no)).1 := playR_inv hI
    obtain ⟨gm2, es2, cl2, hT2, rfl, rfl⟩ := hq
    generalize (playR l x.s x.st (x.ops.take x.no)).1 = l2 at hT2 hI2
    refine ⟨_, Sub.refl _, ?_⟩
    repeat (first | refine OpsA.cons ?_ | refine OpsA.nil ?_ | refine OrdA.cons rfl ?_ | refine OrdA.nil ?_ | refine OrdW.cons rfl ?_ | refine OrdW.nil ?_ | refine OrdK.cons rfl ?_ | refine OrdK.nil ?_ | refine OrdN.one rfl ?_ | refine OrdN.nil ?_ | refine Run.textA C_ok (aopC_sound C_ok) ?_ | refine And.intro rfl ?_ | refine And.intro (Nat.le_of_ble_eq_true rfl) ?_ | refine And.intro (Int.natCast_nonneg _) ?_ | refine fun (_ : Nat) => ?_ | refine Ord.go ?_ | refine Run.go rfl ?_ | refine Cont.go rfl ?_ | refine OrdP.go ?_)
    refine fun r hr => ?_
    obtain rfl := add1 hr (by omega)
    repeat (first | refine OpsA.cons ?_ | refine OpsA.nil ?_ | refine OrdA.cons rfl ?_ | refine OrdA.nil ?_ | refine OrdW.cons rfl ?_ | refine OrdW.nil ?_ | refine OrdK.cons rfl ?_ | refine OrdK.nil ?_ | refine OrdN.one rfl ?_ | refine OrdN.nil ?_ | refine Run.textA C_ok (aopC_sound C_ok) ?_ | refine And.intro rfl ?_ | refine And.intro (Nat.le_of_ble_eq_true rfl) ?_ | refine And.intro (Int.natCast_nonneg _) ?_ | refine fun (_ : Nat) => ?_ | refine Ord.go ?_ | refine Run.go rfl ?_ | refine Cont.go rfl ?_ | refine OrdP.go ?_)
    refine Cont.lpW ?_
    refine ⟨121 - (i + 1), _, _, by omega, Weak.sel ?_ [0, 1] (by decide) ?_, ⟨i + 1, l2, gm2, es2, cl2, rfl, by omega, hT2, hI2, rfl, rfl⟩⟩
    · repeat (first | exact trivial | refine And.intro (Sub.junk _) ?_ | refine And.intro (Sub.refl _) ?_ | refine And.intro (Sub.sl _ _ _ _ _) ?_ | refine And.intro (Sub.ptr _ _ _ _) ?_)
    · repeat (first | exact trivial | refine And.intro rfl ?_ | refine And.intro (SubO.refl _) ?_ | refine And.intro trivial ?_ | refine And.intro (SubO.cells (by repeat (first | exact trivial | refine And.intro (Sub.refl _) ?_ | refine And.intro (Sub.sl _ _ _ _ _) ?_ | refine And.intro (Sub.ptr _ _ _ _) ?_))) ?_)
  have hk1 : ¬ x.k = 1 := hk
  repeat (first | refine OpsA.cons ?_ | refine OpsA.nil ?_ | refine OrdA.cons rfl ?_ | refine OrdA.nil ?_ | refine OrdW.cons rfl ?_ | refine OrdW.nil ?_ | refine OrdK.cons rfl ?_ | refine OrdK.nil ?_ | refine OrdN.one rfl ?_ | refine OrdN.nil ?_ | refine Run.textA C_ok (aopC_sound C_ok) ?_ | refine And.intro rfl ?_ | refine And.intro (Nat.le_of_ble_eq_true rfl) ?_ | refine And.intro (Int.natCast_nonneg _) ?_ | refine fun (_ : Nat) => ?_ | refine Ord.go ?_ | refine Run.go rfl ?_ | refine Cont.go rfl ?_ | refine OrdP.go ?_)
  refine ⟨fun hk => ?_, fun hk => ?_⟩
  · have hk : x.k = 2 := hk
    repeat (first | refine OpsA.cons ?_ | refine OpsA.nil ?_ | refine OrdA.cons rfl ?_ | refine OrdA.nil ?_ | refine OrdW.cons rfl ?_ | refine OrdW.nil ?_ | refine OrdK.cons rfl ?_ | refine OrdK.nil ?_ | refine OrdN.one rfl ?_ | refine OrdN.nil ?_ | refine Run.textA C_ok (aopC_sound C_ok) ?_ | refine And.intro rfl ?_ | refine And.intro (Nat.le_of_ble_eq_true rfl) ?_ | refine And.intro (Int.natCast_nonneg _) ?_ | refine fun (_ : Nat) => ?_ | refine Ord.go ?_ | refine Run.go rfl ?_ | refine Cont.go rfl ?_ | refine OrdP.go ?_)
    refine ⟨h, encS x, map_at encS ex, ?_⟩
    repeat (first | refine OpsA.cons ?_ | refine OpsA.nil ?_ | refine OrdA.cons rfl ?_ | refine OrdA.nil ?_ | refine OrdW.cons rfl ?_ | refine OrdW.nil ?_ | refine OrdK.cons rfl ?_ | refine OrdK.nil ?_ | refine OrdN.one rfl ?_ | refine OrdN.nil ?_ | refine Run.textA C_ok (aopC_sound C_ok) ?_ | refine And.intro rfl ?_ | refine And.intro (Nat.le_of_ble_eq_true rfl) ?_ | refine And.intro (Int.natCast_nonneg _) ?_ | refine fun (_ : Nat) => ?_ | refine Ord.go ?_ | refine Run.go rfl ?_ | refine Cont.go rfl ?_ | refine OrdP.go ?_)
    refine ACallT.ok (ACall.sel [0, 1] (by decide) [.ptr 0 gt 0, .int .i64 x.s] _ (.two (Sub.refl _) (Sub.refl _)) (end_spec gt gm hT hI x.s) ?_)
    intro r L' hq
    have hI2 : TInv (endF l x.s).1 := endF_inv hI
    obtain ⟨es2, cl2, hT2, rfl, rfl⟩ := hq
    generalize (endF l x.s).1 = l2 at hT2 hI2
    refine ⟨_, Sub.refl _, ?_⟩
    repeat (first | refine OpsA.cons ?_ | refine OpsA.nil ?_ | refine OrdA.cons rfl ?_ | refine OrdA.nil ?_ | refine OrdW.cons rfl ?_ | refine OrdW.nil ?_ | refine OrdK.cons rfl ?_ | refine OrdK.nil ?_ | refine OrdN.one rfl ?_ | refine OrdN.nil ?_ | refine Run.textA C_ok (aopC_sound C_ok) ?_ | refine And.intro rfl ?_ | refine And.intro (Nat.le_of_ble_eq_true rfl) ?_ | refine And.intro (Int.natCast_nonneg _) ?_ | refine fun (_ : Nat) => ?_ | refine Ord.go ?_ | refine Run.go rfl ?_ | refine Cont.go rfl ?_ | refine OrdP.go ?_)
    refine fun r hr => ?_
    obtain rfl := add1 hr (by omega)
    repeat (first | refine OpsA.cons ?_ | refine OpsA.nil ?_ | refine OrdA.cons rfl ?_ | refine OrdA.nil ?_ | refine OrdW.cons rfl ?_ | refine OrdW.nil ?_ | refine OrdK.cons rfl ?_ | refine OrdK.nil ?_ | refine OrdN.one rfl ?_ | refine OrdN.nil ?_ | refine Run.textA C_ok (aopC_sound C_ok) ?_ | refine And.intro rfl ?_ | refine And.intro (Nat.le_of_ble_eq_true rfl) ?_ | refine And.intro (Int.natCast_nonneg _) ?_ | refine fun (_ : Nat) => ?_ | refine Ord.go ?_ | refine Run.go rfl ?_ | refine Cont.go rfl ?_ | refine OrdP.go ?_)
    refine Cont.lpW ?_
    refine ⟨121 - (i + 1), _, _, by omega, Weak.sel ?_ [0, 1] (by decide) ?_, ⟨i + 1, l2, gm, es2, cl2, rfl, by omega, hT2, hI2, rfl, rfl⟩⟩
    · repeat (first | exact trivial | refine And.intro (Sub.junk _) ?_ | refine And.intro (Sub.refl _) ?_ | refine And.intro (Sub.sl _ _ _ _ _) ?_ | refine And.intro (Sub.ptr _ _ _ _) ?_)
    · repeat (first | exact trivial | refine And.intro rfl ?_ | refine And.intro (SubO.refl _) ?_ | refine And.intro trivial ?_ | refine And.intro (SubO.cells (by repeat (first | exact trivial | refine And.intro (Sub.refl _) ?_ | refine And.intro (Sub.sl _ _ _ _ _) ?_ | refine And.intro (Sub.ptr _ _ _ _) ?_))) ?_)
  have hk2 : ¬ x.k = 2 := hk
  repeat (first | refine OpsA.cons ?_ | refine OpsA.nil ?_ | refine OrdA.cons rfl ?_ | refine OrdA.nil ?_ | refine OrdW.cons rfl ?_ | refine OrdW.nil ?_ | refine OrdK.cons rfl ?_ | refine OrdK.nil ?_ | refine OrdN.one rfl ?_ | refine OrdN.nil ?_ | refine Run.textA C_ok (aopC_sound C_ok) ?_ | refine And.intro rfl ?_ | refine And.intro (Nat.le_of_ble_eq_true rfl) ?_ | refine And.intro (Int.natCast_nonneg _) ?_ | refine fun (_ : Nat) => ?_ | refine Ord.go ?_ | refine Run.go rfl ?_ | refine Cont.go rfl ?_ | refine OrdP.go ?_)
  refine fun r hr => ?_
  obtain rfl := add1 hr (by omega)
  repeat (first | refine OpsA.cons ?_ | refine OpsA.nil ?_ | refine OrdA.cons rfl ?_ | refine OrdA.nil ?_ | refine OrdW.cons rfl ?_ | refine OrdW.nil ?_ | refine OrdK.cons rfl ?_ | refine OrdK.nil ?_ | refine OrdN.one rfl ?_ | refine OrdN.nil ?_ | refine Run.textA C_ok (aopC_sound C_ok) ?_ | refine And.intro rfl ?_ | refine And.intro (Nat.le_of_ble_eq_true rfl) ?_ | refine And.intro (Int.natCast_nonneg _) ?_ | refine fun (_ : Nat) => ?_ | refine Ord.go ?_ | refine Run.go rfl ?_ | refine Cont.go rfl ?_ | refine OrdP.go ?_)
  refine Cont.lpW ?_
  refine ⟨121 - (i + 1), _, _, by omega, Weak.sel ?_ [0, 1] (by decide) ?_, ⟨i + 1, l, gm, es, cl, rfl, by omega, hT, hI, rfl, rfl⟩⟩
  · repeat (first | exact trivial | refine And.intro (Sub.junk _) ?_ | refine And.intro (Sub.refl _) ?_ | refine And.intro (Sub.sl _ _ _ _ _) ?_ | refine And.intro (Sub.ptr _ _ _ _) ?_)
  · repeat (first | exact trivial | refine And.intro rfl ?_ | refine And.intro (SubO.refl _) ?_ | refine And.intro trivial ?_ | refine And.intro (SubO.cells (by repeat (first | exact trivial | refine And.intro (Sub.refl _) ?_ | refine And.intro (Sub.sl _ _ _ _ _) ?_ | refine And.intro (Sub.ptr _ _ _ _) ?_))) ?_)
end Go.Proofs.YtiikjcdjgmlcgaaDoor.HBT
/- The laws' helpers: same, find. -/
namespace Go.Proofs.YtiikjcdjgmlcgaaDoor.HBT
open Go Go.Proofs.YtiikjcdjgmlcgaaDoor.HB Go.RowKit
set_option maxRecDepth 8000

abbrev rdX (l : List Fu) : AV := .ro 7 (l.map encX) l.length
theorem fx_eq (x y : Fu) : allEq [.str x.p, .str x.d, .int .i64 x.v, .int .i64 x.m, .int .i64 x.c, .int .i64 x.o, .int .i64 x.k] [.str y.p, .str y.d, .int .i64 y.v, .int .i64 y.m, .int .i64 y.c, .int .i64 y.o, .int .i64 y.k] ↔ x = y := by
  cases x; cases y; simp [allEq, eq1]
theorem chg_eq (x y : Chg) : allEq [.int .i64 x.k, .str x.p, .str x.d, .int .i64 x.v] [.int .i64 y.k, .str y.p, .str y.d, .int .i64 y.v] ↔ x = y := by
  cases x; cases y; simp [allEq, eq1]
theorem eq_of_upto {α : Type} {a b : List α} (hl : a.length = b.length) (h : ∀ j < a.length, a[j]? = b[j]?) : a = b := by
  apply List.ext_getElem?
  intro j
  by_cases hj : j < a.length
  · exact h j hj
  · rw [List.getElem?_eq_none (by omega), List.getElem?_eq_none (by omega)]
set_option maxHeartbeats 4000000 in
theorem same_spec (a b : List Fu) (ha : a.length ≤ 1000) : FnSpec C 19 [rdX a, rdX b] [] (fun r L' => r = .bool (decide (a = b)) ∧ L' = []) := by
  refine FnSpec.start C_ok Tryd.func19 rfl rfl Tryd.ntmps19 ?_
  repeat (first | refine OpsA.cons ?_ | refine OpsA.nil ?_ | refine OrdA.cons rfl ?_ | refine OrdA.nil ?_ | refine OrdW.cons rfl ?_ | refine OrdW.nil ?_ | refine OrdK.cons rfl ?_ | refine OrdK.nil ?_ | refine OrdN.one rfl ?_ | refine OrdN.nil ?_ | refine Run.textA C_ok (aopC_sound C_ok) ?_ | refine And.intro rfl ?_ | refine And.intro (Nat.le_of_ble_eq_true rfl) ?_ | refine And.intro (Int.natCast_nonneg _) ?_ | refine fun (_ : Nat) => ?_ | refine Ord.go ?_ | refine Run.go rfl ?_ | refine Cont.go rfl ?_ | refine OrdP.go ?_)
  refine ⟨fun h => ?_, fun h => ?_⟩
  · have h : ¬ (a.length : Int) = b.length := h
    repeat (first | refine OpsA.cons ?_ | refine OpsA.nil ?_ | refine OrdA.cons rfl ?_ | refine OrdA.nil ?_ | refine OrdW.cons rfl ?_ | refine OrdW.nil ?_ | refine OrdK.cons rfl ?_ | refine OrdK.nil ?_ | refine OrdN.one rfl ?_ | refine OrdN.nil ?_ | refine Run.textA C_ok (aopC_sound C_ok) ?_ | refine And.intro rfl ?_ | refine And.intro (Nat.le_of_ble_eq_true rfl) ?_ | refine And.intro (Int.natCast_nonneg _) ?_ | refine fun (_ : Nat) => ?_ | refine Ord.go ?_ | refine Run.go rfl ?_ | refine Cont.go rfl ?_ | refine OrdP.go ?_)
    exact ⟨_, [], FinOk.drop _ _, congrArg AV.bool (decide_eq_false fun e => h (by rw [e])).symm, rfl⟩
  have hl : a.length = b.length := by have h : ¬ ¬ (a.length : Int) = b.length := h; omega
  repeat (first | refine OpsA.cons ?_ | refine OpsA.nil ?_ | refine OrdA.cons rfl ?_ | refine OrdA.nil ?_ | refine OrdW.cons rfl ?_ | refine OrdW.nil ?_ | refine OrdK.cons rfl ?_ | refine OrdK.nil ?_ | refine OrdN.one rfl ?_ | refine OrdN.nil ?_ | refine Run.textA C_ok (aopC_sound C_ok) ?_ | refine And.intro rfl ?_ | refine And.intro (Nat.le_of_ble_eq_true rfl) ?_ | refine And.intro (Int.natCast_nonneg _) ?_ | refine fun (_ : Nat) => ?_ | refine Ord.go ?_ | refine Run.go rfl ?_ | refine Cont.go rfl ?_ | refine OrdP.go ?_)
  refine Run.loop (fun k env L => ∃ i : Nat, k = a.length - i ∧ i ≤ a.length ∧ (∀ j < i, a[j]? = b[j]?) ∧ env = [rdX a, rdX b, .junk, .junk, .junk, .int .i64 i, .junk, .junk, .junk, .junk, .junk, .junk, .junk, .junk, .junk, .junk, .junk, .junk, .junk, .junk, .junk, .junk, .junk, .junk, .junk, .junk] ∧ L = []) a.length [rdX a, rdX b, .junk, .junk, .junk, .int .i64 (0 : Nat), .junk, .junk, .junk, .junk, .junk, .junk, .junk, .junk, .junk, .junk, .junk, .junk, .junk, .junk, .junk, .junk, .junk, .junk, .junk, .junk] ?_ ⟨0, by omega, by omega, fun j hj => absurd hj (Nat.not_lt_zero j), rfl, rfl⟩ ?_
  · repeat (first | exact trivial | refine ⟨.inl rfl, ?_⟩ | refine ⟨.inr rfl, ?_⟩)
  rintro k env L ⟨i, rfl, hi, hP, rfl, rfl⟩
  repeat (first | refine OpsA.cons ?_ | refine OpsA.nil ?_ | refine OrdA.cons rfl ?_ | refine OrdA.nil ?_ | refine OrdW.cons rfl ?_ | refine OrdW.nil ?_ | refine OrdK.cons rfl ?_ | refine OrdK.nil ?_ | refine OrdN.one rfl ?_ | refine OrdN.nil ?_ | refine Run.textA C_ok (aopC_sound C_ok) ?_ | refine And.intro rfl ?_ | refine And.intro (Nat.le_of_ble_eq_true rfl) ?_ | refine And.intro (Int.natCast_nonneg _) ?_ | refine fun (_ : Nat) => ?_ | refine Ord.go ?_ | refine Run.go rfl ?_ | refine Cont.go rfl ?_ | refine OrdP.go ?_)
  refine ⟨fun h => ?_, fun h => ?_⟩
  · have h : (i : Int) < (a.length : Int) := h
    have hia : i < a.length := by omega
    obtain ⟨x, ex⟩ : ∃ x, a[i]? = some x := ⟨_, List.getElem?_eq_getElem hia⟩
    obtain ⟨y, ey⟩ : ∃ y, b[i]? = some y := ⟨_, List.getElem?_eq_getElem (by omega)⟩
    repeat (first | refine OpsA.cons ?_ | refine OpsA.nil ?_ | refine OrdA.cons rfl ?_ | refine OrdA.nil ?_ | refine OrdW.cons rfl ?_ | refine OrdW.nil ?_ | refine OrdK.cons rfl ?_ | refine OrdK.nil ?_ | refine OrdN.one rfl ?_ | refine OrdN.nil ?_ | refine Run.textA C_ok (aopC_sound C_ok) ?_ | refine And.intro rfl ?_ | refine And.intro (Nat.le_of_ble_eq_true rfl) ?_ | refine And.intro (Int.natCast_nonneg _) ?_ | refine fun (_ : Nat) => ?_ | refine Ord.go ?_ | refine Run.go rfl ?_ | refine Cont.go rfl ?_ | refine OrdP.go ?_)
    refine Run.drawnK C_ok (aopC_sound C_ok) [] [0, 1, 2, 3, 4, 5, 6, 7, 8] (by kernel_rfl) ?_
    repeat (first | refine OpsA.cons ?_ | refine OpsA.nil ?_ | refine OrdA.cons rfl ?_ | refine OrdA.nil ?_ | refine OrdW.cons rfl ?_ | refine OrdW.nil ?_ | refine OrdK.cons rfl ?_ | refine OrdK.nil ?_ | refine OrdN.one rfl ?_ | refine OrdN.nil ?_ | refine Run.textA C_ok (aopC_sound C_ok) ?_ | refine And.intro rfl ?_ | refine And.intro (Nat.le_of_ble_eq_true rfl) ?_ | refine And.intro (Int.natCast_nonneg _) ?_ | refine fun (_ : Nat) => ?_ | refine Ord.go ?_ | refine Run.go rfl ?_ | refine Cont.go rfl ?_ | refine OrdP.go ?_)
    refine ⟨h, encX x, map_at encX ex, ?_⟩
    repeat (first | refine OpsA.cons ?_ | refine OpsA.nil ?_ | refine OrdA.cons rfl ?_ | refine OrdA.nil ?_ | refine OrdW.cons rfl ?_ | refine OrdW.nil ?_ | refine OrdK.cons rfl ?_ | refine OrdK.nil ?_ | refine OrdN.one rfl ?_ | refine OrdN.nil ?_ | refine Run.textA C_ok (aopC_sound C_ok) ?_ | refine And.intro rfl ?_ | refine And.intro (Nat.le_of_ble_eq_true rfl) ?_ | refine And.intro (Int.natCast_nonneg _) ?_ | refine fun (_ : Nat) => ?_ | refine Ord.go ?_ | refine Run.go rfl ?_ | refine Cont.go rfl ?_ | refine OrdP.go ?_)
    refine ⟨show (i : Int) < (b.length : Int) by omega, encX y, map_at encX ey, ?_⟩
    repeat (first | refine OpsA.cons ?_ | refine OpsA.nil ?_ | refine OrdA.cons rfl ?_ | refine OrdA.nil ?_ | refine OrdW.cons rfl ?_ | refine OrdW.nil ?_ | refine OrdK.cons rfl ?_ | refine OrdK.nil ?_ | refine OrdN.one rfl ?_ | refine OrdN.nil ?_ | refine Run.textA C_ok (aopC_sound C_ok) ?_ | refine And.intro rfl ?_ | refine And.intro (Nat.le_of_ble_eq_true rfl) ?_ | refine And.intro (Int.natCast_nonneg _) ?_ | refine fun (_ : Nat) => ?_ | refine Ord.go ?_ | refine Run.go rfl ?_ | refine Cont.go rfl ?_ | refine OrdP.go ?_)
    refine ⟨fun hne => ?_, fun heq => ?_⟩
    · have hne : x ≠ y := fun e => hne ((fx_eq x y).2 e)
      repeat (first | refine OpsA.cons ?_ | refine OpsA.nil ?_ | refine OrdA.cons rfl ?_ | refine OrdA.nil ?_ | refine OrdW.cons rfl ?_ | refine OrdW.nil ?_ | refine OrdK.cons rfl ?_ | refine OrdK.nil ?_ | refine OrdN.one rfl ?_ | refine OrdN.nil ?_ | refine Run.textA C_ok (aopC_sound C_ok) ?_ | refine And.intro rfl ?_ | refine And.intro (Nat.le_of_ble_eq_true rfl) ?_ | refine And.intro (Int.natCast_nonneg _) ?_ | refine fun (_ : Nat) => ?_ | refine Ord.go ?_ | refine Run.go rfl ?_ | refine Cont.go rfl ?_ | refine OrdP.go ?_)
      exact ⟨_, [], FinOk.drop _ _, congrArg AV.bool (decide_eq_false fun e => hne (by rw [e] at ex; exact Option.some.inj (ex.symm.trans ey))).symm, rfl⟩
    · have heq : x = y := (fx_eq x y).1 (Classical.not_not.1 heq)
      subst heq
      repeat (first | refine OpsA.cons ?_ | refine OpsA.nil ?_ | refine OrdA.cons rfl ?_ | refine OrdA.nil ?_ | refine OrdW.cons rfl ?_ | refine OrdW.nil ?_ | refine OrdK.cons rfl ?_ | refine OrdK.nil ?_ | refine OrdN.one rfl ?_ | refine OrdN.nil ?_ | refine Run.textA C_ok (aopC_sound C_ok) ?_ | refine And.intro rfl ?_ | refine And.intro (Nat.le_of_ble_eq_true rfl) ?_ | refine And.intro (Int.natCast_nonneg _) ?_ | refine fun (_ : Nat) => ?_ | refine Ord.go ?_ | refine Run.go rfl ?_ | refine Cont.go rfl ?_ | refine OrdP.go ?_)
      refine fun r hr => ?_
      obtain rfl := add1 hr (by omega)
      repeat (first | refine OpsA.cons ?_ | refine OpsA.nil ?_ | refine OrdA.cons rfl ?_ | refine OrdA.nil ?_ | refine OrdW.cons rfl ?_ | refine OrdW.nil ?_ | refine OrdK.cons rfl ?_ | refine OrdK.nil ?_ | refine OrdN.one rfl ?_ | refine OrdN.nil ?_ | refine Run.textA C_ok (aopC_sound C_ok) ?_ | refine And.intro rfl ?_ | refine And.intro (Nat.le_of_ble_eq_true rfl) ?_ | refine And.intro (Int.natCast_nonneg _) ?_ | refine fun (_ : Nat) => ?_ | refine Ord.go ?_ | refine Run.go rfl ?_ | refine Cont.go rfl ?_ | refine OrdP.go ?_)
      refine Cont.lp ?_
      refine ⟨a.length - (i + 1), _, 99, by omega, ?_, ⟨i + 1, rfl, by omega, fun j hj => ?_, rfl, rfl⟩⟩
      · repeat (first | exact trivial | refine ⟨.inl rfl, ?_⟩ | refine ⟨.inr rfl, ?_⟩)
      · by_cases e : j = i
        · subst e; rw [ex, ey]
        · exact hP j (by omega)
  · have h : ¬ (i : Int) < (a.length : Int) := h
    repeat (first | refine OpsA.cons ?_ | refine OpsA.nil ?_ | refine OrdA.cons rfl ?_ | refine OrdA.nil ?_ | refine OrdW.cons rfl ?_ | refine OrdW.nil ?_ | refine OrdK.cons rfl ?_ | refine OrdK.nil ?_ | refine OrdN.one rfl ?_ | refine OrdN.nil ?_ | refine Run.textA C_ok (aopC_sound C_ok) ?_ | refine And.intro rfl ?_ | refine And.intro (Nat.le_of_ble_eq_true rfl) ?_ | refine And.intro (Int.natCast_nonneg _) ?_ | refine fun (_ : Nat) => ?_ | refine Ord.go ?_ | refine Run.go rfl ?_ | refine Cont.go rfl ?_ | refine OrdP.go ?_)
    exact ⟨_, [], FinOk.drop _ _, congrArg AV.bool (decide_eq_true (eq_of_upto hl fun j hj => hP j (by omega))).symm, rfl⟩
abbrev zeroX : Fu := ⟨eS, eS, 0, 0, 0, 0, 0⟩
set_option maxHeartbeats 4000000 in
theorem find_spec (l : List Fu) (p : ByteArray) (hl : l.length ≤ 1000) : FnSpec C 15 [rdX l, .str p] [] (fun r L' => r = .tuple [encX ((findF l p).getD zeroX), .bool (findF l p).isSome] ∧ L' = []) := by
  refine FnSpec.start C_ok Tryd.func15 rfl rfl Tryd.ntmps15 ?_
  repeat (first | refine OpsA.cons ?_ | refine OpsA.nil ?_ | refine OrdA.cons rfl ?_ | refine OrdA.nil ?_ | refine OrdW.cons rfl ?_ | refine OrdW.nil ?_ | refine OrdK.cons rfl ?_ | refine OrdK.nil ?_ | refine OrdN.one rfl ?_ | refine OrdN.nil ?_ | refine Run.textA C_ok (aopC_sound C_ok) ?_ | refine And.intro rfl ?_ | refine And.intro (Nat.le_of_ble_eq_true rfl) ?_ | refine And.intro (Int.natCast_nonneg _) ?_ | refine fun (_ : Nat) => ?_ | refine Ord.go ?_ | refine Run.go rfl ?_ | refine Cont.go rfl ?_ | refine OrdP.go ?_)
  rename_i gr
  refine Run.loop (fun k env L => ∃ i : Nat, k = l.length - i ∧ i ≤ l.length ∧ findF l p = findF (l.drop i) p ∧ env = [rdX l, .str p, .junk, .junk, .ptr 0 gr 0, .junk, .int .i64 i, .junk, .junk, .junk, .junk, .junk, .junk, .junk, .junk, .junk, .junk, .junk, .junk, .junk, .junk, .junk, .junk, .junk, .junk] ∧ L = [(gr, .cells tX [.str eS, .str eS, .int .i64 0, .int .i64 0, .int .i64 0, .int .i64 0, .int .i64 0])]) l.length [rdX l, .str p, .junk, .junk, .ptr 0 gr 0, .junk, .int .i64 (0 : Nat), .junk, .junk, .junk, .junk, .junk, .junk, .junk, .junk, .junk, .junk, .junk, .junk, .junk, .junk, .junk, .junk, .junk, .junk] ?_ ⟨0, by omega, by omega, by rw [List.drop_zero], rfl, rfl⟩ ?_
  · repeat (first | exact trivial | refine ⟨.inl rfl, ?_⟩ | refine ⟨.inr rfl, ?_⟩)
  rintro k env L ⟨i, rfl, hi, hP, rfl, rfl⟩
  repeat (first | refine OpsA.cons ?_ | refine OpsA.nil ?_ | refine OrdA.cons rfl ?_ | refine OrdA.nil ?_ | refine OrdW.cons rfl ?_ | refine OrdW.nil ?_ | refine OrdK.cons rfl ?_ | refine OrdK.nil ?_ | refine OrdN.one rfl ?_ | refine OrdN.nil ?_ | refine Run.textA C_ok (aopC_sound C_ok) ?_ | refine And.intro rfl ?_ | refine And.intro (Nat.le_of_ble_eq_true rfl) ?_ | refine And.intro (Int.natCast_nonneg _) ?_ | refine fun (_ : Nat) => ?_ | refine Ord.go ?_ | refine Run.go rfl ?_ | refine Cont.go rfl ?_ | refine OrdP.go ?_)
  refine ⟨fun h => ?_, fun h => ?_⟩
  · have h : (i : Int) < (l.length : Int) := h
    have hil : i < l.length := by omega
    obtain ⟨x, ex⟩ : ∃ x, l[i]? = some x := ⟨_, List.getElem?_eq_getElem hil⟩
    have ed : l.drop i = x :: l.drop (i + 1) := drop_at ex
    repeat (first | refine OpsA.cons ?_ | refine OpsA.nil ?_ | refine OrdA.cons rfl ?_ | refine OrdA.nil ?_ | refine OrdW.cons rfl ?_ | refine OrdW.nil ?_ | refine OrdK.cons rfl ?_ | refine OrdK.nil ?_ | refine OrdN.one rfl ?_ | refine OrdN.nil ?_ | refine Run.textA C_ok (aopC_sound C_ok) ?_ | refine And.intro rfl ?_ | refine And.intro (Nat.le_of_ble_eq_true rfl) ?_ | refine And.intro (Int.natCast_nonneg _) ?_ | refine fun (_ : Nat) => ?_ | refine Ord.go ?_ | refine Run.go rfl ?_ | refine Cont.go rfl ?_ | refine OrdP.go ?_)
    refine ⟨h, encX x, map_at encX ex, ?_⟩
    repeat (first | refine OpsA.cons ?_ | refine OpsA.nil ?_ | refine OrdA.cons rfl ?_ | refine OrdA.nil ?_ | refine OrdW.cons rfl ?_ | refine OrdW.nil ?_ | refine OrdK.cons rfl ?_ | refine OrdK.nil ?_ | refine OrdN.one rfl ?_ | refine OrdN.nil ?_ | refine Run.textA C_ok (aopC_sound C_ok) ?_ | refine And.intro rfl ?_ | refine And.intro (Nat.le_of_ble_eq_true rfl) ?_ | refine And.intro (Int.natCast_nonneg _) ?_ | refine fun (_ : Nat) => ?_ | refine Ord.go ?_ | refine Run.go rfl ?_ | refine Cont.go rfl ?_ | refine OrdP.go ?_)
    refine ⟨fun hp => ?_, fun hp => ?_⟩
    · have hp : x.p = p := hp
      have hf : findF l p = some x := by rw [hP, ed]; unfold findF; rw [List.find?_cons_of_pos]; simpa using hp
      repeat (first | refine OpsA.cons ?_ | refine OpsA.nil ?_ | refine OrdA.cons rfl ?_ | refine OrdA.nil ?_ | refine OrdW.cons rfl ?_ | refine OrdW.nil ?_ | refine OrdK.cons rfl ?_ | refine OrdK.nil ?_ | refine OrdN.one rfl ?_ | refine OrdN.nil ?_ | refine Run.textA C_ok (aopC_sound C_ok) ?_ | refine And.intro rfl ?_ | refine And.intro (Nat.le_of_ble_eq_true rfl) ?_ | refine And.intro (Int.natCast_nonneg _) ?_ | refine fun (_ : Nat) => ?_ | refine Ord.go ?_ | refine Run.go rfl ?_ | refine Cont.go rfl ?_ | refine OrdP.go ?_)
      refine ⟨h, encX x, map_at encX ex, ?_⟩
      repeat (first | refine OpsA.cons ?_ | refine OpsA.nil ?_ | refine OrdA.cons rfl ?_ | refine OrdA.nil ?_ | refine OrdW.cons rfl ?_ | refine OrdW.nil ?_ | refine OrdK.cons rfl ?_ | refine OrdK.nil ?_ | refine OrdN.one rfl ?_ | refine OrdN.nil ?_ | refine Run.textA C_ok (aopC_sound C_ok) ?_ | refine And.intro rfl ?_ | refine And.intro (Nat.le_of_ble_eq_true rfl) ?_ | refine And.intro (Int.natCast_nonneg _) ?_ | refine fun (_ : Nat) => ?_ | refine Ord.go ?_ | refine Run.go rfl ?_ | refine Cont.go rfl ?_ | refine OrdP.go ?_)
      exact ⟨_, [], FinOk.drop _ _, by rw [hf]; rfl, rfl⟩
    · have hp : ¬ x.p = p := hp
      have hf : findF l p = findF (l.drop (i + 1)) p := by rw [hP, ed]; unfold findF; rw [List.find?_cons_of_neg]; simpa using hp
      repeat (first | refine OpsA.cons ?_ | refine OpsA.nil ?_ | refine OrdA.cons rfl ?_ | refine OrdA.nil ?_ | refine OrdW.cons rfl ?_ | refine OrdW.nil ?_ | refine OrdK.cons rfl ?_ | refine OrdK.nil ?_ | refine OrdN.one rfl ?_ | refine OrdN.nil ?_ | refine Run.textA C_ok (aopC_sound C_ok) ?_ | refine And.intro rfl ?_ | refine And.intro (Nat.le_of_ble_eq_true rfl) ?_ | refine And.intro (Int.natCast_nonneg _) ?_ | refine fun (_ : Nat) => ?_ | refine Ord.go ?_ | refine Run.go rfl ?_ | refine Cont.go rfl ?_ | refine OrdP.go ?_)
      refine fun r hr => ?_
      obtain rfl := add1 hr (by omega)
      repeat (first | refine OpsA.cons ?_ | refine OpsA.nil ?_ | refine OrdA.cons rfl ?_ | refine OrdA.nil ?_ | refine OrdW.cons rfl ?_ | refine OrdW.nil ?_ | refine OrdK.cons rfl ?_ | refine OrdK.nil ?_ | refine OrdN.one rfl ?_ | refine OrdN.nil ?_ | refine Run.textA C_ok (aopC_sound C_ok) ?_ | refine And.intro rfl ?_ | refine And.intro (Nat.le_of_ble_eq_true rfl) ?_ | refine And.intro (Int.natCast_nonneg _) ?_ | refine fun (_ : Nat) => ?_ | refine Ord.go ?_ | refine Run.go rfl ?_ | refine Cont.go rfl ?_ | refine OrdP.go ?_)
      refine Cont.lp ?_
      refine ⟨l.length - (i + 1), _, 99, by omega, ?_, ⟨i + 1, rfl, by omega, hf, rfl, rfl⟩⟩
      · repeat (first | exact trivial | refine ⟨.inl rfl, ?_⟩ | refine ⟨.inr rfl, ?_⟩)
  · have h : ¬ (i : Int) < (l.length : Int) := h
    have hf : findF l p = none := by rw [hP, List.drop_of_length_le (by omega)]; rfl
    repeat (first | refine OpsA.cons ?_ | refine OpsA.nil ?_ | refine OrdA.cons rfl ?_ | refine OrdA.nil ?_ | refine OrdW.cons rfl ?_ | refine OrdW.nil ?_ | refine OrdK.cons rfl ?_ | refine OrdK.nil ?_ | refine OrdN.one rfl ?_ | refine OrdN.nil ?_ | refine Run.textA C_ok (aopC_sound C_ok) ?_ | refine And.intro rfl ?_ | refine And.intro (Nat.le_of_ble_eq_true rfl) ?_ | refine And.intro (Int.natCast_nonneg _) ?_ | refine fun (_ : Nat) => ?_ | refine Ord.go ?_ | refine Run.go rfl ?_ | refine Cont.go rfl ?_ | refine OrdP.go ?_)
    exact ⟨_, [], FinOk.drop _ _, by rw [hf]; rfl, rfl⟩
end Go.Proofs.YtiikjcdjgmlcgaaDoor.HBT
/- The law TreeGone, walked. -/
namespace Go.Proofs.YtiikjcdjgmlcgaaDoor.HBT
open Go Go.Proofs.YtiikjcdjgmlcgaaDoor.HB Go.RowKit
set_option maxRecDepth 8000

def goes (s : Int) (x : Fu) : Bool := decide (x.o = s ∧ 0 < s)
theorem endF_goes (l : List Fu) (s : Int) : endF l s = (l.filter fun x => !goes s x, (l.filter (goes s)).map goneC) := by
  unfold endF goes
  by_cases h : s < 1
  · rw [if_pos h]
    have e : ∀ x : Fu, decide (x.o = s ∧ 0 < s) = false := fun x => decide_eq_false (by omega)
    rw [List.filter_eq_self.2 fun x _ => by rw [e]; rfl, List.filter_eq_nil_iff.2 fun x _ => by rw [e]; exact Bool.false_ne_true]
    rfl
  · rw [if_neg h]
    have h0 : 0 < s := by omega
    simp [h0]
theorem endF_twice (l : List Fu) (s : Int) : (endF (endF l s).1 s).2 = [] := by
  rw [endF_goes, endF_goes]
  simp
set_option maxHeartbeats 1000000 in
theorem lawGone_spec (xs : List Stp) (n : Nat) (hn : n ≤ xs.length) (hok : ∀ x ∈ xs, x.ok) (s : Int) : FnSpec C 5 [rdS xs n, .int .i64 s] [] (fun r L' => r = .bool true ∧ L' = []) := by
  refine FnSpec.start C_ok Tryd.func5 rfl rfl Tryd.ntmps5 ?_
  repeat (first | refine OpsA.cons ?_ | refine OpsA.nil ?_ | refine OrdA.cons rfl ?_ | refine OrdA.nil ?_ | refine OrdW.cons rfl ?_ | refine OrdW.nil ?_ | refine OrdK.cons rfl ?_ | refine OrdK.nil ?_ | refine OrdN.one rfl ?_ | refine OrdN.nil ?_ | refine Run.textA C_ok (aopC_sound C_ok) ?_ | refine And.intro rfl ?_ | refine And.intro (Nat.le_of_ble_eq_true rfl) ?_ | refine And.intro (Int.natCast_nonneg _) ?_ | refine fun (_ : Nat) => ?_ | refine Ord.go ?_ | refine Run.go rfl ?_ | refine Cont.go rfl ?_ | refine OrdP.go ?_)
  refine ACallT.ok (ACall.pure _ (played_spec xs n hn hok) ?_)
  rintro r L' ⟨gt, gm, es, cl, l, hT, hI, rfl, rfl⟩
  refine ⟨_, Sub.refl _, ?_⟩
  repeat (first | refine OpsA.cons ?_ | refine OpsA.nil ?_ | refine OrdA.cons rfl ?_ | refine OrdA.nil ?_ | refine OrdW.cons rfl ?_ | refine OrdW.nil ?_ | refine OrdK.cons rfl ?_ | refine OrdK.nil ?_ | refine OrdN.one rfl ?_ | refine OrdN.nil ?_ | refine Run.textA C_ok (aopC_sound C_ok) ?_ | refine And.intro rfl ?_ | refine And.intro (Nat.le_of_ble_eq_true rfl) ?_ | refine And.intro (Int.natCast_nonneg _) ?_ | refine fun (_ : Nat) => ?_ | refine Ord.go ?_ | refine Run.go rfl ?_ | refine Cont.go rfl ?_ | refine OrdP.go ?_)
  refine ACallT.ok (ACall.sel [0, 1] (by decide) [.ptr 0 gt 0] _ (.one (Sub.refl _)) (nodes_spec gt gm hT hI) ?_)
  rintro r L' ⟨gn, Cn, rfl, rfl⟩
  refine ⟨.sl 2 gn Cn l.length, Sub.refl _, ?_⟩
  repeat (first | refine OpsA.cons ?_ | refine OpsA.nil ?_ | refine OrdA.cons rfl ?_ | refine OrdA.nil ?_ | refine OrdW.cons rfl ?_ | refine OrdW.nil ?_ | refine OrdK.cons rfl ?_ | refine OrdK.nil ?_ | refine OrdN.one rfl ?_ | refine OrdN.nil ?_ | refine Run.textA C_ok (aopC_sound C_ok) ?_ | refine And.intro rfl ?_ | refine And.intro (Nat.le_of_ble_eq_true rfl) ?_ | refine And.intro (Int.natCast_nonneg _) ?_ | refine fun (_ : Nat) => ?_ | refine Ord.go ?_ | refine Run.go rfl ?_ | refine Cont.go rfl ?_ | refine OrdP.go ?_)
  refine ACallT.ok (ACall.sel [0, 1] (by decide) [.ptr 0 gt 0, .int .i64 s] _ (.two (Sub.refl _) (Sub.refl _)) (end_spec gt gm hT hI s) ?_)
  intro r L' hq
  have hI2 : TInv (endF l s).1 := endF_inv hI
  obtain ⟨es2, cl2, hT2, rfl, rfl⟩ := hq
  refine ⟨_, Sub.refl _, ?_⟩
  repeat (first | refine OpsA.cons ?_ | refine OpsA.nil ?_ | refine OrdA.cons rfl ?_ | refine OrdA.nil ?_ | refine OrdW.cons rfl ?_ | refine OrdW.nil ?_ | refine OrdK.cons rfl ?_ | refine OrdK.nil ?_ | refine OrdN.one rfl ?_ | refine OrdN.nil ?_ | refine Run.textA C_ok (aopC_sound C_ok) ?_ | refine And.intro rfl ?_ | refine And.intro (Nat.le_of_ble_eq_true rfl) ?_ | refine And.intro (Int.natCast_nonneg _) ?_ | refine fun (_ : Nat) => ?_ | refine Ord.go ?_ | refine Run.go rfl ?_ | refine Cont.go rfl ?_ | refine OrdP.go ?_)
  generalize e2 : (endF l s).1 = l2 at hT2 hI2
  generalize ec : (endF l s).2 = cs
  refine ACallT.ok (ACall.sel [0, 1] (by decide) [.ptr 0 gt 0] _ (.one (Sub.refl _)) (nodes_spec gt gm hT2 hI2) ?_)
  rintro r L' ⟨gn2, Cn2, rfl, rfl⟩
  refine ⟨.sl 3 gn2 Cn2 l2.length, Sub.sl _ _ _ _ _, ?_⟩
  repeat (first | refine OpsA.cons ?_ | refine OpsA.nil ?_ | refine OrdA.cons rfl ?_ | refine OrdA.nil ?_ | refine OrdW.cons rfl ?_ | refine OrdW.nil ?_ | refine OrdK.cons rfl ?_ | refine OrdK.nil ?_ | refine OrdN.one rfl ?_ | refine OrdN.nil ?_ | refine Run.textA C_ok (aopC_sound C_ok) ?_ | refine And.intro rfl ?_ | refine And.intro (Nat.le_of_ble_eq_true rfl) ?_ | refine And.intro (Int.natCast_nonneg _) ?_ | refine fun (_ : Nat) => ?_ | refine Ord.go ?_ | refine Run.go rfl ?_ | refine Cont.go rfl ?_ | refine OrdP.go ?_)
  have ecs : cs = (l.filter (goes s)).map goneC := by rw [← ec, endF_goes]
  have el2 : l2 = l.filter fun x => !goes s x := by rw [← e2, endF_goes]
  have hL : l.length ≤ 64 := hI.len
  refine Run.loopW (fun m env L => ∃ i k j : Nat, m = l.length - i ∧ i ≤ l.length ∧ k ≤ cs.length ∧ j ≤ l2.length ∧ k + j = i ∧ cs.drop k = ((l.drop i).filter (goes s)).map goneC ∧ l2.drop j = (l.drop i).filter (fun x => !goes s x) ∧ env = [rdS xs n, .int .i64 s, .junk, .junk, .bool false, .ptr 0 gt 0, .sl 2 gn Cn l.length, .ro 4 (cs.map encC) cs.length, .sl 3 gn2 Cn2 l2.length, .int .i64 k, .int .i64 j, .int .i64 i, .junk, .junk, .junk, .junk, .junk, .junk, .junk, .junk, .junk, .junk, .junk, .junk, .junk, .junk, .junk, .junk, .junk, .junk, .junk, .junk, .junk, .junk, .junk, .junk, .junk, .junk, .junk, .junk, .junk, .junk, .junk, .junk, .junk, .junk, .junk, .junk, .junk, .junk, .junk, .junk, .junk, .junk, .junk, .junk, .junk, .junk, .junk, .junk, .junk, .junk, .junk, .junk, .junk, .junk, .junk, .junk, .junk, .junk, .junk, .junk, .junk, .junk, .junk, .junk, .junk, .junk, .junk, .junk, .junk, .junk, .junk, .junk, .junk, .junk, .junk, .junk, .junk, .junk, .junk, .junk, .junk, .junk, .junk, .junk] ∧ L = [(gt, .cells tT [.any (.map (some gm))]), (gm, .obj (.map es2 cl2)), (gn, .row tX 7 Cn (l.map encX)), (gn2, .row tX 7 Cn2 (l2.map encX))]) l.length
    [rdS xs n, .int .i64 s, .junk, .junk, .bool false, .ptr 0 gt 0, .sl 2 gn Cn l.length, .ro 4 (cs.map encC) cs.length, .sl 3 gn2 Cn2 l2.length, .int .i64 (0 : Nat), .int .i64 (0 : Nat), .int .i64 (0 : Nat), .junk, .junk, .junk, .junk, .junk, .junk, .junk, .junk, .junk, .junk, .junk, .junk, .junk, .junk, .junk, .junk, .junk, .junk, .junk, .junk, .junk, .junk, .junk, .junk, .junk, .junk, .junk, .junk, .junk, .junk, .junk, .junk, .junk, .junk, .junk, .junk, .junk, .junk, .junk, .junk, .junk, .junk, .junk, .junk, .junk, .junk, .junk, .junk, .junk, .junk, .junk, .junk, .junk, .junk, .junk, .junk, .junk, .junk, .junk, .junk, .junk, .junk, .junk, .junk, .junk, .junk, .junk, .junk, .junk, .junk, .junk, .junk, .junk, .junk, .junk, .junk, .junk, .junk, .junk, .junk, .junk, .junk, .junk, .junk] [(gt, .cells tT [.any (.map (some gm))]), (gm, .obj (.map es2 cl2)), (gn, .row tX 7 Cn (l.map encX)), (gn2, .row tX 7 Cn2 (l2.map encX))] (Weak.sel ?_ [0, 1, 2, 3] (by decide) ?_) ⟨0, 0, 0, by omega, by omega, by omega, by omega, rfl, by rw [ecs]; rfl, by rw [el2]; rfl, rfl, rfl⟩ ?_
  · repeat (first | exact trivial | refine And.intro (Sub.junk _) ?_ | refine And.intro (Sub.refl _) ?_ | refine And.intro (Sub.sl _ _ _ _ _) ?_ | refine And.intro (Sub.ptr _ _ _ _) ?_)
  · repeat (first | exact trivial | refine And.intro rfl ?_ | refine And.intro (SubO.refl _) ?_ | refine And.intro trivial ?_ | refine And.intro (SubO.cells (by repeat (first | exact trivial | refine And.intro (Sub.refl _) ?_ | refine And.intro (Sub.sl _ _ _ _ _) ?_ | refine And.intro (Sub.ptr _ _ _ _) ?_))) ?_)
  rintro m env L ⟨i, k, j, rfl, hi, hk, hj, hkj, hK, hJ, rfl, rfl⟩
  repeat (first | refine OpsA.cons ?_ | refine OpsA.nil ?_ | refine OrdA.cons rfl ?_ | refine OrdA.nil ?_ | refine OrdW.cons rfl ?_ | refine OrdW.nil ?_ | refine OrdK.cons rfl ?_ | refine OrdK.nil ?_ | refine OrdN.one rfl ?_ | refine OrdN.nil ?_ | refine Run.textA C_ok (aopC_sound C_ok) ?_ | refine And.intro rfl ?_ | refine And.intro (Nat.le_of_ble_eq_true rfl) ?_ | refine And.intro (Int.natCast_nonneg _) ?_ | refine fun (_ : Nat) => ?_ | refine Ord.go ?_ | refine Run.go rfl ?_ | refine Cont.go rfl ?_ | refine OrdP.go ?_)
  refine ⟨fun h => ?_, fun h => ?_⟩
  · have h : (i : Int) < (l.length : Int) := h
    have hil : i < l.length := by omega
    obtain ⟨x, ex⟩ : ∃ x, l[i]? = some x := ⟨_, List.getElem?_eq_getElem hil⟩
    rw [drop_at ex] at hK hJ
    repeat (first | refine OpsA.cons ?_ | refine OpsA.nil ?_ | refine OrdA.cons rfl ?_ | refine OrdA.nil ?_ | refine OrdW.cons rfl ?_ | refine OrdW.nil ?_ | refine OrdK.cons rfl ?_ | refine OrdK.nil ?_ | refine OrdN.one rfl ?_ | refine OrdN.nil ?_ | refine Run.textA C_ok (aopC_sound C_ok) ?_ | refine And.intro rfl ?_ | refine And.intro (Nat.le_of_ble_eq_true rfl) ?_ | refine And.intro (Int.natCast_nonneg _) ?_ | refine fun (_ : Nat) => ?_ | refine Ord.go ?_ | refine Run.go rfl ?_ | refine Cont.go rfl ?_ | refine OrdP.go ?_)
    refine ⟨h, ?_⟩
    repeat (first | refine OpsA.cons ?_ | refine OpsA.nil ?_ | refine OrdA.cons rfl ?_ | refine OrdA.nil ?_ | refine OrdW.cons rfl ?_ | refine OrdW.nil ?_ | refine OrdK.cons rfl ?_ | refine OrdK.nil ?_ | refine OrdN.one rfl ?_ | refine OrdN.nil ?_ | refine Run.textA C_ok (aopC_sound C_ok) ?_ | refine And.intro rfl ?_ | refine And.intro (Nat.le_of_ble_eq_true rfl) ?_ | refine And.intro (Int.natCast_nonneg _) ?_ | refine fun (_ : Nat) => ?_ | refine Ord.go ?_ | refine Run.go rfl ?_ | refine Cont.go rfl ?_ | refine OrdP.go ?_)
    refine ⟨encX x, map_at encX ex, ?_⟩
    repeat (first | refine OpsA.cons ?_ | refine OpsA.nil ?_ | refine OrdA.cons rfl ?_ | refine OrdA.nil ?_ | refine OrdW.cons rfl ?_ | refine OrdW.nil ?_ | refine OrdK.cons rfl ?_ | refine OrdK.nil ?_ | refine OrdN.one rfl ?_ | refine OrdN.nil ?_ | refine Run.textA C_ok (aopC_sound C_ok) ?_ | refine And.intro rfl ?_ | refine And.intro (Nat.le_of_ble_eq_true rfl) ?_ | refine And.intro (Int.natCast_nonneg _) ?_ | refine fun (_ : Nat) => ?_ | refine Ord.go ?_ | refine Run.go rfl ?_ | refine Cont.go rfl ?_ | refine OrdP.go ?_)
    rename_i gx
    refine ⟨fun ho => ?_, fun ho => ?_⟩
    · have ho : x.o = s := ho
      repeat (first | refine OpsA.cons ?_ | refine OpsA.nil ?_ | refine OrdA.cons rfl ?_ | refine OrdA.nil ?_ | refine OrdW.cons rfl ?_ | refine OrdW.nil ?_ | refine OrdK.cons rfl ?_ | refine OrdK.nil ?_ | refine OrdN.one rfl ?_ | refine OrdN.nil ?_ | refine Run.textA C_ok (aopC_sound C_ok) ?_ | refine And.intro rfl ?_ | refine And.intro (Nat.le_of_ble_eq_true rfl) ?_ | refine And.intro (Int.natCast_nonneg _) ?_ | refine fun (_ : Nat) => ?_ | refine Ord.go ?_ | refine Run.go rfl ?_ | refine Cont.go rfl ?_ | refine OrdP.go ?_)
      refine ⟨fun h0 => ?_, fun h0 => ?_⟩
      · have h0 : 0 < s := h0
        have hg : goes s x = true := decide_eq_true ⟨ho, h0⟩
        rw [List.filter_cons_of_pos hg] at hK
        rw [List.filter_cons_of_neg (by simp [hg])] at hJ
        have hkl : k < cs.length := by
          refine Classical.byContradiction fun hn => ?_
          rw [List.drop_of_length_le (by omega)] at hK; cases hK
        obtain ⟨y, ey⟩ : ∃ y, cs[k]? = some y := ⟨_, List.getElem?_eq_getElem hkl⟩
        have eyx : y = goneC x ∧ cs.drop (k + 1) = ((l.drop (i + 1)).filter (goes s)).map goneC := by
          obtain ⟨g1, g2⟩ := List.getElem?_eq_some_iff.1 ey
          rw [List.drop_eq_getElem_cons g1, g2, List.map_cons] at hK
          exact List.cons.inj hK
        obtain ⟨rfl, hK2⟩ := eyx
        repeat (first | refine OpsA.cons ?_ | refine OpsA.nil ?_ | refine OrdA.cons rfl ?_ | refine OrdA.nil ?_ | refine OrdW.cons rfl ?_ | refine OrdW.nil ?_ | refine OrdK.cons rfl ?_ | refine OrdK.nil ?_ | refine OrdN.one rfl ?_ | refine OrdN.nil ?_ | refine Run.textA C_ok (aopC_sound C_ok) ?_ | refine And.intro rfl ?_ | refine And.intro (Nat.le_of_ble_eq_true rfl) ?_ | refine And.intro (Int.natCast_nonneg _) ?_ | refine fun (_ : Nat) => ?_ | refine Ord.go ?_ | refine Run.go rfl ?_ | refine Cont.go rfl ?_ | refine OrdP.go ?_)
        refine Run.drawnK C_ok (aopC_sound C_ok) [4] [0, 1, 2, 3, 4, 5, 6, 7, 8, 9, 10, 11, 12, 13, 14, 15] (by kernel_rfl) ?_
        repeat (first | refine OpsA.cons ?_ | refine OpsA.nil ?_ | refine OrdA.cons rfl ?_ | refine OrdA.nil ?_ | refine OrdW.cons rfl ?_ | refine OrdW.nil ?_ | refine OrdK.cons rfl ?_ | refine OrdK.nil ?_ | refine OrdN.one rfl ?_ | refine OrdN.nil ?_ | refine Run.textA C_ok (aopC_sound C_ok) ?_ | refine And.intro rfl ?_ | refine And.intro (Nat.le_of_ble_eq_true rfl) ?_ | refine And.intro (Int.natCast_nonneg _) ?_ | refine fun (_ : Nat) => ?_ | refine Ord.go ?_ | refine Run.go rfl ?_ | refine Cont.go rfl ?_ | refine OrdP.go ?_)
        refine ⟨fun hge => absurd hge (by show ¬ (k : Int) ≥ (cs.length : Int); omega), fun hge => ?_⟩
        repeat (first | refine OpsA.cons ?_ | refine OpsA.nil ?_ | refine OrdA.cons rfl ?_ | refine OrdA.nil ?_ | refine OrdW.cons rfl ?_ | refine OrdW.nil ?_ | refine OrdK.cons rfl ?_ | refine OrdK.nil ?_ | refine OrdN.one rfl ?_ | refine OrdN.nil ?_ | refine Run.textA C_ok (aopC_sound C_ok) ?_ | refine And.intro rfl ?_ | refine And.intro (Nat.le_of_ble_eq_true rfl) ?_ | refine And.intro (Int.natCast_nonneg _) ?_ | refine fun (_ : Nat) => ?_ | refine Ord.go ?_ | refine Run.go rfl ?_ | refine Cont.go rfl ?_ | refine OrdP.go ?_)
        refine ⟨show (k : Int) < (cs.length : Int) by omega, ?_⟩
        repeat (first | refine OpsA.cons ?_ | refine OpsA.nil ?_ | refine OrdA.cons rfl ?_ | refine OrdA.nil ?_ | refine OrdW.cons rfl ?_ | refine OrdW.nil ?_ | refine OrdK.cons rfl ?_ | refine OrdK.nil ?_ | refine OrdN.one rfl ?_ | refine OrdN.nil ?_ | refine Run.textA C_ok (aopC_sound C_ok) ?_ | refine And.intro rfl ?_ | refine And.intro (Nat.le_of_ble_eq_true rfl) ?_ | refine And.intro (Int.natCast_nonneg _) ?_ | refine fun (_ : Nat) => ?_ | refine Ord.go ?_ | refine Run.go rfl ?_ | refine Cont.go rfl ?_ | refine OrdP.go ?_)
        refine ⟨encC (goneC x), map_at encC ey, ?_⟩
        repeat (first | refine OpsA.cons ?_ | refine OpsA.nil ?_ | refine OrdA.cons rfl ?_ | refine OrdA.nil ?_ | refine OrdW.cons rfl ?_ | refine OrdW.nil ?_ | refine OrdK.cons rfl ?_ | refine OrdK.nil ?_ | refine OrdN.one rfl ?_ | refine OrdN.nil ?_ | refine Run.textA C_ok (aopC_sound C_ok) ?_ | refine And.intro rfl ?_ | refine And.intro (Nat.le_of_ble_eq_true rfl) ?_ | refine And.intro (Int.natCast_nonneg _) ?_ | refine fun (_ : Nat) => ?_ | refine Ord.go ?_ | refine Run.go rfl ?_ | refine Cont.go rfl ?_ | refine OrdP.go ?_)
        refine ⟨fun hne => absurd ((chg_eq (goneC x) (goneC x)).2 rfl) hne, fun _ => ?_⟩
        repeat (first | refine OpsA.cons ?_ | refine OpsA.nil ?_ | refine OrdA.cons rfl ?_ | refine OrdA.nil ?_ | refine OrdW.cons rfl ?_ | refine OrdW.nil ?_ | refine OrdK.cons rfl ?_ | refine OrdK.nil ?_ | refine OrdN.one rfl ?_ | refine OrdN.nil ?_ | refine Run.textA C_ok (aopC_sound C_ok) ?_ | refine And.intro rfl ?_ | refine And.intro (Nat.le_of_ble_eq_true rfl) ?_ | refine And.intro (Int.natCast_nonneg _) ?_ | refine fun (_ : Nat) => ?_ | refine Ord.go ?_ | refine Run.go rfl ?_ | refine Cont.go rfl ?_ | refine OrdP.go ?_)
        refine fun r hr => ?_
        obtain rfl := add1 hr (by omega)
        repeat (first | refine OpsA.cons ?_ | refine OpsA.nil ?_ | refine OrdA.cons rfl ?_ | refine OrdA.nil ?_ | refine OrdW.cons rfl ?_ | refine OrdW.nil ?_ | refine OrdK.cons rfl ?_ | refine OrdK.nil ?_ | refine OrdN.one rfl ?_ | refine OrdN.nil ?_ | refine Run.textA C_ok (aopC_sound C_ok) ?_ | refine And.intro rfl ?_ | refine And.intro (Nat.le_of_ble_eq_true rfl) ?_ | refine And.intro (Int.natCast_nonneg _) ?_ | refine fun (_ : Nat) => ?_ | refine Ord.go ?_ | refine Run.go rfl ?_ | refine Cont.go rfl ?_ | refine OrdP.go ?_)
        refine fun r hr => ?_
        obtain rfl := add1 hr (by omega)
        repeat (first | refine OpsA.cons ?_ | refine OpsA.nil ?_ | refine OrdA.cons rfl ?_ | refine OrdA.nil ?_ | refine OrdW.cons rfl ?_ | refine OrdW.nil ?_ | refine OrdK.cons rfl ?_ | refine OrdK.nil ?_ | refine OrdN.one rfl ?_ | refine OrdN.nil ?_ | refine Run.textA C_ok (aopC_sound C_ok) ?_ | refine And.intro rfl ?_ | refine And.intro (Nat.le_of_ble_eq_true rfl) ?_ | refine And.intro (Int.natCast_nonneg _) ?_ | refine fun (_ : Nat) => ?_ | refine Ord.go ?_ | refine Run.go rfl ?_ | refine Cont.go rfl ?_ | refine OrdP.go ?_)
        refine Cont.lpW ?_
        refine ⟨l.length - (i + 1), _, _, by omega, Weak.sel ?_ [0, 1, 2, 3] (by decide) ?_, ⟨i + 1, k + 1, j, rfl, by omega, by omega, by omega, by omega, hK2, hJ, rfl, rfl⟩⟩
        · repeat (first | exact trivial | refine And.intro (Sub.junk _) ?_ | refine And.intro (Sub.refl _) ?_ | refine And.intro (Sub.sl _ _ _ _ _) ?_ | refine And.intro (Sub.ptr _ _ _ _) ?_)
        · repeat (first | exact trivial | refine And.intro rfl ?_ | refine And.intro (SubO.refl _) ?_ | refine And.intro trivial ?_ | refine And.intro (SubO.cells (by repeat (first | exact trivial | refine And.intro (Sub.refl _) ?_ | refine And.intro (Sub.sl _ _ _ _ _) ?_ | refine And.intro (Sub.ptr _ _ _ _) ?_))) ?_)
      · have h0 : ¬ 0 < s := h0
        have hg : goes s x = false := decide_eq_false fun e => h0 e.2
        rw [List.filter_cons_of_neg (by simp [hg])] at hK
        rw [List.filter_cons_of_pos (by simp [hg])] at hJ
        have hjl : j < l2.length := by
          refine Classical.byContradiction fun hn => ?_
          rw [List.drop_of_length_le (by omega)] at hJ; cases hJ
        obtain ⟨y, ey⟩ : ∃ y, l2[j]? = some y := ⟨_, List.getElem?_eq_getElem hjl⟩
        have eyx : x = y ∧ l2.drop (j + 1) = (l.drop (i + 1)).filter (fun x => !goes s x) := by
          obtain ⟨g1, g2⟩ := List.getElem?_eq_some_iff.1 ey
          rw [List.drop_eq_getElem_cons g1, g2] at hJ
          exact ⟨(List.cons.inj hJ).1.symm, (List.cons.inj hJ).2⟩
        repeat (first | refine OpsA.cons ?_ | refine OpsA.nil ?_ | refine OrdA.cons rfl ?_ | refine OrdA.nil ?_ | refine OrdW.cons rfl ?_ | refine OrdW.nil ?_ | refine OrdK.cons rfl ?_ | refine OrdK.nil ?_ | refine OrdN.one rfl ?_ | refine OrdN.nil ?_ | refine Run.textA C_ok (aopC_sound C_ok) ?_ | refine And.intro rfl ?_ | refine And.intro (Nat.le_of_ble_eq_true rfl) ?_ | refine And.intro (Int.natCast_nonneg _) ?_ | refine fun (_ : Nat) => ?_ | refine Ord.go ?_ | refine Run.go rfl ?_ | refine Cont.go rfl ?_ | refine OrdP.go ?_)
        obtain ⟨rfl, hJ2⟩ := eyx
        refine Run.drawnK C_ok (aopC_sound C_ok) [3, 4] [0, 1, 2, 3, 4, 5, 6, 7, 8, 9, 10, 11] (by kernel_rfl) ?_
        repeat (first | refine OpsA.cons ?_ | refine OpsA.nil ?_ | refine OrdA.cons rfl ?_ | refine OrdA.nil ?_ | refine OrdW.cons rfl ?_ | refine OrdW.nil ?_ | refine OrdK.cons rfl ?_ | refine OrdK.nil ?_ | refine OrdN.one rfl ?_ | refine OrdN.nil ?_ | refine Run.textA C_ok (aopC_sound C_ok) ?_ | refine And.intro rfl ?_ | refine And.intro (Nat.le_of_ble_eq_true rfl) ?_ | refine And.intro (Int.natCast_nonneg _) ?_ | refine fun (_ : Nat) => ?_ | refine Ord.go ?_ | refine Run.go rfl ?_ | refine Cont.go rfl ?_ | refine OrdP.go ?_)
        refine ⟨fun hge => absurd hge (by show ¬ (l2.length : Int) ≤ (j : Int); omega), fun hge => ?_⟩
        repeat (first | refine OpsA.cons ?_ | refine OpsA.nil ?_ | refine OrdA.cons rfl ?_ | refine OrdA.nil ?_ | refine OrdW.cons rfl ?_ | refine OrdW.nil ?_ | refine OrdK.cons rfl ?_ | refine OrdK.nil ?_ | refine OrdN.one rfl ?_ | refine OrdN.nil ?_ | refine Run.textA C_ok (aopC_sound C_ok) ?_ | refine And.intro rfl ?_ | refine And.intro (Nat.le_of_ble_eq_true rfl) ?_ | refine And.intro (Int.natCast_nonneg _) ?_ | refine fun (_ : Nat) => ?_ | refine Ord.go ?_ | refine Run.go rfl ?_ | refine Cont.go rfl ?_ | refine OrdP.go ?_)
        refine ⟨show (j : Int) < (l2.length : Int) by omega, ?_⟩
        repeat (first | refine OpsA.cons ?_ | refine OpsA.nil ?_ | refine OrdA.cons rfl ?_ | refine OrdA.nil ?_ | refine OrdW.cons rfl ?_ | refine OrdW.nil ?_ | refine OrdK.cons rfl ?_ | refine OrdK.nil ?_ | refine OrdN.one rfl ?_ | refine OrdN.nil ?_ | refine Run.textA C_ok (aopC_sound C_ok) ?_ | refine And.intro rfl ?_ | refine And.intro (Nat.le_of_ble_eq_true rfl) ?_ | refine And.intro (Int.natCast_nonneg _) ?_ | refine fun (_ : Nat) => ?_ | refine Ord.go ?_ | refine Run.go rfl ?_ | refine Cont.go rfl ?_ | refine OrdP.go ?_)
        refine ⟨encX x, map_at encX ey, ?_⟩
        repeat (first | refine OpsA.cons ?_ | refine OpsA.nil ?_ | refine OrdA.cons rfl ?_ | refine OrdA.nil ?_ | refine OrdW.cons rfl ?_ | refine OrdW.nil ?_ | refine OrdK.cons rfl ?_ | refine OrdK.nil ?_ | refine OrdN.one rfl ?_ | refine OrdN.nil ?_ | refine Run.textA C_ok (aopC_sound C_ok) ?_ | refine And.intro rfl ?_ | refine And.intro (Nat.le_of_ble_eq_true rfl) ?_ | refine And.intro (Int.natCast_nonneg _) ?_ | refine fun (_ : Nat) => ?_ | refine Ord.go ?_ | refine Run.go rfl ?_ | refine Cont.go rfl ?_ | refine OrdP.go ?_)
        refine ⟨fun hne => absurd ((fx_eq x x).2 rfl) hne, fun _ => ?_⟩
        repeat (first | refine OpsA.cons ?_ | refine OpsA.nil ?_ | refine OrdA.cons rfl ?_ | refine OrdA.nil ?_ | refine OrdW.cons rfl ?_ | refine OrdW.nil ?_ | refine OrdK.cons rfl ?_ | refine OrdK.nil ?_ | refine OrdN.one rfl ?_ | refine OrdN.nil ?_ | refine Run.textA C_ok (aopC_sound C_ok) ?_ | refine And.intro rfl ?_ | refine And.intro (Nat.le_of_ble_eq_true rfl) ?_ | refine And.intro (Int.natCast_nonneg _) ?_ | refine fun (_ : Nat) => ?_ | refine Ord.go ?_ | refine Run.go rfl ?_ | refine Cont.go rfl ?_ | refine OrdP.go ?_)
        refine fun r hr => ?_
        obtain rfl := add1 hr (by omega)
        repeat (first | refine OpsA.cons ?_ | refine OpsA.nil ?_ | refine OrdA.cons rfl ?_ | refine OrdA.nil ?_ | refine OrdW.cons rfl ?_ | refine OrdW.nil ?_ | refine OrdK.cons rfl ?_ | refine OrdK.nil ?_ | refine OrdN.one rfl ?_ | refine OrdN.nil ?_ | refine Run.textA C_ok (aopC_sound C_ok) ?_ | refine And.intro rfl ?_ | refine And.intro (Nat.le_of_ble_eq_true rfl) ?_ | refine And.intro (Int.natCast_nonneg _) ?_ | refine fun (_ : Nat) => ?_ | refine Ord.go ?_ | refine Run.go rfl ?_ | refine Cont.go rfl ?_ | refine OrdP.go ?_)
        refine fun r hr => ?_
        obtain rfl := add1 hr (by omega)
        repeat (first | refine OpsA.cons ?_ | refine OpsA.nil ?_ | refine OrdA.cons rfl ?_ | refine OrdA.nil ?_ | refine OrdW.cons rfl ?_ | refine OrdW.nil ?_ | refine OrdK.cons rfl ?_ | refine OrdK.nil ?_ | refine OrdN.one rfl ?_ | refine OrdN.nil ?_ | refine Run.textA C_ok (aopC_sound C_ok) ?_ | refine And.intro rfl ?_ | refine And.intro (Nat.le_of_ble_eq_true rfl) ?_ | refine And.intro (Int.natCast_nonneg _) ?_ | refine fun (_ : Nat) => ?_ | refine Ord.go ?_ | refine Run.go rfl ?_ | refine Cont.go rfl ?_ | refine OrdP.go ?_)
        refine Cont.lpW ?_
        refine ⟨l.length - (i + 1), _, _, by omega, Weak.sel ?_ [0, 1, 2, 3] (by decide) ?_, ⟨i + 1, k, j + 1, rfl, by omega, by omega, by omega, by omega, hK, hJ2, rfl, rfl⟩⟩
        · repeat (first | exact trivial | refine And.intro (Sub.junk _) ?_ | refine And.intro (Sub.refl _) ?_ | refine And.intro (Sub.sl _ _ _ _ _) ?_ | refine And.intro (Sub.ptr _ _ _ _) ?_)
        · repeat (first | exact trivial | refine And.intro rfl ?_ | refine And.intro (SubO.refl _) ?_ | refine And.intro trivial ?_ | refine And.intro (SubO.cells (by repeat (first | exact trivial | refine And.intro (Sub.refl _) ?_ | refine And.intro (Sub.sl _ _ _ _ _) ?_ | refine And.intro (Sub.ptr _ _ _ _) ?_))) ?_)
    · have ho : ¬ x.o = s := ho
      repeat (first | refine OpsA.cons ?_ | refine OpsA.nil ?_ | refine OrdA.cons rfl ?_ | refine OrdA.nil ?_ | refine OrdW.cons rfl ?_ | refine OrdW.nil ?_ | refine OrdK.cons rfl ?_ | refine OrdK.nil ?_ | refine OrdN.one rfl ?_ | refine OrdN.nil ?_ | refine Run.textA C_ok (aopC_sound C_ok) ?_ | refine And.intro rfl ?_ | refine And.intro (Nat.le_of_ble_eq_true rfl) ?_ | refine And.intro (Int.natCast_nonneg _) ?_ | refine fun (_ : Nat) => ?_ | refine Ord.go ?_ | refine Run.go rfl ?_ | refine Cont.go rfl ?_ | refine OrdP.go ?_)
      have hg : goes s x = false := decide_eq_false fun e => ho e.1
      rw [List.filter_cons_of_neg (by simp [hg])] at hK
      rw [List.filter_cons_of_pos (by simp [hg])] at hJ
      have hjl : j < l2.length := by
        refine Classical.byContradiction fun hn => ?_
        rw [List.drop_of_length_le (by omega)] at hJ; cases hJ
      obtain ⟨y, ey⟩ : ∃ y, l2[j]? = some y := ⟨_, List.getElem?_eq_getElem hjl⟩
      have eyx : x = y ∧ l2.drop (j + 1) = (l.drop (i + 1)).filter (fun x => !goes s x) := by
        obtain ⟨g1, g2⟩ := List.getElem?_eq_some_iff.1 ey
        rw [List.drop_eq_getElem_cons g1, g2] at hJ
        exact ⟨(List.cons.inj hJ).1.symm, (List.cons.inj hJ).2⟩
      obtain ⟨rfl, hJ2⟩ := eyx
      refine Run.drawnK C_ok (aopC_sound C_ok) [3, 4] [0, 1, 2, 3, 4, 5, 6, 7, 8, 9, 10, 11] (by kernel_rfl) ?_
      repeat (first | refine OpsA.cons ?_ | refine OpsA.nil ?_ | refine OrdA.cons rfl ?_ | refine OrdA.nil ?_ | refine OrdW.cons rfl ?_ | refine OrdW.nil ?_ | refine OrdK.cons rfl ?_ | refine OrdK.nil ?_ | refine OrdN.one rfl ?_ | refine OrdN.nil ?_ | refine Run.textA C_ok (aopC_sound C_ok) ?_ | refine And.intro rfl ?_ | refine And.intro (Nat.le_of_ble_eq_true rfl) ?_ | refine And.intro (Int.natCast_nonneg _) ?_ | refine fun (_ : Nat) => ?_ | refine Ord.go ?_ | refine Run.go rfl ?_ | refine Cont.go rfl ?_ | refine OrdP.go ?_)
      refine ⟨fun hge => absurd hge (by show ¬ (l2.length : Int) ≤ (j : Int); omega), fun hge => ?_⟩
      repeat (first | refine OpsA.cons ?_ | refine OpsA.nil ?_ | refine OrdA.cons rfl ?_ | refine OrdA.nil ?_ | refine OrdW.cons rfl ?_ | refine OrdW.nil ?_ | refine OrdK.cons rfl ?_ | refine OrdK.nil ?_ | refine OrdN.one rfl ?_ | refine OrdN.nil ?_ | refine Run.textA C_ok (aopC_sound C_ok) ?_ | refine And.intro rfl ?_ | refine And.intro (Nat.le_of_ble_eq_true rfl) ?_ | refine And.intro (Int.natCast_nonneg _) ?_ | refine fun (_ : Nat) => ?_ | refine Ord.go ?_ | refine Run.go rfl ?_ | refine Cont.go rfl ?_ | refine OrdP.go ?_)
      refine ⟨show (j : Int) < (l2.length : Int) by omega, ?_⟩
      repeat (first | refine OpsA.cons ?_ | refine OpsA.nil ?_ | refine OrdA.cons rfl ?_ | refine OrdA.nil ?_ | refine OrdW.cons rfl ?_ | refine OrdW.nil ?_ | refine OrdK.cons rfl ?_ | refine OrdK.nil ?_ | refine OrdN.one rfl ?_ | refine OrdN.nil ?_ | refine Run.textA C_ok (aopC_sound C_ok) ?_ | refine And.intro rfl ?_ | refine And.intro (Nat.le_of_ble_eq_true rfl) ?_ | refine And.intro (Int.natCast_nonneg _) ?_ | refine fun (_ : Nat) => ?_ | refine Ord.go ?_ | refine Run.go rfl ?_ | refine Cont.go rfl ?_ | refine OrdP.go ?_)
      refine ⟨encX x, map_at encX ey, ?_⟩
      repeat (first | refine OpsA.cons ?_ | refine OpsA.nil ?_ | refine OrdA.cons rfl ?_ | refine OrdA.nil ?_ | refine OrdW.cons rfl ?_ | refine OrdW.nil ?_ | refine OrdK.cons rfl ?_ | refine OrdK.nil ?_ | refine OrdN.one rfl ?_ | refine OrdN.nil ?_ | refine Run.textA C_ok (aopC_sound C_ok) ?_ | refine And.intro rfl ?_ | refine And.intro (Nat.le_of_ble_eq_true rfl) ?_ | refine And.intro (Int.natCast_nonneg _) ?_ | refine fun (_ : Nat) => ?_ | refine Ord.go ?_ | refine Run.go rfl ?_ | refine Cont.go rfl ?_ | refine OrdP.go ?_)
      refine ⟨fun hne => absurd ((fx_eq x x).2 rfl) hne, fun _ => ?_⟩
      repeat (first | refine OpsA.cons ?_ | refine OpsA.nil ?_ | refine OrdA.cons rfl ?_ | refine OrdA.nil ?_ | refine OrdW.cons rfl ?_ | refine OrdW.nil ?_ | refine OrdK.cons rfl ?_ | refine OrdK.nil ?_ | refine OrdN.one rfl ?_ | refine OrdN.nil ?_ | refine Run.textA C_ok (aopC_sound C_ok) ?_ | refine And.intro rfl ?_ | refine And.intro (Nat.le_of_ble_eq_true rfl) ?_ | refine And.intro (Int.natCast_nonneg _) ?_ | refine fun (_ : Nat) => ?_ | refine Ord.go ?_ | refine Run.go rfl ?_ | refine Cont.go rfl ?_ | refine OrdP.go ?_)
      refine fun r hr => ?_
      obtain rfl := add1 hr (by omega)
      repeat (first | refine OpsA.cons ?_ | refine OpsA.nil ?_ | refine OrdA.cons rfl ?_ | refine OrdA.nil ?_ | refine OrdW.cons rfl ?_ | refine OrdW.nil ?_ | refine OrdK.cons rfl ?_ | refine OrdK.nil ?_ | refine OrdN.one rfl ?_ | refine OrdN.nil ?_ | refine Run.textA C_ok (aopC_sound C_ok) ?_ | refine And.intro rfl ?_ | refine And.intro (Nat.le_of_ble_eq_true rfl) ?_ | refine And.intro (Int.natCast_nonneg _) ?_ | refine fun (_ : Nat) => ?_ | refine Ord.go ?_ | refine Run.go rfl ?_ | refine Cont.go rfl ?_ | refine OrdP.go ?_)
      refine fun r hr => ?_
      obtain rfl := add1 hr (by omega)
      repeat (first | refine OpsA.cons ?_ | refine OpsA.nil ?_ | refine OrdA.cons rfl ?_ | refine OrdA.nil ?_ | refine OrdW.cons rfl ?_ | refine OrdW.nil ?_ | refine OrdK.cons rfl ?_ | refine OrdK.nil ?_ | refine OrdN.one rfl ?_ | refine OrdN.nil ?_ | refine Run.textA C_ok (aopC_sound C_ok) ?_ | refine And.intro rfl ?_ | refine And.intro (Nat.le_of_ble_eq_true rfl) ?_ | refine And.intro (Int.natCast_nonneg _) ?_ | refine fun (_ : Nat) => ?_ | refine Ord.go ?_ | refine Run.go rfl ?_ | refine Cont.go rfl ?_ | refine OrdP.go ?_)
      refine Cont.lpW ?_
      refine ⟨l.length - (i + 1), _, _, by omega, Weak.sel ?_ [0, 1, 2, 3] (by decide) ?_, ⟨i + 1, k, j + 1, rfl, by omega, by omega, by omega, by omega, hK, hJ2, rfl, rfl⟩⟩
      · repeat (first | exact trivial | refine And.intro (Sub.junk _) ?_ | refine And.intro (Sub.refl _) ?_ | refine And.intro (Sub.sl _ _ _ _ _) ?_ | refine And.intro (Sub.ptr _ _ _ _) ?_)
      · repeat (first | exact trivial | refine And.intro rfl ?_ | refine And.intro (SubO.refl _) ?_ | refine And.intro trivial ?_ | refine And.intro (SubO.cells (by repeat (first | exact trivial | refine And.intro (Sub.refl _) ?_ | refine And.intro (Sub.sl _ _ _ _ _) ?_ | refine And.intro (Sub.ptr _ _ _ _) ?_))) ?_)
  · have h : ¬ (i : Int) < (l.length : Int) := h
    have ei : i = l.length := by omega
    subst ei
    rw [List.drop_length] at hK hJ
    repeat (first | refine OpsA.cons ?_ | refine OpsA.nil ?_ | refine OrdA.cons rfl ?_ | refine OrdA.nil ?_ | refine OrdW.cons rfl ?_ | refine OrdW.nil ?_ | refine OrdK.cons rfl ?_ | refine OrdK.nil ?_ | refine OrdN.one rfl ?_ | refine OrdN.nil ?_ | refine Run.textA C_ok (aopC_sound C_ok) ?_ | refine And.intro rfl ?_ | refine And.intro (Nat.le_of_ble_eq_true rfl) ?_ | refine And.intro (Int.natCast_nonneg _) ?_ | refine fun (_ : Nat) => ?_ | refine Ord.go ?_ | refine Run.go rfl ?_ | refine Cont.go rfl ?_ | refine OrdP.go ?_)
    refine ACallT.ok (ACall.sel [0, 1] (by decide) [.ptr 0 gt 0, .int .i64 s] _ (.two (Sub.refl _) (Sub.refl _)) (end_spec gt gm hT2 hI2 s) ?_)
    intro r L' hq
    obtain ⟨es3, cl3, hT3, rfl, rfl⟩ := hq
    have e3 : (endF l2 s).2 = [] := by rw [← e2]; exact endF_twice l s
    rw [e3]
    refine ⟨_, Sub.refl _, ?_⟩
    repeat (first | refine OpsA.cons ?_ | refine OpsA.nil ?_ | refine OrdA.cons rfl ?_ | refine OrdA.nil ?_ | refine OrdW.cons rfl ?_ | refine OrdW.nil ?_ | refine OrdK.cons rfl ?_ | refine OrdK.nil ?_ | refine OrdN.one rfl ?_ | refine OrdN.nil ?_ | refine Run.textA C_ok (aopC_sound C_ok) ?_ | refine And.intro rfl ?_ | refine And.intro (Nat.le_of_ble_eq_true rfl) ?_ | refine And.intro (Int.natCast_nonneg _) ?_ | refine fun (_ : Nat) => ?_ | refine Ord.go ?_ | refine Run.go rfl ?_ | refine Cont.go rfl ?_ | refine OrdP.go ?_)
    have ek : k = cs.length := by
      have := congrArg List.length hK
      rw [List.length_drop] at this
      simp at this; omega
    have ej : j = l2.length := by
      have := congrArg List.length hJ
      rw [List.length_drop] at this
      simp at this; omega
    refine ⟨fun _ => ?_, fun h => absurd (show (k : Int) = (cs.length : Int) by omega) h⟩
    repeat (first | refine OpsA.cons ?_ | refine OpsA.nil ?_ | refine OrdA.cons rfl ?_ | refine OrdA.nil ?_ | refine OrdW.cons rfl ?_ | refine OrdW.nil ?_ | refine OrdK.cons rfl ?_ | refine OrdK.nil ?_ | refine OrdN.one rfl ?_ | refine OrdN.nil ?_ | refine Run.textA C_ok (aopC_sound C_ok) ?_ | refine And.intro rfl ?_ | refine And.intro (Nat.le_of_ble_eq_true rfl) ?_ | refine And.intro (Int.natCast_nonneg _) ?_ | refine fun (_ : Nat) => ?_ | refine Ord.go ?_ | refine Run.go rfl ?_ | refine Cont.go rfl ?_ | refine OrdP.go ?_)
    refine ⟨fun _ => ?_, fun h => absurd (show (j : Int) = (l2.length : Int) by omega) h⟩
    repeat (first | refine OpsA.cons ?_ | refine OpsA.nil ?_ | refine OrdA.cons rfl ?_ | refine OrdA.nil ?_ | refine OrdW.cons rfl ?_ | refine OrdW.nil ?_ | refine OrdK.cons rfl ?_ | refine OrdK.nil ?_ | refine OrdN.one rfl ?_ | refine OrdN.nil ?_ | refine Run.textA C_ok (aopC_sound C_ok) ?_ | refine And.intro rfl ?_ | refine And.intro (Nat.le_of_ble_eq_true rfl) ?_ | refine And.intro (Int.natCast_nonneg _) ?_ | refine fun (_ : Nat) => ?_ | refine Ord.go ?_ | refine Run.go rfl ?_ | refine Cont.go rfl ?_ | refine OrdP.go ?_)
    refine ⟨fun _ => ?_, fun h => absurd rfl h⟩
    repeat (first | refine OpsA.cons ?_ | refine OpsA.nil ?_ | refine OrdA.cons rfl ?_ | refine OrdA.nil ?_ | refine OrdW.cons rfl ?_ | refine OrdW.nil ?_ | refine OrdK.cons rfl ?_ | refine OrdK.nil ?_ | refine OrdN.one rfl ?_ | refine OrdN.nil ?_ | refine Run.textA C_ok (aopC_sound C_ok) ?_ | refine And.intro rfl ?_ | refine And.intro (Nat.le_of_ble_eq_true rfl) ?_ | refine And.intro (Int.natCast_nonneg _) ?_ | refine fun (_ : Nat) => ?_ | refine Ord.go ?_ | refine Run.go rfl ?_ | refine Cont.go rfl ?_ | refine OrdP.go ?_)
    refine ACallT.ok (ACall.ret known_spec ?_)
    repeat (first | refine OpsA.cons ?_ | refine OpsA.nil ?_ | refine OrdA.cons rfl ?_ | refine OrdA.nil ?_ | refine OrdW.cons rfl ?_ | refine OrdW.nil ?_ | refine OrdK.cons rfl ?_ | refine OrdK.nil ?_ | refine OrdN.one rfl ?_ | refine OrdN.nil ?_ | refine Run.textA C_ok (aopC_sound C_ok) ?_ | refine And.intro rfl ?_ | refine And.intro (Nat.le_of_ble_eq_true rfl) ?_ | refine And.intro (Int.natCast_nonneg _) ?_ | refine fun (_ : Nat) => ?_ | refine Ord.go ?_ | refine Run.go rfl ?_ | refine Cont.go rfl ?_ | refine OrdP.go ?_)
    exact ⟨_, [], FinOk.drop _ _, rfl, rfl⟩
end Go.Proofs.YtiikjcdjgmlcgaaDoor.HBT
/- Proved: the law TreeGone returns true for every input, and its argument reads behind the call as it read before; what the row lists is tied to the program's text. Conditions: none beside the card's own. -/
namespace Go.Proofs.YtiikjcdjgmlcgaaDoor.HBT
open Go Go.Proofs.YtiikjcdjgmlcgaaDoor.HB Go.Proofs.YtiikjcdjgmlcgaaDoor Go.ChangeShapes Go.WideShapes Go.ChangeAt Go.RowKit Go.Lib
set_option maxRecDepth 8000

set_option maxRecDepth 100000 in
theorem gone_lifted (os : Os) (started : os.Started) (H : Type) (enc : TypeId × Value → H) :
    ReturnsInHanded {} Tryd.checked os 5 .any (fun w args => (Rows.treeGoneSpec.pre enc Tryd.prog Tryd.f5 [] false w args ∧ laidMetH Tryd.prog laid w) ∧ sizedMet enc Tryd.prog Tryd.f5 (OpenSpec.ofChange Rows.treeGoneSpec) false w args)
      (Rows.treeGoneSpec.post enc Tryd.prog Tryd.f5 false true false false) := by
  refine returns_and_shaped (C := Tryd.checked) (X := fun w _ => laidMetH Tryd.prog laid w) (fun _ _ _ hh h => h.of_heap hh) own started (by kernel_rfl) Tryd.func5
    (ChangeSpec.witness_shaped (enc := enc) (C := Tryd.checked) (os := os) (X := fun w _ => laidMetH Tryd.prog laid w) false (World.laidAll Tryd.prog os laid) #[.slice none 0 0, .int .i64 0] 8 (World.laidAll_os _ _ _)
      (door_shape os _) (by kernel_rfl) (by kernel_rfl) (by kernel_rfl) (door_met os _)) ?_
  intro W base args ds gs before hval hW hL hs
  refine law_contract (C := C) (tb := 4) 8 laidOut (by kernel_rfl) (by kernel_rfl) (by kernel_rfl) Tryd.underlying4 ?_ ?_ ?_ (G_of hL hs) hval hW
  · intro W W' gs q _ h
    cases gs with
    | nil => exact h
    | cons => exact h.elim
  · intro ds gs hd hg
    match ds, gs, hd, hg with
    | [d1, d2], [], _, _ => exact ⟨rfl, rfl, rfl⟩
  · intro xs hxs
    have hxs : ArgsOk Tryd.prog [22, 3] xs := hxs
    cases hxs with
    | cons h1 h =>
      cases h with
      | cons h2 h =>
        cases h
        obtain ⟨xs, n, hn, hok, rfl⟩ := steps_arg h1
        obtain ⟨s, rfl⟩ := int_arg h2
        exact lawGone_spec xs n hn hok s

theorem gone_row : Rows.TreeGoneSaid :=
  OpenClaim.holds_of_wide 5 Tryd.f5 rfl rfl rfl rfl rfl rfl rfl ⟨rfl, rfl, rfl, rfl, rfl⟩ rfl rfl rfl rfl rfl (by kernel_rfl) Tryd.func5 (by kernel_rfl)
    (of_decide_eq_true (by kernel_rfl)) (by unfold Func.isWrapper; rw [if_neg (by decide +kernel)]; exact ⟨rfl, rfl⟩)
    (fun os started H enc _ => gone_lifted os started H enc)

theorem gone_holds : Rows.TreeGoneCardSaid :=
  Claim7.holds_tied_plain_at .later [] [.data, .data, .data, .data, .data, .pinned] true (true, "7ba753d5ce2c5d382ab5afb780aaaca041cebf7d31a744ebad3649adf3f8148e") true
    gone_row (fun _ h => by cases h) (by kernel_rfl) (fun _ h => by cases h) treeGone_row_tie rfl ⟨rfl, rfl⟩ (by kernel_rfl) rfl
    (fun f fn hf hfn => by
      obtain rfl : f = 5 := Option.some.inj ((show Tryd.prog.funcNamed "herald/heraldlaw4.TreeGone" = some 5 by kernel_rfl).symm.trans hf) |>.symm
      obtain rfl : fn = Tryd.f5 := (Option.some.inj (Tryd.func5.symm.trans hfn)).symm
      exact ⟨by kernel_rfl, fun j t ht => by
        rw [Tryd.params5] at ht
        have hm : t ∈ [22, 3] := by simpa using Array.mem_of_getElem? ht
        have hall : ([22, 3].all fun u => !Tryd.prog.wantsStandIn u) = true := by kernel_rfl
        exact (show Tryd.prog.wantsStandIn t = false by simpa using List.all_eq_true.1 hall t hm)⟩)
    (by kernel_rfl)

end Go.Proofs.YtiikjcdjgmlcgaaDoor.HBT
