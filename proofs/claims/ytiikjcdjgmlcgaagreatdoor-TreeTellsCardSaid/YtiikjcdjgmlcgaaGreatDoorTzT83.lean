/- One op of a request, of kind 3. -/
import Derived.Test.YtiikjcdjgmlcgaaGreatDoorTzT4
namespace Go.Proofs.YtiikjcdjgmlcgaaGreatDoor.HBT
open Go Go.Proofs.YtiikjcdjgmlcgaaGreatDoor.HB Go.RowKit
set_option maxRecDepth 8000

set_option maxHeartbeats 8000000 in
theorem op_3 (gw gm gc : Nat) (s st : Int) (cs : List Chg) (cv : AV) (co : AObj) (hc : LC 2 cs cv gc co) (hcs : cs.length ≤ 100) {l : List Fu} {es : Array MapEntry} {cl : Nat} (hT : TM l es cl) (hi : TInv l) (p d : ByteArray) (v f : Int) :
    FnSpec C 49 [.ptr 0 gw 0, .agg [.int .i64 3, .str p, .str d, .int .i64 v, .int .i64 f]] (WorkL gw gm s st cv es cl gc co) (OneQ gw gm s st cs (playF l s st ⟨3, p, d, v, f⟩)) := by
  have err : ∀ e, playF l s st ⟨3, p, d, v, f⟩ = .error e → OneQ gw gm s st cs (playF l s st ⟨3, p, d, v, f⟩) (.tuple [zeroR, .int .i64 e]) [] := fun e he => by rw [he]; exact ⟨rfl, rfl⟩
  rw [play_3] at err ⊢
  refine FnSpec.start C_ok Tryz.func49 rfl rfl Tryz.ntmps49 ?_
  repeat (first | refine OpsA.cons ?_ | refine OpsA.nil ?_ | refine Run.textA C_ok (aopC_sound C_ok) ?_ | refine And.intro rfl ?_ | refine And.intro (Nat.le_of_ble_eq_true rfl) ?_ | refine And.intro (Int.natCast_nonneg _) ?_ | refine fun (_ : Nat) => ?_ | refine Run.go rfl ?_ | refine Cont.go rfl ?_)
  rename_i go gr
  refine ⟨fun h => absurd h (by decide), fun _ => ?_⟩
  repeat (first | refine OpsA.cons ?_ | refine OpsA.nil ?_ | refine Run.textA C_ok (aopC_sound C_ok) ?_ | refine And.intro rfl ?_ | refine And.intro (Nat.le_of_ble_eq_true rfl) ?_ | refine And.intro (Int.natCast_nonneg _) ?_ | refine fun (_ : Nat) => ?_ | refine Run.go rfl ?_ | refine Cont.go rfl ?_)
  refine ⟨fun h => absurd h (by decide), fun _ => ?_⟩
  repeat (first | refine OpsA.cons ?_ | refine OpsA.nil ?_ | refine Run.textA C_ok (aopC_sound C_ok) ?_ | refine And.intro rfl ?_ | refine And.intro (Nat.le_of_ble_eq_true rfl) ?_ | refine And.intro (Int.natCast_nonneg _) ?_ | refine fun (_ : Nat) => ?_ | refine Run.go rfl ?_ | refine Cont.go rfl ?_)
  refine ⟨fun h => absurd h (by decide), fun _ => ?_⟩
  repeat (first | refine OpsA.cons ?_ | refine OpsA.nil ?_ | refine Run.textA C_ok (aopC_sound C_ok) ?_ | refine And.intro rfl ?_ | refine And.intro (Nat.le_of_ble_eq_true rfl) ?_ | refine And.intro (Int.natCast_nonneg _) ?_ | refine fun (_ : Nat) => ?_ | refine Run.go rfl ?_ | refine Cont.go rfl ?_)
  refine ACallT.ok (ACall.ret (r0 := .agg [.bool true, .bool false, .bool true]) (needs_spec 3) ?_)
  repeat (first | refine OpsA.cons ?_ | refine OpsA.nil ?_ | refine Run.textA C_ok (aopC_sound C_ok) ?_ | refine And.intro rfl ?_ | refine And.intro (Nat.le_of_ble_eq_true rfl) ?_ | refine And.intro (Int.natCast_nonneg _) ?_ | refine fun (_ : Nat) => ?_ | refine Run.go rfl ?_ | refine Cont.go rfl ?_)
  refine Run.drawnK C_ok (aopC_sound C_ok) [0, 1, 3] [0, 1, 2, 3, 4, 5, 6, 7, 8, 9, 10, 11, 12] (by kernel_rfl) ?_
  repeat (first | refine OpsA.cons ?_ | refine OpsA.nil ?_ | refine OrdK.cons rfl ?_ | refine OrdK.nil ?_ | refine Run.textA C_ok (aopC_sound C_ok) ?_ | refine And.intro rfl ?_ | refine And.intro (Nat.le_of_ble_eq_true rfl) ?_ | refine And.intro (Int.natCast_nonneg _) ?_ | refine fun (_ : Nat) => ?_ | refine Run.go rfl ?_ | refine Cont.go rfl ?_)
  cases hf : findF l p with
  | none =>
    rw [hf] at err
    refine ⟨1, es, cl, none, by decide, rfl, hT.miss (findF_none hf), ?_⟩
    repeat (first | refine OpsA.cons ?_ | refine OpsA.nil ?_ | refine OrdK.cons rfl ?_ | refine OrdK.nil ?_ | refine Run.textA C_ok (aopC_sound C_ok) ?_ | refine And.intro rfl ?_ | refine And.intro (Nat.le_of_ble_eq_true rfl) ?_ | refine And.intro (Int.natCast_nonneg _) ?_ | refine fun (_ : Nat) => ?_ | refine Run.go rfl ?_ | refine Cont.go rfl ?_)
    refine ACallT.ok (ACall.ret (parse_code p) ?_)
    repeat (first | refine OpsA.cons ?_ | refine OpsA.nil ?_ | refine OrdK.cons rfl ?_ | refine OrdK.nil ?_ | refine Run.textA C_ok (aopC_sound C_ok) ?_ | refine And.intro rfl ?_ | refine And.intro (Nat.le_of_ble_eq_true rfl) ?_ | refine And.intro (Int.natCast_nonneg _) ?_ | refine fun (_ : Nat) => ?_ | refine Run.go rfl ?_ | refine Cont.go rfl ?_)
    refine ⟨fun h => ?_, fun h => ?_⟩
    · have h : parseE p ≠ 0 := h
      repeat (first | refine OpsA.cons ?_ | refine OpsA.nil ?_ | refine OrdK.cons rfl ?_ | refine OrdK.nil ?_ | refine Run.textA C_ok (aopC_sound C_ok) ?_ | refine And.intro rfl ?_ | refine And.intro (Nat.le_of_ble_eq_true rfl) ?_ | refine And.intro (Int.natCast_nonneg _) ?_ | refine fun (_ : Nat) => ?_ | refine Run.go rfl ?_ | refine Cont.go rfl ?_)
      exact ⟨_, [], FinOk.drop _ _, err 10 (by rw [if_pos h])⟩
    have hpp : parseE p = 0 := Classical.not_not.1 h
    have nc : ¬ parseE p ≠ 0 := fun h => h hpp
    repeat (first | refine OpsA.cons ?_ | refine OpsA.nil ?_ | refine OrdK.cons rfl ?_ | refine OrdK.nil ?_ | refine Run.textA C_ok (aopC_sound C_ok) ?_ | refine And.intro rfl ?_ | refine And.intro (Nat.le_of_ble_eq_true rfl) ?_ | refine And.intro (Int.natCast_nonneg _) ?_ | refine fun (_ : Nat) => ?_ | refine Run.go rfl ?_ | refine Cont.go rfl ?_)
    refine ⟨fun h => ?_, fun h => ?_⟩
    · have h : p = slash := h
      repeat (first | refine OpsA.cons ?_ | refine OpsA.nil ?_ | refine OrdK.cons rfl ?_ | refine OrdK.nil ?_ | refine Run.textA C_ok (aopC_sound C_ok) ?_ | refine And.intro rfl ?_ | refine And.intro (Nat.le_of_ble_eq_true rfl) ?_ | refine And.intro (Int.natCast_nonneg _) ?_ | refine fun (_ : Nat) => ?_ | refine Run.go rfl ?_ | refine Cont.go rfl ?_)
      exact ⟨_, [], FinOk.drop _ _, err 47 (by rw [if_neg nc, if_pos h])⟩
    have nr : ¬ (p = slash) := h
    repeat (first | refine OpsA.cons ?_ | refine OpsA.nil ?_ | refine OrdK.cons rfl ?_ | refine OrdK.nil ?_ | refine Run.textA C_ok (aopC_sound C_ok) ?_ | refine And.intro rfl ?_ | refine And.intro (Nat.le_of_ble_eq_true rfl) ?_ | refine And.intro (Int.natCast_nonneg _) ?_ | refine fun (_ : Nat) => ?_ | refine Run.go rfl ?_ | refine Cont.go rfl ?_)
    exact ⟨_, [], FinOk.drop _ _, err 40 (by rw [if_neg nc, if_neg nr])⟩
  | some x =>
    rw [hf] at err
    dsimp only at err ⊢
    obtain ⟨hxm, hxp⟩ := findF_some hf
    obtain ⟨i, g1, _⟩ := hT.hit hi.sorted hxm
    rw [hxp] at g1
    refine ⟨1, es, cl, some (i, valX x), by decide, rfl, g1, encX x, rfl, ?_⟩
    repeat (first | refine OpsA.cons ?_ | refine OpsA.nil ?_ | refine OrdK.cons rfl ?_ | refine OrdK.nil ?_ | refine Run.textA C_ok (aopC_sound C_ok) ?_ | refine And.intro rfl ?_ | refine And.intro (Nat.le_of_ble_eq_true rfl) ?_ | refine And.intro (Int.natCast_nonneg _) ?_ | refine fun (_ : Nat) => ?_ | refine Run.go rfl ?_ | refine Cont.go rfl ?_)
    refine ACallT.ok (ACall.ret (parse_code p) ?_)
    repeat (first | refine OpsA.cons ?_ | refine OpsA.nil ?_ | refine OrdK.cons rfl ?_ | refine OrdK.nil ?_ | refine Run.textA C_ok (aopC_sound C_ok) ?_ | refine And.intro rfl ?_ | refine And.intro (Nat.le_of_ble_eq_true rfl) ?_ | refine And.intro (Int.natCast_nonneg _) ?_ | refine fun (_ : Nat) => ?_ | refine Run.go rfl ?_ | refine Cont.go rfl ?_)
    refine ⟨fun h => ?_, fun h => ?_⟩
    · have h : parseE p ≠ 0 := h
      repeat (first | refine OpsA.cons ?_ | refine OpsA.nil ?_ | refine OrdK.cons rfl ?_ | refine OrdK.nil ?_ | refine Run.textA C_ok (aopC_sound C_ok) ?_ | refine And.intro rfl ?_ | refine And.intro (Nat.le_of_ble_eq_true rfl) ?_ | refine And.intro (Int.natCast_nonneg _) ?_ | refine fun (_ : Nat) => ?_ | refine Run.go rfl ?_ | refine Cont.go rfl ?_)
      exact ⟨_, [], FinOk.drop _ _, err 10 (by rw [if_pos h])⟩
    have hpp : parseE p = 0 := Classical.not_not.1 h
    have nc : ¬ parseE p ≠ 0 := fun h => h hpp
    repeat (first | refine OpsA.cons ?_ | refine OpsA.nil ?_ | refine OrdK.cons rfl ?_ | refine OrdK.nil ?_ | refine Run.textA C_ok (aopC_sound C_ok) ?_ | refine And.intro rfl ?_ | refine And.intro (Nat.le_of_ble_eq_true rfl) ?_ | refine And.intro (Int.natCast_nonneg _) ?_ | refine fun (_ : Nat) => ?_ | refine Run.go rfl ?_ | refine Cont.go rfl ?_)
    refine ⟨fun h => ?_, fun h => ?_⟩
    · have h : p = slash := h
      repeat (first | refine OpsA.cons ?_ | refine OpsA.nil ?_ | refine OrdK.cons rfl ?_ | refine OrdK.nil ?_ | refine Run.textA C_ok (aopC_sound C_ok) ?_ | refine And.intro rfl ?_ | refine And.intro (Nat.le_of_ble_eq_true rfl) ?_ | refine And.intro (Int.natCast_nonneg _) ?_ | refine fun (_ : Nat) => ?_ | refine Run.go rfl ?_ | refine Cont.go rfl ?_)
      exact ⟨_, [], FinOk.drop _ _, err 47 (by rw [if_neg nc, if_pos h])⟩
    have nr : ¬ (p = slash) := h
    repeat (first | refine OpsA.cons ?_ | refine OpsA.nil ?_ | refine OrdK.cons rfl ?_ | refine OrdK.nil ?_ | refine Run.textA C_ok (aopC_sound C_ok) ?_ | refine And.intro rfl ?_ | refine And.intro (Nat.le_of_ble_eq_true rfl) ?_ | refine And.intro (Int.natCast_nonneg _) ?_ | refine fun (_ : Nat) => ?_ | refine Run.go rfl ?_ | refine Cont.go rfl ?_)
    by_cases hv : v ≠ -1 ∧ v ≠ x.v
    · refine ⟨fun _ => ?_, fun h => absurd hv.1 h⟩
      repeat (first | refine OpsA.cons ?_ | refine OpsA.nil ?_ | refine OrdK.cons rfl ?_ | refine OrdK.nil ?_ | refine Run.textA C_ok (aopC_sound C_ok) ?_ | refine And.intro rfl ?_ | refine And.intro (Nat.le_of_ble_eq_true rfl) ?_ | refine And.intro (Int.natCast_nonneg _) ?_ | refine fun (_ : Nat) => ?_ | refine Run.go rfl ?_ | refine Cont.go rfl ?_)
      refine ⟨fun _ => ?_, fun h => absurd hv.2 h⟩
      repeat (first | refine OpsA.cons ?_ | refine OpsA.nil ?_ | refine OrdK.cons rfl ?_ | refine OrdK.nil ?_ | refine Run.textA C_ok (aopC_sound C_ok) ?_ | refine And.intro rfl ?_ | refine And.intro (Nat.le_of_ble_eq_true rfl) ?_ | refine And.intro (Int.natCast_nonneg _) ?_ | refine fun (_ : Nat) => ?_ | refine Run.go rfl ?_ | refine Cont.go rfl ?_)
      exact ⟨_, [], FinOk.drop _ _, err 42 (by rw [if_neg nc, if_neg nr, if_pos hv])⟩
    refine ⟨fun h1 => ?_, fun h1 => ?_⟩
    · have h1 : v ≠ -1 := h1
      repeat (first | refine OpsA.cons ?_ | refine OpsA.nil ?_ | refine OrdK.cons rfl ?_ | refine OrdK.nil ?_ | refine Run.textA C_ok (aopC_sound C_ok) ?_ | refine And.intro rfl ?_ | refine And.intro (Nat.le_of_ble_eq_true rfl) ?_ | refine And.intro (Int.natCast_nonneg _) ?_ | refine fun (_ : Nat) => ?_ | refine Run.go rfl ?_ | refine Cont.go rfl ?_)
      refine ⟨fun h2 => absurd ⟨h1, h2⟩ hv, fun _ => ?_⟩
      repeat (first | refine OpsA.cons ?_ | refine OpsA.nil ?_ | refine OrdK.cons rfl ?_ | refine OrdK.nil ?_ | refine Run.textA C_ok (aopC_sound C_ok) ?_ | refine And.intro rfl ?_ | refine And.intro (Nat.le_of_ble_eq_true rfl) ?_ | refine And.intro (Int.natCast_nonneg _) ?_ | refine fun (_ : Nat) => ?_ | refine Run.go rfl ?_ | refine Cont.go rfl ?_)
      refine ⟨fun h => absurd h (by decide), fun _ => ?_⟩
      repeat (first | refine OpsA.cons ?_ | refine OpsA.nil ?_ | refine OrdK.cons rfl ?_ | refine OrdK.nil ?_ | refine Run.textA C_ok (aopC_sound C_ok) ?_ | refine And.intro rfl ?_ | refine And.intro (Nat.le_of_ble_eq_true rfl) ?_ | refine And.intro (Int.natCast_nonneg _) ?_ | refine fun (_ : Nat) => ?_ | refine Run.go rfl ?_ | refine Cont.go rfl ?_)
      refine ⟨fun _ => ?_, fun h => absurd (by decide) h⟩
      repeat (first | refine OpsA.cons ?_ | refine OpsA.nil ?_ | refine OrdK.cons rfl ?_ | refine OrdK.nil ?_ | refine Run.textA C_ok (aopC_sound C_ok) ?_ | refine And.intro rfl ?_ | refine And.intro (Nat.le_of_ble_eq_true rfl) ?_ | refine And.intro (Int.natCast_nonneg _) ?_ | refine fun (_ : Nat) => ?_ | refine Run.go rfl ?_ | refine Cont.go rfl ?_)
      refine ACallT.ok (ACall.sel [0, 1, 2] (by decide) [.ptr 0 gw 0, encX x] _ (.two (Sub.refl _) (Sub.refl _)) (drop_spec gw gm gc s st cs cv co hc hcs hT hi hxm) ?_)
      rw [if_neg nc, if_neg nr, if_neg hv]
      intro r L' hq
      by_cases hx : kidsF l x.p ≠ []
      · rw [if_pos hx] at hq ⊢
        obtain ⟨rfl, rfl⟩ := hq
        refine ⟨_, Sub.refl _, ?_⟩
        repeat (first | refine OpsA.cons ?_ | refine OpsA.nil ?_ | refine OrdK.cons rfl ?_ | refine OrdK.nil ?_ | refine Run.textA C_ok (aopC_sound C_ok) ?_ | refine And.intro rfl ?_ | refine And.intro (Nat.le_of_ble_eq_true rfl) ?_ | refine And.intro (Int.natCast_nonneg _) ?_ | refine fun (_ : Nat) => ?_ | refine Run.go rfl ?_ | refine Cont.go rfl ?_)
        exact ⟨_, [], FinOk.drop _ _, rfl, rfl⟩
      · rw [if_neg hx] at hq ⊢
        obtain ⟨es', cl', cv', gc', co', q1, q2, rfl, rfl⟩ := hq
        refine ⟨_, Sub.refl _, ?_⟩
        repeat (first | refine OpsA.cons ?_ | refine OpsA.nil ?_ | refine OrdK.cons rfl ?_ | refine OrdK.nil ?_ | refine Run.textA C_ok (aopC_sound C_ok) ?_ | refine And.intro rfl ?_ | refine And.intro (Nat.le_of_ble_eq_true rfl) ?_ | refine And.intro (Int.natCast_nonneg _) ?_ | refine fun (_ : Nat) => ?_ | refine Run.go rfl ?_ | refine Cont.go rfl ?_)
        exact ⟨_, _, FinOk.keep _ [0, 1, 2] (Sub.refl _) (by decide) rfl, es', cl', cv', gc', co', q1, q2, rfl, rfl⟩
    · repeat (first | refine OpsA.cons ?_ | refine OpsA.nil ?_ | refine OrdK.cons rfl ?_ | refine OrdK.nil ?_ | refine Run.textA C_ok (aopC_sound C_ok) ?_ | refine And.intro rfl ?_ | refine And.intro (Nat.le_of_ble_eq_true rfl) ?_ | refine And.intro (Int.natCast_nonneg _) ?_ | refine fun (_ : Nat) => ?_ | refine Run.go rfl ?_ | refine Cont.go rfl ?_)
      refine ⟨fun h => absurd h (by decide), fun _ => ?_⟩
      repeat (first | refine OpsA.cons ?_ | refine OpsA.nil ?_ | refine OrdK.cons rfl ?_ | refine OrdK.nil ?_ | refine Run.textA C_ok (aopC_sound C_ok) ?_ | refine And.intro rfl ?_ | refine And.intro (Nat.le_of_ble_eq_true rfl) ?_ | refine And.intro (Int.natCast_nonneg _) ?_ | refine fun (_ : Nat) => ?_ | refine Run.go rfl ?_ | refine Cont.go rfl ?_)
      refine ⟨fun _ => ?_, fun h => absurd (by decide) h⟩
      repeat (first | refine OpsA.cons ?_ | refine OpsA.nil ?_ | refine OrdK.cons rfl ?_ | refine OrdK.nil ?_ | refine Run.textA C_ok (aopC_sound C_ok) ?_ | refine And.intro rfl ?_ | refine And.intro (Nat.le_of_ble_eq_true rfl) ?_ | refine And.intro (Int.natCast_nonneg _) ?_ | refine fun (_ : Nat) => ?_ | refine Run.go rfl ?_ | refine Cont.go rfl ?_)
      refine ACallT.ok (ACall.sel [0, 1, 2] (by decide) [.ptr 0 gw 0, encX x] _ (.two (Sub.refl _) (Sub.refl _)) (drop_spec gw gm gc s st cs cv co hc hcs hT hi hxm) ?_)
      rw [if_neg nc, if_neg nr, if_neg hv]
      intro r L' hq
      by_cases hx : kidsF l x.p ≠ []
      · rw [if_pos hx] at hq ⊢
        obtain ⟨rfl, rfl⟩ := hq
        refine ⟨_, Sub.refl _, ?_⟩
        repeat (first | refine OpsA.cons ?_ | refine OpsA.nil ?_ | refine OrdK.cons rfl ?_ | refine OrdK.nil ?_ | refine Run.textA C_ok (aopC_sound C_ok) ?_ | refine And.intro rfl ?_ | refine And.intro (Nat.le_of_ble_eq_true rfl) ?_ | refine And.intro (Int.natCast_nonneg _) ?_ | refine fun (_ : Nat) => ?_ | refine Run.go rfl ?_ | refine Cont.go rfl ?_)
        exact ⟨_, [], FinOk.drop _ _, rfl, rfl⟩
      · rw [if_neg hx] at hq ⊢
        obtain ⟨es', cl', cv', gc', co', q1, q2, rfl, rfl⟩ := hq
        refine ⟨_, Sub.refl _, ?_⟩
        repeat (first | refine OpsA.cons ?_ | refine OpsA.nil ?_ | refine OrdK.cons rfl ?_ | refine OrdK.nil ?_ | refine Run.textA C_ok (aopC_sound C_ok) ?_ | refine And.intro rfl ?_ | refine And.intro (Nat.le_of_ble_eq_true rfl) ?_ | refine And.intro (Int.natCast_nonneg _) ?_ | refine fun (_ : Nat) => ?_ | refine Run.go rfl ?_ | refine Cont.go rfl ?_)
        exact ⟨_, _, FinOk.keep _ [0, 1, 2] (Sub.refl _) (by decide) rfl, es', cl', cv', gc', co', q1, q2, rfl, rfl⟩
end Go.Proofs.YtiikjcdjgmlcgaaGreatDoor.HBT
/- One op of a request, of kind 4. -/
namespace Go.Proofs.YtiikjcdjgmlcgaaGreatDoor.HBT
open Go Go.Proofs.YtiikjcdjgmlcgaaGreatDoor.HB Go.RowKit
set_option maxRecDepth 8000

set_option maxHeartbeats 8000000 in
theorem op_4 (gw gm gc : Nat) (s st : Int) (cs : List Chg) (cv : AV) (co : AObj) (hc : LC 2 cs cv gc co) (_hcs : cs.length ≤ 100) {l : List Fu} {es : Array MapEntry} {cl : Nat} (hT : TM l es cl) (hi : TInv l) (p d : ByteArray) (v f : Int) :
    FnSpec C 49 [.ptr 0 gw 0, .agg [.int .i64 4, .str p, .str d, .int .i64 v, .int .i64 f]] (WorkL gw gm s st cv es cl gc co) (OneQ gw gm s st cs (playF l s st ⟨4, p, d, v, f⟩)) := by
  have err : ∀ e, playF l s st ⟨4, p, d, v, f⟩ = .error e → OneQ gw gm s st cs (playF l s st ⟨4, p, d, v, f⟩) (.tuple [zeroR, .int .i64 e]) [] := fun e he => by rw [he]; exact ⟨rfl, rfl⟩
  rw [play_4] at err ⊢
  refine FnSpec.start C_ok Tryz.func49 rfl rfl Tryz.ntmps49 ?_
  repeat (first | refine OpsA.cons ?_ | refine OpsA.nil ?_ | refine Run.textA C_ok (aopC_sound C_ok) ?_ | refine And.intro rfl ?_ | refine And.intro (Nat.le_of_ble_eq_true rfl) ?_ | refine And.intro (Int.natCast_nonneg _) ?_ | refine fun (_ : Nat) => ?_ | refine Run.go rfl ?_ | refine Cont.go rfl ?_)
  rename_i go gr
  refine ⟨fun h => absurd h (by decide), fun _ => ?_⟩
  repeat (first | refine OpsA.cons ?_ | refine OpsA.nil ?_ | refine Run.textA C_ok (aopC_sound C_ok) ?_ | refine And.intro rfl ?_ | refine And.intro (Nat.le_of_ble_eq_true rfl) ?_ | refine And.intro (Int.natCast_nonneg _) ?_ | refine fun (_ : Nat) => ?_ | refine Run.go rfl ?_ | refine Cont.go rfl ?_)
  refine ⟨fun h => absurd h (by decide), fun _ => ?_⟩
  repeat (first | refine OpsA.cons ?_ | refine OpsA.nil ?_ | refine Run.textA C_ok (aopC_sound C_ok) ?_ | refine And.intro rfl ?_ | refine And.intro (Nat.le_of_ble_eq_true rfl) ?_ | refine And.intro (Int.natCast_nonneg _) ?_ | refine fun (_ : Nat) => ?_ | refine Run.go rfl ?_ | refine Cont.go rfl ?_)
  refine ⟨fun h => absurd h (by decide), fun _ => ?_⟩
  repeat (first | refine OpsA.cons ?_ | refine OpsA.nil ?_ | refine Run.textA C_ok (aopC_sound C_ok) ?_ | refine And.intro rfl ?_ | refine And.intro (Nat.le_of_ble_eq_true rfl) ?_ | refine And.intro (Int.natCast_nonneg _) ?_ | refine fun (_ : Nat) => ?_ | refine Run.go rfl ?_ | refine Cont.go rfl ?_)
  refine ACallT.ok (ACall.ret (r0 := .agg [.bool false, .bool false, .bool true]) (needs_spec 4) ?_)
  repeat (first | refine OpsA.cons ?_ | refine OpsA.nil ?_ | refine Run.textA C_ok (aopC_sound C_ok) ?_ | refine And.intro rfl ?_ | refine And.intro (Nat.le_of_ble_eq_true rfl) ?_ | refine And.intro (Int.natCast_nonneg _) ?_ | refine fun (_ : Nat) => ?_ | refine Run.go rfl ?_ | refine Cont.go rfl ?_)
  refine Run.drawnK C_ok (aopC_sound C_ok) [0, 1, 3] [0, 1, 2, 3, 4, 5, 6, 7, 8, 9, 10, 11, 12] (by kernel_rfl) ?_
  repeat (first | refine OpsA.cons ?_ | refine OpsA.nil ?_ | refine OrdK.cons rfl ?_ | refine OrdK.nil ?_ | refine Run.textA C_ok (aopC_sound C_ok) ?_ | refine And.intro rfl ?_ | refine And.intro (Nat.le_of_ble_eq_true rfl) ?_ | refine And.intro (Int.natCast_nonneg _) ?_ | refine fun (_ : Nat) => ?_ | refine Run.go rfl ?_ | refine Cont.go rfl ?_)
  cases hf : findF l p with
  | none =>
    rw [hf] at err
    refine ⟨1, es, cl, none, by decide, rfl, hT.miss (findF_none hf), ?_⟩
    repeat (first | refine OpsA.cons ?_ | refine OpsA.nil ?_ | refine OrdK.cons rfl ?_ | refine OrdK.nil ?_ | refine Run.textA C_ok (aopC_sound C_ok) ?_ | refine And.intro rfl ?_ | refine And.intro (Nat.le_of_ble_eq_true rfl) ?_ | refine And.intro (Int.natCast_nonneg _) ?_ | refine fun (_ : Nat) => ?_ | refine Run.go rfl ?_ | refine Cont.go rfl ?_)
    refine ACallT.ok (ACall.ret (parse_code p) ?_)
    repeat (first | refine OpsA.cons ?_ | refine OpsA.nil ?_ | refine OrdK.cons rfl ?_ | refine OrdK.nil ?_ | refine Run.textA C_ok (aopC_sound C_ok) ?_ | refine And.intro rfl ?_ | refine And.intro (Nat.le_of_ble_eq_true rfl) ?_ | refine And.intro (Int.natCast_nonneg _) ?_ | refine fun (_ : Nat) => ?_ | refine Run.go rfl ?_ | refine Cont.go rfl ?_)
    refine ⟨fun h => ?_, fun h => ?_⟩
    · have h : parseE p ≠ 0 := h
      repeat (first | refine OpsA.cons ?_ | refine OpsA.nil ?_ | refine OrdK.cons rfl ?_ | refine OrdK.nil ?_ | refine Run.textA C_ok (aopC_sound C_ok) ?_ | refine And.intro rfl ?_ | refine And.intro (Nat.le_of_ble_eq_true rfl) ?_ | refine And.intro (Int.natCast_nonneg _) ?_ | refine fun (_ : Nat) => ?_ | refine Run.go rfl ?_ | refine Cont.go rfl ?_)
      exact ⟨_, [], FinOk.drop _ _, err 10 (by rw [if_pos h])⟩
    have hpp : parseE p = 0 := Classical.not_not.1 h
    have nc : ¬ parseE p ≠ 0 := fun h => h hpp
    repeat (first | refine OpsA.cons ?_ | refine OpsA.nil ?_ | refine OrdK.cons rfl ?_ | refine OrdK.nil ?_ | refine Run.textA C_ok (aopC_sound C_ok) ?_ | refine And.intro rfl ?_ | refine And.intro (Nat.le_of_ble_eq_true rfl) ?_ | refine And.intro (Int.natCast_nonneg _) ?_ | refine fun (_ : Nat) => ?_ | refine Run.go rfl ?_ | refine Cont.go rfl ?_)
    exact ⟨_, [], FinOk.drop _ _, err 40 (by rw [if_neg nc])⟩
  | some x =>
    rw [hf] at err
    dsimp only at err ⊢
    obtain ⟨hxm, hxp⟩ := findF_some hf
    obtain ⟨i, g1, _⟩ := hT.hit hi.sorted hxm
    rw [hxp] at g1
    refine ⟨1, es, cl, some (i, valX x), by decide, rfl, g1, encX x, rfl, ?_⟩
    repeat (first | refine OpsA.cons ?_ | refine OpsA.nil ?_ | refine OrdK.cons rfl ?_ | refine OrdK.nil ?_ | refine Run.textA C_ok (aopC_sound C_ok) ?_ | refine And.intro rfl ?_ | refine And.intro (Nat.le_of_ble_eq_true rfl) ?_ | refine And.intro (Int.natCast_nonneg _) ?_ | refine fun (_ : Nat) => ?_ | refine Run.go rfl ?_ | refine Cont.go rfl ?_)
    refine ACallT.ok (ACall.ret (parse_code p) ?_)
    repeat (first | refine OpsA.cons ?_ | refine OpsA.nil ?_ | refine OrdK.cons rfl ?_ | refine OrdK.nil ?_ | refine Run.textA C_ok (aopC_sound C_ok) ?_ | refine And.intro rfl ?_ | refine And.intro (Nat.le_of_ble_eq_true rfl) ?_ | refine And.intro (Int.natCast_nonneg _) ?_ | refine fun (_ : Nat) => ?_ | refine Run.go rfl ?_ | refine Cont.go rfl ?_)
    refine ⟨fun h => ?_, fun h => ?_⟩
    · have h : parseE p ≠ 0 := h
      repeat (first | refine OpsA.cons ?_ | refine OpsA.nil ?_ | refine OrdK.cons rfl ?_ | refine OrdK.nil ?_ | refine Run.textA C_ok (aopC_sound C_ok) ?_ | refine And.intro rfl ?_ | refine And.intro (Nat.le_of_ble_eq_true rfl) ?_ | refine And.intro (Int.natCast_nonneg _) ?_ | refine fun (_ : Nat) => ?_ | refine Run.go rfl ?_ | refine Cont.go rfl ?_)
      exact ⟨_, [], FinOk.drop _ _, err 10 (by rw [if_pos h])⟩
    have hpp : parseE p = 0 := Classical.not_not.1 h
    have nc : ¬ parseE p ≠ 0 := fun h => h hpp
    repeat (first | refine OpsA.cons ?_ | refine OpsA.nil ?_ | refine OrdK.cons rfl ?_ | refine OrdK.nil ?_ | refine Run.textA C_ok (aopC_sound C_ok) ?_ | refine And.intro rfl ?_ | refine And.intro (Nat.le_of_ble_eq_true rfl) ?_ | refine And.intro (Int.natCast_nonneg _) ?_ | refine fun (_ : Nat) => ?_ | refine Run.go rfl ?_ | refine Cont.go rfl ?_)
    by_cases hv : v ≠ -1 ∧ v ≠ x.v
    · refine ⟨fun _ => ?_, fun h => absurd hv.1 h⟩
      repeat (first | refine OpsA.cons ?_ | refine OpsA.nil ?_ | refine OrdK.cons rfl ?_ | refine OrdK.nil ?_ | refine Run.textA C_ok (aopC_sound C_ok) ?_ | refine And.intro rfl ?_ | refine And.intro (Nat.le_of_ble_eq_true rfl) ?_ | refine And.intro (Int.natCast_nonneg _) ?_ | refine fun (_ : Nat) => ?_ | refine Run.go rfl ?_ | refine Cont.go rfl ?_)
      refine ⟨fun _ => ?_, fun h => absurd hv.2 h⟩
      repeat (first | refine OpsA.cons ?_ | refine OpsA.nil ?_ | refine OrdK.cons rfl ?_ | refine OrdK.nil ?_ | refine Run.textA C_ok (aopC_sound C_ok) ?_ | refine And.intro rfl ?_ | refine And.intro (Nat.le_of_ble_eq_true rfl) ?_ | refine And.intro (Int.natCast_nonneg _) ?_ | refine fun (_ : Nat) => ?_ | refine Run.go rfl ?_ | refine Cont.go rfl ?_)
      exact ⟨_, [], FinOk.drop _ _, err 42 (by rw [if_neg nc, if_pos hv])⟩
    refine ⟨fun h1 => ?_, fun h1 => ?_⟩
    · have h1 : v ≠ -1 := h1
      repeat (first | refine OpsA.cons ?_ | refine OpsA.nil ?_ | refine OrdK.cons rfl ?_ | refine OrdK.nil ?_ | refine Run.textA C_ok (aopC_sound C_ok) ?_ | refine And.intro rfl ?_ | refine And.intro (Nat.le_of_ble_eq_true rfl) ?_ | refine And.intro (Int.natCast_nonneg _) ?_ | refine fun (_ : Nat) => ?_ | refine Run.go rfl ?_ | refine Cont.go rfl ?_)
      refine ⟨fun h2 => absurd ⟨h1, h2⟩ hv, fun _ => ?_⟩
      repeat (first | refine OpsA.cons ?_ | refine OpsA.nil ?_ | refine OrdK.cons rfl ?_ | refine OrdK.nil ?_ | refine Run.textA C_ok (aopC_sound C_ok) ?_ | refine And.intro rfl ?_ | refine And.intro (Nat.le_of_ble_eq_true rfl) ?_ | refine And.intro (Int.natCast_nonneg _) ?_ | refine fun (_ : Nat) => ?_ | refine Run.go rfl ?_ | refine Cont.go rfl ?_)
      refine ⟨fun h => absurd h (by decide), fun _ => ?_⟩
      repeat (first | refine OpsA.cons ?_ | refine OpsA.nil ?_ | refine OrdK.cons rfl ?_ | refine OrdK.nil ?_ | refine Run.textA C_ok (aopC_sound C_ok) ?_ | refine And.intro rfl ?_ | refine And.intro (Nat.le_of_ble_eq_true rfl) ?_ | refine And.intro (Int.natCast_nonneg _) ?_ | refine fun (_ : Nat) => ?_ | refine Run.go rfl ?_ | refine Cont.go rfl ?_)
      refine ⟨fun h => absurd h (by decide), fun _ => ?_⟩
      repeat (first | refine OpsA.cons ?_ | refine OpsA.nil ?_ | refine OrdK.cons rfl ?_ | refine OrdK.nil ?_ | refine Run.textA C_ok (aopC_sound C_ok) ?_ | refine And.intro rfl ?_ | refine And.intro (Nat.le_of_ble_eq_true rfl) ?_ | refine And.intro (Int.natCast_nonneg _) ?_ | refine fun (_ : Nat) => ?_ | refine Run.go rfl ?_ | refine Cont.go rfl ?_)
      refine ACallT.ok (ACall.ret (told_spec x) ?_)
      repeat (first | refine OpsA.cons ?_ | refine OpsA.nil ?_ | refine OrdK.cons rfl ?_ | refine OrdK.nil ?_ | refine Run.textA C_ok (aopC_sound C_ok) ?_ | refine And.intro rfl ?_ | refine And.intro (Nat.le_of_ble_eq_true rfl) ?_ | refine And.intro (Int.natCast_nonneg _) ?_ | refine fun (_ : Nat) => ?_ | refine Run.go rfl ?_ | refine Cont.go rfl ?_)
      refine ⟨fun h => absurd h (by decide), fun _ => ?_⟩
      repeat (first | refine OpsA.cons ?_ | refine OpsA.nil ?_ | refine OrdK.cons rfl ?_ | refine OrdK.nil ?_ | refine Run.textA C_ok (aopC_sound C_ok) ?_ | refine And.intro rfl ?_ | refine And.intro (Nat.le_of_ble_eq_true rfl) ?_ | refine And.intro (Int.natCast_nonneg _) ?_ | refine fun (_ : Nat) => ?_ | refine Run.go rfl ?_ | refine Cont.go rfl ?_)
      refine ⟨fun h => absurd h (by decide), fun _ => ?_⟩
      repeat (first | refine OpsA.cons ?_ | refine OpsA.nil ?_ | refine OrdK.cons rfl ?_ | refine OrdK.nil ?_ | refine Run.textA C_ok (aopC_sound C_ok) ?_ | refine And.intro rfl ?_ | refine And.intro (Nat.le_of_ble_eq_true rfl) ?_ | refine And.intro (Int.natCast_nonneg _) ?_ | refine fun (_ : Nat) => ?_ | refine Run.go rfl ?_ | refine Cont.go rfl ?_)
      rw [if_neg nc, if_neg hv]
      exact ⟨.tuple [encR (told x), .int .i64 0], _, FinOk.keep _ [0, 1, 2] (subR0 (r := told x) rfl) (by decide) rfl, es, cl, cv, gc, co, hT, by rw [List.append_nil]; exact hc, rfl, rfl⟩
    · repeat (first | refine OpsA.cons ?_ | refine OpsA.nil ?_ | refine OrdK.cons rfl ?_ | refine OrdK.nil ?_ | refine Run.textA C_ok (aopC_sound C_ok) ?_ | refine And.intro rfl ?_ | refine And.intro (Nat.le_of_ble_eq_true rfl) ?_ | refine And.intro (Int.natCast_nonneg _) ?_ | refine fun (_ : Nat) => ?_ | refine Run.go rfl ?_ | refine Cont.go rfl ?_)
      refine ⟨fun h => absurd h (by decide), fun _ => ?_⟩
      repeat (first | refine OpsA.cons ?_ | refine OpsA.nil ?_ | refine OrdK.cons rfl ?_ | refine OrdK.nil ?_ | refine Run.textA C_ok (aopC_sound C_ok) ?_ | refine And.intro rfl ?_ | refine And.intro (Nat.le_of_ble_eq_true rfl) ?_ | refine And.intro (Int.natCast_nonneg _) ?_ | refine fun (_ : Nat) => ?_ | refine Run.go rfl ?_ | refine Cont.go rfl ?_)
      refine ⟨fun h => absurd h (by decide), fun _ => ?_⟩
      repeat (first | refine OpsA.cons ?_ | refine OpsA.nil ?_ | refine OrdK.cons rfl ?_ | refine OrdK.nil ?_ | refine Run.textA C_ok (aopC_sound C_ok) ?_ | refine And.intro rfl ?_ | refine And.intro (Nat.le_of_ble_eq_true rfl) ?_ | refine And.intro (Int.natCast_nonneg _) ?_ | refine fun (_ : Nat) => ?_ | refine Run.go rfl ?_ | refine Cont.go rfl ?_)
      refine ACallT.ok (ACall.ret (told_spec x) ?_)
      repeat (first | refine OpsA.cons ?_ | refine OpsA.nil ?_ | refine OrdK.cons rfl ?_ | refine OrdK.nil ?_ | refine Run.textA C_ok (aopC_sound C_ok) ?_ | refine And.intro rfl ?_ | refine And.intro (Nat.le_of_ble_eq_true rfl) ?_ | refine And.intro (Int.natCast_nonneg _) ?_ | refine fun (_ : Nat) => ?_ | refine Run.go rfl ?_ | refine Cont.go rfl ?_)
      refine ⟨fun h => absurd h (by decide), fun _ => ?_⟩
      repeat (first | refine OpsA.cons ?_ | refine OpsA.nil ?_ | refine OrdK.cons rfl ?_ | refine OrdK.nil ?_ | refine Run.textA C_ok (aopC_sound C_ok) ?_ | refine And.intro rfl ?_ | refine And.intro (Nat.le_of_ble_eq_true rfl) ?_ | refine And.intro (Int.natCast_nonneg _) ?_ | refine fun (_ : Nat) => ?_ | refine Run.go rfl ?_ | refine Cont.go rfl ?_)
      refine ⟨fun h => absurd h (by decide), fun _ => ?_⟩
      repeat (first | refine OpsA.cons ?_ | refine OpsA.nil ?_ | refine OrdK.cons rfl ?_ | refine OrdK.nil ?_ | refine Run.textA C_ok (aopC_sound C_ok) ?_ | refine And.intro rfl ?_ | refine And.intro (Nat.le_of_ble_eq_true rfl) ?_ | refine And.intro (Int.natCast_nonneg _) ?_ | refine fun (_ : Nat) => ?_ | refine Run.go rfl ?_ | refine Cont.go rfl ?_)
      rw [if_neg nc, if_neg hv]
      exact ⟨.tuple [encR (told x), .int .i64 0], _, FinOk.keep _ [0, 1, 2] (subR0 (r := told x) rfl) (by decide) rfl, es, cl, cv, gc, co, hT, by rw [List.append_nil]; exact hc, rfl, rfl⟩
end Go.Proofs.YtiikjcdjgmlcgaaGreatDoor.HBT
/- One op of a request, of kind 5. -/
namespace Go.Proofs.YtiikjcdjgmlcgaaGreatDoor.HBT
open Go Go.Proofs.YtiikjcdjgmlcgaaGreatDoor.HB Go.RowKit
set_option maxRecDepth 8000

set_option maxHeartbeats 8000000 in
theorem op_5 (gw gm gc : Nat) (s st : Int) (cs : List Chg) (cv : AV) (co : AObj) (hc : LC 2 cs cv gc co) (_hcs : cs.length ≤ 100) {l : List Fu} {es : Array MapEntry} {cl : Nat} (hT : TM l es cl) (hi : TInv l) (p d : ByteArray) (v f : Int) :
    FnSpec C 49 [.ptr 0 gw 0, .agg [.int .i64 5, .str p, .str d, .int .i64 v, .int .i64 f]] (WorkL gw gm s st cv es cl gc co) (OneQ gw gm s st cs (playF l s st ⟨5, p, d, v, f⟩)) := by
  have err : ∀ e, playF l s st ⟨5, p, d, v, f⟩ = .error e → OneQ gw gm s st cs (playF l s st ⟨5, p, d, v, f⟩) (.tuple [zeroR, .int .i64 e]) [] := fun e he => by rw [he]; exact ⟨rfl, rfl⟩
  rw [play_5] at err ⊢
  refine FnSpec.start C_ok Tryz.func49 rfl rfl Tryz.ntmps49 ?_
  repeat (first | refine OpsA.cons ?_ | refine OpsA.nil ?_ | refine Run.textA C_ok (aopC_sound C_ok) ?_ | refine And.intro rfl ?_ | refine And.intro (Nat.le_of_ble_eq_true rfl) ?_ | refine And.intro (Int.natCast_nonneg _) ?_ | refine fun (_ : Nat) => ?_ | refine Run.go rfl ?_ | refine Cont.go rfl ?_)
  rename_i go gr
  refine ⟨fun h => absurd h (by decide), fun _ => ?_⟩
  repeat (first | refine OpsA.cons ?_ | refine OpsA.nil ?_ | refine Run.textA C_ok (aopC_sound C_ok) ?_ | refine And.intro rfl ?_ | refine And.intro (Nat.le_of_ble_eq_true rfl) ?_ | refine And.intro (Int.natCast_nonneg _) ?_ | refine fun (_ : Nat) => ?_ | refine Run.go rfl ?_ | refine Cont.go rfl ?_)
  refine ⟨fun h => absurd h (by decide), fun _ => ?_⟩
  repeat (first | refine OpsA.cons ?_ | refine OpsA.nil ?_ | refine Run.textA C_ok (aopC_sound C_ok) ?_ | refine And.intro rfl ?_ | refine And.intro (Nat.le_of_ble_eq_true rfl) ?_ | refine And.intro (Int.natCast_nonneg _) ?_ | refine fun (_ : Nat) => ?_ | refine Run.go rfl ?_ | refine Cont.go rfl ?_)
  refine ⟨fun h => absurd h (by decide), fun _ => ?_⟩
  repeat (first | refine OpsA.cons ?_ | refine OpsA.nil ?_ | refine Run.textA C_ok (aopC_sound C_ok) ?_ | refine And.intro rfl ?_ | refine And.intro (Nat.le_of_ble_eq_true rfl) ?_ | refine And.intro (Int.natCast_nonneg _) ?_ | refine fun (_ : Nat) => ?_ | refine Run.go rfl ?_ | refine Cont.go rfl ?_)
  refine ACallT.ok (ACall.ret (r0 := .agg [.bool false, .bool false, .bool false]) (needs_spec 5) ?_)
  repeat (first | refine OpsA.cons ?_ | refine OpsA.nil ?_ | refine Run.textA C_ok (aopC_sound C_ok) ?_ | refine And.intro rfl ?_ | refine And.intro (Nat.le_of_ble_eq_true rfl) ?_ | refine And.intro (Int.natCast_nonneg _) ?_ | refine fun (_ : Nat) => ?_ | refine Run.go rfl ?_ | refine Cont.go rfl ?_)
  refine Run.drawnK C_ok (aopC_sound C_ok) [0, 1, 3] [0, 1, 2, 3, 4, 5, 6, 7, 8, 9, 10, 11, 12] (by kernel_rfl) ?_
  repeat (first | refine OpsA.cons ?_ | refine OpsA.nil ?_ | refine OrdK.cons rfl ?_ | refine OrdK.nil ?_ | refine Run.textA C_ok (aopC_sound C_ok) ?_ | refine And.intro rfl ?_ | refine And.intro (Nat.le_of_ble_eq_true rfl) ?_ | refine And.intro (Int.natCast_nonneg _) ?_ | refine fun (_ : Nat) => ?_ | refine Run.go rfl ?_ | refine Cont.go rfl ?_)
  cases hf : findF l p with
  | none =>
    rw [hf] at err
    refine ⟨1, es, cl, none, by decide, rfl, hT.miss (findF_none hf), ?_⟩
    repeat (first | refine OpsA.cons ?_ | refine OpsA.nil ?_ | refine OrdK.cons rfl ?_ | refine OrdK.nil ?_ | refine Run.textA C_ok (aopC_sound C_ok) ?_ | refine And.intro rfl ?_ | refine And.intro (Nat.le_of_ble_eq_true rfl) ?_ | refine And.intro (Int.natCast_nonneg _) ?_ | refine fun (_ : Nat) => ?_ | refine Run.go rfl ?_ | refine Cont.go rfl ?_)
    refine ACallT.ok (ACall.ret (parse_code p) ?_)
    repeat (first | refine OpsA.cons ?_ | refine OpsA.nil ?_ | refine OrdK.cons rfl ?_ | refine OrdK.nil ?_ | refine Run.textA C_ok (aopC_sound C_ok) ?_ | refine And.intro rfl ?_ | refine And.intro (Nat.le_of_ble_eq_true rfl) ?_ | refine And.intro (Int.natCast_nonneg _) ?_ | refine fun (_ : Nat) => ?_ | refine Run.go rfl ?_ | refine Cont.go rfl ?_)
    refine ⟨fun h => ?_, fun h => ?_⟩
    · have h : parseE p ≠ 0 := h
      repeat (first | refine OpsA.cons ?_ | refine OpsA.nil ?_ | refine OrdK.cons rfl ?_ | refine OrdK.nil ?_ | refine Run.textA C_ok (aopC_sound C_ok) ?_ | refine And.intro rfl ?_ | refine And.intro (Nat.le_of_ble_eq_true rfl) ?_ | refine And.intro (Int.natCast_nonneg _) ?_ | refine fun (_ : Nat) => ?_ | refine Run.go rfl ?_ | refine Cont.go rfl ?_)
      exact ⟨_, [], FinOk.drop _ _, err 10 (by rw [if_pos h])⟩
    have hpp : parseE p = 0 := Classical.not_not.1 h
    have nc : ¬ parseE p ≠ 0 := fun h => h hpp
    repeat (first | refine OpsA.cons ?_ | refine OpsA.nil ?_ | refine OrdK.cons rfl ?_ | refine OrdK.nil ?_ | refine Run.textA C_ok (aopC_sound C_ok) ?_ | refine And.intro rfl ?_ | refine And.intro (Nat.le_of_ble_eq_true rfl) ?_ | refine And.intro (Int.natCast_nonneg _) ?_ | refine fun (_ : Nat) => ?_ | refine Run.go rfl ?_ | refine Cont.go rfl ?_)
    exact ⟨_, [], FinOk.drop _ _, err 40 (by rw [if_neg nc])⟩
  | some x =>
    rw [hf] at err
    dsimp only at err ⊢
    obtain ⟨hxm, hxp⟩ := findF_some hf
    obtain ⟨i, g1, _⟩ := hT.hit hi.sorted hxm
    rw [hxp] at g1
    refine ⟨1, es, cl, some (i, valX x), by decide, rfl, g1, encX x, rfl, ?_⟩
    repeat (first | refine OpsA.cons ?_ | refine OpsA.nil ?_ | refine OrdK.cons rfl ?_ | refine OrdK.nil ?_ | refine Run.textA C_ok (aopC_sound C_ok) ?_ | refine And.intro rfl ?_ | refine And.intro (Nat.le_of_ble_eq_true rfl) ?_ | refine And.intro (Int.natCast_nonneg _) ?_ | refine fun (_ : Nat) => ?_ | refine Run.go rfl ?_ | refine Cont.go rfl ?_)
    refine ACallT.ok (ACall.ret (parse_code p) ?_)
    repeat (first | refine OpsA.cons ?_ | refine OpsA.nil ?_ | refine OrdK.cons rfl ?_ | refine OrdK.nil ?_ | refine Run.textA C_ok (aopC_sound C_ok) ?_ | refine And.intro rfl ?_ | refine And.intro (Nat.le_of_ble_eq_true rfl) ?_ | refine And.intro (Int.natCast_nonneg _) ?_ | refine fun (_ : Nat) => ?_ | refine Run.go rfl ?_ | refine Cont.go rfl ?_)
    refine ⟨fun h => ?_, fun h => ?_⟩
    · have h : parseE p ≠ 0 := h
      repeat (first | refine OpsA.cons ?_ | refine OpsA.nil ?_ | refine OrdK.cons rfl ?_ | refine OrdK.nil ?_ | refine Run.textA C_ok (aopC_sound C_ok) ?_ | refine And.intro rfl ?_ | refine And.intro (Nat.le_of_ble_eq_true rfl) ?_ | refine And.intro (Int.natCast_nonneg _) ?_ | refine fun (_ : Nat) => ?_ | refine Run.go rfl ?_ | refine Cont.go rfl ?_)
      exact ⟨_, [], FinOk.drop _ _, err 10 (by rw [if_pos h])⟩
    have hpp : parseE p = 0 := Classical.not_not.1 h
    have nc : ¬ parseE p ≠ 0 := fun h => h hpp
    repeat (first | refine OpsA.cons ?_ | refine OpsA.nil ?_ | refine OrdK.cons rfl ?_ | refine OrdK.nil ?_ | refine Run.textA C_ok (aopC_sound C_ok) ?_ | refine And.intro rfl ?_ | refine And.intro (Nat.le_of_ble_eq_true rfl) ?_ | refine And.intro (Int.natCast_nonneg _) ?_ | refine fun (_ : Nat) => ?_ | refine Run.go rfl ?_ | refine Cont.go rfl ?_)
    refine ⟨fun h => absurd h (by decide), fun _ => ?_⟩
    repeat (first | refine OpsA.cons ?_ | refine OpsA.nil ?_ | refine OrdK.cons rfl ?_ | refine OrdK.nil ?_ | refine Run.textA C_ok (aopC_sound C_ok) ?_ | refine And.intro rfl ?_ | refine And.intro (Nat.le_of_ble_eq_true rfl) ?_ | refine And.intro (Int.natCast_nonneg _) ?_ | refine fun (_ : Nat) => ?_ | refine Run.go rfl ?_ | refine Cont.go rfl ?_)
    refine ⟨fun h => absurd h (by decide), fun _ => ?_⟩
    repeat (first | refine OpsA.cons ?_ | refine OpsA.nil ?_ | refine OrdK.cons rfl ?_ | refine OrdK.nil ?_ | refine Run.textA C_ok (aopC_sound C_ok) ?_ | refine And.intro rfl ?_ | refine And.intro (Nat.le_of_ble_eq_true rfl) ?_ | refine And.intro (Int.natCast_nonneg _) ?_ | refine fun (_ : Nat) => ?_ | refine Run.go rfl ?_ | refine Cont.go rfl ?_)
    refine ACallT.ok (ACall.ret (told_spec x) ?_)
    repeat (first | refine OpsA.cons ?_ | refine OpsA.nil ?_ | refine OrdK.cons rfl ?_ | refine OrdK.nil ?_ | refine Run.textA C_ok (aopC_sound C_ok) ?_ | refine And.intro rfl ?_ | refine And.intro (Nat.le_of_ble_eq_true rfl) ?_ | refine And.intro (Int.natCast_nonneg _) ?_ | refine fun (_ : Nat) => ?_ | refine Run.go rfl ?_ | refine Cont.go rfl ?_)
    refine ⟨fun _ => ?_, fun h => absurd (by decide) h⟩
    repeat (first | refine OpsA.cons ?_ | refine OpsA.nil ?_ | refine OrdK.cons rfl ?_ | refine OrdK.nil ?_ | refine Run.textA C_ok (aopC_sound C_ok) ?_ | refine And.intro rfl ?_ | refine And.intro (Nat.le_of_ble_eq_true rfl) ?_ | refine And.intro (Int.natCast_nonneg _) ?_ | refine fun (_ : Nat) => ?_ | refine Run.go rfl ?_ | refine Cont.go rfl ?_)
    rw [if_neg nc]
    exact ⟨.tuple [encR { told x with d := x.d }, .int .i64 0], _, FinOk.keep _ [0, 1, 2] (subR0 (r := { told x with d := x.d }) rfl) (by decide) rfl, es, cl, cv, gc, co, hT, by rw [List.append_nil]; exact hc, rfl, rfl⟩
end Go.Proofs.YtiikjcdjgmlcgaaGreatDoor.HBT
/- One op of a request, of kind 6. -/
namespace Go.Proofs.YtiikjcdjgmlcgaaGreatDoor.HBT
open Go Go.Proofs.YtiikjcdjgmlcgaaGreatDoor.HB Go.RowKit
set_option maxRecDepth 8000

set_option maxHeartbeats 8000000 in
theorem op_6 (gw gm gc : Nat) (s st : Int) (cs : List Chg) (cv : AV) (co : AObj) (hc : LC 2 cs cv gc co) (_hcs : cs.length ≤ 100) {l : List Fu} {es : Array MapEntry} {cl : Nat} (hT : TM l es cl) (hi : TInv l) (p d : ByteArray) (v f : Int) :
    FnSpec C 49 [.ptr 0 gw 0, .agg [.int .i64 6, .str p, .str d, .int .i64 v, .int .i64 f]] (WorkL gw gm s st cv es cl gc co) (OneQ gw gm s st cs (playF l s st ⟨6, p, d, v, f⟩)) := by
  have err : ∀ e, playF l s st ⟨6, p, d, v, f⟩ = .error e → OneQ gw gm s st cs (playF l s st ⟨6, p, d, v, f⟩) (.tuple [zeroR, .int .i64 e]) [] := fun e he => by rw [he]; exact ⟨rfl, rfl⟩
  rw [play_6] at err ⊢
  refine FnSpec.start C_ok Tryz.func49 rfl rfl Tryz.ntmps49 ?_
  repeat (first | refine OpsA.cons ?_ | refine OpsA.nil ?_ | refine Run.textA C_ok (aopC_sound C_ok) ?_ | refine And.intro rfl ?_ | refine And.intro (Nat.le_of_ble_eq_true rfl) ?_ | refine And.intro (Int.natCast_nonneg _) ?_ | refine fun (_ : Nat) => ?_ | refine Run.go rfl ?_ | refine Cont.go rfl ?_)
  rename_i go gr
  refine ⟨fun h => absurd h (by decide), fun _ => ?_⟩
  repeat (first | refine OpsA.cons ?_ | refine OpsA.nil ?_ | refine Run.textA C_ok (aopC_sound C_ok) ?_ | refine And.intro rfl ?_ | refine And.intro (Nat.le_of_ble_eq_true rfl) ?_ | refine And.intro (Int.natCast_nonneg _) ?_ | refine fun (_ : Nat) => ?_ | refine Run.go rfl ?_ | refine Cont.go rfl ?_)
  refine ⟨fun h => absurd h (by decide), fun _ => ?_⟩
  repeat (first | refine OpsA.cons ?_ | refine OpsA.nil ?_ | refine Run.textA C_ok (aopC_sound C_ok) ?_ | refine And.intro rfl ?_ | refine And.intro (Nat.le_of_ble_eq_true rfl) ?_ | refine And.intro (Int.natCast_nonneg _) ?_ | refine fun (_ : Nat) => ?_ | refine Run.go rfl ?_ | refine Cont.go rfl ?_)
  refine ⟨fun h => absurd h (by decide), fun _ => ?_⟩
  repeat (first | refine OpsA.cons ?_ | refine OpsA.nil ?_ | refine Run.textA C_ok (aopC_sound C_ok) ?_ | refine And.intro rfl ?_ | refine And.intro (Nat.le_of_ble_eq_true rfl) ?_ | refine And.intro (Int.natCast_nonneg _) ?_ | refine fun (_ : Nat) => ?_ | refine Run.go rfl ?_ | refine Cont.go rfl ?_)
  refine ACallT.ok (ACall.ret (r0 := .agg [.bool false, .bool false, .bool false]) (needs_spec 6) ?_)
  repeat (first | refine OpsA.cons ?_ | refine OpsA.nil ?_ | refine Run.textA C_ok (aopC_sound C_ok) ?_ | refine And.intro rfl ?_ | refine And.intro (Nat.le_of_ble_eq_true rfl) ?_ | refine And.intro (Int.natCast_nonneg _) ?_ | refine fun (_ : Nat) => ?_ | refine Run.go rfl ?_ | refine Cont.go rfl ?_)
  refine Run.drawnK C_ok (aopC_sound C_ok) [0, 1, 3] [0, 1, 2, 3, 4, 5, 6, 7, 8, 9, 10, 11, 12] (by kernel_rfl) ?_
  repeat (first | refine OpsA.cons ?_ | refine OpsA.nil ?_ | refine OrdK.cons rfl ?_ | refine OrdK.nil ?_ | refine Run.textA C_ok (aopC_sound C_ok) ?_ | refine And.intro rfl ?_ | refine And.intro (Nat.le_of_ble_eq_true rfl) ?_ | refine And.intro (Int.natCast_nonneg _) ?_ | refine fun (_ : Nat) => ?_ | refine Run.go rfl ?_ | refine Cont.go rfl ?_)
  cases hf : findF l p with
  | none =>
    rw [hf] at err
    refine ⟨1, es, cl, none, by decide, rfl, hT.miss (findF_none hf), ?_⟩
    repeat (first | refine OpsA.cons ?_ | refine OpsA.nil ?_ | refine OrdK.cons rfl ?_ | refine OrdK.nil ?_ | refine Run.textA C_ok (aopC_sound C_ok) ?_ | refine And.intro rfl ?_ | refine And.intro (Nat.le_of_ble_eq_true rfl) ?_ | refine And.intro (Int.natCast_nonneg _) ?_ | refine fun (_ : Nat) => ?_ | refine Run.go rfl ?_ | refine Cont.go rfl ?_)
    refine ACallT.ok (ACall.ret (parse_code p) ?_)
    repeat (first | refine OpsA.cons ?_ | refine OpsA.nil ?_ | refine OrdK.cons rfl ?_ | refine OrdK.nil ?_ | refine Run.textA C_ok (aopC_sound C_ok) ?_ | refine And.intro rfl ?_ | refine And.intro (Nat.le_of_ble_eq_true rfl) ?_ | refine And.intro (Int.natCast_nonneg _) ?_ | refine fun (_ : Nat) => ?_ | refine Run.go rfl ?_ | refine Cont.go rfl ?_)
    refine ⟨fun h => ?_, fun h => ?_⟩
    · have h : parseE p ≠ 0 := h
      repeat (first | refine OpsA.cons ?_ | refine OpsA.nil ?_ | refine OrdK.cons rfl ?_ | refine OrdK.nil ?_ | refine Run.textA C_ok (aopC_sound C_ok) ?_ | refine And.intro rfl ?_ | refine And.intro (Nat.le_of_ble_eq_true rfl) ?_ | refine And.intro (Int.natCast_nonneg _) ?_ | refine fun (_ : Nat) => ?_ | refine Run.go rfl ?_ | refine Cont.go rfl ?_)
      exact ⟨_, [], FinOk.drop _ _, err 10 (by rw [if_pos h])⟩
    have hpp : parseE p = 0 := Classical.not_not.1 h
    have nc : ¬ parseE p ≠ 0 := fun h => h hpp
    repeat (first | refine OpsA.cons ?_ | refine OpsA.nil ?_ | refine OrdK.cons rfl ?_ | refine OrdK.nil ?_ | refine Run.textA C_ok (aopC_sound C_ok) ?_ | refine And.intro rfl ?_ | refine And.intro (Nat.le_of_ble_eq_true rfl) ?_ | refine And.intro (Int.natCast_nonneg _) ?_ | refine fun (_ : Nat) => ?_ | refine Run.go rfl ?_ | refine Cont.go rfl ?_)
    exact ⟨_, [], FinOk.drop _ _, err 40 (by rw [if_neg nc])⟩
  | some x =>
    rw [hf] at err
    dsimp only at err ⊢
    obtain ⟨hxm, hxp⟩ := findF_some hf
    obtain ⟨i, g1, _⟩ := hT.hit hi.sorted hxm
    rw [hxp] at g1
    refine ⟨1, es, cl, some (i, valX x), by decide, rfl, g1, encX x, rfl, ?_⟩
    repeat (first | refine OpsA.cons ?_ | refine OpsA.nil ?_ | refine OrdK.cons rfl ?_ | refine OrdK.nil ?_ | refine Run.textA C_ok (aopC_sound C_ok) ?_ | refine And.intro rfl ?_ | refine And.intro (Nat.le_of_ble_eq_true rfl) ?_ | refine And.intro (Int.natCast_nonneg _) ?_ | refine fun (_ : Nat) => ?_ | refine Run.go rfl ?_ | refine Cont.go rfl ?_)
    refine ACallT.ok (ACall.ret (parse_code p) ?_)
    repeat (first | refine OpsA.cons ?_ | refine OpsA.nil ?_ | refine OrdK.cons rfl ?_ | refine OrdK.nil ?_ | refine Run.textA C_ok (aopC_sound C_ok) ?_ | refine And.intro rfl ?_ | refine And.intro (Nat.le_of_ble_eq_true rfl) ?_ | refine And.intro (Int.natCast_nonneg _) ?_ | refine fun (_ : Nat) => ?_ | refine Run.go rfl ?_ | refine Cont.go rfl ?_)
    refine ⟨fun h => ?_, fun h => ?_⟩
    · have h : parseE p ≠ 0 := h
      repeat (first | refine OpsA.cons ?_ | refine OpsA.nil ?_ | refine OrdK.cons rfl ?_ | refine OrdK.nil ?_ | refine Run.textA C_ok (aopC_sound C_ok) ?_ | refine And.intro rfl ?_ | refine And.intro (Nat.le_of_ble_eq_true rfl) ?_ | refine And.intro (Int.natCast_nonneg _) ?_ | refine fun (_ : Nat) => ?_ | refine Run.go rfl ?_ | refine Cont.go rfl ?_)
      exact ⟨_, [], FinOk.drop _ _, err 10 (by rw [if_pos h])⟩
    have hpp : parseE p = 0 := Classical.not_not.1 h
    have nc : ¬ parseE p ≠ 0 := fun h => h hpp
    repeat (first | refine OpsA.cons ?_ | refine OpsA.nil ?_ | refine OrdK.cons rfl ?_ | refine OrdK.nil ?_ | refine Run.textA C_ok (aopC_sound C_ok) ?_ | refine And.intro rfl ?_ | refine And.intro (Nat.le_of_ble_eq_true rfl) ?_ | refine And.intro (Int.natCast_nonneg _) ?_ | refine fun (_ : Nat) => ?_ | refine Run.go rfl ?_ | refine Cont.go rfl ?_)
    refine ⟨fun h => absurd h (by decide), fun _ => ?_⟩
    repeat (first | refine OpsA.cons ?_ | refine OpsA.nil ?_ | refine OrdK.cons rfl ?_ | refine OrdK.nil ?_ | refine Run.textA C_ok (aopC_sound C_ok) ?_ | refine And.intro rfl ?_ | refine And.intro (Nat.le_of_ble_eq_true rfl) ?_ | refine And.intro (Int.natCast_nonneg _) ?_ | refine fun (_ : Nat) => ?_ | refine Run.go rfl ?_ | refine Cont.go rfl ?_)
    refine ⟨fun h => absurd h (by decide), fun _ => ?_⟩
    repeat (first | refine OpsA.cons ?_ | refine OpsA.nil ?_ | refine OrdK.cons rfl ?_ | refine OrdK.nil ?_ | refine Run.textA C_ok (aopC_sound C_ok) ?_ | refine And.intro rfl ?_ | refine And.intro (Nat.le_of_ble_eq_true rfl) ?_ | refine And.intro (Int.natCast_nonneg _) ?_ | refine fun (_ : Nat) => ?_ | refine Run.go rfl ?_ | refine Cont.go rfl ?_)
    refine ACallT.ok (ACall.ret (told_spec x) ?_)
    repeat (first | refine OpsA.cons ?_ | refine OpsA.nil ?_ | refine OrdK.cons rfl ?_ | refine OrdK.nil ?_ | refine Run.textA C_ok (aopC_sound C_ok) ?_ | refine And.intro rfl ?_ | refine And.intro (Nat.le_of_ble_eq_true rfl) ?_ | refine And.intro (Int.natCast_nonneg _) ?_ | refine fun (_ : Nat) => ?_ | refine Run.go rfl ?_ | refine Cont.go rfl ?_)
    refine ⟨fun h => absurd h (by decide), fun _ => ?_⟩
    repeat (first | refine OpsA.cons ?_ | refine OpsA.nil ?_ | refine OrdK.cons rfl ?_ | refine OrdK.nil ?_ | refine Run.textA C_ok (aopC_sound C_ok) ?_ | refine And.intro rfl ?_ | refine And.intro (Nat.le_of_ble_eq_true rfl) ?_ | refine And.intro (Int.natCast_nonneg _) ?_ | refine fun (_ : Nat) => ?_ | refine Run.go rfl ?_ | refine Cont.go rfl ?_)
    refine ⟨fun h => absurd h (by decide), fun _ => ?_⟩
    repeat (first | refine OpsA.cons ?_ | refine OpsA.nil ?_ | refine OrdK.cons rfl ?_ | refine OrdK.nil ?_ | refine Run.textA C_ok (aopC_sound C_ok) ?_ | refine And.intro rfl ?_ | refine And.intro (Nat.le_of_ble_eq_true rfl) ?_ | refine And.intro (Int.natCast_nonneg _) ?_ | refine fun (_ : Nat) => ?_ | refine Run.go rfl ?_ | refine Cont.go rfl ?_)
    rw [if_neg nc]
    exact ⟨.tuple [encR (told x), .int .i64 0], _, FinOk.keep _ [0, 1, 2] (subR0 (r := told x) rfl) (by decide) rfl, es, cl, cv, gc, co, hT, by rw [List.append_nil]; exact hc, rfl, rfl⟩
end Go.Proofs.YtiikjcdjgmlcgaaGreatDoor.HBT
/- One op of a request, of kind 7. -/
namespace Go.Proofs.YtiikjcdjgmlcgaaGreatDoor.HBT
open Go Go.Proofs.YtiikjcdjgmlcgaaGreatDoor.HB Go.RowKit
set_option maxRecDepth 8000

set_option maxHeartbeats 8000000 in
theorem op_7 (gw gm gc : Nat) (s st : Int) (cs : List Chg) (cv : AV) (co : AObj) (hc : LC 2 cs cv gc co) (_hcs : cs.length ≤ 100) {l : List Fu} {es : Array MapEntry} {cl : Nat} (hT : TM l es cl) (hi : TInv l) (p d : ByteArray) (v f : Int) :
    FnSpec C 49 [.ptr 0 gw 0, .agg [.int .i64 7, .str p, .str d, .int .i64 v, .int .i64 f]] (WorkL gw gm s st cv es cl gc co) (OneQ gw gm s st cs (playF l s st ⟨7, p, d, v, f⟩)) := by
  have err : ∀ e, playF l s st ⟨7, p, d, v, f⟩ = .error e → OneQ gw gm s st cs (playF l s st ⟨7, p, d, v, f⟩) (.tuple [zeroR, .int .i64 e]) [] := fun e he => by rw [he]; exact ⟨rfl, rfl⟩
  rw [play_7] at err ⊢
  refine FnSpec.start C_ok Tryz.func49 rfl rfl Tryz.ntmps49 ?_
  repeat (first | refine OpsA.cons ?_ | refine OpsA.nil ?_ | refine Run.textA C_ok (aopC_sound C_ok) ?_ | refine And.intro rfl ?_ | refine And.intro (Nat.le_of_ble_eq_true rfl) ?_ | refine And.intro (Int.natCast_nonneg _) ?_ | refine fun (_ : Nat) => ?_ | refine Run.go rfl ?_ | refine Cont.go rfl ?_)
  rename_i go gr
  refine ⟨fun h => absurd h (by decide), fun _ => ?_⟩
  repeat (first | refine OpsA.cons ?_ | refine OpsA.nil ?_ | refine Run.textA C_ok (aopC_sound C_ok) ?_ | refine And.intro rfl ?_ | refine And.intro (Nat.le_of_ble_eq_true rfl) ?_ | refine And.intro (Int.natCast_nonneg _) ?_ | refine fun (_ : Nat) => ?_ | refine Run.go rfl ?_ | refine Cont.go rfl ?_)
  refine ⟨fun h => absurd h (by decide), fun _ => ?_⟩
  repeat (first | refine OpsA.cons ?_ | refine OpsA.nil ?_ | refine Run.textA C_ok (aopC_sound C_ok) ?_ | refine And.intro rfl ?_ | refine And.intro (Nat.le_of_ble_eq_true rfl) ?_ | refine And.intro (Int.natCast_nonneg _) ?_ | refine fun (_ : Nat) => ?_ | refine Run.go rfl ?_ | refine Cont.go rfl ?_)
  refine ⟨fun h => absurd h (by decide), fun _ => ?_⟩
  repeat (first | refine OpsA.cons ?_ | refine OpsA.nil ?_ | refine Run.textA C_ok (aopC_sound C_ok) ?_ | refine And.intro rfl ?_ | refine And.intro (Nat.le_of_ble_eq_true rfl) ?_ | refine And.intro (Int.natCast_nonneg _) ?_ | refine fun (_ : Nat) => ?_ | refine Run.go rfl ?_ | refine Cont.go rfl ?_)
  refine ACallT.ok (ACall.ret (r0 := .agg [.bool false, .bool false, .bool false]) (needs_spec 7) ?_)
  repeat (first | refine OpsA.cons ?_ | refine OpsA.nil ?_ | refine Run.textA C_ok (aopC_sound C_ok) ?_ | refine And.intro rfl ?_ | refine And.intro (Nat.le_of_ble_eq_true rfl) ?_ | refine And.intro (Int.natCast_nonneg _) ?_ | refine fun (_ : Nat) => ?_ | refine Run.go rfl ?_ | refine Cont.go rfl ?_)
  refine Run.drawnK C_ok (aopC_sound C_ok) [0, 1, 3] [0, 1, 2, 3, 4, 5, 6, 7, 8, 9, 10, 11, 12] (by kernel_rfl) ?_
  repeat (first | refine OpsA.cons ?_ | refine OpsA.nil ?_ | refine OrdK.cons rfl ?_ | refine OrdK.nil ?_ | refine Run.textA C_ok (aopC_sound C_ok) ?_ | refine And.intro rfl ?_ | refine And.intro (Nat.le_of_ble_eq_true rfl) ?_ | refine And.intro (Int.natCast_nonneg _) ?_ | refine fun (_ : Nat) => ?_ | refine Run.go rfl ?_ | refine Cont.go rfl ?_)
  cases hf : findF l p with
  | none =>
    rw [hf] at err
    refine ⟨1, es, cl, none, by decide, rfl, hT.miss (findF_none hf), ?_⟩
    repeat (first | refine OpsA.cons ?_ | refine OpsA.nil ?_ | refine OrdK.cons rfl ?_ | refine OrdK.nil ?_ | refine Run.textA C_ok (aopC_sound C_ok) ?_ | refine And.intro rfl ?_ | refine And.intro (Nat.le_of_ble_eq_true rfl) ?_ | refine And.intro (Int.natCast_nonneg _) ?_ | refine fun (_ : Nat) => ?_ | refine Run.go rfl ?_ | refine Cont.go rfl ?_)
    refine ACallT.ok (ACall.ret (parse_code p) ?_)
    repeat (first | refine OpsA.cons ?_ | refine OpsA.nil ?_ | refine OrdK.cons rfl ?_ | refine OrdK.nil ?_ | refine Run.textA C_ok (aopC_sound C_ok) ?_ | refine And.intro rfl ?_ | refine And.intro (Nat.le_of_ble_eq_true rfl) ?_ | refine And.intro (Int.natCast_nonneg _) ?_ | refine fun (_ : Nat) => ?_ | refine Run.go rfl ?_ | refine Cont.go rfl ?_)
    refine ⟨fun h => ?_, fun h => ?_⟩
    · have h : parseE p ≠ 0 := h
      repeat (first | refine OpsA.cons ?_ | refine OpsA.nil ?_ | refine OrdK.cons rfl ?_ | refine OrdK.nil ?_ | refine Run.textA C_ok (aopC_sound C_ok) ?_ | refine And.intro rfl ?_ | refine And.intro (Nat.le_of_ble_eq_true rfl) ?_ | refine And.intro (Int.natCast_nonneg _) ?_ | refine fun (_ : Nat) => ?_ | refine Run.go rfl ?_ | refine Cont.go rfl ?_)
      exact ⟨_, [], FinOk.drop _ _, err 10 (by rw [if_pos h])⟩
    have hpp : parseE p = 0 := Classical.not_not.1 h
    have nc : ¬ parseE p ≠ 0 := fun h => h hpp
    repeat (first | refine OpsA.cons ?_ | refine OpsA.nil ?_ | refine OrdK.cons rfl ?_ | refine OrdK.nil ?_ | refine Run.textA C_ok (aopC_sound C_ok) ?_ | refine And.intro rfl ?_ | refine And.intro (Nat.le_of_ble_eq_true rfl) ?_ | refine And.intro (Int.natCast_nonneg _) ?_ | refine fun (_ : Nat) => ?_ | refine Run.go rfl ?_ | refine Cont.go rfl ?_)
    exact ⟨_, [], FinOk.drop _ _, err 40 (by rw [if_neg nc])⟩
  | some x =>
    rw [hf] at err
    dsimp only at err ⊢
    obtain ⟨hxm, hxp⟩ := findF_some hf
    obtain ⟨i, g1, _⟩ := hT.hit hi.sorted hxm
    rw [hxp] at g1
    refine ⟨1, es, cl, some (i, valX x), by decide, rfl, g1, encX x, rfl, ?_⟩
    repeat (first | refine OpsA.cons ?_ | refine OpsA.nil ?_ | refine OrdK.cons rfl ?_ | refine OrdK.nil ?_ | refine Run.textA C_ok (aopC_sound C_ok) ?_ | refine And.intro rfl ?_ | refine And.intro (Nat.le_of_ble_eq_true rfl) ?_ | refine And.intro (Int.natCast_nonneg _) ?_ | refine fun (_ : Nat) => ?_ | refine Run.go rfl ?_ | refine Cont.go rfl ?_)
    refine ACallT.ok (ACall.ret (parse_code p) ?_)
    repeat (first | refine OpsA.cons ?_ | refine OpsA.nil ?_ | refine OrdK.cons rfl ?_ | refine OrdK.nil ?_ | refine Run.textA C_ok (aopC_sound C_ok) ?_ | refine And.intro rfl ?_ | refine And.intro (Nat.le_of_ble_eq_true rfl) ?_ | refine And.intro (Int.natCast_nonneg _) ?_ | refine fun (_ : Nat) => ?_ | refine Run.go rfl ?_ | refine Cont.go rfl ?_)
    refine ⟨fun h => ?_, fun h => ?_⟩
    · have h : parseE p ≠ 0 := h
      repeat (first | refine OpsA.cons ?_ | refine OpsA.nil ?_ | refine OrdK.cons rfl ?_ | refine OrdK.nil ?_ | refine Run.textA C_ok (aopC_sound C_ok) ?_ | refine And.intro rfl ?_ | refine And.intro (Nat.le_of_ble_eq_true rfl) ?_ | refine And.intro (Int.natCast_nonneg _) ?_ | refine fun (_ : Nat) => ?_ | refine Run.go rfl ?_ | refine Cont.go rfl ?_)
      exact ⟨_, [], FinOk.drop _ _, err 10 (by rw [if_pos h])⟩
    have hpp : parseE p = 0 := Classical.not_not.1 h
    have nc : ¬ parseE p ≠ 0 := fun h => h hpp
    repeat (first | refine OpsA.cons ?_ | refine OpsA.nil ?_ | refine OrdK.cons rfl ?_ | refine OrdK.nil ?_ | refine Run.textA C_ok (aopC_sound C_ok) ?_ | refine And.intro rfl ?_ | refine And.intro (Nat.le_of_ble_eq_true rfl) ?_ | refine And.intro (Int.natCast_nonneg _) ?_ | refine fun (_ : Nat) => ?_ | refine Run.go rfl ?_ | refine Cont.go rfl ?_)
    refine ⟨fun h => absurd h (by decide), fun _ => ?_⟩
    repeat (first | refine OpsA.cons ?_ | refine OpsA.nil ?_ | refine OrdK.cons rfl ?_ | refine OrdK.nil ?_ | refine Run.textA C_ok (aopC_sound C_ok) ?_ | refine And.intro rfl ?_ | refine And.intro (Nat.le_of_ble_eq_true rfl) ?_ | refine And.intro (Int.natCast_nonneg _) ?_ | refine fun (_ : Nat) => ?_ | refine Run.go rfl ?_ | refine Cont.go rfl ?_)
    refine ⟨fun h => absurd h (by decide), fun _ => ?_⟩
    repeat (first | refine OpsA.cons ?_ | refine OpsA.nil ?_ | refine OrdK.cons rfl ?_ | refine OrdK.nil ?_ | refine Run.textA C_ok (aopC_sound C_ok) ?_ | refine And.intro rfl ?_ | refine And.intro (Nat.le_of_ble_eq_true rfl) ?_ | refine And.intro (Int.natCast_nonneg _) ?_ | refine fun (_ : Nat) => ?_ | refine Run.go rfl ?_ | refine Cont.go rfl ?_)
    refine ACallT.ok (ACall.ret (told_spec x) ?_)
    repeat (first | refine OpsA.cons ?_ | refine OpsA.nil ?_ | refine OrdK.cons rfl ?_ | refine OrdK.nil ?_ | refine Run.textA C_ok (aopC_sound C_ok) ?_ | refine And.intro rfl ?_ | refine And.intro (Nat.le_of_ble_eq_true rfl) ?_ | refine And.intro (Int.natCast_nonneg _) ?_ | refine fun (_ : Nat) => ?_ | refine Run.go rfl ?_ | refine Cont.go rfl ?_)
    refine ⟨fun h => absurd h (by decide), fun _ => ?_⟩
    repeat (first | refine OpsA.cons ?_ | refine OpsA.nil ?_ | refine OrdK.cons rfl ?_ | refine OrdK.nil ?_ | refine Run.textA C_ok (aopC_sound C_ok) ?_ | refine And.intro rfl ?_ | refine And.intro (Nat.le_of_ble_eq_true rfl) ?_ | refine And.intro (Int.natCast_nonneg _) ?_ | refine fun (_ : Nat) => ?_ | refine Run.go rfl ?_ | refine Cont.go rfl ?_)
    refine ⟨fun _ => ?_, fun h => absurd (by decide) h⟩
    repeat (first | refine OpsA.cons ?_ | refine OpsA.nil ?_ | refine OrdK.cons rfl ?_ | refine OrdK.nil ?_ | refine Run.textA C_ok (aopC_sound C_ok) ?_ | refine And.intro rfl ?_ | refine And.intro (Nat.le_of_ble_eq_true rfl) ?_ | refine And.intro (Int.natCast_nonneg _) ?_ | refine fun (_ : Nat) => ?_ | refine Run.go rfl ?_ | refine Cont.go rfl ?_)
    refine Run.drawnK C_ok (aopC_sound C_ok) [0, 6] [0, 1, 2, 3, 4, 5, 8, 6, 7] (by kernel_rfl) ?_
    repeat (first | refine OpsA.cons ?_ | refine OpsA.nil ?_ | refine OrdK.cons rfl ?_ | refine OrdK.nil ?_ | refine Run.textA C_ok (aopC_sound C_ok) ?_ | refine And.intro rfl ?_ | refine And.intro (Nat.le_of_ble_eq_true rfl) ?_ | refine And.intro (Int.natCast_nonneg _) ?_ | refine fun (_ : Nat) => ?_ | refine Run.go rfl ?_ | refine Cont.go rfl ?_)
    rename_i gn gx g2
    refine ACallT.ok (ACall.sel [1] (by decide) [.any (.map (some gm)), .str x.p] _ (.two (Sub.refl _) (Sub.refl _)) (kids_spec gm hT hi x.p) ?_)
    rintro r L' ⟨v0, g, o, hv, rfl, rfl⟩
    have hlen1 : (kidsF l x.p).length ≤ 64 := Nat.le_trans (List.length_filter_le _ _) hi.len
    rw [if_neg nc]
    rcases hv with ⟨e0, rfl, rfl⟩ | ⟨Cp, rfl, rfl⟩
    · refine ⟨.nils, Sub.refl _, ?_⟩
      repeat (first | refine OpsA.cons ?_ | refine OpsA.nil ?_ | refine OrdK.cons rfl ?_ | refine OrdK.nil ?_ | refine Run.textA C_ok (aopC_sound C_ok) ?_ | refine And.intro rfl ?_ | refine And.intro (Nat.le_of_ble_eq_true rfl) ?_ | refine And.intro (Int.natCast_nonneg _) ?_ | refine fun (_ : Nat) => ?_ | refine Run.go rfl ?_ | refine Cont.go rfl ?_)
      refine Run.loopW (fun k env L => k = 0 ∧ env = [.junk, .junk, .junk, .junk, .ptr 3 gr 0, .int .i64 0, .junk, .junk, .junk, .junk, .junk, .ptr 4 gn 0, .junk, .junk, .junk, .junk, .junk, .junk, .junk, .junk, .junk, .junk, .junk, .junk, .junk, .junk, .junk, .junk, .junk, .junk, .junk, .junk, .junk, .junk, .junk, .junk, .junk, .junk, .junk, .junk, .junk, .junk, .junk, .junk, .junk, .junk, .junk, .junk, .junk, .junk, .junk, .junk, .junk, .junk, .junk, .junk, .junk, .junk, .junk, .junk, .junk, .junk, .junk, .junk, .junk, .junk, .junk, .junk, .junk, .junk, .junk, .junk, .junk, .junk, .junk, .junk, .junk, .junk, .junk, .junk, .junk, .junk, .junk, .junk, .junk, .junk, .junk, .junk, .junk, .junk, .junk, .junk, .junk, .junk, .junk, .junk, .junk, .junk, .junk, .junk, .junk, .junk, .junk, .junk, .junk, .junk, .junk, .junk, .junk, .junk, .junk, .junk, .junk, .junk, .junk, .junk, .junk, .junk, .junk, .junk, .junk, .junk, .junk, .junk, .junk, .junk, .junk, .junk, .junk, .junk, .nils, .int .i64 0, .int .i64 0, .junk, .junk, .junk, .junk, .junk, .junk, .junk, .junk, .junk, .junk, .junk, .junk, .junk, .junk, .junk, .junk, .junk] ∧ L = [(gw, .cells tW [.any (.map (some gm)), .int .i64 s, .int .i64 st, cv]), (gm, .obj (.map es cl)), (gc, co), (gr, .cells tR zeroRs), (gn, .cells tR [.str x.p, .str eS, .int .i64 x.v, .int .i64 x.m, .int .i64 x.c, .int .i64 x.o, .nils])]) 0
        [.junk, .junk, .junk, .junk, .ptr 3 gr 0, .int .i64 0, .junk, .junk, .junk, .junk, .junk, .ptr 4 gn 0, .junk, .junk, .junk, .junk, .junk, .junk, .junk, .junk, .junk, .junk, .junk, .junk, .junk, .junk, .junk, .junk, .junk, .junk, .junk, .junk, .junk, .junk, .junk, .junk, .junk, .junk, .junk, .junk, .junk, .junk, .junk, .junk, .junk, .junk, .junk, .junk, .junk, .junk, .junk, .junk, .junk, .junk, .junk, .junk, .junk, .junk, .junk, .junk, .junk, .junk, .junk, .junk, .junk, .junk, .junk, .junk, .junk, .junk, .junk, .junk, .junk, .junk, .junk, .junk, .junk, .junk, .junk, .junk, .junk, .junk, .junk, .junk, .junk, .junk, .junk, .junk, .junk, .junk, .junk, .junk, .junk, .junk, .junk, .junk, .junk, .junk, .junk, .junk, .junk, .junk, .junk, .junk, .junk, .junk, .junk, .junk, .junk, .junk, .junk, .junk, .junk, .junk, .junk, .junk, .junk, .junk, .junk, .junk, .junk, .junk, .junk, .junk, .junk, .junk, .junk, .junk, .junk, .junk, .nils, .int .i64 0, .int .i64 0, .junk, .junk, .junk, .junk, .junk, .junk, .junk, .junk, .junk, .junk, .junk, .junk, .junk, .junk, .junk, .junk, .junk]
        [(gw, .cells tW [.any (.map (some gm)), .int .i64 s, .int .i64 st, cv]), (gm, .obj (.map es cl)), (gc, co), (gr, .cells tR zeroRs), (gn, .cells tR [.str x.p, .str eS, .int .i64 x.v, .int .i64 x.m, .int .i64 x.c, .int .i64 x.o, .nils])]
        (Weak.sel ?_ [0, 1, 2, 4, 7] (by decide) ?_) ⟨rfl, rfl, rfl⟩ ?_
      · repeat (first | exact trivial | refine And.intro (Sub.junk _) ?_ | refine And.intro (Sub.refl _) ?_ | refine And.intro (Sub.sl _ _ _ _ _) ?_ | refine And.intro (Sub.ptr _ _ _ _) ?_)
      · repeat (first | exact trivial | refine And.intro rfl ?_ | refine And.intro (SubO.refl _) ?_ | refine And.intro trivial ?_ | refine And.intro (SubO.cells (by repeat (first | exact trivial | refine And.intro (Sub.refl _) ?_ | refine And.intro (Sub.sl _ _ _ _ _) ?_ | refine And.intro (Sub.ptr _ _ _ _) ?_))) ?_)
      rintro k env L ⟨rfl, rfl, rfl⟩
      repeat (first | refine OpsA.cons ?_ | refine OpsA.nil ?_ | refine OrdK.cons rfl ?_ | refine OrdK.nil ?_ | refine Run.textA C_ok (aopC_sound C_ok) ?_ | refine And.intro rfl ?_ | refine And.intro (Nat.le_of_ble_eq_true rfl) ?_ | refine And.intro (Int.natCast_nonneg _) ?_ | refine fun (_ : Nat) => ?_ | refine Run.go rfl ?_ | refine Cont.go rfl ?_)
      refine ⟨fun h => absurd h (by decide), fun _ => ?_⟩
      repeat (first | refine OpsA.cons ?_ | refine OpsA.nil ?_ | refine OrdK.cons rfl ?_ | refine OrdK.nil ?_ | refine Run.textA C_ok (aopC_sound C_ok) ?_ | refine And.intro rfl ?_ | refine And.intro (Nat.le_of_ble_eq_true rfl) ?_ | refine And.intro (Int.natCast_nonneg _) ?_ | refine fun (_ : Nat) => ?_ | refine Run.go rfl ?_ | refine Cont.go rfl ?_)
      exact ⟨.tuple [encR { told x with kids := (kidsF l x.p).map fun y => nameB y.p }, .int .i64 0], _, FinOk.keep _ [0, 1, 2] (subR0 (r := { told x with kids := (kidsF l x.p).map fun y => nameB y.p }) (by rw [e0]; rfl)) (by decide) rfl, es, cl, cv, gc, co, hT, by rw [List.append_nil]; exact hc, rfl, rfl⟩
    · refine ⟨.sl 8 g Cp (kidsF l x.p).length, Sub.sl _ _ _ _ _, ?_⟩
      repeat (first | refine OpsA.cons ?_ | refine OpsA.nil ?_ | refine OrdK.cons rfl ?_ | refine OrdK.nil ?_ | refine Run.textA C_ok (aopC_sound C_ok) ?_ | refine And.intro rfl ?_ | refine And.intro (Nat.le_of_ble_eq_true rfl) ?_ | refine And.intro (Int.natCast_nonneg _) ?_ | refine fun (_ : Nat) => ?_ | refine Run.go rfl ?_ | refine Cont.go rfl ?_)
      refine Run.loopW (fun k env L => ∃ (i : Nat) (kv : AV) (gk : Nat) (ok : AObj), k = (kidsF l x.p).length - i ∧ i ≤ (kidsF l x.p).length ∧ LS 6 (((kidsF l x.p).take i).map fun y => nameB y.p) kv gk ok ∧ env = [.junk, .junk, .junk, .junk, .ptr 3 gr 0, .int .i64 0, .junk, .junk, .junk, .junk, .junk, .ptr 4 gn 0, .junk, .junk, .junk, .junk, .junk, .junk, .junk, .junk, .junk, .junk, .junk, .junk, .junk, .junk, .junk, .junk, .junk, .junk, .junk, .junk, .junk, .junk, .junk, .junk, .junk, .junk, .junk, .junk, .junk, .junk, .junk, .junk, .junk, .junk, .junk, .junk, .junk, .junk, .junk, .junk, .junk, .junk, .junk, .junk, .junk, .junk, .junk, .junk, .junk, .junk, .junk, .junk, .junk, .junk, .junk, .junk, .junk, .junk, .junk, .junk, .junk, .junk, .junk, .junk, .junk, .junk, .junk, .junk, .junk, .junk, .junk, .junk, .junk, .junk, .junk, .junk, .junk, .junk, .junk, .junk, .junk, .junk, .junk, .junk, .junk, .junk, .junk, .junk, .junk, .junk, .junk, .junk, .junk, .junk, .junk, .junk, .junk, .junk, .junk, .junk, .junk, .junk, .junk, .junk, .junk, .junk, .junk, .junk, .junk, .junk, .junk, .junk, .junk, .junk, .junk, .junk, .junk, .junk, .sl 5 g Cp (kidsF l x.p).length, .int .i64 (kidsF l x.p).length, .int .i64 i, .junk, .junk, .junk, .junk, .junk, .junk, .junk, .junk, .junk, .junk, .junk, .junk, .junk, .junk, .junk, .junk, .junk] ∧ L = [(gw, .cells tW [.any (.map (some gm)), .int .i64 s, .int .i64 st, cv]), (gm, .obj (.map es cl)), (gc, co), (gr, .cells tR zeroRs), (gn, .cells tR [.str x.p, .str eS, .int .i64 x.v, .int .i64 x.m, .int .i64 x.c, .int .i64 x.o, kv]), (g, .row tX 7 Cp ((kidsF l x.p).map encX)), (gk, ok)]) (kidsF l x.p).length
        [.junk, .junk, .junk, .junk, .ptr 3 gr 0, .int .i64 0, .junk, .junk, .junk, .junk, .junk, .ptr 4 gn 0, .junk, .junk, .junk, .junk, .junk, .junk, .junk, .junk, .junk, .junk, .junk, .junk, .junk, .junk, .junk, .junk, .junk, .junk, .junk, .junk, .junk, .junk, .junk, .junk, .junk, .junk, .junk, .junk, .junk, .junk, .junk, .junk, .junk, .junk, .junk, .junk, .junk, .junk, .junk, .junk, .junk, .junk, .junk, .junk, .junk, .junk, .junk, .junk, .junk, .junk, .junk, .junk, .junk, .junk, .junk, .junk, .junk, .junk, .junk, .junk, .junk, .junk, .junk, .junk, .junk, .junk, .junk, .junk, .junk, .junk, .junk, .junk, .junk, .junk, .junk, .junk, .junk, .junk, .junk, .junk, .junk, .junk, .junk, .junk, .junk, .junk, .junk, .junk, .junk, .junk, .junk, .junk, .junk, .junk, .junk, .junk, .junk, .junk, .junk, .junk, .junk, .junk, .junk, .junk, .junk, .junk, .junk, .junk, .junk, .junk, .junk, .junk, .junk, .junk, .junk, .junk, .junk, .junk, .sl 5 g Cp (kidsF l x.p).length, .int .i64 (kidsF l x.p).length, .int .i64 (0 : Nat), .junk, .junk, .junk, .junk, .junk, .junk, .junk, .junk, .junk, .junk, .junk, .junk, .junk, .junk, .junk, .junk, .junk]
        [(gw, .cells tW [.any (.map (some gm)), .int .i64 s, .int .i64 st, cv]), (gm, .obj (.map es cl)), (gc, co), (gr, .cells tR zeroRs), (gn, .cells tR [.str x.p, .str eS, .int .i64 x.v, .int .i64 x.m, .int .i64 x.c, .int .i64 x.o, .nils]), (g, .row tX 7 Cp ((kidsF l x.p).map encX)), (0, .dead)]
        (Weak.sel ?_ [0, 1, 2, 4, 7, 8, 19] (by decide) ?_) ⟨0, .nils, 0, .dead, by omega, by omega, .inl ⟨rfl, rfl, rfl⟩, rfl, rfl⟩ ?_
      · repeat (first | exact trivial | refine And.intro (Sub.junk _) ?_ | refine And.intro (Sub.refl _) ?_ | refine And.intro (Sub.sl _ _ _ _ _) ?_ | refine And.intro (Sub.ptr _ _ _ _) ?_)
      · repeat (first | exact trivial | refine And.intro rfl ?_ | refine And.intro (SubO.refl _) ?_ | refine And.intro trivial ?_ | refine And.intro (SubO.cells (by repeat (first | exact trivial | refine And.intro (Sub.refl _) ?_ | refine And.intro (Sub.sl _ _ _ _ _) ?_ | refine And.intro (Sub.ptr _ _ _ _) ?_))) ?_)
      rintro k env L ⟨i, kv, gk, ok, rfl, hi', hkv, rfl, rfl⟩
      repeat (first | refine OpsA.cons ?_ | refine OpsA.nil ?_ | refine OrdK.cons rfl ?_ | refine OrdK.nil ?_ | refine Run.textA C_ok (aopC_sound C_ok) ?_ | refine And.intro rfl ?_ | refine And.intro (Nat.le_of_ble_eq_true rfl) ?_ | refine And.intro (Int.natCast_nonneg _) ?_ | refine fun (_ : Nat) => ?_ | refine Run.go rfl ?_ | refine Cont.go rfl ?_)
      refine ⟨fun h => ?_, fun h => ?_⟩
      · have h : (i : Int) < ((kidsF l x.p).length : Int) := h
        have hil : i < (kidsF l x.p).length := by omega
        obtain ⟨y, ey⟩ : ∃ y, (kidsF l x.p)[i]? = some y := ⟨_, List.getElem?_eq_getElem hil⟩
        have etk : ((kidsF l x.p).take (i + 1)).map (fun y => nameB y.p) = ((kidsF l x.p).take i).map (fun y => nameB y.p) ++ [nameB y.p] := by
          rw [List.take_add_one, ey]; simp
        repeat (first | refine OpsA.cons ?_ | refine OpsA.nil ?_ | refine OrdK.cons rfl ?_ | refine OrdK.nil ?_ | refine Run.textA C_ok (aopC_sound C_ok) ?_ | refine And.intro rfl ?_ | refine And.intro (Nat.le_of_ble_eq_true rfl) ?_ | refine And.intro (Int.natCast_nonneg _) ?_ | refine fun (_ : Nat) => ?_ | refine Run.go rfl ?_ | refine Cont.go rfl ?_)
        refine ⟨h, ?_⟩
        repeat (first | refine OpsA.cons ?_ | refine OpsA.nil ?_ | refine OrdK.cons rfl ?_ | refine OrdK.nil ?_ | refine Run.textA C_ok (aopC_sound C_ok) ?_ | refine And.intro rfl ?_ | refine And.intro (Nat.le_of_ble_eq_true rfl) ?_ | refine And.intro (Int.natCast_nonneg _) ?_ | refine fun (_ : Nat) => ?_ | refine Run.go rfl ?_ | refine Cont.go rfl ?_)
        refine ⟨encX y, map_at encX ey, ?_⟩
        repeat (first | refine OpsA.cons ?_ | refine OpsA.nil ?_ | refine OrdK.cons rfl ?_ | refine OrdK.nil ?_ | refine Run.textA C_ok (aopC_sound C_ok) ?_ | refine And.intro rfl ?_ | refine And.intro (Nat.le_of_ble_eq_true rfl) ?_ | refine And.intro (Int.natCast_nonneg _) ?_ | refine fun (_ : Nat) => ?_ | refine Run.go rfl ?_ | refine Cont.go rfl ?_)
        refine ACallT.ok (ACall.ret (name_one y.p) ?_)
        repeat (first | refine OpsA.cons ?_ | refine OpsA.nil ?_ | refine OrdK.cons rfl ?_ | refine OrdK.nil ?_ | refine Run.textA C_ok (aopC_sound C_ok) ?_ | refine And.intro rfl ?_ | refine And.intro (Nat.le_of_ble_eq_true rfl) ?_ | refine And.intro (Int.natCast_nonneg _) ?_ | refine fun (_ : Nat) => ?_ | refine Run.go rfl ?_ | refine Cont.go rfl ?_)
        rcases hkv with ⟨e1, rfl, rfl⟩ | ⟨Ck, rfl, rfl⟩
        · repeat (first | refine OpsA.cons ?_ | refine OpsA.nil ?_ | refine OrdK.cons rfl ?_ | refine OrdK.nil ?_ | refine Run.textA C_ok (aopC_sound C_ok) ?_ | refine And.intro rfl ?_ | refine And.intro (Nat.le_of_ble_eq_true rfl) ?_ | refine And.intro (Int.natCast_nonneg _) ?_ | refine fun (_ : Nat) => ?_ | refine Run.go rfl ?_ | refine Cont.go rfl ?_)
          refine ⟨fun h => absurd h (List.cons_ne_nil _ _), fun _ => ?_⟩
          repeat (first | refine OpsA.cons ?_ | refine OpsA.nil ?_ | refine OrdK.cons rfl ?_ | refine OrdK.nil ?_ | refine Run.textA C_ok (aopC_sound C_ok) ?_ | refine And.intro rfl ?_ | refine And.intro (Nat.le_of_ble_eq_true rfl) ?_ | refine And.intro (Int.natCast_nonneg _) ?_ | refine fun (_ : Nat) => ?_ | refine Run.go rfl ?_ | refine Cont.go rfl ?_)
          rename_i g' C'
          refine fun r hr => ?_
          obtain rfl := add1 hr (by omega)
          repeat (first | refine OpsA.cons ?_ | refine OpsA.nil ?_ | refine OrdK.cons rfl ?_ | refine OrdK.nil ?_ | refine Run.textA C_ok (aopC_sound C_ok) ?_ | refine And.intro rfl ?_ | refine And.intro (Nat.le_of_ble_eq_true rfl) ?_ | refine And.intro (Int.natCast_nonneg _) ?_ | refine fun (_ : Nat) => ?_ | refine Run.go rfl ?_ | refine Cont.go rfl ?_)
          refine Cont.lpW ?_
          refine ⟨(kidsF l x.p).length - (i + 1), _, _, by omega, Weak.sel ?_ [0, 1, 2, 3, 4, 5, 9] (by decide) ?_, ⟨i + 1, .sl 6 g' C' 1, g', _, rfl, by omega, etk.symm ▸ LN.one e1, rfl, rfl⟩⟩
          · repeat (first | exact trivial | refine And.intro (Sub.junk _) ?_ | refine And.intro (Sub.refl _) ?_ | refine And.intro (Sub.sl _ _ _ _ _) ?_ | refine And.intro (Sub.ptr _ _ _ _) ?_)
          · repeat (first | exact trivial | refine And.intro rfl ?_ | refine And.intro (SubO.refl _) ?_ | refine And.intro trivial ?_ | refine And.intro (SubO.cells (by repeat (first | exact trivial | refine And.intro (Sub.refl _) ?_ | refine And.intro (Sub.sl _ _ _ _ _) ?_ | refine And.intro (Sub.ptr _ _ _ _) ?_))) ?_)
        · repeat (first | refine OpsA.cons ?_ | refine OpsA.nil ?_ | refine OrdK.cons rfl ?_ | refine OrdK.nil ?_ | refine Run.textA C_ok (aopC_sound C_ok) ?_ | refine And.intro rfl ?_ | refine And.intro (Nat.le_of_ble_eq_true rfl) ?_ | refine And.intro (Int.natCast_nonneg _) ?_ | refine fun (_ : Nat) => ?_ | refine Run.go rfl ?_ | refine Cont.go rfl ?_)
          refine ⟨by simp, ?_⟩
          repeat (first | refine OpsA.cons ?_ | refine OpsA.nil ?_ | refine OrdK.cons rfl ?_ | refine OrdK.nil ?_ | refine Run.textA C_ok (aopC_sound C_ok) ?_ | refine And.intro rfl ?_ | refine And.intro (Nat.le_of_ble_eq_true rfl) ?_ | refine And.intro (Int.natCast_nonneg _) ?_ | refine fun (_ : Nat) => ?_ | refine Run.go rfl ?_ | refine Cont.go rfl ?_)
          refine ⟨by simp; omega, ?_⟩
          repeat (first | refine OpsA.cons ?_ | refine OpsA.nil ?_ | refine OrdK.cons rfl ?_ | refine OrdK.nil ?_ | refine Run.textA C_ok (aopC_sound C_ok) ?_ | refine And.intro rfl ?_ | refine And.intro (Nat.le_of_ble_eq_true rfl) ?_ | refine And.intro (Int.natCast_nonneg _) ?_ | refine fun (_ : Nat) => ?_ | refine Run.go rfl ?_ | refine Cont.go rfl ?_)
          rename_i g' C'
          refine fun r hr => ?_
          obtain rfl := add1 hr (by omega)
          repeat (first | refine OpsA.cons ?_ | refine OpsA.nil ?_ | refine OrdK.cons rfl ?_ | refine OrdK.nil ?_ | refine Run.textA C_ok (aopC_sound C_ok) ?_ | refine And.intro rfl ?_ | refine And.intro (Nat.le_of_ble_eq_true rfl) ?_ | refine And.intro (Int.natCast_nonneg _) ?_ | refine fun (_ : Nat) => ?_ | refine Run.go rfl ?_ | refine Cont.go rfl ?_)
          refine Cont.lpW ?_
          refine ⟨(kidsF l x.p).length - (i + 1), _, _, by omega, Weak.sel ?_ [0, 1, 2, 3, 4, 5, 6] (by decide) ?_, ⟨i + 1, .sl 6 g' C' (((((kidsF l x.p).take i).map fun y => nameB y.p).map AV.str).length + 1), g', .row 9 1 C' ((((kidsF l x.p).take i).map fun y => nameB y.p).map AV.str ++ [.str (nameB y.p)]), rfl, by omega, etk.symm ▸ LN.snoc, rfl, rfl⟩⟩
          · repeat (first | exact trivial | refine And.intro (Sub.junk _) ?_ | refine And.intro (Sub.refl _) ?_ | refine And.intro (Sub.sl _ _ _ _ _) ?_ | refine And.intro (Sub.ptr _ _ _ _) ?_)
          · repeat (first | exact trivial | refine And.intro rfl ?_ | refine And.intro (SubO.refl _) ?_ | refine And.intro trivial ?_ | refine And.intro (SubO.cells (by repeat (first | exact trivial | refine And.intro (Sub.refl _) ?_ | refine And.intro (Sub.sl _ _ _ _ _) ?_ | refine And.intro (Sub.ptr _ _ _ _) ?_))) ?_)
      · have h : ¬ (i : Int) < ((kidsF l x.p).length : Int) := h
        have hil : i = (kidsF l x.p).length := by omega
        subst hil
        rw [List.take_length] at hkv
        rcases hkv with ⟨e1, rfl, rfl⟩ | ⟨Ck, rfl, rfl⟩
        · repeat (first | refine OpsA.cons ?_ | refine OpsA.nil ?_ | refine OrdK.cons rfl ?_ | refine OrdK.nil ?_ | refine Run.textA C_ok (aopC_sound C_ok) ?_ | refine And.intro rfl ?_ | refine And.intro (Nat.le_of_ble_eq_true rfl) ?_ | refine And.intro (Int.natCast_nonneg _) ?_ | refine fun (_ : Nat) => ?_ | refine Run.go rfl ?_ | refine Cont.go rfl ?_)
          exact ⟨.tuple [encR { told x with kids := (kidsF l x.p).map fun y => nameB y.p }, .int .i64 0], _, FinOk.keep _ [0, 1, 2] (subR0 (r := { told x with kids := (kidsF l x.p).map fun y => nameB y.p }) e1) (by decide) rfl, es, cl, cv, gc, co, hT, by rw [List.append_nil]; exact hc, rfl, rfl⟩
        · repeat (first | refine OpsA.cons ?_ | refine OpsA.nil ?_ | refine OrdK.cons rfl ?_ | refine OrdK.nil ?_ | refine Run.textA C_ok (aopC_sound C_ok) ?_ | refine And.intro rfl ?_ | refine And.intro (Nat.le_of_ble_eq_true rfl) ?_ | refine And.intro (Int.natCast_nonneg _) ?_ | refine fun (_ : Nat) => ?_ | refine Run.go rfl ?_ | refine Cont.go rfl ?_)
          exact ⟨.tuple [encR { told x with kids := (kidsF l x.p).map fun y => nameB y.p }, .int .i64 0], _, FinOk.keepLend (r1 := .tuple [encR { told x with kids := (kidsF l x.p).map fun y => nameB y.p }, .int .i64 0]) [0, 1, 2] (by decide) (Lend.tuples ⟨Lend.aggs ⟨.same _, .same _, .same _, .same _, .same _, .same _, .row 6 gk Ck _ 9 1 _ rfl (by simp), trivial⟩, .same _, trivial⟩) (Sub.refl _), es, cl, cv, gc, co, hT, by rw [List.append_nil]; exact hc, rfl, rfl⟩
end Go.Proofs.YtiikjcdjgmlcgaaGreatDoor.HBT
/- One op of a request: make, brief and counted. -/
namespace Go.Proofs.YtiikjcdjgmlcgaaGreatDoor.HBT
open Go Go.Proofs.YtiikjcdjgmlcgaaGreatDoor.HB Go.RowKit
set_option maxRecDepth 8000

set_option maxHeartbeats 8000000 in
theorem make_a (gw gm gc : Nat) (s st : Int) (cs : List Chg) (cv : AV) (co : AObj) (hc : LC 2 cs cv gc co) (hcs : cs.length ≤ 100) {l : List Fu} {es : Array MapEntry} {cl : Nat} (hT : TM l es cl) (hi : TInv l) (o : Opp) (hb1 : bitsV .and .i64 o.f 1 ≠ 0) (hb2 : bitsV .and .i64 o.f 2 ≠ 0) :
    FnSpec C 72 [.ptr 0 gw 0, encO o] (WorkL gw gm s st cv es cl gc co) (OneQ gw gm s st cs (makeF l s st o)) := by
  have err : ∀ e, makeF l s st o = .error e → OneQ gw gm s st cs (makeF l s st o) (.tuple [zeroR, .int .i64 e]) [] := fun e he => by rw [he]; exact ⟨rfl, rfl⟩
  refine FnSpec.start C_ok Tryz.func72 rfl rfl Tryz.ntmps72 ?_
  repeat (first | refine OpsA.cons ?_ | refine OpsA.nil ?_ | refine Run.textA C_ok (aopC_sound C_ok) ?_ | refine And.intro rfl ?_ | refine And.intro (Nat.le_of_ble_eq_true rfl) ?_ | refine And.intro (Int.natCast_nonneg _) ?_ | refine fun (_ : Nat) => ?_ | refine Run.go rfl ?_ | refine Cont.go rfl ?_)
  rename_i go gr
  refine Run.drawnK C_ok (aopC_sound C_ok) [3] [0, 1, 2, 3, 4, 5, 6, 7, 8, 9] (by kernel_rfl) ?_
  repeat (first | refine OpsA.cons ?_ | refine OpsA.nil ?_ | refine OrdK.cons rfl ?_ | refine OrdK.nil ?_ | refine Run.textA C_ok (aopC_sound C_ok) ?_ | refine And.intro rfl ?_ | refine And.intro (Nat.le_of_ble_eq_true rfl) ?_ | refine And.intro (Int.natCast_nonneg _) ?_ | refine fun (_ : Nat) => ?_ | refine Run.go rfl ?_ | refine Cont.go rfl ?_)
  refine fun r1 hr1 => ?_
  subst hr1
  repeat (first | refine OpsA.cons ?_ | refine OpsA.nil ?_ | refine OrdK.cons rfl ?_ | refine OrdK.nil ?_ | refine Run.textA C_ok (aopC_sound C_ok) ?_ | refine And.intro rfl ?_ | refine And.intro (Nat.le_of_ble_eq_true rfl) ?_ | refine And.intro (Int.natCast_nonneg _) ?_ | refine fun (_ : Nat) => ?_ | refine Run.go rfl ?_ | refine Cont.go rfl ?_)
  refine ⟨fun _ => ?_, fun h => absurd hb1 h⟩
  repeat (first | refine OpsA.cons ?_ | refine OpsA.nil ?_ | refine OrdK.cons rfl ?_ | refine OrdK.nil ?_ | refine Run.textA C_ok (aopC_sound C_ok) ?_ | refine And.intro rfl ?_ | refine And.intro (Nat.le_of_ble_eq_true rfl) ?_ | refine And.intro (Int.natCast_nonneg _) ?_ | refine fun (_ : Nat) => ?_ | refine Run.go rfl ?_ | refine Cont.go rfl ?_)
  refine fun r2 hr2 => ?_
  subst hr2
  repeat (first | refine OpsA.cons ?_ | refine OpsA.nil ?_ | refine OrdK.cons rfl ?_ | refine OrdK.nil ?_ | refine Run.textA C_ok (aopC_sound C_ok) ?_ | refine And.intro rfl ?_ | refine And.intro (Nat.le_of_ble_eq_true rfl) ?_ | refine And.intro (Int.natCast_nonneg _) ?_ | refine fun (_ : Nat) => ?_ | refine Run.go rfl ?_ | refine Cont.go rfl ?_)
  refine ⟨fun _ => ?_, fun h => absurd hb2 h⟩
  repeat (first | refine OpsA.cons ?_ | refine OpsA.nil ?_ | refine OrdK.cons rfl ?_ | refine OrdK.nil ?_ | refine Run.textA C_ok (aopC_sound C_ok) ?_ | refine And.intro rfl ?_ | refine And.intro (Nat.le_of_ble_eq_true rfl) ?_ | refine And.intro (Int.natCast_nonneg _) ?_ | refine fun (_ : Nat) => ?_ | refine Run.go rfl ?_ | refine Cont.go rfl ?_)
  refine ⟨fun h => ?_, fun h => ?_⟩
  · have h : o.f < 0 := h
    repeat (first | refine OpsA.cons ?_ | refine OpsA.nil ?_ | refine OrdK.cons rfl ?_ | refine OrdK.nil ?_ | refine Run.textA C_ok (aopC_sound C_ok) ?_ | refine And.intro rfl ?_ | refine And.intro (Nat.le_of_ble_eq_true rfl) ?_ | refine And.intro (Int.natCast_nonneg _) ?_ | refine fun (_ : Nat) => ?_ | refine Run.go rfl ?_ | refine Cont.go rfl ?_)
    exact ⟨_, [], FinOk.drop _ _, err 48 (by unfold makeF; rw [if_pos (.inl h)])⟩
  have hf0 : ¬ o.f < 0 := h
  repeat (first | refine OpsA.cons ?_ | refine OpsA.nil ?_ | refine OrdK.cons rfl ?_ | refine OrdK.nil ?_ | refine Run.textA C_ok (aopC_sound C_ok) ?_ | refine And.intro rfl ?_ | refine And.intro (Nat.le_of_ble_eq_true rfl) ?_ | refine And.intro (Int.natCast_nonneg _) ?_ | refine fun (_ : Nat) => ?_ | refine Run.go rfl ?_ | refine Cont.go rfl ?_)
  refine ⟨fun h => ?_, fun h => ?_⟩
  · have h : 3 < o.f := h
    repeat (first | refine OpsA.cons ?_ | refine OpsA.nil ?_ | refine OrdK.cons rfl ?_ | refine OrdK.nil ?_ | refine Run.textA C_ok (aopC_sound C_ok) ?_ | refine And.intro rfl ?_ | refine And.intro (Nat.le_of_ble_eq_true rfl) ?_ | refine And.intro (Int.natCast_nonneg _) ?_ | refine fun (_ : Nat) => ?_ | refine Run.go rfl ?_ | refine Cont.go rfl ?_)
    exact ⟨_, [], FinOk.drop _ _, err 48 (by unfold makeF; rw [if_pos (.inr h)])⟩
  have hf3 : ¬ 3 < o.f := h
  have hbrf : isBrf o.f = true := by rw [← flag1 hf0 hf3]; exact decide_eq_true hb1
  have hcnt : isCnt o.f = true := by rw [← flag2 hf0 hf3]; exact decide_eq_true hb2
  have f1 : ¬ (o.f < 0 ∨ 3 < o.f) := by rintro (h | h); exact hf0 h; exact hf3 h
  repeat (first | refine OpsA.cons ?_ | refine OpsA.nil ?_ | refine OrdK.cons rfl ?_ | refine OrdK.nil ?_ | refine Run.textA C_ok (aopC_sound C_ok) ?_ | refine And.intro rfl ?_ | refine And.intro (Nat.le_of_ble_eq_true rfl) ?_ | refine And.intro (Int.natCast_nonneg _) ?_ | refine fun (_ : Nat) => ?_ | refine Run.go rfl ?_ | refine Cont.go rfl ?_)
  refine ACallT.ok (ACall.ret (parent_spec o.p) ?_)
  repeat (first | refine OpsA.cons ?_ | refine OpsA.nil ?_ | refine OrdK.cons rfl ?_ | refine OrdK.nil ?_ | refine Run.textA C_ok (aopC_sound C_ok) ?_ | refine And.intro rfl ?_ | refine And.intro (Nat.le_of_ble_eq_true rfl) ?_ | refine And.intro (Int.natCast_nonneg _) ?_ | refine fun (_ : Nat) => ?_ | refine Run.go rfl ?_ | refine Cont.go rfl ?_)
  refine ⟨fun h => ?_, fun h => ?_⟩
  · have h : parentE o.p = 47 := h
    repeat (first | refine OpsA.cons ?_ | refine OpsA.nil ?_ | refine OrdK.cons rfl ?_ | refine OrdK.nil ?_ | refine Run.textA C_ok (aopC_sound C_ok) ?_ | refine And.intro rfl ?_ | refine And.intro (Nat.le_of_ble_eq_true rfl) ?_ | refine And.intro (Int.natCast_nonneg _) ?_ | refine fun (_ : Nat) => ?_ | refine Run.go rfl ?_ | refine Cont.go rfl ?_)
    exact ⟨_, [], FinOk.drop _ _, err 47 (by unfold makeF; rw [if_neg f1, if_pos h])⟩
  have hn47 : ¬ parentE o.p = 47 := h
  repeat (first | refine OpsA.cons ?_ | refine OpsA.nil ?_ | refine OrdK.cons rfl ?_ | refine OrdK.nil ?_ | refine Run.textA C_ok (aopC_sound C_ok) ?_ | refine And.intro rfl ?_ | refine And.intro (Nat.le_of_ble_eq_true rfl) ?_ | refine And.intro (Int.natCast_nonneg _) ?_ | refine fun (_ : Nat) => ?_ | refine Run.go rfl ?_ | refine Cont.go rfl ?_)
  refine ⟨fun h => ?_, fun h => ?_⟩
  rotate_left
  · have h : ¬ parentE o.p = 0 := h
    repeat (first | refine OpsA.cons ?_ | refine OpsA.nil ?_ | refine OrdK.cons rfl ?_ | refine OrdK.nil ?_ | refine Run.textA C_ok (aopC_sound C_ok) ?_ | refine And.intro rfl ?_ | refine And.intro (Nat.le_of_ble_eq_true rfl) ?_ | refine And.intro (Int.natCast_nonneg _) ?_ | refine fun (_ : Nat) => ?_ | refine Run.go rfl ?_ | refine Cont.go rfl ?_)
    refine ⟨fun _ => ?_, fun e => absurd h e⟩
    repeat (first | refine OpsA.cons ?_ | refine OpsA.nil ?_ | refine OrdK.cons rfl ?_ | refine OrdK.nil ?_ | refine Run.textA C_ok (aopC_sound C_ok) ?_ | refine And.intro rfl ?_ | refine And.intro (Nat.le_of_ble_eq_true rfl) ?_ | refine And.intro (Int.natCast_nonneg _) ?_ | refine fun (_ : Nat) => ?_ | refine Run.go rfl ?_ | refine Cont.go rfl ?_)
    exact ⟨_, [], FinOk.drop _ _, err 10 (by unfold makeF; rw [if_neg f1, if_neg hn47, if_pos (.inl h)])⟩
  have hp0 : parentE o.p = 0 := h
  obtain ⟨hpp, hps⟩ := parentE_zero hp0
  repeat (first | refine OpsA.cons ?_ | refine OpsA.nil ?_ | refine OrdK.cons rfl ?_ | refine OrdK.nil ?_ | refine Run.textA C_ok (aopC_sound C_ok) ?_ | refine And.intro rfl ?_ | refine And.intro (Nat.le_of_ble_eq_true rfl) ?_ | refine And.intro (Int.natCast_nonneg _) ?_ | refine fun (_ : Nat) => ?_ | refine Run.go rfl ?_ | refine Cont.go rfl ?_)
  refine ACallT.ok (ACall.ret (counted_spec o.p 0) ?_)
  repeat (first | refine OpsA.cons ?_ | refine OpsA.nil ?_ | refine OrdK.cons rfl ?_ | refine OrdK.nil ?_ | refine Run.textA C_ok (aopC_sound C_ok) ?_ | refine And.intro rfl ?_ | refine And.intro (Nat.le_of_ble_eq_true rfl) ?_ | refine And.intro (Int.natCast_nonneg _) ?_ | refine fun (_ : Nat) => ?_ | refine Run.go rfl ?_ | refine Cont.go rfl ?_)
  have hlc : countedE o.p 0 = if longB o.p then 10 else 0 := by
    unfold countedE
    rw [if_neg (by rw [hpp]; decide), if_neg fun e => hps ((names_iff hpp).1 e)]
    have e1 : ¬ ((0 : Int) < 0 ∨ (99999 : Int) < 0) := by omega
    rw [if_neg e1]
  refine ⟨fun h => ?_, fun h => ?_⟩
  · have h : countedE o.p 0 ≠ 0 := h
    have hl : longB o.p = true := by cases e : longB o.p; rw [hlc, e] at h; exact absurd rfl h; rfl
    repeat (first | refine OpsA.cons ?_ | refine OpsA.nil ?_ | refine OrdK.cons rfl ?_ | refine OrdK.nil ?_ | refine Run.textA C_ok (aopC_sound C_ok) ?_ | refine And.intro rfl ?_ | refine And.intro (Nat.le_of_ble_eq_true rfl) ?_ | refine And.intro (Int.natCast_nonneg _) ?_ | refine fun (_ : Nat) => ?_ | refine Run.go rfl ?_ | refine Cont.go rfl ?_)
    exact ⟨_, [], FinOk.drop _ _, err 10 (by unfold makeF; rw [if_neg f1, if_neg hn47, if_pos (.inr ⟨hcnt, hl⟩)])⟩
  have h : countedE o.p 0 = 0 := Classical.not_not.1 h
  have hlong : longB o.p = false := by cases e : longB o.p; rfl; rw [hlc, e] at h; cases h
  have f2 : ¬ (parentE o.p ≠ 0 ∨ (isCnt o.f = true ∧ longB o.p = true)) := by rintro (h | ⟨_, h⟩); exact h hp0; rw [hlong] at h; cases h
  repeat (first | refine OpsA.cons ?_ | refine OpsA.nil ?_ | refine OrdK.cons rfl ?_ | refine OrdK.nil ?_ | refine Run.textA C_ok (aopC_sound C_ok) ?_ | refine And.intro rfl ?_ | refine And.intro (Nat.le_of_ble_eq_true rfl) ?_ | refine And.intro (Int.natCast_nonneg _) ?_ | refine fun (_ : Nat) => ?_ | refine Run.go rfl ?_ | refine Cont.go rfl ?_)
  have hA : ∀ e, (if isBrf o.f = true ∧ s = 0 then .error 44 else if 64 < o.d.size then .error 45 else match findF l (parentB o.p) with
      | none => .error 40
      | some a =>
        if a.o ≠ 0 then .error 44
        else if isCnt o.f = true ∧ 99999 < a.k then .error 46
        else if (findF l (madeX s st a o).p).isSome then .error 41
        else if 64 ≤ l.length then .error 46
        else .ok (upd (ins (madeX s st a o) l) (madeA a o), told (madeX s st a o), [⟨1, (madeX s st a o).p, o.d, 0⟩]) : One) = e → makeF l s st o = e := fun e he => by
    unfold makeF; rw [if_neg f1, if_neg hn47, if_neg f2]; exact he
  cases hfa : findF l (parentB o.p) with
  | none =>
    rw [hfa] at hA
    refine ⟨1, es, cl, none, trivial, rfl, hT.miss (findF_none hfa), ?_⟩
    repeat (first | refine OpsA.cons ?_ | refine OpsA.nil ?_ | refine OrdK.cons rfl ?_ | refine OrdK.nil ?_ | refine Run.textA C_ok (aopC_sound C_ok) ?_ | refine And.intro rfl ?_ | refine And.intro (Nat.le_of_ble_eq_true rfl) ?_ | refine And.intro (Int.natCast_nonneg _) ?_ | refine fun (_ : Nat) => ?_ | refine Run.go rfl ?_ | refine Cont.go rfl ?_)
    refine ⟨fun h => ?_, fun h => ?_⟩
    · have h : s = 0 := h
      repeat (first | refine OpsA.cons ?_ | refine OpsA.nil ?_ | refine OrdK.cons rfl ?_ | refine OrdK.nil ?_ | refine Run.textA C_ok (aopC_sound C_ok) ?_ | refine And.intro rfl ?_ | refine And.intro (Nat.le_of_ble_eq_true rfl) ?_ | refine And.intro (Int.natCast_nonneg _) ?_ | refine fun (_ : Nat) => ?_ | refine Run.go rfl ?_ | refine Cont.go rfl ?_)
      exact ⟨_, [], FinOk.drop _ _, err 44 (hA _ (by rw [if_pos ⟨hbrf, h⟩]))⟩
    have hs0 : ¬ s = 0 := h
    have nb : ¬ (isBrf o.f = true ∧ s = 0) := fun h => hs0 h.2
    repeat (first | refine OpsA.cons ?_ | refine OpsA.nil ?_ | refine OrdK.cons rfl ?_ | refine OrdK.nil ?_ | refine Run.textA C_ok (aopC_sound C_ok) ?_ | refine And.intro rfl ?_ | refine And.intro (Nat.le_of_ble_eq_true rfl) ?_ | refine And.intro (Int.natCast_nonneg _) ?_ | refine fun (_ : Nat) => ?_ | refine Run.go rfl ?_ | refine Cont.go rfl ?_)
    refine ⟨fun h => ?_, fun h => ?_⟩
    · have h : (64 : Int) < (o.d.size : Int) := h
      repeat (first | refine OpsA.cons ?_ | refine OpsA.nil ?_ | refine OrdK.cons rfl ?_ | refine OrdK.nil ?_ | refine Run.textA C_ok (aopC_sound C_ok) ?_ | refine And.intro rfl ?_ | refine And.intro (Nat.le_of_ble_eq_true rfl) ?_ | refine And.intro (Int.natCast_nonneg _) ?_ | refine fun (_ : Nat) => ?_ | refine Run.go rfl ?_ | refine Cont.go rfl ?_)
      exact ⟨_, [], FinOk.drop _ _, err 45 (hA _ (by rw [if_neg nb, if_pos (by omega)]))⟩
    have hd : ¬ 64 < o.d.size := by have h : ¬ (64 : Int) < (o.d.size : Int) := h; omega
    repeat (first | refine OpsA.cons ?_ | refine OpsA.nil ?_ | refine OrdK.cons rfl ?_ | refine OrdK.nil ?_ | refine Run.textA C_ok (aopC_sound C_ok) ?_ | refine And.intro rfl ?_ | refine And.intro (Nat.le_of_ble_eq_true rfl) ?_ | refine And.intro (Int.natCast_nonneg _) ?_ | refine fun (_ : Nat) => ?_ | refine Run.go rfl ?_ | refine Cont.go rfl ?_)
    exact ⟨_, [], FinOk.drop _ _, err 40 (hA _ (by rw [if_neg nb, if_neg hd]))⟩
  | some a =>
    rw [hfa] at hA
    dsimp only at hA
    obtain ⟨ham, hap⟩ := findF_some hfa
    obtain ⟨ai, g1, g2, g3, g4⟩ := hT.hit2 hi.sorted ham
    rw [hap] at g1 g2 g3 g4
    have hoka := hi.ok a ham
    refine ⟨1, es, cl, some (ai, valX a), trivial, rfl, g1, encX a, rfl, ?_⟩
    repeat (first | refine OpsA.cons ?_ | refine OpsA.nil ?_ | refine OrdK.cons rfl ?_ | refine OrdK.nil ?_ | refine Run.textA C_ok (aopC_sound C_ok) ?_ | refine And.intro rfl ?_ | refine And.intro (Nat.le_of_ble_eq_true rfl) ?_ | refine And.intro (Int.natCast_nonneg _) ?_ | refine fun (_ : Nat) => ?_ | refine Run.go rfl ?_ | refine Cont.go rfl ?_)
    refine ⟨fun h => ?_, fun h => ?_⟩
    · have h : s = 0 := h
      repeat (first | refine OpsA.cons ?_ | refine OpsA.nil ?_ | refine OrdK.cons rfl ?_ | refine OrdK.nil ?_ | refine Run.textA C_ok (aopC_sound C_ok) ?_ | refine And.intro rfl ?_ | refine And.intro (Nat.le_of_ble_eq_true rfl) ?_ | refine And.intro (Int.natCast_nonneg _) ?_ | refine fun (_ : Nat) => ?_ | refine Run.go rfl ?_ | refine Cont.go rfl ?_)
      exact ⟨_, [], FinOk.drop _ _, err 44 (hA _ (by rw [if_pos ⟨hbrf, h⟩]))⟩
    have hs0 : ¬ s = 0 := h
    have nb : ¬ (isBrf o.f = true ∧ s = 0) := fun h => hs0 h.2
    repeat (first | refine OpsA.cons ?_ | refine OpsA.nil ?_ | refine OrdK.cons rfl ?_ | refine OrdK.nil ?_ | refine Run.textA C_ok (aopC_sound C_ok) ?_ | refine And.intro rfl ?_ | refine And.intro (Nat.le_of_ble_eq_true rfl) ?_ | refine And.intro (Int.natCast_nonneg _) ?_ | refine fun (_ : Nat) => ?_ | refine Run.go rfl ?_ | refine Cont.go rfl ?_)
    refine ⟨fun h => ?_, fun h => ?_⟩
    · have h : (64 : Int) < (o.d.size : Int) := h
      repeat (first | refine OpsA.cons ?_ | refine OpsA.nil ?_ | refine OrdK.cons rfl ?_ | refine OrdK.nil ?_ | refine Run.textA C_ok (aopC_sound C_ok) ?_ | refine And.intro rfl ?_ | refine And.intro (Nat.le_of_ble_eq_true rfl) ?_ | refine And.intro (Int.natCast_nonneg _) ?_ | refine fun (_ : Nat) => ?_ | refine Run.go rfl ?_ | refine Cont.go rfl ?_)
      exact ⟨_, [], FinOk.drop _ _, err 45 (hA _ (by rw [if_neg nb, if_pos (by omega)]))⟩
    have hd : ¬ 64 < o.d.size := by have h : ¬ (64 : Int) < (o.d.size : Int) := h; omega
    repeat (first | refine OpsA.cons ?_ | refine OpsA.nil ?_ | refine OrdK.cons rfl ?_ | refine OrdK.nil ?_ | refine Run.textA C_ok (aopC_sound C_ok) ?_ | refine And.intro rfl ?_ | refine And.intro (Nat.le_of_ble_eq_true rfl) ?_ | refine And.intro (Int.natCast_nonneg _) ?_ | refine fun (_ : Nat) => ?_ | refine Run.go rfl ?_ | refine Cont.go rfl ?_)
    refine ⟨fun h => ?_, fun h => ?_⟩
    · have h : a.o ≠ 0 := h
      repeat (first | refine OpsA.cons ?_ | refine OpsA.nil ?_ | refine OrdK.cons rfl ?_ | refine OrdK.nil ?_ | refine Run.textA C_ok (aopC_sound C_ok) ?_ | refine And.intro rfl ?_ | refine And.intro (Nat.le_of_ble_eq_true rfl) ?_ | refine And.intro (Int.natCast_nonneg _) ?_ | refine fun (_ : Nat) => ?_ | refine Run.go rfl ?_ | refine Cont.go rfl ?_)
      exact ⟨_, [], FinOk.drop _ _, err 44 (hA _ (by rw [if_neg nb, if_neg hd, if_pos h]))⟩
    have hao : a.o = 0 := Classical.not_not.1 h
    have nao : ¬ a.o ≠ 0 := fun h => h hao
    obtain ⟨X, hX⟩ : ∃ X : Fu, X = ⟨countedB o.p a.k, o.d, 0, st, st, s, 0⟩ := ⟨_, rfl⟩
    obtain ⟨B, hB⟩ : ∃ B : Fu, B = ⟨a.p, a.d, a.v, a.m, a.c, a.o, a.k + 1⟩ := ⟨_, rfl⟩
    have hX' : madeX s st a o = X := by rw [hX]; unfold madeX; rw [hbrf, hcnt]; rfl
    have hB' : madeA a o = B := by rw [hB]; unfold madeA; rw [hcnt]; rfl
    rw [hX', hB'] at hA
    have hBp : B.p = parentB o.p := by rw [hB]; exact hap
    repeat (first | refine OpsA.cons ?_ | refine OpsA.nil ?_ | refine OrdK.cons rfl ?_ | refine OrdK.nil ?_ | refine Run.textA C_ok (aopC_sound C_ok) ?_ | refine And.intro rfl ?_ | refine And.intro (Nat.le_of_ble_eq_true rfl) ?_ | refine And.intro (Int.natCast_nonneg _) ?_ | refine fun (_ : Nat) => ?_ | refine Run.go rfl ?_ | refine Cont.go rfl ?_)
    refine Run.drawnK C_ok (aopC_sound C_ok) [0, 3] [0, 1, 2, 3, 4, 5, 6, 7, 8, 9, 10, 11, 12, 13, 14] (by kernel_rfl) ?_
    repeat (first | refine OpsA.cons ?_ | refine OpsA.nil ?_ | refine OrdK.cons rfl ?_ | refine OrdK.nil ?_ | refine Run.textA C_ok (aopC_sound C_ok) ?_ | refine And.intro rfl ?_ | refine And.intro (Nat.le_of_ble_eq_true rfl) ?_ | refine And.intro (Int.natCast_nonneg _) ?_ | refine fun (_ : Nat) => ?_ | refine Run.go rfl ?_ | refine Cont.go rfl ?_)
    refine ⟨fun h => ?_, fun h => ?_⟩
    · have h : 99999 < a.k := h
      repeat (first | refine OpsA.cons ?_ | refine OpsA.nil ?_ | refine OrdK.cons rfl ?_ | refine OrdK.nil ?_ | refine Run.textA C_ok (aopC_sound C_ok) ?_ | refine And.intro rfl ?_ | refine And.intro (Nat.le_of_ble_eq_true rfl) ?_ | refine And.intro (Int.natCast_nonneg _) ?_ | refine fun (_ : Nat) => ?_ | refine Run.go rfl ?_ | refine Cont.go rfl ?_)
      exact ⟨_, [], FinOk.drop _ _, err 46 (hA _ (by rw [if_neg nb, if_neg hd, if_neg nao, if_pos ⟨hcnt, h⟩]))⟩
    have hk9 : ¬ 99999 < a.k := h
    have hk0 := hoka.2.2.2.2.2.2.1
    have n46 : ¬ (isCnt o.f = true ∧ 99999 < a.k) := fun h => hk9 h.2
    have hce : countedE o.p a.k = 0 := by
      unfold countedE
      rw [if_neg (by rw [hpp]; decide), if_neg fun e => hps ((names_iff hpp).1 e), hlong]
      rw [if_neg (by decide), if_neg (by omega)]
    have hcsp := counted_spec o.p a.k
    rw [hce, if_pos rfl] at hcsp
    repeat (first | refine OpsA.cons ?_ | refine OpsA.nil ?_ | refine OrdK.cons rfl ?_ | refine OrdK.nil ?_ | refine Run.textA C_ok (aopC_sound C_ok) ?_ | refine And.intro rfl ?_ | refine And.intro (Nat.le_of_ble_eq_true rfl) ?_ | refine And.intro (Int.natCast_nonneg _) ?_ | refine fun (_ : Nat) => ?_ | refine Run.go rfl ?_ | refine Cont.go rfl ?_)
    refine ACallT.ok (ACall.ret hcsp ?_)
    repeat (first | refine OpsA.cons ?_ | refine OpsA.nil ?_ | refine OrdK.cons rfl ?_ | refine OrdK.nil ?_ | refine Run.textA C_ok (aopC_sound C_ok) ?_ | refine And.intro rfl ?_ | refine And.intro (Nat.le_of_ble_eq_true rfl) ?_ | refine And.intro (Int.natCast_nonneg _) ?_ | refine fun (_ : Nat) => ?_ | refine Run.go rfl ?_ | refine Cont.go rfl ?_)
    refine fun r hr => ?_
    obtain rfl : r = a.k + 1 := by rw [hr, IntKind.wrap_i64]; omega
    repeat (first | refine OpsA.cons ?_ | refine OpsA.nil ?_ | refine OrdK.cons rfl ?_ | refine OrdK.nil ?_ | refine Run.textA C_ok (aopC_sound C_ok) ?_ | refine And.intro rfl ?_ | refine And.intro (Nat.le_of_ble_eq_true rfl) ?_ | refine And.intro (Int.natCast_nonneg _) ?_ | refine fun (_ : Nat) => ?_ | refine Run.go rfl ?_ | refine Cont.go rfl ?_)
    refine Run.drawnK C_ok (aopC_sound C_ok) [0, 1, 6] [0, 1, 2, 3, 4, 5, 6, 7, 8, 9, 10, 11, 12] (by kernel_rfl) ?_
    repeat (first | refine OpsA.cons ?_ | refine OpsA.nil ?_ | refine OrdK.cons rfl ?_ | refine OrdK.nil ?_ | refine Run.textA C_ok (aopC_sound C_ok) ?_ | refine And.intro rfl ?_ | refine And.intro (Nat.le_of_ble_eq_true rfl) ?_ | refine And.intro (Int.natCast_nonneg _) ?_ | refine fun (_ : Nat) => ?_ | refine Run.go rfl ?_ | refine Cont.go rfl ?_)
    cases hfx : findF l X.p with
    | some y =>
      rw [hfx] at hA
      obtain ⟨hym, hyp⟩ := findF_some hfx
      obtain ⟨yi, y1, _⟩ := hT.hit2 hi.sorted hym
      rw [hyp, hX] at y1
      refine ⟨1, es, cl, some (yi, valX y), by decide, rfl, y1, encX y, rfl, ?_⟩
      repeat (first | refine OpsA.cons ?_ | refine OpsA.nil ?_ | refine OrdK.cons rfl ?_ | refine OrdK.nil ?_ | refine Run.textA C_ok (aopC_sound C_ok) ?_ | refine And.intro rfl ?_ | refine And.intro (Nat.le_of_ble_eq_true rfl) ?_ | refine And.intro (Int.natCast_nonneg _) ?_ | refine fun (_ : Nat) => ?_ | refine Run.go rfl ?_ | refine Cont.go rfl ?_)
      exact ⟨_, [], FinOk.drop _ _, err 41 (hA _ (by rw [if_neg nb, if_neg hd, if_neg nao, if_neg n46, if_pos (show (some y).isSome = true from rfl)]))⟩
    | none =>
      rw [hfx] at hA
      have hfar := findF_none hfx
      have hXB : X.p ≠ B.p := fun e => hfar a ham (by rw [e, hB])
      refine ⟨1, es, cl, none, by decide, rfl, hT.miss (by rw [hX] at hfar; exact hfar), ?_⟩
      repeat (first | refine OpsA.cons ?_ | refine OpsA.nil ?_ | refine OrdK.cons rfl ?_ | refine OrdK.nil ?_ | refine Run.textA C_ok (aopC_sound C_ok) ?_ | refine And.intro rfl ?_ | refine And.intro (Nat.le_of_ble_eq_true rfl) ?_ | refine And.intro (Int.natCast_nonneg _) ?_ | refine fun (_ : Nat) => ?_ | refine Run.go rfl ?_ | refine Cont.go rfl ?_)
      refine ⟨1, es, cl, rfl, ?_⟩
      rw [hT.len]
      repeat (first | refine OpsA.cons ?_ | refine OpsA.nil ?_ | refine OrdK.cons rfl ?_ | refine OrdK.nil ?_ | refine Run.textA C_ok (aopC_sound C_ok) ?_ | refine And.intro rfl ?_ | refine And.intro (Nat.le_of_ble_eq_true rfl) ?_ | refine And.intro (Int.natCast_nonneg _) ?_ | refine fun (_ : Nat) => ?_ | refine Run.go rfl ?_ | refine Cont.go rfl ?_)
      refine ⟨fun h => ?_, fun h => ?_⟩
      · have h : (64 : Int) ≤ (l.length : Int) := h
        repeat (first | refine OpsA.cons ?_ | refine OpsA.nil ?_ | refine OrdK.cons rfl ?_ | refine OrdK.nil ?_ | refine Run.textA C_ok (aopC_sound C_ok) ?_ | refine And.intro rfl ?_ | refine And.intro (Nat.le_of_ble_eq_true rfl) ?_ | refine And.intro (Int.natCast_nonneg _) ?_ | refine fun (_ : Nat) => ?_ | refine Run.go rfl ?_ | refine Cont.go rfl ?_)
        exact ⟨_, [], FinOk.drop _ _, err 46 (hA _ (by rw [if_neg nb, if_neg hd, if_neg nao, if_neg n46, if_neg (show ¬ (none : Option Fu).isSome = true by decide), if_pos (by omega)]))⟩
      have h64 : ¬ 64 ≤ l.length := by have h : ¬ (64 : Int) ≤ (l.length : Int) := h; omega
      have hok : makeF l s st o = .ok (upd (ins X l) B, told X, [⟨1, X.p, o.d, 0⟩]) := hA _ (by rw [if_neg nb, if_neg hd, if_neg nao, if_neg n46, if_neg (show ¬ (none : Option Fu).isSome = true by decide), if_neg h64])
      have hT1 := g4 B hBp
      have hT2 := fun u => hT1.push2 (upd_far hfar) (upd_ins_perm l hXB) u
      have hm1 := hT1.miss (upd_far hfar)
      repeat (first | refine OpsA.cons ?_ | refine OpsA.nil ?_ | refine OrdK.cons rfl ?_ | refine OrdK.nil ?_ | refine Run.textA C_ok (aopC_sound C_ok) ?_ | refine And.intro rfl ?_ | refine And.intro (Nat.le_of_ble_eq_true rfl) ?_ | refine And.intro (Int.natCast_nonneg _) ?_ | refine fun (_ : Nat) => ?_ | refine Run.go rfl ?_ | refine Cont.go rfl ?_)
      refine Run.drawnK C_ok (aopC_sound C_ok) [0, 5, 6] [0, 1, 2, 3, 4, 5, 6, 7, 8, 9, 10, 11, 12, 13, 14, 15, 16, 17, 18] (by kernel_rfl) ?_
      repeat (first | refine OpsA.cons ?_ | refine OpsA.nil ?_ | refine OrdK.cons rfl ?_ | refine OrdK.nil ?_ | refine Run.textA C_ok (aopC_sound C_ok) ?_ | refine And.intro rfl ?_ | refine And.intro (Nat.le_of_ble_eq_true rfl) ?_ | refine And.intro (Int.natCast_nonneg _) ?_ | refine fun (_ : Nat) => ?_ | refine Run.go rfl ?_ | refine Cont.go rfl ?_)
      refine ⟨1, es, cl, some (ai, valX a), rfl, g1, g2, encX a, rfl, ?_⟩
      repeat (first | refine OpsA.cons ?_ | refine OpsA.nil ?_ | refine OrdK.cons rfl ?_ | refine OrdK.nil ?_ | refine Run.textA C_ok (aopC_sound C_ok) ?_ | refine And.intro rfl ?_ | refine And.intro (Nat.le_of_ble_eq_true rfl) ?_ | refine And.intro (Int.natCast_nonneg _) ?_ | refine fun (_ : Nat) => ?_ | refine Run.go rfl ?_ | refine Cont.go rfl ?_)
      refine ⟨1, _, cl, ai, rfl, g3, ?_⟩
      repeat (first | refine OpsA.cons ?_ | refine OpsA.nil ?_ | refine OrdK.cons rfl ?_ | refine OrdK.nil ?_ | refine Run.textA C_ok (aopC_sound C_ok) ?_ | refine And.intro rfl ?_ | refine And.intro (Nat.le_of_ble_eq_true rfl) ?_ | refine And.intro (Int.natCast_nonneg _) ?_ | refine fun (_ : Nat) => ?_ | refine Run.go rfl ?_ | refine Cont.go rfl ?_)
      refine ⟨1, _, cl, none, rfl, by have := hm1; rw [hX, hB] at this; exact this, ?_⟩
      repeat (first | refine OpsA.cons ?_ | refine OpsA.nil ?_ | refine OrdK.cons rfl ?_ | refine OrdK.nil ?_ | refine Run.textA C_ok (aopC_sound C_ok) ?_ | refine And.intro rfl ?_ | refine And.intro (Nat.le_of_ble_eq_true rfl) ?_ | refine And.intro (Int.natCast_nonneg _) ?_ | refine fun (_ : Nat) => ?_ | refine Run.go rfl ?_ | refine Cont.go rfl ?_)
      refine ⟨_, rfl, ?_⟩
      repeat (first | refine OpsA.cons ?_ | refine OpsA.nil ?_ | refine OrdK.cons rfl ?_ | refine OrdK.nil ?_ | refine Run.textA C_ok (aopC_sound C_ok) ?_ | refine And.intro rfl ?_ | refine And.intro (Nat.le_of_ble_eq_true rfl) ?_ | refine And.intro (Int.natCast_nonneg _) ?_ | refine fun (_ : Nat) => ?_ | refine Run.go rfl ?_ | refine Cont.go rfl ?_)
      refine ⟨1, _, cl + 1, _, rfl, by have := (hT2 (valX ⟨eS, eS, 0, 0, 0, 0, 0⟩)).1; rw [hX, hB] at this; exact this, ?_⟩
      repeat (first | refine OpsA.cons ?_ | refine OpsA.nil ?_ | refine OrdK.cons rfl ?_ | refine OrdK.nil ?_ | refine Run.textA C_ok (aopC_sound C_ok) ?_ | refine And.intro rfl ?_ | refine And.intro (Nat.le_of_ble_eq_true rfl) ?_ | refine And.intro (Int.natCast_nonneg _) ?_ | refine fun (_ : Nat) => ?_ | refine Run.go rfl ?_ | refine Cont.go rfl ?_)
      refine Run.drawnA C_ok (aopC_sound C_ok) [0, 6] [11, 12, 13, 14] [0, 1, 2, 3, 5, 7, 4, 6, 8, 9, 10] (by kernel_rfl) (by kernel_rfl) ?_
      repeat (first | refine OpsA.cons ?_ | refine OpsA.nil ?_ | refine OrdK.cons rfl ?_ | refine OrdK.nil ?_ | refine OrdA.cons rfl ?_ | refine OrdA.nil ?_ | refine OrdW.cons rfl ?_ | refine OrdW.nil ?_ | refine Run.textA C_ok (aopC_sound C_ok) ?_ | refine And.intro rfl ?_ | refine And.intro (Nat.le_of_ble_eq_true rfl) ?_ | refine And.intro (Int.natCast_nonneg _) ?_ | refine fun (_ : Nat) => ?_ | refine Run.go rfl ?_ | refine Cont.go rfl ?_)
      rcases hc with ⟨rfl, rfl, rfl⟩ | ⟨Cp, rfl, rfl⟩
      · repeat (first | refine OpsA.cons ?_ | refine OpsA.nil ?_ | refine OrdK.cons rfl ?_ | refine OrdK.nil ?_ | refine OrdA.cons rfl ?_ | refine OrdA.nil ?_ | refine OrdW.cons rfl ?_ | refine OrdW.nil ?_ | refine Run.textA C_ok (aopC_sound C_ok) ?_ | refine And.intro rfl ?_ | refine And.intro (Nat.le_of_ble_eq_true rfl) ?_ | refine And.intro (Int.natCast_nonneg _) ?_ | refine fun (_ : Nat) => ?_ | refine Run.go rfl ?_ | refine Cont.go rfl ?_)
        refine ⟨fun h => absurd h (List.cons_ne_nil _ _), fun _ => ?_⟩
        repeat (first | refine OpsA.cons ?_ | refine OpsA.nil ?_ | refine OrdK.cons rfl ?_ | refine OrdK.nil ?_ | refine OrdA.cons rfl ?_ | refine OrdA.nil ?_ | refine OrdW.cons rfl ?_ | refine OrdW.nil ?_ | refine Run.textA C_ok (aopC_sound C_ok) ?_ | refine And.intro rfl ?_ | refine And.intro (Nat.le_of_ble_eq_true rfl) ?_ | refine And.intro (Int.natCast_nonneg _) ?_ | refine fun (_ : Nat) => ?_ | refine Run.go rfl ?_ | refine Cont.go rfl ?_)
        refine ACallT.ok (ACall.ret (told_spec ⟨countedB o.p a.k, o.d, 0, st, st, s, 0⟩) ?_)
        repeat (first | refine OpsA.cons ?_ | refine OpsA.nil ?_ | refine OrdK.cons rfl ?_ | refine OrdK.nil ?_ | refine OrdA.cons rfl ?_ | refine OrdA.nil ?_ | refine OrdW.cons rfl ?_ | refine OrdW.nil ?_ | refine Run.textA C_ok (aopC_sound C_ok) ?_ | refine And.intro rfl ?_ | refine And.intro (Nat.le_of_ble_eq_true rfl) ?_ | refine And.intro (Int.natCast_nonneg _) ?_ | refine fun (_ : Nat) => ?_ | refine Run.go rfl ?_ | refine Cont.go rfl ?_)
        rename_i g' Cp'
        have hfin := (hT2 (valX ⟨eS, eS, 0, 0, 0, 0, 0⟩)).2
        subst hX; subst hB
        refine ⟨.tuple [encR (told ⟨countedB o.p a.k, o.d, 0, st, st, s, 0⟩), .int .i64 0], WorkL gw gm s st (.sl 2 g' Cp' 1) _ (cl + 1) g' (.row tC 4 Cp' [encC ⟨1, countedB o.p a.k, o.d, 0⟩]), FinOk.keepS _ [0, 1, 9] (subR0 (r := told ⟨countedB o.p a.k, o.d, 0, st, st, s, 0⟩) rfl) (by decide) rfl ⟨rfl, SubO.cells ⟨Sub.refl _, Sub.refl _, Sub.refl _, Sub.sl _ _ _ _ _, trivial⟩, rfl, SubO.refl _, rfl, SubO.refl _, trivial⟩, ?_⟩
        rw [hok]
        exact ⟨_, cl + 1, _, g', _, hfin, LN.one rfl, rfl, rfl⟩
      · repeat (first | refine OpsA.cons ?_ | refine OpsA.nil ?_ | refine OrdK.cons rfl ?_ | refine OrdK.nil ?_ | refine OrdA.cons rfl ?_ | refine OrdA.nil ?_ | refine OrdW.cons rfl ?_ | refine OrdW.nil ?_ | refine Run.textA C_ok (aopC_sound C_ok) ?_ | refine And.intro rfl ?_ | refine And.intro (Nat.le_of_ble_eq_true rfl) ?_ | refine And.intro (Int.natCast_nonneg _) ?_ | refine fun (_ : Nat) => ?_ | refine Run.go rfl ?_ | refine Cont.go rfl ?_)
        refine ⟨by simp, ?_⟩
        repeat (first | refine OpsA.cons ?_ | refine OpsA.nil ?_ | refine OrdK.cons rfl ?_ | refine OrdK.nil ?_ | refine OrdA.cons rfl ?_ | refine OrdA.nil ?_ | refine OrdW.cons rfl ?_ | refine OrdW.nil ?_ | refine Run.textA C_ok (aopC_sound C_ok) ?_ | refine And.intro rfl ?_ | refine And.intro (Nat.le_of_ble_eq_true rfl) ?_ | refine And.intro (Int.natCast_nonneg _) ?_ | refine fun (_ : Nat) => ?_ | refine Run.go rfl ?_ | refine Cont.go rfl ?_)
        refine ⟨by simp; omega, ?_⟩
        repeat (first | refine OpsA.cons ?_ | refine OpsA.nil ?_ | refine OrdK.cons rfl ?_ | refine OrdK.nil ?_ | refine OrdA.cons rfl ?_ | refine OrdA.nil ?_ | refine OrdW.cons rfl ?_ | refine OrdW.nil ?_ | refine Run.textA C_ok (aopC_sound C_ok) ?_ | refine And.intro rfl ?_ | refine And.intro (Nat.le_of_ble_eq_true rfl) ?_ | refine And.intro (Int.natCast_nonneg _) ?_ | refine fun (_ : Nat) => ?_ | refine Run.go rfl ?_ | refine Cont.go rfl ?_)
        refine ACallT.ok (ACall.ret (told_spec ⟨countedB o.p a.k, o.d, 0, st, st, s, 0⟩) ?_)
        repeat (first | refine OpsA.cons ?_ | refine OpsA.nil ?_ | refine OrdK.cons rfl ?_ | refine OrdK.nil ?_ | refine OrdA.cons rfl ?_ | refine OrdA.nil ?_ | refine OrdW.cons rfl ?_ | refine OrdW.nil ?_ | refine Run.textA C_ok (aopC_sound C_ok) ?_ | refine And.intro rfl ?_ | refine And.intro (Nat.le_of_ble_eq_true rfl) ?_ | refine And.intro (Int.natCast_nonneg _) ?_ | refine fun (_ : Nat) => ?_ | refine Run.go rfl ?_ | refine Cont.go rfl ?_)
        rename_i g' Cp'
        have hfin := (hT2 (valX ⟨eS, eS, 0, 0, 0, 0, 0⟩)).2
        subst hX; subst hB
        refine ⟨.tuple [encR (told ⟨countedB o.p a.k, o.d, 0, st, st, s, 0⟩), .int .i64 0], WorkL gw gm s st (.sl 2 g' Cp' ((cs.map encC).length + 1)) _ (cl + 1) g' (.row tC 4 Cp' (cs.map encC ++ [encC ⟨1, countedB o.p a.k, o.d, 0⟩])), FinOk.keepS _ [0, 1, 2] (subR0 (r := told ⟨countedB o.p a.k, o.d, 0, st, st, s, 0⟩) rfl) (by decide) rfl ⟨rfl, SubO.cells ⟨Sub.refl _, Sub.refl _, Sub.refl _, Sub.refl _, trivial⟩, rfl, SubO.refl _, rfl, SubO.refl _, trivial⟩, ?_⟩
        rw [hok]
        exact ⟨_, cl + 1, _, g', _, hfin, LN.snoc, rfl, rfl⟩
end Go.Proofs.YtiikjcdjgmlcgaaGreatDoor.HBT
