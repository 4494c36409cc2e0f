/- One op of a request, of kind 4. -/
import Derived.Test.YtcbjcmigecocgaaGreatDoorTwT6
set_option linter.unusedVariables false
set_option linter.unusedSimpArgs false
namespace Go.Proofs.YtcbjcmigecocgaaGreatDoor.HBT
open Go Go.Proofs.YtcbjcmigecocgaaGreatDoor.HB Go.RowKit
set_option maxRecDepth 8000

set_option maxHeartbeats 8000000 in
theorem op_4 (gw gm gc : Nat) (s st : Int) (cs : List Chg) (cv : AV) (co : AObj) (hc : LC 2 cs cv gc co) (_hcs : cs.length ≤ 100) {l : List Fu} {es : Array MapEntry} {cl : Nat} (hT : TM l es cl) (hi : TInv l) (p d : ByteArray) (v f : Int) :
    FnSpec C 26 [.ptr 0 gw 0, .agg [.int .i64 4, .str p, .str d, .int .i64 v, .int .i64 f]] (WorkL gw gm s st cv es cl gc co) (OneQ gw gm s st cs (playF l s st ⟨4, p, d, v, f⟩)) := by
  have err : ∀ e, playF l s st ⟨4, p, d, v, f⟩ = .error e → OneQ gw gm s st cs (playF l s st ⟨4, p, d, v, f⟩) (.tuple [zeroR, .int .i64 e]) [] := fun e he => by rw [he]; exact ⟨rfl, rfl⟩
  rw [play_4] at err ⊢
  refine FnSpec.start C_ok Tryz.func26 rfl rfl Tryz.ntmps26 ?_
  repeat(first|refine Sc ?_|refine fun(_:Nat)=>?_)
  rename_i go gr
  refine ⟨fun h => absurd h (by decide), fun _ => ?_⟩
  repeat(first|refine Sc ?_|refine fun(_:Nat)=>?_)
  refine ⟨fun h => absurd h (by decide), fun _ => ?_⟩
  repeat(first|refine Sc ?_|refine fun(_:Nat)=>?_)
  refine ⟨fun h => absurd h (by decide), fun _ => ?_⟩
  repeat(first|refine Sc ?_|refine fun(_:Nat)=>?_)
  refine ACallT.ok (ACall.ret (r0 := .agg [.bool false, .bool false, .bool true]) (needs_spec 4) ?_)
  repeat(first|refine Sc ?_|refine fun(_:Nat)=>?_)
  refine Run.drawnK C_ok (aopC_sound C_ok) [0, 1, 3] [0, 1, 2, 3, 4, 5, 6, 7, 8, 9, 10, 11, 12] (by kernel_rfl) ?_
  repeat(first|refine Sc ?_|refine fun(_:Nat)=>?_)
  cases hf : findF l p with
  | none =>
    rw [hf] at err
    refine ⟨1, es, cl, none, by decide, rfl, hT.miss (findF_none hf), ?_⟩
    repeat(first|refine Sc ?_|refine fun(_:Nat)=>?_)
    refine ACallT.ok (ACall.ret (parse_code p) ?_)
    repeat(first|refine Sc ?_|refine fun(_:Nat)=>?_)
    refine ⟨fun h => ?_, fun h => ?_⟩
    · have h : parseE p ≠ 0 := h
      repeat(first|refine Sc ?_|refine fun(_:Nat)=>?_)
      exact ⟨_, [], FinOk.drop _ _, err 10 (by rw [if_pos h])⟩
    have hpp : parseE p = 0 := Classical.not_not.1 h
    have nc : ¬ parseE p ≠ 0 := fun h => h hpp
    repeat(first|refine Sc ?_|refine fun(_:Nat)=>?_)
    exact ⟨_, [], FinOk.drop _ _, err 40 (by rw [if_neg nc])⟩
  | some x =>
    rw [hf] at err
    dsimp only at err ⊢
    obtain ⟨hxm, hxp⟩ := findF_some hf
    obtain ⟨i, g1, _⟩ := hT.hit hi.sorted hxm
    rw [hxp] at g1
    refine ⟨1, es, cl, some (i, valX x), by decide, rfl, g1, encX x, rfl, ?_⟩
    repeat(first|refine Sc ?_|refine fun(_:Nat)=>?_)
    refine ACallT.ok (ACall.ret (parse_code p) ?_)
    repeat(first|refine Sc ?_|refine fun(_:Nat)=>?_)
    refine ⟨fun h => ?_, fun h => ?_⟩
    · have h : parseE p ≠ 0 := h
      repeat(first|refine Sc ?_|refine fun(_:Nat)=>?_)
      exact ⟨_, [], FinOk.drop _ _, err 10 (by rw [if_pos h])⟩
    have hpp : parseE p = 0 := Classical.not_not.1 h
    have nc : ¬ parseE p ≠ 0 := fun h => h hpp
    repeat(first|refine Sc ?_|refine fun(_:Nat)=>?_)
    by_cases hv : v ≠ -1 ∧ v ≠ x.v
    · refine ⟨fun _ => ?_, fun h => absurd hv.1 h⟩
      repeat(first|refine Sc ?_|refine fun(_:Nat)=>?_)
      refine ⟨fun _ => ?_, fun h => absurd hv.2 h⟩
      repeat(first|refine Sc ?_|refine fun(_:Nat)=>?_)
      exact ⟨_, [], FinOk.drop _ _, err 42 (by rw [if_neg nc, if_pos hv])⟩
    refine ⟨fun h1 => ?_, fun h1 => ?_⟩
    · have h1 : v ≠ -1 := h1
      repeat(first|refine Sc ?_|refine fun(_:Nat)=>?_)
      refine ⟨fun h2 => absurd ⟨h1, h2⟩ hv, fun _ => ?_⟩
      repeat(first|refine Sc ?_|refine fun(_:Nat)=>?_)
      refine ⟨fun h => absurd h (by decide), fun _ => ?_⟩
      repeat(first|refine Sc ?_|refine fun(_:Nat)=>?_)
      refine ⟨fun h => absurd h (by decide), fun _ => ?_⟩
      repeat(first|refine Sc ?_|refine fun(_:Nat)=>?_)
      refine ACallT.ok (ACall.ret (told_spec x) ?_)
      repeat(first|refine Sc ?_|refine fun(_:Nat)=>?_)
      refine ⟨fun h => absurd h (by decide), fun _ => ?_⟩
      repeat(first|refine Sc ?_|refine fun(_:Nat)=>?_)
      refine ⟨fun h => absurd h (by decide), fun _ => ?_⟩
      repeat(first|refine Sc ?_|refine fun(_:Nat)=>?_)
      rw [if_neg nc, if_neg hv]
      exact ⟨.tuple [encR (told x), .int .i64 0], _, FinOk.keep _ [0, 1, 2] (subR0 (r := told x) rfl) (by decide) rfl, es, cl, cv, gc, co, hT, by rw [List.append_nil]; exact hc, rfl, rfl⟩
    · repeat(first|refine Sc ?_|refine fun(_:Nat)=>?_)
      refine ⟨fun h => absurd h (by decide), fun _ => ?_⟩
      repeat(first|refine Sc ?_|refine fun(_:Nat)=>?_)
      refine ⟨fun h => absurd h (by decide), fun _ => ?_⟩
      repeat(first|refine Sc ?_|refine fun(_:Nat)=>?_)
      refine ACallT.ok (ACall.ret (told_spec x) ?_)
      repeat(first|refine Sc ?_|refine fun(_:Nat)=>?_)
      refine ⟨fun h => absurd h (by decide), fun _ => ?_⟩
      repeat(first|refine Sc ?_|refine fun(_:Nat)=>?_)
      refine ⟨fun h => absurd h (by decide), fun _ => ?_⟩
      repeat(first|refine Sc ?_|refine fun(_:Nat)=>?_)
      rw [if_neg nc, if_neg hv]
      exact ⟨.tuple [encR (told x), .int .i64 0], _, FinOk.keep _ [0, 1, 2] (subR0 (r := told x) rfl) (by decide) rfl, es, cl, cv, gc, co, hT, by rw [List.append_nil]; exact hc, rfl, rfl⟩
end Go.Proofs.YtcbjcmigecocgaaGreatDoor.HBT
