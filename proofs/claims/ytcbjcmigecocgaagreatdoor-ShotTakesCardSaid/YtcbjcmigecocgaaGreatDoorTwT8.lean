/- One op of a request. -/
import Derived.Test.YtcbjcmigecocgaaGreatDoorTwT82
import Derived.Test.YtcbjcmigecocgaaGreatDoorTwT83
import Derived.Test.YtcbjcmigecocgaaGreatDoorTwT84
import Derived.Test.YtcbjcmigecocgaaGreatDoorTwT85
import Derived.Test.YtcbjcmigecocgaaGreatDoorTwT86
import Derived.Test.YtcbjcmigecocgaaGreatDoorTwT87
import Derived.Test.YtcbjcmigecocgaaGreatDoorTwT7d
set_option linter.unusedVariables false
set_option linter.unusedSimpArgs false
namespace Go.Proofs.YtcbjcmigecocgaaGreatDoor.HBT
open Go Go.Proofs.YtcbjcmigecocgaaGreatDoor.HB Go.RowKit
set_option maxRecDepth 8000

set_option maxHeartbeats 8000000 in
theorem op_make (gw gm gc : Nat) (s st : Int) (cs : List Chg) (cv : AV) (co : AObj) (hc : LC 2 cs cv gc co) (hcs : cs.length ≤ 100) {l : List Fu} {es : Array MapEntry} {cl : Nat} (hT : TM l es cl) (hi : TInv l) (o : Opp) (h1 : o.k = 1) :
    FnSpec C 26 [.ptr 0 gw 0, encO o] (WorkL gw gm s st cv es cl gc co) (OneQ gw gm s st cs (playF l s st o)) := by
  have e : playF l s st o = makeF l s st o := by
    unfold playF
    rw [if_neg (by omega), if_pos h1]
  rw [e]
  refine FnSpec.start C_ok Tryz.func26 rfl rfl Tryz.ntmps26 ?_
  repeat(first|refine Sc ?_|refine fun(_:Nat)=>?_)
  refine ⟨fun h => absurd h (show ¬ o.k < 1 by omega), fun _ => ?_⟩
  repeat(first|refine Sc ?_|refine fun(_:Nat)=>?_)
  refine ⟨fun h => absurd h (show ¬ 7 < o.k by omega), fun _ => ?_⟩
  repeat(first|refine Sc ?_|refine fun(_:Nat)=>?_)
  refine ⟨fun _ => ?_, fun h => absurd h1 h⟩
  repeat(first|refine Sc ?_|refine fun(_:Nat)=>?_)
  refine ACallT.ok (ACall.sel [0, 1, 2] (by decide) [.ptr 0 gw 0, encO o] _ (.two (Sub.refl _) (Sub.refl _)) (make_spec gw gm gc s st cs cv co hc hcs hT hi o) ?_)
  intro r L' hq
  cases hm : makeF l s st o with
  | error e =>
    rw [hm] at hq
    obtain ⟨rfl, rfl⟩ := hq
    refine ⟨_, Sub.refl _, ?_⟩
    repeat(first|refine Sc ?_|refine fun(_:Nat)=>?_)
    exact ⟨_, [], FinOk.drop _ _, rfl, rfl⟩
  | ok y =>
    obtain ⟨l', x, c⟩ := y
    rw [hm] at hq
    obtain ⟨es', cl', cv', gc', co', q1, q2, rfl, rfl⟩ := hq
    refine ⟨_, Sub.refl _, ?_⟩
    repeat(first|refine Sc ?_|refine fun(_:Nat)=>?_)
    exact ⟨_, _, FinOk.keep _ [0, 1, 2] (Sub.refl _) (by decide) rfl, es', cl', cv', gc', co', q1, q2, rfl, rfl⟩
set_option maxHeartbeats 8000000 in
theorem op_bad (gw gm gc : Nat) (s st : Int) (cs : List Chg) (cv : AV) (co : AObj) {l : List Fu} {es : Array MapEntry} {cl : Nat} (o : Opp) (h1 : o.k < 1 ∨ 7 < o.k) :
    FnSpec C 26 [.ptr 0 gw 0, encO o] (WorkL gw gm s st cv es cl gc co) (OneQ gw gm s st cs (playF l s st o)) := by
  have e : playF l s st o = .error 48 := by
    unfold playF
    rw [if_pos h1]
  rw [e]
  refine FnSpec.start C_ok Tryz.func26 rfl rfl Tryz.ntmps26 ?_
  repeat(first|refine Sc ?_|refine fun(_:Nat)=>?_)
  refine ⟨fun h => ?_, fun h => ?_⟩
  · repeat(first|refine Sc ?_|refine fun(_:Nat)=>?_)
    exact ⟨_, [], FinOk.drop _ _, rfl, rfl⟩
  have h : ¬ o.k < 1 := h
  repeat(first|refine Sc ?_|refine fun(_:Nat)=>?_)
  refine ⟨fun _ => ?_, fun h' => absurd (show (7 : Int) < o.k by omega) h'⟩
  repeat(first|refine Sc ?_|refine fun(_:Nat)=>?_)
  exact ⟨_, [], FinOk.drop _ _, rfl, rfl⟩
theorem op_spec (gw gm gc : Nat) (s st : Int) (cs : List Chg) (cv : AV) (co : AObj) (hc : LC 2 cs cv gc co) (hcs : cs.length ≤ 100) {l : List Fu} {es : Array MapEntry} {cl : Nat} (hT : TM l es cl) (hi : TInv l) (o : Opp) :
    FnSpec C 26 [.ptr 0 gw 0, encO o] (WorkL gw gm s st cv es cl gc co) (OneQ gw gm s st cs (playF l s st o)) := by
  by_cases h1 : o.k < 1 ∨ 7 < o.k
  · exact op_bad gw gm gc s st cs cv co o h1
  obtain ⟨k, p, d, v, f⟩ := o
  have h1 : ¬ (k < 1 ∨ 7 < k) := h1
  have hk : k = 1 ∨ k = 2 ∨ k = 3 ∨ k = 4 ∨ k = 5 ∨ k = 6 ∨ k = 7 := by omega
  rcases hk with rfl | rfl | rfl | rfl | rfl | rfl | rfl
  · exact op_make gw gm gc s st cs cv co hc hcs hT hi _ rfl
  · exact op_2 gw gm gc s st cs cv co hc hcs hT hi p d v f
  · exact op_3 gw gm gc s st cs cv co hc hcs hT hi p d v f
  · exact op_4 gw gm gc s st cs cv co hc hcs hT hi p d v f
  · exact op_5 gw gm gc s st cs cv co hc hcs hT hi p d v f
  · exact op_6 gw gm gc s st cs cv co hc hcs hT hi p d v f
  · exact op_7 gw gm gc s st cs cv co hc hcs hT hi p d v f
end Go.Proofs.YtcbjcmigecocgaaGreatDoor.HBT
