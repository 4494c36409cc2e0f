/- Names and counted places, as the program makes them. -/
import Derived.Test.YtcbjcmigecocgaaGreatDoorTwT2
set_option linter.unusedVariables false
set_option linter.unusedSimpArgs false
namespace Go.Proofs.YtcbjcmigecocgaaGreatDoor.HBT
open Go Go.Proofs.YtcbjcmigecocgaaGreatDoor.HB Go.RowKit
set_option maxRecDepth 8000

theorem below_drewN (w : World) (k : Nat) (os : Array Obj) : Below w.heap.size w (Sort.grow (w.drewN k) os) :=
  ⟨rfl, rfl, rfl, by simp [Sort.grow, World.drewN], fun i hi => by simp only [Sort.grow, World.drewN]; rw [Array.getElem?_append_left hi]⟩
theorem pow_named : Tryz.prog.globalNamed "internal/strconv.uint64pow10" = some 4 := by kernel_rfl
theorem tab_of {imm : Nat → Prop} {w : World} (hG : G imm w) : Lib.TabIs Tryz.prog w "internal/strconv.uint64pow10" .u64 Lib.pow10Tab := by
  obtain ⟨_, _, _, _, _, t, fr, h⟩ := hG
  unfold Lib.TabIs World.var?
  rw [pow_named]
  simp [h]
theorem itoa_spec (n : Int) (h0 : -9223372036854775808 ≤ n) (h1 : n ≤ 9223372036854775807) : FnSpec C 72 [.int .i64 n] [] (fun r L' => r = .str ⟨(Lib.itoa n).toArray⟩ ∧ L' = []) :=
  FnSpec.of_below Tryz.func72 rfl rfl rfl fun imm w vs hG _ hl hv => by
    obtain ⟨v, rfl⟩ : ∃ v, vs = [v] := by
      match vs, hl with
      | [v], _ => exact ⟨v, rfl⟩
    rw [(hv 0 _ v rfl rfl).int_inv]
    refine ⟨_, .str _, (Tryz.strconv_Itoa n h0 h1 w (tab_of hG)).mono ?_⟩
    rintro e w' ⟨rfl, k, os, rfl⟩
    exact ⟨rfl, below_drewN w k os⟩
theorem repeat_spec (s : ByteArray) (c : Nat) (hc : c ≤ 1000) (hs : s.size ≤ 1000) : FnSpec C 73 [.str s, .int .i64 (c : Int)] [] (fun r L' => r = .str ⟨(Lib.repeatL s.data.toList c).toArray⟩ ∧ L' = []) :=
  FnSpec.of_below Tryz.func73 rfl rfl rfl fun imm w vs hG _ hl hv => by
    obtain ⟨u, v, rfl, hu, hv'⟩ := two_vals hl hv
    rw [hu.str_inv, hv'.int_inv]
    exact ⟨_, .str _, Tryz.strings_Repeat s c w (by omega) (Nat.le_trans (Nat.mul_le_mul hs hc) (by decide))⟩
theorem cloneS_spec (s : ByteArray) (hs : s.size ≤ 1000) : FnSpec C 74 [.str s] [] (fun r L' => r = .str s ∧ L' = []) :=
  FnSpec.of_below Tryz.func74 rfl rfl rfl fun imm w vs hG _ hl hv => by
    obtain ⟨v, rfl⟩ : ∃ v, vs = [v] := by
      match vs, hl with
      | [v], _ => exact ⟨v, rfl⟩
    rw [(hv 0 _ v rfl rfl).str_inv]
    exact ⟨_, .str _, Tryz.stringslite_Clone s w (by omega)⟩
theorem clone_str (s : ByteArray) (hs : s.size ≤ 1000) : FnSpec C 61 [.str s] [] (fun r L' => r = .str s ∧ L' = []) := by
  refine FnSpec.start C_ok Tryz.func61 rfl rfl Tryz.ntmps61 ?_
  repeat(first|refine Sc ?_|refine fun(_:Nat)=>?_)
  refine ACallT.ok (ACall.ret (cloneS_spec s hs) ?_)
  repeat(first|refine Sc ?_|refine fun(_:Nat)=>?_)
  exact ⟨_, [], FinOk.drop _ _, rfl, rfl⟩

theorem dec_digs (k : Nat) (h : k ≤ 99999) : Lib.repeatL [48] (5 - (Lib.decDigits k).length) ++ Lib.decDigits k = digs k ∧ (Lib.decDigits k).length ≤ 5 := by
  have d1 : ∀ u, u < 10 → Lib.decDigits u = [UInt8.ofNat (48 + u)] := fun u hu => by rw [Lib.decDigits, dif_pos hu]
  have d2 : ∀ u, 10 ≤ u → Lib.decDigits u = Lib.decDigits (u / 10) ++ [UInt8.ofNat (48 + u % 10)] := fun u hu => by
    conv => lhs; rw [Lib.decDigits, dif_neg (Nat.not_lt.2 hu)]
  have z : UInt8.ofNat (48 + 0) = (48 : UInt8) := rfl
  by_cases h1 : k < 10
  · have e1 : k / 10000 % 10 = 0 := by omega
    have e2 : k / 1000 % 10 = 0 := by omega
    have e3 : k / 100 % 10 = 0 := by omega
    have e4 : k / 10 % 10 = 0 := by omega
    have e5 : k % 10 = k := by omega
    rw [d1 k h1]; unfold digs; rw [e1, e2, e3, e4, e5]
    exact ⟨rfl, by simp⟩
  by_cases h2 : k < 100
  · have e1 : k / 10000 % 10 = 0 := by omega
    have e2 : k / 1000 % 10 = 0 := by omega
    have e3 : k / 100 % 10 = 0 := by omega
    have e4 : k / 10 % 10 = k / 10 := by omega
    rw [d2 k (by omega), d1 (k / 10) (by omega)]; unfold digs; rw [e1, e2, e3, e4]
    exact ⟨rfl, by simp⟩
  by_cases h3 : k < 1000
  · have e1 : k / 10000 % 10 = 0 := by omega
    have e2 : k / 1000 % 10 = 0 := by omega
    have e3 : k / 100 % 10 = k / 10 / 10 := by omega
    rw [d2 k (by omega), d2 (k / 10) (by omega), d1 (k / 10 / 10) (by omega)]; unfold digs; rw [e1, e2, e3]
    exact ⟨rfl, by simp⟩
  by_cases h4 : k < 10000
  · have e1 : k / 10000 % 10 = 0 := by omega
    have e2 : k / 1000 % 10 = k / 10 / 10 / 10 := by omega
    have e3 : k / 100 % 10 = k / 10 / 10 % 10 := by omega
    rw [d2 k (by omega), d2 (k / 10) (by omega), d2 (k / 10 / 10) (by omega), d1 (k / 10 / 10 / 10) (by omega)]; unfold digs; rw [e1, e2, e3]
    exact ⟨rfl, by simp⟩
  · have e1 : k / 10000 % 10 = k / 10 / 10 / 10 / 10 := by omega
    have e2 : k / 1000 % 10 = k / 10 / 10 / 10 % 10 := by omega
    have e3 : k / 100 % 10 = k / 10 / 10 % 10 := by omega
    rw [d2 k (by omega), d2 (k / 10) (by omega), d2 (k / 10 / 10) (by omega), d2 (k / 10 / 10 / 10) (by omega), d1 (k / 10 / 10 / 10 / 10) (by omega)]; unfold digs; rw [e1, e2, e3]
    exact ⟨rfl, by simp⟩

theorem last_at {l : List ByteArray} {n : ByteArray} (h : l.getLast? = some n) : (l.map AV.str)[l.length - 1]? = some (.str n) := by
  rw [List.getLast?_eq_getElem?] at h
  rw [List.getElem?_map, h]; rfl

theorem name_spec (s : ByteArray) : FnSpec C 42 [.str s] [] (fun r L' => r = .tuple [.str (nameB s), .int .i64 (parseE s)] ∧ L' = []) := by
  refine FnSpec.start C_ok Tryz.func42 rfl rfl Tryz.ntmps42 ?_
  repeat(first|refine Sc ?_|refine fun(_:Nat)=>?_)
  refine ACallT.ok (ACall.pure _ (parse_spec s) ?_)
  rintro r L' (⟨h, rfl, rfl⟩ | ⟨h, hn, rfl, rfl⟩ | ⟨h, hn, g, rfl, rfl⟩)
  · refine ⟨_, Sub.refl _, ?_⟩
    repeat(first|refine Sc ?_|refine fun(_:Nat)=>?_)
    refine ⟨fun _ => ?_, fun e => absurd h e⟩
    repeat(first|refine Sc ?_|refine fun(_:Nat)=>?_)
    exact ⟨_, [], FinOk.drop _ _, by unfold nameB; rw [if_pos h]; rfl, rfl⟩
  · refine ⟨_, Sub.refl _, ?_⟩
    repeat(first|refine Sc ?_|refine fun(_:Nat)=>?_)
    refine ⟨fun e => absurd rfl e, fun _ => ?_⟩
    repeat(first|refine Sc ?_|refine fun(_:Nat)=>?_)
    refine ⟨fun _ => ?_, fun e => absurd rfl e⟩
    repeat(first|refine Sc ?_|refine fun(_:Nat)=>?_)
    exact ⟨_, [], FinOk.drop _ _, by unfold nameB; rw [if_neg (by rw [h]; decide), hn, h]; rfl, rfl⟩
  · obtain ⟨h1, h2⟩ := place_names h
    refine ⟨_, Sub.refl _, ?_⟩
    repeat(first|refine Sc ?_|refine fun(_:Nat)=>?_)
    refine ⟨fun e => absurd rfl e, fun _ => ?_⟩
    repeat(first|refine Sc ?_|refine fun(_:Nat)=>?_)
    refine ⟨fun e => ?_, fun hne => ?_⟩
    · have e : ((namesOf s).length : Int) = 0 := e
      have e0 : namesOf s = [] := List.eq_nil_of_length_eq_zero (by omega)
      repeat(first|refine Sc ?_|refine fun(_:Nat)=>?_)
      exact ⟨_, [], FinOk.drop _ _, by unfold nameB; rw [if_neg (by rw [h]; decide), e0, h]; rfl, rfl⟩
    · have hne : ¬ ((namesOf s).length : Int) = 0 := hne
      obtain ⟨nm, hnm⟩ : ∃ nm, (namesOf s).getLast? = some nm := by
        cases e : (namesOf s).getLast? with
        | none => rw [List.getLast?_eq_none_iff] at e; rw [e] at hne; exact absurd rfl hne
        | some nm => exact ⟨nm, rfl⟩
      have hsz : nm.size ≤ 16 := isNameB_size (h1.2 nm (List.mem_of_getLast? hnm))
      repeat(first|refine Sc ?_|refine fun(_:Nat)=>?_)
      refine fun r hr => ?_
      obtain rfl : r = (((namesOf s).length - 1 : Nat) : Int) := by rw [hr, IntKind.wrap_i64]; omega
      repeat(first|refine Sc ?_|refine fun(_:Nat)=>?_)
      refine ⟨by omega, ?_⟩
      repeat(first|refine Sc ?_|refine fun(_:Nat)=>?_)
      refine ⟨.str nm, last_at hnm, ?_⟩
      repeat(first|refine Sc ?_|refine fun(_:Nat)=>?_)
      refine ACallT.ok (ACall.ret (clone_str nm (by omega)) ?_)
      repeat(first|refine Sc ?_|refine fun(_:Nat)=>?_)
      exact ⟨_, [], FinOk.drop _ _, by unfold nameB; rw [if_neg (by rw [h]; decide), hnm, h]; rfl, rfl⟩
set_option maxHeartbeats 1000000 in
theorem counted_spec (s : ByteArray) (k : Int) : FnSpec C 60 [.str s, .int .i64 k] [] (fun r L' => r = .tuple [.str (if countedE s k = 0 then countedB s k else eS), .int .i64 (countedE s k)] ∧ L' = []) := by
  refine FnSpec.start C_ok Tryz.func60 rfl rfl Tryz.ntmps60 ?_
  repeat(first|refine Sc ?_|refine fun(_:Nat)=>?_)
  refine ACallT.ok (ACall.pure _ (parse_spec s) ?_)
  rintro r L' (⟨h, rfl, rfl⟩ | ⟨h, hn, rfl, rfl⟩ | ⟨h, hn, g, rfl, rfl⟩)
  · refine ⟨_, Sub.refl _, ?_⟩
    repeat(first|refine Sc ?_|refine fun(_:Nat)=>?_)
    refine ⟨fun _ => ?_, fun e => absurd h e⟩
    repeat(first|refine Sc ?_|refine fun(_:Nat)=>?_)
    have ec : countedE s k = parseE s := by unfold countedE; rw [if_pos h]
    exact ⟨_, [], FinOk.drop _ _, by rw [ec, if_neg h]; rfl, rfl⟩
  · have ec : countedE s k = 47 := by unfold countedE; rw [if_neg (by rw [h]; decide), if_pos hn]
    refine ⟨_, Sub.refl _, ?_⟩
    repeat(first|refine Sc ?_|refine fun(_:Nat)=>?_)
    refine ⟨fun e => absurd rfl e, fun _ => ?_⟩
    repeat(first|refine Sc ?_|refine fun(_:Nat)=>?_)
    refine ⟨fun _ => ?_, fun e => absurd rfl e⟩
    repeat(first|refine Sc ?_|refine fun(_:Nat)=>?_)
    exact ⟨_, [], FinOk.drop _ _, by rw [ec]; rfl, rfl⟩
  · obtain ⟨h1, h2⟩ := place_names h
    refine ⟨_, Sub.refl _, ?_⟩
    repeat(first|refine Sc ?_|refine fun(_:Nat)=>?_)
    refine ⟨fun e => absurd rfl e, fun _ => ?_⟩
    repeat(first|refine Sc ?_|refine fun(_:Nat)=>?_)
    refine ⟨fun e => ?_, fun hne => ?_⟩
    · have e : ((namesOf s).length : Int) = 0 := e
      have e0 : namesOf s = [] := List.eq_nil_of_length_eq_zero (by omega)
      have ec : countedE s k = 47 := by unfold countedE; rw [if_neg (by rw [h]; decide), if_pos e0]
      repeat(first|refine Sc ?_|refine fun(_:Nat)=>?_)
      exact ⟨_, [], FinOk.drop _ _, by rw [ec]; rfl, rfl⟩
    have hne : ¬ ((namesOf s).length : Int) = 0 := hne
    have hn0 : namesOf s ≠ [] := fun e => hne (by rw [e]; rfl)
    obtain ⟨nm, hnm⟩ : ∃ nm, (namesOf s).getLast? = some nm := by
      cases e : (namesOf s).getLast? with
      | none => rw [List.getLast?_eq_none_iff] at e; rw [e] at hne; exact absurd rfl hne
      | some nm => exact ⟨nm, rfl⟩
    have hlb : longB s = decide (11 < nm.size) := by unfold longB; rw [hnm]
    repeat(first|refine Sc ?_|refine fun(_:Nat)=>?_)
    refine fun r hr => ?_
    obtain rfl : r = (((namesOf s).length - 1 : Nat) : Int) := by rw [hr, IntKind.wrap_i64]; omega
    repeat(first|refine Sc ?_|refine fun(_:Nat)=>?_)
    refine ⟨by omega, ?_⟩
    repeat(first|refine Sc ?_|refine fun(_:Nat)=>?_)
    refine ⟨.str nm, last_at hnm, ?_⟩
    repeat(first|refine Sc ?_|refine fun(_:Nat)=>?_)
    have hce : countedE s k = if longB s then 10 else if k < 0 ∨ 99999 < k then 1 else 0 := by unfold countedE; rw [if_neg (by rw [h]; decide), if_neg hn0]
    refine ⟨fun e => ?_, fun e => ?_⟩
    · have e : (11 : Int) < (nm.size : Int) := e
      have ec : countedE s k = 10 := by rw [hce, hlb, if_pos (by simp; omega)]
      repeat(first|refine Sc ?_|refine fun(_:Nat)=>?_)
      exact ⟨_, [], FinOk.drop _ _, by rw [ec]; rfl, rfl⟩
    have e11 : ¬ (11 : Int) < (nm.size : Int) := e
    have hce : countedE s k = if k < 0 ∨ 99999 < k then 1 else 0 := by rw [hce, hlb, if_neg (by simp; omega)]
    repeat(first|refine Sc ?_|refine fun(_:Nat)=>?_)
    refine ⟨fun e => ?_, fun e => ?_⟩
    · have e : k < 0 := e
      have ec : countedE s k = 1 := by rw [hce, if_pos (.inl e)]
      repeat(first|refine Sc ?_|refine fun(_:Nat)=>?_)
      exact ⟨_, [], FinOk.drop _ _, by rw [ec]; rfl, rfl⟩
    have ek0 : ¬ k < 0 := e
    repeat(first|refine Sc ?_|refine fun(_:Nat)=>?_)
    refine ⟨fun e => ?_, fun e => ?_⟩
    · have e : 99999 < k := e
      have ec : countedE s k = 1 := by rw [hce, if_pos (.inr e)]
      repeat(first|refine Sc ?_|refine fun(_:Nat)=>?_)
      exact ⟨_, [], FinOk.drop _ _, by rw [ec]; rfl, rfl⟩
    have ek1 : ¬ 99999 < k := e
    have ec : countedE s k = 0 := by rw [hce, if_neg (by omega)]
    obtain ⟨hd, hd5⟩ := dec_digs k.toNat (by omega)
    have hit : Lib.itoa k = Lib.decDigits k.toNat := by unfold Lib.itoa; rw [if_neg ek0]
    repeat(first|refine Sc ?_|refine fun(_:Nat)=>?_)
    refine ACallT.ok (ACall.ret (itoa_spec k (by omega) (by omega)) ?_)
    repeat(first|refine Sc ?_|refine fun(_:Nat)=>?_)
    rw [hit]
    refine fun r hr => ?_
    have hsz : (⟨(Lib.decDigits k.toNat).toArray⟩ : ByteArray).size = (Lib.decDigits k.toNat).length := by rw [size_list]
    obtain rfl : r = ((5 - (Lib.decDigits k.toNat).length : Nat) : Int) := by rw [hr, IntKind.wrap_i64, hsz]; omega
    repeat(first|refine Sc ?_|refine fun(_:Nat)=>?_)
    have hrs := repeat_spec ⟨#[48]⟩ (5 - (Lib.decDigits k.toNat).length) (by omega) (by decide)
    obtain ⟨R, hR, hRs⟩ : ∃ R : ByteArray, R = ⟨(Lib.repeatL (⟨#[48]⟩ : ByteArray).data.toList (5 - (Lib.decDigits k.toNat).length)).toArray⟩ ∧ R.size ≤ 5 := ⟨_, rfl, by rw [size_list]; simp only [Lib.repeatL_length]; simp⟩
    rw [← hR] at hrs
    refine ACallT.ok (ACall.ret hrs ?_)
    have hs102 := place_size h
    repeat(first|refine Sc ?_|refine fun(_:Nat)=>?_)
    refine ⟨by omega, ?_⟩
    repeat(first|refine Sc ?_|refine fun(_:Nat)=>?_)
    refine ⟨by rw [ByteArray.size_append, hsz]; omega, ?_⟩
    repeat(first|refine Sc ?_|refine fun(_:Nat)=>?_)
    refine ⟨_, [], FinOk.drop _ _, ?_, rfl⟩
    rw [ec, if_pos rfl]
    refine congrArg (fun z => AV.tuple [AV.str z, AV.int .i64 0]) (bytes_inj ?_)
    subst hR
    unfold countedB
    rw [← hd]
    simp [ByteArray.data_append]
end Go.Proofs.YtcbjcmigecocgaaGreatDoor.HBT
