/- The trie's inner nodes: a watch is dropped below one. -/
import Derived.Test.YtgpbppkmmlclfaaDoorTtK4
set_option linter.unusedVariables false
set_option linter.unusedSimpArgs false
namespace Go.Proofs.YtgpbppkmmlclfaaDoor.HBT
open Go Go.Proofs.YtgpbppkmmlclfaaDoor.HB Go.RowKit
set_option maxRecDepth 8000

def gone (names : List ByteArray) (s i : Int) (x : List ByteArray × On) : Bool := decide (x.1 = names) && isT s i x.2
def drp (names : List ByteArray) (s i : Int) (l : NL) : NL := l.filter fun x => !gone names s i x
theorem drp_keep {names : List ByteArray} {s i : Int} {x : List ByteArray × On} (l : NL) (h : gone names s i x = false) : drp names s i (x :: l) = x :: drp names s i l := List.filter_cons_of_pos (by simp [h])
theorem drp_gone {names : List ByteArray} {s i : Int} {x : List ByteArray × On} (l : NL) (h : gone names s i x = true) : drp names s i (x :: l) = drp names s i l := List.filter_cons_of_neg (by simp [h])
theorem gone_nn (s i : Int) (o : On) : gone [] s i ([], o) = isT s i o := by simp [gone]
theorem gone_nc (s i : Int) (m : ByteArray) (r : List ByteArray) (o : On) : gone [] s i (m :: r, o) = false := by simp [gone]
theorem gone_cn (n : ByteArray) (ns : List ByteArray) (s i : Int) (o : On) : gone (n :: ns) s i ([], o) = false := by simp [gone]
theorem gone_cc (n : ByteArray) (ns : List ByteArray) (s i : Int) (r : List ByteArray) (o : On) : gone (n :: ns) s i (n :: r, o) = gone ns s i (r, o) := by simp [gone]
theorem gone_cf {m n : ByteArray} (h : m ≠ n) (ns : List ByteArray) (s i : Int) (r : List ByteArray) (o : On) : gone (n :: ns) s i (m :: r, o) = false := by simp [gone, h]
theorem here_0 (o : On) (l : NL) : hereN (([], o) :: l) = o :: hereN l := rfl
theorem here_C (m : ByteArray) (r : List ByteArray) (o : On) (l : NL) : hereN ((m :: r, o) :: l) = hereN l := rfl
theorem below_0 (o : On) (l : NL) (n : ByteArray) : belowN (([], o) :: l) n = belowN l n := rfl
theorem below_C (n : ByteArray) (r : List ByteArray) (o : On) (l : NL) : belowN ((n :: r, o) :: l) n = (r, o) :: belowN l n := by
  unfold belowN; rw [List.filterMap_cons]; simp
theorem below_F {m n : ByteArray} (h : m ≠ n) (r : List ByteArray) (o : On) (l : NL) : belowN ((m :: r, o) :: l) n = belowN l n := by
  unfold belowN; rw [List.filterMap_cons]; simp [h]
theorem here_drp (s i : Int) : ∀ l : NL, hereN (drp [] s i l) = (hereN l).filter fun x => !isT s i x
  | [] => rfl
  | ([], o) :: l => by
    cases e : isT s i o with
    | true => rw [drp_gone l (by rw [gone_nn]; exact e), here_0, List.filter_cons_of_neg (by simp [e]), here_drp s i l]
    | false => rw [drp_keep l (by rw [gone_nn]; exact e), here_0, here_0, List.filter_cons_of_pos (by simp [e]), here_drp s i l]
  | (m :: r, o) :: l => by rw [drp_keep l (gone_nc s i m r o), here_C, here_C, here_drp s i l]
theorem below_drp (s i : Int) (n : ByteArray) : ∀ l : NL, belowN (drp [] s i l) n = belowN l n
  | [] => rfl
  | ([], o) :: l => by
    cases e : isT s i o with
    | true => rw [drp_gone l (by rw [gone_nn]; exact e), below_0, below_drp s i n l]
    | false => rw [drp_keep l (by rw [gone_nn]; exact e), below_0, below_0, below_drp s i n l]
  | (m :: r, o) :: l => by
    rw [drp_keep l (gone_nc s i m r o)]
    by_cases e : m = n
    · subst e; rw [below_C, below_C, below_drp s i m l]
    · rw [below_F e, below_F e, below_drp s i n l]
theorem here_drpC (n : ByteArray) (names : List ByteArray) (s i : Int) : ∀ l : NL, hereN (drp (n :: names) s i l) = hereN l
  | [] => rfl
  | ([], o) :: l => by rw [drp_keep l (gone_cn n names s i o), here_0, here_0, here_drpC n names s i l]
  | (m :: r, o) :: l => by
    cases e : gone (n :: names) s i (m :: r, o) with
    | true => rw [drp_gone l e, here_C, here_drpC n names s i l]
    | false => rw [drp_keep l e, here_C, here_C, here_drpC n names s i l]
theorem below_drpC (n : ByteArray) (names : List ByteArray) (s i : Int) : ∀ l : NL, belowN (drp (n :: names) s i l) n = drp names s i (belowN l n)
  | [] => rfl
  | ([], o) :: l => by rw [drp_keep l (gone_cn n names s i o), below_0, below_0, below_drpC n names s i l]
  | (m :: r, o) :: l => by
    by_cases e : m = n
    · subst e
      cases e2 : gone names s i (r, o) with
      | true => rw [drp_gone l (by rw [gone_cc]; exact e2), below_C, drp_gone _ e2, below_drpC m names s i l]
      | false => rw [drp_keep l (by rw [gone_cc]; exact e2), below_C, below_C, drp_keep _ e2, below_drpC m names s i l]
    · rw [drp_keep l (gone_cf e names s i r o), below_F e, below_F e, below_drpC n names s i l]
theorem below_drpF {n k : ByteArray} (h : n ≠ k) (names : List ByteArray) (s i : Int) : ∀ l : NL, belowN (drp (n :: names) s i l) k = belowN l k
  | [] => rfl
  | ([], o) :: l => by rw [drp_keep l (gone_cn n names s i o), below_0, below_0, below_drpF h names s i l]
  | (m :: r, o) :: l => by
    by_cases e : m = k
    · subst e
      rw [drp_keep l (gone_cf (Ne.symm h) names s i r o), below_C, below_C, below_drpF h names s i l]
    · rw [below_F e]
      cases e2 : gone (n :: names) s i (m :: r, o) with
      | true => rw [drp_gone l e2, below_drpF h names s i l]
      | false => rw [drp_keep l e2, below_F e, below_drpF h names s i l]
theorem mem_below {l : NL} {n : ByteArray} {names : List ByteArray} {o : On} (h : (n :: names, o) ∈ l) : (names, o) ∈ belowN l n := List.mem_filterMap.2 ⟨_, h, by simp⟩
theorem mem_here {l : NL} {o : On} (h : (([] : List ByteArray), o) ∈ l) : o ∈ hereN l := List.mem_filterMap.2 ⟨_, h, by simp⟩
theorem nil_of {l : NL} (h : hereN l = []) (hb : ∀ n, belowN l n = []) : l = [] := by
  cases l with
  | nil => rfl
  | cons x l =>
    obtain ⟨ns, o⟩ := x
    cases ns with
    | nil => exact absurd (mem_here (List.mem_cons_self ..)) (by rw [h]; simp)
    | cons n ns =>
      have := mem_below (l := (n :: ns, o) :: l) (List.mem_cons_self ..)
      rw [hb n] at this; cases this
theorem nodeD {l : NL} {ws : List On} {ks : List Kid} {t : TypeId} {ex : List AV} {g gm gw Cp : Nat} {mv : AV} {om : AObj} (s i : Int) (hws : ws.Perm (hereN l)) (hm : KidsV ks mv gm om) (hk : ∀ n, (∃ x ∈ ks, x.1 = n) ↔ belowN l n ≠ []) (hnd : (ks.map (·.1)).Nodup)
    (hin : ∀ x ∈ ks, IsN tI [] (belowN l x.1) x.2.1 x.2.2) : IsN t ex (drp [] s i l) g (nodeL t ex g mv (.sl 2 gw Cp (ws.filter fun x => !isT s i x).length) gm gw om (.row tH 5 Cp ((ws.filter fun x => !isT s i x).map encH)) ks) := by
  refine .mk t ex _ g _ _ gm gw om _ (ws.filter fun x => !isT s i x) ks (.inr ⟨Cp, rfl, rfl⟩) ?_ hm (fun n => by rw [below_drp]; exact hk n) hnd (fun x hx => by rw [below_drp]; exact hin x hx)
  rw [here_drp]
  exact hws.filter _
theorem nodeG {l l' : NL} {ws : List On} {ks : List Kid} {t : TypeId} {ex : List AV} {g gm gw : Nat} {mv wv : AV} {om ow : AObj} {x : Kid} {i : Nat} {H' : AHeap} (hw : LH 2 ws wv gw ow) (hws : ws.Perm (hereN l)) (hx : ks[i]? = some x)
    (hm : KidsV (ks.set i (x.1, x.2.1, H')) mv gm om) (hk : ∀ n, (∃ x ∈ ks, x.1 = n) ↔ belowN l n ≠ []) (hnd : (ks.map (·.1)).Nodup) (hin : ∀ x ∈ ks, IsN tI [] (belowN l x.1) x.2.1 x.2.2)
    (h0 : hereN l' = hereN l) (hne : belowN l' x.1 ≠ []) (hf : ∀ k, x.1 ≠ k → belowN l' k = belowN l k) (hN : IsN tI [] (belowN l' x.1) x.2.1 H') :
    IsN t ex l' g (nodeL t ex g mv wv gm gw om ow (ks.set i (x.1, x.2.1, H'))) := by
  have hns := names_set (y := (x.1, x.2.1, H')) hx rfl
  have hmem : ∀ n, (∃ z ∈ ks.set i (x.1, x.2.1, H'), z.1 = n) ↔ ∃ z ∈ ks, z.1 = n := fun n => by
    have e1 : (∃ z ∈ ks.set i (x.1, x.2.1, H'), z.1 = n) ↔ n ∈ (ks.set i (x.1, x.2.1, H')).map (·.1) := List.mem_map.symm
    have e2 : (∃ z ∈ ks, z.1 = n) ↔ n ∈ ks.map (·.1) := List.mem_map.symm
    rw [e1, e2, hns]
  refine .mk t ex _ g mv wv gm gw om ow ws _ hw (by rw [h0]; exact hws) hm (fun n => ?_) (by rw [hns]; exact hnd) (fun z hz => ?_)
  · rw [hmem, hk n]
    by_cases e : x.1 = n
    · subst e
      exact ⟨fun _ => hne, fun _ => (hk x.1).1 ⟨x, List.mem_of_getElem? hx, rfl⟩⟩
    · rw [hf n e]
  · obtain ⟨j, hj⟩ := List.mem_iff_getElem?.1 hz
    rw [List.getElem?_set] at hj
    split at hj
    · split at hj
      · cases hj
        exact hN
      · cases hj
    · rename_i hne
      have hne2 : x.1 ≠ z.1 := fun e => by
        have h1 : (ks.map (·.1))[i]? = (ks.map (·.1))[j]? := by rw [List.getElem?_map, List.getElem?_map, hx, hj]; simp [e]
        have hi := (List.getElem?_eq_some_iff.1 hx).1
        exact hne ((List.getElem?_inj (by simpa using hi) hnd).1 h1)
      rw [hf _ hne2]
      exact hin z (List.mem_of_getElem? hj)
theorem nodeE {l l' : NL} {ws : List On} {ks : List Kid} {t : TypeId} {ex : List AV} {g gm gw : Nat} {mv wv : AV} {om ow : AObj} {x : Kid} {i : Nat} (hw : LH 2 ws wv gw ow) (hws : ws.Perm (hereN l)) (hx : ks[i]? = some x)
    (hm : KidsV (ks.eraseIdx i) mv gm om) (hk : ∀ n, (∃ x ∈ ks, x.1 = n) ↔ belowN l n ≠ []) (hnd : (ks.map (·.1)).Nodup) (hin : ∀ x ∈ ks, IsN tI [] (belowN l x.1) x.2.1 x.2.2)
    (h0 : hereN l' = hereN l) (he : belowN l' x.1 = []) (hf : ∀ k, x.1 ≠ k → belowN l' k = belowN l k) :
    IsN t ex l' g (nodeL t ex g mv wv gm gw om ow (ks.eraseIdx i)) := by
  have hp := erase_perm hx
  have hnd2 : ((x :: ks.eraseIdx i).map (·.1)).Nodup := (hp.map (·.1)).nodup_iff.1 hnd
  rw [List.map_cons, List.nodup_cons] at hnd2
  have hfar : ∀ z ∈ ks.eraseIdx i, x.1 ≠ z.1 := fun z hz e => hnd2.1 (List.mem_map.2 ⟨z, hz, e.symm⟩)
  refine .mk t ex _ g mv wv gm gw om ow ws _ hw (by rw [h0]; exact hws) hm (fun n => ?_) hnd2.2 (fun z hz => ?_)
  · by_cases e : x.1 = n
    · subst e
      exact ⟨fun ⟨z, hz, e⟩ => absurd e.symm (hfar z hz), fun h => absurd he h⟩
    · rw [hf n e, ← hk n]
      exact ⟨fun ⟨z, hz, e2⟩ => ⟨z, hp.mem_iff.2 (List.mem_cons_of_mem _ hz), e2⟩, fun ⟨z, hz, e2⟩ => by
        rcases List.mem_cons.1 (hp.mem_iff.1 hz) with rfl | h
        · exact absurd e2 e
        · exact ⟨z, h, e2⟩⟩
  · rw [hf _ (hfar z hz)]
    exact hin z (hp.mem_iff.2 (List.mem_cons_of_mem _ hz))
set_option maxHeartbeats 4000000 in
theorem dropNilI (s i : Int) (l : NL) (g : Nat) (H : AHeap) (hN : IsN tI [] l g H) (o : On) (ho : ([], o) ∈ l) (hl : l.length ≤ 1000) :
    FnSpec C 35 [.ptr 0 g 0, rds [], .agg (tgC s i)] [(0, boxL H)] (fun r L' => ∃ H', IsN tI [] (drp [] s i l) g H' ∧ r = .tuple [] ∧ L' = [(0, boxL H')]) := by
  obtain ⟨_, _, _, _, mv, wv, gm, gw, om, ow, ws, ks, hw, hws, hm, hk, hnd, hin⟩ := hN
  refine FnSpec.imp (.unbox _ _) ?_
  refine FnSpec.start C_ok Tryd.func35 rfl rfl Tryd.ntmps35 ?_
  repeat(first|refine Sc ?_|refine fun(_:Nat)=>?_)
  refine ⟨fun _ => ?_, fun h => absurd rfl h⟩
  repeat(first|refine Sc ?_|refine fun(_:Nat)=>?_)
  rcases hw with ⟨rfl, rfl, rfl⟩ | ⟨Cp, rfl, rfl⟩
  · exact absurd (hws.mem_iff.2 (mem_here ho)) (by simp)
  have hlw : ws.length ≤ 1000 := by have := here_len l; have := hws.length_eq; omega
  rename_i gc _hz
  refine ACallT.ok (ACall.sel [2, 4] (by decide) [.sl 0 gw Cp ws.length, cloT gc] _ (.two (Sub.sl _ _ _ _ _) (Sub.refl _)) (deleteFunc_spec gw Cp gc ws hlw s i) ?_)
  rintro r L' ⟨rfl, rfl⟩
  refine ⟨_, Sub.refl _, ?_⟩
  repeat(first|refine Sc ?_|refine fun(_:Nat)=>?_)
  exact ⟨.tuple [], [(0, boxL (nodeL tI [] g mv (.sl 2 gw Cp (ws.filter fun x => !isT s i x).length) gm gw om (.row tH 5 Cp ((ws.filter fun x => !isT s i x).map encH)) ks))], (FinOk.keepS _ [0, 1, 2, 3] (Sub.refl _) (by decide) rfl (show SubL _ (nodeL tI [] g mv (.sl 2 gw Cp (ws.filter fun x => !isT s i x).length) gm gw om (.row tH 5 Cp ((ws.filter fun x => !isT s i x).map encH)) ks) from by repeat(first|exact trivial|refine Zy rfl ?_|refine Zy (SubO.refl _) ?_|refine Zy trivial ?_|refine Zy (SubO.cells (by repeat(first|exact trivial|refine Zy (Sub.refl _) ?_|refine Zy (Sub.sl _ _ _ _ _) ?_|refine Zy (Sub.ptr _ _ _ _) ?_))) ?_))).trans (FinOk.imp _ (.box 0 _)), _, nodeD s i hws hm hk hnd hin, rfl, rfl⟩
set_option maxHeartbeats 4000000 in
theorem dropConsI (n : ByteArray) (names : List ByteArray) (hn : names.length ≤ 99) (s i : Int) (ih : ∀ (l : NL) (g : Nat) (H : AHeap), IsN tI [] l g H → ∀ (o : On), (names, o) ∈ l → l.length ≤ 1000 →
      FnSpec C 35 [.ptr 0 g 0, rds names, .agg (tgC s i)] [(0, boxL H)] (fun r L' => ∃ H', IsN tI [] (drp names s i l) g H' ∧ r = .tuple [] ∧ L' = [(0, boxL H')]))
    (l : NL) (g : Nat) (H : AHeap) (hN : IsN tI [] l g H) (o : On) (ho : (n :: names, o) ∈ l) (hl : l.length ≤ 1000) :
    FnSpec C 35 [.ptr 0 g 0, rds (n :: names), .agg (tgC s i)] [(0, boxL H)] (fun r L' => ∃ H', IsN tI [] (drp (n :: names) s i l) g H' ∧ r = .tuple [] ∧ L' = [(0, boxL H')]) := by
  obtain ⟨_, _, _, _, mv, wv, gm, gw, om, ow, ws, ks, hw, hws, hm, hk, hnd, hin⟩ := hN
  have hrd : AV.ro 1 (List.drop (Int.toNat 1) (AV.str n :: List.map AV.str names)) ((((n :: names).length : Nat) : Int) - 1).toNat = rds names := by
    rw [List.length_cons, show (((names.length + 1 : Nat) : Int) - 1).toNat = names.length by omega]; rfl
  have hpos : (0 : Int) < (((n :: names).length : Nat) : Int) := by rw [List.length_cons]; omega
  obtain ⟨x, hx, rfl⟩ := (hk n).2 (List.ne_nil_of_mem (mem_below ho))
  obtain ⟨i0, hi⟩ := List.mem_iff_getElem?.1 hx
  rcases hm with ⟨rfl, rfl, rfl⟩ | ⟨rfl, es, cl, rfl, hm⟩
  · cases hx
  refine FnSpec.imp (.unbox _ _) ?_
  refine FnSpec.start C_ok Tryd.func35 rfl rfl Tryd.ntmps35 ?_
  repeat(first|refine Sc ?_|refine fun(_:Nat)=>?_)
  refine ⟨fun h => absurd h (show ¬ (((x.1 :: names).length : Nat) : Int) = 0 by rw [List.length_cons]; omega), fun _ => ?_⟩
  repeat(first|refine Sc ?_|refine fun(_:Nat)=>?_)
  refine Run.drawnK C_ok (aopC_sound C_ok) [0, 1] [0, 1, 2, 3, 4, 5, 6, 7, 8] (by kernel_rfl) ?_
  repeat(first|refine Sc ?_|refine fun(_:Nat)=>?_)
  refine ⟨hpos, ?_⟩
  repeat(first|refine Sc ?_|refine fun(_:Nat)=>?_)
  refine ⟨.str x.1, rfl, ?_⟩
  repeat(first|refine Sc ?_|refine fun(_:Nat)=>?_)
  refine ⟨1, es, cl, some (i0, valK x), by decide, rfl, hm.hit u9 keyKS hi, ?_⟩
  repeat(first|refine Sc ?_|refine fun(_:Nat)=>?_)
  refine ⟨.ptr 5 x.2.1 0, rfl, ?_⟩
  repeat(first|refine Za ?_|refine Zb ?_|refine Zd rfl ?_|refine Ze ?_|refine Zy rfl ?_|refine Z2 rfl ?_|refine Z3 ?_|refine fun(_:Nat)=>?_|refine Run.goN rfl ?_|refine Zo rfl ?_)
  refine Run.weak1 C_ok (Weak.imp (Subs.refl _) (Imp.pick (k := 3) rfl (Imp.kid_out hi))) ?_
  refine Run.drawnK C_ok (aopC_sound C_ok) [4] [0, 1, 2, 3, 4] (by kernel_rfl) ?_
  repeat(first|refine Sc ?_|refine fun(_:Nat)=>?_)
  refine ⟨show (1 : Int) ≤ _ by omega, ?_⟩
  repeat(first|refine Sc ?_|refine fun(_:Nat)=>?_)
  refine ⟨by rw [List.length_map]; omega, ?_⟩
  repeat(first|refine Sc ?_|refine fun(_:Nat)=>?_)
  refine ACallT.ok (ACall.sel [5] (by decide) [.ptr 0 x.2.1 0, rds names, .agg (tgC s i)] _ ⟨Sub.ptr _ _ _ _, hrd ▸ Sub.refl _, Sub.refl _, trivial⟩ (ih _ _ _ (hin x hx) o (mem_below ho) (Nat.le_trans (below_len l x.1) hl)) ?_)
  rintro r L' ⟨H', hN', rfl, rfl⟩
  refine ⟨_, Sub.refl _, ?_⟩
  repeat(first|refine Za ?_|refine Zb ?_|refine Zd rfl ?_|refine Ze ?_|refine Zy rfl ?_|refine Z2 rfl ?_|refine Z3 ?_|refine fun(_:Nat)=>?_|refine Run.goN rfl ?_|refine Zo rfl ?_)
  have hNk := hN'
  obtain ⟨_, _, _, _, mv', wv', gm', gw', om', ow', ws', ks', hw', hws', hm', hk', hnd', hin'⟩ := hN'
  refine Run.weak0 C_ok (Weak.imp (Subs.refl _) (Imp.app (L := _ :: _ :: _ :: _ :: [_]) (.refl _) (Imp.unbox 0 _))) ?_
  have hemp : ks' = [] → ws' = [] → drp names s i (belowN l x.1) = [] := fun a b => nil_of (by subst b; exact hws'.symm.eq_nil) (fun k => Decidable.byContradiction fun h => by
    obtain ⟨z, hz, _⟩ := (hk' k).2 h
    rw [a] at hz; cases hz)
  have hkept : ks' ≠ [] ∨ ws' ≠ [] → drp names s i (belowN l x.1) ≠ [] := fun h e => by
    rcases h with h | h
    · obtain ⟨z, hz⟩ := List.exists_mem_of_ne_nil _ h
      exact (hk' z.1).1 ⟨z, hz, rfl⟩ (by rw [e]; rfl)
    · exact h (by rw [e] at hws'; exact hws'.eq_nil)
  rcases hm' with ⟨rfl, rfl, rfl⟩ | ⟨rfl, es', cl', rfl, hm'⟩
  · repeat(first|refine Sc ?_|refine fun(_:Nat)=>?_)
    refine ⟨fun _ => ?_, fun h => absurd rfl h⟩
    rcases hw' with ⟨rfl, rfl, rfl⟩ | ⟨Cp', rfl, rfl⟩
    · repeat(first|refine Sc ?_|refine fun(_:Nat)=>?_)
      refine ⟨fun _ => ?_, fun h => absurd rfl h⟩
      repeat(first|refine Sc ?_|refine fun(_:Nat)=>?_)
      refine Run.drawnK C_ok (aopC_sound C_ok) [0] [0, 1, 2, 3, 4, 5, 6, 7] (by kernel_rfl) ?_
      repeat(first|refine Sc ?_|refine fun(_:Nat)=>?_)
      refine ⟨hpos, ?_⟩
      repeat(first|refine Sc ?_|refine fun(_:Nat)=>?_)
      refine ⟨.str x.1, rfl, ?_⟩
      repeat(first|refine Sc ?_|refine fun(_:Nat)=>?_)
      refine ⟨1, es, cl, some (i0, valK x), rfl, hm.hit u9 keyKS hi, ?_⟩
      repeat(first|refine Sc ?_|refine fun(_:Nat)=>?_)
      exact ⟨.tuple [], [(0, boxL (nodeL tI [] g (.any (.map (some gm))) wv gm gw (.obj (.map (es.eraseIdxIfInBounds i0) cl)) ow (ks.eraseIdx i0)))], (FinOk.keep _ [0, 1, 2, 3] (Sub.refl _) (by decide) rfl).trans (FinOk.imp _ (.box 0 _)), _, nodeE hw hws hi (.inr ⟨rfl, _, _, rfl, hm.erase i0⟩) hk hnd hin (here_drpC x.1 names s i l) (by rw [below_drpC]; exact hemp rfl rfl) (fun k hk => below_drpF hk names s i l), rfl, rfl⟩
    · repeat(first|refine Sc ?_|refine fun(_:Nat)=>?_)
      refine ⟨fun h => ?_, fun h => ?_⟩
      · have h : (ws'.length : Int) = 0 := h
        obtain rfl := List.length_eq_zero_iff.1 (show ws'.length = 0 by omega)
        repeat(first|refine Sc ?_|refine fun(_:Nat)=>?_)
        refine Run.drawnK C_ok (aopC_sound C_ok) [0] [0, 1, 2, 3, 4, 5, 6, 7] (by kernel_rfl) ?_
        repeat(first|refine Sc ?_|refine fun(_:Nat)=>?_)
        refine ⟨hpos, ?_⟩
        repeat(first|refine Sc ?_|refine fun(_:Nat)=>?_)
        refine ⟨.str x.1, rfl, ?_⟩
        repeat(first|refine Sc ?_|refine fun(_:Nat)=>?_)
        refine ⟨1, es, cl, some (i0, valK x), rfl, hm.hit u9 keyKS hi, ?_⟩
        repeat(first|refine Sc ?_|refine fun(_:Nat)=>?_)
        exact ⟨.tuple [], [(0, boxL (nodeL tI [] g (.any (.map (some gm))) wv gm gw (.obj (.map (es.eraseIdxIfInBounds i0) cl)) ow (ks.eraseIdx i0)))], (FinOk.keep _ [0, 1, 2, 3] (Sub.refl _) (by decide) rfl).trans (FinOk.imp _ (.box 0 _)), _, nodeE hw hws hi (.inr ⟨rfl, _, _, rfl, hm.erase i0⟩) hk hnd hin (here_drpC x.1 names s i l) (by rw [below_drpC]; exact hemp rfl rfl) (fun k hk => below_drpF hk names s i l), rfl, rfl⟩
      · have h : ¬ (ws'.length : Int) = 0 := h
        repeat(first|refine Sc ?_|refine fun(_:Nat)=>?_)
        exact ⟨.tuple [], [(0, boxL (nodeL tI [] g (.any (.map (some gm))) wv gm gw (.obj (.map es cl)) ow (ks.set i0 (x.1, x.2.1, nodeL tI [] x.2.1 (.any (.map none)) (.sl 2 gw' Cp' ws'.length) gm' gw' .dead (.row tH 5 Cp' (ws'.map encH)) []))))], (FinOk.keep _ [0, 1, 2, 3, 5, 6, 7, 8] (Sub.refl _) (by decide) rfl).trans (FinOk.imp _ ((Imp.app (L := _ :: _ :: _ :: [_]) (.refl _) (Imp.box 0 _)).trans (Imp.close (Imp.kid (y := (x.1, x.2.1, nodeL tI [] x.2.1 (.any (.map none)) (.sl 2 gw' Cp' ws'.length) gm' gw' .dead (.row tH 5 Cp' (ws'.map encH)) [])) hi)))), _, nodeG (t := tI) (ex := []) (gm := gm) (H' := nodeL tI [] x.2.1 (.any (.map none)) (.sl 2 gw' Cp' ws'.length) gm' gw' .dead (.row tH 5 Cp' (ws'.map encH)) []) hw hws hi (.inr ⟨rfl, es, cl, rfl, hm.same hi rfl rfl⟩) hk hnd hin (here_drpC x.1 names s i l) (by rw [below_drpC]; exact hkept (.inr (fun e => h (by rw [e]; rfl)))) (fun k hk => below_drpF hk names s i l) (by rw [below_drpC]; exact hNk), rfl, rfl⟩
  · repeat(first|refine Sc ?_|refine fun(_:Nat)=>?_)
    refine ⟨6, es', cl', rfl, ?_⟩
    repeat(first|refine Sc ?_|refine fun(_:Nat)=>?_)
    have hsz := hm'.len
    refine ⟨fun h => ?_, fun h => ?_⟩
    · have h : (es'.size : Int) = 0 := h
      obtain rfl := List.length_eq_zero_iff.1 (show ks'.length = 0 by omega)
      rcases hw' with ⟨rfl, rfl, rfl⟩ | ⟨Cp', rfl, rfl⟩
      · repeat(first|refine Sc ?_|refine fun(_:Nat)=>?_)
        refine ⟨fun _ => ?_, fun h => absurd rfl h⟩
        repeat(first|refine Sc ?_|refine fun(_:Nat)=>?_)
        refine Run.drawnK C_ok (aopC_sound C_ok) [0] [0, 1, 2, 3, 4, 5, 6, 7] (by kernel_rfl) ?_
        repeat(first|refine Sc ?_|refine fun(_:Nat)=>?_)
        refine ⟨hpos, ?_⟩
        repeat(first|refine Sc ?_|refine fun(_:Nat)=>?_)
        refine ⟨.str x.1, rfl, ?_⟩
        repeat(first|refine Sc ?_|refine fun(_:Nat)=>?_)
        refine ⟨1, es, cl, some (i0, valK x), rfl, hm.hit u9 keyKS hi, ?_⟩
        repeat(first|refine Sc ?_|refine fun(_:Nat)=>?_)
        exact ⟨.tuple [], [(0, boxL (nodeL tI [] g (.any (.map (some gm))) wv gm gw (.obj (.map (es.eraseIdxIfInBounds i0) cl)) ow (ks.eraseIdx i0)))], (FinOk.keep _ [0, 1, 2, 3] (Sub.refl _) (by decide) rfl).trans (FinOk.imp _ (.box 0 _)), _, nodeE hw hws hi (.inr ⟨rfl, _, _, rfl, hm.erase i0⟩) hk hnd hin (here_drpC x.1 names s i l) (by rw [below_drpC]; exact hemp rfl rfl) (fun k hk => below_drpF hk names s i l), rfl, rfl⟩
      · repeat(first|refine Sc ?_|refine fun(_:Nat)=>?_)
        refine ⟨fun h => ?_, fun h => ?_⟩
        · have h : (ws'.length : Int) = 0 := h
          obtain rfl := List.length_eq_zero_iff.1 (show ws'.length = 0 by omega)
          repeat(first|refine Sc ?_|refine fun(_:Nat)=>?_)
          refine Run.drawnK C_ok (aopC_sound C_ok) [0] [0, 1, 2, 3, 4, 5, 6, 7] (by kernel_rfl) ?_
          repeat(first|refine Sc ?_|refine fun(_:Nat)=>?_)
          refine ⟨hpos, ?_⟩
          repeat(first|refine Sc ?_|refine fun(_:Nat)=>?_)
          refine ⟨.str x.1, rfl, ?_⟩
          repeat(first|refine Sc ?_|refine fun(_:Nat)=>?_)
          refine ⟨1, es, cl, some (i0, valK x), rfl, hm.hit u9 keyKS hi, ?_⟩
          repeat(first|refine Sc ?_|refine fun(_:Nat)=>?_)
          exact ⟨.tuple [], [(0, boxL (nodeL tI [] g (.any (.map (some gm))) wv gm gw (.obj (.map (es.eraseIdxIfInBounds i0) cl)) ow (ks.eraseIdx i0)))], (FinOk.keep _ [0, 1, 2, 3] (Sub.refl _) (by decide) rfl).trans (FinOk.imp _ (.box 0 _)), _, nodeE hw hws hi (.inr ⟨rfl, _, _, rfl, hm.erase i0⟩) hk hnd hin (here_drpC x.1 names s i l) (by rw [below_drpC]; exact hemp rfl rfl) (fun k hk => below_drpF hk names s i l), rfl, rfl⟩
        · have h : ¬ (ws'.length : Int) = 0 := h
          repeat(first|refine Sc ?_|refine fun(_:Nat)=>?_)
          exact ⟨.tuple [], [(0, boxL (nodeL tI [] g (.any (.map (some gm))) wv gm gw (.obj (.map es cl)) ow (ks.set i0 (x.1, x.2.1, nodeL tI [] x.2.1 (.any (.map (some gm'))) (.sl 2 gw' Cp' ws'.length) gm' gw' (.obj (.map es' cl')) (.row tH 5 Cp' (ws'.map encH)) []))))], (FinOk.keep _ [0, 1, 2, 3, 5, 6, 7, 8] (Sub.refl _) (by decide) rfl).trans (FinOk.imp _ ((Imp.app (L := _ :: _ :: _ :: [_]) (.refl _) (Imp.box 0 _)).trans (Imp.close (Imp.kid (y := (x.1, x.2.1, nodeL tI [] x.2.1 (.any (.map (some gm'))) (.sl 2 gw' Cp' ws'.length) gm' gw' (.obj (.map es' cl')) (.row tH 5 Cp' (ws'.map encH)) [])) hi)))), _, nodeG (t := tI) (ex := []) (gm := gm) (H' := nodeL tI [] x.2.1 (.any (.map (some gm'))) (.sl 2 gw' Cp' ws'.length) gm' gw' (.obj (.map es' cl')) (.row tH 5 Cp' (ws'.map encH)) []) hw hws hi (.inr ⟨rfl, es, cl, rfl, hm.same hi rfl rfl⟩) hk hnd hin (here_drpC x.1 names s i l) (by rw [below_drpC]; exact hkept (.inr (fun e => h (by rw [e]; rfl)))) (fun k hk => below_drpF hk names s i l) (by rw [below_drpC]; exact hNk), rfl, rfl⟩
    · have h : ¬ (es'.size : Int) = 0 := h
      repeat(first|refine Sc ?_|refine fun(_:Nat)=>?_)
      exact ⟨.tuple [], [(0, boxL (nodeL tI [] g (.any (.map (some gm))) wv gm gw (.obj (.map es cl)) ow (ks.set i0 (x.1, x.2.1, nodeL tI [] x.2.1 (.any (.map (some gm'))) wv' gm' gw' (.obj (.map es' cl')) ow' ks'))))], (FinOk.keep _ [0, 1, 2, 3, 5, 6, 7, 8] (Sub.refl _) (by decide) rfl).trans (FinOk.imp _ ((Imp.app (L := _ :: _ :: _ :: [_]) (.refl _) (Imp.box 0 _)).trans (Imp.close (Imp.kid (y := (x.1, x.2.1, nodeL tI [] x.2.1 (.any (.map (some gm'))) wv' gm' gw' (.obj (.map es' cl')) ow' ks')) hi)))), _, nodeG (t := tI) (ex := []) (gm := gm) (H' := nodeL tI [] x.2.1 (.any (.map (some gm'))) wv' gm' gw' (.obj (.map es' cl')) ow' ks') hw hws hi (.inr ⟨rfl, es, cl, rfl, hm.same hi rfl rfl⟩) hk hnd hin (here_drpC x.1 names s i l) (by rw [below_drpC]; exact hkept (.inl (fun e => h (by rw [hsz, e]; rfl)))) (fun k hk => below_drpF hk names s i l) (by rw [below_drpC]; exact hNk), rfl, rfl⟩
set_option maxHeartbeats 4000000 in
theorem dropNilR (ov : AV) (s i : Int) (l : NL) (g : Nat) (H : AHeap) (hN : IsN tT [ov] l g H) (o : On) (ho : ([], o) ∈ l) (hl : l.length ≤ 1000) :
    FnSpec C 35 [.ptr 0 g 0, rds [], .agg (tgC s i)] [(0, boxL H)] (fun r L' => ∃ H', IsN tT [ov] (drp [] s i l) g H' ∧ r = .tuple [] ∧ L' = [(0, boxL H')]) := by
  obtain ⟨_, _, _, _, mv, wv, gm, gw, om, ow, ws, ks, hw, hws, hm, hk, hnd, hin⟩ := hN
  refine FnSpec.imp (.unbox _ _) ?_
  refine FnSpec.start C_ok Tryd.func35 rfl rfl Tryd.ntmps35 ?_
  repeat(first|refine Sc ?_|refine fun(_:Nat)=>?_)
  refine ⟨fun _ => ?_, fun h => absurd rfl h⟩
  repeat(first|refine Sc ?_|refine fun(_:Nat)=>?_)
  rcases hw with ⟨rfl, rfl, rfl⟩ | ⟨Cp, rfl, rfl⟩
  · exact absurd (hws.mem_iff.2 (mem_here ho)) (by simp)
  have hlw : ws.length ≤ 1000 := by have := here_len l; have := hws.length_eq; omega
  rename_i gc _hz
  refine ACallT.ok (ACall.sel [2, 4] (by decide) [.sl 0 gw Cp ws.length, cloT gc] _ (.two (Sub.sl _ _ _ _ _) (Sub.refl _)) (deleteFunc_spec gw Cp gc ws hlw s i) ?_)
  rintro r L' ⟨rfl, rfl⟩
  refine ⟨_, Sub.refl _, ?_⟩
  repeat(first|refine Sc ?_|refine fun(_:Nat)=>?_)
  exact ⟨.tuple [], [(0, boxL (nodeL tT [ov] g mv (.sl 2 gw Cp (ws.filter fun x => !isT s i x).length) gm gw om (.row tH 5 Cp ((ws.filter fun x => !isT s i x).map encH)) ks))], (FinOk.keepS _ [0, 1, 2, 3] (Sub.refl _) (by decide) rfl (show SubL _ (nodeL tT [ov] g mv (.sl 2 gw Cp (ws.filter fun x => !isT s i x).length) gm gw om (.row tH 5 Cp ((ws.filter fun x => !isT s i x).map encH)) ks) from by repeat(first|exact trivial|refine Zy rfl ?_|refine Zy (SubO.refl _) ?_|refine Zy trivial ?_|refine Zy (SubO.cells (by repeat(first|exact trivial|refine Zy (Sub.refl _) ?_|refine Zy (Sub.sl _ _ _ _ _) ?_|refine Zy (Sub.ptr _ _ _ _) ?_))) ?_))).trans (FinOk.imp _ (.box 0 _)), _, nodeD s i hws hm hk hnd hin, rfl, rfl⟩
set_option maxHeartbeats 4000000 in
theorem dropConsR (ov : AV) (n : ByteArray) (names : List ByteArray) (hn : names.length ≤ 99) (s i : Int) (ih : ∀ (l : NL) (g : Nat) (H : AHeap), IsN tI [] l g H → ∀ (o : On), (names, o) ∈ l → l.length ≤ 1000 →
      FnSpec C 35 [.ptr 0 g 0, rds names, .agg (tgC s i)] [(0, boxL H)] (fun r L' => ∃ H', IsN tI [] (drp names s i l) g H' ∧ r = .tuple [] ∧ L' = [(0, boxL H')]))
    (l : NL) (g : Nat) (H : AHeap) (hN : IsN tT [ov] l g H) (o : On) (ho : (n :: names, o) ∈ l) (hl : l.length ≤ 1000) :
    FnSpec C 35 [.ptr 0 g 0, rds (n :: names), .agg (tgC s i)] [(0, boxL H)] (fun r L' => ∃ H', IsN tT [ov] (drp (n :: names) s i l) g H' ∧ r = .tuple [] ∧ L' = [(0, boxL H')]) := by
  obtain ⟨_, _, _, _, mv, wv, gm, gw, om, ow, ws, ks, hw, hws, hm, hk, hnd, hin⟩ := hN
  have hrd : AV.ro 1 (List.drop (Int.toNat 1) (AV.str n :: List.map AV.str names)) ((((n :: names).length : Nat) : Int) - 1).toNat = rds names := by
    rw [List.length_cons, show (((names.length + 1 : Nat) : Int) - 1).toNat = names.length by omega]; rfl
  have hpos : (0 : Int) < (((n :: names).length : Nat) : Int) := by rw [List.length_cons]; omega
  obtain ⟨x, hx, rfl⟩ := (hk n).2 (List.ne_nil_of_mem (mem_below ho))
  obtain ⟨i0, hi⟩ := List.mem_iff_getElem?.1 hx
  rcases hm with ⟨rfl, rfl, rfl⟩ | ⟨rfl, es, cl, rfl, hm⟩
  · cases hx
  refine FnSpec.imp (.unbox _ _) ?_
  refine FnSpec.start C_ok Tryd.func35 rfl rfl Tryd.ntmps35 ?_
  repeat(first|refine Sc ?_|refine fun(_:Nat)=>?_)
  refine ⟨fun h => absurd h (show ¬ (((x.1 :: names).length : Nat) : Int) = 0 by rw [List.length_cons]; omega), fun _ => ?_⟩
  repeat(first|refine Sc ?_|refine fun(_:Nat)=>?_)
  refine Run.drawnK C_ok (aopC_sound C_ok) [0, 1] [0, 1, 2, 3, 4, 5, 6, 7, 8] (by kernel_rfl) ?_
  repeat(first|refine Sc ?_|refine fun(_:Nat)=>?_)
  refine ⟨hpos, ?_⟩
  repeat(first|refine Sc ?_|refine fun(_:Nat)=>?_)
  refine ⟨.str x.1, rfl, ?_⟩
  repeat(first|refine Sc ?_|refine fun(_:Nat)=>?_)
  refine ⟨1, es, cl, some (i0, valK x), by decide, rfl, hm.hit u9 keyKS hi, ?_⟩
  repeat(first|refine Sc ?_|refine fun(_:Nat)=>?_)
  refine ⟨.ptr 5 x.2.1 0, rfl, ?_⟩
  repeat(first|refine Za ?_|refine Zb ?_|refine Zd rfl ?_|refine Ze ?_|refine Zy rfl ?_|refine Z2 rfl ?_|refine Z3 ?_|refine fun(_:Nat)=>?_|refine Run.goN rfl ?_|refine Zo rfl ?_)
  refine Run.weak1 C_ok (Weak.imp (Subs.refl _) (Imp.pick (k := 3) rfl (Imp.kid_out hi))) ?_
  refine Run.drawnK C_ok (aopC_sound C_ok) [4] [0, 1, 2, 3, 4] (by kernel_rfl) ?_
  repeat(first|refine Sc ?_|refine fun(_:Nat)=>?_)
  refine ⟨show (1 : Int) ≤ _ by omega, ?_⟩
  repeat(first|refine Sc ?_|refine fun(_:Nat)=>?_)
  refine ⟨by rw [List.length_map]; omega, ?_⟩
  repeat(first|refine Sc ?_|refine fun(_:Nat)=>?_)
  refine ACallT.ok (ACall.sel [5] (by decide) [.ptr 0 x.2.1 0, rds names, .agg (tgC s i)] _ ⟨Sub.ptr _ _ _ _, hrd ▸ Sub.refl _, Sub.refl _, trivial⟩ (ih _ _ _ (hin x hx) o (mem_below ho) (Nat.le_trans (below_len l x.1) hl)) ?_)
  rintro r L' ⟨H', hN', rfl, rfl⟩
  refine ⟨_, Sub.refl _, ?_⟩
  repeat(first|refine Za ?_|refine Zb ?_|refine Zd rfl ?_|refine Ze ?_|refine Zy rfl ?_|refine Z2 rfl ?_|refine Z3 ?_|refine fun(_:Nat)=>?_|refine Run.goN rfl ?_|refine Zo rfl ?_)
  have hNk := hN'
  obtain ⟨_, _, _, _, mv', wv', gm', gw', om', ow', ws', ks', hw', hws', hm', hk', hnd', hin'⟩ := hN'
  refine Run.weak0 C_ok (Weak.imp (Subs.refl _) (Imp.app (L := _ :: _ :: _ :: _ :: [_]) (.refl _) (Imp.unbox 0 _))) ?_
  have hemp : ks' = [] → ws' = [] → drp names s i (belowN l x.1) = [] := fun a b => nil_of (by subst b; exact hws'.symm.eq_nil) (fun k => Decidable.byContradiction fun h => by
    obtain ⟨z, hz, _⟩ := (hk' k).2 h
    rw [a] at hz; cases hz)
  have hkept : ks' ≠ [] ∨ ws' ≠ [] → drp names s i (belowN l x.1) ≠ [] := fun h e => by
    rcases h with h | h
    · obtain ⟨z, hz⟩ := List.exists_mem_of_ne_nil _ h
      exact (hk' z.1).1 ⟨z, hz, rfl⟩ (by rw [e]; rfl)
    · exact h (by rw [e] at hws'; exact hws'.eq_nil)
  rcases hm' with ⟨rfl, rfl, rfl⟩ | ⟨rfl, es', cl', rfl, hm'⟩
  · repeat(first|refine Sc ?_|refine fun(_:Nat)=>?_)
    refine ⟨fun _ => ?_, fun h => absurd rfl h⟩
    rcases hw' with ⟨rfl, rfl, rfl⟩ | ⟨Cp', rfl, rfl⟩
    · repeat(first|refine Sc ?_|refine fun(_:Nat)=>?_)
      refine ⟨fun _ => ?_, fun h => absurd rfl h⟩
      repeat(first|refine Sc ?_|refine fun(_:Nat)=>?_)
      refine Run.drawnK C_ok (aopC_sound C_ok) [0] [0, 1, 2, 3, 4, 5, 6, 7] (by kernel_rfl) ?_
      repeat(first|refine Sc ?_|refine fun(_:Nat)=>?_)
      refine ⟨hpos, ?_⟩
      repeat(first|refine Sc ?_|refine fun(_:Nat)=>?_)
      refine ⟨.str x.1, rfl, ?_⟩
      repeat(first|refine Sc ?_|refine fun(_:Nat)=>?_)
      refine ⟨1, es, cl, some (i0, valK x), rfl, hm.hit u9 keyKS hi, ?_⟩
      repeat(first|refine Sc ?_|refine fun(_:Nat)=>?_)
      exact ⟨.tuple [], [(0, boxL (nodeL tT [ov] g (.any (.map (some gm))) wv gm gw (.obj (.map (es.eraseIdxIfInBounds i0) cl)) ow (ks.eraseIdx i0)))], (FinOk.keep _ [0, 1, 2, 3] (Sub.refl _) (by decide) rfl).trans (FinOk.imp _ (.box 0 _)), _, nodeE hw hws hi (.inr ⟨rfl, _, _, rfl, hm.erase i0⟩) hk hnd hin (here_drpC x.1 names s i l) (by rw [below_drpC]; exact hemp rfl rfl) (fun k hk => below_drpF hk names s i l), rfl, rfl⟩
    · repeat(first|refine Sc ?_|refine fun(_:Nat)=>?_)
      refine ⟨fun h => ?_, fun h => ?_⟩
      · have h : (ws'.length : Int) = 0 := h
        obtain rfl := List.length_eq_zero_iff.1 (show ws'.length = 0 by omega)
        repeat(first|refine Sc ?_|refine fun(_:Nat)=>?_)
        refine Run.drawnK C_ok (aopC_sound C_ok) [0] [0, 1, 2, 3, 4, 5, 6, 7] (by kernel_rfl) ?_
        repeat(first|refine Sc ?_|refine fun(_:Nat)=>?_)
        refine ⟨hpos, ?_⟩
        repeat(first|refine Sc ?_|refine fun(_:Nat)=>?_)
        refine ⟨.str x.1, rfl, ?_⟩
        repeat(first|refine Sc ?_|refine fun(_:Nat)=>?_)
        refine ⟨1, es, cl, some (i0, valK x), rfl, hm.hit u9 keyKS hi, ?_⟩
        repeat(first|refine Sc ?_|refine fun(_:Nat)=>?_)
        exact ⟨.tuple [], [(0, boxL (nodeL tT [ov] g (.any (.map (some gm))) wv gm gw (.obj (.map (es.eraseIdxIfInBounds i0) cl)) ow (ks.eraseIdx i0)))], (FinOk.keep _ [0, 1, 2, 3] (Sub.refl _) (by decide) rfl).trans (FinOk.imp _ (.box 0 _)), _, nodeE hw hws hi (.inr ⟨rfl, _, _, rfl, hm.erase i0⟩) hk hnd hin (here_drpC x.1 names s i l) (by rw [below_drpC]; exact hemp rfl rfl) (fun k hk => below_drpF hk names s i l), rfl, rfl⟩
      · have h : ¬ (ws'.length : Int) = 0 := h
        repeat(first|refine Sc ?_|refine fun(_:Nat)=>?_)
        exact ⟨.tuple [], [(0, boxL (nodeL tT [ov] g (.any (.map (some gm))) wv gm gw (.obj (.map es cl)) ow (ks.set i0 (x.1, x.2.1, nodeL tI [] x.2.1 (.any (.map none)) (.sl 2 gw' Cp' ws'.length) gm' gw' .dead (.row tH 5 Cp' (ws'.map encH)) []))))], (FinOk.keep _ [0, 1, 2, 3, 5, 6, 7, 8] (Sub.refl _) (by decide) rfl).trans (FinOk.imp _ ((Imp.app (L := _ :: _ :: _ :: [_]) (.refl _) (Imp.box 0 _)).trans (Imp.close (Imp.kid (y := (x.1, x.2.1, nodeL tI [] x.2.1 (.any (.map none)) (.sl 2 gw' Cp' ws'.length) gm' gw' .dead (.row tH 5 Cp' (ws'.map encH)) [])) hi)))), _, nodeG (t := tT) (ex := [ov]) (gm := gm) (H' := nodeL tI [] x.2.1 (.any (.map none)) (.sl 2 gw' Cp' ws'.length) gm' gw' .dead (.row tH 5 Cp' (ws'.map encH)) []) hw hws hi (.inr ⟨rfl, es, cl, rfl, hm.same hi rfl rfl⟩) hk hnd hin (here_drpC x.1 names s i l) (by rw [below_drpC]; exact hkept (.inr (fun e => h (by rw [e]; rfl)))) (fun k hk => below_drpF hk names s i l) (by rw [below_drpC]; exact hNk), rfl, rfl⟩
  · repeat(first|refine Sc ?_|refine fun(_:Nat)=>?_)
    refine ⟨6, es', cl', rfl, ?_⟩
    repeat(first|refine Sc ?_|refine fun(_:Nat)=>?_)
    have hsz := hm'.len
    refine ⟨fun h => ?_, fun h => ?_⟩
    · have h : (es'.size : Int) = 0 := h
      obtain rfl := List.length_eq_zero_iff.1 (show ks'.length = 0 by omega)
      rcases hw' with ⟨rfl, rfl, rfl⟩ | ⟨Cp', rfl, rfl⟩
      · repeat(first|refine Sc ?_|refine fun(_:Nat)=>?_)
        refine ⟨fun _ => ?_, fun h => absurd rfl h⟩
        repeat(first|refine Sc ?_|refine fun(_:Nat)=>?_)
        refine Run.drawnK C_ok (aopC_sound C_ok) [0] [0, 1, 2, 3, 4, 5, 6, 7] (by kernel_rfl) ?_
        repeat(first|refine Sc ?_|refine fun(_:Nat)=>?_)
        refine ⟨hpos, ?_⟩
        repeat(first|refine Sc ?_|refine fun(_:Nat)=>?_)
        refine ⟨.str x.1, rfl, ?_⟩
        repeat(first|refine Sc ?_|refine fun(_:Nat)=>?_)
        refine ⟨1, es, cl, some (i0, valK x), rfl, hm.hit u9 keyKS hi, ?_⟩
        repeat(first|refine Sc ?_|refine fun(_:Nat)=>?_)
        exact ⟨.tuple [], [(0, boxL (nodeL tT [ov] g (.any (.map (some gm))) wv gm gw (.obj (.map (es.eraseIdxIfInBounds i0) cl)) ow (ks.eraseIdx i0)))], (FinOk.keep _ [0, 1, 2, 3] (Sub.refl _) (by decide) rfl).trans (FinOk.imp _ (.box 0 _)), _, nodeE hw hws hi (.inr ⟨rfl, _, _, rfl, hm.erase i0⟩) hk hnd hin (here_drpC x.1 names s i l) (by rw [below_drpC]; exact hemp rfl rfl) (fun k hk => below_drpF hk names s i l), rfl, rfl⟩
      · repeat(first|refine Sc ?_|refine fun(_:Nat)=>?_)
        refine ⟨fun h => ?_, fun h => ?_⟩
        · have h : (ws'.length : Int) = 0 := h
          obtain rfl := List.length_eq_zero_iff.1 (show ws'.length = 0 by omega)
          repeat(first|refine Sc ?_|refine fun(_:Nat)=>?_)
          refine Run.drawnK C_ok (aopC_sound C_ok) [0] [0, 1, 2, 3, 4, 5, 6, 7] (by kernel_rfl) ?_
          repeat(first|refine Sc ?_|refine fun(_:Nat)=>?_)
          refine ⟨hpos, ?_⟩
          repeat(first|refine Sc ?_|refine fun(_:Nat)=>?_)
          refine ⟨.str x.1, rfl, ?_⟩
          repeat(first|refine Sc ?_|refine fun(_:Nat)=>?_)
          refine ⟨1, es, cl, some (i0, valK x), rfl, hm.hit u9 keyKS hi, ?_⟩
          repeat(first|refine Sc ?_|refine fun(_:Nat)=>?_)
          exact ⟨.tuple [], [(0, boxL (nodeL tT [ov] g (.any (.map (some gm))) wv gm gw (.obj (.map (es.eraseIdxIfInBounds i0) cl)) ow (ks.eraseIdx i0)))], (FinOk.keep _ [0, 1, 2, 3] (Sub.refl _) (by decide) rfl).trans (FinOk.imp _ (.box 0 _)), _, nodeE hw hws hi (.inr ⟨rfl, _, _, rfl, hm.erase i0⟩) hk hnd hin (here_drpC x.1 names s i l) (by rw [below_drpC]; exact hemp rfl rfl) (fun k hk => below_drpF hk names s i l), rfl, rfl⟩
        · have h : ¬ (ws'.length : Int) = 0 := h
          repeat(first|refine Sc ?_|refine fun(_:Nat)=>?_)
          exact ⟨.tuple [], [(0, boxL (nodeL tT [ov] g (.any (.map (some gm))) wv gm gw (.obj (.map es cl)) ow (ks.set i0 (x.1, x.2.1, nodeL tI [] x.2.1 (.any (.map (some gm'))) (.sl 2 gw' Cp' ws'.length) gm' gw' (.obj (.map es' cl')) (.row tH 5 Cp' (ws'.map encH)) []))))], (FinOk.keep _ [0, 1, 2, 3, 5, 6, 7, 8] (Sub.refl _) (by decide) rfl).trans (FinOk.imp _ ((Imp.app (L := _ :: _ :: _ :: [_]) (.refl _) (Imp.box 0 _)).trans (Imp.close (Imp.kid (y := (x.1, x.2.1, nodeL tI [] x.2.1 (.any (.map (some gm'))) (.sl 2 gw' Cp' ws'.length) gm' gw' (.obj (.map es' cl')) (.row tH 5 Cp' (ws'.map encH)) [])) hi)))), _, nodeG (t := tT) (ex := [ov]) (gm := gm) (H' := nodeL tI [] x.2.1 (.any (.map (some gm'))) (.sl 2 gw' Cp' ws'.length) gm' gw' (.obj (.map es' cl')) (.row tH 5 Cp' (ws'.map encH)) []) hw hws hi (.inr ⟨rfl, es, cl, rfl, hm.same hi rfl rfl⟩) hk hnd hin (here_drpC x.1 names s i l) (by rw [below_drpC]; exact hkept (.inr (fun e => h (by rw [e]; rfl)))) (fun k hk => below_drpF hk names s i l) (by rw [below_drpC]; exact hNk), rfl, rfl⟩
    · have h : ¬ (es'.size : Int) = 0 := h
      repeat(first|refine Sc ?_|refine fun(_:Nat)=>?_)
      exact ⟨.tuple [], [(0, boxL (nodeL tT [ov] g (.any (.map (some gm))) wv gm gw (.obj (.map es cl)) ow (ks.set i0 (x.1, x.2.1, nodeL tI [] x.2.1 (.any (.map (some gm'))) wv' gm' gw' (.obj (.map es' cl')) ow' ks'))))], (FinOk.keep _ [0, 1, 2, 3, 5, 6, 7, 8] (Sub.refl _) (by decide) rfl).trans (FinOk.imp _ ((Imp.app (L := _ :: _ :: _ :: [_]) (.refl _) (Imp.box 0 _)).trans (Imp.close (Imp.kid (y := (x.1, x.2.1, nodeL tI [] x.2.1 (.any (.map (some gm'))) wv' gm' gw' (.obj (.map es' cl')) ow' ks')) hi)))), _, nodeG (t := tT) (ex := [ov]) (gm := gm) (H' := nodeL tI [] x.2.1 (.any (.map (some gm'))) wv' gm' gw' (.obj (.map es' cl')) ow' ks') hw hws hi (.inr ⟨rfl, es, cl, rfl, hm.same hi rfl rfl⟩) hk hnd hin (here_drpC x.1 names s i l) (by rw [below_drpC]; exact hkept (.inl (fun e => h (by rw [hsz, e]; rfl)))) (fun k hk => below_drpF hk names s i l) (by rw [below_drpC]; exact hNk), rfl, rfl⟩
theorem dropI (s i : Int) : ∀ (names : List ByteArray), names.length ≤ 100 → ∀ (l : NL) (g : Nat) (H : AHeap), IsN tI [] l g H → ∀ (o : On), (names, o) ∈ l → l.length ≤ 1000 →
    FnSpec C 35 [.ptr 0 g 0, rds names, .agg (tgC s i)] [(0, boxL H)] (fun r L' => ∃ H', IsN tI [] (drp names s i l) g H' ∧ r = .tuple [] ∧ L' = [(0, boxL H')])
  | [], _, l, g, H, hN, o, ho, hl => dropNilI s i l g H hN o ho hl
  | n :: names, hn, l, g, H, hN, o, ho, hl => dropConsI n names (by simp at hn; omega) s i (dropI s i names (by simp at hn; omega)) l g H hN o ho hl
theorem dropR (ov : AV) (s i : Int) (names : List ByteArray) (hn : names.length ≤ 100) (l : NL) (g : Nat) (H : AHeap) (hN : IsN tT [ov] l g H) (o : On) (ho : (names, o) ∈ l) (hl : l.length ≤ 1000) :
    FnSpec C 35 [.ptr 0 g 0, rds names, .agg (tgC s i)] [(0, boxL H)] (fun r L' => ∃ H', IsN tT [ov] (drp names s i l) g H' ∧ r = .tuple [] ∧ L' = [(0, boxL H')]) := by
  cases names with
  | nil => exact dropNilR ov s i l g H hN o ho hl
  | cons n names => exact dropConsR ov n names (by simp at hn; omega) s i (dropI s i names (by simp at hn; omega)) l g H hN o ho hl
end Go.Proofs.YtgpbppkmmlclfaaDoor.HBT
/- The trie in memory; a session's watches. -/
namespace Go.Proofs.YtgpbppkmmlclfaaDoor.HBT
open Go Go.Proofs.YtgpbppkmmlclfaaDoor.HB Go.RowKit
set_option maxRecDepth 8000

abbrev Sess := Int × Nat × Nat × List Wt
def keyS (x : Sess) : Value := .int .i64 x.1
def valS (x : Sess) : Value := .slice (some ⟨x.2.1, 0, none⟩) x.2.2.2.length x.2.2.1
abbrev MS := MapOk keyS valS
abbrev rowS (x : Sess) : Nat × AObj := (x.2.1, .row tW 4 x.2.2.1 (x.2.2.2.map encW))
def OfV (S : List Sess) (ofv : AV) (go : Nat) (oo : AObj) : Prop := (S = [] ∧ ofv = .any (.map none) ∧ oo = .dead) ∨ (ofv = .any (.map (some go)) ∧ ∃ es cl, oo = .obj (.map es cl) ∧ MS S es cl)
abbrev trieL (Hn : AHeap) (go : Nat) (oo : AObj) (S : List Sess) : AHeap := [(0, boxL Hn), (go, oo), (0, boxL (S.map rowS))]
abbrev TO (gt : Nat) (mv wv ofv : AV) (gm gw : Nat) (om ow : AObj) (ks : List Kid) (go : Nat) (oo : AObj) (S : List Sess) : AHeap := nodeL tT [ofv] gt mv wv gm gw om ow ks ++ [(go, oo), (0, boxL (S.map rowS))]
inductive IsT : List Sess → NL → Nat → AHeap → Prop where
  | mk (S : List Sess) (l : NL) (gt : Nat) (ofv : AV) (Hn : AHeap) (go : Nat) (oo : AObj) (hn : IsN tT [ofv] l gt Hn) (ho : OfV S ofv go oo) : IsT S l gt (trieL Hn go oo S)
theorem Imp.t_open (gt : Nat) (mv wv ofv : AV) (gm gw : Nat) (om ow : AObj) (ks : List Kid) (go : Nat) (oo : AObj) (S : List Sess) : Imp [(0, boxL (trieL (nodeL tT [ofv] gt mv wv gm gw om ow ks) go oo S))] (TO gt mv wv ofv gm gw om ow ks go oo S) :=
  (Imp.unbox 0 _).trans (Imp.app (L := [_]) (Imp.unbox 0 _) (.refl _))
theorem Imp.t_close (gt : Nat) (mv wv ofv : AV) (gm gw : Nat) (om ow : AObj) (ks : List Kid) (go : Nat) (oo : AObj) (S : List Sess) : Imp (TO gt mv wv ofv gm gw om ow ks go oo S) [(0, boxL (trieL (nodeL tT [ofv] gt mv wv gm gw om ow ks) go oo S))] :=
  (Imp.app (L' := [_]) (Imp.box 0 _) (.refl _)).trans (Imp.box 0 _)
theorem Imp.row_out {S : List Sess} {i : Nat} {x : Sess} (hx : S[i]? = some x) : Imp (S.map rowS) ((S.eraseIdx i).map rowS ++ [rowS x]) := by
  refine .perm ?_
  have := (erase_perm hx).map rowS
  rw [List.map_cons] at this
  exact this.trans (List.perm_append_comm (l₁ := [rowS x]) (l₂ := (S.eraseIdx i).map rowS))
theorem Imp.row_in {S : List Sess} {i : Nat} {x : Sess} (hx : S[i]? = some x) : Imp ((S.eraseIdx i).map rowS ++ [rowS x]) (S.map rowS) := by
  refine .perm ?_
  have := (erase_perm hx).map rowS
  rw [List.map_cons] at this
  exact (this.trans (List.perm_append_comm (l₁ := [rowS x]) (l₂ := (S.eraseIdx i).map rowS))).symm
theorem u3 : C.P.underlying 3 = some (.int .i64) := Tryd.underlying3
theorem keySS (x : Sess) : MapKept.IsKey (.int .i64) (keyS x) := rfl
def ofS (S : List Sess) (s : Int) : List Wt := ((S.find? fun x => x.1 == s).map (·.2.2.2)).getD []
abbrev TR (gt : Nat) (mv wv ofv : AV) (gm gw : Nat) (om ow : AObj) (ks : List Kid) (go : Nat) (oo : AObj) (S : List Sess) (i : Nat) (x : Sess) : AHeap := nodeL tT [ofv] gt mv wv gm gw om ow ks ++ [(go, oo), (0, boxL ((S.eraseIdx i).map rowS)), rowS x]
theorem Imp.r_open (gt : Nat) (mv wv ofv : AV) (gm gw : Nat) (om ow : AObj) (ks : List Kid) (go : Nat) (oo : AObj) {S : List Sess} {i : Nat} {x : Sess} (hx : S[i]? = some x) : Imp (TO gt mv wv ofv gm gw om ow ks go oo S) (TR gt mv wv ofv gm gw om ow ks go oo S i x) :=
  Imp.pick (k := 5) rfl (Imp.row_out hx)
theorem Imp.r_close (gt : Nat) (mv wv ofv : AV) (gm gw : Nat) (om ow : AObj) (ks : List Kid) (go : Nat) (oo : AObj) {S : List Sess} {i : Nat} {x : Sess} (hx : S[i]? = some x) : Imp (TR gt mv wv ofv gm gw om ow ks go oo S i x) (TO gt mv wv ofv gm gw om ow ks go oo S) :=
  Imp.app (L := _ :: _ :: _ :: _ :: [_]) (L' := _ :: _ :: _ :: _ :: [_]) (.refl _) (((Imp.app (Imp.unbox 0 _) (.refl [rowS x])).trans (Imp.row_in hx)).trans (.box 0 _))
theorem MS.hit {S : List Sess} {es : Array MapEntry} {cl i : Nat} {x : Sess} (hm : MS S es cl) (hx : S[i]? = some x) : findAt C.P 3 (.int .i64 x.1) es.toList = some (some (i, valS x)) := MapOk.hit (d := .int .i64) u3 keySS hm hx
theorem MS.none {S : List Sess} {es : Array MapEntry} {cl : Nat} (hm : MS S es cl) (s : Int) (hf : ∀ x ∈ S, x.1 ≠ s) : findAt C.P 3 (.int .i64 s) es.toList = some none :=
  MapOk.miss (d := .int .i64) u3 keySS hm (kv := .int .i64 s) (show MapKept.IsKey (.int .i64) (.int .i64 s) from rfl) (fun x hx e => hf x hx (Value.int.inj e).2)
theorem ofS_none {S : List Sess} {s : Int} (hf : ∀ x ∈ S, x.1 ≠ s) : ofS S s = [] := by
  unfold ofS
  rw [List.find?_eq_none.2 (fun x hx => by simpa using hf x hx)]; rfl
theorem MS.nodup {S : List Sess} {es : Array MapEntry} {cl : Nat} (hm : MS S es cl) : (S.map (·.1)).Nodup := by
  have := hm.keys
  have e : S.map keyS = (S.map (·.1)).map (fun s => Value.int .i64 s) := by rw [List.map_map]; rfl
  rw [e] at this
  exact (List.pairwise_map.1 this).imp fun h e => h (congrArg _ e)
theorem ofS_hit : ∀ {S : List Sess} {i : Nat} {x : Sess}, (S.map (·.1)).Nodup → S[i]? = some x → ofS S x.1 = x.2.2.2
  | [], _, _, _, h => by simp at h
  | y :: S, 0, x, _, h => by
    simp at h; subst h
    unfold ofS; simp
  | y :: S, i + 1, x, hn, h => by
    rw [List.map_cons, List.nodup_cons] at hn
    have h : S[i]? = some x := by simpa using h
    have hne : y.1 ≠ x.1 := fun e => hn.1 (List.mem_map.2 ⟨x, List.mem_of_getElem? h, e.symm⟩)
    have := ofS_hit hn.2 h
    unfold ofS at this ⊢
    rw [List.find?_cons_of_neg (by simpa using hne)]
    exact this
theorem scalW (g Cp : Nat) (l : List Wt) : scalL [(g, .row tW 4 Cp (l.map encW))] = true := by
  have : (flats (l.map encW)).all scal = true := by
    rw [List.all_eq_true]
    intro y hy
    unfold flats at hy
    rw [List.mem_flatMap] at hy
    obtain ⟨z, hz, hy⟩ := hy
    obtain ⟨x, _, rfl⟩ := List.mem_map.1 hz
    simp [flat] at hy
    rcases hy with rfl | rfl | rfl | rfl <;> rfl
  simp [scalL, scalO, this]
set_option maxHeartbeats 2000000 in
theorem of_spec (S : List Sess) (l : NL) (gt : Nat) (H : AHeap) (hT : IsT S l gt H) (s : Int) (hl : ∀ x ∈ S, x.2.2.2 ≠ [] ∧ x.2.2.2.length ≤ 1000) :
    FnSpec C 14 [.ptr 0 gt 0, .int .i64 s] [(0, boxL H)] (fun r L' => ∃ g o, LN encW tW 4 1 (ofS S s) r g o ∧ L' = [(0, boxL H), (g, o)]) := by
  obtain ⟨ofv, Hn, go, oo, hN, ho⟩ := hT
  obtain ⟨_, _, _, _, mv, wv, gm, gw, om, ow, ws, ks, hw, hws, hm, hk, hnd, hin⟩ := hN
  by_cases hs : ∃ x ∈ S, x.1 = s
  · obtain ⟨x, hx, rfl⟩ := hs
    obtain ⟨i, hi⟩ := List.mem_iff_getElem?.1 hx
    rcases ho with ⟨rfl, _, _⟩ | ⟨rfl, es, cl, rfl, ho⟩
    · cases hx
    refine FnSpec.imp ((Imp.t_open gt mv wv _ gm gw om ow ks go _ S).trans (Imp.r_open gt mv wv _ gm gw om ow ks go _ hi)) ?_
    refine FnSpec.start C_ok Tryd.func14 rfl rfl Tryd.ntmps14 ?_
    repeat(first|refine Sc ?_|refine fun(_:Nat)=>?_)
    refine ⟨4, es, cl, some (i, valS x), by decide, rfl, ho.hit hi, ?_⟩
    repeat(first|refine Sc ?_|refine fun(_:Nat)=>?_)
    refine ⟨.sl 6 x.2.1 x.2.2.1 x.2.2.2.length, rfl, ?_⟩
    repeat(first|refine Sc ?_|refine fun(_:Nat)=>?_)
    obtain ⟨hne, hle⟩ := hl x hx
    refine ACallT.lendD [.ro 4 (x.2.2.2.map encW) x.2.2.2.length] _ (.one (.row 6 _ _ _ tW 4 _ rfl (by simp))) (cloneW_spec x.2.2.2 x.2.2.2.length (Nat.le_refl _) hle) ?_
    rintro r L' (⟨g', Cp', rfl, rfl⟩ | ⟨hnil, rfl, rfl⟩)
    · refine ⟨rfl, scalW _ _ _, _, Sub.refl _, ?_⟩
      rw [List.take_length]
      repeat(first|refine Sc ?_|refine fun(_:Nat)=>?_)
      refine ⟨.sl 1 g' Cp' x.2.2.2.length, _, (FinOk.keep _ [0, 1, 2, 3, 4, 5, 6, 7] (Sub.sl _ _ _ _ _) (by decide) rfl).trans (FinOk.imp _ (Imp.app (L := TR gt mv wv _ gm gw om ow ks go _ S i x) (L' := [_]) (M := [_]) (M' := [_]) ((Imp.r_close gt mv wv _ gm gw om ow ks go _ hi).trans (Imp.t_close gt mv wv _ gm gw om ow ks go _ S)) (.refl _))), g', .row tW 4 Cp' (x.2.2.2.map encW), .inr ⟨Cp', ?_, ?_⟩, rfl⟩
      · rw [ofS_hit ho.nodup hi]
      · rw [ofS_hit ho.nodup hi]
    · exact absurd hnil hne
  · have hf : ∀ x ∈ S, x.1 ≠ s := fun x hx e => hs ⟨x, hx, e⟩
    refine FnSpec.imp (Imp.t_open gt mv wv _ gm gw om ow ks go oo S) ?_
    rcases ho with ⟨rfl, rfl, rfl⟩ | ⟨rfl, es, cl, rfl, ho⟩
    · refine FnSpec.start C_ok Tryd.func14 rfl rfl Tryd.ntmps14 ?_
      repeat(first|refine Sc ?_|refine fun(_:Nat)=>?_)
      refine ACallT.lendD [.ro 4 ([].map encW) 0] _ (.one (.nils 4)) (cloneW_spec [] 0 (Nat.le_refl _) (by decide)) ?_
      rintro r L' (⟨g', Cp', rfl, rfl⟩ | ⟨_, rfl, rfl⟩)
      · refine ⟨rfl, scalW _ _ _, _, Sub.refl _, ?_⟩
        repeat(first|refine Sc ?_|refine fun(_:Nat)=>?_)
        refine ⟨.sl 1 g' Cp' 0, _, (FinOk.keep _ [0, 1, 2, 3, 4, 5, 6] (Sub.sl _ _ _ _ _) (by decide) rfl).trans (FinOk.imp _ (Imp.app (L := TO gt mv wv _ gm gw om ow ks go _ _) (L' := [_]) (M := [_]) (M' := [_]) (Imp.t_close gt mv wv _ gm gw om ow ks go _ _) (.refl _))), g', .row tW 4 Cp' [], .inr ⟨Cp', ?_, ?_⟩, rfl⟩
        · rw [ofS_none hf]; rfl
        · rw [ofS_none hf]; rfl
      · refine ⟨rfl, rfl, _, Sub.refl _, ?_⟩
        repeat(first|refine Sc ?_|refine fun(_:Nat)=>?_)
        exact ⟨.nils, _, (FinOk.keep _ [0, 1, 2, 3, 4, 5] (Sub.refl _) (by decide) rfl).trans (FinOk.imp _ ((Imp.t_close gt mv wv _ gm gw om ow ks go _ _).trans ((Imp.dead 0 _).trans (.perm (List.Perm.swap _ _ []))))), 0, .dead, .inl ⟨ofS_none hf, rfl, rfl⟩, rfl⟩
    · refine FnSpec.start C_ok Tryd.func14 rfl rfl Tryd.ntmps14 ?_
      repeat(first|refine Sc ?_|refine fun(_:Nat)=>?_)
      refine ⟨4, es, cl, none, by decide, rfl, ho.none s hf, ?_⟩
      repeat(first|refine Sc ?_|refine fun(_:Nat)=>?_)
      refine ACallT.lendD [.ro 4 ([].map encW) 0] _ (.one (.nils 4)) (cloneW_spec [] 0 (Nat.le_refl _) (by decide)) ?_
      rintro r L' (⟨g', Cp', rfl, rfl⟩ | ⟨_, rfl, rfl⟩)
      · refine ⟨rfl, scalW _ _ _, _, Sub.refl _, ?_⟩
        repeat(first|refine Sc ?_|refine fun(_:Nat)=>?_)
        refine ⟨.sl 1 g' Cp' 0, _, (FinOk.keep _ [0, 1, 2, 3, 4, 5, 6] (Sub.sl _ _ _ _ _) (by decide) rfl).trans (FinOk.imp _ (Imp.app (L := TO gt mv wv _ gm gw om ow ks go _ _) (L' := [_]) (M := [_]) (M' := [_]) (Imp.t_close gt mv wv _ gm gw om ow ks go _ _) (.refl _))), g', .row tW 4 Cp' [], .inr ⟨Cp', ?_, ?_⟩, rfl⟩
        · rw [ofS_none hf]; rfl
        · rw [ofS_none hf]; rfl
      · refine ⟨rfl, rfl, _, Sub.refl _, ?_⟩
        repeat(first|refine Sc ?_|refine fun(_:Nat)=>?_)
        exact ⟨.nils, _, (FinOk.keep _ [0, 1, 2, 3, 4, 5] (Sub.refl _) (by decide) rfl).trans (FinOk.imp _ ((Imp.t_close gt mv wv _ gm gw om ow ks go _ _).trans ((Imp.dead 0 _).trans (.perm (List.Perm.swap _ _ []))))), 0, .dead, .inl ⟨ofS_none hf, rfl, rfl⟩, rfl⟩
end Go.Proofs.YtgpbppkmmlclfaaDoor.HBT
