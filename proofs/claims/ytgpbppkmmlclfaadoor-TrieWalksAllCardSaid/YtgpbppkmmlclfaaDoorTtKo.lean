/- All watches below an inner node are gathered. -/
import Derived.Test.YtgpbppkmmlclfaaDoorTtK8
import Derived.Test.YtgpbppkmmlclfaaDoorHbZq
set_option linter.unusedVariables false
set_option linter.unusedSimpArgs false
namespace Go.Proofs.YtgpbppkmmlclfaaDoor.HBT
open Go Go.Proofs.YtgpbppkmmlclfaaDoor.HB Go.RowKit
set_option maxRecDepth 8000

def valsN (l : NL) : List On := l.map (·.2)
theorem flat_one {H : List ByteArray} (hn : H.Nodup) {m : ByteArray} (hm : m ∈ H) {f f' : ByteArray → List On} {o : On} (h1 : f' m = o :: f m) (h2 : ∀ n, m ≠ n → f' n = f n) : (H.flatMap f').Perm (o :: H.flatMap f) := by
  induction H with
  | nil => cases hm
  | cons x H ih =>
    rw [List.nodup_cons] at hn
    rw [List.flatMap_cons, List.flatMap_cons]
    by_cases e : m = x
    · subst e
      have e2 : H.flatMap f' = H.flatMap f := by
        rw [List.flatMap_def, List.flatMap_def]
        congr 1
        exact List.map_congr_left fun n hn2 => h2 n fun e => hn.1 (e ▸ hn2)
      rw [h1, e2]
      exact List.Perm.refl _
    · rw [h2 x e]
      rcases List.mem_cons.1 hm with e2 | hm
      · exact absurd e2 e
      · exact (List.Perm.append_left _ (ih hn.2 hm)).trans List.perm_middle
theorem all_heads : ∀ l : NL, (hereN l ++ (heads l).flatMap fun n => valsN (belowN l n)).Perm (valsN l)
  | [] => List.Perm.refl _
  | ([], o) :: l => by
    have ih := all_heads l
    have e : heads (([], o) :: l) = heads l := rfl
    rw [here_0, e]
    have e2 : (fun n => valsN (belowN (([], o) :: l) n)) = fun n => valsN (belowN l n) := funext fun n => by rw [below_0]
    rw [e2]
    exact ih.cons o
  | (m :: r, o) :: l => by
    have ih := all_heads l
    rw [here_C]
    have hv : valsN ((m :: r, o) :: l) = o :: valsN l := rfl
    rw [hv]
    have h1 : valsN (belowN ((m :: r, o) :: l) m) = o :: valsN (belowN l m) := by rw [below_C]; rfl
    have h2 : ∀ n, m ≠ n → valsN (belowN ((m :: r, o) :: l) n) = valsN (belowN l n) := fun n hn => by rw [below_F hn]
    by_cases hm : m ∈ heads l
    · have e : heads ((m :: r, o) :: l) = heads l := by
        simp only [heads]; rw [if_pos hm]
      rw [e]
      exact ((List.Perm.append_left _ (flat_one (heads_nodup l) hm h1 h2)).trans List.perm_middle).trans (ih.cons o)
    · have e : heads ((m :: r, o) :: l) = m :: heads l := by
        simp only [heads]; rw [if_neg hm]
      have h0 : belowN l m = [] := Decidable.byContradiction fun hne => hm ((heads_mem m l).2 hne)
      rw [e, List.flatMap_cons, h1, h0]
      have e3 : ((heads l).flatMap fun n => valsN (belowN ((m :: r, o) :: l) n)) = (heads l).flatMap fun n => valsN (belowN l n) := by
        rw [List.flatMap_def, List.flatMap_def]
        congr 1
        exact List.map_congr_left fun n hn2 => h2 n fun e => hm (e ▸ hn2)
      rw [e3]
      exact List.perm_middle.trans (ih.cons o)
def valsK (l : NL) (V : List Kid) : List On := V.flatMap fun x => valsN (belowN l x.1)
theorem valsK_all {l : NL} {ks V : List Kid} {ws : List On} (hws : ws.Perm (hereN l)) (hk : ∀ n, (∃ x ∈ ks, x.1 = n) ↔ belowN l n ≠ []) (hnd : (ks.map (·.1)).Nodup) (hV : V.Perm ks) : (ws ++ valsK l V).Perm (valsN l) := by
  refine (List.Perm.append hws ?_).trans (all_heads l)
  have h1 := ((hV.map (·.1)).trans (kids_perm hk hnd)).flatMap_right fun n => valsN (belowN l n)
  rw [List.flatMap_map] at h1
  exact h1
theorem valsK_snoc (l : NL) (V : List Kid) (x : Kid) : valsK l (V ++ [x]) = valsK l V ++ valsN (belowN l x.1) := by unfold valsK; simp
theorem valsN_len (l : NL) : (valsN l).length = l.length := by unfold valsN; rw [List.length_map]
theorem perm_rest {n : Nat} {idx : List Nat} (h1 : idx.Nodup) (h2 : ∀ i ∈ idx, i < n) : ∃ rest, (idx ++ rest).Perm (List.range n) := by
  refine ⟨(List.range n).filter fun i => !decide (i ∈ idx), (List.perm_ext_iff_of_nodup ?_ List.nodup_range).2 fun a => ?_⟩
  · rw [List.nodup_append]
    refine ⟨h1, List.Nodup.sublist List.filter_sublist List.nodup_range, fun a ha b hb e => ?_⟩
    subst e
    have := (List.mem_filter.1 hb).2
    simp [ha] at this
  · rw [List.mem_append, List.mem_filter, List.mem_range]
    constructor
    · rintro (h | h)
      · exact h2 a h
      · exact h.1
    · intro h
      by_cases e : a ∈ idx
      · exact .inl e
      · exact .inr ⟨h, by simp [e]⟩
theorem visited_rest {α : Type} {M : List α} {es : Array MapEntry} {seen : Array Nat} {V : List α} (h : Visited M es seen V) : ∃ W, (V ++ W).Perm M := by
  obtain ⟨idx, h1, h2, _, h4⟩ := h
  obtain ⟨rest, hr⟩ := perm_rest h1 h2
  have h5 := hr.filterMap fun i => M[i]?
  have e1 : (List.range M.length).filterMap (fun i => M[i]?) = M := by
    have : ∀ (l m : List α), (List.range' m.length l.length).filterMap (fun i => (m ++ l)[i]?) = l := by
      intro l
      induction l with
      | nil => intro m; rfl
      | cons x l ih =>
        intro m
        have h1 := ih (m ++ [x])
        rw [List.length_append, List.length_singleton, List.append_assoc, List.singleton_append] at h1
        rw [List.length_cons, List.range'_succ, List.filterMap_cons, List.getElem?_append_right (Nat.le_refl _), Nat.sub_self]
        rw [h1]; rfl
    have h2 := this M []
    rw [List.range_eq_range']
    simpa using h2
  have e2 : idx.filterMap (fun i => M[i]?) = V := by
    have h6 : (idx.map fun i => M[i]?).filterMap id = (V.map some).filterMap id := by rw [h4]
    rw [List.filterMap_map, List.filterMap_map] at h6
    simpa using h6
  rw [List.filterMap_append, e1, e2] at h5
  exact ⟨_, h5⟩
theorem valsK_le {l : NL} {ks V : List Kid} {es : Array MapEntry} {seen : Array Nat} (h : Visited ks es seen V) : (valsK l V).length ≤ (valsK l ks).length := by
  obtain ⟨W, hW⟩ := visited_rest h
  have := (hW.flatMap_right fun x => valsN (belowN l x.1)).length_eq
  unfold valsK
  rw [← this, List.flatMap_append, List.length_append]
  omega
theorem LN.re {α : Type} {e : α → AV} {t : TypeId} {sz k : Nat} {l : List α} {v : AV} {g : Nat} {o : AObj} (h : LN e t sz k l v g o) (k' : Nat) : ∃ v', LN e t sz k' l v' g o ∧ Sub v v' ∧ Sub v' v := by
  rcases h with ⟨h1, rfl, h3⟩ | ⟨Cp, rfl, h3⟩
  · exact ⟨_, .inl ⟨h1, rfl, h3⟩, Sub.refl _, Sub.refl _⟩
  · exact ⟨.sl k' g Cp l.length, .inr ⟨Cp, rfl, h3⟩, Sub.sl _ _ _ _ _, Sub.sl _ _ _ _ _⟩
theorem Imp.back2 {E F : AHeap} {kb : Nat × AObj} (a it : Nat × AObj) (h : Imp (E ++ [kb]) F) : Imp [(0, boxL E), a, it, kb] [(0, boxL F), a, it] :=
  (Imp.perm (List.Perm.cons _ (List.perm_append_comm (l₁ := [a, it]) (l₂ := [kb])))).trans (Imp.app (L := [_, _]) (M := [a, it]) (((Imp.app (M := [kb]) (Imp.unbox 0 E) (.refl _)).trans h).trans (.box 0 F)) (.refl _))
set_option maxHeartbeats 4000000 in
theorem allStepI (d : Nat) (ih : ∀ (l : NL) (g : Nat) (H : AHeap), IsN tI [] l g H → l ≠ [] → (∀ x ∈ l, x.1.length < d) → ∀ (acc : List On) (v : AV) (ga : Nat) (oa : AObj), LH 1 acc v ga oa → acc.length + l.length ≤ 1000 → FnSpec C 40 [.ptr 0 g 0, v] [(0, boxL H), (ga, oa)] (fun r L' => ∃ acc' g' o', acc'.Perm (acc ++ valsN l) ∧ LH 1 acc' r g' o' ∧ L' = [(0, boxL H), (g', o')]))
    (l : NL) (g : Nat) (H : AHeap) (hN : IsN tI [] l g H) (hd1 : ∀ x ∈ l, x.1.length < d + 1) (acc : List On) (v : AV) (ga : Nat) (oa : AObj) (hv : LH 1 acc v ga oa) (hl : acc.length + l.length ≤ 1000) :
    FnSpec C 40 [.ptr 0 g 0, v] [(0, boxL H), (ga, oa)] (fun r L' => ∃ acc' g' o', acc'.Perm (acc ++ valsN l) ∧ LH 1 acc' r g' o' ∧ L' = [(0, boxL H), (g', o')]) := by
  obtain ⟨v4, hv4, hs4, hx4⟩ := hv.re 4
  obtain ⟨_, _, _, _, mv, wv, gm, gw, om, ow, ws, ks, hw, hws, hm, hk, hnd, hin⟩ := hN
  have hwl : ws.length ≤ l.length := by rw [hws.length_eq]; exact here_len l
  have hkl : ks.length ≤ 1000 := by
    have h1 := (kids_perm hk hnd).length_eq
    have h2 := heads_len l
    rw [List.length_map] at h1
    omega
  refine FnSpec.imp (Imp.app (L := [_]) (M := [_]) (M' := [_]) (.unbox _ _) (.refl _)) ?_
  refine FnSpec.start C_ok Tryd.func40 rfl rfl Tryd.ntmps40 ?_
  repeat(first|refine Za ?_|refine Zb ?_|refine Zy rfl ?_|refine Z2 rfl ?_|refine Z3 ?_|refine fun(_:Nat)=>?_|refine Run.goN rfl ?_|refine Zo rfl ?_)
  refine Run.textA C_ok (aopC_sound C_ok) ?_
  repeat(first|refine Za ?_|refine Zb ?_|refine Zy rfl ?_|refine Z2 rfl ?_|refine Z3 ?_|refine fun(_:Nat)=>?_|refine Run.goN rfl ?_|refine Zo rfl ?_)
  refine Run.join0 C_ok (fun env L => ∃ (v : AV) (ga : Nat) (oa : AObj), LH 4 (acc ++ ws) v ga oa ∧ env = [.ptr 0 g 0, v, .junk, .junk, .nils, .junk, .junk, .junk, .junk, .junk, .junk, .junk, .junk, .junk, .junk, .junk, .junk, .junk, .junk, .junk, .junk, .junk, .junk, .junk, .junk, .junk] ∧ L = [(g, .cells tI ([mv, wv] ++ [])), (gm, om), (gw, ow), (0, boxL (ks.map kidB)), (ga, oa)]) ?_ ?_
  · refine Run.weak0 C_ok (env1 := [.ptr 0 g 0, v4, .junk, .junk, .nils, .junk, .junk, .junk, .junk, .junk, .junk, .junk, .junk, .junk, .junk, .junk, .junk, .junk, .junk, .junk, .junk, .junk, .junk, .junk, .junk, .junk]) (Weak.imp ?_ (Imp.refl _)) ?_
    · exact ⟨Sub.refl _, hs4, Sub.refl _, Sub.refl _, Sub.refl _, Subs.refl _⟩
    rcases hw with ⟨rfl, rfl, rfl⟩ | ⟨Cw, rfl, rfl⟩
    · rcases hv4 with ⟨rfl, rfl, rfl⟩ | ⟨Ca, rfl, rfl⟩
      · repeat(first|refine Sc ?_|refine fun(_:Nat)=>?_)
        refine ⟨fun _ => ?_, fun h => absurd rfl h⟩
        repeat(first|refine Sc ?_|refine fun(_:Nat)=>?_)
        refine ⟨_, _, Weak.sel ?_ [0, 1, 2, 3, 4] (by decide) ?_, ⟨.nils, ga, .dead, .inl ⟨rfl, rfl, rfl⟩, rfl, rfl⟩⟩
        · exact Ss
        · exact Sl
      · repeat(first|refine Sc ?_|refine fun(_:Nat)=>?_)
        refine ⟨by simp, ?_⟩
        repeat(first|refine Sc ?_|refine fun(_:Nat)=>?_)
        refine ⟨by rw [List.length_map]; show (_ + 0) * 48 ≤ _; omega, ?_⟩
        repeat(first|refine Sc ?_|refine fun(_:Nat)=>?_)
        rename_i g' Cp'
        refine ⟨_, _, Weak.sel ?_ [0, 1, 2, 3, 4] (by decide) ?_, ⟨.sl 4 g' Cp' ((acc.map encH).length + ([] : List AV).length), g', .row tH 5 Cp' (acc.map encH ++ []), .inr ⟨Cp', by simp, by simp⟩, rfl, rfl⟩⟩
        · exact Ss
        · exact Sl
    · have htk : List.take ws.length (ws.map encH) = ws.map encH := List.take_of_length_le (by simp)
      rcases hv4 with ⟨rfl, rfl, rfl⟩ | ⟨Ca, rfl, rfl⟩
      · repeat(first|refine Sc ?_|refine fun(_:Nat)=>?_)
        refine ⟨by simp, ?_⟩
        repeat(first|refine Sc ?_|refine fun(_:Nat)=>?_)
        rw [htk]
        refine ⟨by rw [List.length_map]; omega, fun he => ?_, fun hne g' Cp' => ?_⟩
        · repeat(first|refine Sc ?_|refine fun(_:Nat)=>?_)
          obtain rfl : ws = [] := List.map_eq_nil_iff.1 he
          refine ⟨_, _, Weak.sel ?_ [0, 1, 2, 3, 4] (by decide) ?_, ⟨.nils, ga, .dead, .inl ⟨rfl, rfl, rfl⟩, rfl, rfl⟩⟩
          · exact Ss
          · exact Sl
        · repeat(first|refine Sc ?_|refine fun(_:Nat)=>?_)
          refine ⟨_, _, Weak.sel ?_ [0, 1, 2, 3, 5] (by decide) ?_, ⟨.sl 4 g' Cp' (ws.map encH).length, g', .row tH 5 Cp' (ws.map encH), .inr ⟨Cp', by simp, rfl⟩, rfl, rfl⟩⟩
          · exact Ss
          · exact Sl
      · repeat(first|refine Sc ?_|refine fun(_:Nat)=>?_)
        refine ⟨by simp, ?_⟩
        repeat(first|refine Sc ?_|refine fun(_:Nat)=>?_)
        rw [htk]
        refine ⟨by simp, ?_⟩
        repeat(first|refine Sc ?_|refine fun(_:Nat)=>?_)
        refine ⟨by rw [List.length_map, List.length_map]; omega, ?_⟩
        repeat(first|refine Sc ?_|refine fun(_:Nat)=>?_)
        rename_i g' Cp'
        refine ⟨_, _, Weak.sel ?_ [0, 1, 2, 3, 4] (by decide) ?_, ⟨.sl 4 g' Cp' ((acc.map encH).length + (ws.map encH).length), g', .row tH 5 Cp' (acc.map encH ++ ws.map encH), .inr ⟨Cp', by simp, by simp⟩, rfl, rfl⟩⟩
        · exact Ss
        · exact Sl
  clear hv hv4 hs4 hx4 v4 ga oa v
  rintro env L ⟨v, ga, oa, hv, rfl, rfl⟩
  repeat(first|refine Sc ?_|refine fun(_:Nat)=>?_)
  rcases hm with ⟨rfl, rfl, rfl⟩ | ⟨rfl, es, cl, rfl, hm⟩
  · have hz : (acc ++ ws).Perm (acc ++ valsN l) := List.Perm.append_left _ (by have := valsK_all hws hk hnd (List.Perm.refl []); simpa [valsK] using this)
    intro gi
    repeat(first|refine Sc ?_|refine fun(_:Nat)=>?_)
    refine Run.loop (fun k env L => k = 0 ∧ env = [.ptr 0 g 0, v, .junk, .junk, .nils, .junk, .junk, .junk, .junk, .junk, .junk, .junk, .junk, .junk, .junk, .junk, .junk, .ptr 5 gi 0, .junk, .junk, .junk, .junk, .junk, .junk, .junk, .junk] ∧ L = [(g, .cells tI ([.any (.map none), wv] ++ [])), (gm, .dead), (gw, ow), (0, boxL (([] : List Kid).map kidB)), (ga, oa), (gi, .obj (.mapIter none 0 #[] 0))]) 0
      [.ptr 0 g 0, v, .junk, .junk, .nils, .junk, .junk, .junk, .junk, .junk, .junk, .junk, .junk, .junk, .junk, .junk, .junk, .ptr 5 gi 0, .junk, .junk, .junk, .junk, .junk, .junk, .junk, .junk] ?_ ⟨rfl, rfl, rfl⟩ ?_
    · repeat(first|exact trivial|refine ⟨.inl rfl, ?_⟩|refine ⟨.inr rfl, ?_⟩)
    rintro k env L ⟨rfl, rfl, rfl⟩
    repeat(first|refine Sc ?_|refine fun(_:Nat)=>?_)
    obtain ⟨v1, hv1, hs1, _⟩ := hv.re 1
    exact ⟨v1, [(0, boxL (nodeL tI [] g (.any (.map none)) wv gm gw .dead ow [])), (ga, oa)], (FinOk.keep _ [0, 1, 2, 3, 4] hs1 (by decide) rfl).trans (FinOk.imp _ (Imp.app (L := _ :: _ :: _ :: [_]) (L' := [_]) (M := [_]) (M' := [_]) (.box 0 _) (.refl _))), acc ++ ws, ga, oa, hz, hv1, rfl⟩
  · refine ⟨1, es, cl, rfl, ?_⟩
    repeat(first|refine Sc ?_|refine fun(_:Nat)=>?_)
    rename_i gi
    refine Run.loopW (fun k env L => ∃ (V : List Kid) (seen : Array Nat) (acc' : List On) (v : AV) (ga : Nat) (oa : AObj), k = ks.length - V.length ∧ Visited ks es seen V ∧ acc'.Perm ((acc ++ ws) ++ valsK l V) ∧ LH 4 acc' v ga oa ∧ env = [.ptr 0 g 0, v, .junk, .junk, .nils, .junk, .junk, .junk, .junk, .junk, .junk, .junk, .junk, .junk, .junk, .junk, .junk, .ptr 5 gi 0, .junk, .junk, .junk, .junk, .junk, .junk, .junk, .junk] ∧ L = [(g, .cells tI ([.any (.map (some gm)), wv] ++ [])), (gm, .obj (.map es cl)), (gw, ow), (0, boxL (ks.map kidB)), (ga, oa), (gi, .obj (.mapIter (some gm) cl seen cl))]) ks.length
      [.ptr 0 g 0, v, .junk, .junk, .nils, .junk, .junk, .junk, .junk, .junk, .junk, .junk, .junk, .junk, .junk, .junk, .junk, .ptr 5 gi 0, .junk, .junk, .junk, .junk, .junk, .junk, .junk, .junk] [(g, .cells tI ([.any (.map (some gm)), wv] ++ [])), (gm, .obj (.map es cl)), (gw, ow), (0, boxL (ks.map kidB)), (ga, oa), (gi, .obj (.mapIter (some gm) cl #[] cl))] (Weak.sel ?_ [0, 1, 2, 3, 4, 5] (by decide) ?_)
      ⟨[], #[], acc ++ ws, v, ga, oa, by simp, Visited.start, by simp [valsK], hv, rfl, rfl⟩ ?_
    · exact Ss
    · exact Sl
    clear hv v ga oa
    rintro k env L ⟨V, seen, acc', v, ga, oa, rfl, hV, hacc, hv, rfl, rfl⟩
    repeat(first|refine Sc ?_|refine fun(_:Nat)=>?_)
    refine ⟨1, es, cl, rfl, hm.old, Nat.le_refl _, fun h0 => ?_, fun e he => ?_⟩
    · have hVM := hV.stop hm h0
      repeat(first|refine Sc ?_|refine fun(_:Nat)=>?_)
      obtain ⟨v1, hv1, hs1, _⟩ := hv.re 1
      exact ⟨v1, [(0, boxL (nodeL tI [] g (.any (.map (some gm))) wv gm gw (.obj (.map es cl)) ow ks)), (ga, oa)], (FinOk.keep _ [0, 1, 2, 3, 4] hs1 (by decide) rfl).trans (FinOk.imp _ (Imp.app (L := _ :: _ :: _ :: [_]) (L' := [_]) (M := [_]) (M' := [_]) (.box 0 _) (.refl _))), acc', ga, oa, hacc.trans (by rw [List.append_assoc]; exact List.Perm.append_left _ (valsK_all hws hk hnd hVM)), hv1, rfl⟩
    · obtain ⟨x, hx, ek, ev, hV', hlt⟩ := hV.step hm he
      refine ⟨.str x.1, .ptr 3 x.2.1 0, by rw [ek]; rfl, by rw [ev]; rfl, ?_⟩
      repeat(first|refine Sc ?_|refine fun(_:Nat)=>?_)
      refine ⟨1, es, seen, e, rfl, rfl, leftOf_mem he, hm.born, .str x.1, .ptr 3 x.2.1 0, by rw [ek]; rfl, by rw [ev]; rfl, ?_⟩
      repeat(first|refine Za ?_|refine Zb ?_|refine Zy rfl ?_|refine Z2 rfl ?_|refine Z3 ?_|refine fun(_:Nat)=>?_|refine Run.goN rfl ?_|refine Zo rfl ?_)
      obtain ⟨i, hi⟩ := List.mem_iff_getElem?.1 hx
      refine Run.weak0 C_ok (Weak.imp (Subs.refl _) (Imp.pick (k := 3) rfl (Imp.kid_out hi))) ?_
      repeat(first|refine Sc ?_|refine fun(_:Nat)=>?_)
      obtain ⟨v1, hv1, hs1, _⟩ := hv.re 1
      have hlen : acc'.length + (belowN l x.1).length ≤ 1000 := by
        have h1 := hacc.length_eq
        have h2 := (valsK_all hws hk hnd (List.Perm.refl ks)).length_eq
        have h3 := valsK_le (l := l) hV'
        rw [valsK_snoc, List.length_append, valsN_len] at h3
        rw [List.length_append, valsN_len] at h2
        rw [List.length_append, List.length_append] at h1
        omega
      refine ACallT.ok (ACall.sel [6, 4] (by decide) [.ptr 0 x.2.1 0, v1] _ ⟨Sub.ptr _ _ _ _, hs1, trivial⟩ (ih _ _ _ (hin x hx) ((hk x.1).1 ⟨x, hx, rfl⟩) (below_names hd1 x.1) acc' v1 ga oa hv1 hlen) ?_)
      rintro r L' ⟨acc2, g2, o2, hp2, hr2, rfl⟩
      obtain ⟨v4, hv4, hs4, _⟩ := hr2.re 4
      refine ⟨v4, hs4, ?_⟩
      repeat(first|refine Sc ?_|refine fun(_:Nat)=>?_)
      refine Cont.lpW ?_
      refine ⟨ks.length - (V ++ [x]).length, _, _, by rw [List.length_append, List.length_singleton]; omega, Weak.imp ?_ (Imp.app (L := _ :: _ :: [_]) (L' := _ :: _ :: [_]) (.refl _) (Imp.back2 _ _ (Imp.kid_in hi))), ⟨V ++ [x], _, acc2, v4, g2, o2, rfl, hV', ?_, hv4, rfl, rfl⟩⟩
      · exact Ss
      · rw [valsK_snoc, ← List.append_assoc]
        exact hp2.trans (hacc.append_right _)
set_option maxHeartbeats 4000000 in
theorem allStepR (ov : AV) (d : Nat) (ih : ∀ (l : NL) (g : Nat) (H : AHeap), IsN tI [] l g H → l ≠ [] → (∀ x ∈ l, x.1.length < d) → ∀ (acc : List On) (v : AV) (ga : Nat) (oa : AObj), LH 1 acc v ga oa → acc.length + l.length ≤ 1000 → FnSpec C 40 [.ptr 0 g 0, v] [(0, boxL H), (ga, oa)] (fun r L' => ∃ acc' g' o', acc'.Perm (acc ++ valsN l) ∧ LH 1 acc' r g' o' ∧ L' = [(0, boxL H), (g', o')]))
    (l : NL) (g : Nat) (H : AHeap) (hN : IsN tT [ov] l g H) (hd1 : ∀ x ∈ l, x.1.length < d + 1) (acc : List On) (v : AV) (ga : Nat) (oa : AObj) (hv : LH 1 acc v ga oa) (hl : acc.length + l.length ≤ 1000) :
    FnSpec C 40 [.ptr 0 g 0, v] [(0, boxL H), (ga, oa)] (fun r L' => ∃ acc' g' o', acc'.Perm (acc ++ valsN l) ∧ LH 1 acc' r g' o' ∧ L' = [(0, boxL H), (g', o')]) := by
  obtain ⟨v4, hv4, hs4, hx4⟩ := hv.re 4
  obtain ⟨_, _, _, _, mv, wv, gm, gw, om, ow, ws, ks, hw, hws, hm, hk, hnd, hin⟩ := hN
  have hwl : ws.length ≤ l.length := by rw [hws.length_eq]; exact here_len l
  have hkl : ks.length ≤ 1000 := by
    have h1 := (kids_perm hk hnd).length_eq
    have h2 := heads_len l
    rw [List.length_map] at h1
    omega
  refine FnSpec.imp (Imp.app (L := [_]) (M := [_]) (M' := [_]) (.unbox _ _) (.refl _)) ?_
  refine FnSpec.start C_ok Tryd.func40 rfl rfl Tryd.ntmps40 ?_
  repeat(first|refine Za ?_|refine Zb ?_|refine Zy rfl ?_|refine Z2 rfl ?_|refine Z3 ?_|refine fun(_:Nat)=>?_|refine Run.goN rfl ?_|refine Zo rfl ?_)
  refine Run.textA C_ok (aopC_sound C_ok) ?_
  repeat(first|refine Za ?_|refine Zb ?_|refine Zy rfl ?_|refine Z2 rfl ?_|refine Z3 ?_|refine fun(_:Nat)=>?_|refine Run.goN rfl ?_|refine Zo rfl ?_)
  refine Run.join0 C_ok (fun env L => ∃ (v : AV) (ga : Nat) (oa : AObj), LH 4 (acc ++ ws) v ga oa ∧ env = [.ptr 0 g 0, v, .junk, .junk, .nils, .junk, .junk, .junk, .junk, .junk, .junk, .junk, .junk, .junk, .junk, .junk, .junk, .junk, .junk, .junk, .junk, .junk, .junk, .junk, .junk, .junk] ∧ L = [(g, .cells tT ([mv, wv] ++ [ov])), (gm, om), (gw, ow), (0, boxL (ks.map kidB)), (ga, oa)]) ?_ ?_
  · refine Run.weak0 C_ok (env1 := [.ptr 0 g 0, v4, .junk, .junk, .nils, .junk, .junk, .junk, .junk, .junk, .junk, .junk, .junk, .junk, .junk, .junk, .junk, .junk, .junk, .junk, .junk, .junk, .junk, .junk, .junk, .junk]) (Weak.imp ?_ (Imp.refl _)) ?_
    · exact ⟨Sub.refl _, hs4, Sub.refl _, Sub.refl _, Sub.refl _, Subs.refl _⟩
    rcases hw with ⟨rfl, rfl, rfl⟩ | ⟨Cw, rfl, rfl⟩
    · rcases hv4 with ⟨rfl, rfl, rfl⟩ | ⟨Ca, rfl, rfl⟩
      · repeat(first|refine Sc ?_|refine fun(_:Nat)=>?_)
        refine ⟨fun _ => ?_, fun h => absurd rfl h⟩
        repeat(first|refine Sc ?_|refine fun(_:Nat)=>?_)
        refine ⟨_, _, Weak.sel ?_ [0, 1, 2, 3, 4] (by decide) ?_, ⟨.nils, ga, .dead, .inl ⟨rfl, rfl, rfl⟩, rfl, rfl⟩⟩
        · exact Ss
        · exact Sl
      · repeat(first|refine Sc ?_|refine fun(_:Nat)=>?_)
        refine ⟨by simp, ?_⟩
        repeat(first|refine Sc ?_|refine fun(_:Nat)=>?_)
        refine ⟨by rw [List.length_map]; show (_ + 0) * 48 ≤ _; omega, ?_⟩
        repeat(first|refine Sc ?_|refine fun(_:Nat)=>?_)
        rename_i g' Cp'
        refine ⟨_, _, Weak.sel ?_ [0, 1, 2, 3, 4] (by decide) ?_, ⟨.sl 4 g' Cp' ((acc.map encH).length + ([] : List AV).length), g', .row tH 5 Cp' (acc.map encH ++ []), .inr ⟨Cp', by simp, by simp⟩, rfl, rfl⟩⟩
        · exact Ss
        · exact Sl
    · have htk : List.take ws.length (ws.map encH) = ws.map encH := List.take_of_length_le (by simp)
      rcases hv4 with ⟨rfl, rfl, rfl⟩ | ⟨Ca, rfl, rfl⟩
      · repeat(first|refine Sc ?_|refine fun(_:Nat)=>?_)
        refine ⟨by simp, ?_⟩
        repeat(first|refine Sc ?_|refine fun(_:Nat)=>?_)
        rw [htk]
        refine ⟨by rw [List.length_map]; omega, fun he => ?_, fun hne g' Cp' => ?_⟩
        · repeat(first|refine Sc ?_|refine fun(_:Nat)=>?_)
          obtain rfl : ws = [] := List.map_eq_nil_iff.1 he
          refine ⟨_, _, Weak.sel ?_ [0, 1, 2, 3, 4] (by decide) ?_, ⟨.nils, ga, .dead, .inl ⟨rfl, rfl, rfl⟩, rfl, rfl⟩⟩
          · exact Ss
          · exact Sl
        · repeat(first|refine Sc ?_|refine fun(_:Nat)=>?_)
          refine ⟨_, _, Weak.sel ?_ [0, 1, 2, 3, 5] (by decide) ?_, ⟨.sl 4 g' Cp' (ws.map encH).length, g', .row tH 5 Cp' (ws.map encH), .inr ⟨Cp', by simp, rfl⟩, rfl, rfl⟩⟩
          · exact Ss
          · exact Sl
      · repeat(first|refine Sc ?_|refine fun(_:Nat)=>?_)
        refine ⟨by simp, ?_⟩
        repeat(first|refine Sc ?_|refine fun(_:Nat)=>?_)
        rw [htk]
        refine ⟨by simp, ?_⟩
        repeat(first|refine Sc ?_|refine fun(_:Nat)=>?_)
        refine ⟨by rw [List.length_map, List.length_map]; omega, ?_⟩
        repeat(first|refine Sc ?_|refine fun(_:Nat)=>?_)
        rename_i g' Cp'
        refine ⟨_, _, Weak.sel ?_ [0, 1, 2, 3, 4] (by decide) ?_, ⟨.sl 4 g' Cp' ((acc.map encH).length + (ws.map encH).length), g', .row tH 5 Cp' (acc.map encH ++ ws.map encH), .inr ⟨Cp', by simp, by simp⟩, rfl, rfl⟩⟩
        · exact Ss
        · exact Sl
  clear hv hv4 hs4 hx4 v4 ga oa v
  rintro env L ⟨v, ga, oa, hv, rfl, rfl⟩
  repeat(first|refine Sc ?_|refine fun(_:Nat)=>?_)
  rcases hm with ⟨rfl, rfl, rfl⟩ | ⟨rfl, es, cl, rfl, hm⟩
  · have hz : (acc ++ ws).Perm (acc ++ valsN l) := List.Perm.append_left _ (by have := valsK_all hws hk hnd (List.Perm.refl []); simpa [valsK] using this)
    intro gi
    repeat(first|refine Sc ?_|refine fun(_:Nat)=>?_)
    refine Run.loop (fun k env L => k = 0 ∧ env = [.ptr 0 g 0, v, .junk, .junk, .nils, .junk, .junk, .junk, .junk, .junk, .junk, .junk, .junk, .junk, .junk, .junk, .junk, .ptr 5 gi 0, .junk, .junk, .junk, .junk, .junk, .junk, .junk, .junk] ∧ L = [(g, .cells tT ([.any (.map none), wv] ++ [ov])), (gm, .dead), (gw, ow), (0, boxL (([] : List Kid).map kidB)), (ga, oa), (gi, .obj (.mapIter none 0 #[] 0))]) 0
      [.ptr 0 g 0, v, .junk, .junk, .nils, .junk, .junk, .junk, .junk, .junk, .junk, .junk, .junk, .junk, .junk, .junk, .junk, .ptr 5 gi 0, .junk, .junk, .junk, .junk, .junk, .junk, .junk, .junk] ?_ ⟨rfl, rfl, rfl⟩ ?_
    · repeat(first|exact trivial|refine ⟨.inl rfl, ?_⟩|refine ⟨.inr rfl, ?_⟩)
    rintro k env L ⟨rfl, rfl, rfl⟩
    repeat(first|refine Sc ?_|refine fun(_:Nat)=>?_)
    obtain ⟨v1, hv1, hs1, _⟩ := hv.re 1
    exact ⟨v1, [(0, boxL (nodeL tT [ov] g (.any (.map none)) wv gm gw .dead ow [])), (ga, oa)], (FinOk.keep _ [0, 1, 2, 3, 4] hs1 (by decide) rfl).trans (FinOk.imp _ (Imp.app (L := _ :: _ :: _ :: [_]) (L' := [_]) (M := [_]) (M' := [_]) (.box 0 _) (.refl _))), acc ++ ws, ga, oa, hz, hv1, rfl⟩
  · refine ⟨1, es, cl, rfl, ?_⟩
    repeat(first|refine Sc ?_|refine fun(_:Nat)=>?_)
    rename_i gi
    refine Run.loopW (fun k env L => ∃ (V : List Kid) (seen : Array Nat) (acc' : List On) (v : AV) (ga : Nat) (oa : AObj), k = ks.length - V.length ∧ Visited ks es seen V ∧ acc'.Perm ((acc ++ ws) ++ valsK l V) ∧ LH 4 acc' v ga oa ∧ env = [.ptr 0 g 0, v, .junk, .junk, .nils, .junk, .junk, .junk, .junk, .junk, .junk, .junk, .junk, .junk, .junk, .junk, .junk, .ptr 5 gi 0, .junk, .junk, .junk, .junk, .junk, .junk, .junk, .junk] ∧ L = [(g, .cells tT ([.any (.map (some gm)), wv] ++ [ov])), (gm, .obj (.map es cl)), (gw, ow), (0, boxL (ks.map kidB)), (ga, oa), (gi, .obj (.mapIter (some gm) cl seen cl))]) ks.length
      [.ptr 0 g 0, v, .junk, .junk, .nils, .junk, .junk, .junk, .junk, .junk, .junk, .junk, .junk, .junk, .junk, .junk, .junk, .ptr 5 gi 0, .junk, .junk, .junk, .junk, .junk, .junk, .junk, .junk] [(g, .cells tT ([.any (.map (some gm)), wv] ++ [ov])), (gm, .obj (.map es cl)), (gw, ow), (0, boxL (ks.map kidB)), (ga, oa), (gi, .obj (.mapIter (some gm) cl #[] cl))] (Weak.sel ?_ [0, 1, 2, 3, 4, 5] (by decide) ?_)
      ⟨[], #[], acc ++ ws, v, ga, oa, by simp, Visited.start, by simp [valsK], hv, rfl, rfl⟩ ?_
    · exact Ss
    · exact Sl
    clear hv v ga oa
    rintro k env L ⟨V, seen, acc', v, ga, oa, rfl, hV, hacc, hv, rfl, rfl⟩
    repeat(first|refine Sc ?_|refine fun(_:Nat)=>?_)
    refine ⟨1, es, cl, rfl, hm.old, Nat.le_refl _, fun h0 => ?_, fun e he => ?_⟩
    · have hVM := hV.stop hm h0
      repeat(first|refine Sc ?_|refine fun(_:Nat)=>?_)
      obtain ⟨v1, hv1, hs1, _⟩ := hv.re 1
      exact ⟨v1, [(0, boxL (nodeL tT [ov] g (.any (.map (some gm))) wv gm gw (.obj (.map es cl)) ow ks)), (ga, oa)], (FinOk.keep _ [0, 1, 2, 3, 4] hs1 (by decide) rfl).trans (FinOk.imp _ (Imp.app (L := _ :: _ :: _ :: [_]) (L' := [_]) (M := [_]) (M' := [_]) (.box 0 _) (.refl _))), acc', ga, oa, hacc.trans (by rw [List.append_assoc]; exact List.Perm.append_left _ (valsK_all hws hk hnd hVM)), hv1, rfl⟩
    · obtain ⟨x, hx, ek, ev, hV', hlt⟩ := hV.step hm he
      refine ⟨.str x.1, .ptr 3 x.2.1 0, by rw [ek]; rfl, by rw [ev]; rfl, ?_⟩
      repeat(first|refine Sc ?_|refine fun(_:Nat)=>?_)
      refine ⟨1, es, seen, e, rfl, rfl, leftOf_mem he, hm.born, .str x.1, .ptr 3 x.2.1 0, by rw [ek]; rfl, by rw [ev]; rfl, ?_⟩
      repeat(first|refine Za ?_|refine Zb ?_|refine Zy rfl ?_|refine Z2 rfl ?_|refine Z3 ?_|refine fun(_:Nat)=>?_|refine Run.goN rfl ?_|refine Zo rfl ?_)
      obtain ⟨i, hi⟩ := List.mem_iff_getElem?.1 hx
      refine Run.weak0 C_ok (Weak.imp (Subs.refl _) (Imp.pick (k := 3) rfl (Imp.kid_out hi))) ?_
      repeat(first|refine Sc ?_|refine fun(_:Nat)=>?_)
      obtain ⟨v1, hv1, hs1, _⟩ := hv.re 1
      have hlen : acc'.length + (belowN l x.1).length ≤ 1000 := by
        have h1 := hacc.length_eq
        have h2 := (valsK_all hws hk hnd (List.Perm.refl ks)).length_eq
        have h3 := valsK_le (l := l) hV'
        rw [valsK_snoc, List.length_append, valsN_len] at h3
        rw [List.length_append, valsN_len] at h2
        rw [List.length_append, List.length_append] at h1
        omega
      refine ACallT.ok (ACall.sel [6, 4] (by decide) [.ptr 0 x.2.1 0, v1] _ ⟨Sub.ptr _ _ _ _, hs1, trivial⟩ (ih _ _ _ (hin x hx) ((hk x.1).1 ⟨x, hx, rfl⟩) (below_names hd1 x.1) acc' v1 ga oa hv1 hlen) ?_)
      rintro r L' ⟨acc2, g2, o2, hp2, hr2, rfl⟩
      obtain ⟨v4, hv4, hs4, _⟩ := hr2.re 4
      refine ⟨v4, hs4, ?_⟩
      repeat(first|refine Sc ?_|refine fun(_:Nat)=>?_)
      refine Cont.lpW ?_
      refine ⟨ks.length - (V ++ [x]).length, _, _, by rw [List.length_append, List.length_singleton]; omega, Weak.imp ?_ (Imp.app (L := _ :: _ :: [_]) (L' := _ :: _ :: [_]) (.refl _) (Imp.back2 _ _ (Imp.kid_in hi))), ⟨V ++ [x], _, acc2, v4, g2, o2, rfl, hV', ?_, hv4, rfl, rfl⟩⟩
      · exact Ss
      · rw [valsK_snoc, ← List.append_assoc]
        exact hp2.trans (hacc.append_right _)
theorem allI : ∀ (d : Nat), ∀ (l : NL) (g : Nat) (H : AHeap), IsN tI [] l g H → l ≠ [] → (∀ x ∈ l, x.1.length < d) → ∀ (acc : List On) (v : AV) (ga : Nat) (oa : AObj), LH 1 acc v ga oa → acc.length + l.length ≤ 1000 → FnSpec C 40 [.ptr 0 g 0, v] [(0, boxL H), (ga, oa)] (fun r L' => ∃ acc' g' o', acc'.Perm (acc ++ valsN l) ∧ LH 1 acc' r g' o' ∧ L' = [(0, boxL H), (g', o')])
  | 0, l, _, _, _, hne, hd, _, _, _, _, _, _ => by
    obtain ⟨x, hx⟩ := List.exists_mem_of_ne_nil _ hne
    exact absurd (hd x hx) (by omega)
  | d + 1, l, g, H, hN, _, hd, acc, v, ga, oa, hv, hl => allStepI d (allI d) l g H hN hd acc v ga oa hv hl
theorem allR (ov : AV) (l : NL) (g : Nat) (H : AHeap) (hN : IsN tT [ov] l g H) (hd : ∀ x ∈ l, x.1.length < 7) (hl : l.length ≤ 1000) : FnSpec C 40 [.ptr 0 g 0, .nils] [(0, boxL H)] (fun r L' => ∃ acc' g' o', acc'.Perm (valsN l) ∧ LH 1 acc' r g' o' ∧ L' = [(0, boxL H), (g', o')]) := by
  refine FnSpec.imp ((Imp.dead 0 _).trans (.perm (List.Perm.swap _ _ []))) ((allStepR ov 6 (allI 6) l g H hN hd [] .nils 0 .dead (.inl ⟨rfl, rfl, rfl⟩) (by simpa using hl)).post ?_)
  rintro r L' ⟨acc', g', o', h1, h2, rfl⟩
  exact ⟨_, _, Sub.refl _, Imp.refl _, acc', g', o', h1, h2, rfl⟩
end Go.Proofs.YtgpbppkmmlclfaaDoor.HBT
