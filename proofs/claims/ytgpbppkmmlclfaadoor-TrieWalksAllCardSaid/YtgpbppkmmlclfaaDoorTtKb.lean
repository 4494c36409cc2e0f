/- Which watches a change is one for. -/
import Derived.Test.YtgpbppkmmlclfaaDoorTtK8
import Derived.Test.YtgpbppkmmlclfaaDoorTtG4
set_option linter.unusedVariables false
set_option linter.unusedSimpArgs false
namespace Go.Proofs.YtgpbppkmmlclfaaDoor.HBT
open Go Go.Proofs.YtgpbppkmmlclfaaDoor.HB Go.RowKit
set_option maxRecDepth 8000

abbrev chA (k : Int) (p d : ByteArray) (v : Int) : AV := .agg [.int .i64 k, .str p, .str d, .int .i64 v]
def pathN : NL → List ByteArray → List On
  | l, [] => hereN l
  | l, n :: r => hereN l ++ pathN (belowN l n) r
def coversO (st k : Int) (p : ByteArray) (o : On) : Prop := o.w.f < st ∧ coversP o.w.k o.w.p k p
open Classical in
noncomputable def tagged (l : List On) (st k : Int) (p : ByteArray) : List Tg := (l.filter fun o => decide (coversO st k p o)).map fun o => (o.s, o.w.id)
noncomputable def matchT (l : NL) (p : ByteArray) (st k : Int) : List Tg := tagged (pathN l (namesOf p)) st k p
theorem here_below_len (n : ByteArray) : ∀ l : NL, (hereN l).length + (belowN l n).length ≤ l.length
  | [] => by simp [hereN, belowN]
  | ([], o) :: l => by
    have := here_below_len n l
    rw [here_0, below_0, List.length_cons, List.length_cons]; omega
  | (m :: r, o) :: l => by
    have := here_below_len n l
    rw [here_C, List.length_cons]
    by_cases e : m = n
    · subst e; rw [below_C, List.length_cons]; omega
    · rw [below_F e]; omega
theorem pathN_len : ∀ (ns : List ByteArray) (l : NL), (pathN l ns).length ≤ l.length
  | [], l => here_len l
  | n :: r, l => by
    have h1 := pathN_len r (belowN l n)
    have h2 := here_below_len n l
    show (hereN l ++ pathN (belowN l n) r).length ≤ _
    rw [List.length_append]; omega
theorem tagged_len (l : List On) (st k : Int) (p : ByteArray) : (tagged l st k p).length ≤ l.length := by
  unfold tagged
  rw [List.length_map]
  exact List.length_filter_le _ _
theorem matchT_len (l : NL) (p : ByteArray) (st k : Int) : (matchT l p st k).length ≤ l.length := Nat.le_trans (tagged_len _ _ _ _) (pathN_len _ _)
theorem covers_is {kd : Int} {pl : ByteArray} {k : Int} {p : ByteArray} {b : Bool} (h : @decide (coversP kd pl k p) (Classical.propDecidable _) = b) : FnSpec C 11 [.int .i64 kd, .str pl, .int .i64 k, .str p] [] (fun r L' => r = .bool b ∧ L' = []) := by
  have e : decide (coversP kd pl k p) = b := by rw [← h]
  subst e; exact covers_spec kd pl k p
theorem tagged_yes {ws : List On} {i : Nat} {x : On} {st k : Int} {p : ByteArray} (ex : ws[i]? = some x) (h : coversO st k p x) : tagged (ws.take (i + 1)) st k p = tagged (ws.take i) st k p ++ [(x.s, x.w.id)] := by
  rw [List.take_add_one, ex]
  unfold tagged
  rw [List.filter_append, List.map_append]
  congr 1
  simp [h]
theorem tagged_no {ws : List On} {i : Nat} {x : On} {st k : Int} {p : ByteArray} (ex : ws[i]? = some x) (h : ¬ coversO st k p x) : tagged (ws.take (i + 1)) st k p = tagged (ws.take i) st k p := by
  rw [List.take_add_one, ex]
  unfold tagged
  rw [List.filter_append, List.map_append]
  simp [h]
theorem LN1 {α : Type} {e : α → AV} {t : TypeId} {sz k g Cp : Nat} {l : List α} (x : α) (h : l = []) : LN e t sz k (l ++ [x]) (.sl k g Cp 1) g (.row t sz Cp [e x]) := by
  subst h; exact .inr ⟨Cp, rfl, rfl⟩
theorem LN2 {α : Type} {e : α → AV} {t : TypeId} {sz k g Cp : Nat} {l : List α} (x : α) : LN e t sz k (l ++ [x]) (.sl k g Cp ((l.map e).length + 1)) g (.row t sz Cp (l.map e ++ [e x])) := .inr ⟨Cp, by simp, by simp⟩
theorem tagged_perm {a b : List On} (h : a.Perm b) (st k : Int) (p : ByteArray) : (tagged a st k p).Perm (tagged b st k p) := (h.filter _).map _
theorem Imp.subL {L L' : AHeap} (h : SubL L L') : Imp L L' := by
  have ho := h.own
  obtain ⟨_, hat⟩ := h.at_
  refine ⟨fun i hi => by rw [← ho]; exact hi, fun imm w hs => ⟨fun j g o hj hl => ?_, fun j j' g g' i o o' h1 l1 h2 l2 => ?_⟩⟩
  · obtain ⟨o1, h1, h2⟩ := hat j g o hj
    exact h2.holds (hs.holds j g o1 h1 (h2.live.1 hl))
  · obtain ⟨p1, a1, b1⟩ := hat j g o h1
    obtain ⟨p2, a2, b2⟩ := hat j' g' o' h2
    exact hs.apart j j' g g' i p1 p2 a1 ((b1.owns _ _).1 l1) a2 ((b2.owns _ _).1 l2)
theorem Imp.snocD (L : AHeap) : Imp L (L ++ [(0, .dead)]) := (Imp.dead 0 L).trans (.perm (List.perm_append_comm (l₁ := [((0, .dead) : Nat × AObj)]) (l₂ := L)))
theorem Imp.matchStart (Hn : AHeap) (go : Nat) (oo : AObj) (S : List Sess) (M : AHeap) :
    Imp ((0, boxL (trieL Hn go oo S)) :: M) ((0, boxL [(go, oo), (0, boxL (S.map rowS))]) :: (M ++ [(0, boxL Hn), (0, .dead)])) := by
  refine (Imp.app (L := [_]) (L' := trieL Hn go oo S) (Imp.unbox 0 _) (.refl M)).trans ?_
  refine (Imp.perm (L' := [(go, oo), (0, boxL (S.map rowS))] ++ (M ++ [(0, boxL Hn)])) ?_).trans ?_
  · rw [← List.append_assoc]
    exact List.perm_append_comm (l₁ := [(0, boxL Hn)]) (l₂ := [(go, oo), (0, boxL (S.map rowS))] ++ M)
  · refine Imp.app (L' := [_]) (Imp.box 0 _) ?_
    have := Imp.snocD (M ++ [(0, boxL Hn)])
    rwa [List.append_assoc] at this
theorem Imp.matchBack (Hn : AHeap) (go : Nat) (oo : AObj) (S : List Sess) : Imp [(0, boxL [(go, oo), (0, boxL (S.map rowS))]), (0, boxL Hn)] [(0, boxL (trieL Hn go oo S))] :=
  ((Imp.app (L := [_]) (M := [(0, boxL Hn)]) (Imp.unbox 0 _) (.refl _)).trans (.perm (List.perm_append_comm (l₁ := [(go, oo), (0, boxL (S.map rowS))]) (l₂ := [(0, boxL Hn)])))).trans (.box 0 _)
theorem Imp.nodeOpen (a b c e x : Nat × AObj) (xs : AHeap) : Imp [a, b, c, (0, boxL (x :: xs)), e] ([a, b, c, x, e] ++ xs) :=
  (Imp.app (L := [a, b, c]) (L' := [a, b, c]) (.refl _) (Imp.app (L := [_]) (M := [e]) (Imp.unbox 0 (x :: xs)) (.refl _))).trans
    (.perm (((List.perm_append_comm (l₁ := xs) (l₂ := [e])).cons x).append_left [a, b, c]))
theorem tagged_app (a b : List On) (st k : Int) (p : ByteArray) : tagged (a ++ b) st k p = tagged a st k p ++ tagged b st k p := by
  unfold tagged; rw [List.filter_append, List.map_append]
theorem pathN_nil : ∀ r : List ByteArray, pathN [] r = []
  | [] => rfl
  | n :: r => by
    show hereN [] ++ pathN (belowN [] n) r = []
    rw [show belowN [] n = [] from rfl, pathN_nil r]; rfl
theorem Imp.closeAt (R c n x li a b kd : Nat × AObj) : Imp [R, c, n, x, li, a, b, kd] [R, c, n, (0, boxL [x, a, b, kd]), li] :=
  (Imp.perm (L' := [R, c, n] ++ ([x, a, b, kd] ++ [li])) (((List.perm_append_comm (l₁ := [li]) (l₂ := [a, b, kd])).cons x).append_left [R, c, n])).trans
    (Imp.app (L := [R, c, n]) (L' := [R, c, n]) (.refl _) (Imp.app (L := [x, a, b, kd]) (M := [li]) (Imp.box 0 _) (.refl _)))
theorem Imp.downAt (R c n x li a b : Nat × AObj) {ks E : AHeap} {kb : Nat × AObj} (h : Imp ks (E ++ [kb])) : Imp [R, c, n, x, li, a, b, (0, boxL ks)] [(0, boxL [R, x, a, b, (0, boxL E)]), c, n, kb, li] := by
  have h1 : Imp [R, c, n, x, li, a, b, (0, boxL ks)] ([R, c, n, x, li, a, b] ++ [(0, boxL E), kb]) :=
    Imp.app (L := [R, c, n, x, li, a, b]) (L' := [R, c, n, x, li, a, b]) (.refl _) ((Imp.unbox 0 ks).trans (h.trans (Imp.app (M := [kb]) (Imp.box 0 E) (.refl _))))
  refine h1.trans ((Imp.perm (L' := [R, x, a, b, (0, boxL E)] ++ [c, n, kb, li]) ?_).trans (Imp.app (M := [c, n, kb, li]) (Imp.box 0 _) (.refl _)))
  classical exact List.perm_iff_count.2 fun z => by simp only [List.cons_append, List.nil_append, List.count_cons, List.count_nil]; omega
theorem Imp.upAt (R x a b : Nat × AObj) {ks E : AHeap} {kb : Nat × AObj} (h : Imp (E ++ [kb]) ks) : Imp [(0, boxL [R, x, a, b, (0, boxL E)]), kb] [R, (0, boxL [x, a, b, (0, boxL ks)])] :=
  (Imp.app (L := [_]) (M := [kb]) (Imp.unbox 0 [R, x, a, b, (0, boxL E)]) (.refl _)).trans
    (Imp.app (L := [R]) (L' := [R]) (.refl _) ((Imp.app (L := [x, a, b]) (L' := [x, a, b]) (.refl _) (((Imp.app (L := [_]) (M := [kb]) (Imp.unbox 0 E) (.refl _)).trans h).trans (.box 0 _))).trans (.box 0 _)))
set_option maxHeartbeats 8000000 in
theorem match_spec (S : List Sess) (l : NL) (gt : Nat) (H : AHeap) (hT : IsT S l gt H) (hl : l.length ≤ 200) (st k : Int) (p d : ByteArray) (v : Int) :
    FnSpec C 10 [.ptr 0 gt 0, .int .i64 st, chA k p d v] [(0, boxL H)] (fun r L' => ∃ ys g o, LN encG tG 2 1 ys r g o ∧ ys.Perm (if parseE p = 0 then matchT l p st k else []) ∧ ys.Pairwise (fun a b => ¬ cfT b a < 0) ∧ L' = [(0, boxL H), (g, o)]) := by
  obtain ⟨ofv, Hn, go, oo, hN, ho⟩ := hT
  refine FnSpec.start C_ok Tryd.func10 rfl rfl Tryd.ntmps10 ?_
  repeat(first|refine Sc ?_|refine fun(_:Nat)=>?_)
  refine ACallT.ok (ACall.pure _ (parse_spec p) ?_)
  rintro r L' (⟨hp, rfl, rfl⟩ | ⟨hp, hn, rfl, rfl⟩ | ⟨hp, hn, gn, rfl, rfl⟩)
  · refine ⟨_, Sub.refl _, ?_⟩
    repeat(first|refine Sc ?_|refine fun(_:Nat)=>?_)
    refine ⟨fun _ => ?_, fun h => absurd h (by simpa using hp)⟩
    repeat(first|refine Sc ?_|refine fun(_:Nat)=>?_)
    exact ⟨.nils, _, (FinOk.keep _ [0] (Sub.refl _) (by decide) rfl).trans (FinOk.imp _ (Imp.snocD _)), [], 0, .dead, .inl ⟨rfl, rfl, rfl⟩, by rw [if_neg hp], List.Pairwise.nil, rfl⟩
  · refine ⟨_, Sub.refl _, ?_⟩
    repeat(first|refine Sc ?_|refine fun(_:Nat)=>?_)
    refine ⟨fun h => absurd rfl h, fun _ => ?_⟩
    repeat(first|refine Sc ?_|refine fun(_:Nat)=>?_)
    rename_i gc _hz
    refine Run.loopW (fun m env L => ∃ (j : Nat) (R Hc : AHeap) (res : List Tg) (lv np : AV) (gl : Nat) (lo : AObj), m = 8 - j ∧ j ≤ 7 ∧ j ≤ (namesOf p).length + 1 ∧ LN encG tG 2 4 res lv gl lo ∧ Imp [(0, boxL R), (0, boxL Hc)] [(0, boxL (trieL Hn go oo S))] ∧
        ((np = .nilp ∧ res.Perm (matchT l p st k)) ∨ (j ≤ (namesOf p).length ∧ ∃ g lc t ex, np = .ptr 3 g 0 ∧ (t = tI ∧ ex = [] ∨ t = tT ∧ ex = [ofv]) ∧ lc.length ≤ 200 ∧ IsN t ex lc g Hc ∧ (res ++ (tagged (pathN lc ((namesOf p).drop j)) st k p)).Perm (matchT l p st k))) ∧
        env = [.ptr 0 gt 0, .int .i64 st, chA k p d v, .junk, .junk, .ptr 1 gc 0, .nils, .nils, .int .i64 0, lv, np, .int .i64 j, .junk, .junk, .junk, .junk, .junk, .junk, .junk, .junk, .junk, .junk, .junk, .junk, .junk, .junk, .junk, .junk, .junk, .junk, .junk, .junk, .junk, .junk, .junk, .junk, .junk, .junk, .junk, .junk, .junk, .junk, .junk, .junk, .junk, .junk, .junk, .junk, .junk, .junk, .junk, .junk, .junk, .junk, .junk, .junk, .junk, .junk, .junk, .junk, .junk, .junk, .junk, .junk, .junk, .junk, .junk, .junk, .junk, .junk, .junk, .junk, .junk, .junk, .junk, .junk, .junk, .junk, .junk, .junk, .junk, .junk] ∧ L = [(0, boxL R), (gc, .cells 24 [.int .i64 k, .str p, .str d, .int .i64 v]), (0, .dead), (0, boxL Hc), (gl, lo)]) 8
      [.ptr 0 gt 0, .int .i64 st, chA k p d v, .junk, .junk, .ptr 1 gc 0, .nils, .nils, .int .i64 0, .nils, (.ptr 3 gt 0), .int .i64 (0 : Nat), .junk, .junk, .junk, .junk, .junk, .junk, .junk, .junk, .junk, .junk, .junk, .junk, .junk, .junk, .junk, .junk, .junk, .junk, .junk, .junk, .junk, .junk, .junk, .junk, .junk, .junk, .junk, .junk, .junk, .junk, .junk, .junk, .junk, .junk, .junk, .junk, .junk, .junk, .junk, .junk, .junk, .junk, .junk, .junk, .junk, .junk, .junk, .junk, .junk, .junk, .junk, .junk, .junk, .junk, .junk, .junk, .junk, .junk, .junk, .junk, .junk, .junk, .junk, .junk, .junk, .junk, .junk, .junk, .junk, .junk] _ (Weak.imp ?_ ((Imp.snocD _).trans (Imp.matchStart Hn go oo S _)))
      ⟨0, _, Hn, [], .nils, _, 0, .dead, rfl, by omega, by omega, .inl ⟨rfl, rfl, rfl⟩, Imp.matchBack Hn go oo S, .inr ⟨by omega, gt, l, tT, [ofv], rfl, .inr ⟨rfl, rfl⟩, hl, hN, List.Perm.refl _⟩, rfl, rfl⟩ ?_
    · exact Ss
    rintro m env L ⟨j, R, Hc, res, lv, np, gl, lo, rfl, hj7, hjn, hres, hImp, hnp, rfl, rfl⟩
    rcases hnp with ⟨rfl, hperm⟩ | ⟨hjl, g, lc, t, ex, rfl, htx, hlc, hNc, hperm⟩
    · repeat(first|refine Sc ?_|refine fun(_:Nat)=>?_)
      rcases hres with ⟨e0, rfl, rfl⟩ | ⟨Cp, rfl, rfl⟩
      · refine ACallT.ok (ACall.pure _ sortT_nil ?_)
        rintro r L' ⟨rfl, rfl⟩
        refine ⟨_, Sub.refl _, ?_⟩
        repeat(first|refine Sc ?_|refine fun(_:Nat)=>?_)
        exact ⟨.nils, _, (FinOk.keep _ [0, 3] (Sub.refl _) (by decide) rfl).trans (FinOk.imp _ (hImp.trans (Imp.snocD _))), [], 0, .dead, .inl ⟨rfl, rfl, rfl⟩, by rw [if_pos hp]; rw [e0] at hperm; exact hperm, List.Pairwise.nil, rfl⟩
      · have hrl : res.length ≤ 1000 := by rw [hperm.length_eq]; have := matchT_len l p st k; omega
        refine ACallT.ok (ACall.sel [4] (by decide) [.sl 0 gl Cp res.length, .any (.func (.func 27) #[] #[])] _ ⟨Sub.sl _ _ _ _ _, Sub.refl _, trivial⟩ (sortT_spec 0 gl Cp res hrl) ?_)
        rintro r L' ⟨rfl, ys, h1, h2, rfl⟩
        refine ⟨_, Sub.refl _, ?_⟩
        repeat(first|refine Sc ?_|refine fun(_:Nat)=>?_)
        exact ⟨.sl 1 gl Cp ys.length, _, (FinOk.keep _ [0, 3, 4] (by rw [h1.length_eq]; exact Sub.sl _ _ _ _ _) (by decide) rfl).trans (FinOk.imp _ (Imp.app (L := [_, _]) (L' := [_]) (M := [_]) (M' := [_]) hImp (.refl _))), ys, gl, _, .inr ⟨Cp, rfl, rfl⟩, by rw [if_pos hp]; exact h1.trans hperm, h2.imp fun h => of_decide_eq_false h, rfl⟩
    obtain ⟨_, _, _, _, mv, wv, gm, gw, om, ow, ws, ks, hw, hws, hm, hk, hnd, hin⟩ := hNc
    have hWL : ws.length ≤ 1000 := by rw [hws.length_eq]; have := here_len lc; omega
    rcases htx with ⟨rfl, rfl⟩ | ⟨rfl, rfl⟩
    · repeat(first|refine Za ?_|refine Zb ?_|refine Zy rfl ?_|refine Z2 rfl ?_|refine Z3 ?_|refine fun(_:Nat)=>?_|refine Run.goN rfl ?_|refine Zo rfl ?_)
      rcases hw with ⟨rfl, rfl, rfl⟩ | ⟨Cw, rfl, rfl⟩
      · refine Run.weak0 C_ok (Weak.imp (Subs.refl _) (Imp.nodeOpen _ _ _ _ _ _)) ?_
        repeat(first|refine Sc ?_|refine fun(_:Nat)=>?_)
        refine Run.loopW (fun m env L => m = 0 ∧ env = [.ptr 0 gt 0, .int .i64 st, chA k p d v, .junk, .junk, .ptr 1 gc 0, .nils, .nils, .int .i64 0, lv, .ptr 3 g 0, .int .i64 j, .junk, .junk, .junk, .junk, .junk, .junk, .junk, .junk, .junk, .junk, .junk, .junk, .junk, .junk, .junk, .junk, .junk, .junk, .junk, .junk, .junk, .junk, .junk, .junk, .nils, .int .i64 0, .int .i64 0, .junk, .junk, .junk, .junk, .junk, .junk, .junk, .junk, .junk, .junk, .junk, .junk, .junk, .junk, .junk, .junk, .junk, .junk, .junk, .junk, .junk, .junk, .junk, .junk, .junk, .junk, .junk, .junk, .junk, .junk, .junk, .junk, .junk, .junk, .junk, .junk, .junk, .junk, .junk, .junk, .junk, .junk, .junk] ∧ L = [(0, boxL R), (gc, .cells 24 [.int .i64 k, .str p, .str d, .int .i64 v]), (0, .dead), (g, .cells tI ([mv, .nils] ++ [])), (gl, lo), (gm, om), (gw, .dead), (0, boxL (ks.map kidB))]) 0
          [.ptr 0 gt 0, .int .i64 st, chA k p d v, .junk, .junk, .ptr 1 gc 0, .nils, .nils, .int .i64 0, lv, .ptr 3 g 0, .int .i64 j, .junk, .junk, .junk, .junk, .junk, .junk, .junk, .junk, .junk, .junk, .junk, .junk, .junk, .junk, .junk, .junk, .junk, .junk, .junk, .junk, .junk, .junk, .junk, .junk, .nils, .int .i64 0, .int .i64 0, .junk, .junk, .junk, .junk, .junk, .junk, .junk, .junk, .junk, .junk, .junk, .junk, .junk, .junk, .junk, .junk, .junk, .junk, .junk, .junk, .junk, .junk, .junk, .junk, .junk, .junk, .junk, .junk, .junk, .junk, .junk, .junk, .junk, .junk, .junk, .junk, .junk, .junk, .junk, .junk, .junk, .junk, .junk] _ (Weak.imp ?_ (Imp.refl _)) ⟨rfl, rfl, rfl⟩ ?_
        · exact Ss
        rintro m env L ⟨rfl, rfl, rfl⟩
        repeat(first|refine Sc ?_|refine fun(_:Nat)=>?_)
        refine ⟨fun h => absurd h (by decide), fun _ => ?_⟩
        repeat(first|refine Sc ?_|refine fun(_:Nat)=>?_)
        refine ⟨fun h => ?_, fun h => ?_⟩
        · have hjN : j = (namesOf p).length := by have h : (j : Int) = (0 : Nat) := h; simp [hn]; omega
          have hfin : (res).Perm (matchT l p st k) := by
            rw [hjN, List.drop_length] at hperm
            have := (List.Perm.append_left res (tagged_perm hws st k p)).trans hperm
            rwa [show tagged [] st k p = [] from rfl, List.append_nil] at this
          have hback : Imp [(0, boxL R), (g, .cells tI ([mv, .nils] ++ [])), (gm, om), (gw, .dead), (0, boxL (ks.map kidB))] [(0, boxL (trieL Hn go oo S))] := (Imp.app (L := [_]) (L' := [_]) (.refl _) (Imp.box 0 _)).trans hImp
          repeat(first|refine Sc ?_|refine fun(_:Nat)=>?_)
          rcases hres with ⟨e0, rfl, rfl⟩ | ⟨Cp, rfl, rfl⟩
          · refine ACallT.ok (ACall.pure _ sortT_nil ?_)
            rintro r L' ⟨rfl, rfl⟩
            refine ⟨_, Sub.refl _, ?_⟩
            repeat(first|refine Sc ?_|refine fun(_:Nat)=>?_)
            exact ⟨.nils, _, (FinOk.keepS _ [0, 3, 5, 6, 7] (Sub.refl _) (by decide) rfl (show SubL _ ([(0, boxL R), (g, .cells tI ([mv, .nils] ++ [])), (gm, om), (gw, .dead), (0, boxL (ks.map kidB))]) from by repeat(first|exact trivial|refine Zy rfl ?_|refine Zy (SubO.refl _) ?_|refine Zy trivial ?_|refine Zy (SubO.cells (by repeat(first|exact trivial|refine Zy (Sub.refl _) ?_|refine Zy (Sub.sl _ _ _ _ _) ?_|refine Zy (Sub.ptr _ _ _ _) ?_))) ?_))).trans (FinOk.imp _ (hback.trans (Imp.snocD _))), [], 0, .dead, .inl ⟨rfl, rfl, rfl⟩, by rw [if_pos hp]; rw [e0] at hfin; exact hfin, List.Pairwise.nil, rfl⟩
          · have hrl : (res).length ≤ 1000 := by have := hfin.length_eq; have := matchT_len l p st k; omega
            refine ACallT.ok (ACall.sel [4] (by decide) [.sl 0 gl Cp (res).length, .any (.func (.func 27) #[] #[])] _ ⟨Sub.sl _ _ _ _ _, Sub.refl _, trivial⟩ (sortT_spec 0 gl Cp (res) hrl) ?_)
            rintro r L' ⟨rfl, ys, h1, h2, rfl⟩
            refine ⟨_, Sub.refl _, ?_⟩
            repeat(first|refine Sc ?_|refine fun(_:Nat)=>?_)
            exact ⟨.sl 1 gl Cp ys.length, _, (FinOk.keepS _ [0, 3, 5, 6, 7, 4] (by rw [h1.length_eq]; exact Sub.sl _ _ _ _ _) (by decide) rfl (show SubL _ ([(0, boxL R), (g, .cells tI ([mv, .nils] ++ [])), (gm, om), (gw, .dead), (0, boxL (ks.map kidB)), (gl, .row tG 2 Cp (ys.map encG))]) from by repeat(first|exact trivial|refine Zy rfl ?_|refine Zy (SubO.refl _) ?_|refine Zy trivial ?_|refine Zy (SubO.cells (by repeat(first|exact trivial|refine Zy (Sub.refl _) ?_|refine Zy (Sub.sl _ _ _ _ _) ?_|refine Zy (Sub.ptr _ _ _ _) ?_))) ?_))).trans (FinOk.imp _ (Imp.app (L := [_, _, _, _, _]) (L' := [_]) (M := [_]) (M' := [_]) hback (.refl _))), ys, gl, _, .inr ⟨Cp, rfl, rfl⟩, by rw [if_pos hp]; exact h1.trans hfin, h2.imp fun h => of_decide_eq_false h, rfl⟩
        · exact absurd (show (j : Int) = 0 by rw [hn] at hjl; simp at hjl; omega) h
      · refine Run.weak0 C_ok (Weak.imp (Subs.refl _) ((Imp.nodeOpen _ _ _ _ _ _).trans (Imp.subL (show SubL _ ([(0, boxL R), (gc, .cells 24 [.int .i64 k, .str p, .str d, .int .i64 v]), (0, .dead), (g, .cells tI ([mv, .sl 6 gw Cw ws.length] ++ [])), (gl, lo), (gm, om), (gw, .row tH 5 Cw (ws.map encH)), (0, boxL (ks.map kidB))]) from by repeat(first|exact trivial|refine Zy rfl ?_|refine Zy (SubO.refl _) ?_|refine Zy trivial ?_|refine Zy (SubO.cells (by repeat(first|exact trivial|refine Zy (Sub.refl _) ?_|refine Zy (Sub.sl _ _ _ _ _) ?_|refine Zy (Sub.ptr _ _ _ _) ?_))) ?_))))) ?_
        repeat(first|refine Sc ?_|refine fun(_:Nat)=>?_)
        have hwl : ws.length ≤ 1000 := hWL
        refine Run.loopW (fun m env L => ∃ (i : Nat) (lv : AV) (gl : Nat) (lo : AObj), m = ws.length - i ∧ i ≤ ws.length ∧ LN encG tG 2 4 (res ++ tagged (ws.take i) st k p) lv gl lo ∧ env = [.ptr 0 gt 0, .int .i64 st, chA k p d v, .junk, .junk, .ptr 1 gc 0, .nils, .nils, .int .i64 0, lv, .ptr 3 g 0, .int .i64 j, .junk, .junk, .junk, .junk, .junk, .junk, .junk, .junk, .junk, .junk, .junk, .junk, .junk, .junk, .junk, .junk, .junk, .junk, .junk, .junk, .junk, .junk, .junk, .junk, .sl 6 gw Cw ws.length, .int .i64 ws.length, .int .i64 i, .junk, .junk, .junk, .junk, .junk, .junk, .junk, .junk, .junk, .junk, .junk, .junk, .junk, .junk, .junk, .junk, .junk, .junk, .junk, .junk, .junk, .junk, .junk, .junk, .junk, .junk, .junk, .junk, .junk, .junk, .junk, .junk, .junk, .junk, .junk, .junk, .junk, .junk, .junk, .junk, .junk, .junk, .junk] ∧ L = [(0, boxL R), (gc, .cells 24 [.int .i64 k, .str p, .str d, .int .i64 v]), (0, .dead), (g, .cells tI ([mv, .sl 6 gw Cw ws.length] ++ [])), (gl, lo), (gm, om), (gw, .row tH 5 Cw (ws.map encH)), (0, boxL (ks.map kidB))]) ws.length
          [.ptr 0 gt 0, .int .i64 st, chA k p d v, .junk, .junk, .ptr 1 gc 0, .nils, .nils, .int .i64 0, lv, .ptr 3 g 0, .int .i64 j, .junk, .junk, .junk, .junk, .junk, .junk, .junk, .junk, .junk, .junk, .junk, .junk, .junk, .junk, .junk, .junk, .junk, .junk, .junk, .junk, .junk, .junk, .junk, .junk, .sl 6 gw Cw ws.length, .int .i64 ws.length, .int .i64 (0 : Nat), .junk, .junk, .junk, .junk, .junk, .junk, .junk, .junk, .junk, .junk, .junk, .junk, .junk, .junk, .junk, .junk, .junk, .junk, .junk, .junk, .junk, .junk, .junk, .junk, .junk, .junk, .junk, .junk, .junk, .junk, .junk, .junk, .junk, .junk, .junk, .junk, .junk, .junk, .junk, .junk, .junk, .junk, .junk] _ (Weak.imp ?_ (Imp.refl _)) ⟨0, lv, gl, lo, by omega, by omega, by simpa [tagged] using hres, rfl, rfl⟩ ?_
        · exact Ss
        have hRL : res.length ≤ 200 := by have h1 := hperm.length_eq; have h2 := matchT_len l p st k; rw [List.length_append] at h1; omega
        clear hres lv gl lo
        rintro m env L ⟨i, lv, gl, lo, rfl, hi, hres, rfl, rfl⟩
        repeat(first|refine Sc ?_|refine fun(_:Nat)=>?_)
        refine ⟨fun h => ?_, fun h => ?_⟩
        · have h : (i : Int) < (ws.length : Int) := h
          obtain ⟨x, ex⟩ : ∃ x, ws[i]? = some x := ⟨_, List.getElem?_eq_getElem (by omega)⟩
          repeat(first|refine Sc ?_|refine fun(_:Nat)=>?_)
          refine ⟨h, ?_⟩
          repeat(first|refine Sc ?_|refine fun(_:Nat)=>?_)
          refine ⟨encH x, map_at encH ex, ?_⟩
          repeat(first|refine Sc ?_|refine fun(_:Nat)=>?_)
          refine ⟨fun hf => ?_, fun hf => ?_⟩
          · have hf : x.w.f < st := hf
            by_cases hc : coversP x.w.k x.w.p k p
            · repeat(first|refine Sc ?_|refine fun(_:Nat)=>?_)
              refine ACallT.ok (ACall.ret (covers_is (decide_eq_true hc)) ?_)
              repeat(first|refine Sc ?_|refine fun(_:Nat)=>?_)
              refine ACallT.ok (ACall.ret (tag_spec x) ?_)
              repeat(first|refine Sc ?_|refine fun(_:Nat)=>?_)
              rcases hres with ⟨e0, rfl, rfl⟩ | ⟨Cp, rfl, rfl⟩
              · repeat(first|refine Sc ?_|refine fun(_:Nat)=>?_)
                refine ⟨fun h => absurd h (List.cons_ne_nil _ _), fun _ => ?_⟩
                repeat(first|refine Sc ?_|refine fun(_:Nat)=>?_)
                rename_i g' Cp'
                refine fun r hr => ?_
                obtain rfl := add1 hr (by omega)
                repeat(first|refine Sc ?_|refine fun(_:Nat)=>?_)
                refine Cont.lpW ?_
                refine ⟨ws.length - (i + 1), _, _, by omega, Weak.sel ?_ [0, 1, 2, 3, 10, 5, 6, 7] (by decide) ?_, ⟨i + 1, .sl 4 g' Cp' 1, g', _, rfl, by omega, by rw [tagged_yes ex ⟨hf, hc⟩, ← List.append_assoc]; exact LN1 _ e0, rfl, rfl⟩⟩
                · exact Ss
                · exact Sl
              · repeat(first|refine Sc ?_|refine fun(_:Nat)=>?_)
                refine ⟨by simp, ?_⟩
                repeat(first|refine Sc ?_|refine fun(_:Nat)=>?_)
                refine ⟨by show (_ + 1) * _ ≤ _; rw [List.length_map, List.length_append]; have := tagged_len (ws.take i) st k p; rw [List.length_take] at this; omega, ?_⟩
                repeat(first|refine Sc ?_|refine fun(_:Nat)=>?_)
                rename_i g' Cp'
                refine fun r hr => ?_
                obtain rfl := add1 hr (by omega)
                repeat(first|refine Sc ?_|refine fun(_:Nat)=>?_)
                refine Cont.lpW ?_
                refine ⟨ws.length - (i + 1), _, _, by omega, Weak.sel ?_ [0, 1, 2, 3, 4, 5, 6, 7] (by decide) ?_, ⟨i + 1, .sl 4 g' Cp' (((res ++ tagged (ws.take i) st k p).map encG).length + 1), g', _, rfl, by omega, by rw [tagged_yes ex ⟨hf, hc⟩, ← List.append_assoc]; exact LN2 _, rfl, rfl⟩⟩
                · exact Ss
                · exact Sl
            · repeat(first|refine Sc ?_|refine fun(_:Nat)=>?_)
              refine ACallT.ok (ACall.ret (covers_is (decide_eq_false hc)) ?_)
              repeat(first|refine Sc ?_|refine fun(_:Nat)=>?_)
              refine fun r hr => ?_
              obtain rfl := add1 hr (by omega)
              repeat(first|refine Sc ?_|refine fun(_:Nat)=>?_)
              refine Cont.lpW ?_
              refine ⟨ws.length - (i + 1), _, _, by omega, Weak.sel ?_ [0, 1, 2, 3, 4, 5, 6, 7] (by decide) ?_, ⟨i + 1, lv, gl, _, rfl, by omega, by rw [tagged_no ex (fun e => hc e.2)]; exact hres, rfl, rfl⟩⟩
              · exact Ss
              · exact Sl
          · have hf : ¬ x.w.f < st := hf
            repeat(first|refine Sc ?_|refine fun(_:Nat)=>?_)
            refine fun r hr => ?_
            obtain rfl := add1 hr (by omega)
            repeat(first|refine Sc ?_|refine fun(_:Nat)=>?_)
            refine Cont.lpW ?_
            refine ⟨ws.length - (i + 1), _, _, by omega, Weak.sel ?_ [0, 1, 2, 3, 4, 5, 6, 7] (by decide) ?_, ⟨i + 1, lv, gl, _, rfl, by omega, by rw [tagged_no ex (fun e => hf e.1)]; exact hres, rfl, rfl⟩⟩
            · exact Ss
            · exact Sl
        · have h : ¬ (i : Int) < (ws.length : Int) := h
          obtain rfl : i = ws.length := by omega
          rw [List.take_length] at hres
          repeat(first|refine Sc ?_|refine fun(_:Nat)=>?_)
          refine ⟨fun h => ?_, fun h => ?_⟩
          · have hjN : j = (namesOf p).length := by have h : (j : Int) = (0 : Nat) := h; simp [hn]; omega
            have hfin : (res ++ tagged ws st k p).Perm (matchT l p st k) := by
              rw [hjN, List.drop_length] at hperm
              exact (List.Perm.append_left _ (tagged_perm hws st k p)).trans hperm
            have hback : Imp [(0, boxL R), (g, .cells tI ([mv, .sl 2 gw Cw ws.length] ++ [])), (gm, om), (gw, .row tH 5 Cw (ws.map encH)), (0, boxL (ks.map kidB))] [(0, boxL (trieL Hn go oo S))] := (Imp.app (L := [_]) (L' := [_]) (.refl _) (Imp.box 0 _)).trans hImp
            repeat(first|refine Sc ?_|refine fun(_:Nat)=>?_)
            rcases hres with ⟨e0, rfl, rfl⟩ | ⟨Cp, rfl, rfl⟩
            · refine ACallT.ok (ACall.pure _ sortT_nil ?_)
              rintro r L' ⟨rfl, rfl⟩
              refine ⟨_, Sub.refl _, ?_⟩
              repeat(first|refine Sc ?_|refine fun(_:Nat)=>?_)
              exact ⟨.nils, _, (FinOk.keepS _ [0, 3, 5, 6, 7] (Sub.refl _) (by decide) rfl (show SubL _ ([(0, boxL R), (g, .cells tI ([mv, .sl 2 gw Cw ws.length] ++ [])), (gm, om), (gw, .row tH 5 Cw (ws.map encH)), (0, boxL (ks.map kidB))]) from by repeat(first|exact trivial|refine Zy rfl ?_|refine Zy (SubO.refl _) ?_|refine Zy trivial ?_|refine Zy (SubO.cells (by repeat(first|exact trivial|refine Zy (Sub.refl _) ?_|refine Zy (Sub.sl _ _ _ _ _) ?_|refine Zy (Sub.ptr _ _ _ _) ?_))) ?_))).trans (FinOk.imp _ (hback.trans (Imp.snocD _))), [], 0, .dead, .inl ⟨rfl, rfl, rfl⟩, by rw [if_pos hp]; rw [e0] at hfin; exact hfin, List.Pairwise.nil, rfl⟩
            · have hrl : (res ++ tagged ws st k p).length ≤ 1000 := by have := hfin.length_eq; have := matchT_len l p st k; omega
              refine ACallT.ok (ACall.sel [4] (by decide) [.sl 0 gl Cp (res ++ tagged ws st k p).length, .any (.func (.func 27) #[] #[])] _ ⟨Sub.sl _ _ _ _ _, Sub.refl _, trivial⟩ (sortT_spec 0 gl Cp (res ++ tagged ws st k p) hrl) ?_)
              rintro r L' ⟨rfl, ys, h1, h2, rfl⟩
              refine ⟨_, Sub.refl _, ?_⟩
              repeat(first|refine Sc ?_|refine fun(_:Nat)=>?_)
              exact ⟨.sl 1 gl Cp ys.length, _, (FinOk.keepS _ [0, 3, 5, 6, 7, 4] (by rw [h1.length_eq]; exact Sub.sl _ _ _ _ _) (by decide) rfl (show SubL _ ([(0, boxL R), (g, .cells tI ([mv, .sl 2 gw Cw ws.length] ++ [])), (gm, om), (gw, .row tH 5 Cw (ws.map encH)), (0, boxL (ks.map kidB)), (gl, .row tG 2 Cp (ys.map encG))]) from by repeat(first|exact trivial|refine Zy rfl ?_|refine Zy (SubO.refl _) ?_|refine Zy trivial ?_|refine Zy (SubO.cells (by repeat(first|exact trivial|refine Zy (Sub.refl _) ?_|refine Zy (Sub.sl _ _ _ _ _) ?_|refine Zy (Sub.ptr _ _ _ _) ?_))) ?_))).trans (FinOk.imp _ (Imp.app (L := [_, _, _, _, _]) (L' := [_]) (M := [_]) (M' := [_]) hback (.refl _))), ys, gl, _, .inr ⟨Cp, rfl, rfl⟩, by rw [if_pos hp]; exact h1.trans hfin, h2.imp fun h => of_decide_eq_false h, rfl⟩
          · exact absurd (show (j : Int) = 0 by rw [hn] at hjl; simp at hjl; omega) h
    · repeat(first|refine Za ?_|refine Zb ?_|refine Zy rfl ?_|refine Z2 rfl ?_|refine Z3 ?_|refine fun(_:Nat)=>?_|refine Run.goN rfl ?_|refine Zo rfl ?_)
      rcases hw with ⟨rfl, rfl, rfl⟩ | ⟨Cw, rfl, rfl⟩
      · refine Run.weak0 C_ok (Weak.imp (Subs.refl _) (Imp.nodeOpen _ _ _ _ _ _)) ?_
        repeat(first|refine Sc ?_|refine fun(_:Nat)=>?_)
        refine Run.loopW (fun m env L => m = 0 ∧ env = [.ptr 0 gt 0, .int .i64 st, chA k p d v, .junk, .junk, .ptr 1 gc 0, .nils, .nils, .int .i64 0, lv, .ptr 3 g 0, .int .i64 j, .junk, .junk, .junk, .junk, .junk, .junk, .junk, .junk, .junk, .junk, .junk, .junk, .junk, .junk, .junk, .junk, .junk, .junk, .junk, .junk, .junk, .junk, .junk, .junk, .nils, .int .i64 0, .int .i64 0, .junk, .junk, .junk, .junk, .junk, .junk, .junk, .junk, .junk, .junk, .junk, .junk, .junk, .junk, .junk, .junk, .junk, .junk, .junk, .junk, .junk, .junk, .junk, .junk, .junk, .junk, .junk, .junk, .junk, .junk, .junk, .junk, .junk, .junk, .junk, .junk, .junk, .junk, .junk, .junk, .junk, .junk, .junk] ∧ L = [(0, boxL R), (gc, .cells 24 [.int .i64 k, .str p, .str d, .int .i64 v]), (0, .dead), (g, .cells tT ([mv, .nils] ++ [ofv])), (gl, lo), (gm, om), (gw, .dead), (0, boxL (ks.map kidB))]) 0
          [.ptr 0 gt 0, .int .i64 st, chA k p d v, .junk, .junk, .ptr 1 gc 0, .nils, .nils, .int .i64 0, lv, .ptr 3 g 0, .int .i64 j, .junk, .junk, .junk, .junk, .junk, .junk, .junk, .junk, .junk, .junk, .junk, .junk, .junk, .junk, .junk, .junk, .junk, .junk, .junk, .junk, .junk, .junk, .junk, .junk, .nils, .int .i64 0, .int .i64 0, .junk, .junk, .junk, .junk, .junk, .junk, .junk, .junk, .junk, .junk, .junk, .junk, .junk, .junk, .junk, .junk, .junk, .junk, .junk, .junk, .junk, .junk, .junk, .junk, .junk, .junk, .junk, .junk, .junk, .junk, .junk, .junk, .junk, .junk, .junk, .junk, .junk, .junk, .junk, .junk, .junk, .junk, .junk] _ (Weak.imp ?_ (Imp.refl _)) ⟨rfl, rfl, rfl⟩ ?_
        · exact Ss
        rintro m env L ⟨rfl, rfl, rfl⟩
        repeat(first|refine Sc ?_|refine fun(_:Nat)=>?_)
        refine ⟨fun h => absurd h (by decide), fun _ => ?_⟩
        repeat(first|refine Sc ?_|refine fun(_:Nat)=>?_)
        refine ⟨fun h => ?_, fun h => ?_⟩
        · have hjN : j = (namesOf p).length := by have h : (j : Int) = (0 : Nat) := h; simp [hn]; omega
          have hfin : (res).Perm (matchT l p st k) := by
            rw [hjN, List.drop_length] at hperm
            have := (List.Perm.append_left res (tagged_perm hws st k p)).trans hperm
            rwa [show tagged [] st k p = [] from rfl, List.append_nil] at this
          have hback : Imp [(0, boxL R), (g, .cells tT ([mv, .nils] ++ [ofv])), (gm, om), (gw, .dead), (0, boxL (ks.map kidB))] [(0, boxL (trieL Hn go oo S))] := (Imp.app (L := [_]) (L' := [_]) (.refl _) (Imp.box 0 _)).trans hImp
          repeat(first|refine Sc ?_|refine fun(_:Nat)=>?_)
          rcases hres with ⟨e0, rfl, rfl⟩ | ⟨Cp, rfl, rfl⟩
          · refine ACallT.ok (ACall.pure _ sortT_nil ?_)
            rintro r L' ⟨rfl, rfl⟩
            refine ⟨_, Sub.refl _, ?_⟩
            repeat(first|refine Sc ?_|refine fun(_:Nat)=>?_)
            exact ⟨.nils, _, (FinOk.keepS _ [0, 3, 5, 6, 7] (Sub.refl _) (by decide) rfl (show SubL _ ([(0, boxL R), (g, .cells tT ([mv, .nils] ++ [ofv])), (gm, om), (gw, .dead), (0, boxL (ks.map kidB))]) from by repeat(first|exact trivial|refine Zy rfl ?_|refine Zy (SubO.refl _) ?_|refine Zy trivial ?_|refine Zy (SubO.cells (by repeat(first|exact trivial|refine Zy (Sub.refl _) ?_|refine Zy (Sub.sl _ _ _ _ _) ?_|refine Zy (Sub.ptr _ _ _ _) ?_))) ?_))).trans (FinOk.imp _ (hback.trans (Imp.snocD _))), [], 0, .dead, .inl ⟨rfl, rfl, rfl⟩, by rw [if_pos hp]; rw [e0] at hfin; exact hfin, List.Pairwise.nil, rfl⟩
          · have hrl : (res).length ≤ 1000 := by have := hfin.length_eq; have := matchT_len l p st k; omega
            refine ACallT.ok (ACall.sel [4] (by decide) [.sl 0 gl Cp (res).length, .any (.func (.func 27) #[] #[])] _ ⟨Sub.sl _ _ _ _ _, Sub.refl _, trivial⟩ (sortT_spec 0 gl Cp (res) hrl) ?_)
            rintro r L' ⟨rfl, ys, h1, h2, rfl⟩
            refine ⟨_, Sub.refl _, ?_⟩
            repeat(first|refine Sc ?_|refine fun(_:Nat)=>?_)
            exact ⟨.sl 1 gl Cp ys.length, _, (FinOk.keepS _ [0, 3, 5, 6, 7, 4] (by rw [h1.length_eq]; exact Sub.sl _ _ _ _ _) (by decide) rfl (show SubL _ ([(0, boxL R), (g, .cells tT ([mv, .nils] ++ [ofv])), (gm, om), (gw, .dead), (0, boxL (ks.map kidB)), (gl, .row tG 2 Cp (ys.map encG))]) from by repeat(first|exact trivial|refine Zy rfl ?_|refine Zy (SubO.refl _) ?_|refine Zy trivial ?_|refine Zy (SubO.cells (by repeat(first|exact trivial|refine Zy (Sub.refl _) ?_|refine Zy (Sub.sl _ _ _ _ _) ?_|refine Zy (Sub.ptr _ _ _ _) ?_))) ?_))).trans (FinOk.imp _ (Imp.app (L := [_, _, _, _, _]) (L' := [_]) (M := [_]) (M' := [_]) hback (.refl _))), ys, gl, _, .inr ⟨Cp, rfl, rfl⟩, by rw [if_pos hp]; exact h1.trans hfin, h2.imp fun h => of_decide_eq_false h, rfl⟩
        · exact absurd (show (j : Int) = 0 by rw [hn] at hjl; simp at hjl; omega) h
      · refine Run.weak0 C_ok (Weak.imp (Subs.refl _) ((Imp.nodeOpen _ _ _ _ _ _).trans (Imp.subL (show SubL _ ([(0, boxL R), (gc, .cells 24 [.int .i64 k, .str p, .str d, .int .i64 v]), (0, .dead), (g, .cells tT ([mv, .sl 6 gw Cw ws.length] ++ [ofv])), (gl, lo), (gm, om), (gw, .row tH 5 Cw (ws.map encH)), (0, boxL (ks.map kidB))]) from by repeat(first|exact trivial|refine Zy rfl ?_|refine Zy (SubO.refl _) ?_|refine Zy trivial ?_|refine Zy (SubO.cells (by repeat(first|exact trivial|refine Zy (Sub.refl _) ?_|refine Zy (Sub.sl _ _ _ _ _) ?_|refine Zy (Sub.ptr _ _ _ _) ?_))) ?_))))) ?_
        repeat(first|refine Sc ?_|refine fun(_:Nat)=>?_)
        have hwl : ws.length ≤ 1000 := hWL
        refine Run.loopW (fun m env L => ∃ (i : Nat) (lv : AV) (gl : Nat) (lo : AObj), m = ws.length - i ∧ i ≤ ws.length ∧ LN encG tG 2 4 (res ++ tagged (ws.take i) st k p) lv gl lo ∧ env = [.ptr 0 gt 0, .int .i64 st, chA k p d v, .junk, .junk, .ptr 1 gc 0, .nils, .nils, .int .i64 0, lv, .ptr 3 g 0, .int .i64 j, .junk, .junk, .junk, .junk, .junk, .junk, .junk, .junk, .junk, .junk, .junk, .junk, .junk, .junk, .junk, .junk, .junk, .junk, .junk, .junk, .junk, .junk, .junk, .junk, .sl 6 gw Cw ws.length, .int .i64 ws.length, .int .i64 i, .junk, .junk, .junk, .junk, .junk, .junk, .junk, .junk, .junk, .junk, .junk, .junk, .junk, .junk, .junk, .junk, .junk, .junk, .junk, .junk, .junk, .junk, .junk, .junk, .junk, .junk, .junk, .junk, .junk, .junk, .junk, .junk, .junk, .junk, .junk, .junk, .junk, .junk, .junk, .junk, .junk, .junk, .junk] ∧ L = [(0, boxL R), (gc, .cells 24 [.int .i64 k, .str p, .str d, .int .i64 v]), (0, .dead), (g, .cells tT ([mv, .sl 6 gw Cw ws.length] ++ [ofv])), (gl, lo), (gm, om), (gw, .row tH 5 Cw (ws.map encH)), (0, boxL (ks.map kidB))]) ws.length
          [.ptr 0 gt 0, .int .i64 st, chA k p d v, .junk, .junk, .ptr 1 gc 0, .nils, .nils, .int .i64 0, lv, .ptr 3 g 0, .int .i64 j, .junk, .junk, .junk, .junk, .junk, .junk, .junk, .junk, .junk, .junk, .junk, .junk, .junk, .junk, .junk, .junk, .junk, .junk, .junk, .junk, .junk, .junk, .junk, .junk, .sl 6 gw Cw ws.length, .int .i64 ws.length, .int .i64 (0 : Nat), .junk, .junk, .junk, .junk, .junk, .junk, .junk, .junk, .junk, .junk, .junk, .junk, .junk, .junk, .junk, .junk, .junk, .junk, .junk, .junk, .junk, .junk, .junk, .junk, .junk, .junk, .junk, .junk, .junk, .junk, .junk, .junk, .junk, .junk, .junk, .junk, .junk, .junk, .junk, .junk, .junk, .junk, .junk] _ (Weak.imp ?_ (Imp.refl _)) ⟨0, lv, gl, lo, by omega, by omega, by simpa [tagged] using hres, rfl, rfl⟩ ?_
        · exact Ss
        have hRL : res.length ≤ 200 := by have h1 := hperm.length_eq; have h2 := matchT_len l p st k; rw [List.length_append] at h1; omega
        clear hres lv gl lo
        rintro m env L ⟨i, lv, gl, lo, rfl, hi, hres, rfl, rfl⟩
        repeat(first|refine Sc ?_|refine fun(_:Nat)=>?_)
        refine ⟨fun h => ?_, fun h => ?_⟩
        · have h : (i : Int) < (ws.length : Int) := h
          obtain ⟨x, ex⟩ : ∃ x, ws[i]? = some x := ⟨_, List.getElem?_eq_getElem (by omega)⟩
          repeat(first|refine Sc ?_|refine fun(_:Nat)=>?_)
          refine ⟨h, ?_⟩
          repeat(first|refine Sc ?_|refine fun(_:Nat)=>?_)
          refine ⟨encH x, map_at encH ex, ?_⟩
          repeat(first|refine Sc ?_|refine fun(_:Nat)=>?_)
          refine ⟨fun hf => ?_, fun hf => ?_⟩
          · have hf : x.w.f < st := hf
            by_cases hc : coversP x.w.k x.w.p k p
            · repeat(first|refine Sc ?_|refine fun(_:Nat)=>?_)
              refine ACallT.ok (ACall.ret (covers_is (decide_eq_true hc)) ?_)
              repeat(first|refine Sc ?_|refine fun(_:Nat)=>?_)
              refine ACallT.ok (ACall.ret (tag_spec x) ?_)
              repeat(first|refine Sc ?_|refine fun(_:Nat)=>?_)
              rcases hres with ⟨e0, rfl, rfl⟩ | ⟨Cp, rfl, rfl⟩
              · repeat(first|refine Sc ?_|refine fun(_:Nat)=>?_)
                refine ⟨fun h => absurd h (List.cons_ne_nil _ _), fun _ => ?_⟩
                repeat(first|refine Sc ?_|refine fun(_:Nat)=>?_)
                rename_i g' Cp'
                refine fun r hr => ?_
                obtain rfl := add1 hr (by omega)
                repeat(first|refine Sc ?_|refine fun(_:Nat)=>?_)
                refine Cont.lpW ?_
                refine ⟨ws.length - (i + 1), _, _, by omega, Weak.sel ?_ [0, 1, 2, 3, 10, 5, 6, 7] (by decide) ?_, ⟨i + 1, .sl 4 g' Cp' 1, g', _, rfl, by omega, by rw [tagged_yes ex ⟨hf, hc⟩, ← List.append_assoc]; exact LN1 _ e0, rfl, rfl⟩⟩
                · exact Ss
                · exact Sl
              · repeat(first|refine Sc ?_|refine fun(_:Nat)=>?_)
                refine ⟨by simp, ?_⟩
                repeat(first|refine Sc ?_|refine fun(_:Nat)=>?_)
                refine ⟨by show (_ + 1) * _ ≤ _; rw [List.length_map, List.length_append]; have := tagged_len (ws.take i) st k p; rw [List.length_take] at this; omega, ?_⟩
                repeat(first|refine Sc ?_|refine fun(_:Nat)=>?_)
                rename_i g' Cp'
                refine fun r hr => ?_
                obtain rfl := add1 hr (by omega)
                repeat(first|refine Sc ?_|refine fun(_:Nat)=>?_)
                refine Cont.lpW ?_
                refine ⟨ws.length - (i + 1), _, _, by omega, Weak.sel ?_ [0, 1, 2, 3, 4, 5, 6, 7] (by decide) ?_, ⟨i + 1, .sl 4 g' Cp' (((res ++ tagged (ws.take i) st k p).map encG).length + 1), g', _, rfl, by omega, by rw [tagged_yes ex ⟨hf, hc⟩, ← List.append_assoc]; exact LN2 _, rfl, rfl⟩⟩
                · exact Ss
                · exact Sl
            · repeat(first|refine Sc ?_|refine fun(_:Nat)=>?_)
              refine ACallT.ok (ACall.ret (covers_is (decide_eq_false hc)) ?_)
              repeat(first|refine Sc ?_|refine fun(_:Nat)=>?_)
              refine fun r hr => ?_
              obtain rfl := add1 hr (by omega)
              repeat(first|refine Sc ?_|refine fun(_:Nat)=>?_)
              refine Cont.lpW ?_
              refine ⟨ws.length - (i + 1), _, _, by omega, Weak.sel ?_ [0, 1, 2, 3, 4, 5, 6, 7] (by decide) ?_, ⟨i + 1, lv, gl, _, rfl, by omega, by rw [tagged_no ex (fun e => hc e.2)]; exact hres, rfl, rfl⟩⟩
              · exact Ss
              · exact Sl
          · have hf : ¬ x.w.f < st := hf
            repeat(first|refine Sc ?_|refine fun(_:Nat)=>?_)
            refine fun r hr => ?_
            obtain rfl := add1 hr (by omega)
            repeat(first|refine Sc ?_|refine fun(_:Nat)=>?_)
            refine Cont.lpW ?_
            refine ⟨ws.length - (i + 1), _, _, by omega, Weak.sel ?_ [0, 1, 2, 3, 4, 5, 6, 7] (by decide) ?_, ⟨i + 1, lv, gl, _, rfl, by omega, by rw [tagged_no ex (fun e => hf e.1)]; exact hres, rfl, rfl⟩⟩
            · exact Ss
            · exact Sl
        · have h : ¬ (i : Int) < (ws.length : Int) := h
          obtain rfl : i = ws.length := by omega
          rw [List.take_length] at hres
          repeat(first|refine Sc ?_|refine fun(_:Nat)=>?_)
          refine ⟨fun h => ?_, fun h => ?_⟩
          · have hjN : j = (namesOf p).length := by have h : (j : Int) = (0 : Nat) := h; simp [hn]; omega
            have hfin : (res ++ tagged ws st k p).Perm (matchT l p st k) := by
              rw [hjN, List.drop_length] at hperm
              exact (List.Perm.append_left _ (tagged_perm hws st k p)).trans hperm
            have hback : Imp [(0, boxL R), (g, .cells tT ([mv, .sl 2 gw Cw ws.length] ++ [ofv])), (gm, om), (gw, .row tH 5 Cw (ws.map encH)), (0, boxL (ks.map kidB))] [(0, boxL (trieL Hn go oo S))] := (Imp.app (L := [_]) (L' := [_]) (.refl _) (Imp.box 0 _)).trans hImp
            repeat(first|refine Sc ?_|refine fun(_:Nat)=>?_)
            rcases hres with ⟨e0, rfl, rfl⟩ | ⟨Cp, rfl, rfl⟩
            · refine ACallT.ok (ACall.pure _ sortT_nil ?_)
              rintro r L' ⟨rfl, rfl⟩
              refine ⟨_, Sub.refl _, ?_⟩
              repeat(first|refine Sc ?_|refine fun(_:Nat)=>?_)
              exact ⟨.nils, _, (FinOk.keepS _ [0, 3, 5, 6, 7] (Sub.refl _) (by decide) rfl (show SubL _ ([(0, boxL R), (g, .cells tT ([mv, .sl 2 gw Cw ws.length] ++ [ofv])), (gm, om), (gw, .row tH 5 Cw (ws.map encH)), (0, boxL (ks.map kidB))]) from by repeat(first|exact trivial|refine Zy rfl ?_|refine Zy (SubO.refl _) ?_|refine Zy trivial ?_|refine Zy (SubO.cells (by repeat(first|exact trivial|refine Zy (Sub.refl _) ?_|refine Zy (Sub.sl _ _ _ _ _) ?_|refine Zy (Sub.ptr _ _ _ _) ?_))) ?_))).trans (FinOk.imp _ (hback.trans (Imp.snocD _))), [], 0, .dead, .inl ⟨rfl, rfl, rfl⟩, by rw [if_pos hp]; rw [e0] at hfin; exact hfin, List.Pairwise.nil, rfl⟩
            · have hrl : (res ++ tagged ws st k p).length ≤ 1000 := by have := hfin.length_eq; have := matchT_len l p st k; omega
              refine ACallT.ok (ACall.sel [4] (by decide) [.sl 0 gl Cp (res ++ tagged ws st k p).length, .any (.func (.func 27) #[] #[])] _ ⟨Sub.sl _ _ _ _ _, Sub.refl _, trivial⟩ (sortT_spec 0 gl Cp (res ++ tagged ws st k p) hrl) ?_)
              rintro r L' ⟨rfl, ys, h1, h2, rfl⟩
              refine ⟨_, Sub.refl _, ?_⟩
              repeat(first|refine Sc ?_|refine fun(_:Nat)=>?_)
              exact ⟨.sl 1 gl Cp ys.length, _, (FinOk.keepS _ [0, 3, 5, 6, 7, 4] (by rw [h1.length_eq]; exact Sub.sl _ _ _ _ _) (by decide) rfl (show SubL _ ([(0, boxL R), (g, .cells tT ([mv, .sl 2 gw Cw ws.length] ++ [ofv])), (gm, om), (gw, .row tH 5 Cw (ws.map encH)), (0, boxL (ks.map kidB)), (gl, .row tG 2 Cp (ys.map encG))]) from by repeat(first|exact trivial|refine Zy rfl ?_|refine Zy (SubO.refl _) ?_|refine Zy trivial ?_|refine Zy (SubO.cells (by repeat(first|exact trivial|refine Zy (Sub.refl _) ?_|refine Zy (Sub.sl _ _ _ _ _) ?_|refine Zy (Sub.ptr _ _ _ _) ?_))) ?_))).trans (FinOk.imp _ (Imp.app (L := [_, _, _, _, _]) (L' := [_]) (M := [_]) (M' := [_]) hback (.refl _))), ys, gl, _, .inr ⟨Cp, rfl, rfl⟩, by rw [if_pos hp]; exact h1.trans hfin, h2.imp fun h => of_decide_eq_false h, rfl⟩
          · exact absurd (show (j : Int) = 0 by rw [hn] at hjl; simp at hjl; omega) h
  · refine ⟨.tuple [.sl 2 gn (namesOf p).length (namesOf p).length, .int .i64 0], Sub.tuples ⟨Sub.sl _ _ _ _ _, Sub.refl _, trivial⟩, ?_⟩
    repeat(first|refine Sc ?_|refine fun(_:Nat)=>?_)
    refine ⟨fun h => absurd rfl h, fun _ => ?_⟩
    repeat(first|refine Sc ?_|refine fun(_:Nat)=>?_)
    rename_i gc _hz
    refine Run.loopW (fun m env L => ∃ (j : Nat) (R Hc : AHeap) (res : List Tg) (lv np : AV) (gl : Nat) (lo : AObj), m = 8 - j ∧ j ≤ 7 ∧ j ≤ (namesOf p).length + 1 ∧ LN encG tG 2 4 res lv gl lo ∧ Imp [(0, boxL R), (0, boxL Hc)] [(0, boxL (trieL Hn go oo S))] ∧
        ((np = .nilp ∧ res.Perm (matchT l p st k)) ∨ (j ≤ (namesOf p).length ∧ ∃ g lc t ex, np = .ptr 3 g 0 ∧ (t = tI ∧ ex = [] ∨ t = tT ∧ ex = [ofv]) ∧ lc.length ≤ 200 ∧ IsN t ex lc g Hc ∧ (res ++ (tagged (pathN lc ((namesOf p).drop j)) st k p)).Perm (matchT l p st k))) ∧
        env = [.ptr 0 gt 0, .int .i64 st, chA k p d v, .junk, .junk, .ptr 1 gc 0, .nils, (.sl 2 gn (namesOf p).length (namesOf p).length), .int .i64 0, lv, np, .int .i64 j, .junk, .junk, .junk, .junk, .junk, .junk, .junk, .junk, .junk, .junk, .junk, .junk, .junk, .junk, .junk, .junk, .junk, .junk, .junk, .junk, .junk, .junk, .junk, .junk, .junk, .junk, .junk, .junk, .junk, .junk, .junk, .junk, .junk, .junk, .junk, .junk, .junk, .junk, .junk, .junk, .junk, .junk, .junk, .junk, .junk, .junk, .junk, .junk, .junk, .junk, .junk, .junk, .junk, .junk, .junk, .junk, .junk, .junk, .junk, .junk, .junk, .junk, .junk, .junk, .junk, .junk, .junk, .junk, .junk, .junk] ∧ L = [(0, boxL R), (gc, .cells 24 [.int .i64 k, .str p, .str d, .int .i64 v]), (gn, .row 9 1 (namesOf p).length ((namesOf p).map .str)), (0, boxL Hc), (gl, lo)]) 8
      [.ptr 0 gt 0, .int .i64 st, chA k p d v, .junk, .junk, .ptr 1 gc 0, .nils, (.sl 2 gn (namesOf p).length (namesOf p).length), .int .i64 0, .nils, (.ptr 3 gt 0), .int .i64 (0 : Nat), .junk, .junk, .junk, .junk, .junk, .junk, .junk, .junk, .junk, .junk, .junk, .junk, .junk, .junk, .junk, .junk, .junk, .junk, .junk, .junk, .junk, .junk, .junk, .junk, .junk, .junk, .junk, .junk, .junk, .junk, .junk, .junk, .junk, .junk, .junk, .junk, .junk, .junk, .junk, .junk, .junk, .junk, .junk, .junk, .junk, .junk, .junk, .junk, .junk, .junk, .junk, .junk, .junk, .junk, .junk, .junk, .junk, .junk, .junk, .junk, .junk, .junk, .junk, .junk, .junk, .junk, .junk, .junk, .junk, .junk] _ (Weak.imp ?_ (Imp.matchStart Hn go oo S _))
      ⟨0, _, Hn, [], .nils, _, 0, .dead, rfl, by omega, by omega, .inl ⟨rfl, rfl, rfl⟩, Imp.matchBack Hn go oo S, .inr ⟨by omega, gt, l, tT, [ofv], rfl, .inr ⟨rfl, rfl⟩, hl, hN, List.Perm.refl _⟩, rfl, rfl⟩ ?_
    · exact Ss
    rintro m env L ⟨j, R, Hc, res, lv, np, gl, lo, rfl, hj7, hjn, hres, hImp, hnp, rfl, rfl⟩
    rcases hnp with ⟨rfl, hperm⟩ | ⟨hjl, g, lc, t, ex, rfl, htx, hlc, hNc, hperm⟩
    · repeat(first|refine Sc ?_|refine fun(_:Nat)=>?_)
      rcases hres with ⟨e0, rfl, rfl⟩ | ⟨Cp, rfl, rfl⟩
      · refine ACallT.ok (ACall.pure _ sortT_nil ?_)
        rintro r L' ⟨rfl, rfl⟩
        refine ⟨_, Sub.refl _, ?_⟩
        repeat(first|refine Sc ?_|refine fun(_:Nat)=>?_)
        exact ⟨.nils, _, (FinOk.keep _ [0, 3] (Sub.refl _) (by decide) rfl).trans (FinOk.imp _ (hImp.trans (Imp.snocD _))), [], 0, .dead, .inl ⟨rfl, rfl, rfl⟩, by rw [if_pos hp]; rw [e0] at hperm; exact hperm, List.Pairwise.nil, rfl⟩
      · have hrl : res.length ≤ 1000 := by rw [hperm.length_eq]; have := matchT_len l p st k; omega
        refine ACallT.ok (ACall.sel [4] (by decide) [.sl 0 gl Cp res.length, .any (.func (.func 27) #[] #[])] _ ⟨Sub.sl _ _ _ _ _, Sub.refl _, trivial⟩ (sortT_spec 0 gl Cp res hrl) ?_)
        rintro r L' ⟨rfl, ys, h1, h2, rfl⟩
        refine ⟨_, Sub.refl _, ?_⟩
        repeat(first|refine Sc ?_|refine fun(_:Nat)=>?_)
        exact ⟨.sl 1 gl Cp ys.length, _, (FinOk.keep _ [0, 3, 4] (by rw [h1.length_eq]; exact Sub.sl _ _ _ _ _) (by decide) rfl).trans (FinOk.imp _ (Imp.app (L := [_, _]) (L' := [_]) (M := [_]) (M' := [_]) hImp (.refl _))), ys, gl, _, .inr ⟨Cp, rfl, rfl⟩, by rw [if_pos hp]; exact h1.trans hperm, h2.imp fun h => of_decide_eq_false h, rfl⟩
    obtain ⟨_, _, _, _, mv, wv, gm, gw, om, ow, ws, ks, hw, hws, hm, hk, hnd, hin⟩ := hNc
    have hWL : ws.length ≤ 1000 := by rw [hws.length_eq]; have := here_len lc; omega
    rcases htx with ⟨rfl, rfl⟩ | ⟨rfl, rfl⟩
    · repeat(first|refine Za ?_|refine Zb ?_|refine Zy rfl ?_|refine Z2 rfl ?_|refine Z3 ?_|refine fun(_:Nat)=>?_|refine Run.goN rfl ?_|refine Zo rfl ?_)
      rcases hw with ⟨rfl, rfl, rfl⟩ | ⟨Cw, rfl, rfl⟩
      · refine Run.weak0 C_ok (Weak.imp (Subs.refl _) (Imp.nodeOpen _ _ _ _ _ _)) ?_
        repeat(first|refine Sc ?_|refine fun(_:Nat)=>?_)
        refine Run.loopW (fun m env L => m = 0 ∧ env = [.ptr 0 gt 0, .int .i64 st, chA k p d v, .junk, .junk, .ptr 1 gc 0, .nils, (.sl 2 gn (namesOf p).length (namesOf p).length), .int .i64 0, lv, .ptr 3 g 0, .int .i64 j, .junk, .junk, .junk, .junk, .junk, .junk, .junk, .junk, .junk, .junk, .junk, .junk, .junk, .junk, .junk, .junk, .junk, .junk, .junk, .junk, .junk, .junk, .junk, .junk, .nils, .int .i64 0, .int .i64 0, .junk, .junk, .junk, .junk, .junk, .junk, .junk, .junk, .junk, .junk, .junk, .junk, .junk, .junk, .junk, .junk, .junk, .junk, .junk, .junk, .junk, .junk, .junk, .junk, .junk, .junk, .junk, .junk, .junk, .junk, .junk, .junk, .junk, .junk, .junk, .junk, .junk, .junk, .junk, .junk, .junk, .junk, .junk] ∧ L = [(0, boxL R), (gc, .cells 24 [.int .i64 k, .str p, .str d, .int .i64 v]), (gn, .row 9 1 (namesOf p).length ((namesOf p).map .str)), (g, .cells tI ([mv, .nils] ++ [])), (gl, lo), (gm, om), (gw, .dead), (0, boxL (ks.map kidB))]) 0
          [.ptr 0 gt 0, .int .i64 st, chA k p d v, .junk, .junk, .ptr 1 gc 0, .nils, (.sl 2 gn (namesOf p).length (namesOf p).length), .int .i64 0, lv, .ptr 3 g 0, .int .i64 j, .junk, .junk, .junk, .junk, .junk, .junk, .junk, .junk, .junk, .junk, .junk, .junk, .junk, .junk, .junk, .junk, .junk, .junk, .junk, .junk, .junk, .junk, .junk, .junk, .nils, .int .i64 0, .int .i64 0, .junk, .junk, .junk, .junk, .junk, .junk, .junk, .junk, .junk, .junk, .junk, .junk, .junk, .junk, .junk, .junk, .junk, .junk, .junk, .junk, .junk, .junk, .junk, .junk, .junk, .junk, .junk, .junk, .junk, .junk, .junk, .junk, .junk, .junk, .junk, .junk, .junk, .junk, .junk, .junk, .junk, .junk, .junk] _ (Weak.imp ?_ (Imp.refl _)) ⟨rfl, rfl, rfl⟩ ?_
        · exact Ss
        rintro m env L ⟨rfl, rfl, rfl⟩
        repeat(first|refine Sc ?_|refine fun(_:Nat)=>?_)
        refine ⟨fun h => absurd h (by decide), fun _ => ?_⟩
        repeat(first|refine Sc ?_|refine fun(_:Nat)=>?_)
        refine ⟨fun h => ?_, fun h => ?_⟩
        · have hjN : j = (namesOf p).length := by have h : (j : Int) = ((namesOf p).length : Nat) := h; omega
          have hfin : (res).Perm (matchT l p st k) := by
            rw [hjN, List.drop_length] at hperm
            have := (List.Perm.append_left res (tagged_perm hws st k p)).trans hperm
            rwa [show tagged [] st k p = [] from rfl, List.append_nil] at this
          have hback : Imp [(0, boxL R), (g, .cells tI ([mv, .nils] ++ [])), (gm, om), (gw, .dead), (0, boxL (ks.map kidB))] [(0, boxL (trieL Hn go oo S))] := (Imp.app (L := [_]) (L' := [_]) (.refl _) (Imp.box 0 _)).trans hImp
          repeat(first|refine Sc ?_|refine fun(_:Nat)=>?_)
          rcases hres with ⟨e0, rfl, rfl⟩ | ⟨Cp, rfl, rfl⟩
          · refine ACallT.ok (ACall.pure _ sortT_nil ?_)
            rintro r L' ⟨rfl, rfl⟩
            refine ⟨_, Sub.refl _, ?_⟩
            repeat(first|refine Sc ?_|refine fun(_:Nat)=>?_)
            exact ⟨.nils, _, (FinOk.keepS _ [0, 3, 5, 6, 7] (Sub.refl _) (by decide) rfl (show SubL _ ([(0, boxL R), (g, .cells tI ([mv, .nils] ++ [])), (gm, om), (gw, .dead), (0, boxL (ks.map kidB))]) from by repeat(first|exact trivial|refine Zy rfl ?_|refine Zy (SubO.refl _) ?_|refine Zy trivial ?_|refine Zy (SubO.cells (by repeat(first|exact trivial|refine Zy (Sub.refl _) ?_|refine Zy (Sub.sl _ _ _ _ _) ?_|refine Zy (Sub.ptr _ _ _ _) ?_))) ?_))).trans (FinOk.imp _ (hback.trans (Imp.snocD _))), [], 0, .dead, .inl ⟨rfl, rfl, rfl⟩, by rw [if_pos hp]; rw [e0] at hfin; exact hfin, List.Pairwise.nil, rfl⟩
          · have hrl : (res).length ≤ 1000 := by have := hfin.length_eq; have := matchT_len l p st k; omega
            refine ACallT.ok (ACall.sel [4] (by decide) [.sl 0 gl Cp (res).length, .any (.func (.func 27) #[] #[])] _ ⟨Sub.sl _ _ _ _ _, Sub.refl _, trivial⟩ (sortT_spec 0 gl Cp (res) hrl) ?_)
            rintro r L' ⟨rfl, ys, h1, h2, rfl⟩
            refine ⟨_, Sub.refl _, ?_⟩
            repeat(first|refine Sc ?_|refine fun(_:Nat)=>?_)
            exact ⟨.sl 1 gl Cp ys.length, _, (FinOk.keepS _ [0, 3, 5, 6, 7, 4] (by rw [h1.length_eq]; exact Sub.sl _ _ _ _ _) (by decide) rfl (show SubL _ ([(0, boxL R), (g, .cells tI ([mv, .nils] ++ [])), (gm, om), (gw, .dead), (0, boxL (ks.map kidB)), (gl, .row tG 2 Cp (ys.map encG))]) from by repeat(first|exact trivial|refine Zy rfl ?_|refine Zy (SubO.refl _) ?_|refine Zy trivial ?_|refine Zy (SubO.cells (by repeat(first|exact trivial|refine Zy (Sub.refl _) ?_|refine Zy (Sub.sl _ _ _ _ _) ?_|refine Zy (Sub.ptr _ _ _ _) ?_))) ?_))).trans (FinOk.imp _ (Imp.app (L := [_, _, _, _, _]) (L' := [_]) (M := [_]) (M' := [_]) hback (.refl _))), ys, gl, _, .inr ⟨Cp, rfl, rfl⟩, by rw [if_pos hp]; exact h1.trans hfin, h2.imp fun h => of_decide_eq_false h, rfl⟩
        · have hjN : j < (namesOf p).length := by have h : ¬ (j : Int) = ((namesOf p).length : Nat) := h; omega
          obtain ⟨nm, hnm⟩ : ∃ nm, (namesOf p)[j]? = some nm := ⟨_, List.getElem?_eq_getElem hjN⟩
          have hdr : (namesOf p).drop j = nm :: (namesOf p).drop (j + 1) := by
            rw [List.drop_eq_getElem_cons hjN]
            congr 1
            exact (List.getElem?_eq_some_iff.1 hnm).2
          have hnext : (res ++ tagged (pathN (belowN lc nm) ((namesOf p).drop (j + 1))) st k p).Perm (matchT l p st k) := by
            rw [hdr] at hperm
            have h0 : hereN lc = [] := hws.symm.eq_nil
            have e : pathN lc (nm :: (namesOf p).drop (j + 1)) = pathN (belowN lc nm) ((namesOf p).drop (j + 1)) := by show hereN lc ++ _ = _; rw [h0]; rfl
            rw [e] at hperm
            exact hperm
          have hmiss : belowN lc nm = [] → res.Perm (matchT l p st k) := fun hb => by
            rw [hb, pathN_nil, show tagged [] st k p = [] from rfl, List.append_nil] at hnext
            exact hnext
          repeat(first|refine Sc ?_|refine fun(_:Nat)=>?_)
          rcases hm with ⟨rfl, rfl, rfl⟩ | ⟨rfl, es, cl, rfl, hm⟩
          · have hb : belowN lc nm = [] := Decidable.byContradiction fun h => by
              obtain ⟨z, hz, _⟩ := (hk nm).2 h
              cases hz
            refine Run.drawnK C_ok (aopC_sound C_ok) [3, 2, 5] [0, 1, 2, 4, 5, 6, 3, 7, 8, 9] (by kernel_rfl) ?_
            repeat(first|refine Sc ?_|refine fun(_:Nat)=>?_)
            refine ⟨by omega, ?_⟩
            repeat(first|refine Sc ?_|refine fun(_:Nat)=>?_)
            refine ⟨.str nm, map_at AV.str hnm, ?_⟩
            repeat(first|refine Sc ?_|refine fun(_:Nat)=>?_)
            refine fun r hr => ?_
            obtain rfl := add1 hr (by omega)
            repeat(first|refine Sc ?_|refine fun(_:Nat)=>?_)
            refine Cont.lpW ?_
            refine ⟨8 - (j + 1), [.ptr 0 gt 0, .int .i64 st, chA k p d v, .junk, .junk, .ptr 1 gc 0, .nils, (.sl 2 gn (namesOf p).length (namesOf p).length), .int .i64 0, lv, .nilp, .int .i64 (j + 1 : Nat), .junk, .junk, .junk, .junk, .junk, .junk, .junk, .junk, .junk, .junk, .junk, .junk, .junk, .junk, .junk, .junk, .junk, .junk, .junk, .junk, .junk, .junk, .junk, .junk, .junk, .junk, .junk, .junk, .junk, .junk, .junk, .junk, .junk, .junk, .junk, .junk, .junk, .junk, .junk, .junk, .junk, .junk, .junk, .junk, .junk, .junk, .junk, .junk, .junk, .junk, .junk, .junk, .junk, .junk, .junk, .junk, .junk, .junk, .junk, .junk, .junk, .junk, .junk, .junk, .junk, .junk, .junk, .junk, .junk, .junk], _, by omega, Weak.imp ?_ ((Imp.subL (show SubL _ ([(0, boxL R), (gc, .cells 24 [.int .i64 k, .str p, .str d, .int .i64 v]), (gn, .row 9 1 (namesOf p).length ((namesOf p).map .str)), (g, .cells tI ([.any (.map none), .nils] ++ [])), (gl, lo), (gm, .dead), (gw, .dead), (0, boxL (([] : List Kid).map kidB))]) from by repeat(first|exact trivial|refine Zy rfl ?_|refine Zy (SubO.refl _) ?_|refine Zy trivial ?_|refine Zy (SubO.cells (by repeat(first|exact trivial|refine Zy (Sub.refl _) ?_|refine Zy (Sub.sl _ _ _ _ _) ?_|refine Zy (Sub.ptr _ _ _ _) ?_))) ?_))).trans (Imp.closeAt _ _ _ _ _ _ _ _)), ⟨j + 1, R, (nodeL tI [] g (.any (.map none)) (.nils) gm gw (.dead) (.dead) []), res, lv, .nilp, gl, lo, rfl, by omega, by omega, hres, hImp, .inl ⟨rfl, hmiss hb⟩, rfl, rfl⟩⟩
            exact Ss
          · by_cases hky : ∃ y ∈ ks, y.1 = nm
            · obtain ⟨y, hy, rfl⟩ := hky
              obtain ⟨i, hy⟩ := List.mem_iff_getElem?.1 hy
              refine Run.drawnK C_ok (aopC_sound C_ok) [3, 2, 5] [0, 1, 2, 4, 5, 6, 3, 7, 8, 9] (by kernel_rfl) ?_
              repeat(first|refine Sc ?_|refine fun(_:Nat)=>?_)
              refine ⟨by omega, ?_⟩
              repeat(first|refine Sc ?_|refine fun(_:Nat)=>?_)
              refine ⟨.str y.1, map_at AV.str hnm, ?_⟩
              repeat(first|refine Sc ?_|refine fun(_:Nat)=>?_)
              refine ⟨5, es, cl, some (i, valK y), by decide, rfl, hm.hit u9 keyKS hy, ?_⟩
              repeat(first|refine Sc ?_|refine fun(_:Nat)=>?_)
              refine ⟨.ptr 3 y.2.1 0, rfl, ?_⟩
              repeat(first|refine Sc ?_|refine fun(_:Nat)=>?_)
              refine fun r hr => ?_
              obtain rfl := add1 hr (by omega)
              repeat(first|refine Sc ?_|refine fun(_:Nat)=>?_)
              refine Cont.lpW ?_
              refine ⟨8 - (j + 1), [.ptr 0 gt 0, .int .i64 st, chA k p d v, .junk, .junk, .ptr 1 gc 0, .nils, (.sl 2 gn (namesOf p).length (namesOf p).length), .int .i64 0, lv, (.ptr 3 y.2.1 0), .int .i64 (j + 1 : Nat), .junk, .junk, .junk, .junk, .junk, .junk, .junk, .junk, .junk, .junk, .junk, .junk, .junk, .junk, .junk, .junk, .junk, .junk, .junk, .junk, .junk, .junk, .junk, .junk, .junk, .junk, .junk, .junk, .junk, .junk, .junk, .junk, .junk, .junk, .junk, .junk, .junk, .junk, .junk, .junk, .junk, .junk, .junk, .junk, .junk, .junk, .junk, .junk, .junk, .junk, .junk, .junk, .junk, .junk, .junk, .junk, .junk, .junk, .junk, .junk, .junk, .junk, .junk, .junk, .junk, .junk, .junk, .junk, .junk, .junk], _, by omega, Weak.imp ?_ ((Imp.subL (show SubL _ ([(0, boxL R), (gc, .cells 24 [.int .i64 k, .str p, .str d, .int .i64 v]), (gn, .row 9 1 (namesOf p).length ((namesOf p).map .str)), (g, .cells tI ([.any (.map (some gm)), .nils] ++ [])), (gl, lo), (gm, .obj (.map es cl)), (gw, .dead), (0, boxL (ks.map kidB))]) from by repeat(first|exact trivial|refine Zy rfl ?_|refine Zy (SubO.refl _) ?_|refine Zy trivial ?_|refine Zy (SubO.cells (by repeat(first|exact trivial|refine Zy (Sub.refl _) ?_|refine Zy (Sub.sl _ _ _ _ _) ?_|refine Zy (Sub.ptr _ _ _ _) ?_))) ?_))).trans (Imp.downAt _ _ _ _ _ _ _ (Imp.kid_out hy))), ⟨j + 1, _, y.2.2, res, lv, .ptr 3 y.2.1 0, gl, lo, rfl, by omega, by omega, hres, (Imp.upAt _ _ _ _ (Imp.kid_in hy)).trans hImp, .inr ⟨by omega, y.2.1, belowN lc y.1, tI, [], rfl, .inl ⟨rfl, rfl⟩, Nat.le_trans (below_len _ _) hlc, hin y (List.mem_of_getElem? hy), hnext⟩, rfl, rfl⟩⟩
              exact Ss
            · have hb : belowN lc nm = [] := Decidable.byContradiction fun h => hky ((hk nm).2 h)
              refine Run.drawnK C_ok (aopC_sound C_ok) [3, 2, 5] [0, 1, 2, 4, 5, 6, 3, 7, 8, 9] (by kernel_rfl) ?_
              repeat(first|refine Sc ?_|refine fun(_:Nat)=>?_)
              refine ⟨by omega, ?_⟩
              repeat(first|refine Sc ?_|refine fun(_:Nat)=>?_)
              refine ⟨.str nm, map_at AV.str hnm, ?_⟩
              repeat(first|refine Sc ?_|refine fun(_:Nat)=>?_)
              refine ⟨5, es, cl, none, by decide, rfl, hm.none nm (fun x hx e => hky ⟨x, hx, e⟩), ?_⟩
              repeat(first|refine Sc ?_|refine fun(_:Nat)=>?_)
              refine fun r hr => ?_
              obtain rfl := add1 hr (by omega)
              repeat(first|refine Sc ?_|refine fun(_:Nat)=>?_)
              refine Cont.lpW ?_
              refine ⟨8 - (j + 1), [.ptr 0 gt 0, .int .i64 st, chA k p d v, .junk, .junk, .ptr 1 gc 0, .nils, (.sl 2 gn (namesOf p).length (namesOf p).length), .int .i64 0, lv, .nilp, .int .i64 (j + 1 : Nat), .junk, .junk, .junk, .junk, .junk, .junk, .junk, .junk, .junk, .junk, .junk, .junk, .junk, .junk, .junk, .junk, .junk, .junk, .junk, .junk, .junk, .junk, .junk, .junk, .junk, .junk, .junk, .junk, .junk, .junk, .junk, .junk, .junk, .junk, .junk, .junk, .junk, .junk, .junk, .junk, .junk, .junk, .junk, .junk, .junk, .junk, .junk, .junk, .junk, .junk, .junk, .junk, .junk, .junk, .junk, .junk, .junk, .junk, .junk, .junk, .junk, .junk, .junk, .junk, .junk, .junk, .junk, .junk, .junk, .junk], _, by omega, Weak.imp ?_ ((Imp.subL (show SubL _ ([(0, boxL R), (gc, .cells 24 [.int .i64 k, .str p, .str d, .int .i64 v]), (gn, .row 9 1 (namesOf p).length ((namesOf p).map .str)), (g, .cells tI ([.any (.map (some gm)), .nils] ++ [])), (gl, lo), (gm, .obj (.map es cl)), (gw, .dead), (0, boxL (ks.map kidB))]) from by repeat(first|exact trivial|refine Zy rfl ?_|refine Zy (SubO.refl _) ?_|refine Zy trivial ?_|refine Zy (SubO.cells (by repeat(first|exact trivial|refine Zy (Sub.refl _) ?_|refine Zy (Sub.sl _ _ _ _ _) ?_|refine Zy (Sub.ptr _ _ _ _) ?_))) ?_))).trans (Imp.closeAt _ _ _ _ _ _ _ _)), ⟨j + 1, R, (nodeL tI [] g (.any (.map (some gm))) (.nils) gm gw (.obj (.map es cl)) (.dead) ks), res, lv, .nilp, gl, lo, rfl, by omega, by omega, hres, hImp, .inl ⟨rfl, hmiss hb⟩, rfl, rfl⟩⟩
              exact Ss
      · refine Run.weak0 C_ok (Weak.imp (Subs.refl _) ((Imp.nodeOpen _ _ _ _ _ _).trans (Imp.subL (show SubL _ ([(0, boxL R), (gc, .cells 24 [.int .i64 k, .str p, .str d, .int .i64 v]), (gn, .row 9 1 (namesOf p).length ((namesOf p).map .str)), (g, .cells tI ([mv, .sl 6 gw Cw ws.length] ++ [])), (gl, lo), (gm, om), (gw, .row tH 5 Cw (ws.map encH)), (0, boxL (ks.map kidB))]) from by repeat(first|exact trivial|refine Zy rfl ?_|refine Zy (SubO.refl _) ?_|refine Zy trivial ?_|refine Zy (SubO.cells (by repeat(first|exact trivial|refine Zy (Sub.refl _) ?_|refine Zy (Sub.sl _ _ _ _ _) ?_|refine Zy (Sub.ptr _ _ _ _) ?_))) ?_))))) ?_
        repeat(first|refine Sc ?_|refine fun(_:Nat)=>?_)
        have hwl : ws.length ≤ 1000 := hWL
        refine Run.loopW (fun m env L => ∃ (i : Nat) (lv : AV) (gl : Nat) (lo : AObj), m = ws.length - i ∧ i ≤ ws.length ∧ LN encG tG 2 4 (res ++ tagged (ws.take i) st k p) lv gl lo ∧ env = [.ptr 0 gt 0, .int .i64 st, chA k p d v, .junk, .junk, .ptr 1 gc 0, .nils, (.sl 2 gn (namesOf p).length (namesOf p).length), .int .i64 0, lv, .ptr 3 g 0, .int .i64 j, .junk, .junk, .junk, .junk, .junk, .junk, .junk, .junk, .junk, .junk, .junk, .junk, .junk, .junk, .junk, .junk, .junk, .junk, .junk, .junk, .junk, .junk, .junk, .junk, .sl 6 gw Cw ws.length, .int .i64 ws.length, .int .i64 i, .junk, .junk, .junk, .junk, .junk, .junk, .junk, .junk, .junk, .junk, .junk, .junk, .junk, .junk, .junk, .junk, .junk, .junk, .junk, .junk, .junk, .junk, .junk, .junk, .junk, .junk, .junk, .junk, .junk, .junk, .junk, .junk, .junk, .junk, .junk, .junk, .junk, .junk, .junk, .junk, .junk, .junk, .junk] ∧ L = [(0, boxL R), (gc, .cells 24 [.int .i64 k, .str p, .str d, .int .i64 v]), (gn, .row 9 1 (namesOf p).length ((namesOf p).map .str)), (g, .cells tI ([mv, .sl 6 gw Cw ws.length] ++ [])), (gl, lo), (gm, om), (gw, .row tH 5 Cw (ws.map encH)), (0, boxL (ks.map kidB))]) ws.length
          [.ptr 0 gt 0, .int .i64 st, chA k p d v, .junk, .junk, .ptr 1 gc 0, .nils, (.sl 2 gn (namesOf p).length (namesOf p).length), .int .i64 0, lv, .ptr 3 g 0, .int .i64 j, .junk, .junk, .junk, .junk, .junk, .junk, .junk, .junk, .junk, .junk, .junk, .junk, .junk, .junk, .junk, .junk, .junk, .junk, .junk, .junk, .junk, .junk, .junk, .junk, .sl 6 gw Cw ws.length, .int .i64 ws.length, .int .i64 (0 : Nat), .junk, .junk, .junk, .junk, .junk, .junk, .junk, .junk, .junk, .junk, .junk, .junk, .junk, .junk, .junk, .junk, .junk, .junk, .junk, .junk, .junk, .junk, .junk, .junk, .junk, .junk, .junk, .junk, .junk, .junk, .junk, .junk, .junk, .junk, .junk, .junk, .junk, .junk, .junk, .junk, .junk, .junk, .junk] _ (Weak.imp ?_ (Imp.refl _)) ⟨0, lv, gl, lo, by omega, by omega, by simpa [tagged] using hres, rfl, rfl⟩ ?_
        · exact Ss
        have hRL : res.length ≤ 200 := by have h1 := hperm.length_eq; have h2 := matchT_len l p st k; rw [List.length_append] at h1; omega
        clear hres lv gl lo
        rintro m env L ⟨i, lv, gl, lo, rfl, hi, hres, rfl, rfl⟩
        repeat(first|refine Sc ?_|refine fun(_:Nat)=>?_)
        refine ⟨fun h => ?_, fun h => ?_⟩
        · have h : (i : Int) < (ws.length : Int) := h
          obtain ⟨x, ex⟩ : ∃ x, ws[i]? = some x := ⟨_, List.getElem?_eq_getElem (by omega)⟩
          repeat(first|refine Sc ?_|refine fun(_:Nat)=>?_)
          refine ⟨h, ?_⟩
          repeat(first|refine Sc ?_|refine fun(_:Nat)=>?_)
          refine ⟨encH x, map_at encH ex, ?_⟩
          repeat(first|refine Sc ?_|refine fun(_:Nat)=>?_)
          refine ⟨fun hf => ?_, fun hf => ?_⟩
          · have hf : x.w.f < st := hf
            by_cases hc : coversP x.w.k x.w.p k p
            · repeat(first|refine Sc ?_|refine fun(_:Nat)=>?_)
              refine ACallT.ok (ACall.ret (covers_is (decide_eq_true hc)) ?_)
              repeat(first|refine Sc ?_|refine fun(_:Nat)=>?_)
              refine ACallT.ok (ACall.ret (tag_spec x) ?_)
              repeat(first|refine Sc ?_|refine fun(_:Nat)=>?_)
              rcases hres with ⟨e0, rfl, rfl⟩ | ⟨Cp, rfl, rfl⟩
              · repeat(first|refine Sc ?_|refine fun(_:Nat)=>?_)
                refine ⟨fun h => absurd h (List.cons_ne_nil _ _), fun _ => ?_⟩
                repeat(first|refine Sc ?_|refine fun(_:Nat)=>?_)
                rename_i g' Cp'
                refine fun r hr => ?_
                obtain rfl := add1 hr (by omega)
                repeat(first|refine Sc ?_|refine fun(_:Nat)=>?_)
                refine Cont.lpW ?_
                refine ⟨ws.length - (i + 1), _, _, by omega, Weak.sel ?_ [0, 1, 2, 3, 10, 5, 6, 7] (by decide) ?_, ⟨i + 1, .sl 4 g' Cp' 1, g', _, rfl, by omega, by rw [tagged_yes ex ⟨hf, hc⟩, ← List.append_assoc]; exact LN1 _ e0, rfl, rfl⟩⟩
                · exact Ss
                · exact Sl
              · repeat(first|refine Sc ?_|refine fun(_:Nat)=>?_)
                refine ⟨by simp, ?_⟩
                repeat(first|refine Sc ?_|refine fun(_:Nat)=>?_)
                refine ⟨by show (_ + 1) * _ ≤ _; rw [List.length_map, List.length_append]; have := tagged_len (ws.take i) st k p; rw [List.length_take] at this; omega, ?_⟩
                repeat(first|refine Sc ?_|refine fun(_:Nat)=>?_)
                rename_i g' Cp'
                refine fun r hr => ?_
                obtain rfl := add1 hr (by omega)
                repeat(first|refine Sc ?_|refine fun(_:Nat)=>?_)
                refine Cont.lpW ?_
                refine ⟨ws.length - (i + 1), _, _, by omega, Weak.sel ?_ [0, 1, 2, 3, 4, 5, 6, 7] (by decide) ?_, ⟨i + 1, .sl 4 g' Cp' (((res ++ tagged (ws.take i) st k p).map encG).length + 1), g', _, rfl, by omega, by rw [tagged_yes ex ⟨hf, hc⟩, ← List.append_assoc]; exact LN2 _, rfl, rfl⟩⟩
                · exact Ss
                · exact Sl
            · repeat(first|refine Sc ?_|refine fun(_:Nat)=>?_)
              refine ACallT.ok (ACall.ret (covers_is (decide_eq_false hc)) ?_)
              repeat(first|refine Sc ?_|refine fun(_:Nat)=>?_)
              refine fun r hr => ?_
              obtain rfl := add1 hr (by omega)
              repeat(first|refine Sc ?_|refine fun(_:Nat)=>?_)
              refine Cont.lpW ?_
              refine ⟨ws.length - (i + 1), _, _, by omega, Weak.sel ?_ [0, 1, 2, 3, 4, 5, 6, 7] (by decide) ?_, ⟨i + 1, lv, gl, _, rfl, by omega, by rw [tagged_no ex (fun e => hc e.2)]; exact hres, rfl, rfl⟩⟩
              · exact Ss
              · exact Sl
          · have hf : ¬ x.w.f < st := hf
            repeat(first|refine Sc ?_|refine fun(_:Nat)=>?_)
            refine fun r hr => ?_
            obtain rfl := add1 hr (by omega)
            repeat(first|refine Sc ?_|refine fun(_:Nat)=>?_)
            refine Cont.lpW ?_
            refine ⟨ws.length - (i + 1), _, _, by omega, Weak.sel ?_ [0, 1, 2, 3, 4, 5, 6, 7] (by decide) ?_, ⟨i + 1, lv, gl, _, rfl, by omega, by rw [tagged_no ex (fun e => hf e.1)]; exact hres, rfl, rfl⟩⟩
            · exact Ss
            · exact Sl
        · have h : ¬ (i : Int) < (ws.length : Int) := h
          obtain rfl : i = ws.length := by omega
          rw [List.take_length] at hres
          repeat(first|refine Sc ?_|refine fun(_:Nat)=>?_)
          refine ⟨fun h => ?_, fun h => ?_⟩
          · have hjN : j = (namesOf p).length := by have h : (j : Int) = ((namesOf p).length : Nat) := h; omega
            have hfin : (res ++ tagged ws st k p).Perm (matchT l p st k) := by
              rw [hjN, List.drop_length] at hperm
              exact (List.Perm.append_left _ (tagged_perm hws st k p)).trans hperm
            have hback : Imp [(0, boxL R), (g, .cells tI ([mv, .sl 2 gw Cw ws.length] ++ [])), (gm, om), (gw, .row tH 5 Cw (ws.map encH)), (0, boxL (ks.map kidB))] [(0, boxL (trieL Hn go oo S))] := (Imp.app (L := [_]) (L' := [_]) (.refl _) (Imp.box 0 _)).trans hImp
            repeat(first|refine Sc ?_|refine fun(_:Nat)=>?_)
            rcases hres with ⟨e0, rfl, rfl⟩ | ⟨Cp, rfl, rfl⟩
            · refine ACallT.ok (ACall.pure _ sortT_nil ?_)
              rintro r L' ⟨rfl, rfl⟩
              refine ⟨_, Sub.refl _, ?_⟩
              repeat(first|refine Sc ?_|refine fun(_:Nat)=>?_)
              exact ⟨.nils, _, (FinOk.keepS _ [0, 3, 5, 6, 7] (Sub.refl _) (by decide) rfl (show SubL _ ([(0, boxL R), (g, .cells tI ([mv, .sl 2 gw Cw ws.length] ++ [])), (gm, om), (gw, .row tH 5 Cw (ws.map encH)), (0, boxL (ks.map kidB))]) from by repeat(first|exact trivial|refine Zy rfl ?_|refine Zy (SubO.refl _) ?_|refine Zy trivial ?_|refine Zy (SubO.cells (by repeat(first|exact trivial|refine Zy (Sub.refl _) ?_|refine Zy (Sub.sl _ _ _ _ _) ?_|refine Zy (Sub.ptr _ _ _ _) ?_))) ?_))).trans (FinOk.imp _ (hback.trans (Imp.snocD _))), [], 0, .dead, .inl ⟨rfl, rfl, rfl⟩, by rw [if_pos hp]; rw [e0] at hfin; exact hfin, List.Pairwise.nil, rfl⟩
            · have hrl : (res ++ tagged ws st k p).length ≤ 1000 := by have := hfin.length_eq; have := matchT_len l p st k; omega
              refine ACallT.ok (ACall.sel [4] (by decide) [.sl 0 gl Cp (res ++ tagged ws st k p).length, .any (.func (.func 27) #[] #[])] _ ⟨Sub.sl _ _ _ _ _, Sub.refl _, trivial⟩ (sortT_spec 0 gl Cp (res ++ tagged ws st k p) hrl) ?_)
              rintro r L' ⟨rfl, ys, h1, h2, rfl⟩
              refine ⟨_, Sub.refl _, ?_⟩
              repeat(first|refine Sc ?_|refine fun(_:Nat)=>?_)
              exact ⟨.sl 1 gl Cp ys.length, _, (FinOk.keepS _ [0, 3, 5, 6, 7, 4] (by rw [h1.length_eq]; exact Sub.sl _ _ _ _ _) (by decide) rfl (show SubL _ ([(0, boxL R), (g, .cells tI ([mv, .sl 2 gw Cw ws.length] ++ [])), (gm, om), (gw, .row tH 5 Cw (ws.map encH)), (0, boxL (ks.map kidB)), (gl, .row tG 2 Cp (ys.map encG))]) from by repeat(first|exact trivial|refine Zy rfl ?_|refine Zy (SubO.refl _) ?_|refine Zy trivial ?_|refine Zy (SubO.cells (by repeat(first|exact trivial|refine Zy (Sub.refl _) ?_|refine Zy (Sub.sl _ _ _ _ _) ?_|refine Zy (Sub.ptr _ _ _ _) ?_))) ?_))).trans (FinOk.imp _ (Imp.app (L := [_, _, _, _, _]) (L' := [_]) (M := [_]) (M' := [_]) hback (.refl _))), ys, gl, _, .inr ⟨Cp, rfl, rfl⟩, by rw [if_pos hp]; exact h1.trans hfin, h2.imp fun h => of_decide_eq_false h, rfl⟩
          · have hjN : j < (namesOf p).length := by have h : ¬ (j : Int) = ((namesOf p).length : Nat) := h; omega
            obtain ⟨nm, hnm⟩ : ∃ nm, (namesOf p)[j]? = some nm := ⟨_, List.getElem?_eq_getElem hjN⟩
            have hdr : (namesOf p).drop j = nm :: (namesOf p).drop (j + 1) := by
              rw [List.drop_eq_getElem_cons hjN]
              congr 1
              exact (List.getElem?_eq_some_iff.1 hnm).2
            have hnext : (res ++ tagged ws st k p ++ tagged (pathN (belowN lc nm) ((namesOf p).drop (j + 1))) st k p).Perm (matchT l p st k) := by
              rw [hdr] at hperm
              have e : tagged (pathN lc (nm :: (namesOf p).drop (j + 1))) st k p = tagged (hereN lc) st k p ++ tagged (pathN (belowN lc nm) ((namesOf p).drop (j + 1))) st k p := tagged_app _ _ _ _ _
              rw [e, ← List.append_assoc] at hperm
              exact ((List.Perm.append_left res (tagged_perm hws st k p)).append_right _).trans hperm
            have hmiss : belowN lc nm = [] → (res ++ tagged ws st k p).Perm (matchT l p st k) := fun hb => by
              rw [hb, pathN_nil, show tagged [] st k p = [] from rfl, List.append_nil] at hnext
              exact hnext
            repeat(first|refine Sc ?_|refine fun(_:Nat)=>?_)
            rcases hm with ⟨rfl, rfl, rfl⟩ | ⟨rfl, es, cl, rfl, hm⟩
            · have hb : belowN lc nm = [] := Decidable.byContradiction fun h => by
                obtain ⟨z, hz, _⟩ := (hk nm).2 h
                cases hz
              refine Run.drawnK C_ok (aopC_sound C_ok) [3, 2, 5] [0, 1, 2, 4, 5, 6, 3, 7, 8, 9] (by kernel_rfl) ?_
              repeat(first|refine Sc ?_|refine fun(_:Nat)=>?_)
              refine ⟨by omega, ?_⟩
              repeat(first|refine Sc ?_|refine fun(_:Nat)=>?_)
              refine ⟨.str nm, map_at AV.str hnm, ?_⟩
              repeat(first|refine Sc ?_|refine fun(_:Nat)=>?_)
              refine fun r hr => ?_
              obtain rfl := add1 hr (by omega)
              repeat(first|refine Sc ?_|refine fun(_:Nat)=>?_)
              refine Cont.lpW ?_
              refine ⟨8 - (j + 1), [.ptr 0 gt 0, .int .i64 st, chA k p d v, .junk, .junk, .ptr 1 gc 0, .nils, (.sl 2 gn (namesOf p).length (namesOf p).length), .int .i64 0, lv, .nilp, .int .i64 (j + 1 : Nat), .junk, .junk, .junk, .junk, .junk, .junk, .junk, .junk, .junk, .junk, .junk, .junk, .junk, .junk, .junk, .junk, .junk, .junk, .junk, .junk, .junk, .junk, .junk, .junk, .junk, .junk, .junk, .junk, .junk, .junk, .junk, .junk, .junk, .junk, .junk, .junk, .junk, .junk, .junk, .junk, .junk, .junk, .junk, .junk, .junk, .junk, .junk, .junk, .junk, .junk, .junk, .junk, .junk, .junk, .junk, .junk, .junk, .junk, .junk, .junk, .junk, .junk, .junk, .junk, .junk, .junk, .junk, .junk, .junk, .junk], _, by omega, Weak.imp ?_ ((Imp.subL (show SubL _ ([(0, boxL R), (gc, .cells 24 [.int .i64 k, .str p, .str d, .int .i64 v]), (gn, .row 9 1 (namesOf p).length ((namesOf p).map .str)), (g, .cells tI ([.any (.map none), .sl 2 gw Cw ws.length] ++ [])), (gl, lo), (gm, .dead), (gw, .row tH 5 Cw (ws.map encH)), (0, boxL (([] : List Kid).map kidB))]) from by repeat(first|exact trivial|refine Zy rfl ?_|refine Zy (SubO.refl _) ?_|refine Zy trivial ?_|refine Zy (SubO.cells (by repeat(first|exact trivial|refine Zy (Sub.refl _) ?_|refine Zy (Sub.sl _ _ _ _ _) ?_|refine Zy (Sub.ptr _ _ _ _) ?_))) ?_))).trans (Imp.closeAt _ _ _ _ _ _ _ _)), ⟨j + 1, R, (nodeL tI [] g (.any (.map none)) (.sl 2 gw Cw ws.length) gm gw (.dead) (.row tH 5 Cw (ws.map encH)) []), (res ++ tagged ws st k p), lv, .nilp, gl, lo, rfl, by omega, by omega, hres, hImp, .inl ⟨rfl, hmiss hb⟩, rfl, rfl⟩⟩
              exact Ss
            · by_cases hky : ∃ y ∈ ks, y.1 = nm
              · obtain ⟨y, hy, rfl⟩ := hky
                obtain ⟨i, hy⟩ := List.mem_iff_getElem?.1 hy
                refine Run.drawnK C_ok (aopC_sound C_ok) [3, 2, 5] [0, 1, 2, 4, 5, 6, 3, 7, 8, 9] (by kernel_rfl) ?_
                repeat(first|refine Sc ?_|refine fun(_:Nat)=>?_)
                refine ⟨by omega, ?_⟩
                repeat(first|refine Sc ?_|refine fun(_:Nat)=>?_)
                refine ⟨.str y.1, map_at AV.str hnm, ?_⟩
                repeat(first|refine Sc ?_|refine fun(_:Nat)=>?_)
                refine ⟨5, es, cl, some (i, valK y), by decide, rfl, hm.hit u9 keyKS hy, ?_⟩
                repeat(first|refine Sc ?_|refine fun(_:Nat)=>?_)
                refine ⟨.ptr 3 y.2.1 0, rfl, ?_⟩
                repeat(first|refine Sc ?_|refine fun(_:Nat)=>?_)
                refine fun r hr => ?_
                obtain rfl := add1 hr (by omega)
                repeat(first|refine Sc ?_|refine fun(_:Nat)=>?_)
                refine Cont.lpW ?_
                refine ⟨8 - (j + 1), [.ptr 0 gt 0, .int .i64 st, chA k p d v, .junk, .junk, .ptr 1 gc 0, .nils, (.sl 2 gn (namesOf p).length (namesOf p).length), .int .i64 0, lv, (.ptr 3 y.2.1 0), .int .i64 (j + 1 : Nat), .junk, .junk, .junk, .junk, .junk, .junk, .junk, .junk, .junk, .junk, .junk, .junk, .junk, .junk, .junk, .junk, .junk, .junk, .junk, .junk, .junk, .junk, .junk, .junk, .junk, .junk, .junk, .junk, .junk, .junk, .junk, .junk, .junk, .junk, .junk, .junk, .junk, .junk, .junk, .junk, .junk, .junk, .junk, .junk, .junk, .junk, .junk, .junk, .junk, .junk, .junk, .junk, .junk, .junk, .junk, .junk, .junk, .junk, .junk, .junk, .junk, .junk, .junk, .junk, .junk, .junk, .junk, .junk, .junk, .junk], _, by omega, Weak.imp ?_ ((Imp.subL (show SubL _ ([(0, boxL R), (gc, .cells 24 [.int .i64 k, .str p, .str d, .int .i64 v]), (gn, .row 9 1 (namesOf p).length ((namesOf p).map .str)), (g, .cells tI ([.any (.map (some gm)), .sl 2 gw Cw ws.length] ++ [])), (gl, lo), (gm, .obj (.map es cl)), (gw, .row tH 5 Cw (ws.map encH)), (0, boxL (ks.map kidB))]) from by repeat(first|exact trivial|refine Zy rfl ?_|refine Zy (SubO.refl _) ?_|refine Zy trivial ?_|refine Zy (SubO.cells (by repeat(first|exact trivial|refine Zy (Sub.refl _) ?_|refine Zy (Sub.sl _ _ _ _ _) ?_|refine Zy (Sub.ptr _ _ _ _) ?_))) ?_))).trans (Imp.downAt _ _ _ _ _ _ _ (Imp.kid_out hy))), ⟨j + 1, _, y.2.2, (res ++ tagged ws st k p), lv, .ptr 3 y.2.1 0, gl, lo, rfl, by omega, by omega, hres, (Imp.upAt _ _ _ _ (Imp.kid_in hy)).trans hImp, .inr ⟨by omega, y.2.1, belowN lc y.1, tI, [], rfl, .inl ⟨rfl, rfl⟩, Nat.le_trans (below_len _ _) hlc, hin y (List.mem_of_getElem? hy), hnext⟩, rfl, rfl⟩⟩
                exact Ss
              · have hb : belowN lc nm = [] := Decidable.byContradiction fun h => hky ((hk nm).2 h)
                refine Run.drawnK C_ok (aopC_sound C_ok) [3, 2, 5] [0, 1, 2, 4, 5, 6, 3, 7, 8, 9] (by kernel_rfl) ?_
                repeat(first|refine Sc ?_|refine fun(_:Nat)=>?_)
                refine ⟨by omega, ?_⟩
                repeat(first|refine Sc ?_|refine fun(_:Nat)=>?_)
                refine ⟨.str nm, map_at AV.str hnm, ?_⟩
                repeat(first|refine Sc ?_|refine fun(_:Nat)=>?_)
                refine ⟨5, es, cl, none, by decide, rfl, hm.none nm (fun x hx e => hky ⟨x, hx, e⟩), ?_⟩
                repeat(first|refine Sc ?_|refine fun(_:Nat)=>?_)
                refine fun r hr => ?_
                obtain rfl := add1 hr (by omega)
                repeat(first|refine Sc ?_|refine fun(_:Nat)=>?_)
                refine Cont.lpW ?_
                refine ⟨8 - (j + 1), [.ptr 0 gt 0, .int .i64 st, chA k p d v, .junk, .junk, .ptr 1 gc 0, .nils, (.sl 2 gn (namesOf p).length (namesOf p).length), .int .i64 0, lv, .nilp, .int .i64 (j + 1 : Nat), .junk, .junk, .junk, .junk, .junk, .junk, .junk, .junk, .junk, .junk, .junk, .junk, .junk, .junk, .junk, .junk, .junk, .junk, .junk, .junk, .junk, .junk, .junk, .junk, .junk, .junk, .junk, .junk, .junk, .junk, .junk, .junk, .junk, .junk, .junk, .junk, .junk, .junk, .junk, .junk, .junk, .junk, .junk, .junk, .junk, .junk, .junk, .junk, .junk, .junk, .junk, .junk, .junk, .junk, .junk, .junk, .junk, .junk, .junk, .junk, .junk, .junk, .junk, .junk, .junk, .junk, .junk, .junk, .junk, .junk], _, by omega, Weak.imp ?_ ((Imp.subL (show SubL _ ([(0, boxL R), (gc, .cells 24 [.int .i64 k, .str p, .str d, .int .i64 v]), (gn, .row 9 1 (namesOf p).length ((namesOf p).map .str)), (g, .cells tI ([.any (.map (some gm)), .sl 2 gw Cw ws.length] ++ [])), (gl, lo), (gm, .obj (.map es cl)), (gw, .row tH 5 Cw (ws.map encH)), (0, boxL (ks.map kidB))]) from by repeat(first|exact trivial|refine Zy rfl ?_|refine Zy (SubO.refl _) ?_|refine Zy trivial ?_|refine Zy (SubO.cells (by repeat(first|exact trivial|refine Zy (Sub.refl _) ?_|refine Zy (Sub.sl _ _ _ _ _) ?_|refine Zy (Sub.ptr _ _ _ _) ?_))) ?_))).trans (Imp.closeAt _ _ _ _ _ _ _ _)), ⟨j + 1, R, (nodeL tI [] g (.any (.map (some gm))) (.sl 2 gw Cw ws.length) gm gw (.obj (.map es cl)) (.row tH 5 Cw (ws.map encH)) ks), (res ++ tagged ws st k p), lv, .nilp, gl, lo, rfl, by omega, by omega, hres, hImp, .inl ⟨rfl, hmiss hb⟩, rfl, rfl⟩⟩
                exact Ss
    · repeat(first|refine Za ?_|refine Zb ?_|refine Zy rfl ?_|refine Z2 rfl ?_|refine Z3 ?_|refine fun(_:Nat)=>?_|refine Run.goN rfl ?_|refine Zo rfl ?_)
      rcases hw with ⟨rfl, rfl, rfl⟩ | ⟨Cw, rfl, rfl⟩
      · refine Run.weak0 C_ok (Weak.imp (Subs.refl _) (Imp.nodeOpen _ _ _ _ _ _)) ?_
        repeat(first|refine Sc ?_|refine fun(_:Nat)=>?_)
        refine Run.loopW (fun m env L => m = 0 ∧ env = [.ptr 0 gt 0, .int .i64 st, chA k p d v, .junk, .junk, .ptr 1 gc 0, .nils, (.sl 2 gn (namesOf p).length (namesOf p).length), .int .i64 0, lv, .ptr 3 g 0, .int .i64 j, .junk, .junk, .junk, .junk, .junk, .junk, .junk, .junk, .junk, .junk, .junk, .junk, .junk, .junk, .junk, .junk, .junk, .junk, .junk, .junk, .junk, .junk, .junk, .junk, .nils, .int .i64 0, .int .i64 0, .junk, .junk, .junk, .junk, .junk, .junk, .junk, .junk, .junk, .junk, .junk, .junk, .junk, .junk, .junk, .junk, .junk, .junk, .junk, .junk, .junk, .junk, .junk, .junk, .junk, .junk, .junk, .junk, .junk, .junk, .junk, .junk, .junk, .junk, .junk, .junk, .junk, .junk, .junk, .junk, .junk, .junk, .junk] ∧ L = [(0, boxL R), (gc, .cells 24 [.int .i64 k, .str p, .str d, .int .i64 v]), (gn, .row 9 1 (namesOf p).length ((namesOf p).map .str)), (g, .cells tT ([mv, .nils] ++ [ofv])), (gl, lo), (gm, om), (gw, .dead), (0, boxL (ks.map kidB))]) 0
          [.ptr 0 gt 0, .int .i64 st, chA k p d v, .junk, .junk, .ptr 1 gc 0, .nils, (.sl 2 gn (namesOf p).length (namesOf p).length), .int .i64 0, lv, .ptr 3 g 0, .int .i64 j, .junk, .junk, .junk, .junk, .junk, .junk, .junk, .junk, .junk, .junk, .junk, .junk, .junk, .junk, .junk, .junk, .junk, .junk, .junk, .junk, .junk, .junk, .junk, .junk, .nils, .int .i64 0, .int .i64 0, .junk, .junk, .junk, .junk, .junk, .junk, .junk, .junk, .junk, .junk, .junk, .junk, .junk, .junk, .junk, .junk, .junk, .junk, .junk, .junk, .junk, .junk, .junk, .junk, .junk, .junk, .junk, .junk, .junk, .junk, .junk, .junk, .junk, .junk, .junk, .junk, .junk, .junk, .junk, .junk, .junk, .junk, .junk] _ (Weak.imp ?_ (Imp.refl _)) ⟨rfl, rfl, rfl⟩ ?_
        · exact Ss
        rintro m env L ⟨rfl, rfl, rfl⟩
        repeat(first|refine Sc ?_|refine fun(_:Nat)=>?_)
        refine ⟨fun h => absurd h (by decide), fun _ => ?_⟩
        repeat(first|refine Sc ?_|refine fun(_:Nat)=>?_)
        refine ⟨fun h => ?_, fun h => ?_⟩
        · have hjN : j = (namesOf p).length := by have h : (j : Int) = ((namesOf p).length : Nat) := h; omega
          have hfin : (res).Perm (matchT l p st k) := by
            rw [hjN, List.drop_length] at hperm
            have := (List.Perm.append_left res (tagged_perm hws st k p)).trans hperm
            rwa [show tagged [] st k p = [] from rfl, List.append_nil] at this
          have hback : Imp [(0, boxL R), (g, .cells tT ([mv, .nils] ++ [ofv])), (gm, om), (gw, .dead), (0, boxL (ks.map kidB))] [(0, boxL (trieL Hn go oo S))] := (Imp.app (L := [_]) (L' := [_]) (.refl _) (Imp.box 0 _)).trans hImp
          repeat(first|refine Sc ?_|refine fun(_:Nat)=>?_)
          rcases hres with ⟨e0, rfl, rfl⟩ | ⟨Cp, rfl, rfl⟩
          · refine ACallT.ok (ACall.pure _ sortT_nil ?_)
            rintro r L' ⟨rfl, rfl⟩
            refine ⟨_, Sub.refl _, ?_⟩
            repeat(first|refine Sc ?_|refine fun(_:Nat)=>?_)
            exact ⟨.nils, _, (FinOk.keepS _ [0, 3, 5, 6, 7] (Sub.refl _) (by decide) rfl (show SubL _ ([(0, boxL R), (g, .cells tT ([mv, .nils] ++ [ofv])), (gm, om), (gw, .dead), (0, boxL (ks.map kidB))]) from by repeat(first|exact trivial|refine Zy rfl ?_|refine Zy (SubO.refl _) ?_|refine Zy trivial ?_|refine Zy (SubO.cells (by repeat(first|exact trivial|refine Zy (Sub.refl _) ?_|refine Zy (Sub.sl _ _ _ _ _) ?_|refine Zy (Sub.ptr _ _ _ _) ?_))) ?_))).trans (FinOk.imp _ (hback.trans (Imp.snocD _))), [], 0, .dead, .inl ⟨rfl, rfl, rfl⟩, by rw [if_pos hp]; rw [e0] at hfin; exact hfin, List.Pairwise.nil, rfl⟩
          · have hrl : (res).length ≤ 1000 := by have := hfin.length_eq; have := matchT_len l p st k; omega
            refine ACallT.ok (ACall.sel [4] (by decide) [.sl 0 gl Cp (res).length, .any (.func (.func 27) #[] #[])] _ ⟨Sub.sl _ _ _ _ _, Sub.refl _, trivial⟩ (sortT_spec 0 gl Cp (res) hrl) ?_)
            rintro r L' ⟨rfl, ys, h1, h2, rfl⟩
            refine ⟨_, Sub.refl _, ?_⟩
            repeat(first|refine Sc ?_|refine fun(_:Nat)=>?_)
            exact ⟨.sl 1 gl Cp ys.length, _, (FinOk.keepS _ [0, 3, 5, 6, 7, 4] (by rw [h1.length_eq]; exact Sub.sl _ _ _ _ _) (by decide) rfl (show SubL _ ([(0, boxL R), (g, .cells tT ([mv, .nils] ++ [ofv])), (gm, om), (gw, .dead), (0, boxL (ks.map kidB)), (gl, .row tG 2 Cp (ys.map encG))]) from by repeat(first|exact trivial|refine Zy rfl ?_|refine Zy (SubO.refl _) ?_|refine Zy trivial ?_|refine Zy (SubO.cells (by repeat(first|exact trivial|refine Zy (Sub.refl _) ?_|refine Zy (Sub.sl _ _ _ _ _) ?_|refine Zy (Sub.ptr _ _ _ _) ?_))) ?_))).trans (FinOk.imp _ (Imp.app (L := [_, _, _, _, _]) (L' := [_]) (M := [_]) (M' := [_]) hback (.refl _))), ys, gl, _, .inr ⟨Cp, rfl, rfl⟩, by rw [if_pos hp]; exact h1.trans hfin, h2.imp fun h => of_decide_eq_false h, rfl⟩
        · have hjN : j < (namesOf p).length := by have h : ¬ (j : Int) = ((namesOf p).length : Nat) := h; omega
          obtain ⟨nm, hnm⟩ : ∃ nm, (namesOf p)[j]? = some nm := ⟨_, List.getElem?_eq_getElem hjN⟩
          have hdr : (namesOf p).drop j = nm :: (namesOf p).drop (j + 1) := by
            rw [List.drop_eq_getElem_cons hjN]
            congr 1
            exact (List.getElem?_eq_some_iff.1 hnm).2
          have hnext : (res ++ tagged (pathN (belowN lc nm) ((namesOf p).drop (j + 1))) st k p).Perm (matchT l p st k) := by
            rw [hdr] at hperm
            have h0 : hereN lc = [] := hws.symm.eq_nil
            have e : pathN lc (nm :: (namesOf p).drop (j + 1)) = pathN (belowN lc nm) ((namesOf p).drop (j + 1)) := by show hereN lc ++ _ = _; rw [h0]; rfl
            rw [e] at hperm
            exact hperm
          have hmiss : belowN lc nm = [] → res.Perm (matchT l p st k) := fun hb => by
            rw [hb, pathN_nil, show tagged [] st k p = [] from rfl, List.append_nil] at hnext
            exact hnext
          repeat(first|refine Sc ?_|refine fun(_:Nat)=>?_)
          rcases hm with ⟨rfl, rfl, rfl⟩ | ⟨rfl, es, cl, rfl, hm⟩
          · have hb : belowN lc nm = [] := Decidable.byContradiction fun h => by
              obtain ⟨z, hz, _⟩ := (hk nm).2 h
              cases hz
            refine Run.drawnK C_ok (aopC_sound C_ok) [3, 2, 5] [0, 1, 2, 4, 5, 6, 3, 7, 8, 9] (by kernel_rfl) ?_
            repeat(first|refine Sc ?_|refine fun(_:Nat)=>?_)
            refine ⟨by omega, ?_⟩
            repeat(first|refine Sc ?_|refine fun(_:Nat)=>?_)
            refine ⟨.str nm, map_at AV.str hnm, ?_⟩
            repeat(first|refine Sc ?_|refine fun(_:Nat)=>?_)
            refine fun r hr => ?_
            obtain rfl := add1 hr (by omega)
            repeat(first|refine Sc ?_|refine fun(_:Nat)=>?_)
            refine Cont.lpW ?_
            refine ⟨8 - (j + 1), [.ptr 0 gt 0, .int .i64 st, chA k p d v, .junk, .junk, .ptr 1 gc 0, .nils, (.sl 2 gn (namesOf p).length (namesOf p).length), .int .i64 0, lv, .nilp, .int .i64 (j + 1 : Nat), .junk, .junk, .junk, .junk, .junk, .junk, .junk, .junk, .junk, .junk, .junk, .junk, .junk, .junk, .junk, .junk, .junk, .junk, .junk, .junk, .junk, .junk, .junk, .junk, .junk, .junk, .junk, .junk, .junk, .junk, .junk, .junk, .junk, .junk, .junk, .junk, .junk, .junk, .junk, .junk, .junk, .junk, .junk, .junk, .junk, .junk, .junk, .junk, .junk, .junk, .junk, .junk, .junk, .junk, .junk, .junk, .junk, .junk, .junk, .junk, .junk, .junk, .junk, .junk, .junk, .junk, .junk, .junk, .junk, .junk], _, by omega, Weak.imp ?_ ((Imp.subL (show SubL _ ([(0, boxL R), (gc, .cells 24 [.int .i64 k, .str p, .str d, .int .i64 v]), (gn, .row 9 1 (namesOf p).length ((namesOf p).map .str)), (g, .cells tT ([.any (.map none), .nils] ++ [ofv])), (gl, lo), (gm, .dead), (gw, .dead), (0, boxL (([] : List Kid).map kidB))]) from by repeat(first|exact trivial|refine Zy rfl ?_|refine Zy (SubO.refl _) ?_|refine Zy trivial ?_|refine Zy (SubO.cells (by repeat(first|exact trivial|refine Zy (Sub.refl _) ?_|refine Zy (Sub.sl _ _ _ _ _) ?_|refine Zy (Sub.ptr _ _ _ _) ?_))) ?_))).trans (Imp.closeAt _ _ _ _ _ _ _ _)), ⟨j + 1, R, (nodeL tT [ofv] g (.any (.map none)) (.nils) gm gw (.dead) (.dead) []), res, lv, .nilp, gl, lo, rfl, by omega, by omega, hres, hImp, .inl ⟨rfl, hmiss hb⟩, rfl, rfl⟩⟩
            exact Ss
          · by_cases hky : ∃ y ∈ ks, y.1 = nm
            · obtain ⟨y, hy, rfl⟩ := hky
              obtain ⟨i, hy⟩ := List.mem_iff_getElem?.1 hy
              refine Run.drawnK C_ok (aopC_sound C_ok) [3, 2, 5] [0, 1, 2, 4, 5, 6, 3, 7, 8, 9] (by kernel_rfl) ?_
              repeat(first|refine Sc ?_|refine fun(_:Nat)=>?_)
              refine ⟨by omega, ?_⟩
              repeat(first|refine Sc ?_|refine fun(_:Nat)=>?_)
              refine ⟨.str y.1, map_at AV.str hnm, ?_⟩
              repeat(first|refine Sc ?_|refine fun(_:Nat)=>?_)
              refine ⟨5, es, cl, some (i, valK y), by decide, rfl, hm.hit u9 keyKS hy, ?_⟩
              repeat(first|refine Sc ?_|refine fun(_:Nat)=>?_)
              refine ⟨.ptr 3 y.2.1 0, rfl, ?_⟩
              repeat(first|refine Sc ?_|refine fun(_:Nat)=>?_)
              refine fun r hr => ?_
              obtain rfl := add1 hr (by omega)
              repeat(first|refine Sc ?_|refine fun(_:Nat)=>?_)
              refine Cont.lpW ?_
              refine ⟨8 - (j + 1), [.ptr 0 gt 0, .int .i64 st, chA k p d v, .junk, .junk, .ptr 1 gc 0, .nils, (.sl 2 gn (namesOf p).length (namesOf p).length), .int .i64 0, lv, (.ptr 3 y.2.1 0), .int .i64 (j + 1 : Nat), .junk, .junk, .junk, .junk, .junk, .junk, .junk, .junk, .junk, .junk, .junk, .junk, .junk, .junk, .junk, .junk, .junk, .junk, .junk, .junk, .junk, .junk, .junk, .junk, .junk, .junk, .junk, .junk, .junk, .junk, .junk, .junk, .junk, .junk, .junk, .junk, .junk, .junk, .junk, .junk, .junk, .junk, .junk, .junk, .junk, .junk, .junk, .junk, .junk, .junk, .junk, .junk, .junk, .junk, .junk, .junk, .junk, .junk, .junk, .junk, .junk, .junk, .junk, .junk, .junk, .junk, .junk, .junk, .junk, .junk], _, by omega, Weak.imp ?_ ((Imp.subL (show SubL _ ([(0, boxL R), (gc, .cells 24 [.int .i64 k, .str p, .str d, .int .i64 v]), (gn, .row 9 1 (namesOf p).length ((namesOf p).map .str)), (g, .cells tT ([.any (.map (some gm)), .nils] ++ [ofv])), (gl, lo), (gm, .obj (.map es cl)), (gw, .dead), (0, boxL (ks.map kidB))]) from by repeat(first|exact trivial|refine Zy rfl ?_|refine Zy (SubO.refl _) ?_|refine Zy trivial ?_|refine Zy (SubO.cells (by repeat(first|exact trivial|refine Zy (Sub.refl _) ?_|refine Zy (Sub.sl _ _ _ _ _) ?_|refine Zy (Sub.ptr _ _ _ _) ?_))) ?_))).trans (Imp.downAt _ _ _ _ _ _ _ (Imp.kid_out hy))), ⟨j + 1, _, y.2.2, res, lv, .ptr 3 y.2.1 0, gl, lo, rfl, by omega, by omega, hres, (Imp.upAt _ _ _ _ (Imp.kid_in hy)).trans hImp, .inr ⟨by omega, y.2.1, belowN lc y.1, tI, [], rfl, .inl ⟨rfl, rfl⟩, Nat.le_trans (below_len _ _) hlc, hin y (List.mem_of_getElem? hy), hnext⟩, rfl, rfl⟩⟩
              exact Ss
            · have hb : belowN lc nm = [] := Decidable.byContradiction fun h => hky ((hk nm).2 h)
              refine Run.drawnK C_ok (aopC_sound C_ok) [3, 2, 5] [0, 1, 2, 4, 5, 6, 3, 7, 8, 9] (by kernel_rfl) ?_
              repeat(first|refine Sc ?_|refine fun(_:Nat)=>?_)
              refine ⟨by omega, ?_⟩
              repeat(first|refine Sc ?_|refine fun(_:Nat)=>?_)
              refine ⟨.str nm, map_at AV.str hnm, ?_⟩
              repeat(first|refine Sc ?_|refine fun(_:Nat)=>?_)
              refine ⟨5, es, cl, none, by decide, rfl, hm.none nm (fun x hx e => hky ⟨x, hx, e⟩), ?_⟩
              repeat(first|refine Sc ?_|refine fun(_:Nat)=>?_)
              refine fun r hr => ?_
              obtain rfl := add1 hr (by omega)
              repeat(first|refine Sc ?_|refine fun(_:Nat)=>?_)
              refine Cont.lpW ?_
              refine ⟨8 - (j + 1), [.ptr 0 gt 0, .int .i64 st, chA k p d v, .junk, .junk, .ptr 1 gc 0, .nils, (.sl 2 gn (namesOf p).length (namesOf p).length), .int .i64 0, lv, .nilp, .int .i64 (j + 1 : Nat), .junk, .junk, .junk, .junk, .junk, .junk, .junk, .junk, .junk, .junk, .junk, .junk, .junk, .junk, .junk, .junk, .junk, .junk, .junk, .junk, .junk, .junk, .junk, .junk, .junk, .junk, .junk, .junk, .junk, .junk, .junk, .junk, .junk, .junk, .junk, .junk, .junk, .junk, .junk, .junk, .junk, .junk, .junk, .junk, .junk, .junk, .junk, .junk, .junk, .junk, .junk, .junk, .junk, .junk, .junk, .junk, .junk, .junk, .junk, .junk, .junk, .junk, .junk, .junk, .junk, .junk, .junk, .junk, .junk, .junk], _, by omega, Weak.imp ?_ ((Imp.subL (show SubL _ ([(0, boxL R), (gc, .cells 24 [.int .i64 k, .str p, .str d, .int .i64 v]), (gn, .row 9 1 (namesOf p).length ((namesOf p).map .str)), (g, .cells tT ([.any (.map (some gm)), .nils] ++ [ofv])), (gl, lo), (gm, .obj (.map es cl)), (gw, .dead), (0, boxL (ks.map kidB))]) from by repeat(first|exact trivial|refine Zy rfl ?_|refine Zy (SubO.refl _) ?_|refine Zy trivial ?_|refine Zy (SubO.cells (by repeat(first|exact trivial|refine Zy (Sub.refl _) ?_|refine Zy (Sub.sl _ _ _ _ _) ?_|refine Zy (Sub.ptr _ _ _ _) ?_))) ?_))).trans (Imp.closeAt _ _ _ _ _ _ _ _)), ⟨j + 1, R, (nodeL tT [ofv] g (.any (.map (some gm))) (.nils) gm gw (.obj (.map es cl)) (.dead) ks), res, lv, .nilp, gl, lo, rfl, by omega, by omega, hres, hImp, .inl ⟨rfl, hmiss hb⟩, rfl, rfl⟩⟩
              exact Ss
      · refine Run.weak0 C_ok (Weak.imp (Subs.refl _) ((Imp.nodeOpen _ _ _ _ _ _).trans (Imp.subL (show SubL _ ([(0, boxL R), (gc, .cells 24 [.int .i64 k, .str p, .str d, .int .i64 v]), (gn, .row 9 1 (namesOf p).length ((namesOf p).map .str)), (g, .cells tT ([mv, .sl 6 gw Cw ws.length] ++ [ofv])), (gl, lo), (gm, om), (gw, .row tH 5 Cw (ws.map encH)), (0, boxL (ks.map kidB))]) from by repeat(first|exact trivial|refine Zy rfl ?_|refine Zy (SubO.refl _) ?_|refine Zy trivial ?_|refine Zy (SubO.cells (by repeat(first|exact trivial|refine Zy (Sub.refl _) ?_|refine Zy (Sub.sl _ _ _ _ _) ?_|refine Zy (Sub.ptr _ _ _ _) ?_))) ?_))))) ?_
        repeat(first|refine Sc ?_|refine fun(_:Nat)=>?_)
        have hwl : ws.length ≤ 1000 := hWL
        refine Run.loopW (fun m env L => ∃ (i : Nat) (lv : AV) (gl : Nat) (lo : AObj), m = ws.length - i ∧ i ≤ ws.length ∧ LN encG tG 2 4 (res ++ tagged (ws.take i) st k p) lv gl lo ∧ env = [.ptr 0 gt 0, .int .i64 st, chA k p d v, .junk, .junk, .ptr 1 gc 0, .nils, (.sl 2 gn (namesOf p).length (namesOf p).length), .int .i64 0, lv, .ptr 3 g 0, .int .i64 j, .junk, .junk, .junk, .junk, .junk, .junk, .junk, .junk, .junk, .junk, .junk, .junk, .junk, .junk, .junk, .junk, .junk, .junk, .junk, .junk, .junk, .junk, .junk, .junk, .sl 6 gw Cw ws.length, .int .i64 ws.length, .int .i64 i, .junk, .junk, .junk, .junk, .junk, .junk, .junk, .junk, .junk, .junk, .junk, .junk, .junk, .junk, .junk, .junk, .junk, .junk, .junk, .junk, .junk, .junk, .junk, .junk, .junk, .junk, .junk, .junk, .junk, .junk, .junk, .junk, .junk, .junk, .junk, .junk, .junk, .junk, .junk, .junk, .junk, .junk, .junk] ∧ L = [(0, boxL R), (gc, .cells 24 [.int .i64 k, .str p, .str d, .int .i64 v]), (gn, .row 9 1 (namesOf p).length ((namesOf p).map .str)), (g, .cells tT ([mv, .sl 6 gw Cw ws.length] ++ [ofv])), (gl, lo), (gm, om), (gw, .row tH 5 Cw (ws.map encH)), (0, boxL (ks.map kidB))]) ws.length
          [.ptr 0 gt 0, .int .i64 st, chA k p d v, .junk, .junk, .ptr 1 gc 0, .nils, (.sl 2 gn (namesOf p).length (namesOf p).length), .int .i64 0, lv, .ptr 3 g 0, .int .i64 j, .junk, .junk, .junk, .junk, .junk, .junk, .junk, .junk, .junk, .junk, .junk, .junk, .junk, .junk, .junk, .junk, .junk, .junk, .junk, .junk, .junk, .junk, .junk, .junk, .sl 6 gw Cw ws.length, .int .i64 ws.length, .int .i64 (0 : Nat), .junk, .junk, .junk, .junk, .junk, .junk, .junk, .junk, .junk, .junk, .junk, .junk, .junk, .junk, .junk, .junk, .junk, .junk, .junk, .junk, .junk, .junk, .junk, .junk, .junk, .junk, .junk, .junk, .junk, .junk, .junk, .junk, .junk, .junk, .junk, .junk, .junk, .junk, .junk, .junk, .junk, .junk, .junk] _ (Weak.imp ?_ (Imp.refl _)) ⟨0, lv, gl, lo, by omega, by omega, by simpa [tagged] using hres, rfl, rfl⟩ ?_
        · exact Ss
        have hRL : res.length ≤ 200 := by have h1 := hperm.length_eq; have h2 := matchT_len l p st k; rw [List.length_append] at h1; omega
        clear hres lv gl lo
        rintro m env L ⟨i, lv, gl, lo, rfl, hi, hres, rfl, rfl⟩
        repeat(first|refine Sc ?_|refine fun(_:Nat)=>?_)
        refine ⟨fun h => ?_, fun h => ?_⟩
        · have h : (i : Int) < (ws.length : Int) := h
          obtain ⟨x, ex⟩ : ∃ x, ws[i]? = some x := ⟨_, List.getElem?_eq_getElem (by omega)⟩
          repeat(first|refine Sc ?_|refine fun(_:Nat)=>?_)
          refine ⟨h, ?_⟩
          repeat(first|refine Sc ?_|refine fun(_:Nat)=>?_)
          refine ⟨encH x, map_at encH ex, ?_⟩
          repeat(first|refine Sc ?_|refine fun(_:Nat)=>?_)
          refine ⟨fun hf => ?_, fun hf => ?_⟩
          · have hf : x.w.f < st := hf
            by_cases hc : coversP x.w.k x.w.p k p
            · repeat(first|refine Sc ?_|refine fun(_:Nat)=>?_)
              refine ACallT.ok (ACall.ret (covers_is (decide_eq_true hc)) ?_)
              repeat(first|refine Sc ?_|refine fun(_:Nat)=>?_)
              refine ACallT.ok (ACall.ret (tag_spec x) ?_)
              repeat(first|refine Sc ?_|refine fun(_:Nat)=>?_)
              rcases hres with ⟨e0, rfl, rfl⟩ | ⟨Cp, rfl, rfl⟩
              · repeat(first|refine Sc ?_|refine fun(_:Nat)=>?_)
                refine ⟨fun h => absurd h (List.cons_ne_nil _ _), fun _ => ?_⟩
                repeat(first|refine Sc ?_|refine fun(_:Nat)=>?_)
                rename_i g' Cp'
                refine fun r hr => ?_
                obtain rfl := add1 hr (by omega)
                repeat(first|refine Sc ?_|refine fun(_:Nat)=>?_)
                refine Cont.lpW ?_
                refine ⟨ws.length - (i + 1), _, _, by omega, Weak.sel ?_ [0, 1, 2, 3, 10, 5, 6, 7] (by decide) ?_, ⟨i + 1, .sl 4 g' Cp' 1, g', _, rfl, by omega, by rw [tagged_yes ex ⟨hf, hc⟩, ← List.append_assoc]; exact LN1 _ e0, rfl, rfl⟩⟩
                · exact Ss
                · exact Sl
              · repeat(first|refine Sc ?_|refine fun(_:Nat)=>?_)
                refine ⟨by simp, ?_⟩
                repeat(first|refine Sc ?_|refine fun(_:Nat)=>?_)
                refine ⟨by show (_ + 1) * _ ≤ _; rw [List.length_map, List.length_append]; have := tagged_len (ws.take i) st k p; rw [List.length_take] at this; omega, ?_⟩
                repeat(first|refine Sc ?_|refine fun(_:Nat)=>?_)
                rename_i g' Cp'
                refine fun r hr => ?_
                obtain rfl := add1 hr (by omega)
                repeat(first|refine Sc ?_|refine fun(_:Nat)=>?_)
                refine Cont.lpW ?_
                refine ⟨ws.length - (i + 1), _, _, by omega, Weak.sel ?_ [0, 1, 2, 3, 4, 5, 6, 7] (by decide) ?_, ⟨i + 1, .sl 4 g' Cp' (((res ++ tagged (ws.take i) st k p).map encG).length + 1), g', _, rfl, by omega, by rw [tagged_yes ex ⟨hf, hc⟩, ← List.append_assoc]; exact LN2 _, rfl, rfl⟩⟩
                · exact Ss
                · exact Sl
            · repeat(first|refine Sc ?_|refine fun(_:Nat)=>?_)
              refine ACallT.ok (ACall.ret (covers_is (decide_eq_false hc)) ?_)
              repeat(first|refine Sc ?_|refine fun(_:Nat)=>?_)
              refine fun r hr => ?_
              obtain rfl := add1 hr (by omega)
              repeat(first|refine Sc ?_|refine fun(_:Nat)=>?_)
              refine Cont.lpW ?_
              refine ⟨ws.length - (i + 1), _, _, by omega, Weak.sel ?_ [0, 1, 2, 3, 4, 5, 6, 7] (by decide) ?_, ⟨i + 1, lv, gl, _, rfl, by omega, by rw [tagged_no ex (fun e => hc e.2)]; exact hres, rfl, rfl⟩⟩
              · exact Ss
              · exact Sl
          · have hf : ¬ x.w.f < st := hf
            repeat(first|refine Sc ?_|refine fun(_:Nat)=>?_)
            refine fun r hr => ?_
            obtain rfl := add1 hr (by omega)
            repeat(first|refine Sc ?_|refine fun(_:Nat)=>?_)
            refine Cont.lpW ?_
            refine ⟨ws.length - (i + 1), _, _, by omega, Weak.sel ?_ [0, 1, 2, 3, 4, 5, 6, 7] (by decide) ?_, ⟨i + 1, lv, gl, _, rfl, by omega, by rw [tagged_no ex (fun e => hf e.1)]; exact hres, rfl, rfl⟩⟩
            · exact Ss
            · exact Sl
        · have h : ¬ (i : Int) < (ws.length : Int) := h
          obtain rfl : i = ws.length := by omega
          rw [List.take_length] at hres
          repeat(first|refine Sc ?_|refine fun(_:Nat)=>?_)
          refine ⟨fun h => ?_, fun h => ?_⟩
          · have hjN : j = (namesOf p).length := by have h : (j : Int) = ((namesOf p).length : Nat) := h; omega
            have hfin : (res ++ tagged ws st k p).Perm (matchT l p st k) := by
              rw [hjN, List.drop_length] at hperm
              exact (List.Perm.append_left _ (tagged_perm hws st k p)).trans hperm
            have hback : Imp [(0, boxL R), (g, .cells tT ([mv, .sl 2 gw Cw ws.length] ++ [ofv])), (gm, om), (gw, .row tH 5 Cw (ws.map encH)), (0, boxL (ks.map kidB))] [(0, boxL (trieL Hn go oo S))] := (Imp.app (L := [_]) (L' := [_]) (.refl _) (Imp.box 0 _)).trans hImp
            repeat(first|refine Sc ?_|refine fun(_:Nat)=>?_)
            rcases hres with ⟨e0, rfl, rfl⟩ | ⟨Cp, rfl, rfl⟩
            · refine ACallT.ok (ACall.pure _ sortT_nil ?_)
              rintro r L' ⟨rfl, rfl⟩
              refine ⟨_, Sub.refl _, ?_⟩
              repeat(first|refine Sc ?_|refine fun(_:Nat)=>?_)
              exact ⟨.nils, _, (FinOk.keepS _ [0, 3, 5, 6, 7] (Sub.refl _) (by decide) rfl (show SubL _ ([(0, boxL R), (g, .cells tT ([mv, .sl 2 gw Cw ws.length] ++ [ofv])), (gm, om), (gw, .row tH 5 Cw (ws.map encH)), (0, boxL (ks.map kidB))]) from by repeat(first|exact trivial|refine Zy rfl ?_|refine Zy (SubO.refl _) ?_|refine Zy trivial ?_|refine Zy (SubO.cells (by repeat(first|exact trivial|refine Zy (Sub.refl _) ?_|refine Zy (Sub.sl _ _ _ _ _) ?_|refine Zy (Sub.ptr _ _ _ _) ?_))) ?_))).trans (FinOk.imp _ (hback.trans (Imp.snocD _))), [], 0, .dead, .inl ⟨rfl, rfl, rfl⟩, by rw [if_pos hp]; rw [e0] at hfin; exact hfin, List.Pairwise.nil, rfl⟩
            · have hrl : (res ++ tagged ws st k p).length ≤ 1000 := by have := hfin.length_eq; have := matchT_len l p st k; omega
              refine ACallT.ok (ACall.sel [4] (by decide) [.sl 0 gl Cp (res ++ tagged ws st k p).length, .any (.func (.func 27) #[] #[])] _ ⟨Sub.sl _ _ _ _ _, Sub.refl _, trivial⟩ (sortT_spec 0 gl Cp (res ++ tagged ws st k p) hrl) ?_)
              rintro r L' ⟨rfl, ys, h1, h2, rfl⟩
              refine ⟨_, Sub.refl _, ?_⟩
              repeat(first|refine Sc ?_|refine fun(_:Nat)=>?_)
              exact ⟨.sl 1 gl Cp ys.length, _, (FinOk.keepS _ [0, 3, 5, 6, 7, 4] (by rw [h1.length_eq]; exact Sub.sl _ _ _ _ _) (by decide) rfl (show SubL _ ([(0, boxL R), (g, .cells tT ([mv, .sl 2 gw Cw ws.length] ++ [ofv])), (gm, om), (gw, .row tH 5 Cw (ws.map encH)), (0, boxL (ks.map kidB)), (gl, .row tG 2 Cp (ys.map encG))]) from by repeat(first|exact trivial|refine Zy rfl ?_|refine Zy (SubO.refl _) ?_|refine Zy trivial ?_|refine Zy (SubO.cells (by repeat(first|exact trivial|refine Zy (Sub.refl _) ?_|refine Zy (Sub.sl _ _ _ _ _) ?_|refine Zy (Sub.ptr _ _ _ _) ?_))) ?_))).trans (FinOk.imp _ (Imp.app (L := [_, _, _, _, _]) (L' := [_]) (M := [_]) (M' := [_]) hback (.refl _))), ys, gl, _, .inr ⟨Cp, rfl, rfl⟩, by rw [if_pos hp]; exact h1.trans hfin, h2.imp fun h => of_decide_eq_false h, rfl⟩
          · have hjN : j < (namesOf p).length := by have h : ¬ (j : Int) = ((namesOf p).length : Nat) := h; omega
            obtain ⟨nm, hnm⟩ : ∃ nm, (namesOf p)[j]? = some nm := ⟨_, List.getElem?_eq_getElem hjN⟩
            have hdr : (namesOf p).drop j = nm :: (namesOf p).drop (j + 1) := by
              rw [List.drop_eq_getElem_cons hjN]
              congr 1
              exact (List.getElem?_eq_some_iff.1 hnm).2
            have hnext : (res ++ tagged ws st k p ++ tagged (pathN (belowN lc nm) ((namesOf p).drop (j + 1))) st k p).Perm (matchT l p st k) := by
              rw [hdr] at hperm
              have e : tagged (pathN lc (nm :: (namesOf p).drop (j + 1))) st k p = tagged (hereN lc) st k p ++ tagged (pathN (belowN lc nm) ((namesOf p).drop (j + 1))) st k p := tagged_app _ _ _ _ _
              rw [e, ← List.append_assoc] at hperm
              exact ((List.Perm.append_left res (tagged_perm hws st k p)).append_right _).trans hperm
            have hmiss : belowN lc nm = [] → (res ++ tagged ws st k p).Perm (matchT l p st k) := fun hb => by
              rw [hb, pathN_nil, show tagged [] st k p = [] from rfl, List.append_nil] at hnext
              exact hnext
            repeat(first|refine Sc ?_|refine fun(_:Nat)=>?_)
            rcases hm with ⟨rfl, rfl, rfl⟩ | ⟨rfl, es, cl, rfl, hm⟩
            · have hb : belowN lc nm = [] := Decidable.byContradiction fun h => by
                obtain ⟨z, hz, _⟩ := (hk nm).2 h
                cases hz
              refine Run.drawnK C_ok (aopC_sound C_ok) [3, 2, 5] [0, 1, 2, 4, 5, 6, 3, 7, 8, 9] (by kernel_rfl) ?_
              repeat(first|refine Sc ?_|refine fun(_:Nat)=>?_)
              refine ⟨by omega, ?_⟩
              repeat(first|refine Sc ?_|refine fun(_:Nat)=>?_)
              refine ⟨.str nm, map_at AV.str hnm, ?_⟩
              repeat(first|refine Sc ?_|refine fun(_:Nat)=>?_)
              refine fun r hr => ?_
              obtain rfl := add1 hr (by omega)
              repeat(first|refine Sc ?_|refine fun(_:Nat)=>?_)
              refine Cont.lpW ?_
              refine ⟨8 - (j + 1), [.ptr 0 gt 0, .int .i64 st, chA k p d v, .junk, .junk, .ptr 1 gc 0, .nils, (.sl 2 gn (namesOf p).length (namesOf p).length), .int .i64 0, lv, .nilp, .int .i64 (j + 1 : Nat), .junk, .junk, .junk, .junk, .junk, .junk, .junk, .junk, .junk, .junk, .junk, .junk, .junk, .junk, .junk, .junk, .junk, .junk, .junk, .junk, .junk, .junk, .junk, .junk, .junk, .junk, .junk, .junk, .junk, .junk, .junk, .junk, .junk, .junk, .junk, .junk, .junk, .junk, .junk, .junk, .junk, .junk, .junk, .junk, .junk, .junk, .junk, .junk, .junk, .junk, .junk, .junk, .junk, .junk, .junk, .junk, .junk, .junk, .junk, .junk, .junk, .junk, .junk, .junk, .junk, .junk, .junk, .junk, .junk, .junk], _, by omega, Weak.imp ?_ ((Imp.subL (show SubL _ ([(0, boxL R), (gc, .cells 24 [.int .i64 k, .str p, .str d, .int .i64 v]), (gn, .row 9 1 (namesOf p).length ((namesOf p).map .str)), (g, .cells tT ([.any (.map none), .sl 2 gw Cw ws.length] ++ [ofv])), (gl, lo), (gm, .dead), (gw, .row tH 5 Cw (ws.map encH)), (0, boxL (([] : List Kid).map kidB))]) from by repeat(first|exact trivial|refine Zy rfl ?_|refine Zy (SubO.refl _) ?_|refine Zy trivial ?_|refine Zy (SubO.cells (by repeat(first|exact trivial|refine Zy (Sub.refl _) ?_|refine Zy (Sub.sl _ _ _ _ _) ?_|refine Zy (Sub.ptr _ _ _ _) ?_))) ?_))).trans (Imp.closeAt _ _ _ _ _ _ _ _)), ⟨j + 1, R, (nodeL tT [ofv] g (.any (.map none)) (.sl 2 gw Cw ws.length) gm gw (.dead) (.row tH 5 Cw (ws.map encH)) []), (res ++ tagged ws st k p), lv, .nilp, gl, lo, rfl, by omega, by omega, hres, hImp, .inl ⟨rfl, hmiss hb⟩, rfl, rfl⟩⟩
              exact Ss
            · by_cases hky : ∃ y ∈ ks, y.1 = nm
              · obtain ⟨y, hy, rfl⟩ := hky
                obtain ⟨i, hy⟩ := List.mem_iff_getElem?.1 hy
                refine Run.drawnK C_ok (aopC_sound C_ok) [3, 2, 5] [0, 1, 2, 4, 5, 6, 3, 7, 8, 9] (by kernel_rfl) ?_
                repeat(first|refine Sc ?_|refine fun(_:Nat)=>?_)
                refine ⟨by omega, ?_⟩
                repeat(first|refine Sc ?_|refine fun(_:Nat)=>?_)
                refine ⟨.str y.1, map_at AV.str hnm, ?_⟩
                repeat(first|refine Sc ?_|refine fun(_:Nat)=>?_)
                refine ⟨5, es, cl, some (i, valK y), by decide, rfl, hm.hit u9 keyKS hy, ?_⟩
                repeat(first|refine Sc ?_|refine fun(_:Nat)=>?_)
                refine ⟨.ptr 3 y.2.1 0, rfl, ?_⟩
                repeat(first|refine Sc ?_|refine fun(_:Nat)=>?_)
                refine fun r hr => ?_
                obtain rfl := add1 hr (by omega)
                repeat(first|refine Sc ?_|refine fun(_:Nat)=>?_)
                refine Cont.lpW ?_
                refine ⟨8 - (j + 1), [.ptr 0 gt 0, .int .i64 st, chA k p d v, .junk, .junk, .ptr 1 gc 0, .nils, (.sl 2 gn (namesOf p).length (namesOf p).length), .int .i64 0, lv, (.ptr 3 y.2.1 0), .int .i64 (j + 1 : Nat), .junk, .junk, .junk, .junk, .junk, .junk, .junk, .junk, .junk, .junk, .junk, .junk, .junk, .junk, .junk, .junk, .junk, .junk, .junk, .junk, .junk, .junk, .junk, .junk, .junk, .junk, .junk, .junk, .junk, .junk, .junk, .junk, .junk, .junk, .junk, .junk, .junk, .junk, .junk, .junk, .junk, .junk, .junk, .junk, .junk, .junk, .junk, .junk, .junk, .junk, .junk, .junk, .junk, .junk, .junk, .junk, .junk, .junk, .junk, .junk, .junk, .junk, .junk, .junk, .junk, .junk, .junk, .junk, .junk, .junk], _, by omega, Weak.imp ?_ ((Imp.subL (show SubL _ ([(0, boxL R), (gc, .cells 24 [.int .i64 k, .str p, .str d, .int .i64 v]), (gn, .row 9 1 (namesOf p).length ((namesOf p).map .str)), (g, .cells tT ([.any (.map (some gm)), .sl 2 gw Cw ws.length] ++ [ofv])), (gl, lo), (gm, .obj (.map es cl)), (gw, .row tH 5 Cw (ws.map encH)), (0, boxL (ks.map kidB))]) from by repeat(first|exact trivial|refine Zy rfl ?_|refine Zy (SubO.refl _) ?_|refine Zy trivial ?_|refine Zy (SubO.cells (by repeat(first|exact trivial|refine Zy (Sub.refl _) ?_|refine Zy (Sub.sl _ _ _ _ _) ?_|refine Zy (Sub.ptr _ _ _ _) ?_))) ?_))).trans (Imp.downAt _ _ _ _ _ _ _ (Imp.kid_out hy))), ⟨j + 1, _, y.2.2, (res ++ tagged ws st k p), lv, .ptr 3 y.2.1 0, gl, lo, rfl, by omega, by omega, hres, (Imp.upAt _ _ _ _ (Imp.kid_in hy)).trans hImp, .inr ⟨by omega, y.2.1, belowN lc y.1, tI, [], rfl, .inl ⟨rfl, rfl⟩, Nat.le_trans (below_len _ _) hlc, hin y (List.mem_of_getElem? hy), hnext⟩, rfl, rfl⟩⟩
                exact Ss
              · have hb : belowN lc nm = [] := Decidable.byContradiction fun h => hky ((hk nm).2 h)
                refine Run.drawnK C_ok (aopC_sound C_ok) [3, 2, 5] [0, 1, 2, 4, 5, 6, 3, 7, 8, 9] (by kernel_rfl) ?_
                repeat(first|refine Sc ?_|refine fun(_:Nat)=>?_)
                refine ⟨by omega, ?_⟩
                repeat(first|refine Sc ?_|refine fun(_:Nat)=>?_)
                refine ⟨.str nm, map_at AV.str hnm, ?_⟩
                repeat(first|refine Sc ?_|refine fun(_:Nat)=>?_)
                refine ⟨5, es, cl, none, by decide, rfl, hm.none nm (fun x hx e => hky ⟨x, hx, e⟩), ?_⟩
                repeat(first|refine Sc ?_|refine fun(_:Nat)=>?_)
                refine fun r hr => ?_
                obtain rfl := add1 hr (by omega)
                repeat(first|refine Sc ?_|refine fun(_:Nat)=>?_)
                refine Cont.lpW ?_
                refine ⟨8 - (j + 1), [.ptr 0 gt 0, .int .i64 st, chA k p d v, .junk, .junk, .ptr 1 gc 0, .nils, (.sl 2 gn (namesOf p).length (namesOf p).length), .int .i64 0, lv, .nilp, .int .i64 (j + 1 : Nat), .junk, .junk, .junk, .junk, .junk, .junk, .junk, .junk, .junk, .junk, .junk, .junk, .junk, .junk, .junk, .junk, .junk, .junk, .junk, .junk, .junk, .junk, .junk, .junk, .junk, .junk, .junk, .junk, .junk, .junk, .junk, .junk, .junk, .junk, .junk, .junk, .junk, .junk, .junk, .junk, .junk, .junk, .junk, .junk, .junk, .junk, .junk, .junk, .junk, .junk, .junk, .junk, .junk, .junk, .junk, .junk, .junk, .junk, .junk, .junk, .junk, .junk, .junk, .junk, .junk, .junk, .junk, .junk, .junk, .junk], _, by omega, Weak.imp ?_ ((Imp.subL (show SubL _ ([(0, boxL R), (gc, .cells 24 [.int .i64 k, .str p, .str d, .int .i64 v]), (gn, .row 9 1 (namesOf p).length ((namesOf p).map .str)), (g, .cells tT ([.any (.map (some gm)), .sl 2 gw Cw ws.length] ++ [ofv])), (gl, lo), (gm, .obj (.map es cl)), (gw, .row tH 5 Cw (ws.map encH)), (0, boxL (ks.map kidB))]) from by repeat(first|exact trivial|refine Zy rfl ?_|refine Zy (SubO.refl _) ?_|refine Zy trivial ?_|refine Zy (SubO.cells (by repeat(first|exact trivial|refine Zy (Sub.refl _) ?_|refine Zy (Sub.sl _ _ _ _ _) ?_|refine Zy (Sub.ptr _ _ _ _) ?_))) ?_))).trans (Imp.closeAt _ _ _ _ _ _ _ _)), ⟨j + 1, R, (nodeL tT [ofv] g (.any (.map (some gm))) (.sl 2 gw Cw ws.length) gm gw (.obj (.map es cl)) (.row tH 5 Cw (ws.map encH)) ks), (res ++ tagged ws st k p), lv, .nilp, gl, lo, rfl, by omega, by omega, hres, hImp, .inl ⟨rfl, hmiss hb⟩, rfl, rfl⟩⟩
                exact Ss
end Go.Proofs.YtgpbppkmmlclfaaDoor.HBT
