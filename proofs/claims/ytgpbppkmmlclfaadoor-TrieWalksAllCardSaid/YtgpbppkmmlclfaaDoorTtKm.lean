/- A watch is taken out of a trie. -/
import Derived.Test.YtgpbppkmmlclfaaDoorTtK7
set_option linter.unusedVariables false
set_option linter.unusedSimpArgs false
namespace Go.Proofs.YtgpbppkmmlclfaaDoor.HBT
open Go Go.Proofs.YtgpbppkmmlclfaaDoor.HB Go.RowKit
set_option maxRecDepth 8000

def Cut (S : List Sess) (s : Int) (ws : List Wt) (S' : List Sess) : Prop :=
  (ws ≠ [] ∧ ∃ j x g Cp, S[j]? = some x ∧ x.1 = s ∧ S' = S.set j (s, g, Cp, ws)) ∨ (ws = [] ∧ ∃ j x, S[j]? = some x ∧ x.1 = s ∧ S' = S.eraseIdx j)
theorem posW_at {l : List Wt} (hs : SortedW l) {i : Int} (h : ∃ x ∈ l, x.id = i) : ∃ w, l[posW l i]? = some w ∧ w.id = i := by
  induction l with
  | nil => obtain ⟨x, hx, _⟩ := h; cases hx
  | cons y l ih =>
    have hp := List.pairwise_cons.1 hs
    by_cases hy : y.id < i
    · have e : posW (y :: l) i = posW l i + 1 := by unfold posW; rw [List.filter_cons_of_pos (by simpa using hy)]; rfl
      obtain ⟨x, hx, e2⟩ := h
      rcases List.mem_cons.1 hx with rfl | hx
      · omega
      · rw [e, List.getElem?_cons_succ]
        exact ih hp.2 ⟨x, hx, e2⟩
    · have e : posW (y :: l) i = 0 := by
        unfold posW
        rw [List.length_eq_zero_iff, List.filter_eq_nil_iff]
        intro z hz
        rcases List.mem_cons.1 hz with rfl | hz
        · simpa using hy
        · have := hp.1 z hz
          simp; omega
      rw [e]
      refine ⟨y, rfl, ?_⟩
      obtain ⟨x, hx, e2⟩ := h
      rcases List.mem_cons.1 hx with rfl | hx
      · exact e2
      · have := hp.1 x hx; omega
theorem ofS_mem {S : List Sess} {s : Int} {w : Wt} (h : w ∈ ofS S s) : ∃ x ∈ S, x.1 = s := by
  apply Decidable.byContradiction
  intro hn
  rw [ofS_none (fun x hx e => hn ⟨x, hx, e⟩)] at h
  cases h
theorem Imp.t_mid (Hn : AHeap) (go : Nat) (oo : AObj) (S : List Sess) (R : AHeap) : Imp ((0, boxL (trieL Hn go oo S)) :: R) ((0, boxL Hn) :: (R ++ [(go, oo), (0, boxL (S.map rowS))])) :=
  (Imp.app (L := [_]) (Imp.unbox 0 _) (.refl R)).trans (.perm ((List.perm_append_comm (l₁ := [(go, oo), (0, boxL (S.map rowS))]) (l₂ := R)).cons _))
theorem Imp.n_openAt (gt : Nat) (mv wv ofv : AV) (gm gw : Nat) (om ow : AObj) (ks : List Kid) (R : AHeap) : Imp ((0, boxL (nodeL tT [ofv] gt mv wv gm gw om ow ks)) :: R) ((gt, .cells tT [mv, wv, ofv]) :: (R ++ [(gm, om), (gw, ow), (0, boxL (ks.map kidB))])) :=
  (Imp.app (L := [_]) (Imp.unbox 0 _) (.refl R)).trans (.perm ((List.perm_append_comm (l₁ := [(gm, om), (gw, ow), (0, boxL (ks.map kidB))]) (l₂ := R)).cons _))
theorem Imp.row_del {S : List Sess} {i : Nat} {x : Sess} (hx : S[i]? = some x) : Imp [(0, boxL (S.map rowS))] [(0, boxL ((S.eraseIdx i).map rowS))] := Imp.boxes 0 ((Imp.row_out hx).trans (Imp.fst _ _))
set_option maxHeartbeats 8000000 in
theorem drop_spec (S : List Sess) (l : NL) (gt : Nat) (H : AHeap) (hT : IsT S l gt H) (s i : Int) (hl : ∀ x ∈ S, x.2.2.2 ≠ [] ∧ SortedW x.2.2.2 ∧ x.2.2.2.length ≤ 4) (hL : l.length ≤ 1000) (hpl : ∀ w ∈ ofS S s, parseE w.p = 0 ∧ (namesOf w.p, (⟨s, w⟩ : On)) ∈ l) :
    FnSpec C 19 [.ptr 0 gt 0, .int .i64 s, .int .i64 i] [(0, boxL H)]
      (fun r L' => ((¬ ∃ x ∈ ofS S s, x.id = i) ∧ r = .int .i64 90 ∧ L' = [(0, boxL H)]) ∨ (∃ k w, (ofS S s)[k]? = some w ∧ w.id = i ∧ r = .int .i64 0 ∧ ∃ S' H', Cut S s ((ofS S s).take k ++ (ofS S s).drop (k + 1)) S' ∧ IsT S' (drp (namesOf w.p) s i l) gt H' ∧ L' = [(0, boxL H')])) := by
  obtain ⟨hws2, hws4⟩ := ofS_ok s hl
  have hws1 : (ofS S s).length ≤ 1000 := by omega
  have hl2 : ∀ x ∈ S, x.2.2.2 ≠ [] ∧ x.2.2.2.length ≤ 1000 := fun x hx => ⟨(hl x hx).1, by have := (hl x hx).2.2; omega⟩
  refine FnSpec.start C_ok Tryd.func19 rfl rfl Tryd.ntmps19 ?_
  repeat(first|refine Sc ?_|refine fun(_:Nat)=>?_)
  refine ACallT.ok (ACall.sel [0] (by decide) [.ptr 0 gt 0, .int .i64 s] _ ⟨Sub.refl _, Sub.refl _, trivial⟩ (of_spec S l gt H hT s hl2) ?_)
  rintro r L' ⟨g, o, hLN, rfl⟩
  rcases hLN with ⟨hnil, rfl, rfl⟩ | ⟨Cp, rfl, rfl⟩
  · refine ⟨_, Sub.refl _, ?_⟩
    repeat(first|refine Sc ?_|refine fun(_:Nat)=>?_)
    refine ACallT.ok (ACall.ret_lend (args' := [rdW [], _]) (.two (.nils 4) (.same _)) (find_is [] (by decide) List.Pairwise.nil i (b := false) (by simp)) rfl ?_)
    repeat(first|refine Sc ?_|refine fun(_:Nat)=>?_)
    exact ⟨_, _, FinOk.keep _ [0] (Sub.refl _) (by decide) rfl, .inl ⟨by rw [hnil]; simp, rfl, rfl⟩⟩
  refine ⟨.sl 1 g Cp (ofS S s).length, Sub.sl _ _ _ _ _, ?_⟩
  repeat(first|refine Sc ?_|refine fun(_:Nat)=>?_)
  by_cases hex : ∃ x ∈ ofS S s, x.id = i
  rotate_left
  · refine ACallT.ok (ACall.ret_lend (args' := [rdW (ofS S s), _]) (.two (.row 1 _ _ _ tW 4 _ rfl (by simp)) (.same _)) (find_is (ofS S s) hws1 hws2 i (decide_eq_false hex)) rfl ?_)
    repeat(first|refine Sc ?_|refine fun(_:Nat)=>?_)
    exact ⟨_, _, FinOk.keep _ [0] (Sub.refl _) (by decide) rfl, .inl ⟨hex, rfl, rfl⟩⟩
  refine ACallT.ok (ACall.ret_lend (args' := [rdW (ofS S s), _]) (.two (.row 1 _ _ _ tW 4 _ rfl (by simp)) (.same _)) (find_is (ofS S s) hws1 hws2 i (decide_eq_true hex)) rfl ?_)
  repeat(first|refine Sc ?_|refine fun(_:Nat)=>?_)
  obtain ⟨w, ew, rfl⟩ := posW_at hws2 hex
  have hkl : posW (ofS S s) w.id < (ofS S s).length := (List.getElem?_eq_some_iff.1 ew).1
  obtain ⟨hpw, hmw⟩ := hpl w (List.mem_of_getElem? ew)
  obtain ⟨ofv, Hn, go, oo, hN, ho⟩ := hT
  obtain ⟨x, hx, hxs⟩ := ofS_mem (List.mem_of_getElem? ew)
  subst hxs
  obtain ⟨ix, hi⟩ := List.mem_iff_getElem?.1 hx
  rcases ho with ⟨rfl, _, _⟩ | ⟨rfl, es, cl, rfl, ho⟩
  · cases hx
  refine ⟨by omega, ?_⟩
  repeat(first|refine Sc ?_|refine fun(_:Nat)=>?_)
  refine ⟨encW w, map_at encW ew, ?_⟩
  repeat(first|refine Sc ?_|refine fun(_:Nat)=>?_)
  refine ACallT.ok (ACall.pure _ (parse_spec w.p) ?_)
  rintro r L' (⟨hp, rfl, rfl⟩ | ⟨hp, hn, rfl, rfl⟩ | ⟨hp, hn, gn, rfl, rfl⟩)
  · exact absurd hpw hp
  · refine ⟨_, Sub.refl _, ?_⟩
    repeat(first|refine Za ?_|refine Zb ?_|refine Zy rfl ?_|refine Z2 rfl ?_|refine Z3 ?_|refine fun(_:Nat)=>?_|refine Run.goN rfl ?_|refine Zo rfl ?_)
    refine Run.weak0 C_ok (Weak.imp (Subs.refl _) (Imp.t_mid Hn go _ S _)) ?_
    repeat(first|refine Sz ?_|refine fun(_:Nat)=>?_)
    refine CallZ.frz [] [0, 1, 2, 3] (by kernel_rfl) [.ptr 0 gt 0, rds [], .agg (tgC x.1 w.id)] (.three (.same _) (.nils 1) (.same _)) (ACall.sel [0] (by decide) [.ptr 0 gt 0, rds [], .agg (tgC x.1 w.id)] _ ⟨Sub.refl _, Sub.refl _, Sub.refl _, trivial⟩ (dropR (.any (.map (some go))) x.1 w.id [] (by simp) l gt Hn hN ⟨x.1, w⟩ (by rw [hn] at hmw; exact hmw) hL) ?_)
    rintro r L' ⟨H', hN', rfl, rfl⟩
    refine ⟨_, Sub.refl _, ?_⟩
    repeat(first|refine Za ?_|refine Zb ?_|refine Zy rfl ?_|refine Z2 rfl ?_|refine Z3 ?_|refine fun(_:Nat)=>?_|refine Run.goN rfl ?_|refine Zo rfl ?_)
    have hNk := hN'
    obtain ⟨_, _, _, _, mv, wv, gm, gw, om, ow, ws, ks, hw, hws, hm, hk, hnd, hin⟩ := hN'
    refine Run.weak1 C_ok (Weak.imp (Subs.refl _) (Imp.n_openAt gt mv wv _ gm gw om ow ks _)) ?_
    refine Run.drawnK C_ok (aopC_sound C_ok) [0] [0, 1, 2, 4, 5, 6, 7, 8, 3, 9, 10] (by kernel_rfl) ?_
    repeat(first|refine Sc ?_|refine fun(_:Nat)=>?_)
    refine fun r hr => ?_
    obtain rfl := add1 hr (by omega)
    repeat(first|refine Sc ?_|refine fun(_:Nat)=>?_)
    refine ACallT.ok (ACall.sel [1] (by decide) [.sb 0 g Cp 4 0 (ofS S x.1).length, .int .i64 (posW (ofS S x.1) w.id : Nat), .int .i64 (posW (ofS S x.1) w.id + 1 : Nat)] _ ⟨Sub.slsb _ _ _ _ _ _, Sub.refl _, Sub.refl _, trivial⟩ (delete_own g Cp (ofS S x.1) (posW (ofS S x.1) w.id) hkl hws1) ?_)
    rintro r L' ⟨g', C', rfl, rfl⟩
    have hcl : ((ofS S x.1).take (posW (ofS S x.1) w.id) ++ (ofS S x.1).drop (posW (ofS S x.1) w.id + 1)).length = (ofS S x.1).length - 1 := by rw [List.length_append, List.length_take, List.length_drop]; omega
    refine ⟨.sl 1 g' C' ((ofS S x.1).take (posW (ofS S x.1) w.id) ++ (ofS S x.1).drop (posW (ofS S x.1) w.id + 1)).length, by rw [hcl]; exact Sub.sb_sl _ 1 _ _ _ _, ?_⟩
    repeat(first|refine Sc ?_|refine fun(_:Nat)=>?_)
    refine ⟨2, es, cl, some (ix, valS x), rfl, ho.hit hi, ho.bits hi (bits_int _) _, ?_⟩
    have hset := ho.set (y := (x.1, g', C', (ofS S x.1).take (posW (ofS S x.1) w.id) ++ (ofS S x.1).drop (posW (ofS S x.1) w.id + 1))) hi rfl
    have hi2 : (S.set ix (x.1, g', C', (ofS S x.1).take (posW (ofS S x.1) w.id) ++ (ofS S x.1).drop (posW (ofS S x.1) w.id + 1)))[ix]? = some (x.1, g', C', (ofS S x.1).take (posW (ofS S x.1) w.id) ++ (ofS S x.1).drop (posW (ofS S x.1) w.id + 1)) := List.getElem?_set_self (List.getElem?_eq_some_iff.1 hi).1
    repeat(first|refine Sc ?_|refine fun(_:Nat)=>?_)
    refine ⟨2, _, cl, some (ix, valS (x.1, g', C', (ofS S x.1).take (posW (ofS S x.1) w.id) ++ (ofS S x.1).drop (posW (ofS S x.1) w.id + 1))), by decide, rfl, MS.hit hset hi2, ?_⟩
    repeat(first|refine Sc ?_|refine fun(_:Nat)=>?_)
    refine ⟨.sl 6 g' C' ((ofS S x.1).take (posW (ofS S x.1) w.id) ++ (ofS S x.1).drop (posW (ofS S x.1) w.id + 1)).length, rfl, ?_⟩
    repeat(first|refine Sc ?_|refine fun(_:Nat)=>?_)
    refine ⟨fun h => ?_, fun h => ?_⟩
    · have h0 : (ofS S x.1).take (posW (ofS S x.1) w.id) ++ (ofS S x.1).drop (posW (ofS S x.1) w.id + 1) = [] := List.length_eq_zero_iff.1 (by have h : ((((ofS S x.1).take (posW (ofS S x.1) w.id) ++ (ofS S x.1).drop (posW (ofS S x.1) w.id + 1)).length : Nat) : Int) = 0 := h; omega)
      have her := hset.erase ix
      rw [List.eraseIdx_set_eq] at her
      repeat(first|refine Sc ?_|refine fun(_:Nat)=>?_)
      refine ⟨2, _, cl, some (ix, valS (x.1, g', C', (ofS S x.1).take (posW (ofS S x.1) w.id) ++ (ofS S x.1).drop (posW (ofS S x.1) w.id + 1))), rfl, MS.hit hset hi2, ?_⟩
      repeat(first|refine Sc ?_|refine fun(_:Nat)=>?_)
      exact ⟨.int .i64 0, [(0, boxL (trieL (nodeL tT [.any (.map (some go))] gt mv wv gm gw om ow ks) go _ (S.eraseIdx ix)))], (FinOk.keep _ [0, 4, 5, 6, 2, 3] (Sub.refl _) (by decide) rfl).trans (FinOk.imp _ ((Imp.app (L := _ :: _ :: _ :: [_]) (M := _ :: [_]) (Imp.box 0 _) (Imp.app (L := [_]) (.refl _) (Imp.row_del hi))).trans (Imp.box 0 _))), .inr ⟨posW (ofS S x.1) w.id, w, ew, rfl, rfl, S.eraseIdx ix, _, .inr ⟨h0, ix, x, hi, rfl, rfl⟩, .mk _ _ gt _ _ _ _ (by rw [hn]; exact hNk) (.inr ⟨rfl, _, _, rfl, her⟩), rfl⟩⟩
    · have h0 : (ofS S x.1).take (posW (ofS S x.1) w.id) ++ (ofS S x.1).drop (posW (ofS S x.1) w.id + 1) ≠ [] := fun e => h (by rw [e]; rfl)
      repeat(first|refine Sc ?_|refine fun(_:Nat)=>?_)
      exact ⟨.int .i64 0, [(0, boxL (trieL (nodeL tT [.any (.map (some go))] gt mv wv gm gw om ow ks) go _ (S.set ix (x.1, g', C', (ofS S x.1).take (posW (ofS S x.1) w.id) ++ (ofS S x.1).drop (posW (ofS S x.1) w.id + 1)))))], (FinOk.keep _ [0, 4, 5, 6, 2, 3, 1] (Sub.refl _) (by decide) rfl).trans (FinOk.imp _ ((Imp.app (L := _ :: _ :: _ :: [_]) (M := _ :: _ :: [_]) (Imp.box 0 _) (Imp.app (L := [_]) (.refl _) (Imp.row_set hi (x.1, g', C', (ofS S x.1).take (posW (ofS S x.1) w.id) ++ (ofS S x.1).drop (posW (ofS S x.1) w.id + 1))))).trans (Imp.box 0 _))), .inr ⟨posW (ofS S x.1) w.id, w, ew, rfl, rfl, S.set ix (x.1, g', C', (ofS S x.1).take (posW (ofS S x.1) w.id) ++ (ofS S x.1).drop (posW (ofS S x.1) w.id + 1)), _, .inl ⟨h0, ix, x, g', C', hi, rfl, rfl⟩, .mk _ _ gt _ _ _ _ (by rw [hn]; exact hNk) (.inr ⟨rfl, _, _, rfl, hset⟩), rfl⟩⟩
  · refine ⟨.tuple [.sl 2 gn (namesOf w.p).length (namesOf w.p).length, .int .i64 0], Sub.tuples ⟨Sub.sl _ _ _ _ _, Sub.refl _, trivial⟩, ?_⟩
    repeat(first|refine Za ?_|refine Zb ?_|refine Zy rfl ?_|refine Z2 rfl ?_|refine Z3 ?_|refine fun(_:Nat)=>?_|refine Run.goN rfl ?_|refine Zo rfl ?_)
    refine Run.weak0 C_ok (Weak.imp (Subs.refl _) (Imp.t_mid Hn go _ S _)) ?_
    repeat(first|refine Sz ?_|refine fun(_:Nat)=>?_)
    refine CallZ.frz [2] [0, 1, 3, 4] (by kernel_rfl) [.ptr 0 gt 0, rds (namesOf w.p), .agg (tgC x.1 w.id)] (.three (.same _) (.row 2 gn _ _ 9 1 _ rfl (by simp)) (.same _)) (ACall.sel [0] (by decide) [.ptr 0 gt 0, rds (namesOf w.p), .agg (tgC x.1 w.id)] _ ⟨Sub.refl _, Sub.refl _, Sub.refl _, trivial⟩ (dropR (.any (.map (some go))) x.1 w.id (namesOf w.p) (by omega) l gt Hn hN ⟨x.1, w⟩ (by exact hmw) hL) ?_)
    rintro r L' ⟨H', hN', rfl, rfl⟩
    refine ⟨_, Sub.refl _, ?_⟩
    repeat(first|refine Za ?_|refine Zb ?_|refine Zy rfl ?_|refine Z2 rfl ?_|refine Z3 ?_|refine fun(_:Nat)=>?_|refine Run.goN rfl ?_|refine Zo rfl ?_)
    have hNk := hN'
    obtain ⟨_, _, _, _, mv, wv, gm, gw, om, ow, ws, ks, hw, hws, hm, hk, hnd, hin⟩ := hN'
    refine Run.weak1 C_ok (Weak.imp (Subs.refl _) (Imp.n_openAt gt mv wv _ gm gw om ow ks _)) ?_
    refine Run.drawnK C_ok (aopC_sound C_ok) [0] [0, 1, 2, 4, 5, 6, 7, 8, 3, 9, 10] (by kernel_rfl) ?_
    repeat(first|refine Sc ?_|refine fun(_:Nat)=>?_)
    refine fun r hr => ?_
    obtain rfl := add1 hr (by omega)
    repeat(first|refine Sc ?_|refine fun(_:Nat)=>?_)
    refine ACallT.ok (ACall.sel [1] (by decide) [.sb 0 g Cp 4 0 (ofS S x.1).length, .int .i64 (posW (ofS S x.1) w.id : Nat), .int .i64 (posW (ofS S x.1) w.id + 1 : Nat)] _ ⟨Sub.slsb _ _ _ _ _ _, Sub.refl _, Sub.refl _, trivial⟩ (delete_own g Cp (ofS S x.1) (posW (ofS S x.1) w.id) hkl hws1) ?_)
    rintro r L' ⟨g', C', rfl, rfl⟩
    have hcl : ((ofS S x.1).take (posW (ofS S x.1) w.id) ++ (ofS S x.1).drop (posW (ofS S x.1) w.id + 1)).length = (ofS S x.1).length - 1 := by rw [List.length_append, List.length_take, List.length_drop]; omega
    refine ⟨.sl 1 g' C' ((ofS S x.1).take (posW (ofS S x.1) w.id) ++ (ofS S x.1).drop (posW (ofS S x.1) w.id + 1)).length, by rw [hcl]; exact Sub.sb_sl _ 1 _ _ _ _, ?_⟩
    repeat(first|refine Sc ?_|refine fun(_:Nat)=>?_)
    refine ⟨3, es, cl, some (ix, valS x), rfl, ho.hit hi, ho.bits hi (bits_int _) _, ?_⟩
    have hset := ho.set (y := (x.1, g', C', (ofS S x.1).take (posW (ofS S x.1) w.id) ++ (ofS S x.1).drop (posW (ofS S x.1) w.id + 1))) hi rfl
    have hi2 : (S.set ix (x.1, g', C', (ofS S x.1).take (posW (ofS S x.1) w.id) ++ (ofS S x.1).drop (posW (ofS S x.1) w.id + 1)))[ix]? = some (x.1, g', C', (ofS S x.1).take (posW (ofS S x.1) w.id) ++ (ofS S x.1).drop (posW (ofS S x.1) w.id + 1)) := List.getElem?_set_self (List.getElem?_eq_some_iff.1 hi).1
    repeat(first|refine Sc ?_|refine fun(_:Nat)=>?_)
    refine ⟨3, _, cl, some (ix, valS (x.1, g', C', (ofS S x.1).take (posW (ofS S x.1) w.id) ++ (ofS S x.1).drop (posW (ofS S x.1) w.id + 1))), by decide, rfl, MS.hit hset hi2, ?_⟩
    repeat(first|refine Sc ?_|refine fun(_:Nat)=>?_)
    refine ⟨.sl 6 g' C' ((ofS S x.1).take (posW (ofS S x.1) w.id) ++ (ofS S x.1).drop (posW (ofS S x.1) w.id + 1)).length, rfl, ?_⟩
    repeat(first|refine Sc ?_|refine fun(_:Nat)=>?_)
    refine ⟨fun h => ?_, fun h => ?_⟩
    · have h0 : (ofS S x.1).take (posW (ofS S x.1) w.id) ++ (ofS S x.1).drop (posW (ofS S x.1) w.id + 1) = [] := List.length_eq_zero_iff.1 (by have h : ((((ofS S x.1).take (posW (ofS S x.1) w.id) ++ (ofS S x.1).drop (posW (ofS S x.1) w.id + 1)).length : Nat) : Int) = 0 := h; omega)
      have her := hset.erase ix
      rw [List.eraseIdx_set_eq] at her
      repeat(first|refine Sc ?_|refine fun(_:Nat)=>?_)
      refine ⟨3, _, cl, some (ix, valS (x.1, g', C', (ofS S x.1).take (posW (ofS S x.1) w.id) ++ (ofS S x.1).drop (posW (ofS S x.1) w.id + 1))), rfl, MS.hit hset hi2, ?_⟩
      repeat(first|refine Sc ?_|refine fun(_:Nat)=>?_)
      exact ⟨.int .i64 0, [(0, boxL (trieL (nodeL tT [.any (.map (some go))] gt mv wv gm gw om ow ks) go _ (S.eraseIdx ix)))], (FinOk.keep _ [0, 5, 6, 7, 3, 4] (Sub.refl _) (by decide) rfl).trans (FinOk.imp _ ((Imp.app (L := _ :: _ :: _ :: [_]) (M := _ :: [_]) (Imp.box 0 _) (Imp.app (L := [_]) (.refl _) (Imp.row_del hi))).trans (Imp.box 0 _))), .inr ⟨posW (ofS S x.1) w.id, w, ew, rfl, rfl, S.eraseIdx ix, _, .inr ⟨h0, ix, x, hi, rfl, rfl⟩, .mk _ _ gt _ _ _ _ (hNk) (.inr ⟨rfl, _, _, rfl, her⟩), rfl⟩⟩
    · have h0 : (ofS S x.1).take (posW (ofS S x.1) w.id) ++ (ofS S x.1).drop (posW (ofS S x.1) w.id + 1) ≠ [] := fun e => h (by rw [e]; rfl)
      repeat(first|refine Sc ?_|refine fun(_:Nat)=>?_)
      exact ⟨.int .i64 0, [(0, boxL (trieL (nodeL tT [.any (.map (some go))] gt mv wv gm gw om ow ks) go _ (S.set ix (x.1, g', C', (ofS S x.1).take (posW (ofS S x.1) w.id) ++ (ofS S x.1).drop (posW (ofS S x.1) w.id + 1)))))], (FinOk.keep _ [0, 5, 6, 7, 3, 4, 1] (Sub.refl _) (by decide) rfl).trans (FinOk.imp _ ((Imp.app (L := _ :: _ :: _ :: [_]) (M := _ :: _ :: [_]) (Imp.box 0 _) (Imp.app (L := [_]) (.refl _) (Imp.row_set hi (x.1, g', C', (ofS S x.1).take (posW (ofS S x.1) w.id) ++ (ofS S x.1).drop (posW (ofS S x.1) w.id + 1))))).trans (Imp.box 0 _))), .inr ⟨posW (ofS S x.1) w.id, w, ew, rfl, rfl, S.set ix (x.1, g', C', (ofS S x.1).take (posW (ofS S x.1) w.id) ++ (ofS S x.1).drop (posW (ofS S x.1) w.id + 1)), _, .inl ⟨h0, ix, x, g', C', hi, rfl, rfl⟩, .mk _ _ gt _ _ _ _ (hNk) (.inr ⟨rfl, _, _, rfl, hset⟩), rfl⟩⟩
end Go.Proofs.YtgpbppkmmlclfaaDoor.HBT
