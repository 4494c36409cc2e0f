/- A watch is added to a trie. -/
import Derived.Test.YtgpbppkmmlclfaaDoorTtK5
import Derived.Test.YtgpbppkmmlclfaaDoorTtK2
set_option linter.unusedVariables false
set_option linter.unusedSimpArgs false
namespace Go.Proofs.YtgpbppkmmlclfaaDoor.HBT
open Go Go.Proofs.YtgpbppkmmlclfaaDoor.HB Go.RowKit
set_option maxRecDepth 8000

def numB (v m : Int) : Bool := decide (m ≤ v ∧ v ≤ 2147483647)
def addE (ws : List Wt) (s : Int) (w : Wt) : Int :=
  if numB s 1 && numB w.id 1 && numB w.f 0 then if parseE w.p = 0 then if w.k < 1 ∨ 3 < w.k then 90 else if ∃ x ∈ ws, x.id = w.id then 90 else if 4 ≤ ws.length then 46 else 0 else 10 else 3
def insW (ws : List Wt) (w : Wt) : List Wt := ws.take (posW ws w.id) ++ w :: ws.drop (posW ws w.id)
def Put (S : List Sess) (s : Int) (ws : List Wt) (S' : List Sess) : Prop :=
  (∃ i x g Cp, S[i]? = some x ∧ x.1 = s ∧ S' = S.set i (s, g, Cp, ws)) ∨ ((∀ x ∈ S, x.1 ≠ s) ∧ ∃ g Cp, S' = S ++ [(s, g, Cp, ws)])
theorem number_is (v m : Int) {b : Bool} (h : numB v m = b) : FnSpec C 31 [.int .i64 v, .int .i64 m] [] (fun r L' => r = .bool b ∧ L' = []) := by
  subst h; exact number_spec v m
theorem addE_3 {ws : List Wt} {s : Int} {w : Wt} (h : (numB s 1 && numB w.id 1 && numB w.f 0) = false) : addE ws s w = 3 := by unfold addE; rw [h]; rfl
theorem addE_10 {ws : List Wt} {s : Int} {w : Wt} (h : (numB s 1 && numB w.id 1 && numB w.f 0) = true) (hp : parseE w.p ≠ 0) : addE ws s w = 10 := by unfold addE; rw [if_pos h, if_neg hp]
theorem addE_90k {ws : List Wt} {s : Int} {w : Wt} (h : (numB s 1 && numB w.id 1 && numB w.f 0) = true) (hp : parseE w.p = 0) (hk : w.k < 1 ∨ 3 < w.k) : addE ws s w = 90 := by unfold addE; rw [if_pos h, if_pos hp, if_pos hk]
theorem addE_90x {ws : List Wt} {s : Int} {w : Wt} (h : (numB s 1 && numB w.id 1 && numB w.f 0) = true) (hp : parseE w.p = 0) (hk : ¬ (w.k < 1 ∨ 3 < w.k)) (hx : ∃ x ∈ ws, x.id = w.id) : addE ws s w = 90 := by unfold addE; rw [if_pos h, if_pos hp, if_neg hk, if_pos hx]
theorem addE_46 {ws : List Wt} {s : Int} {w : Wt} (h : (numB s 1 && numB w.id 1 && numB w.f 0) = true) (hp : parseE w.p = 0) (hk : ¬ (w.k < 1 ∨ 3 < w.k)) (hx : ¬ ∃ x ∈ ws, x.id = w.id) (hl : 4 ≤ ws.length) : addE ws s w = 46 := by unfold addE; rw [if_pos h, if_pos hp, if_neg hk, if_neg hx, if_pos hl]
theorem addE_0 {ws : List Wt} {s : Int} {w : Wt} (h : (numB s 1 && numB w.id 1 && numB w.f 0) = true) (hp : parseE w.p = 0) (hk : ¬ (w.k < 1 ∨ 3 < w.k)) (hx : ¬ ∃ x ∈ ws, x.id = w.id) (hl : ¬ 4 ≤ ws.length) : addE ws s w = 0 := by unfold addE; rw [if_pos h, if_pos hp, if_neg hk, if_neg hx, if_neg hl]
theorem find_is (l : List Wt) (hl : l.length ≤ 1000) (hs : SortedW l) (i : Int) {b : Bool} (h : decide (∃ x ∈ l, x.id = i) = b) : FnSpec C 32 [rdW l, .int .i64 i] [] (fun r L' => r = .tuple [.int .i64 (posW l i : Nat), .bool b] ∧ L' = []) := by
  subst h; exact find_spec l hl hs i
theorem Imp.t_openAt (gt : Nat) (mv wv ofv : AV) (gm gw : Nat) (om ow : AObj) (ks : List Kid) (go : Nat) (oo : AObj) (S : List Sess) (R : AHeap) :
    Imp ((0, boxL (trieL (nodeL tT [ofv] gt mv wv gm gw om ow ks) go oo S)) :: R) ((gt, .cells tT [mv, wv, ofv]) :: (R ++ [(gm, om), (gw, ow), (0, boxL (ks.map kidB)), (go, oo), (0, boxL (S.map rowS))])) :=
  (Imp.app (L := [_]) (Imp.t_open gt mv wv ofv gm gw om ow ks go oo S) (.refl R)).trans (.perm ((List.perm_append_comm (l₁ := [(gm, om), (gw, ow), (0, boxL (ks.map kidB)), (go, oo), (0, boxL (S.map rowS))]) (l₂ := R)).cons _))
theorem ofS_ok {S : List Sess} (s : Int) (hl : ∀ x ∈ S, x.2.2.2 ≠ [] ∧ SortedW x.2.2.2 ∧ x.2.2.2.length ≤ 4) : SortedW (ofS S s) ∧ (ofS S s).length ≤ 4 := by
  unfold ofS
  cases h : S.find? (fun x => x.1 == s) with
  | none => exact ⟨List.Pairwise.nil, by simp⟩
  | some x => exact ⟨(hl x (List.mem_of_find?_eq_some h)).2.1, (hl x (List.mem_of_find?_eq_some h)).2.2⟩
theorem posW_le (l : List Wt) (i : Int) : posW l i ≤ l.length := List.length_filter_le _ _
theorem MS0 : MS [] #[] 0 := MapOk.nil
theorem ofS_far {S : List Sess} {s : Int} (hn : (S.map (·.1)).Nodup) (hl : ∀ x ∈ S, x.2.2.2 ≠ [] ∧ SortedW x.2.2.2 ∧ x.2.2.2.length ≤ 4) (h : ofS S s = []) : ∀ x ∈ S, x.1 ≠ s := fun x hx e => by
  obtain ⟨i, hi⟩ := List.mem_iff_getElem?.1 hx
  exact (hl x hx).1 (by rw [← ofS_hit hn hi, e]; exact h)
theorem bits_int (x : Sess) : Instr.sameBits 10000 (keyS x) (keyS x) = true := by simp [keyS, Instr.sameBits]
theorem far0 (s : Int) : ∀ x ∈ ([] : List Sess), x.1 ≠ s := fun x hx => by cases hx
theorem insW_len (l : List Wt) (w : Wt) : (insW l w).length = l.length + 1 := by
  have := posW_le l w.id
  unfold insW
  rw [List.length_append, List.length_cons, List.length_take, List.length_drop]; omega
theorem Imp.row_new (S : List Sess) (y : Sess) : Imp [(0, boxL (S.map rowS)), rowS y] [(0, boxL ((S ++ [y]).map rowS))] := by
  rw [List.map_append]
  exact (Imp.app (L := [_]) (M := [rowS y]) (Imp.unbox 0 _) (.refl _)).trans (.box 0 _)
theorem Imp.row_set {S : List Sess} {i : Nat} {x : Sess} (hx : S[i]? = some x) (y : Sess) : Imp [(0, boxL (S.map rowS)), rowS y] [(0, boxL ((S.set i y).map rowS))] := by
  have hi := (List.getElem?_eq_some_iff.1 hx).1
  have h1 := Imp.row_in (S := S.set i y) (i := i) (x := y) (by rw [List.getElem?_set_self hi])
  rw [List.eraseIdx_set_eq] at h1
  exact ((Imp.app (L := [_]) (M := [rowS y]) ((Imp.unbox 0 _).trans ((Imp.row_out hx).trans (Imp.fst _ _))) (.refl _)).trans h1).trans (.box 0 _)
set_option maxHeartbeats 8000000 in
theorem add_spec (S : List Sess) (l : NL) (gt : Nat) (H : AHeap) (hT : IsT S l gt H) (s : Int) (w : Wt) (hl : ∀ x ∈ S, x.2.2.2 ≠ [] ∧ SortedW x.2.2.2 ∧ x.2.2.2.length ≤ 4) (hL : l.length ≤ 1000) :
    FnSpec C 16 [.ptr 0 gt 0, .int .i64 s, encW w] [(0, boxL H)]
      (fun r L' => r = .int .i64 (addE (ofS S s) s w) ∧ ((addE (ofS S s) s w ≠ 0 ∧ L' = [(0, boxL H)]) ∨ (addE (ofS S s) s w = 0 ∧ ∃ S' H', Put S s (insW (ofS S s) w) S' ∧ IsT S' (l ++ [(namesOf w.p, ⟨s, w⟩)]) gt H' ∧ L' = [(0, boxL H')]))) := by
  obtain ⟨hws2, hws4⟩ := ofS_ok s hl
  have hws1 : (ofS S s).length ≤ 1000 := by omega
  have hl2 : ∀ x ∈ S, x.2.2.2 ≠ [] ∧ x.2.2.2.length ≤ 1000 := fun x hx => ⟨(hl x hx).1, by have := (hl x hx).2.2; omega⟩
  refine FnSpec.start C_ok Tryd.func16 rfl rfl Tryd.ntmps16 ?_
  repeat(first|refine Sc ?_|refine fun(_:Nat)=>?_)
  cases h0 : numB s 1 with
  | false =>
    refine ACallT.ok (ACall.ret (number_is _ _ h0) ?_)
    repeat(first|refine Sc ?_|refine fun(_:Nat)=>?_)
    exact ⟨_, _, FinOk.keep _ [0] (Sub.refl _) (by decide) rfl, congrArg (AV.int .i64) (addE_3 (by simp [h0])).symm, .inl ⟨by rw [addE_3 (by simp [h0])]; decide, rfl⟩⟩
  | true =>
  refine ACallT.ok (ACall.ret (number_is _ _ h0) ?_)
  repeat(first|refine Sc ?_|refine fun(_:Nat)=>?_)
  cases h1 : numB w.id 1 with
  | false =>
    refine ACallT.ok (ACall.ret (number_is _ _ h1) ?_)
    repeat(first|refine Sc ?_|refine fun(_:Nat)=>?_)
    exact ⟨_, _, FinOk.keep _ [0] (Sub.refl _) (by decide) rfl, congrArg (AV.int .i64) (addE_3 (by simp [h1])).symm, .inl ⟨by rw [addE_3 (by simp [h1])]; decide, rfl⟩⟩
  | true =>
  refine ACallT.ok (ACall.ret (number_is _ _ h1) ?_)
  repeat(first|refine Sc ?_|refine fun(_:Nat)=>?_)
  cases h2 : numB w.f 0 with
  | false =>
    refine ACallT.ok (ACall.ret (number_is _ _ h2) ?_)
    repeat(first|refine Sc ?_|refine fun(_:Nat)=>?_)
    exact ⟨_, _, FinOk.keep _ [0] (Sub.refl _) (by decide) rfl, congrArg (AV.int .i64) (addE_3 (by simp [h2])).symm, .inl ⟨by rw [addE_3 (by simp [h2])]; decide, rfl⟩⟩
  | true =>
  refine ACallT.ok (ACall.ret (number_is _ _ h2) ?_)
  repeat(first|refine Sc ?_|refine fun(_:Nat)=>?_)
  refine ACallT.ok (ACall.pure _ (parse_spec w.p) ?_)
  rintro r L' (⟨hp, rfl, rfl⟩ | ⟨hp, hn, rfl, rfl⟩ | ⟨hp, hn, gn, rfl, rfl⟩)
  · refine ⟨_, Sub.refl _, ?_⟩
    repeat(first|refine Sc ?_|refine fun(_:Nat)=>?_)
    refine ⟨fun _ => ?_, fun h => absurd h (by simpa using hp)⟩
    repeat(first|refine Sc ?_|refine fun(_:Nat)=>?_)
    exact ⟨_, _, FinOk.keep _ [0] (Sub.refl _) (by decide) rfl, congrArg (AV.int .i64) (addE_10 (by simp [h0, h1, h2]) hp).symm, .inl ⟨by rw [addE_10 (by simp [h0, h1, h2]) hp]; decide, rfl⟩⟩
  · refine ⟨_, Sub.refl _, ?_⟩
    repeat(first|refine Sc ?_|refine fun(_:Nat)=>?_)
    refine ⟨fun h => absurd rfl h, fun _ => ?_⟩
    repeat(first|refine Sc ?_|refine fun(_:Nat)=>?_)
    refine ⟨fun h => ?_, fun hk1 => ?_⟩
    · have h : w.k < 1 := h
      repeat(first|refine Sc ?_|refine fun(_:Nat)=>?_)
      exact ⟨_, _, FinOk.keep _ [0] (Sub.refl _) (by decide) rfl, congrArg (AV.int .i64) (addE_90k (by simp [h0, h1, h2]) hp (.inl h)).symm, .inl ⟨by rw [addE_90k (by simp [h0, h1, h2]) hp (.inl h)]; decide, rfl⟩⟩
    have hk1 : ¬ w.k < 1 := hk1
    repeat(first|refine Sc ?_|refine fun(_:Nat)=>?_)
    refine ⟨fun h => ?_, fun hk3 => ?_⟩
    · have h : 3 < w.k := h
      repeat(first|refine Sc ?_|refine fun(_:Nat)=>?_)
      exact ⟨_, _, FinOk.keep _ [0] (Sub.refl _) (by decide) rfl, congrArg (AV.int .i64) (addE_90k (by simp [h0, h1, h2]) hp (.inr h)).symm, .inl ⟨by rw [addE_90k (by simp [h0, h1, h2]) hp (.inr h)]; decide, rfl⟩⟩
    have hk3 : ¬ 3 < w.k := hk3
    repeat(first|refine Sc ?_|refine fun(_:Nat)=>?_)
    refine ACallT.ok (ACall.sel [0] (by decide) [.ptr 0 gt 0, .int .i64 s] _ ⟨Sub.refl _, Sub.refl _, trivial⟩ (of_spec S l gt H hT s hl2) ?_)
    rintro r L' ⟨g, o, hLN, rfl⟩
    rcases hLN with ⟨hnil, rfl, rfl⟩ | ⟨Cp, rfl, rfl⟩
    · refine ⟨_, Sub.refl _, ?_⟩
      repeat(first|refine Sc ?_|refine fun(_:Nat)=>?_)
      have hex : ¬ ∃ x ∈ ofS S s, x.id = w.id := by rw [hnil]; simp
      refine ACallT.ok (ACall.ret_lend (args' := [rdW [], _]) (.two (.nils 4) (.same _)) (find_is [] (by decide) List.Pairwise.nil w.id (b := false) (by simp)) rfl ?_)
      repeat(first|refine Sc ?_|refine fun(_:Nat)=>?_)
      refine ⟨fun h => absurd h (by omega), fun _ => ?_⟩
      repeat(first|refine Za ?_|refine Zb ?_|refine Zy rfl ?_|refine Z2 rfl ?_|refine Z3 ?_|refine fun(_:Nat)=>?_|refine Run.goN rfl ?_|refine Zo rfl ?_)
      have hfull : ¬ 4 ≤ (ofS S s).length := by rw [hnil]; decide
      have e0 : addE (ofS S s) s w = 0 := addE_0 (by simp [h0, h1, h2]) hp (by omega) hex hfull
      obtain ⟨ofv, Hn, go, oo, hN, ho⟩ := hT
      obtain ⟨_, _, _, _, mv, wv, gm, gw, om, ow, ws, ks, hw, hws, hm, hk, hnd, hin⟩ := hN
      refine Run.weak0 C_ok (Weak.imp (Subs.refl _) (Imp.t_openAt gt mv wv ofv gm gw om ow ks go oo S _)) ?_
      rcases ho with ⟨rfl, rfl, rfl⟩ | ⟨rfl, es, cl, rfl, ho⟩
      · repeat(first|refine Sc ?_|refine fun(_:Nat)=>?_)
        rename_i gnew
        refine Run.drawnK C_ok (aopC_sound C_ok) [0, 1] [0, 1, 2, 4, 5, 6, 3, 7, 8, 9, 10] (by kernel_rfl) ?_
        repeat(first|refine Sc ?_|refine fun(_:Nat)=>?_)
        rename_i g1
        refine ACallT.ok (ACall.sel [9] (by decide) [.nils, .int .i64 0, .sb 0 g1 1 4 0 1] _ ⟨Sub.refl _, Sub.refl _, Sub.slsb _ _ _ _ _ _, trivial⟩ (insert_nil g1 w) ?_)
        rintro r L' ⟨g', C', rfl, rfl⟩
        refine ⟨.sl 9 g' C' 1, (Sub.sb_sl _ 9 _ _ _ _), ?_⟩
        repeat(first|refine Sc ?_|refine fun(_:Nat)=>?_)
        refine ⟨8, #[], 0, none, rfl, MS0.none s (by simp), ?_⟩
        repeat(first|refine Sc ?_|refine fun(_:Nat)=>?_)
        refine Run.drawnK C_ok (aopZ_sound C_ok) [1] [0, 1, 2, 3, 4, 5, 6, 7] (by kernel_rfl) ?_
        repeat(first|refine Sz ?_|refine fun(_:Nat)=>?_)
        refine CallZ.frz [] [0, 1, 2, 3, 4, 5, 6, 7, 8, 9] (by kernel_rfl) [.ptr 0 gt 0, rds [], encH ⟨s, w⟩] (.three (.same _) (.nils 1) (.same _)) (ACall.sel [0, 3, 4, 5] (by decide) [.ptr 0 gt 0, rds [], encH ⟨s, w⟩] _ ⟨Sub.refl _, Sub.refl _, Sub.refl _, trivial⟩ (FnSpec.imp (Imp.box 0 _) (addR (.any (.map (some gnew))) [] (by simp) l gt _ (.mk tT [(.any (.map (some gnew)))] l gt mv wv gm gw om ow ws ks hw hws hm hk hnd hin) ⟨s, w⟩ hL)) ?_)
        rintro r L' ⟨H', hN', rfl, rfl⟩
        refine ⟨_, Sub.refl _, ?_⟩
        repeat(first|refine Sz ?_|refine fun(_:Nat)=>?_)
        exact ⟨.int .i64 0, [(0, boxL (trieL H' gnew _ ([] ++ [(s, g', C', [w])])))], (FinOk.keep _ [0, 8, 7, 9] (Sub.refl _) (by decide) rfl).trans (FinOk.imp _ ((Imp.app (L := _ :: [_]) (.refl _) (Imp.row_new [] (s, g', C', [w]))).trans (.box 0 _))), congrArg (AV.int .i64) e0.symm, .inr ⟨e0, ([] ++ [(s, g', C', [w])]), _, .inr ⟨(far0 s), g', C', rfl⟩, .mk _ _ gt (.any (.map (some gnew))) H' _ _ (by rw [hn]; exact hN') (.inr ⟨rfl, _, _, rfl, MS0.push (y := (s, g', C', [w])) (fun x hx e => (far0 s) x hx (Value.int.inj e).2)⟩), rfl⟩⟩
      · repeat(first|refine Sc ?_|refine fun(_:Nat)=>?_)
        refine Run.drawnK C_ok (aopC_sound C_ok) [0, 1] [0, 1, 2, 4, 5, 6, 3, 7, 8, 9, 10] (by kernel_rfl) ?_
        repeat(first|refine Sc ?_|refine fun(_:Nat)=>?_)
        rename_i g1
        refine ACallT.ok (ACall.sel [8] (by decide) [.nils, .int .i64 0, .sb 0 g1 1 4 0 1] _ ⟨Sub.refl _, Sub.refl _, Sub.slsb _ _ _ _ _ _, trivial⟩ (insert_nil g1 w) ?_)
        rintro r L' ⟨g', C', rfl, rfl⟩
        refine ⟨.sl 8 g' C' 1, (Sub.sb_sl _ 8 _ _ _ _), ?_⟩
        repeat(first|refine Sc ?_|refine fun(_:Nat)=>?_)
        refine ⟨6, es, cl, none, rfl, ho.none s (ofS_far ho.nodup hl hnil), ?_⟩
        repeat(first|refine Sc ?_|refine fun(_:Nat)=>?_)
        refine Run.drawnK C_ok (aopZ_sound C_ok) [1] [0, 1, 2, 3, 4, 5, 6, 7] (by kernel_rfl) ?_
        repeat(first|refine Sz ?_|refine fun(_:Nat)=>?_)
        refine CallZ.frz [] [0, 1, 2, 3, 4, 5, 6, 7, 8] (by kernel_rfl) [.ptr 0 gt 0, rds [], encH ⟨s, w⟩] (.three (.same _) (.nils 1) (.same _)) (ACall.sel [0, 3, 4, 5] (by decide) [.ptr 0 gt 0, rds [], encH ⟨s, w⟩] _ ⟨Sub.refl _, Sub.refl _, Sub.refl _, trivial⟩ (FnSpec.imp (Imp.box 0 _) (addR (.any (.map (some go))) [] (by simp) l gt _ (.mk tT [(.any (.map (some go)))] l gt mv wv gm gw om ow ws ks hw hws hm hk hnd hin) ⟨s, w⟩ hL)) ?_)
        rintro r L' ⟨H', hN', rfl, rfl⟩
        refine ⟨_, Sub.refl _, ?_⟩
        repeat(first|refine Sz ?_|refine fun(_:Nat)=>?_)
        exact ⟨.int .i64 0, [(0, boxL (trieL H' go _ (S ++ [(s, g', C', [w])])))], (FinOk.keep _ [0, 6, 7, 8] (Sub.refl _) (by decide) rfl).trans (FinOk.imp _ ((Imp.app (L := _ :: [_]) (.refl _) (Imp.row_new S (s, g', C', [w]))).trans (.box 0 _))), congrArg (AV.int .i64) e0.symm, .inr ⟨e0, (S ++ [(s, g', C', [w])]), _, .inr ⟨(ofS_far ho.nodup hl hnil), g', C', by rw [hnil]; rfl⟩, .mk _ _ gt (.any (.map (some go))) H' _ _ (by rw [hn]; exact hN') (.inr ⟨rfl, _, _, rfl, ho.push (y := (s, g', C', [w])) (fun x hx e => (ofS_far ho.nodup hl hnil) x hx (Value.int.inj e).2)⟩), rfl⟩⟩
    · refine ⟨.sl 2 g Cp (ofS S s).length, Sub.sl _ _ _ _ _, ?_⟩
      repeat(first|refine Sc ?_|refine fun(_:Nat)=>?_)
      by_cases hex : ∃ x ∈ ofS S s, x.id = w.id
      · refine ACallT.ok (ACall.ret_lend (args' := [rdW (ofS S s), _]) (.two (.row 2 _ _ _ tW 4 _ rfl (by simp)) (.same _)) (find_is (ofS S s) hws1 hws2 w.id (decide_eq_true hex)) rfl ?_)
        repeat(first|refine Sc ?_|refine fun(_:Nat)=>?_)
        repeat(first|refine Sc ?_|refine fun(_:Nat)=>?_)
        exact ⟨_, _, FinOk.keep _ [0] (Sub.refl _) (by decide) rfl, congrArg (AV.int .i64) (addE_90x (by simp [h0, h1, h2]) hp (by omega) hex).symm, .inl ⟨by rw [addE_90x (by simp [h0, h1, h2]) hp (by omega) hex]; decide, rfl⟩⟩
      refine ACallT.ok (ACall.ret_lend (args' := [rdW (ofS S s), _]) (.two (.row 2 _ _ _ tW 4 _ rfl (by simp)) (.same _)) (find_is (ofS S s) hws1 hws2 w.id (decide_eq_false hex)) rfl ?_)
      repeat(first|refine Sc ?_|refine fun(_:Nat)=>?_)
      refine ⟨fun h => ?_, fun h => ?_⟩
      · have h : (4 : Int) ≤ ((ofS S s).length : Int) := h
        repeat(first|refine Sc ?_|refine fun(_:Nat)=>?_)
        exact ⟨_, _, FinOk.keep _ [0] (Sub.refl _) (by decide) rfl, congrArg (AV.int .i64) (addE_46 (by simp [h0, h1, h2]) hp (by omega) hex (by omega)).symm, .inl ⟨by rw [addE_46 (by simp [h0, h1, h2]) hp (by omega) hex (by omega)]; decide, rfl⟩⟩
      have h : ¬ (4 : Int) ≤ ((ofS S s).length : Int) := h
      repeat(first|refine Za ?_|refine Zb ?_|refine Zy rfl ?_|refine Z2 rfl ?_|refine Z3 ?_|refine fun(_:Nat)=>?_|refine Run.goN rfl ?_|refine Zo rfl ?_)
      have hfull : ¬ 4 ≤ (ofS S s).length := by omega
      have e0 : addE (ofS S s) s w = 0 := addE_0 (by simp [h0, h1, h2]) hp (by omega) hex hfull
      obtain ⟨ofv, Hn, go, oo, hN, ho⟩ := hT
      obtain ⟨_, _, _, _, mv, wv, gm, gw, om, ow, ws, ks, hw, hws, hm, hk, hnd, hin⟩ := hN
      refine Run.weak0 C_ok (Weak.imp (Subs.refl _) (Imp.t_openAt gt mv wv ofv gm gw om ow ks go oo S _)) ?_
      rcases ho with ⟨rfl, rfl, rfl⟩ | ⟨rfl, es, cl, rfl, ho⟩
      · repeat(first|refine Sc ?_|refine fun(_:Nat)=>?_)
        rename_i gnew
        refine Run.drawnK C_ok (aopC_sound C_ok) [0, 1] [0, 1, 2, 4, 5, 6, 3, 7, 8, 9, 10] (by kernel_rfl) ?_
        repeat(first|refine Sc ?_|refine fun(_:Nat)=>?_)
        rename_i g1
        refine ACallT.ok (ACall.sel [2, 9] (by decide) [.sb 0 g Cp 4 0 (ofS [] s).length, .int .i64 (posW (ofS [] s) w.id : Nat), .sb 1 g1 1 4 0 1] _ ⟨Sub.slsb _ _ _ _ _ _, Sub.refl _, Sub.slsb _ _ _ _ _ _, trivial⟩ (insert_own g Cp g1 (ofS [] s) (posW (ofS [] s) w.id) w (posW_le _ _) hws1) ?_)
        rintro r L' ⟨g', C', rfl, rfl⟩
        refine ⟨.sl 2 g' C' (insW (ofS [] s) w).length, by rw [insW_len]; exact Sub.sb_sl _ 2 _ _ _ _, ?_⟩
        repeat(first|refine Sc ?_|refine fun(_:Nat)=>?_)
        refine ⟨8, #[], 0, none, rfl, MS0.none s (by simp), ?_⟩
        repeat(first|refine Sc ?_|refine fun(_:Nat)=>?_)
        refine Run.drawnK C_ok (aopZ_sound C_ok) [1] [0, 1, 2, 3, 4, 5, 6, 7] (by kernel_rfl) ?_
        repeat(first|refine Sz ?_|refine fun(_:Nat)=>?_)
        refine CallZ.frz [] [0, 1, 2, 3, 4, 5, 6, 7, 8, 9] (by kernel_rfl) [.ptr 0 gt 0, rds [], encH ⟨s, w⟩] (.three (.same _) (.nils 1) (.same _)) (ACall.sel [0, 3, 4, 5] (by decide) [.ptr 0 gt 0, rds [], encH ⟨s, w⟩] _ ⟨Sub.refl _, Sub.refl _, Sub.refl _, trivial⟩ (FnSpec.imp (Imp.box 0 _) (addR (.any (.map (some gnew))) [] (by simp) l gt _ (.mk tT [(.any (.map (some gnew)))] l gt mv wv gm gw om ow ws ks hw hws hm hk hnd hin) ⟨s, w⟩ hL)) ?_)
        rintro r L' ⟨H', hN', rfl, rfl⟩
        refine ⟨_, Sub.refl _, ?_⟩
        repeat(first|refine Sz ?_|refine fun(_:Nat)=>?_)
        exact ⟨.int .i64 0, [(0, boxL (trieL H' gnew _ ([] ++ [(s, g', C', (insW (ofS [] s) w))])))], (FinOk.keep _ [0, 8, 7, 2] (Sub.refl _) (by decide) rfl).trans (FinOk.imp _ ((Imp.app (L := _ :: [_]) (.refl _) (Imp.row_new [] (s, g', C', (insW (ofS [] s) w)))).trans (.box 0 _))), congrArg (AV.int .i64) e0.symm, .inr ⟨e0, ([] ++ [(s, g', C', (insW (ofS [] s) w))]), _, .inr ⟨(far0 s), g', C', rfl⟩, .mk _ _ gt (.any (.map (some gnew))) H' _ _ (by rw [hn]; exact hN') (.inr ⟨rfl, _, _, rfl, MS0.push (y := (s, g', C', (insW (ofS [] s) w))) (fun x hx e => (far0 s) x hx (Value.int.inj e).2)⟩), rfl⟩⟩
      · repeat(first|refine Sc ?_|refine fun(_:Nat)=>?_)
        refine Run.drawnK C_ok (aopC_sound C_ok) [0, 1] [0, 1, 2, 4, 5, 6, 3, 7, 8, 9, 10] (by kernel_rfl) ?_
        repeat(first|refine Sc ?_|refine fun(_:Nat)=>?_)
        rename_i g1
        refine ACallT.ok (ACall.sel [2, 8] (by decide) [.sb 0 g Cp 4 0 (ofS S s).length, .int .i64 (posW (ofS S s) w.id : Nat), .sb 1 g1 1 4 0 1] _ ⟨Sub.slsb _ _ _ _ _ _, Sub.refl _, Sub.slsb _ _ _ _ _ _, trivial⟩ (insert_own g Cp g1 (ofS S s) (posW (ofS S s) w.id) w (posW_le _ _) hws1) ?_)
        rintro r L' ⟨g', C', rfl, rfl⟩
        refine ⟨.sl 2 g' C' (insW (ofS S s) w).length, by rw [insW_len]; exact Sub.sb_sl _ 2 _ _ _ _, ?_⟩
        repeat(first|refine Sc ?_|refine fun(_:Nat)=>?_)
        by_cases hs : ∃ x ∈ S, x.1 = s
        · obtain ⟨x, hx, hxs⟩ := hs
          obtain ⟨i, hi⟩ := List.mem_iff_getElem?.1 hx
          refine ⟨6, es, cl, some (i, valS x), rfl, by rw [← hxs]; exact ho.hit hi, by rw [← hxs]; exact ho.bits hi (bits_int _) _, ?_⟩
          repeat(first|refine Sc ?_|refine fun(_:Nat)=>?_)
          refine Run.drawnK C_ok (aopZ_sound C_ok) [1] [0, 1, 2, 3, 4, 5, 6, 7] (by kernel_rfl) ?_
          repeat(first|refine Sz ?_|refine fun(_:Nat)=>?_)
          refine CallZ.frz [] [0, 1, 2, 3, 4, 5, 6, 7, 8] (by kernel_rfl) [.ptr 0 gt 0, rds [], encH ⟨s, w⟩] (.three (.same _) (.nils 1) (.same _)) (ACall.sel [0, 3, 4, 5] (by decide) [.ptr 0 gt 0, rds [], encH ⟨s, w⟩] _ ⟨Sub.refl _, Sub.refl _, Sub.refl _, trivial⟩ (FnSpec.imp (Imp.box 0 _) (addR (.any (.map (some go))) [] (by simp) l gt _ (.mk tT [(.any (.map (some go)))] l gt mv wv gm gw om ow ws ks hw hws hm hk hnd hin) ⟨s, w⟩ hL)) ?_)
          rintro r L' ⟨H', hN', rfl, rfl⟩
          refine ⟨_, Sub.refl _, ?_⟩
          repeat(first|refine Sz ?_|refine fun(_:Nat)=>?_)
          exact ⟨.int .i64 0, [(0, boxL (trieL H' go _ (S.set i (s, g', C', (insW (ofS S s) w)))))], (FinOk.keep _ [0, 6, 7, 2] (Sub.refl _) (by decide) rfl).trans (FinOk.imp _ ((Imp.app (L := _ :: [_]) (.refl _) (Imp.row_set hi (s, g', C', (insW (ofS S s) w)))).trans (.box 0 _))), congrArg (AV.int .i64) e0.symm, .inr ⟨e0, (S.set i (s, g', C', (insW (ofS S s) w))), _, .inl ⟨i, x, g', C', hi, hxs, rfl⟩, .mk _ _ gt (.any (.map (some go))) H' _ _ (by rw [hn]; exact hN') (.inr ⟨rfl, _, _, rfl, ho.set (y := (s, g', C', (insW (ofS S s) w))) hi (congrArg (Value.int .i64) hxs.symm)⟩), rfl⟩⟩
        have hf : ∀ x ∈ S, x.1 ≠ s := fun x hx e => hs ⟨x, hx, e⟩
        refine ⟨6, es, cl, none, rfl, ho.none s hf, ?_⟩
        repeat(first|refine Sc ?_|refine fun(_:Nat)=>?_)
        refine Run.drawnK C_ok (aopZ_sound C_ok) [1] [0, 1, 2, 3, 4, 5, 6, 7] (by kernel_rfl) ?_
        repeat(first|refine Sz ?_|refine fun(_:Nat)=>?_)
        refine CallZ.frz [] [0, 1, 2, 3, 4, 5, 6, 7, 8] (by kernel_rfl) [.ptr 0 gt 0, rds [], encH ⟨s, w⟩] (.three (.same _) (.nils 1) (.same _)) (ACall.sel [0, 3, 4, 5] (by decide) [.ptr 0 gt 0, rds [], encH ⟨s, w⟩] _ ⟨Sub.refl _, Sub.refl _, Sub.refl _, trivial⟩ (FnSpec.imp (Imp.box 0 _) (addR (.any (.map (some go))) [] (by simp) l gt _ (.mk tT [(.any (.map (some go)))] l gt mv wv gm gw om ow ws ks hw hws hm hk hnd hin) ⟨s, w⟩ hL)) ?_)
        rintro r L' ⟨H', hN', rfl, rfl⟩
        refine ⟨_, Sub.refl _, ?_⟩
        repeat(first|refine Sz ?_|refine fun(_:Nat)=>?_)
        exact ⟨.int .i64 0, [(0, boxL (trieL H' go _ (S ++ [(s, g', C', (insW (ofS S s) w))])))], (FinOk.keep _ [0, 6, 7, 2] (Sub.refl _) (by decide) rfl).trans (FinOk.imp _ ((Imp.app (L := _ :: [_]) (.refl _) (Imp.row_new S (s, g', C', (insW (ofS S s) w)))).trans (.box 0 _))), congrArg (AV.int .i64) e0.symm, .inr ⟨e0, (S ++ [(s, g', C', (insW (ofS S s) w))]), _, .inr ⟨hf, g', C', rfl⟩, .mk _ _ gt (.any (.map (some go))) H' _ _ (by rw [hn]; exact hN') (.inr ⟨rfl, _, _, rfl, ho.push (y := (s, g', C', (insW (ofS S s) w))) (fun x hx e => hf x hx (Value.int.inj e).2)⟩), rfl⟩⟩
  · refine ⟨.tuple [.sl 2 gn (namesOf w.p).length (namesOf w.p).length, .int .i64 0], Sub.tuples ⟨Sub.sl _ _ _ _ _, Sub.refl _, trivial⟩, ?_⟩
    repeat(first|refine Sc ?_|refine fun(_:Nat)=>?_)
    refine ⟨fun h => absurd rfl h, fun _ => ?_⟩
    repeat(first|refine Sc ?_|refine fun(_:Nat)=>?_)
    refine ⟨fun h => ?_, fun hk1 => ?_⟩
    · have h : w.k < 1 := h
      repeat(first|refine Sc ?_|refine fun(_:Nat)=>?_)
      exact ⟨_, _, FinOk.keep _ [0] (Sub.refl _) (by decide) rfl, congrArg (AV.int .i64) (addE_90k (by simp [h0, h1, h2]) hp (.inl h)).symm, .inl ⟨by rw [addE_90k (by simp [h0, h1, h2]) hp (.inl h)]; decide, rfl⟩⟩
    have hk1 : ¬ w.k < 1 := hk1
    repeat(first|refine Sc ?_|refine fun(_:Nat)=>?_)
    refine ⟨fun h => ?_, fun hk3 => ?_⟩
    · have h : 3 < w.k := h
      repeat(first|refine Sc ?_|refine fun(_:Nat)=>?_)
      exact ⟨_, _, FinOk.keep _ [0] (Sub.refl _) (by decide) rfl, congrArg (AV.int .i64) (addE_90k (by simp [h0, h1, h2]) hp (.inr h)).symm, .inl ⟨by rw [addE_90k (by simp [h0, h1, h2]) hp (.inr h)]; decide, rfl⟩⟩
    have hk3 : ¬ 3 < w.k := hk3
    repeat(first|refine Sc ?_|refine fun(_:Nat)=>?_)
    refine ACallT.ok (ACall.sel [0] (by decide) [.ptr 0 gt 0, .int .i64 s] _ ⟨Sub.refl _, Sub.refl _, trivial⟩ (of_spec S l gt H hT s hl2) ?_)
    rintro r L' ⟨g, o, hLN, rfl⟩
    rcases hLN with ⟨hnil, rfl, rfl⟩ | ⟨Cp, rfl, rfl⟩
    · refine ⟨_, Sub.refl _, ?_⟩
      repeat(first|refine Sc ?_|refine fun(_:Nat)=>?_)
      have hex : ¬ ∃ x ∈ ofS S s, x.id = w.id := by rw [hnil]; simp
      refine ACallT.ok (ACall.ret_lend (args' := [rdW [], _]) (.two (.nils 4) (.same _)) (find_is [] (by decide) List.Pairwise.nil w.id (b := false) (by simp)) rfl ?_)
      repeat(first|refine Sc ?_|refine fun(_:Nat)=>?_)
      refine ⟨fun h => absurd h (by omega), fun _ => ?_⟩
      repeat(first|refine Za ?_|refine Zb ?_|refine Zy rfl ?_|refine Z2 rfl ?_|refine Z3 ?_|refine fun(_:Nat)=>?_|refine Run.goN rfl ?_|refine Zo rfl ?_)
      have hfull : ¬ 4 ≤ (ofS S s).length := by rw [hnil]; decide
      have e0 : addE (ofS S s) s w = 0 := addE_0 (by simp [h0, h1, h2]) hp (by omega) hex hfull
      obtain ⟨ofv, Hn, go, oo, hN, ho⟩ := hT
      obtain ⟨_, _, _, _, mv, wv, gm, gw, om, ow, ws, ks, hw, hws, hm, hk, hnd, hin⟩ := hN
      refine Run.weak0 C_ok (Weak.imp (Subs.refl _) (Imp.t_openAt gt mv wv ofv gm gw om ow ks go oo S _)) ?_
      rcases ho with ⟨rfl, rfl, rfl⟩ | ⟨rfl, es, cl, rfl, ho⟩
      · repeat(first|refine Sc ?_|refine fun(_:Nat)=>?_)
        rename_i gnew
        refine Run.drawnK C_ok (aopC_sound C_ok) [0, 1] [0, 1, 2, 4, 5, 6, 3, 7, 8, 9, 10] (by kernel_rfl) ?_
        repeat(first|refine Sc ?_|refine fun(_:Nat)=>?_)
        rename_i g1
        refine ACallT.ok (ACall.sel [10] (by decide) [.nils, .int .i64 0, .sb 0 g1 1 4 0 1] _ ⟨Sub.refl _, Sub.refl _, Sub.slsb _ _ _ _ _ _, trivial⟩ (insert_nil g1 w) ?_)
        rintro r L' ⟨g', C', rfl, rfl⟩
        refine ⟨.sl 10 g' C' 1, (Sub.sb_sl _ 10 _ _ _ _), ?_⟩
        repeat(first|refine Sc ?_|refine fun(_:Nat)=>?_)
        refine ⟨9, #[], 0, none, rfl, MS0.none s (by simp), ?_⟩
        repeat(first|refine Sc ?_|refine fun(_:Nat)=>?_)
        refine Run.drawnK C_ok (aopZ_sound C_ok) [1] [0, 1, 2, 3, 4, 5, 6, 7] (by kernel_rfl) ?_
        repeat(first|refine Sz ?_|refine fun(_:Nat)=>?_)
        refine CallZ.frz [2] [0, 1, 3, 4, 5, 6, 7, 8, 9, 10] (by kernel_rfl) [.ptr 0 gt 0, rds (namesOf w.p), encH ⟨s, w⟩] (.three (.same _) (.row 2 gn _ _ 9 1 _ rfl (by simp)) (.same _)) (ACall.sel [0, 4, 5, 6] (by decide) [.ptr 0 gt 0, rds (namesOf w.p), encH ⟨s, w⟩] _ ⟨Sub.refl _, Sub.refl _, Sub.refl _, trivial⟩ (FnSpec.imp (Imp.box 0 _) (addR (.any (.map (some gnew))) (namesOf w.p) (by omega) l gt _ (.mk tT [(.any (.map (some gnew)))] l gt mv wv gm gw om ow ws ks hw hws hm hk hnd hin) ⟨s, w⟩ hL)) ?_)
        rintro r L' ⟨H', hN', rfl, rfl⟩
        refine ⟨_, Sub.refl _, ?_⟩
        repeat(first|refine Sz ?_|refine fun(_:Nat)=>?_)
        exact ⟨.int .i64 0, [(0, boxL (trieL H' gnew _ ([] ++ [(s, g', C', [w])])))], (FinOk.keep _ [0, 9, 8, 10] (Sub.refl _) (by decide) rfl).trans (FinOk.imp _ ((Imp.app (L := _ :: [_]) (.refl _) (Imp.row_new [] (s, g', C', [w]))).trans (.box 0 _))), congrArg (AV.int .i64) e0.symm, .inr ⟨e0, ([] ++ [(s, g', C', [w])]), _, .inr ⟨(far0 s), g', C', rfl⟩, .mk _ _ gt (.any (.map (some gnew))) H' _ _ (hN') (.inr ⟨rfl, _, _, rfl, MS0.push (y := (s, g', C', [w])) (fun x hx e => (far0 s) x hx (Value.int.inj e).2)⟩), rfl⟩⟩
      · repeat(first|refine Sc ?_|refine fun(_:Nat)=>?_)
        refine Run.drawnK C_ok (aopC_sound C_ok) [0, 1] [0, 1, 2, 4, 5, 6, 3, 7, 8, 9, 10] (by kernel_rfl) ?_
        repeat(first|refine Sc ?_|refine fun(_:Nat)=>?_)
        rename_i g1
        refine ACallT.ok (ACall.sel [9] (by decide) [.nils, .int .i64 0, .sb 0 g1 1 4 0 1] _ ⟨Sub.refl _, Sub.refl _, Sub.slsb _ _ _ _ _ _, trivial⟩ (insert_nil g1 w) ?_)
        rintro r L' ⟨g', C', rfl, rfl⟩
        refine ⟨.sl 9 g' C' 1, (Sub.sb_sl _ 9 _ _ _ _), ?_⟩
        repeat(first|refine Sc ?_|refine fun(_:Nat)=>?_)
        refine ⟨7, es, cl, none, rfl, ho.none s (ofS_far ho.nodup hl hnil), ?_⟩
        repeat(first|refine Sc ?_|refine fun(_:Nat)=>?_)
        refine Run.drawnK C_ok (aopZ_sound C_ok) [1] [0, 1, 2, 3, 4, 5, 6, 7] (by kernel_rfl) ?_
        repeat(first|refine Sz ?_|refine fun(_:Nat)=>?_)
        refine CallZ.frz [2] [0, 1, 3, 4, 5, 6, 7, 8, 9] (by kernel_rfl) [.ptr 0 gt 0, rds (namesOf w.p), encH ⟨s, w⟩] (.three (.same _) (.row 2 gn _ _ 9 1 _ rfl (by simp)) (.same _)) (ACall.sel [0, 4, 5, 6] (by decide) [.ptr 0 gt 0, rds (namesOf w.p), encH ⟨s, w⟩] _ ⟨Sub.refl _, Sub.refl _, Sub.refl _, trivial⟩ (FnSpec.imp (Imp.box 0 _) (addR (.any (.map (some go))) (namesOf w.p) (by omega) l gt _ (.mk tT [(.any (.map (some go)))] l gt mv wv gm gw om ow ws ks hw hws hm hk hnd hin) ⟨s, w⟩ hL)) ?_)
        rintro r L' ⟨H', hN', rfl, rfl⟩
        refine ⟨_, Sub.refl _, ?_⟩
        repeat(first|refine Sz ?_|refine fun(_:Nat)=>?_)
        exact ⟨.int .i64 0, [(0, boxL (trieL H' go _ (S ++ [(s, g', C', [w])])))], (FinOk.keep _ [0, 7, 8, 9] (Sub.refl _) (by decide) rfl).trans (FinOk.imp _ ((Imp.app (L := _ :: [_]) (.refl _) (Imp.row_new S (s, g', C', [w]))).trans (.box 0 _))), congrArg (AV.int .i64) e0.symm, .inr ⟨e0, (S ++ [(s, g', C', [w])]), _, .inr ⟨(ofS_far ho.nodup hl hnil), g', C', by rw [hnil]; rfl⟩, .mk _ _ gt (.any (.map (some go))) H' _ _ (hN') (.inr ⟨rfl, _, _, rfl, ho.push (y := (s, g', C', [w])) (fun x hx e => (ofS_far ho.nodup hl hnil) x hx (Value.int.inj e).2)⟩), rfl⟩⟩
    · refine ⟨.sl 3 g Cp (ofS S s).length, Sub.sl _ _ _ _ _, ?_⟩
      repeat(first|refine Sc ?_|refine fun(_:Nat)=>?_)
      by_cases hex : ∃ x ∈ ofS S s, x.id = w.id
      · refine ACallT.ok (ACall.ret_lend (args' := [rdW (ofS S s), _]) (.two (.row 3 _ _ _ tW 4 _ rfl (by simp)) (.same _)) (find_is (ofS S s) hws1 hws2 w.id (decide_eq_true hex)) rfl ?_)
        repeat(first|refine Sc ?_|refine fun(_:Nat)=>?_)
        repeat(first|refine Sc ?_|refine fun(_:Nat)=>?_)
        exact ⟨_, _, FinOk.keep _ [0] (Sub.refl _) (by decide) rfl, congrArg (AV.int .i64) (addE_90x (by simp [h0, h1, h2]) hp (by omega) hex).symm, .inl ⟨by rw [addE_90x (by simp [h0, h1, h2]) hp (by omega) hex]; decide, rfl⟩⟩
      refine ACallT.ok (ACall.ret_lend (args' := [rdW (ofS S s), _]) (.two (.row 3 _ _ _ tW 4 _ rfl (by simp)) (.same _)) (find_is (ofS S s) hws1 hws2 w.id (decide_eq_false hex)) rfl ?_)
      repeat(first|refine Sc ?_|refine fun(_:Nat)=>?_)
      refine ⟨fun h => ?_, fun h => ?_⟩
      · have h : (4 : Int) ≤ ((ofS S s).length : Int) := h
        repeat(first|refine Sc ?_|refine fun(_:Nat)=>?_)
        exact ⟨_, _, FinOk.keep _ [0] (Sub.refl _) (by decide) rfl, congrArg (AV.int .i64) (addE_46 (by simp [h0, h1, h2]) hp (by omega) hex (by omega)).symm, .inl ⟨by rw [addE_46 (by simp [h0, h1, h2]) hp (by omega) hex (by omega)]; decide, rfl⟩⟩
      have h : ¬ (4 : Int) ≤ ((ofS S s).length : Int) := h
      repeat(first|refine Za ?_|refine Zb ?_|refine Zy rfl ?_|refine Z2 rfl ?_|refine Z3 ?_|refine fun(_:Nat)=>?_|refine Run.goN rfl ?_|refine Zo rfl ?_)
      have hfull : ¬ 4 ≤ (ofS S s).length := by omega
      have e0 : addE (ofS S s) s w = 0 := addE_0 (by simp [h0, h1, h2]) hp (by omega) hex hfull
      obtain ⟨ofv, Hn, go, oo, hN, ho⟩ := hT
      obtain ⟨_, _, _, _, mv, wv, gm, gw, om, ow, ws, ks, hw, hws, hm, hk, hnd, hin⟩ := hN
      refine Run.weak0 C_ok (Weak.imp (Subs.refl _) (Imp.t_openAt gt mv wv ofv gm gw om ow ks go oo S _)) ?_
      rcases ho with ⟨rfl, rfl, rfl⟩ | ⟨rfl, es, cl, rfl, ho⟩
      · repeat(first|refine Sc ?_|refine fun(_:Nat)=>?_)
        rename_i gnew
        refine Run.drawnK C_ok (aopC_sound C_ok) [0, 1] [0, 1, 2, 4, 5, 6, 3, 7, 8, 9, 10] (by kernel_rfl) ?_
        repeat(first|refine Sc ?_|refine fun(_:Nat)=>?_)
        rename_i g1
        refine ACallT.ok (ACall.sel [3, 10] (by decide) [.sb 0 g Cp 4 0 (ofS [] s).length, .int .i64 (posW (ofS [] s) w.id : Nat), .sb 1 g1 1 4 0 1] _ ⟨Sub.slsb _ _ _ _ _ _, Sub.refl _, Sub.slsb _ _ _ _ _ _, trivial⟩ (insert_own g Cp g1 (ofS [] s) (posW (ofS [] s) w.id) w (posW_le _ _) hws1) ?_)
        rintro r L' ⟨g', C', rfl, rfl⟩
        refine ⟨.sl 3 g' C' (insW (ofS [] s) w).length, by rw [insW_len]; exact Sub.sb_sl _ 3 _ _ _ _, ?_⟩
        repeat(first|refine Sc ?_|refine fun(_:Nat)=>?_)
        refine ⟨9, #[], 0, none, rfl, MS0.none s (by simp), ?_⟩
        repeat(first|refine Sc ?_|refine fun(_:Nat)=>?_)
        refine Run.drawnK C_ok (aopZ_sound C_ok) [1] [0, 1, 2, 3, 4, 5, 6, 7] (by kernel_rfl) ?_
        repeat(first|refine Sz ?_|refine fun(_:Nat)=>?_)
        refine CallZ.frz [2] [0, 1, 3, 4, 5, 6, 7, 8, 9, 10] (by kernel_rfl) [.ptr 0 gt 0, rds (namesOf w.p), encH ⟨s, w⟩] (.three (.same _) (.row 2 gn _ _ 9 1 _ rfl (by simp)) (.same _)) (ACall.sel [0, 4, 5, 6] (by decide) [.ptr 0 gt 0, rds (namesOf w.p), encH ⟨s, w⟩] _ ⟨Sub.refl _, Sub.refl _, Sub.refl _, trivial⟩ (FnSpec.imp (Imp.box 0 _) (addR (.any (.map (some gnew))) (namesOf w.p) (by omega) l gt _ (.mk tT [(.any (.map (some gnew)))] l gt mv wv gm gw om ow ws ks hw hws hm hk hnd hin) ⟨s, w⟩ hL)) ?_)
        rintro r L' ⟨H', hN', rfl, rfl⟩
        refine ⟨_, Sub.refl _, ?_⟩
        repeat(first|refine Sz ?_|refine fun(_:Nat)=>?_)
        exact ⟨.int .i64 0, [(0, boxL (trieL H' gnew _ ([] ++ [(s, g', C', (insW (ofS [] s) w))])))], (FinOk.keep _ [0, 9, 8, 3] (Sub.refl _) (by decide) rfl).trans (FinOk.imp _ ((Imp.app (L := _ :: [_]) (.refl _) (Imp.row_new [] (s, g', C', (insW (ofS [] s) w)))).trans (.box 0 _))), congrArg (AV.int .i64) e0.symm, .inr ⟨e0, ([] ++ [(s, g', C', (insW (ofS [] s) w))]), _, .inr ⟨(far0 s), g', C', rfl⟩, .mk _ _ gt (.any (.map (some gnew))) H' _ _ (hN') (.inr ⟨rfl, _, _, rfl, MS0.push (y := (s, g', C', (insW (ofS [] s) w))) (fun x hx e => (far0 s) x hx (Value.int.inj e).2)⟩), rfl⟩⟩
      · repeat(first|refine Sc ?_|refine fun(_:Nat)=>?_)
        refine Run.drawnK C_ok (aopC_sound C_ok) [0, 1] [0, 1, 2, 4, 5, 6, 3, 7, 8, 9, 10] (by kernel_rfl) ?_
        repeat(first|refine Sc ?_|refine fun(_:Nat)=>?_)
        rename_i g1
        refine ACallT.ok (ACall.sel [3, 9] (by decide) [.sb 0 g Cp 4 0 (ofS S s).length, .int .i64 (posW (ofS S s) w.id : Nat), .sb 1 g1 1 4 0 1] _ ⟨Sub.slsb _ _ _ _ _ _, Sub.refl _, Sub.slsb _ _ _ _ _ _, trivial⟩ (insert_own g Cp g1 (ofS S s) (posW (ofS S s) w.id) w (posW_le _ _) hws1) ?_)
        rintro r L' ⟨g', C', rfl, rfl⟩
        refine ⟨.sl 3 g' C' (insW (ofS S s) w).length, by rw [insW_len]; exact Sub.sb_sl _ 3 _ _ _ _, ?_⟩
        repeat(first|refine Sc ?_|refine fun(_:Nat)=>?_)
        by_cases hs : ∃ x ∈ S, x.1 = s
        · obtain ⟨x, hx, hxs⟩ := hs
          obtain ⟨i, hi⟩ := List.mem_iff_getElem?.1 hx
          refine ⟨7, es, cl, some (i, valS x), rfl, by rw [← hxs]; exact ho.hit hi, by rw [← hxs]; exact ho.bits hi (bits_int _) _, ?_⟩
          repeat(first|refine Sc ?_|refine fun(_:Nat)=>?_)
          refine Run.drawnK C_ok (aopZ_sound C_ok) [1] [0, 1, 2, 3, 4, 5, 6, 7] (by kernel_rfl) ?_
          repeat(first|refine Sz ?_|refine fun(_:Nat)=>?_)
          refine CallZ.frz [2] [0, 1, 3, 4, 5, 6, 7, 8, 9] (by kernel_rfl) [.ptr 0 gt 0, rds (namesOf w.p), encH ⟨s, w⟩] (.three (.same _) (.row 2 gn _ _ 9 1 _ rfl (by simp)) (.same _)) (ACall.sel [0, 4, 5, 6] (by decide) [.ptr 0 gt 0, rds (namesOf w.p), encH ⟨s, w⟩] _ ⟨Sub.refl _, Sub.refl _, Sub.refl _, trivial⟩ (FnSpec.imp (Imp.box 0 _) (addR (.any (.map (some go))) (namesOf w.p) (by omega) l gt _ (.mk tT [(.any (.map (some go)))] l gt mv wv gm gw om ow ws ks hw hws hm hk hnd hin) ⟨s, w⟩ hL)) ?_)
          rintro r L' ⟨H', hN', rfl, rfl⟩
          refine ⟨_, Sub.refl _, ?_⟩
          repeat(first|refine Sz ?_|refine fun(_:Nat)=>?_)
          exact ⟨.int .i64 0, [(0, boxL (trieL H' go _ (S.set i (s, g', C', (insW (ofS S s) w)))))], (FinOk.keep _ [0, 7, 8, 3] (Sub.refl _) (by decide) rfl).trans (FinOk.imp _ ((Imp.app (L := _ :: [_]) (.refl _) (Imp.row_set hi (s, g', C', (insW (ofS S s) w)))).trans (.box 0 _))), congrArg (AV.int .i64) e0.symm, .inr ⟨e0, (S.set i (s, g', C', (insW (ofS S s) w))), _, .inl ⟨i, x, g', C', hi, hxs, rfl⟩, .mk _ _ gt (.any (.map (some go))) H' _ _ (hN') (.inr ⟨rfl, _, _, rfl, ho.set (y := (s, g', C', (insW (ofS S s) w))) hi (congrArg (Value.int .i64) hxs.symm)⟩), rfl⟩⟩
        have hf : ∀ x ∈ S, x.1 ≠ s := fun x hx e => hs ⟨x, hx, e⟩
        refine ⟨7, es, cl, none, rfl, ho.none s hf, ?_⟩
        repeat(first|refine Sc ?_|refine fun(_:Nat)=>?_)
        refine Run.drawnK C_ok (aopZ_sound C_ok) [1] [0, 1, 2, 3, 4, 5, 6, 7] (by kernel_rfl) ?_
        repeat(first|refine Sz ?_|refine fun(_:Nat)=>?_)
        refine CallZ.frz [2] [0, 1, 3, 4, 5, 6, 7, 8, 9] (by kernel_rfl) [.ptr 0 gt 0, rds (namesOf w.p), encH ⟨s, w⟩] (.three (.same _) (.row 2 gn _ _ 9 1 _ rfl (by simp)) (.same _)) (ACall.sel [0, 4, 5, 6] (by decide) [.ptr 0 gt 0, rds (namesOf w.p), encH ⟨s, w⟩] _ ⟨Sub.refl _, Sub.refl _, Sub.refl _, trivial⟩ (FnSpec.imp (Imp.box 0 _) (addR (.any (.map (some go))) (namesOf w.p) (by omega) l gt _ (.mk tT [(.any (.map (some go)))] l gt mv wv gm gw om ow ws ks hw hws hm hk hnd hin) ⟨s, w⟩ hL)) ?_)
        rintro r L' ⟨H', hN', rfl, rfl⟩
        refine ⟨_, Sub.refl _, ?_⟩
        repeat(first|refine Sz ?_|refine fun(_:Nat)=>?_)
        exact ⟨.int .i64 0, [(0, boxL (trieL H' go _ (S ++ [(s, g', C', (insW (ofS S s) w))])))], (FinOk.keep _ [0, 7, 8, 3] (Sub.refl _) (by decide) rfl).trans (FinOk.imp _ ((Imp.app (L := _ :: [_]) (.refl _) (Imp.row_new S (s, g', C', (insW (ofS S s) w)))).trans (.box 0 _))), congrArg (AV.int .i64) e0.symm, .inr ⟨e0, (S ++ [(s, g', C', (insW (ofS S s) w))]), _, .inr ⟨hf, g', C', rfl⟩, .mk _ _ gt (.any (.map (some go))) H' _ _ (hN') (.inr ⟨rfl, _, _, rfl, ho.push (y := (s, g', C', (insW (ofS S s) w))) (fun x hx e => hf x hx (Value.int.inj e).2)⟩), rfl⟩⟩
end Go.Proofs.YtgpbppkmmlclfaaDoor.HBT
