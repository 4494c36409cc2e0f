/- The trie's inner nodes in memory; a watch is added below one. -/
import Derived.Test.YtgpbppkmmlclfaaDoorTtK3
set_option linter.unusedVariables false
set_option linter.unusedSimpArgs false
namespace Go.Proofs.YtgpbppkmmlclfaaDoor.HBT
open Go Go.Proofs.YtgpbppkmmlclfaaDoor.HB Go.RowKit
set_option maxRecDepth 8000

abbrev NL := List (List ByteArray × On)
def hereN (l : NL) : List On := l.filterMap fun x => if x.1 = [] then some x.2 else none
def belowN (l : NL) (n : ByteArray) : NL := l.filterMap fun x => match x.1 with
  | m :: r => if m = n then some (r, x.2) else none
  | [] => none
abbrev Kid := ByteArray × Nat × AHeap
def keyK (x : Kid) : Value := .string x.1
def valK (x : Kid) : Value := .pointer (some ⟨x.2.1, 0, none⟩)
abbrev MK := MapOk keyK valK
abbrev kidB (x : Kid) : Nat × AObj := (0, boxL x.2.2)
def KidsV (ks : List Kid) (mv : AV) (gm : Nat) (om : AObj) : Prop := (ks = [] ∧ mv = .any (.map none) ∧ om = .dead) ∨ (mv = .any (.map (some gm)) ∧ ∃ es cl, om = .obj (.map es cl) ∧ MK ks es cl)
abbrev LH := LN encH tH 5
abbrev nodeL (t : TypeId) (ex : List AV) (g : Nat) (mv wv : AV) (gm gw : Nat) (om ow : AObj) (ks : List Kid) : AHeap := [(g, .cells t (mv :: wv :: ex)), (gm, om), (gw, ow), (0, boxL (ks.map kidB))]
inductive IsN : TypeId → List AV → NL → Nat → AHeap → Prop where
  | mk (t : TypeId) (ex : List AV) (l : NL) (g : Nat) (mv wv : AV) (gm gw : Nat) (om ow : AObj) (ws : List On) (ks : List Kid)
      (hw : LH 2 ws wv gw ow) (hws : ws.Perm (hereN l)) (hm : KidsV ks mv gm om) (hk : ∀ n, (∃ x ∈ ks, x.1 = n) ↔ belowN l n ≠ []) (hnd : (ks.map (·.1)).Nodup)
      (hin : ∀ x ∈ ks, IsN tI [] (belowN l x.1) x.2.1 x.2.2) : IsN t ex l g (nodeL t ex g mv wv gm gw om ow ks)

theorem hereN_app (l m : NL) : hereN (l ++ m) = hereN l ++ hereN m := by unfold hereN; rw [List.filterMap_append]
theorem belowN_app (l m : NL) (n : ByteArray) : belowN (l ++ m) n = belowN l n ++ belowN m n := by unfold belowN; rw [List.filterMap_append]
theorem hereN_one (o : On) : hereN [([], o)] = [o] := rfl
theorem hereN_low (n : ByteArray) (r : List ByteArray) (o : On) : hereN [(n :: r, o)] = [] := rfl
theorem belowN_one (o : On) (n : ByteArray) : belowN [([], o)] n = [] := rfl
theorem belowN_low (n : ByteArray) (r : List ByteArray) (o : On) : belowN [(n :: r, o)] n = [(r, o)] := by simp [belowN]
theorem belowN_far {n m : ByteArray} (h : n ≠ m) (r : List ByteArray) (o : On) : belowN [(n :: r, o)] m = [] := by simp [belowN, h]
theorem IsN.none (g : Nat) : IsN tI [] [] g (nodeL tI [] g (.any (.map none)) .nils 0 0 .dead .dead []) :=
  .mk tI [] [] g _ _ 0 0 .dead .dead [] [] (.inl ⟨rfl, rfl, rfl⟩) (List.Perm.refl _) (.inl ⟨rfl, rfl, rfl⟩) (fun n => ⟨fun ⟨_, h, _⟩ => by (cases h), fun h => absurd rfl h⟩) (by simp) (fun x hx => by cases hx)

theorem erase_perm {α : Type} : ∀ {ks : List α} {i : Nat} {x : α}, ks[i]? = some x → ks.Perm (x :: ks.eraseIdx i)
  | [], i, x, h => by simp at h
  | y :: ks, 0, x, h => by simp at h; subst h; exact List.Perm.refl _
  | y :: ks, i + 1, x, h => by
    have := erase_perm (ks := ks) (i := i) (x := x) (by simpa using h)
    exact (this.cons y).trans (List.Perm.swap x y _)
theorem Imp.kid {ks : List Kid} {i : Nat} {x y : Kid} (hx : ks[i]? = some x) : Imp (((ks.eraseIdx i).map kidB) ++ [kidB y]) ((ks.set i y).map kidB) := by
  refine .perm ?_
  have hi := (List.getElem?_eq_some_iff.1 hx).1
  have h1 := erase_perm (ks := ks.set i y) (i := i) (x := y) (by rw [List.getElem?_set_self hi])
  rw [List.eraseIdx_set_eq] at h1
  have h2 := h1.map kidB
  rw [List.map_cons] at h2
  exact (List.perm_append_comm (l₁ := (ks.eraseIdx i).map kidB) (l₂ := [kidB y])).trans h2.symm
theorem Imp.kid_out {ks : List Kid} {i : Nat} {x : Kid} (hx : ks[i]? = some x) : Imp (ks.map kidB) ((ks.eraseIdx i).map kidB ++ [kidB x]) := by
  refine .perm ?_
  have := (erase_perm hx).map kidB
  rw [List.map_cons] at this
  exact this.trans (List.perm_append_comm (l₁ := [kidB x]) (l₂ := (ks.eraseIdx i).map kidB))
theorem u9 : C.P.underlying 9 = some .string := Tryd.underlying9
theorem keyKS (x : Kid) : MapKept.IsKey .string (keyK x) := trivial
theorem Imp.fst (L M : AHeap) : Imp (L ++ M) L := ⟨fun _ hi => (own_app _ _ _).2 (.inl hi), fun _ _ hs => ((satC_app _ _ _ _).1 hs).1⟩
theorem Imp.sel (L : AHeap) {ks : List Nat} (hnd : ks.Nodup) : Imp L (selL L ks) := Imp.trans (Imp.split L hnd) (Imp.fst _ _)
theorem Imp.close {a b c kb : Nat × AObj} {E F : AHeap} (h : Imp (E ++ [kb]) F) : Imp [a, b, c, (0, boxL E), kb] [(0, boxL [a, b, c, (0, boxL F)])] :=
  (Imp.app (L := [a, b, c]) (L' := [a, b, c]) (.refl _) (((Imp.app (Imp.unbox 0 E) (.refl [kb])).trans h).trans (.box 0 F))).trans (.box 0 _)
theorem Imp.fresh (g : Nat) : Imp [(g, .cells tI [.any (.map none), .nils])] [(0, boxL (nodeL tI [] g (.any (.map none)) .nils 0 0 .dead .dead []))] :=
  (Imp.app (L := [(g, .cells tI [.any (.map none), .nils])]) (L' := [(g, .cells tI [.any (.map none), .nils])]) (.refl _) (((Imp.box 0 []).trans (.dead 0 _)).trans (.dead 0 _))).trans (.box 0 _)
theorem MK.same {ks : List Kid} {es : Array MapEntry} {cl i : Nat} {x y : Kid} (h : MK ks es cl) (hx : ks[i]? = some x) (h1 : y.1 = x.1) (h2 : y.2.1 = x.2.1) : MK (ks.set i y) es cl := by
  have hk : ∀ (f : Kid → Value × Value), f y = f x → (ks.set i y).map f = ks.map f := fun f e => by
    rw [List.map_set, e]
    obtain ⟨hi, rfl⟩ := List.getElem?_eq_some_iff.1 hx
    apply List.ext_getElem?
    intro j
    rw [List.getElem?_set]
    split
    · rename_i e; subst e; simp [hi]
    · rfl
  have hk1 : (ks.set i y).map keyK = ks.map keyK := by
    have := congrArg (List.map Prod.fst) (hk (fun z => (keyK z, valK z)) (by unfold keyK valK; rw [h1, h2]))
    simpa [List.map_map, Function.comp_def] using this
  exact ⟨by rw [hk (fun z => (keyK z, valK z)) (by unfold keyK valK; rw [h1, h2])]; exact h.at_, by rw [hk1]; exact h.keys, h.born, h.old⟩
theorem MK.none {ks : List Kid} {es : Array MapEntry} {cl : Nat} (hm : MK ks es cl) (n : ByteArray) (hf : ∀ x ∈ ks, x.1 ≠ n) : findAt C.P 9 (.string n) es.toList = some none :=
  MapOk.miss (d := .string) u9 keyKS hm (kv := .string n) (show MapKept.IsKey .string (.string n) from trivial) (fun x hx e => hf x hx (Value.string.inj e))
theorem names_set {ks : List Kid} {i : Nat} {x y : Kid} (hx : ks[i]? = some x) (h1 : y.1 = x.1) : (ks.set i y).map (·.1) = ks.map (·.1) := by
  rw [List.map_set, h1]
  obtain ⟨hi, rfl⟩ := List.getElem?_eq_some_iff.1 hx
  apply List.ext_getElem?
  intro j
  rw [List.getElem?_set]
  split
  · rename_i e; subst e; simp [hi]
  · rfl
theorem nodeK {l : NL} {ws : List On} {ks : List Kid} {t : TypeId} {ex : List AV} {g gm gw : Nat} {mv wv : AV} {om ow : AObj} {o : On} {names : List ByteArray} {x : Kid} {i : Nat} {H' : AHeap} (hw : LH 2 ws wv gw ow) (hws : ws.Perm (hereN l)) (hx : ks[i]? = some x)
    (hm : KidsV (ks.set i (x.1, x.2.1, H')) mv gm om) (hk : ∀ n, (∃ x ∈ ks, x.1 = n) ↔ belowN l n ≠ []) (hnd : (ks.map (·.1)).Nodup) (hin : ∀ x ∈ ks, IsN tI [] (belowN l x.1) x.2.1 x.2.2) (hN : IsN tI [] (belowN l x.1 ++ [(names, o)]) x.2.1 H') :
    IsN t ex (l ++ [(x.1 :: names, o)]) g (nodeL t ex g mv wv gm gw om ow (ks.set i (x.1, x.2.1, H'))) := by
  have hns := names_set (y := (x.1, x.2.1, H')) hx rfl
  have hmem : ∀ n, (∃ z ∈ ks.set i (x.1, x.2.1, H'), z.1 = n) ↔ ∃ z ∈ ks, z.1 = n := fun n => by
    have e1 : (∃ z ∈ ks.set i (x.1, x.2.1, H'), z.1 = n) ↔ n ∈ (ks.set i (x.1, x.2.1, H')).map (·.1) := List.mem_map.symm
    have e2 : (∃ z ∈ ks, z.1 = n) ↔ n ∈ ks.map (·.1) := List.mem_map.symm
    rw [e1, e2, hns]
  refine .mk t ex _ g mv wv gm gw om ow ws _ hw (by rw [hereN_app, hereN_low, List.append_nil]; exact hws) hm (fun n => ?_) (by rw [hns]; exact hnd) (fun z hz => ?_)
  · rw [hmem, hk n, belowN_app]
    by_cases e : x.1 = n
    · subst e
      rw [belowN_low]
      have := (hk x.1).1 ⟨x, List.mem_of_getElem? hx, rfl⟩
      simp [this]
    · rw [belowN_far e, List.append_nil]
  · obtain ⟨j, hj⟩ := List.mem_iff_getElem?.1 hz
    rw [List.getElem?_set] at hj
    split at hj
    · split at hj
      · cases hj
        rw [belowN_app, belowN_low]
        exact hN
      · cases hj
    · rename_i hne
      have hne2 : x.1 ≠ z.1 := fun e => by
        have h1 : (ks.map (·.1))[i]? = (ks.map (·.1))[j]? := by rw [List.getElem?_map, List.getElem?_map, hx, hj]; simp [e]
        have hi := (List.getElem?_eq_some_iff.1 hx).1
        exact hne ((List.getElem?_inj (by simpa using hi) hnd).1 h1)
      rw [belowN_app, belowN_far hne2, List.append_nil]
      exact hin z (List.mem_of_getElem? hj)
theorem nodeNew {l : NL} {ws : List On} {ks : List Kid} {t : TypeId} {ex : List AV} {g gm gw gk : Nat} {mv wv : AV} {om ow : AObj} {o : On} {n : ByteArray} {names : List ByteArray} {H' : AHeap} (hw : LH 2 ws wv gw ow) (hws : ws.Perm (hereN l)) (hf : ∀ x ∈ ks, x.1 ≠ n)
    (hm : KidsV (ks ++ [(n, gk, H')]) mv gm om) (hk : ∀ n, (∃ x ∈ ks, x.1 = n) ↔ belowN l n ≠ []) (hnd : (ks.map (·.1)).Nodup) (hin : ∀ x ∈ ks, IsN tI [] (belowN l x.1) x.2.1 x.2.2) (hN : IsN tI [] ([] ++ [(names, o)]) gk H') :
    IsN t ex (l ++ [(n :: names, o)]) g (nodeL t ex g mv wv gm gw om ow (ks ++ [(n, gk, H')])) := by
  have hbn : belowN l n = [] := Decidable.byContradiction fun h => by
    obtain ⟨x, hx, e⟩ := (hk n).2 h
    exact hf x hx e
  refine .mk t ex _ g mv wv gm gw om ow ws _ hw (by rw [hereN_app, hereN_low, List.append_nil]; exact hws) hm (fun m => ?_) ?_ (fun z hz => ?_)
  · rw [belowN_app]
    by_cases e : n = m
    · subst e
      rw [belowN_low]
      exact ⟨fun _ => by simp, fun _ => ⟨_, List.mem_append_right _ (List.mem_singleton.2 rfl), rfl⟩⟩
    · rw [belowN_far e, List.append_nil, ← hk m]
      constructor
      · rintro ⟨z, hz, rfl⟩
        rcases List.mem_append.1 hz with hz | hz
        · exact ⟨z, hz, rfl⟩
        · rw [List.mem_singleton.1 hz] at e; exact absurd rfl e
      · rintro ⟨z, hz, e⟩
        exact ⟨z, List.mem_append_left _ hz, e⟩
  · rw [List.map_append, List.nodup_append]
    refine ⟨hnd, by simp, fun a ha b hb => ?_⟩
    obtain ⟨z, hz, rfl⟩ := List.mem_map.1 ha
    simp at hb
    rw [hb]; exact hf z hz
  · rcases List.mem_append.1 hz with hz | hz
    · rw [belowN_app, belowN_far (fun e => hf z hz e.symm), List.append_nil]
      exact hin z hz
    · rw [List.mem_singleton.1 hz]
      rw [belowN_app, belowN_low, hbn]
      exact hN
theorem here_len : ∀ l : NL, (hereN l).length ≤ l.length
  | [] => by simp [hereN]
  | x :: l => by
    have := here_len l
    unfold hereN at this ⊢
    rw [List.filterMap_cons]
    split <;> simp <;> omega
theorem below_len : ∀ (l : NL) (n : ByteArray), (belowN l n).length ≤ l.length
  | [], n => by simp [belowN]
  | x :: l, n => by
    have := below_len l n
    unfold belowN at this ⊢
    rw [List.filterMap_cons]
    split <;> simp <;> omega
theorem MK0 : MK [] #[] 0 := MapOk.nil
theorem nodeN {l : NL} {ws : List On} {ks : List Kid} {t : TypeId} {ex : List AV} {g g' gm Cp' : Nat} {mv : AV} {om : AObj} (o : On) (hws : ws.Perm (hereN l)) (hm : KidsV ks mv gm om) (hk : ∀ n, (∃ x ∈ ks, x.1 = n) ↔ belowN l n ≠ []) (hnd : (ks.map (·.1)).Nodup)
    (hin : ∀ x ∈ ks, IsN tI [] (belowN l x.1) x.2.1 x.2.2) : IsN t ex (l ++ [([], o)]) g (nodeL t ex g mv (.sl 2 g' Cp' (ws ++ [o]).length) gm g' om (.row tH 5 Cp' ((ws ++ [o]).map encH)) ks) := by
  have hb : ∀ n, belowN (l ++ [([], o)]) n = belowN l n := fun n => by rw [belowN_app, belowN_one, List.append_nil]
  refine .mk t ex _ g _ _ gm g' om _ (ws ++ [o]) ks (.inr ⟨Cp', rfl, rfl⟩) ?_ hm (fun n => by rw [hb]; exact hk n) hnd (fun x hx => by rw [hb]; exact hin x hx)
  rw [hereN_app, hereN_one]
  exact hws.append_right _
theorem nodeN' {l : NL} {ws : List On} {ks : List Kid} {t : TypeId} {ex : List AV} {g g' gm Cp' : Nat} {mv : AV} {om : AObj} (o : On) (hws : ws.Perm (hereN l)) (hm : KidsV ks mv gm om) (hk : ∀ n, (∃ x ∈ ks, x.1 = n) ↔ belowN l n ≠ []) (hnd : (ks.map (·.1)).Nodup)
    (hin : ∀ x ∈ ks, IsN tI [] (belowN l x.1) x.2.1 x.2.2) : IsN t ex (l ++ [([], o)]) g (nodeL t ex g mv (.sl 2 g' Cp' ((ws.map encH).length + 1)) gm g' om (.row tH 5 Cp' (ws.map encH ++ [encH o])) ks) := by
  have e1 : (ws.map encH).length + 1 = (ws ++ [o]).length := by simp
  have e2 : ws.map encH ++ [encH o] = (ws ++ [o]).map encH := by simp
  rw [e1, e2]
  exact nodeN o hws hm hk hnd hin
theorem addNilI (l : NL) (g : Nat) (H : AHeap) (hN : IsN tI [] l g H) (o : On) (hl : l.length ≤ 1000) :
    FnSpec C 34 [.ptr 0 g 0, rds [], encH o] [(0, boxL H)] (fun r L' => ∃ H', IsN tI [] (l ++ [([], o)]) g H' ∧ r = .tuple [] ∧ L' = [(0, boxL H')]) := by
  obtain ⟨_, _, _, _, mv, wv, gm, gw, om, ow, ws, ks, hw, hws, hm, hk, hnd, hin⟩ := hN
  refine FnSpec.imp (.unbox _ _) ?_
  refine FnSpec.start C_ok Tryd.func34 rfl rfl Tryd.ntmps34 ?_
  repeat(first|refine Sc ?_|refine fun(_:Nat)=>?_)
  refine ⟨fun _ => ?_, fun h => absurd rfl h⟩
  repeat(first|refine Sc ?_|refine fun(_:Nat)=>?_)
  rcases hw with ⟨rfl, rfl, rfl⟩ | ⟨Cp, rfl, rfl⟩
  · refine Run.drawnA C_ok (aopC_sound C_ok) [0, 4] [7, 8, 9, 10] [0, 1, 2, 3, 4, 5, 6] (by kernel_rfl) (by kernel_rfl) ?_
    repeat(first|refine Sc ?_|refine fun(_:Nat)=>?_)
    refine ⟨fun h => absurd h (List.cons_ne_nil _ _), fun _ => ?_⟩
    repeat(first|refine Sc ?_|refine fun(_:Nat)=>?_)
    rename_i g' Cp'
    exact ⟨.tuple [], [(0, boxL (nodeL tI [] g mv (.sl 2 g' Cp' 1) gm g' om (.row tH 5 Cp' (([] ++ [o]).map encH)) ks))], (FinOk.keepS _ [0, 1, 6, 3] (Sub.refl _) (by decide) rfl (show SubL _ (nodeL tI [] g mv (.sl 2 g' Cp' 1) gm g' om (.row tH 5 Cp' (([] ++ [o]).map encH)) ks) from by repeat(first|exact trivial|refine Zy rfl ?_|refine Zy (SubO.refl _) ?_|refine Zy trivial ?_|refine Zy (SubO.cells (by repeat(first|exact trivial|refine Zy (Sub.refl _) ?_|refine Zy (Sub.sl _ _ _ _ _) ?_|refine Zy (Sub.ptr _ _ _ _) ?_))) ?_))).trans (FinOk.imp _ (.box 0 _)), _, nodeN o hws hm hk hnd hin, rfl, rfl⟩
  · refine Run.drawnA C_ok (aopC_sound C_ok) [0, 4] [7, 8, 9, 10] [0, 1, 2, 3, 4, 5, 6] (by kernel_rfl) (by kernel_rfl) ?_
    repeat(first|refine Sc ?_|refine fun(_:Nat)=>?_)
    refine ⟨by simp, ?_⟩
    repeat(first|refine Sc ?_|refine fun(_:Nat)=>?_)
    refine ⟨show ((ws.map encH).length + 1) * 48 ≤ 140737488355328 by rw [List.length_map, hws.length_eq]; have := here_len l; omega, ?_⟩
    repeat(first|refine Sc ?_|refine fun(_:Nat)=>?_)
    rename_i g' Cp'
    exact ⟨.tuple [], [(0, boxL (nodeL tI [] g mv (.sl 2 g' Cp' ((ws.map encH).length + 1)) gm g' om (.row tH 5 Cp' (ws.map encH ++ [encH o])) ks))], (FinOk.keepS _ [0, 1, 2, 3] (Sub.refl _) (by decide) rfl (show SubL _ (nodeL tI [] g mv (.sl 2 g' Cp' ((ws.map encH).length + 1)) gm g' om (.row tH 5 Cp' (ws.map encH ++ [encH o])) ks) from by repeat(first|exact trivial|refine Zy rfl ?_|refine Zy (SubO.refl _) ?_|refine Zy trivial ?_|refine Zy (SubO.cells (by repeat(first|exact trivial|refine Zy (Sub.refl _) ?_|refine Zy (Sub.sl _ _ _ _ _) ?_|refine Zy (Sub.ptr _ _ _ _) ?_))) ?_))).trans (FinOk.imp _ (.box 0 _)), _, nodeN' o hws hm hk hnd hin, rfl, rfl⟩
set_option maxHeartbeats 4000000 in
theorem addConsI (n : ByteArray) (names : List ByteArray) (hn : names.length ≤ 99) (ih : ∀ (l : NL) (g : Nat) (H : AHeap), IsN tI [] l g H → ∀ (o : On), l.length ≤ 1000 → FnSpec C 34 [.ptr 0 g 0, rds names, encH o] [(0, boxL H)] (fun r L' => ∃ H', IsN tI [] (l ++ [(names, o)]) g H' ∧ r = .tuple [] ∧ L' = [(0, boxL H')]))
    (l : NL) (g : Nat) (H : AHeap) (hN : IsN tI [] l g H) (o : On) (hl : l.length ≤ 1000) :
    FnSpec C 34 [.ptr 0 g 0, rds (n :: names), encH o] [(0, boxL H)] (fun r L' => ∃ H', IsN tI [] (l ++ [(n :: names, o)]) g H' ∧ r = .tuple [] ∧ L' = [(0, boxL H')]) := by
  obtain ⟨_, _, _, _, mv, wv, gm, gw, om, ow, ws, ks, hw, hws, hm, hk, hnd, hin⟩ := hN
  refine FnSpec.imp (.unbox _ _) ?_
  refine FnSpec.start C_ok Tryd.func34 rfl rfl Tryd.ntmps34 ?_
  repeat(first|refine Sc ?_|refine fun(_:Nat)=>?_)
  refine ⟨fun h => absurd h (show ¬ (((n :: names).length : Nat) : Int) = 0 by rw [List.length_cons]; omega), fun _ => ?_⟩
  have hrd : AV.ro 1 (List.drop (Int.toNat 1) (AV.str n :: List.map AV.str names)) ((((n :: names).length : Nat) : Int) - 1).toNat = rds names := by
    rw [List.length_cons, show (((names.length + 1 : Nat) : Int) - 1).toNat = names.length by omega]; rfl
  have hpos : (0 : Int) < (((n :: names).length : Nat) : Int) := by rw [List.length_cons]; omega
  repeat(first|refine Sc ?_|refine fun(_:Nat)=>?_)
  rcases hm with ⟨rfl, rfl, rfl⟩ | ⟨rfl, es, cl, rfl, hm⟩
  · refine Run.drawnK C_ok (aopC_sound C_ok) [0] [0, 1, 2, 3, 4, 5, 6, 7, 8] (by kernel_rfl) ?_
    repeat(first|refine Sc ?_|refine fun(_:Nat)=>?_)
    refine ⟨hpos, ?_⟩
    repeat(first|refine Sc ?_|refine fun(_:Nat)=>?_)
    refine ⟨.str n, rfl, ?_⟩
    repeat(first|refine Sc ?_|refine fun(_:Nat)=>?_)
    rename_i gh gk gm'
    refine Run.drawnK C_ok (aopC_sound C_ok) [0] [0, 1, 2, 3, 4, 5, 6, 7, 8] (by kernel_rfl) ?_
    repeat(first|refine Sc ?_|refine fun(_:Nat)=>?_)
    refine ⟨hpos, ?_⟩
    repeat(first|refine Sc ?_|refine fun(_:Nat)=>?_)
    refine ⟨.str n, rfl, ?_⟩
    repeat(first|refine Sc ?_|refine fun(_:Nat)=>?_)
    refine ⟨6, #[], 0, none, rfl, MK0.none n (by simp), ?_⟩
    repeat(first|refine Za ?_|refine Zb ?_|refine Zd rfl ?_|refine Ze ?_|refine Zy rfl ?_|refine Z2 rfl ?_|refine Z3 ?_|refine fun(_:Nat)=>?_|refine Run.goN rfl ?_|refine Zo rfl ?_)
    refine Run.weak1 C_ok (Weak.imp (Subs.refl _) (Imp.trans (Imp.sel _ (ks := [0, 6, 2, 3, 4, 5]) (by decide)) (Imp.app (L := _ :: _ :: _ :: _ :: [_]) (.refl _) (Imp.fresh gk)))) ?_
    refine Run.drawnK C_ok (aopC_sound C_ok) [4] [0, 1, 2, 3, 4] (by kernel_rfl) ?_
    repeat(first|refine Sc ?_|refine fun(_:Nat)=>?_)
    refine ⟨show (1 : Int) ≤ _ by omega, ?_⟩
    repeat(first|refine Sc ?_|refine fun(_:Nat)=>?_)
    refine ⟨by rw [List.length_map]; omega, ?_⟩
    repeat(first|refine Sc ?_|refine fun(_:Nat)=>?_)
    refine ACallT.ok (ACall.sel [5] (by decide) [.ptr 0 gk 0, rds names, encH o] _ ⟨Sub.ptr _ _ _ _, hrd ▸ Sub.refl _, Sub.refl _, trivial⟩ (ih [] gk _ (IsN.none gk) o (by simp)) ?_)
    rintro r L' ⟨H', hN', rfl, rfl⟩
    refine ⟨_, Sub.refl _, ?_⟩
    repeat(first|refine Sc ?_|refine fun(_:Nat)=>?_)
    exact ⟨.tuple [], [(0, boxL (nodeL tI [] g (.any (.map (some gm'))) wv gm' gw (.obj (.map (#[].push { key := Value.string n, val := Value.pointer (some ⟨gk, 0, none⟩), born := 0 }) (0 + 1))) ow ([] ++ [(n, gk, H')])))], (FinOk.keep _ [0, 1, 2, 3, 5] (Sub.refl _) (by decide) rfl).trans (FinOk.imp _ (Imp.close (by rw [List.map_append]; exact Imp.refl _))), _, nodeNew (gm := gm') (gk := gk) (H' := H') hw hws (by simp) (.inr ⟨rfl, _, _, rfl, MK0.push (y := (n, gk, H')) (by simp)⟩) hk hnd hin hN', rfl, rfl⟩
  · by_cases hin2 : ∃ x ∈ ks, x.1 = n
    · obtain ⟨x, hx, rfl⟩ := hin2
      obtain ⟨i, hi⟩ := List.mem_iff_getElem?.1 hx
      refine Run.drawnK C_ok (aopC_sound C_ok) [0, 1] [0, 1, 2, 3, 4, 5, 6, 7, 8] (by kernel_rfl) ?_
      repeat(first|refine Sc ?_|refine fun(_:Nat)=>?_)
      refine ⟨hpos, ?_⟩
      repeat(first|refine Sc ?_|refine fun(_:Nat)=>?_)
      refine ⟨.str x.1, rfl, ?_⟩
      repeat(first|refine Sc ?_|refine fun(_:Nat)=>?_)
      refine ⟨1, es, cl, some (i, valK x), by decide, rfl, hm.hit u9 keyKS hi, ?_⟩
      repeat(first|refine Sc ?_|refine fun(_:Nat)=>?_)
      refine ⟨.ptr 5 x.2.1 0, rfl, ?_⟩
      repeat(first|refine Sc ?_|refine fun(_:Nat)=>?_)
      refine Run.weak1 C_ok (Weak.imp (Subs.refl _) (Imp.pick (k := 3) rfl (Imp.kid_out hi))) ?_
      refine Run.drawnK C_ok (aopC_sound C_ok) [4] [0, 1, 2, 3, 4] (by kernel_rfl) ?_
      repeat(first|refine Sc ?_|refine fun(_:Nat)=>?_)
      refine ⟨show (1 : Int) ≤ _ by omega, ?_⟩
      repeat(first|refine Sc ?_|refine fun(_:Nat)=>?_)
      refine ⟨by rw [List.length_map]; omega, ?_⟩
      repeat(first|refine Sc ?_|refine fun(_:Nat)=>?_)
      refine ACallT.ok (ACall.sel [5] (by decide) [.ptr 0 x.2.1 0, rds names, encH o] _ ⟨Sub.ptr _ _ _ _, hrd ▸ Sub.refl _, Sub.refl _, trivial⟩ (ih _ _ _ (hin x hx) o (Nat.le_trans (below_len l x.1) hl)) ?_)
      rintro r L' ⟨H', hN', rfl, rfl⟩
      refine ⟨_, Sub.refl _, ?_⟩
      repeat(first|refine Sc ?_|refine fun(_:Nat)=>?_)
      exact ⟨.tuple [], [(0, boxL (nodeL tI [] g (.any (.map (some gm))) wv gm gw (.obj (.map es cl)) ow (ks.set i (x.1, x.2.1, H'))))], (FinOk.keep _ [0, 1, 2, 3, 5] (Sub.refl _) (by decide) rfl).trans (FinOk.imp _ (Imp.close (Imp.kid (y := (x.1, x.2.1, H')) hi))), _, nodeK (gm := gm) (H' := H') hw hws hi (.inr ⟨rfl, es, cl, rfl, hm.same hi rfl rfl⟩) hk hnd hin hN', rfl, rfl⟩
    · have hf : ∀ x ∈ ks, x.1 ≠ n := fun x hx e => hin2 ⟨x, hx, e⟩
      have hms := hm.none n hf
      refine Run.drawnK C_ok (aopC_sound C_ok) [0, 1] [0, 1, 2, 3, 4, 5, 6, 7, 8] (by kernel_rfl) ?_
      repeat(first|refine Sc ?_|refine fun(_:Nat)=>?_)
      refine ⟨hpos, ?_⟩
      repeat(first|refine Sc ?_|refine fun(_:Nat)=>?_)
      refine ⟨.str n, rfl, ?_⟩
      repeat(first|refine Sc ?_|refine fun(_:Nat)=>?_)
      refine ⟨1, es, cl, none, by decide, rfl, hms, ?_⟩
      repeat(first|refine Sc ?_|refine fun(_:Nat)=>?_)
      rename_i gh gk
      refine Run.drawnK C_ok (aopC_sound C_ok) [0] [0, 1, 2, 3, 4, 5, 6, 7, 8] (by kernel_rfl) ?_
      repeat(first|refine Sc ?_|refine fun(_:Nat)=>?_)
      refine ⟨hpos, ?_⟩
      repeat(first|refine Sc ?_|refine fun(_:Nat)=>?_)
      refine ⟨.str n, rfl, ?_⟩
      repeat(first|refine Sc ?_|refine fun(_:Nat)=>?_)
      refine ⟨1, es, cl, none, rfl, hms, ?_⟩
      repeat(first|refine Za ?_|refine Zb ?_|refine Zd rfl ?_|refine Ze ?_|refine Zy rfl ?_|refine Z2 rfl ?_|refine Z3 ?_|refine fun(_:Nat)=>?_|refine Run.goN rfl ?_|refine Zo rfl ?_)
      refine Run.weak1 C_ok (Weak.imp (Subs.refl _) (Imp.app (L := _ :: _ :: _ :: _ :: [_]) (.refl _) (Imp.fresh gk))) ?_
      refine Run.drawnK C_ok (aopC_sound C_ok) [4] [0, 1, 2, 3, 4] (by kernel_rfl) ?_
      repeat(first|refine Sc ?_|refine fun(_:Nat)=>?_)
      refine ⟨show (1 : Int) ≤ _ by omega, ?_⟩
      repeat(first|refine Sc ?_|refine fun(_:Nat)=>?_)
      refine ⟨by rw [List.length_map]; omega, ?_⟩
      repeat(first|refine Sc ?_|refine fun(_:Nat)=>?_)
      refine ACallT.ok (ACall.sel [5] (by decide) [.ptr 0 gk 0, rds names, encH o] _ ⟨Sub.ptr _ _ _ _, hrd ▸ Sub.refl _, Sub.refl _, trivial⟩ (ih [] gk _ (IsN.none gk) o (by simp)) ?_)
      rintro r L' ⟨H', hN', rfl, rfl⟩
      refine ⟨_, Sub.refl _, ?_⟩
      repeat(first|refine Sc ?_|refine fun(_:Nat)=>?_)
      exact ⟨.tuple [], [(0, boxL (nodeL tI [] g (.any (.map (some gm))) wv gm gw (.obj (.map (es.push { key := Value.string n, val := Value.pointer (some ⟨gk, 0, none⟩), born := cl }) (cl + 1))) ow (ks ++ [(n, gk, H')])))], (FinOk.keep _ [0, 1, 2, 3, 5] (Sub.refl _) (by decide) rfl).trans (FinOk.imp _ (Imp.close (by rw [List.map_append]; exact Imp.refl _))), _, nodeNew (gm := gm) (gk := gk) (H' := H') hw hws hf (.inr ⟨rfl, _, _, rfl, hm.push (y := (n, gk, H')) (fun x hx e => hf x hx (Value.string.inj e))⟩) hk hnd hin hN', rfl, rfl⟩
theorem addNilR (ov : AV) (l : NL) (g : Nat) (H : AHeap) (hN : IsN tT [ov] l g H) (o : On) (hl : l.length ≤ 1000) :
    FnSpec C 34 [.ptr 0 g 0, rds [], encH o] [(0, boxL H)] (fun r L' => ∃ H', IsN tT [ov] (l ++ [([], o)]) g H' ∧ r = .tuple [] ∧ L' = [(0, boxL H')]) := by
  obtain ⟨_, _, _, _, mv, wv, gm, gw, om, ow, ws, ks, hw, hws, hm, hk, hnd, hin⟩ := hN
  refine FnSpec.imp (.unbox _ _) ?_
  refine FnSpec.start C_ok Tryd.func34 rfl rfl Tryd.ntmps34 ?_
  repeat(first|refine Sc ?_|refine fun(_:Nat)=>?_)
  refine ⟨fun _ => ?_, fun h => absurd rfl h⟩
  repeat(first|refine Sc ?_|refine fun(_:Nat)=>?_)
  rcases hw with ⟨rfl, rfl, rfl⟩ | ⟨Cp, rfl, rfl⟩
  · refine Run.drawnA C_ok (aopC_sound C_ok) [0, 4] [7, 8, 9, 10] [0, 1, 2, 3, 4, 5, 6] (by kernel_rfl) (by kernel_rfl) ?_
    repeat(first|refine Sc ?_|refine fun(_:Nat)=>?_)
    refine ⟨fun h => absurd h (List.cons_ne_nil _ _), fun _ => ?_⟩
    repeat(first|refine Sc ?_|refine fun(_:Nat)=>?_)
    rename_i g' Cp'
    exact ⟨.tuple [], [(0, boxL (nodeL tT [ov] g mv (.sl 2 g' Cp' 1) gm g' om (.row tH 5 Cp' (([] ++ [o]).map encH)) ks))], (FinOk.keepS _ [0, 1, 6, 3] (Sub.refl _) (by decide) rfl (show SubL _ (nodeL tT [ov] g mv (.sl 2 g' Cp' 1) gm g' om (.row tH 5 Cp' (([] ++ [o]).map encH)) ks) from by repeat(first|exact trivial|refine Zy rfl ?_|refine Zy (SubO.refl _) ?_|refine Zy trivial ?_|refine Zy (SubO.cells (by repeat(first|exact trivial|refine Zy (Sub.refl _) ?_|refine Zy (Sub.sl _ _ _ _ _) ?_|refine Zy (Sub.ptr _ _ _ _) ?_))) ?_))).trans (FinOk.imp _ (.box 0 _)), _, nodeN o hws hm hk hnd hin, rfl, rfl⟩
  · refine Run.drawnA C_ok (aopC_sound C_ok) [0, 4] [7, 8, 9, 10] [0, 1, 2, 3, 4, 5, 6] (by kernel_rfl) (by kernel_rfl) ?_
    repeat(first|refine Sc ?_|refine fun(_:Nat)=>?_)
    refine ⟨by simp, ?_⟩
    repeat(first|refine Sc ?_|refine fun(_:Nat)=>?_)
    refine ⟨show ((ws.map encH).length + 1) * 48 ≤ 140737488355328 by rw [List.length_map, hws.length_eq]; have := here_len l; omega, ?_⟩
    repeat(first|refine Sc ?_|refine fun(_:Nat)=>?_)
    rename_i g' Cp'
    exact ⟨.tuple [], [(0, boxL (nodeL tT [ov] g mv (.sl 2 g' Cp' ((ws.map encH).length + 1)) gm g' om (.row tH 5 Cp' (ws.map encH ++ [encH o])) ks))], (FinOk.keepS _ [0, 1, 2, 3] (Sub.refl _) (by decide) rfl (show SubL _ (nodeL tT [ov] g mv (.sl 2 g' Cp' ((ws.map encH).length + 1)) gm g' om (.row tH 5 Cp' (ws.map encH ++ [encH o])) ks) from by repeat(first|exact trivial|refine Zy rfl ?_|refine Zy (SubO.refl _) ?_|refine Zy trivial ?_|refine Zy (SubO.cells (by repeat(first|exact trivial|refine Zy (Sub.refl _) ?_|refine Zy (Sub.sl _ _ _ _ _) ?_|refine Zy (Sub.ptr _ _ _ _) ?_))) ?_))).trans (FinOk.imp _ (.box 0 _)), _, nodeN' o hws hm hk hnd hin, rfl, rfl⟩
set_option maxHeartbeats 4000000 in
theorem addConsR (ov : AV) (n : ByteArray) (names : List ByteArray) (hn : names.length ≤ 99) (ih : ∀ (l : NL) (g : Nat) (H : AHeap), IsN tI [] l g H → ∀ (o : On), l.length ≤ 1000 → FnSpec C 34 [.ptr 0 g 0, rds names, encH o] [(0, boxL H)] (fun r L' => ∃ H', IsN tI [] (l ++ [(names, o)]) g H' ∧ r = .tuple [] ∧ L' = [(0, boxL H')]))
    (l : NL) (g : Nat) (H : AHeap) (hN : IsN tT [ov] l g H) (o : On) (hl : l.length ≤ 1000) :
    FnSpec C 34 [.ptr 0 g 0, rds (n :: names), encH o] [(0, boxL H)] (fun r L' => ∃ H', IsN tT [ov] (l ++ [(n :: names, o)]) g H' ∧ r = .tuple [] ∧ L' = [(0, boxL H')]) := by
  obtain ⟨_, _, _, _, mv, wv, gm, gw, om, ow, ws, ks, hw, hws, hm, hk, hnd, hin⟩ := hN
  refine FnSpec.imp (.unbox _ _) ?_
  refine FnSpec.start C_ok Tryd.func34 rfl rfl Tryd.ntmps34 ?_
  repeat(first|refine Sc ?_|refine fun(_:Nat)=>?_)
  refine ⟨fun h => absurd h (show ¬ (((n :: names).length : Nat) : Int) = 0 by rw [List.length_cons]; omega), fun _ => ?_⟩
  have hrd : AV.ro 1 (List.drop (Int.toNat 1) (AV.str n :: List.map AV.str names)) ((((n :: names).length : Nat) : Int) - 1).toNat = rds names := by
    rw [List.length_cons, show (((names.length + 1 : Nat) : Int) - 1).toNat = names.length by omega]; rfl
  have hpos : (0 : Int) < (((n :: names).length : Nat) : Int) := by rw [List.length_cons]; omega
  repeat(first|refine Sc ?_|refine fun(_:Nat)=>?_)
  rcases hm with ⟨rfl, rfl, rfl⟩ | ⟨rfl, es, cl, rfl, hm⟩
  · refine Run.drawnK C_ok (aopC_sound C_ok) [0] [0, 1, 2, 3, 4, 5, 6, 7, 8] (by kernel_rfl) ?_
    repeat(first|refine Sc ?_|refine fun(_:Nat)=>?_)
    refine ⟨hpos, ?_⟩
    repeat(first|refine Sc ?_|refine fun(_:Nat)=>?_)
    refine ⟨.str n, rfl, ?_⟩
    repeat(first|refine Sc ?_|refine fun(_:Nat)=>?_)
    rename_i gh gk gm'
    refine Run.drawnK C_ok (aopC_sound C_ok) [0] [0, 1, 2, 3, 4, 5, 6, 7, 8] (by kernel_rfl) ?_
    repeat(first|refine Sc ?_|refine fun(_:Nat)=>?_)
    refine ⟨hpos, ?_⟩
    repeat(first|refine Sc ?_|refine fun(_:Nat)=>?_)
    refine ⟨.str n, rfl, ?_⟩
    repeat(first|refine Sc ?_|refine fun(_:Nat)=>?_)
    refine ⟨6, #[], 0, none, rfl, MK0.none n (by simp), ?_⟩
    repeat(first|refine Za ?_|refine Zb ?_|refine Zd rfl ?_|refine Ze ?_|refine Zy rfl ?_|refine Z2 rfl ?_|refine Z3 ?_|refine fun(_:Nat)=>?_|refine Run.goN rfl ?_|refine Zo rfl ?_)
    refine Run.weak1 C_ok (Weak.imp (Subs.refl _) (Imp.trans (Imp.sel _ (ks := [0, 6, 2, 3, 4, 5]) (by decide)) (Imp.app (L := _ :: _ :: _ :: _ :: [_]) (.refl _) (Imp.fresh gk)))) ?_
    refine Run.drawnK C_ok (aopC_sound C_ok) [4] [0, 1, 2, 3, 4] (by kernel_rfl) ?_
    repeat(first|refine Sc ?_|refine fun(_:Nat)=>?_)
    refine ⟨show (1 : Int) ≤ _ by omega, ?_⟩
    repeat(first|refine Sc ?_|refine fun(_:Nat)=>?_)
    refine ⟨by rw [List.length_map]; omega, ?_⟩
    repeat(first|refine Sc ?_|refine fun(_:Nat)=>?_)
    refine ACallT.ok (ACall.sel [5] (by decide) [.ptr 0 gk 0, rds names, encH o] _ ⟨Sub.ptr _ _ _ _, hrd ▸ Sub.refl _, Sub.refl _, trivial⟩ (ih [] gk _ (IsN.none gk) o (by simp)) ?_)
    rintro r L' ⟨H', hN', rfl, rfl⟩
    refine ⟨_, Sub.refl _, ?_⟩
    repeat(first|refine Sc ?_|refine fun(_:Nat)=>?_)
    exact ⟨.tuple [], [(0, boxL (nodeL tT [ov] g (.any (.map (some gm'))) wv gm' gw (.obj (.map (#[].push { key := Value.string n, val := Value.pointer (some ⟨gk, 0, none⟩), born := 0 }) (0 + 1))) ow ([] ++ [(n, gk, H')])))], (FinOk.keep _ [0, 1, 2, 3, 5] (Sub.refl _) (by decide) rfl).trans (FinOk.imp _ (Imp.close (by rw [List.map_append]; exact Imp.refl _))), _, nodeNew (gm := gm') (gk := gk) (H' := H') hw hws (by simp) (.inr ⟨rfl, _, _, rfl, MK0.push (y := (n, gk, H')) (by simp)⟩) hk hnd hin hN', rfl, rfl⟩
  · by_cases hin2 : ∃ x ∈ ks, x.1 = n
    · obtain ⟨x, hx, rfl⟩ := hin2
      obtain ⟨i, hi⟩ := List.mem_iff_getElem?.1 hx
      refine Run.drawnK C_ok (aopC_sound C_ok) [0, 1] [0, 1, 2, 3, 4, 5, 6, 7, 8] (by kernel_rfl) ?_
      repeat(first|refine Sc ?_|refine fun(_:Nat)=>?_)
      refine ⟨hpos, ?_⟩
      repeat(first|refine Sc ?_|refine fun(_:Nat)=>?_)
      refine ⟨.str x.1, rfl, ?_⟩
      repeat(first|refine Sc ?_|refine fun(_:Nat)=>?_)
      refine ⟨1, es, cl, some (i, valK x), by decide, rfl, hm.hit u9 keyKS hi, ?_⟩
      repeat(first|refine Sc ?_|refine fun(_:Nat)=>?_)
      refine ⟨.ptr 5 x.2.1 0, rfl, ?_⟩
      repeat(first|refine Sc ?_|refine fun(_:Nat)=>?_)
      refine Run.weak1 C_ok (Weak.imp (Subs.refl _) (Imp.pick (k := 3) rfl (Imp.kid_out hi))) ?_
      refine Run.drawnK C_ok (aopC_sound C_ok) [4] [0, 1, 2, 3, 4] (by kernel_rfl) ?_
      repeat(first|refine Sc ?_|refine fun(_:Nat)=>?_)
      refine ⟨show (1 : Int) ≤ _ by omega, ?_⟩
      repeat(first|refine Sc ?_|refine fun(_:Nat)=>?_)
      refine ⟨by rw [List.length_map]; omega, ?_⟩
      repeat(first|refine Sc ?_|refine fun(_:Nat)=>?_)
      refine ACallT.ok (ACall.sel [5] (by decide) [.ptr 0 x.2.1 0, rds names, encH o] _ ⟨Sub.ptr _ _ _ _, hrd ▸ Sub.refl _, Sub.refl _, trivial⟩ (ih _ _ _ (hin x hx) o (Nat.le_trans (below_len l x.1) hl)) ?_)
      rintro r L' ⟨H', hN', rfl, rfl⟩
      refine ⟨_, Sub.refl _, ?_⟩
      repeat(first|refine Sc ?_|refine fun(_:Nat)=>?_)
      exact ⟨.tuple [], [(0, boxL (nodeL tT [ov] g (.any (.map (some gm))) wv gm gw (.obj (.map es cl)) ow (ks.set i (x.1, x.2.1, H'))))], (FinOk.keep _ [0, 1, 2, 3, 5] (Sub.refl _) (by decide) rfl).trans (FinOk.imp _ (Imp.close (Imp.kid (y := (x.1, x.2.1, H')) hi))), _, nodeK (gm := gm) (H' := H') hw hws hi (.inr ⟨rfl, es, cl, rfl, hm.same hi rfl rfl⟩) hk hnd hin hN', rfl, rfl⟩
    · have hf : ∀ x ∈ ks, x.1 ≠ n := fun x hx e => hin2 ⟨x, hx, e⟩
      have hms := hm.none n hf
      refine Run.drawnK C_ok (aopC_sound C_ok) [0, 1] [0, 1, 2, 3, 4, 5, 6, 7, 8] (by kernel_rfl) ?_
      repeat(first|refine Sc ?_|refine fun(_:Nat)=>?_)
      refine ⟨hpos, ?_⟩
      repeat(first|refine Sc ?_|refine fun(_:Nat)=>?_)
      refine ⟨.str n, rfl, ?_⟩
      repeat(first|refine Sc ?_|refine fun(_:Nat)=>?_)
      refine ⟨1, es, cl, none, by decide, rfl, hms, ?_⟩
      repeat(first|refine Sc ?_|refine fun(_:Nat)=>?_)
      rename_i gh gk
      refine Run.drawnK C_ok (aopC_sound C_ok) [0] [0, 1, 2, 3, 4, 5, 6, 7, 8] (by kernel_rfl) ?_
      repeat(first|refine Sc ?_|refine fun(_:Nat)=>?_)
      refine ⟨hpos, ?_⟩
      repeat(first|refine Sc ?_|refine fun(_:Nat)=>?_)
      refine ⟨.str n, rfl, ?_⟩
      repeat(first|refine Sc ?_|refine fun(_:Nat)=>?_)
      refine ⟨1, es, cl, none, rfl, hms, ?_⟩
      repeat(first|refine Za ?_|refine Zb ?_|refine Zd rfl ?_|refine Ze ?_|refine Zy rfl ?_|refine Z2 rfl ?_|refine Z3 ?_|refine fun(_:Nat)=>?_|refine Run.goN rfl ?_|refine Zo rfl ?_)
      refine Run.weak1 C_ok (Weak.imp (Subs.refl _) (Imp.app (L := _ :: _ :: _ :: _ :: [_]) (.refl _) (Imp.fresh gk))) ?_
      refine Run.drawnK C_ok (aopC_sound C_ok) [4] [0, 1, 2, 3, 4] (by kernel_rfl) ?_
      repeat(first|refine Sc ?_|refine fun(_:Nat)=>?_)
      refine ⟨show (1 : Int) ≤ _ by omega, ?_⟩
      repeat(first|refine Sc ?_|refine fun(_:Nat)=>?_)
      refine ⟨by rw [List.length_map]; omega, ?_⟩
      repeat(first|refine Sc ?_|refine fun(_:Nat)=>?_)
      refine ACallT.ok (ACall.sel [5] (by decide) [.ptr 0 gk 0, rds names, encH o] _ ⟨Sub.ptr _ _ _ _, hrd ▸ Sub.refl _, Sub.refl _, trivial⟩ (ih [] gk _ (IsN.none gk) o (by simp)) ?_)
      rintro r L' ⟨H', hN', rfl, rfl⟩
      refine ⟨_, Sub.refl _, ?_⟩
      repeat(first|refine Sc ?_|refine fun(_:Nat)=>?_)
      exact ⟨.tuple [], [(0, boxL (nodeL tT [ov] g (.any (.map (some gm))) wv gm gw (.obj (.map (es.push { key := Value.string n, val := Value.pointer (some ⟨gk, 0, none⟩), born := cl }) (cl + 1))) ow (ks ++ [(n, gk, H')])))], (FinOk.keep _ [0, 1, 2, 3, 5] (Sub.refl _) (by decide) rfl).trans (FinOk.imp _ (Imp.close (by rw [List.map_append]; exact Imp.refl _))), _, nodeNew (gm := gm) (gk := gk) (H' := H') hw hws hf (.inr ⟨rfl, _, _, rfl, hm.push (y := (n, gk, H')) (fun x hx e => hf x hx (Value.string.inj e))⟩) hk hnd hin hN', rfl, rfl⟩
theorem addI : ∀ (names : List ByteArray), names.length ≤ 100 → ∀ (l : NL) (g : Nat) (H : AHeap), IsN tI [] l g H → ∀ (o : On), l.length ≤ 1000 →
    FnSpec C 34 [.ptr 0 g 0, rds names, encH o] [(0, boxL H)] (fun r L' => ∃ H', IsN tI [] (l ++ [(names, o)]) g H' ∧ r = .tuple [] ∧ L' = [(0, boxL H')])
  | [], _, l, g, H, hN, o, hl => addNilI l g H hN o hl
  | n :: names, hn, l, g, H, hN, o, hl => addConsI n names (by simp at hn; omega) (addI names (by simp at hn; omega)) l g H hN o hl
theorem addR (ov : AV) (names : List ByteArray) (hn : names.length ≤ 100) (l : NL) (g : Nat) (H : AHeap) (hN : IsN tT [ov] l g H) (o : On) (hl : l.length ≤ 1000) :
    FnSpec C 34 [.ptr 0 g 0, rds names, encH o] [(0, boxL H)] (fun r L' => ∃ H', IsN tT [ov] (l ++ [(names, o)]) g H' ∧ r = .tuple [] ∧ L' = [(0, boxL H')]) := by
  cases names with
  | nil => exact addNilR ov l g H hN o hl
  | cons n names => exact addConsR ov n names (by simp at hn; omega) (addI names (by simp at hn; omega)) l g H hN o hl
end Go.Proofs.YtgpbppkmmlclfaaDoor.HBT
