/- Ranges over functions: the statement; a function that holds one. -/
import Derived.Test.YtgpbppkmmlclfaaDoorHbZe
import Derived.Shelf.SlGeneric
import Derived.Shelf.SlSortCmp.NoneTotal
import Derived.Ground.SlsfProg
import Derived.Shelf.Small.Bits
import Derived.Shelf.Small.Wraps
import Derived.Shelf.Utf8.RuneCount
import Derived.Shelf.Strconv.Itoa0
import Derived.Shelf.Strings.Search1
import Derived.Shelf.Strings.Search2
import Derived.Shelf.Strings.Search3
import Derived.Shelf.Strings.Count
import Derived.Shelf.LaysM
import Derived.Shelf.Strings.Shaped
import Derived.Shelf.Strings.Prefix
import Derived.Shelf.Strings.Split
import Derived.Shelf.Strings.SplitShaped
import Derived.Shelf.Unicode.Decode
import Derived.Shelf.Strings.RuneCount
import Derived.Shelf.Strings.Explode
import Derived.Shelf.Unicode.DecodeSlow
import Derived.Shelf.Unicode.DecodeAny
import Derived.Ground.Names2Prog
import Derived.Shelf.Slices.SearchI
import Derived.Test.YtgpbppkmmlclfaaDoorProg
namespace Go.Proofs.YtgpbppkmmlclfaaDoor.HB
open Go

theorem frame_sat {D : Prop} {imm imm' : Nat → Prop} {w w' : World} {Lc Lr Lc' : AHeap} (hs : Sat imm w (Lc ++ Lr)) (hs' : Sat imm' w' Lc') (ht : Tr D (Own Lc) imm w (Own Lc') imm' w') :
    Sat imm' w' (Lc' ++ Lr) ∧ Tr D (Own (Lc ++ Lr)) imm w (Own (Lc' ++ Lr)) imm' w' := by
  obtain ⟨hc, hr, hd⟩ := (satC_app _ _ _ _).1 hs.core
  have hltr : ∀ i, Own Lr i → i < w.heap.size := fun i hi => hs.lt i ((own_app _ _ _).2 (.inr hi))
  have hnr : ∀ i, Own Lr i → ¬ Own Lc i := fun i hi h => hd i h hi
  have hnr' : ∀ i, Own Lr i → ¬ Own Lc' i := fun i hi h => (ht.own2 i h).elim (hnr i hi) (by have := hltr i hi; omega)
  have hfix : ∀ i, Own Lr i → w'.heap[i]? = w.heap[i]? := fun i hi => ht.block i (hltr i hi) (hnr i hi)
  have hifix : ∀ i, imm i → w'.heap[i]? = w.heap[i]? := ht.immblock (fun i hi => hs.far i ((own_app _ _ _).2 (.inl hi))) hs.immlt
  have hr' : SatC imm' w' Lr := ⟨fun k g o hk ho => (hr.holds k g o hk ho).mono ht.imm1 hifix (fun i hi => hfix i ⟨k, g, o, hk, hi⟩), hr.apart⟩
  have hall : SatC imm' w' (Lc' ++ Lr) := (satC_app _ _ _ _).2 ⟨hs'.core, hr', fun i h1 h2 => hnr' i h2 h1⟩
  refine ⟨⟨hall.holds, hall.apart, fun i hi => ?_, fun i hi => ?_, hs'.immlt⟩, ⟨ht.drawn, ht.os, ht.tape, ht.output, ht.size, fun i hi ho => ht.block i hi fun h => ho ((own_app _ _ _).2 (.inl h)), ht.imm1, fun i hi => ?_, fun i hi => ?_⟩⟩
  · rcases (own_app _ _ _).1 hi with h | h
    · exact hs'.far i h
    · intro hm
      rcases ht.imm2 i hm with h2 | h2 | h2
      · exact hs.far i ((own_app _ _ _).2 (.inr h)) h2
      · exact hnr i h h2
      · have := hltr i h; omega
  · rcases (own_app _ _ _).1 hi with h | h
    · exact hs'.lt i h
    · exact Nat.lt_of_lt_of_le (hltr i h) ht.size
  · rcases ht.imm2 i hi with h | h | h
    · exact .inl h
    · exact .inr (.inl ((own_app _ _ _).2 (.inl h)))
    · exact .inr (.inr h)
  · rcases (own_app _ _ _).1 hi with h | h
    · exact (ht.own2 i h).imp (fun h => (own_app _ _ _).2 (.inl h)) id
    · exact .inl ((own_app _ _ _).2 (.inr h))
theorem Imp.split (L : AHeap) {ks : List Nat} (hnd : ks.Nodup) : Imp L (selL L ks ++ restL L ks) := by
  have sel : ∀ imm w, SatC imm w L → SatC imm w (selL L ks) := fun imm w hs => by
    refine ⟨fun j g o hj ho => ?_, fun j j' g g' i o o' h1 l1 h2 l2 => ?_⟩
    · obtain ⟨k, _, hk⟩ := selL_live hj ho
      exact hs.holds k g o hk ho
    · obtain ⟨k, e1, hk⟩ := selL_live h1 l1.live
      obtain ⟨k', e2, hk'⟩ := selL_live h2 l2.live
      have := hs.apart k k' g g' i o o' hk l1 hk' l2
      subst this
      have hj : j < ks.length := (List.getElem?_eq_some_iff.1 e1).1
      exact (List.getElem?_inj hj hnd).1 (e1.trans e2.symm)
  have rest : ∀ imm w, SatC imm w L → SatC imm w (restL L ks) := fun imm w hs =>
    ⟨fun j g o hj ho => hs.holds j g o (restL_live hj ho).2 ho, fun j j' g g' i o o' h1 l1 h2 l2 => hs.apart j j' g g' i o o' (restL_live h1 l1.live).2 l1 (restL_live h2 l2.live).2 l2⟩
  refine ⟨fun i hi => ?_, fun imm w hs => (satC_app _ _ _ _).2 ⟨sel imm w hs, rest imm w hs, fun i h1 h2 => ?_⟩⟩
  · rcases (own_app _ _ _).1 hi with h | h
    · obtain ⟨k, g, o, _, hk, ho⟩ := own_selL h
      exact ⟨k, g, o, hk, ho⟩
    · obtain ⟨k, g, o, _, hk, ho⟩ := own_restL h
      exact ⟨k, g, o, hk, ho⟩
  · obtain ⟨k, g, o, hk, hl, ho⟩ := own_selL h1
    obtain ⟨k', g', o', hk', hl', ho'⟩ := own_restL h2
    have := hs.apart k k' g g' i o o' hl ho hl' ho'
    exact hk' (this ▸ hk)

abbrev markD (D : Nat) : Deferred := { target := .collected D, args := #[] }
abbrev dfd (D : Nat) : Nat × AObj := (D, .obj (.deferred (some [])))
theorem RunI.rangeFunc {C : Cx} (hC : C.Ok) {Q : List Deferred → Exit → List AV → AHeap → Prop} {ds : List Deferred} {env : List AV} {L : AHeap} {g : Operand} {ps : Array Tmp} {assign body : Code} {gf : FuncId} {lb : Array Value} (hg : aeval env g = .any (.func (.func gf) #[] lb))
    (ki kb : List Nat) (hnb : kb.Nodup) (hni : ki.Nodup) (lbA : List AV) (hlb : toVs lbA = some lb.toList)
    (hit : ∀ (l : Nat) (rec : Loop), rec.params = ps → rec.assign = assign → rec.body = body → rec.state = .ready → rec.pending = none →
      FnSpec C gf (.any (.func (.yield l) #[] #[]) :: lbA) (selL (restL L kb) ki ++ RoundL l rec env (selL L kb)) fun _ L' => ∃ Li Lb, L' = Li ++ RoundL l rec env Lb ∧
        ∀ D, Q (markD D :: ds) .normal env (restL (restL L kb) ki ++ (Li ++ Lb ++ [dfd D]))) :
    RunI none C Q ds (.rangeFunc g ps assign body) env L := fun n F a w ha => by
  obtain ⟨imm, hst, hG⟩ := ha
  refine wpIn_rangeFunc fun fn _ => ?_
  obtain ⟨rec, hrec⟩ : ∃ rec : Loop, rec = { state := .ready, pending := none, fn := fn, tmps := a.tmps, params := ps, assign := assign, body := body, defers := w.heap.size } := ⟨_, rfl⟩
  obtain ⟨W1, hW1⟩ : ∃ W1, (w.alloc (.deferred (some []))).alloc (.loop rec) = W1 := ⟨_, rfl⟩
  -- the heap with the two new objects
  have hs1 : Sat imm W1 ((L ++ [dfd w.heap.size]) ++ [(w.heap.size + 1, .obj (.loop rec))]) ∧ Tr C.D (Own L) imm w (Own ((L ++ [dfd w.heap.size]) ++ [(w.heap.size + 1, .obj (.loop rec))])) imm W1 := by
    have a1 : Sat imm (w.alloc (.deferred (some []))) (L ++ [dfd w.heap.size]) := hst.sat.new (by simp) (fun i hi => (World.grownBy_alloc w _ none).block i hi (by simp)) (.obj _ (MapKept.heap_alloc w _).1)
    have t1 : Tr C.D (Own L) imm w (Own (L ++ [dfd w.heap.size])) imm (w.alloc (.deferred (some []))) := Tr.alloc _ _
    have hsz : (w.alloc (.deferred (some []))).heap.size = w.heap.size + 1 := by simp
    have a2 := a1.new (w' := W1) (o := .obj (.loop rec)) (by rw [← hW1]; simp) (fun i hi => by rw [← hW1]; exact (World.grownBy_alloc _ _ none).block i hi (by simp)) (.obj _ (by rw [← hW1]; exact (MapKept.heap_alloc _ _).1))
    have t2 : Tr C.D (Own (L ++ [dfd w.heap.size])) imm (w.alloc (.deferred (some []))) (Own ((L ++ [dfd w.heap.size]) ++ [((w.alloc (.deferred (some []))).heap.size, .obj (.loop rec))])) imm W1 := by rw [← hW1]; exact Tr.alloc _ _
    rw [hsz] at a2 t2
    exact ⟨a2, t1.trans t2⟩
  obtain ⟨hs1, ht1⟩ := hs1
  have hold : ∀ i, imm i → W1.heap[i]? = w.heap[i]? := ht1.immblock hst.sat.far hst.sat.immlt
  have henv1 : EnvR imm W1 env a.tmps := hst.env.mono (fun _ h => h) fun b hb => World.cell?_of_block (hold _ hb)
  have hG1 : C.G imm W1 := hC.mono _ _ _ _ hG (fun _ h => h) hold
  -- cut into what goes where
  obtain ⟨l, hl⟩ : ∃ l, l = w.heap.size + 1 := ⟨_, rfl⟩
  rw [← hl] at hs1 ht1
  have himp : Imp ((L ++ [dfd w.heap.size]) ++ [(l, .obj (.loop rec))]) ((selL (restL L kb) ki ++ ((l, .obj (.loop rec)) :: selL L kb)) ++ (restL (restL L kb) ki ++ [dfd w.heap.size])) := by
    have h1 : Imp L (selL L kb ++ (selL (restL L kb) ki ++ restL (restL L kb) ki)) := (Imp.split L hnb).trans (Imp.app (.refl _) (Imp.split (restL L kb) hni))
    refine (Imp.app (Imp.app h1 (.refl _)) (.refl _)).trans (.perm ?_)
    generalize selL L kb = A
    generalize selL (restL L kb) ki = B
    generalize restL (restL L kb) ki = R
    simp only [List.append_assoc, List.cons_append, List.nil_append]
    refine List.Perm.trans (l₂ := (l, .obj (.loop rec)) :: (A ++ (B ++ (R ++ [dfd w.heap.size])))) ?_ ?_
    · have := List.perm_middle (a := (l, AObj.obj (.loop rec))) (l₁ := A ++ (B ++ (R ++ [dfd w.heap.size]))) (l₂ := [])
      simpa using this
    · refine List.Perm.trans (l₂ := (l, .obj (.loop rec)) :: (B ++ (A ++ (R ++ [dfd w.heap.size])))) (.cons _ ?_) ?_
      · rw [← List.append_assoc, ← List.append_assoc B]
        exact List.perm_append_comm.append_right _
      · exact (List.perm_middle (a := (l, AObj.obj (.loop rec))) (l₁ := B) (l₂ := A ++ (R ++ [dfd w.heap.size]))).symm
  have hs2 := himp.sat hs1
  have hrecs : rec.tmps = a.tmps := by rw [hrec]
  -- the record and what the body owns, as one object
  have hbx : Imp ((selL (restL L kb) ki ++ ((l, .obj (.loop rec)) :: selL L kb)) ++ (restL (restL L kb) ki ++ [dfd w.heap.size])) ((selL (restL L kb) ki ++ [(0, boxL ((l, .obj (.loop rec)) :: selL L kb))]) ++ (restL (restL L kb) ki ++ [dfd w.heap.size])) := Imp.app (Imp.app (.refl _) (.box _ _)) (.refl _)
  have hs3 : Sat imm W1 ((selL (restL L kb) ki ++ RoundL l rec env (selL L kb)) ++ (restL (restL L kb) ki ++ [dfd w.heap.size])) := by
    -- the slots are told beside them: nothing more is owned
    obtain ⟨hc, hr, hd⟩ := (satC_app _ _ _ _).1 hs2.core
    obtain ⟨hc1, hc2, hc3⟩ := (satC_app _ _ _ _).1 hc
    obtain ⟨hc4, hc5, hc6⟩ := (satC_cons _ _ _ _).1 hc2
    have hrl : SatC imm W1 (RoundL l rec env (selL L kb)) := (Imp.box 0 _).2 _ _ ((satC_cons _ _ _ _).2 ⟨hc4, fun i hi h => by
      rcases (own_cons _ _ _).1 h with h | h
      · exact h.elim
      · exact hc5 i hi h, (satC_cons _ _ _ _).2 ⟨fun _ => .box _ _ (by rw [hrecs]; exact henv1) (envB_ok _ _), fun i h => h.elim, hc6⟩⟩)
    have hown : ∀ i, Own (RoundL l rec env (selL L kb)) i → Own ((l, AObj.obj (.loop rec)) :: selL L kb) i := fun i hi => by
      rcases (own_round _ _ _ _ _).1 hi with rfl | h
      · exact (own_cons _ _ _).2 (.inl rfl)
      · exact (own_cons _ _ _).2 (.inr h)
    have hown2 : ∀ i, Own (selL (restL L kb) ki ++ RoundL l rec env (selL L kb)) i → Own (selL (restL L kb) ki ++ ((l, AObj.obj (.loop rec)) :: selL L kb)) i := fun i hi => by
      rw [own_app] at hi ⊢
      exact hi.imp id (hown i)
    have hall : SatC imm W1 ((selL (restL L kb) ki ++ RoundL l rec env (selL L kb)) ++ (restL (restL L kb) ki ++ [dfd w.heap.size])) := (satC_app _ _ _ _).2 ⟨(satC_app _ _ _ _).2 ⟨hc1, hrl, fun i h1 h2 => hc3 i h1 (hown i h2)⟩, hr, fun i h1 h2 => hd i (hown2 i h1) h2⟩
    have hown3 : ∀ i, Own ((selL (restL L kb) ki ++ RoundL l rec env (selL L kb)) ++ (restL (restL L kb) ki ++ [dfd w.heap.size])) i → Own ((selL (restL L kb) ki ++ ((l, AObj.obj (.loop rec)) :: selL L kb)) ++ (restL (restL L kb) ki ++ [dfd w.heap.size])) i := fun i hi => by
      rw [own_app] at hi ⊢
      exact hi.imp (hown2 i) id
    exact ⟨hall.holds, hall.apart, fun i hi => hs2.far i (hown3 i hi), fun i hi => hs2.lt i (hown3 i hi), hs2.immlt⟩
  have ht3 : Tr C.D (Own L) imm w (Own ((selL (restL L kb) ki ++ RoundL l rec env (selL L kb)) ++ (restL (restL L kb) ki ++ [dfd w.heap.size]))) imm W1 := by
    refine ⟨ht1.drawn, ht1.os, ht1.tape, ht1.output, ht1.size, ht1.block, ht1.imm1, ht1.imm2, fun i hi => ht1.own2 i (himp.1 i ?_)⟩
    rcases (own_app _ _ _).1 hi with h | h
    · refine (own_app _ _ _).2 (.inl ?_)
      rcases (own_app _ _ _).1 h with h | h
      · exact (own_app _ _ _).2 (.inl h)
      · refine (own_app _ _ _).2 (.inr ?_)
        rcases (own_round _ _ _ _ _).1 h with rfl | h
        · exact (own_cons _ _ _).2 (.inl rfl)
        · exact (own_cons _ _ _).2 (.inr h)
    · exact (own_app _ _ _).2 (.inr h)
  have hsc : Sat imm W1 (selL (restL L kb) ki ++ RoundL l rec env (selL L kb)) := ⟨((satC_app _ _ _ _).1 hs3.core).1.holds, ((satC_app _ _ _ _).1 hs3.core).1.apart, fun i hi => hs3.far i ((own_app _ _ _).2 (.inl hi)), fun i hi => hs3.lt i ((own_app _ _ _).2 (.inl hi)), hs3.immlt⟩
  have hspec := hit l rec (by rw [hrec]) (by rw [hrec]) (by rw [hrec]) (by rw [hrec]) (by rw [hrec])
  have hx := aeval_VR hst.env g
  rw [hg] at hx
  generalize hgg : a.eval g = gv at hx
  cases hx
  obtain ⟨⟨fnn, hff, hname, hb⟩, hcall⟩ := hspec
  obtain ⟨hlbl, hlbv⟩ := toVs_VR hlb imm W1
  have hvl : (Value.func (.yield l) #[] #[] :: lb.toList).length = (AV.any (.func (.yield l) #[] #[]) :: lbA).length := by simp [hlbl]
  have hcalls := hcall imm W1 (Value.func (.yield l) #[] #[] :: lb.toList) hG1 hsc hvl (fun j x v hx hv => by
    cases j with
    | zero => simp at hx hv; subst hx; subst hv; exact .any _
    | succ j => exact hlbv.2 j x v (by simpa using hx) (by simpa using hv))
  refine ⟨w.heap.size + 1, [markD w.heap.size], W1, { target := .fn (.func gf) lb, args := #[.func (.yield (w.heap.size + 1)) #[] #[]] }, W1, gf, #[.func (.yield (w.heap.size + 1)) #[] #[]] ++ lb, W1, ?_, ?_, fun _ _ => trivial, ?_, fun e => absurd e (by simp [Fence.wide]), ?_⟩
  · rw [← hW1, hrec]; exact run_enterLoop_outer _ _ _ _ _
  · simp only [resolve, hgg]
    simp [Deferred.ofValue, Act.eval]
  · have h1 : fnn.name ≠ "runtime.NumGoroutine" := by simpa using hname
    obtain ⟨cc, hcc⟩ := Option.isSome_iff_exists.1 hb
    simp [invoke, callFunc, hff, h1, hcc]
  · rw [← hl]
    have e : (#[Value.func (.yield l) #[] #[]] ++ lb) = (Value.func (.yield l) #[] #[] :: lb.toList).toArray := by
      apply Array.ext'
      simp
    rw [e]
    refine calls_fen (hcalls.mono ?_)
    rintro e w' ⟨v, r, L', imm', rfl, hr, hs', ht', Li, Lb, rfl, hq⟩
    obtain ⟨m1, m2⟩ := frame_sat hs3 hs' ht'
    -- the record: exhausted, given up
    have hm : Sat imm' w' ((Li ++ RoundL l rec env Lb) ++ (restL (restL L kb) ki ++ [dfd w.heap.size])) := m1
    have hlrec : w'.heap[l]? = some (.loop rec) ∧ ¬ imm' l ∧ ¬ Own (Li ++ Lb ++ (restL (restL L kb) ki ++ [dfd w.heap.size])) l := by
      obtain ⟨c1, c2, c3⟩ := (satC_app _ _ _ _).1 m1.core
      obtain ⟨c4, c5, c6⟩ := (satC_app _ _ _ _).1 c1
      have hown : Own (RoundL l rec env Lb) l := (own_round _ _ _ _ _).2 (.inl rfl)
      have hun := (Imp.unbox 0 _).2 _ _ c5
      obtain ⟨d1, d2, d3⟩ := (satC_cons _ _ _ _).1 hun
      refine ⟨?_, m1.far l ((own_app _ _ _).2 (.inl ((own_app _ _ _).2 (.inr hown)))), fun h => ?_⟩
      · cases d1 trivial with
        | obj _ h => exact h
      · rcases (own_app _ _ _).1 h with h | h
        · rcases (own_app _ _ _).1 h with h | h
          · exact c6 l h hown
          · exact d2 l rfl ((own_cons _ _ _).2 (.inr h))
        · exact c3 l ((own_app _ _ _).2 (.inr hown)) h
    obtain ⟨hl1, hl2, hl3⟩ := hlrec
    have hll : l < w'.heap.size := (Array.getElem?_eq_some_iff.1 hl1).1
    have hdrop : Imp ((Li ++ RoundL l rec env Lb) ++ (restL (restL L kb) ki ++ [dfd w.heap.size])) (Li ++ Lb ++ (restL (restL L kb) ki ++ [dfd w.heap.size])) := Imp.app (Imp.app (.refl _) (((Imp.unbox 0 _).trans (Imp.drop _ _)).trans (Imp.drop _ _))) (.refl _)
    have hpend : rec.pending = none := by rw [hrec]
    have hend : (Instr.endLoop l).run C.P w' = .ok none (w'.putObj l (.loop { rec with state := .exhausted })) := by
      rw [run_endLoop (P := C.P) hl1 (by rw [hrec]; simp), hpend]
    have hold4 : ∀ i, i ≠ l → (w'.putObj l (.loop { rec with state := .exhausted })).heap[i]? = w'.heap[i]? := fun i hi => World.putObj_heap_other hi
    have hs4 := (hdrop.sat m1).other (w' := w'.putObj l (.loop { rec with state := .exhausted })) hl3 hl2 (by simp) hold4
    have hperm : Imp (Li ++ Lb ++ (restL (restL L kb) ki ++ [dfd w.heap.size])) (restL (restL L kb) ki ++ (Li ++ Lb ++ [dfd w.heap.size])) := by
      refine .perm ?_
      rw [← List.append_assoc, ← List.append_assoc (restL (restL L kb) ki)]
      exact List.perm_append_comm.append_right _
    have hlr : ¬ Own L l ∧ w.heap.size ≤ l := ⟨fun h => by have := hst.sat.lt l h; omega, by omega⟩
    have el : w.heap.size + 1 = l := hl.symm
    refine ⟨none, _, hend, ?_⟩
    refine ⟨markD w.heap.size :: ds, env, _, ⟨imm', ⟨hperm.sat hs4, ?_, ?_, ?_⟩, ?_⟩, hq w.heap.size⟩
    · refine hst.env.mono (fun i hi => ht'.imm1 i hi) fun b hb => World.cell?_of_block ?_
      have hne : b.block ≠ l := fun e => hl2 (e ▸ ht'.imm1 _ hb)
      rw [hold4 _ hne, ht'.immblock hsc.far hsc.immlt _ hb, hold _ hb]
    · have t := ht3.trans m2
      refine hst.tr.trans ⟨t.drawn, t.os, t.tape, t.output, by have := t.size; simpa using this, fun i hi ho => ?_, t.imm1, t.imm2, fun i hi => t.own2 i (hdrop.1 i (hperm.1 i hi))⟩
      have hne : i ≠ l := by omega
      rw [hold4 i hne]
      exact t.block i hi ho
    · show markD w.heap.size :: a.defers = _
      rw [hst.defers]
    · exact hC.mono _ _ _ _ hG1 ht'.imm1 fun i hi => by
        have hne : i ≠ l := fun e => hl2 (e ▸ ht'.imm1 _ hi)
        rw [hold4 i hne]
        exact ht'.immblock hsc.far hsc.immlt i hi

def finI (C : Cx) (fn : Func) (Q : AV → AHeap → Prop) (env : List AV) (L : AHeap) : Prop := aress C env L fn.results.toList fun xs => ∃ r L', FinOk (aret xs) L r L' ∧ Q r L'
def postI (C : Cx) (fn : Func) (Q : AV → AHeap → Prop) : List Deferred → Exit → List AV → AHeap → Prop
  | [], .normal, env, L | [], .ret, env, L => finI C fn Q env L
  | [d], .normal, env, L | [d], .ret, env, L => ∃ k D, d = markD D ∧ L[k]? = some (dfd D) ∧ finI C fn Q env (L.set k (D, .obj (.deferred none)))
  | _, _, _, _ => False
theorem FnSpec.startI {C : Cx} (hC : C.Ok) {f : FuncId} {fn : Func} {c : Code} {args : List AV} {L : AHeap} {Q : AV → AHeap → Prop} {n : Nat} (hf : C.P.funcs[f]? = some fn) (hb : fn.body = some c) (hname : (fn.name == "runtime.NumGoroutine") = false) (hn : fn.ntmps = n)
    (h : RunI none C (postI C fn Q) [] c (args ++ List.replicate (n - args.length) .junk) L) : FnSpec C f args L Q := by
  refine ⟨⟨fn, hf, hname, by simp [hb]⟩, fun imm w vs hG hs hl hv => ?_⟩
  subst hn
  refine (callsIn_wide (n := 0)).1 (callsIn_of_wp_marks hf hb trivial ?_)
  have henv : EnvR imm w (args ++ List.replicate (fn.ntmps - args.length) .junk) (vs.toArray ++ Array.replicate (fn.ntmps - vs.toArray.size) undef) := by
    refine ⟨by simp [hl], fun t x v hx hvv => ?_⟩
    by_cases ht : t < args.length
    · rw [List.getElem?_append_left ht] at hx
      rw [Array.getElem?_append_left (by simpa [hl] using ht)] at hvv
      exact hv t x v hx (by simpa using hvv)
    · rw [List.getElem?_append_right (by omega), List.getElem?_replicate] at hx
      split at hx
      · cases hx; exact .junk v
      · cases hx
  have hat : At C ⟨[], Own L, imm, w⟩ (args ++ List.replicate (fn.ntmps - args.length) .junk) L { tmps := vs.toArray ++ Array.replicate (fn.ntmps - vs.toArray.size) undef, defers := [] } w := ⟨imm, ⟨hs, henv, Tr.refl _ _ _, rfl⟩, hG⟩
  refine wpIn_mono (h 0 ⟨[], Own L, imm, w⟩ _ w hat) ?_
  have fin : ∀ (ds : List Deferred) (a' : Act) (w' : World) (env' : List AV) (L' : AHeap), At C ⟨ds, Own L, imm, w⟩ env' L' a' w' → finI C fn Q env' L' → ∃ v, (results fn a'.tmps).run C.P w' = .ok v w' ∧ ∃ v' r L' imm', Ending.returned v = .returned v' ∧ VR imm' w' r v' ∧ Sat imm' w' L' ∧ Tr C.D (Own L) imm w (Own L') imm' w' ∧ Q r L' := by
    intro ds a' w' env' L' ha h
    obtain ⟨imm', hst, _⟩ := ha
    obtain ⟨xs, v, ⟨r, L'', hfin, hq⟩, hrun, hvr⟩ := results_sound hC hst.sat hst.env h
    obtain ⟨imm2, h1, h2, h3⟩ := hfin _ _ _ _ _ _ _ hst.sat hvr hst.tr
    exact ⟨v, hrun, v, r, L'', imm2, rfl, h2, h1, h3, hq⟩
  have go : ∀ (ds : List Deferred) (a' : Act) (w' : World) (env' : List AV) (L' : AHeap) (e : Exit), e = .normal ∨ e = .ret → At C ⟨ds, Own L, imm, w⟩ env' L' a' w' → postI C fn Q ds e env' L' → LeavesInM Fence.wide 0 C.P fn a'.tmps (fun e w' => ∃ v r L' imm', e = .returned v ∧ VR imm' w' r v ∧ Sat imm' w' L' ∧ Tr C.D (Own L) imm w (Own L') imm' w' ∧ Q r L') a'.defers .returning w' := by
    intro ds a' w' env' L' e he ha hp
    have hds : a'.defers = ds := by obtain ⟨_, hst, _⟩ := ha; exact hst.defers
    rw [hds]
    match ds, hp with
    | [], hp =>
      have hp : finI C fn Q env' L' := by rcases he with rfl | rfl <;> exact hp
      exact fin _ _ _ _ _ ha hp
    | [d], hp =>
      have hp : ∃ k D, d = markD D ∧ L'[k]? = some (dfd D) ∧ finI C fn Q env' (L'.set k (D, .obj (.deferred none))) := by rcases he with rfl | rfl <;> exact hp
      obtain ⟨k, D, rfl, hk, hp⟩ := hp
      obtain ⟨imm', hst, hG'⟩ := ha
      obtain ⟨t1, t2, t3⟩ := map_turn (D := C.D) hst.sat hk (.deferred none)
      refine ⟨by simp, .inl ⟨D, _, rfl, run_takeDeferred t1, ?_⟩⟩
      have hfar : ¬ imm' D := hst.sat.far D ⟨k, _, _, hk, rfl⟩
      have hold : ∀ i, imm' i → (w'.putObj D (.deferred none)).heap[i]? = w'.heap[i]? := fun i hi => World.putObj_heap_other fun e => hfar (e ▸ hi)
      have ha2 : At C ⟨[markD D], Own L, imm, w⟩ env' (L'.set k (D, .obj (.deferred none))) a' (w'.putObj D (.deferred none)) :=
        ⟨imm', ⟨t2, hst.env.mono (fun _ h => h) fun b hb => World.cell?_of_block (hold _ hb), hst.tr.trans t3, hst.defers⟩, hC.mono _ _ _ _ hG' (fun _ h => h) hold⟩
      exact fin _ _ _ _ _ ha2 hp
    | _ :: _ :: _, hp => rcases he with rfl | rfl <;> exact hp.elim
  intro e a' w' hq
  cases e with
  | normal => obtain ⟨ds, env', L', ha, hp⟩ := hq; exact go ds a' w' env' L' .normal (.inl rfl) ha hp
  | ret => obtain ⟨ds, env', L', ha, hp⟩ := hq; exact go ds a' w' env' L' .ret (.inr rfl) ha hp
  | outgrown => exact hq.elim
  | _ =>
    obtain ⟨ds, env', L', ha, hp⟩ := hq
    match ds, hp with
    | [], hp => exact hp.elim
    | [_], hp => exact hp.elim
    | _ :: _ :: _, hp => exact hp.elim
end Go.Proofs.YtgpbppkmmlclfaaDoor.HB
/- Structs that hold structs, compared; functions against nil. -/
namespace Go.Proofs.YtgpbppkmmlclfaaDoor.HB
open Go

def fieldsOk2 (P : Program) : List Field → Nat → List AV → Bool
  | [], _, [] => true
  | f :: fs, i, ks => decide (f.name ≠ "_") && f.offset == i && (match P.underlying f.type with
    | some (.struct gs) => !P.stoodInHeld f.type && (P.info? f.type).any (fun j => j.size == gs.size) && decide (gs.size ≤ ks.length) && fieldsOk P gs.toList 0 (ks.take gs.size) && fieldsOk2 P fs (i + gs.size) (ks.drop gs.size)
    | d => match ks with
      | k :: ks => kindTy d k && fieldsOk2 P fs (i + 1) ks
      | [] => false)
  | _, _, _ => false
def eqOk2 (P : Program) (t : TypeId) (ks : List AV) : Bool :=
  match P.underlying t with
  | some (.struct fs) => !P.stoodInHeld t && !P.eqGuardType P.depth t && fieldsOk2 P fs.toList 0 ks
  | _ => false

theorem allEq_split : ∀ (n : Nat) (xs ys : List AV), xs.length = ys.length → (allEq xs ys ↔ allEq (xs.take n) (ys.take n) ∧ allEq (xs.drop n) (ys.drop n))
  | 0, xs, ys, _ => by simp [allEq]
  | n + 1, [], [], _ => by simp [allEq]
  | n + 1, [], _ :: _, h => by simp at h
  | n + 1, _ :: _, [], h => by simp at h
  | n + 1, x :: xs, y :: ys, h => by
    simp only [List.take_succ_cons, List.drop_succ_cons, allEq]
    rw [allEq_split n xs ys (by simpa using h), and_assoc]
theorem kindsEq_take : ∀ (n : Nat) (ks xs : List AV), kindsEq ks xs = true → kindsEq (ks.take n) (xs.take n) = true ∧ kindsEq (ks.drop n) (xs.drop n) = true ∧ ks.length = xs.length
  | 0, ks, xs, h => by
    refine ⟨by simp [kindsEq], by simpa using h, ?_⟩
    induction ks generalizing xs with
    | nil => cases xs <;> simp_all [kindsEq]
    | cons k ks ih => cases xs with
      | nil => simp [kindsEq] at h
      | cons x xs =>
        simp only [kindsEq, Bool.and_eq_true] at h
        simp [ih _ h.2]
  | n + 1, [], [], _ => by simp [kindsEq]
  | n + 1, [], _ :: _, h => by simp [kindsEq] at h
  | n + 1, _ :: _, [], h => by simp [kindsEq] at h
  | n + 1, k :: ks, x :: xs, h => by
    simp only [kindsEq, Bool.and_eq_true] at h
    obtain ⟨a, b, c⟩ := kindsEq_take n ks xs h.2
    simp only [List.take_succ_cons, List.drop_succ_cons, kindsEq, Bool.and_eq_true, List.length_cons]
    exact ⟨⟨h.1, a⟩, b, by omega⟩

theorem run_partN {P : Program} {t : TypeId} {gs : Array Field} {j : TypeInfo} (hu : P.underlying t = some (.struct gs)) (hj : P.info? t = some j) (hs : j.size = gs.size) (xs : Array Value) (i : Nat) (w : World) : (part t xs i).run P w = .ok (.agg (xs.extract i (i + gs.size))) w := by
  unfold part
  rw [Sem.run_bind, run_isAgg w hu, show aggD (.struct gs) = true from rfl, Result.andThen_ok]
  simp [sizeOf, typeInfo, hj, hs]

theorem eqFields2_run {P : Program} {imm : Nat → Prop} {w0 : World} (d : Nat) {us vs : Array Value} : ∀ (fs : List Field) (i : Nat) (ks xs ys : List AV), fieldsOk2 P fs i ks = true → kindsEq ks xs = true → kindsEq ks ys = true →
    (∀ (j : Nat) (x : AV), xs[j]? = some x → ∃ u, us[i + j]? = some u ∧ VR imm w0 x u) → (∀ (j : Nat) (x : AV), ys[j]? = some x → ∃ u, vs[i + j]? = some u ∧ VR imm w0 x u) →
    ∃ b : Bool, (∀ w, (Op.eqFields (d + 2) us vs fs).run P w = .ok b w) ∧ (b = true ↔ allEq xs ys) := by
  intro fs
  induction fs with
  | nil =>
    intro i ks xs ys hf hx hy h1 h2
    cases ks <;> try (cases hf; done)
    cases xs <;> try (cases hx; done)
    cases ys <;> try (cases hy; done)
    exact ⟨true, fun w => rfl, by simp [allEq]⟩
  | cons f fs ih =>
    intro i ks xs ys hf hx hy h1 h2
    simp only [fieldsOk2, Bool.and_eq_true, decide_eq_true_eq, beq_iff_eq] at hf
    obtain ⟨⟨f1, f2⟩, f3⟩ := hf
    split at f3
    · rename_i gs hgs
      simp only [Bool.and_eq_true, decide_eq_true_eq, Bool.not_eq_true'] at f3
      obtain ⟨⟨⟨⟨g1, g2⟩, g3⟩, g4⟩, g5⟩ := f3
      obtain ⟨j, hj, hjs⟩ : ∃ j, P.info? f.type = some j ∧ j.size = gs.size := by
        cases hi : P.info? f.type with
        | none => rw [hi] at g2; cases g2
        | some j => rw [hi] at g2; exact ⟨j, rfl, by simpa using g2⟩
      obtain ⟨x1, x2, x3⟩ := kindsEq_take gs.size ks xs hx
      obtain ⟨y1, y2, y3⟩ := kindsEq_take gs.size ks ys hy
      have hfo : P.fieldsOf f.type = gs := by unfold Program.fieldsOf; rw [hgs]
      obtain ⟨b, hb, hbi⟩ := eqFields_run (P := P) (imm := imm) (w0 := w0) d (us := us.extract i (i + gs.size)) (vs := vs.extract i (i + gs.size)) gs.toList 0 _ _ _ g4 x1 y1
        (fun j x hj' => by
          rw [List.getElem?_take] at hj'
          split at hj'
          case isFalse => cases hj'
          rename_i hlt
          obtain ⟨u, hu, hv⟩ := h1 j x hj'
          refine ⟨u, ?_, hv⟩
          rw [Array.getElem?_extract, Nat.zero_add]
          have := (Array.getElem?_eq_some_iff.1 hu).1
          rw [if_pos (by omega)]; exact hu)
        (fun j x hj' => by
          rw [List.getElem?_take] at hj'
          split at hj'
          case isFalse => cases hj'
          rename_i hlt
          obtain ⟨u, hu, hv⟩ := h2 j x hj'
          refine ⟨u, ?_, hv⟩
          rw [Array.getElem?_extract, Nat.zero_add]
          have := (Array.getElem?_eq_some_iff.1 hu).1
          rw [if_pos (by omega)]; exact hu)
      obtain ⟨b', hb', hbi'⟩ := ih (i + gs.size) _ _ _ g5 x2 y2 (fun j x hj => by rw [List.getElem?_drop] at hj; rw [Nat.add_assoc]; exact h1 _ x hj) (fun j x hj => by rw [List.getElem?_drop] at hj; rw [Nat.add_assoc]; exact h2 _ x hj)
      refine ⟨b && b', fun w => ?_, ?_⟩
      · have heq : ∀ w, (Op.equalIn (d + 2) f.type (.agg (us.extract i (i + gs.size))) (.agg (vs.extract i (i + gs.size)))).run P w = .ok b w := fun w => by
          rw [run_equalIn_struct (P := P) w (d + 1) f.type _ _ (by rw [hfo]; exact hgs) g1, hfo]
          exact hb w
        simp only [Op.eqFields, f1, ne_eq, not_false_eq_true, if_true, Sem.run_bind, f2]
        rw [run_partN hgs hj hjs, Result.andThen_ok, run_partN hgs hj hjs, Result.andThen_ok, heq, Result.andThen_ok]
        cases b
        · rfl
        · simpa using hb' w
      · rw [allEq_split gs.size xs ys (by omega)]
        simp [hbi, hbi']
    · cases ks with
      | nil => cases f3
      | cons k ks =>
        simp only [Bool.and_eq_true] at f3
        cases xs <;> try (cases hx; done)
        cases ys <;> try (cases hy; done)
        rename_i x xs y ys
        simp only [kindsEq, Bool.and_eq_true] at hx hy
        obtain ⟨u, eu, hu⟩ := h1 0 x rfl
        obtain ⟨v, ev, hv⟩ := h2 0 y rfl
        obtain ⟨b, hb, hbi, D, hD, hDa⟩ := eqField_run (d + 1) f3.1 hx.1 hy.1 hu hv
        obtain ⟨b', hb', hbi'⟩ := ih (i + 1) ks xs ys f3.2 hx.2 hy.2 (fun j x hj => by rw [Nat.add_assoc, Nat.add_comm 1 j]; exact h1 (j + 1) x hj) (fun j x hj => by rw [Nat.add_assoc, Nat.add_comm 1 j]; exact h2 (j + 1) x hj)
        refine ⟨b && b', fun w => ?_, by simp [allEq, hbi, hbi']⟩
        simp only [Op.eqFields, f1, ne_eq, not_false_eq_true, if_true, Sem.run_bind, f2]
        rw [run_part1 hD hDa (by simpa using eu), Result.andThen_ok, run_part1 hD hDa (by simpa using ev), Result.andThen_ok, hb, Result.andThen_ok]
        cases b
        · rfl
        · simpa using hb' w

def aopX (C : Cx) (E2 : TypeId → Option (List AV)) : OpRule := fun o env L K KP => match o.op with
  | .binOp op t x (.const .nilFunc) _ => match aeval env x, C.P.underlying t, isEq op with
    | .any (.func _ _ _), some (.func _ _ _), some b => K (.bool (!b)) L
    | _, _, _ => False
  | .binOp op t x y _ => match E2 t, isEq op, aeval env x, aeval env y with
    | some ks, some b, .agg xs, .agg ys => if kindsEq ks xs && kindsEq ks ys then (match b with
      | true => both (allEq xs ys) fun v => K v L
      | false => both (¬ allEq xs ys) fun v => K v L) else False
    | _, _, _, _ => aopZ C o env L K KP
  | _ => aopZ C o env L K KP
theorem run_func_nil {P : Program} (w : World) {op : BinOp} {b : Bool} (ho : isEq op = some b) (t : TypeId) {ps rs : Array TypeId} {v : Bool} {f : Fn} {x y : Array Value} (h : P.underlying t = some (.func ps rs v)) :
    (binOp op t (.func f x y) .nilFunc).run P w = .ok (.bool (!b)) w := by
  have := isEq_some ho
  have he : (Op.equal t (.func f x y) .nilFunc).run P w = .ok false w := by
    unfold Op.equal Op.maxDepth
    show (Op.equalIn (9999 + 1) t (.func f x y) .nilFunc).run P w = _
    generalize 9999 = d
    simp [Op.equalIn, run_underlying h]
  cases b <;> subst this
  · simp [binOp, he]
  · simp [binOp, he]
theorem aopX_sound {C : Cx} (hC : C.Ok) {E2 : TypeId → Option (List AV)} (hE : ∀ t ks, E2 t = some ks → eqOk2 C.P t ks = true) : (aopX C E2).Sound C := by
  intro o env L K KP h imm w a hG hs he next Q hn hp
  unfold aopX at h
  split at h
  · rename_i op t x t' ho
    have hx := aeval_VR he x
    have hc : a.eval (.const .nilFunc) = .nilFunc := rfl
    split at h
    case h_2 => exact h.elim
    rename_i f p q ps rs vv b ex hu hb
    rw [ex] at hx
    generalize hxx : a.eval x = u at hx
    cases hx
    refine wp_value (v := .bool (!b)) (w' := w) ?_ (hn _ _ imm _ _ h hs (.bool _) (Tr.refl _ _ _))
    have hg := eqGuard_plain (P := C.P) op t x (.const .nilFunc) (.func f p q) .nilFunc w (by simp) (by simp)
    simp only [execOp, ho, hxx, hc, Sem.run_bind, hg, Result.andThen_ok, run_func_nil w hb t hu]
    rfl
  · rename_i op t x y t' _ ho
    split at h
    case h_2 => exact aopZ_sound hC _ _ _ _ _ h _ _ _ hG hs he _ _ hn hp
    rename_i ks b xs ys hE2 hb ex ey
    have hx := aeval_VR he x
    have hy := aeval_VR he y
    rw [ex] at hx
    rw [ey] at hy
    generalize hxx : a.eval x = u at hx
    generalize hyy : a.eval y = u' at hy
    cases hx with
    | agg _ vs hvl h1 hvv =>
    cases hy with
    | agg _ us hul h1' huu =>
    split at h
    case isFalse => exact h.elim
    rename_i hcond
    simp only [Bool.and_eq_true] at hcond
    have hok := hE t ks hE2
    unfold eqOk2 at hok
    split at hok
    case h_2 => cases hok
    rename_i fields hu
    simp only [Bool.and_eq_true, Bool.not_eq_true'] at hok
    obtain ⟨⟨hst, heg⟩, hall⟩ := hok
    have hfo : C.P.fieldsOf t = fields := by unfold Program.fieldsOf; rw [hu]
    obtain ⟨c, hcr, hci⟩ := eqFields2_run (P := C.P) (imm := imm) (w0 := w) (us := vs.toArray) (vs := us.toArray) 9997 fields.toList 0 ks xs ys hall hcond.1 hcond.2
      (fun j x hj => by
        obtain ⟨u, e, _, hv⟩ := (VRs.mk hvl h1 hvv).get hj
        exact ⟨u, by simpa using e, hv⟩)
      (fun j x hj => by
        obtain ⟨u, e, _, hv⟩ := (VRs.mk hul h1' huu).get hj
        exact ⟨u, by simpa using e, hv⟩)
    have heq : ∀ w, (Op.equalIn 10000 t (.agg vs.toArray) (.agg us.toArray)).run C.P w = .ok c w := fun w => by
      rw [run_equalIn_struct (P := C.P) w 9999 t vs.toArray us.toArray (by rw [hfo]; exact hu) hst, hfo]
      exact hcr w
    have hop := isEq_some hb
    cases b
    · have hop : op = .neq := by simpa using hop
      subst hop
      refine wp_value (v := .bool (!c)) (w' := w) ?_ (hn _ _ imm _ _ ?_ hs (.bool (!c)) (Tr.refl _ _ _))
      · simp only [execOp, ho, hxx, hyy, Sem.run_bind, run_eqGuard_agg w _ t x y _ _ heg, Result.andThen_ok, run_neq_struct, heq]
        rfl
      · cases c
        · exact h.1 (by simpa using hci)
        · exact h.2 (by simpa using hci)
    · have hop : op = .eql := by simpa using hop
      subst hop
      refine wp_value (v := .bool c) (w' := w) ?_ (hn _ _ imm _ _ ?_ hs (.bool c) (Tr.refl _ _ _))
      · simp only [execOp, ho, hxx, hyy, Sem.run_bind, run_eqGuard_agg w _ t x y _ _ heg, Result.andThen_ok, run_eql_struct, heq]
        rfl
      · cases c
        · exact h.2 (by simpa using hci)
        · exact h.1 (by simpa using hci)
  · exact aopZ_sound hC _ _ _ _ _ h _ _ _ hG hs he _ _ hn hp

theorem Run.weak0 {C : Cx} (hC : C.Ok) {Q : Exit → List AV → AHeap → Prop} {k : List Frame} {env env1 : List AV} {L L1 : AHeap} {id : Nat} {ops : Array Oper} (hw : Weak env L env1 L1) (h : Run C Q k (.region id ops false) env1 L1) : Run C Q k (.region id ops false) env L :=
  Run.sem0 fun _ a w ha => awp_sound hC _ _ _ _ a w h.ok (hw _ _ _ _ ha)
theorem Run.weak1 {C : Cx} (hC : C.Ok) {Q : Exit → List AV → AHeap → Prop} {k : List Frame} {env env1 : List AV} {L L1 : AHeap} {id : Nat} {ops : Array Oper} (hw : Weak env L env1 L1) (h : Run C Q k (.region id ops true) env1 L1) : Run C Q k (.region id ops true) env L :=
  Run.sem1 fun _ a w ha => awp_sound hC _ _ _ _ a w h.ok (hw _ _ _ _ ha)
theorem Sub.sl_sb (k k' g Cp sz n : Nat) : Sub (.sl k g Cp n) (.sb k' g Cp sz 0 n) := fun _ _ _ h => by
  cases h
  exact .sb k' g Cp sz 0 n 0 (fun _ => by simp) (fun _ => rfl)
theorem Sub.sb_sl (k k' g Cp sz n : Nat) : Sub (.sb k g Cp sz 0 n) (.sl k' g Cp n) := fun _ _ _ h => by
  cases h with
  | sb _ _ _ _ _ _ off h1 h0 =>
    obtain rfl : off = 0 := h0 rfl
    exact .sl ..
end Go.Proofs.YtgpbppkmmlclfaaDoor.HB
/-
  DERIVED: THE SHELF's CONTRACTS AT THIS DUMP, IN PLAIN WORDS (tools/lay-plain.mjs out of 'TrydShelf.lean', which tools/lay-shelf.mjs wrote): THE SAME DECLARATIONS UNDER THE SAME NAMES: 'import', 'namespace', 'open', 'def', 'theorem' AND NOTHING ELSE: no command of the shelf's: FOR A HAND-IN. Each laying: the table of numbers ('.._ren') and one theorem, a field a fact of the dump's own or the kernel's comparison; each contract: ONE APPLICATION.
-/
namespace Go.Proofs
open Go.Shelf
def Tryd.lays99_ren : Go.Shelf.Ren := ⟨fun | 99 => 45 | 206 => 58 | n => n, fun | 9 => 9 | 4 => 4 | 3 => 3 | n => n, fun | n => n⟩
theorem Tryd.lays99 : Go.Proofs.Lays.n99 Tryd.prog Tryd.lays99_ren := {
  mixed := by kernel_rfl
  f99 := Tryd.func45.trans (congrArg some (by kernel_rfl))
  f206 := Tryd.func58.trans (congrArg some (by kernel_rfl))
  t3 := Tryd.underlying3
  a3 := Tryd.isAgg3
  z3 := Tryd.sizeOf3
  v3 := Tryd.zeroValue3
  t4 := Tryd.underlying4
  a4 := Tryd.isAgg4
  z4 := Tryd.sizeOf4
  v4 := Tryd.zeroValue4
  t9 := Tryd.underlying9
  a9 := Tryd.isAgg9
  z9 := Tryd.sizeOf9
  v9 := Tryd.zeroValue9 }
open Go.RowKit Go.Lib in
theorem Tryd.strings_HasPrefix (s p : ByteArray) (w : World) :
    Calls Tryd.prog 45 #[.string s, .string p] w fun e w' => e = .returned (.bool (Lib.hasPrefix s.data.toList p.data.toList)) ∧ w' = w := Any.strings_HasPrefix Tryd.lays99 s p w
def Tryd.lays146_ren : Go.Shelf.Ren := ⟨fun | 146 => 46 | 221 => 59 | 268 => 81 | 138 => 82 | 143 => 83 | 195 => 93 | 197 => 94 | 218 => 95 | 219 => 96 | 260 => 99 | 217 => 100 | 225 => 101 | 224 => 102 | 267 => 103 | 266 => 104 | 314 => 105 | n => n, fun | 9 => 9 | 31 => 51 | 3 => 3 | 4 => 4 | 0 => 0 | 105 => 140 | 21 => 21 | 5 => 5 | 46 => 100 | 119 => 147 | 139 => 150 | 138 => 149 | 146 => 151 | 51 => 119 | n => n, fun | 1 => 1 | 3 => 2 | 4 => 3 | n => n⟩
theorem Tryd.lays146 : Go.Proofs.Lays.n146 Tryd.prog Tryd.lays146_ren := {
  mixed := by kernel_rfl
  f138 := Tryd.func82.trans (congrArg some (by kernel_rfl))
  f143 := Tryd.func83.trans (congrArg some (by kernel_rfl))
  f146 := Tryd.func46.trans (congrArg some (by kernel_rfl))
  f195 := Tryd.func93.trans (congrArg some (by kernel_rfl))
  f197 := Tryd.func94.trans (congrArg some (by kernel_rfl))
  f217 := Tryd.func100.trans (congrArg some (by kernel_rfl))
  f218 := Tryd.func95.trans (congrArg some (by kernel_rfl))
  f219 := Tryd.func96.trans (congrArg some (by kernel_rfl))
  f221 := Tryd.func59.trans (congrArg some (by kernel_rfl))
  f224 := Tryd.func102.trans (congrArg some (by kernel_rfl))
  f225 := Tryd.func101.trans (congrArg some (by kernel_rfl))
  f260 := Tryd.func99.trans (congrArg some (by kernel_rfl))
  f266 := Tryd.func104.trans (congrArg some (by kernel_rfl))
  f267 := Tryd.func103.trans (congrArg some (by kernel_rfl))
  f268 := Tryd.func81.trans (congrArg some (by kernel_rfl))
  f314 := Tryd.func105.trans (congrArg some (by kernel_rfl))
  t0 := Tryd.underlying0
  a0 := Tryd.isAgg0
  z0 := Tryd.sizeOf0
  v0 := Tryd.zeroValue0
  t3 := Tryd.underlying3
  a3 := Tryd.isAgg3
  z3 := Tryd.sizeOf3
  v3 := Tryd.zeroValue3
  t4 := Tryd.underlying4
  a4 := Tryd.isAgg4
  z4 := Tryd.sizeOf4
  v4 := Tryd.zeroValue4
  t5 := Tryd.underlying5
  a5 := Tryd.isAgg5
  z5 := Tryd.sizeOf5
  v5 := Tryd.zeroValue5
  t9 := Tryd.underlying9
  a9 := Tryd.isAgg9
  z9 := Tryd.sizeOf9
  v9 := Tryd.zeroValue9
  t21 := Tryd.underlying21
  a21 := Tryd.isAgg21
  z21 := Tryd.sizeOf21
  v21 := Tryd.zeroValue21
  t31 := Tryd.underlying51
  a31 := Tryd.isAgg51
  z31 := Tryd.sizeOf51
  v31 := Tryd.zeroValue51
  t46 := Tryd.underlying100
  a46 := Tryd.isAgg100
  z46 := Tryd.sizeOf100
  v46 := Tryd.zeroValue100
  t51 := Tryd.underlying119
  a51 := Tryd.isAgg119
  z51 := Tryd.sizeOf119
  v51 := Tryd.zeroValue119
  t105 := Tryd.underlying140
  a105 := Tryd.isAgg140
  z105 := Tryd.sizeOf140
  v105 := Tryd.zeroValue140
  t119 := Tryd.underlying147
  a119 := Tryd.isAgg147
  z119 := Tryd.sizeOf147
  t138 := Tryd.underlying149
  a138 := Tryd.isAgg149
  z138 := Tryd.sizeOf149
  v138 := Tryd.zeroValue149
  t139 := Tryd.underlying150
  a139 := Tryd.isAgg150
  z139 := Tryd.sizeOf150
  v139 := Tryd.zeroValue150
  t146 := Tryd.underlying151
  a146 := Tryd.isAgg151
  z146 := Tryd.sizeOf151
  v146 := Tryd.zeroValue151
  g1 := by kernel_rfl
  g3 := by kernel_rfl
  g4 := by kernel_rfl }
open Go.RowKit Go.Lib in
theorem Tryd.strings_Split (s sep : ByteArray) (m : Int) (w : World) (hs : s.size < 4294967281) (hm : w.cell? ⟨1, 0, none⟩ = some (.int .i64 m)) (h1 : 1 ≤ sep.size) :
    Calls Tryd.prog 46 #[.string s, .string sep] w fun e w' =>
      e = .returned (.slice (some ⟨w.heap.size, 0, none⟩) (Lib.countB s sep + 1) (Lib.countB s sep + 1)) ∧ w' = w.alloc (.cells ((Lib.splitB sep 0 (Lib.countB s sep) s).map Value.string).toArray 9) := Any.strings_Split Tryd.lays146 (by kernel_rfl) s sep m w hs hm h1
def Tryd.sortTag_ren : Go.Shelf.Ren := ⟨fun | 6 => 26 | 15 => 49 | 14 => 48 | 28 => 68 | 29 => 69 | 20 => 60 | 21 => 61 | 22 => 62 | 23 => 63 | 24 => 64 | 25 => 65 | 26 => 66 | 27 => 67 | 46 => 84 | 47 => 85 | 48 => 86 | 49 => 87 | 50 => 88 | 57 => 97 | n => n, fun | 22 => 29 | 24 => 37 | 25 => 77 | 3 => 3 | 39 => 100 | 0 => 0 | 53 => 119 | 55 => 121 | 4 => 4 | 46 => 113 | 45 => 112 | 50 => 82 | 5 => 5 | 9 => 9 | 66 => 130 | 70 => 134 | 76 => 143 | 77 => 144 | n => n, fun | n => n⟩
theorem Tryd.sortTag : Go.Proofs.SlLaysF0.n6 Tryd.prog Tryd.sortTag_ren := {
  mixed := by kernel_rfl
  f6 := ⟨Tryd.f26.name, by decide, Tryd.func26.trans (congrArg some (by kernel_rfl))⟩
  f14 := ⟨Tryd.f48.name, by decide, Tryd.func48.trans (congrArg some (by kernel_rfl))⟩
  f15 := Tryd.func49.trans (congrArg some (by kernel_rfl))
  f20 := ⟨Tryd.f60.name, by decide, Tryd.func60.trans (congrArg some (by kernel_rfl))⟩
  f21 := ⟨Tryd.f61.name, by decide, Tryd.func61.trans (congrArg some (by kernel_rfl))⟩
  f22 := ⟨Tryd.f62.name, by decide, Tryd.func62.trans (congrArg some (by kernel_rfl))⟩
  f23 := ⟨Tryd.f63.name, by decide, Tryd.func63.trans (congrArg some (by kernel_rfl))⟩
  f24 := ⟨Tryd.f64.name, by decide, Tryd.func64.trans (congrArg some (by kernel_rfl))⟩
  f25 := ⟨Tryd.f65.name, by decide, Tryd.func65.trans (congrArg some (by kernel_rfl))⟩
  f26 := ⟨Tryd.f66.name, by decide, Tryd.func66.trans (congrArg some (by kernel_rfl))⟩
  f27 := ⟨Tryd.f67.name, by decide, Tryd.func67.trans (congrArg some (by kernel_rfl))⟩
  f28 := Tryd.func68.trans (congrArg some (by kernel_rfl))
  f29 := Tryd.func69.trans (congrArg some (by kernel_rfl))
  f46 := ⟨Tryd.f84.name, by decide, Tryd.func84.trans (congrArg some (by kernel_rfl))⟩
  f47 := Tryd.func85.trans (congrArg some (by kernel_rfl))
  f48 := Tryd.func86.trans (congrArg some (by kernel_rfl))
  f49 := ⟨Tryd.f87.name, by decide, Tryd.func87.trans (congrArg some (by kernel_rfl))⟩
  f50 := ⟨Tryd.f88.name, by decide, Tryd.func88.trans (congrArg some (by kernel_rfl))⟩
  f57 := ⟨Tryd.f97.name, by decide, Tryd.func97.trans (congrArg some (by kernel_rfl))⟩
  t0 := Tryd.underlying0
  a0 := Tryd.isAgg0
  z0 := Tryd.sizeOf0
  v0 := Tryd.zeroValue0
  t3 := Tryd.underlying3
  a3 := Tryd.isAgg3
  z3 := Tryd.sizeOf3
  v3 := Tryd.zeroValue3
  t4 := Tryd.underlying4
  a4 := Tryd.isAgg4
  z4 := Tryd.sizeOf4
  v4 := Tryd.zeroValue4
  t5 := Tryd.underlying5
  a5 := Tryd.isAgg5
  z5 := Tryd.sizeOf5
  v5 := Tryd.zeroValue5
  t9 := Tryd.underlying9
  a9 := Tryd.isAgg9
  z9 := Tryd.sizeOf9
  v9 := Tryd.zeroValue9
  t22 := Tryd.underlying29
  a22 := Tryd.isAgg29
  z22 := Tryd.sizeOf29
  v22 := Tryd.zeroValue29
  t25 := Tryd.underlying77
  a25 := Tryd.isAgg77
  z25 := Tryd.sizeOf77
  v25 := Tryd.zeroValue77
  t39 := Tryd.underlying100
  a39 := Tryd.isAgg100
  z39 := Tryd.sizeOf100
  v39 := Tryd.zeroValue100
  t45 := Tryd.underlying112
  a45 := Tryd.isAgg112
  z45 := Tryd.sizeOf112
  v45 := Tryd.zeroValue112
  t46 := Tryd.underlying113
  a46 := Tryd.isAgg113
  z46 := Tryd.sizeOf113
  v46 := Tryd.zeroValue113
  t50 := Tryd.underlying82
  a50 := Tryd.isAgg82
  z50 := Tryd.sizeOf82
  v50 := Tryd.zeroValue82
  t53 := Tryd.underlying119
  a53 := Tryd.isAgg119
  z53 := Tryd.sizeOf119
  v53 := Tryd.zeroValue119
  t55 := Tryd.underlying121
  a55 := Tryd.isAgg121
  z55 := Tryd.sizeOf121
  v55 := Tryd.zeroValue121
  t66 := Tryd.underlying130
  a66 := Tryd.isAgg130
  z66 := Tryd.sizeOf130
  v66 := Tryd.zeroValue130
  t70 := Tryd.underlying134
  a70 := Tryd.isAgg134
  z70 := Tryd.sizeOf134
  v70 := Tryd.zeroValue134
  t76 := Tryd.underlying143
  a76 := Tryd.isAgg143
  z76 := Tryd.sizeOf143
  v76 := Tryd.zeroValue143
  t77 := Tryd.underlying144
  a77 := Tryd.isAgg144
  z77 := Tryd.sizeOf144
  v77 := Tryd.zeroValue144 }
def Tryd.sortHeld_ren : Go.Shelf.Ren := ⟨fun | 6 => 41 | 15 => 49 | 14 => 57 | 28 => 68 | 29 => 69 | 20 => 73 | 21 => 74 | 22 => 75 | 23 => 76 | 24 => 77 | 25 => 78 | 26 => 79 | 27 => 80 | 46 => 90 | 47 => 85 | 48 => 86 | 49 => 91 | 50 => 92 | 57 => 98 | n => n, fun | 22 => 67 | 24 => 74 | 25 => 94 | 3 => 3 | 39 => 100 | 0 => 0 | 53 => 119 | 55 => 121 | 4 => 4 | 46 => 113 | 45 => 112 | 50 => 82 | 5 => 5 | 9 => 9 | 66 => 130 | 70 => 134 | 76 => 143 | 77 => 144 | n => n, fun | n => n⟩
theorem Tryd.sortHeld : Go.Proofs.SlLaysF0.n6 Tryd.prog Tryd.sortHeld_ren := {
  mixed := by kernel_rfl
  f6 := ⟨Tryd.f41.name, by decide, Tryd.func41.trans (congrArg some (by kernel_rfl))⟩
  f14 := ⟨Tryd.f57.name, by decide, Tryd.func57.trans (congrArg some (by kernel_rfl))⟩
  f15 := Tryd.func49.trans (congrArg some (by kernel_rfl))
  f20 := ⟨Tryd.f73.name, by decide, Tryd.func73.trans (congrArg some (by kernel_rfl))⟩
  f21 := ⟨Tryd.f74.name, by decide, Tryd.func74.trans (congrArg some (by kernel_rfl))⟩
  f22 := ⟨Tryd.f75.name, by decide, Tryd.func75.trans (congrArg some (by kernel_rfl))⟩
  f23 := ⟨Tryd.f76.name, by decide, Tryd.func76.trans (congrArg some (by kernel_rfl))⟩
  f24 := ⟨Tryd.f77.name, by decide, Tryd.func77.trans (congrArg some (by kernel_rfl))⟩
  f25 := ⟨Tryd.f78.name, by decide, Tryd.func78.trans (congrArg some (by kernel_rfl))⟩
  f26 := ⟨Tryd.f79.name, by decide, Tryd.func79.trans (congrArg some (by kernel_rfl))⟩
  f27 := ⟨Tryd.f80.name, by decide, Tryd.func80.trans (congrArg some (by kernel_rfl))⟩
  f28 := Tryd.func68.trans (congrArg some (by kernel_rfl))
  f29 := Tryd.func69.trans (congrArg some (by kernel_rfl))
  f46 := ⟨Tryd.f90.name, by decide, Tryd.func90.trans (congrArg some (by kernel_rfl))⟩
  f47 := Tryd.func85.trans (congrArg some (by kernel_rfl))
  f48 := Tryd.func86.trans (congrArg some (by kernel_rfl))
  f49 := ⟨Tryd.f91.name, by decide, Tryd.func91.trans (congrArg some (by kernel_rfl))⟩
  f50 := ⟨Tryd.f92.name, by decide, Tryd.func92.trans (congrArg some (by kernel_rfl))⟩
  f57 := ⟨Tryd.f98.name, by decide, Tryd.func98.trans (congrArg some (by kernel_rfl))⟩
  t0 := Tryd.underlying0
  a0 := Tryd.isAgg0
  z0 := Tryd.sizeOf0
  v0 := Tryd.zeroValue0
  t3 := Tryd.underlying3
  a3 := Tryd.isAgg3
  z3 := Tryd.sizeOf3
  v3 := Tryd.zeroValue3
  t4 := Tryd.underlying4
  a4 := Tryd.isAgg4
  z4 := Tryd.sizeOf4
  v4 := Tryd.zeroValue4
  t5 := Tryd.underlying5
  a5 := Tryd.isAgg5
  z5 := Tryd.sizeOf5
  v5 := Tryd.zeroValue5
  t9 := Tryd.underlying9
  a9 := Tryd.isAgg9
  z9 := Tryd.sizeOf9
  v9 := Tryd.zeroValue9
  t22 := Tryd.underlying67
  a22 := Tryd.isAgg67
  z22 := Tryd.sizeOf67
  v22 := Tryd.zeroValue67
  t25 := Tryd.underlying94
  a25 := Tryd.isAgg94
  z25 := Tryd.sizeOf94
  v25 := Tryd.zeroValue94
  t39 := Tryd.underlying100
  a39 := Tryd.isAgg100
  z39 := Tryd.sizeOf100
  v39 := Tryd.zeroValue100
  t45 := Tryd.underlying112
  a45 := Tryd.isAgg112
  z45 := Tryd.sizeOf112
  v45 := Tryd.zeroValue112
  t46 := Tryd.underlying113
  a46 := Tryd.isAgg113
  z46 := Tryd.sizeOf113
  v46 := Tryd.zeroValue113
  t50 := Tryd.underlying82
  a50 := Tryd.isAgg82
  z50 := Tryd.sizeOf82
  v50 := Tryd.zeroValue82
  t53 := Tryd.underlying119
  a53 := Tryd.isAgg119
  z53 := Tryd.sizeOf119
  v53 := Tryd.zeroValue119
  t55 := Tryd.underlying121
  a55 := Tryd.isAgg121
  z55 := Tryd.sizeOf121
  v55 := Tryd.zeroValue121
  t66 := Tryd.underlying130
  a66 := Tryd.isAgg130
  z66 := Tryd.sizeOf130
  v66 := Tryd.zeroValue130
  t70 := Tryd.underlying134
  a70 := Tryd.isAgg134
  z70 := Tryd.sizeOf134
  v70 := Tryd.zeroValue134
  t76 := Tryd.underlying143
  a76 := Tryd.isAgg143
  z76 := Tryd.sizeOf143
  v76 := Tryd.zeroValue143
  t77 := Tryd.underlying144
  a77 := Tryd.isAgg144
  z77 := Tryd.sizeOf144
  v77 := Tryd.zeroValue144 }
end Go.Proofs
