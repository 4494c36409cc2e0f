/- The model's own operations do what the abstract ones say. -/
import Derived.Test.YtfohedaadncefaaDoorHbH
namespace Go.Proofs.YtfohedaadncefaaDoor.HB
open Go

section
variable {P : Program} {o : Oper} {a : Act} {w w' : World} {next : Act → World → Prop} {Q : Exit → Act → World → Prop}

theorem addr_add0 (g i : Nat) : (⟨g, 0, none⟩ : Addr).add i = ⟨g, i, none⟩ := by unfold Addr.add; split <;> simp_all
theorem addr_addn (g j i : Nat) : (⟨g, j, none⟩ : Addr).add i = ⟨g, j + i, none⟩ := by unfold Addr.add; split <;> simp_all
theorem addr_add_add (a : Addr) (i j : Nat) : (a.add i).add j = a.add (i + j) := by
  unfold Addr.add
  by_cases h : i = 0
  · subst h; simp
  · by_cases k : j = 0
    · subst k; simp [h]
    · simp [h, k]
      omega

theorem aint_run {env : List AV} {a : Act} {imm : Nat → Prop} {w : World} (he : EnvR imm w env a.tmps) {d : Int} {x : Option Operand} {K : Int → Prop} (h : aint env d x K) :
    ∃ l, K l ∧ ((x.map a.eval = none ∧ l = d) ∨ ∃ k, x.map a.eval = some (.int k l)) := by
  cases x with
  | none => exact ⟨d, h, .inl ⟨rfl, rfl⟩⟩
  | some x =>
    have hx := aeval_VR he x
    simp only [aint] at h
    split at h
    · rename_i k n e
      rw [e] at hx
      generalize hv : a.eval x = v at hx
      cases hx
      exact ⟨n, h, .inr ⟨k, by simp [hv]⟩⟩
    · exact h.elim
end

theorem aslice_sound {C : Cx} (hC : C.Ok) {t : TypeId} {x : AV} {L : AHeap} {env : List AV} {lo hi : Option Operand} {K : AV → Prop} (h : aslice C t x L env lo hi K) {imm : Nat → Prop} {w : World} {a : Act} (hs : Sat imm w L) (he : EnvR imm w env a.tmps) {v : Value} (hx : VR imm w x v) :
    ∃ r u, (∀ w', (Instr.sliceAt t v (lo.map a.eval) (hi.map a.eval) none).run C.P w' = .ok u w') ∧ VR imm w r u ∧ K r := by
  unfold aslice at h
  split at h
  · rename_i z s ht
    cases hx
    have hu := tiOf_one (hC.types _ _ ht)
    obtain ⟨l, h, hl⟩ := aint_run he h
    obtain ⟨hh, h, hhi⟩ := aint_run he h
    obtain ⟨h0, h1, h2, hK⟩ := h
    refine ⟨_, .string (s.extract l.toNat hh.toNat), fun w' => ?_, .str _, hK⟩
    have hb := fun w' => run_bounds (P := C.P) w' false s.size s.size (lo.map a.eval) (hi.map a.eval) l hh hl hhi h0 h1 h2
    simp [Instr.sliceAt, Instr.slice, run_underlying hu, hb]
  · rename_i e sz by_ ea zs k g Cp n ht
    cases hx
    split at h
    · rename_i g' e' sz' C' xs hk
      obtain ⟨rfl, rfl, h⟩ := h
      obtain ⟨l, h, hl⟩ := aint_run he h
      obtain ⟨hh, h, hhi⟩ := aint_run he h
      obtain ⟨rfl, h1, h2, hK⟩ := h
      obtain ⟨hu, j, ze, hj, hsz, _⟩ := tiOf_slice (hC.types _ _ ht)
      cases hs.holds k g' _ hk trivial with
      | row _ _ _ _ vs spare hg hs0 hszz hCC hm hxl hv =>
        have hb := fun w' => run_bounds (P := C.P) w' true n C' (lo.map a.eval) (hi.map a.eval) 0 hh hl hhi (Int.le_refl 0) h1 (by omega)
        refine ⟨_, .slice (some ⟨g', 0, none⟩) hh.toNat C', fun w' => ?_, .sl _ _ _ _, hK⟩
        simp [Instr.sliceAt, Instr.slice, run_underlying hu, hb, run_sizeOf w' hj, Addr.add]
    · exact h.elim
  · rename_i e sz' by_ ea zs sz xs n ht
    split at h
    case isFalse => exact h.elim
    rename_i esz
    subst esz
    obtain ⟨hu, j, ze, hj, hsz, _⟩ := tiOf_slice (hC.types _ _ ht)
    obtain ⟨l, h, hl⟩ := aint_run he h
    obtain ⟨hh, h, hhi⟩ := aint_run he h
    obtain ⟨h0, h1, h2, hK⟩ := h
    cases hx with
    | ro _ _ _ A cap vs hn hcap hszz hvl ha h1c hv =>
      have hb := fun w' => run_bounds (P := C.P) w' true n cap (lo.map a.eval) (hi.map a.eval) l hh hl hhi h0 h1 (by omega)
      refine ⟨_, .slice (if cap = l.toNat then A else A.map (·.add (l.toNat * sz'))) (hh.toNat - l.toNat) (cap - l.toNat), fun w' => ?_, ?_, hK⟩
      · simp [Instr.sliceAt, Instr.slice, run_underlying hu, hb, run_sizeOf w' hj, hsz]
      · have hfl := flats_length hszz
        have hdrop : flats (xs.drop l.toNat) = (flats xs).drop (l.toNat * sz') := by
          have h3 : l.toNat ≤ xs.length := by omega
          have h4 : flats (xs.take l.toNat) ++ flats (xs.drop l.toNat) = flats xs := by rw [← flats_append, List.take_append_drop]
          have h5 : (flats (xs.take l.toNat)).length = l.toNat * sz' := by
            rw [flats_length (fun x hx => hszz x (List.mem_of_mem_take hx)), List.length_take, Nat.min_eq_left h3]
          rw [← h4, ← h5, List.drop_left]
        have hVRs : VRs imm w (flats xs) vs := ⟨hvl, h1c, hv⟩
        have hd := hVRs.drop (l.toNat * sz')
        rw [← hdrop] at hd
        have hnn : (hh - l).toNat = hh.toNat - l.toNat := by omega
        rw [hnn]
        refine .ro sz' (xs.drop l.toNat) _ _ _ (vs.drop (l.toNat * sz')) (by simp; omega) (by simp; omega) (fun x hx => hszz x (List.mem_of_mem_drop hx)) hd.len (fun hp => ?_) hd.one hd.at_
        simp only [List.length_drop] at hp
        obtain ⟨ad, rfl, him, hc⟩ := ha (by omega)
        rw [if_neg (by omega)]
        refine ⟨ad.add (l.toNat * sz'), rfl, ?_, fun j u hj => ?_⟩
        · rw [show (ad.add (l.toNat * sz')).block = ad.block by unfold Addr.add; split <;> rfl]; exact him
        · rw [addr_add_add]
          rw [List.getElem?_drop] at hj
          exact hc _ u hj
  · rename_i e sz by_ ea zs ht
    cases hx
    obtain ⟨hu, j, ze, hj, hsz, _⟩ := tiOf_slice (hC.types _ _ ht)
    obtain ⟨l, h, hl⟩ := aint_run he h
    obtain ⟨hh, h, hhi⟩ := aint_run he h
    obtain ⟨rfl, rfl, hK⟩ := h
    have hb := fun w' => run_bounds (P := C.P) w' true 0 0 (lo.map a.eval) (hi.map a.eval) 0 0 hl hhi (Int.le_refl 0) (Int.le_refl 0) (by omega)
    refine ⟨_, .slice none 0 0, fun w' => ?_, .nils, hK⟩
    simp [Instr.sliceAt, Instr.slice, run_underlying hu, hb, run_sizeOf w' hj]
  · exact h.elim

/-- What is appended. -/
theorem asrc_sound {imm : Nat → Prop} {w : World} {L : AHeap} (hs : Sat imm w L) {x : AV} {v : Value} (hx : VR imm w x v) {sz : Nat} {K : List AV → Prop} (h : asrc L x sz K) :
    ∃ A m c ys news, v = .slice A m c ∧ m = ys.length ∧ K ys ∧ VRs imm w (flats ys) news ∧ (∀ y ∈ ys, (flat y).length = sz) ∧ (0 < m → ∃ ad, A = some ad ∧ ∀ (j : Nat) (u : Value), news[j]? = some u → w.cell? (ad.add j) = some u) ∧ (A = none → m = 0) := by
  have tk : ∀ {xs : List AV} {vs : List Value} {n : Nat}, (∀ x ∈ xs, (flat x).length = sz) → n ≤ xs.length → VRs imm w (flats xs) vs → VRs imm w (flats (xs.take n)) (vs.take (n * sz)) := by
    intro xs vs n h1 h2 h3
    have h4 : flats (xs.take n) ++ flats (xs.drop n) = flats xs := by rw [← flats_append, List.take_append_drop]
    have h5 : (flats (xs.take n)).length = n * sz := by
      rw [flats_length (fun x hx => h1 x (List.mem_of_mem_take hx)), List.length_take, Nat.min_eq_left h2]
    have := h3.take (n * sz)
    rw [← h4, ← h5, List.take_left] at this
    rwa [h5] at this
  cases hx with
  | nils => exact ⟨none, 0, 0, [], [], rfl, rfl, h, .nil _ _, by simp, by simp, fun _ => rfl⟩
  | ro sz' xs n A cap vs hn hcap hsz hvl ha h1c hv =>
    simp only [asrc] at h
    split at h
    case isFalse => exact h.elim
    rename_i e
    subst e
    refine ⟨A, n, cap, xs.take n, vs.take (n * sz'), rfl, by simp; omega, h, tk hsz hn ⟨hvl, h1c, hv⟩, fun y hy => hsz y (List.mem_of_mem_take hy), fun hp => ?_, fun e => ?_⟩
    · obtain ⟨ad, e, _, hc⟩ := ha (by omega)
      refine ⟨ad, e, fun j u hj => hc j u ?_⟩
      rw [List.getElem?_take] at hj
      split at hj
      · exact hj
      · cases hj
    · rcases Nat.eq_zero_or_pos n with h0 | h0
      · exact h0
      · obtain ⟨ad, e', _⟩ := ha (by omega)
        rw [e] at e'; cases e'
  | sl k g Cp n =>
    simp only [asrc] at h
    split at h
    · rename_i g' e sz' C' xs hk
      obtain ⟨rfl, rfl, hn, h⟩ := h
      split at h
      case isFalse => exact h.elim
      rename_i e1
      subst e1
      cases hs.holds k g' _ hk trivial with
      | row _ _ _ _ vs spare hg hs0 hsz hCC hm hxl hv =>
        refine ⟨_, n, C', xs.take n, vs.take (n * sz'), rfl, by simp; omega, h, tk hsz hn hv, fun y hy => hsz y (List.mem_of_mem_take hy), fun _ => ⟨_, rfl, fun j u hj => ?_⟩, fun e => by cases e⟩
        have hlt : j < vs.length := by
          have := (List.getElem?_eq_some_iff.1 hj).1
          simp at this
          omega
        rw [List.getElem?_take] at hj
        split at hj
        · exact cell_at hg 0 j u (by rw [List.drop_zero, List.getElem?_append_left hlt]; exact hj)
        · cases hj
    · exact h.elim
  | _ => exact h.elim

theorem run_append_none {P : Program} (w : World) (t ty e : TypeId) (i : TypeInfo) (ht : P.underlying t = some (.slice e)) (hi : P.info? e = some i) (A : Option Addr) (n cap c : Nat) (hn : n ≤ cap) :
    (Builtin.append_ #[t, t] ty #[.slice A n cap, .slice none 0 c]).run P w = .ok (.slice A n cap) w := by
  cases A <;> simp [Builtin.append_, run_underlying ht, sizeOf, typeInfo, hi, Builtin.lenOf, Builtin.firstCells, hn, storeCells]

/-- The row behind an append. -/
theorem owns_row {imm : Nat → Prop} {w : World} {g : Nat} {e sz Cp : Nat} {xs : List AV} (h : Holds imm w g (.row e sz Cp xs)) :
    ∃ vs, VRs imm w (flats xs) vs ∧ w.ownsRow 0 e sz (.slice (some ⟨g, 0, none⟩) xs.length Cp) xs.length vs ∧ (∀ x ∈ xs, (flat x).length = sz) := by
  cases h with
  | row _ _ _ _ vs spare hg hs0 hsz hCC hm hxl hv =>
    have hl : vs.length = xs.length * sz := by rw [hv.len, flats_length hsz]
    refine ⟨vs, hv, ⟨hl, .inr ⟨g, Cp, _, rfl, Nat.zero_le _, hg, hxl, hm, by simpa using hCC, ?_⟩⟩, hsz⟩
    rw [← hl]
    simp
theorem row_owns {imm : Nat → Prop} {w : World} {g : Nat} {e sz Cp n : Nat} {xs : List AV} {vs : List Value} (hn : n = xs.length) (h : w.ownsRow 0 e sz (.slice (some ⟨g, 0, none⟩) n Cp) n vs) (hs0 : 0 < sz) (hsz : ∀ x ∈ xs, (flat x).length = sz) (hv : VRs imm w (flats xs) vs) :
    Holds imm w g (.row e sz Cp xs) ∧ g < w.heap.size := by
  subst hn
  obtain ⟨hl, h | ⟨g', cap, cur, hv', _, hg, hnc, hcm, hcs, htake⟩⟩ := h
  · cases h.1
  · cases hv'
    have e1 : vs ++ cur.toList.drop vs.length = cur.toList := by
      conv => rhs; rw [← List.take_append_drop (xs.length * sz) cur.toList]
      rw [htake, ← hl]
    refine ⟨.row e sz Cp xs vs (cur.toList.drop vs.length) ?_ hs0 hsz ?_ hcm hnc hv, (Array.getElem?_eq_some_iff.1 hg).1⟩
    · rw [e1, Array.toArray_toList]; exact hg
    · rw [e1]; simpa using hcs

theorem VRs.grown {imm : Nat → Prop} {w w' : World} {L : AHeap} (hs : Sat imm w L) {xs : List AV} {vs : List Value} (h : VRs imm w xs vs) {row : Option Nat} (hg : w.grownBy w' row) (hrow : ∀ g, row = some g → Own L g) : VRs imm w' xs vs :=
  h.mono (fun _ x => x) (fun a ha => World.cell?_of_block (hg.block a.block (hs.immlt _ ha) (fun e => hs.far _ (hrow _ e.symm) ha)))

theorem aappend_sound {P : Program} {imm : Nat → Prop} {w : World} {L : AHeap} (hs : Sat imm w L) {t ty e sz bytes : Nat} (hs0 : 0 < sz) (hb0 : 0 < bytes)
    {s : AV} {v : Value} (hv : VR imm w s v) {ys : List AV} {K : AV → AHeap → Prop} (h : aappend L e sz bytes s ys K) (hys : ∀ y ∈ ys, (flat y).length = sz)
    {news : List Value} (hnews : VRs imm w (flats ys) news) (x : Value) (t' : TypeId)
    (hrun : ∀ (v0 : Value) (n : Nat) (xs0 : List Value), w.ownsRow 0 e sz v0 n xs0 → n + ys.length ≤ maxLen → (n + ys.length) * bytes ≤ 140737488355328 →
      ∃ v' w', (Builtin.append_ #[t, t'] ty #[v0, x]).run P w = .ok v' w' ∧ w'.ownsRow 0 e sz v' (n + ys.length) (xs0 ++ news) ∧ w.grownBy w' v0.ownBlock ∧
        (v' = .slice none 0 0 ↔ v0 = .slice none 0 0 ∧ ys.length = 0) ∧ (v'.ownBlock = v0.ownBlock ∨ v'.ownBlock = some w.heap.size)) :
    ∃ v' w' r L' , (Builtin.append_ #[t, t'] ty #[v, x]).run P w = .ok v' w' ∧ VR imm w' r v' ∧ Sat imm w' L' ∧ Tr (Own L) imm w (Own L') imm w' ∧ K r L' := by
  have hbound : ∀ n : Nat, n * bytes ≤ 140737488355328 → n ≤ maxLen := fun n hn => by
    have := Nat.le_trans (Nat.le_mul_of_pos_right n hb0) hn
    simp only [maxLen]
    omega
  cases hv with
  | nils =>
    simp only [aappend] at h
    obtain ⟨hle, hnil, hcons⟩ := h
    obtain ⟨v', w', hr, hown, hg, hiff, hat⟩ := hrun (.slice none 0 0) 0 [] (World.ownsRow_nil w 0 e sz) (by rw [Nat.zero_add]; exact hbound _ hle) (by rw [Nat.zero_add]; exact hle)
    simp only [Nat.zero_add, List.nil_append] at hown
    have hg' : w.grownBy w' none := by simpa [Value.ownBlock] using hg
    by_cases hy : ys = []
    · have e0 : v' = .slice none 0 0 := hiff.2 ⟨rfl, by simp [hy]⟩
      subst e0
      refine ⟨_, w', _, L, hr, .nils, ?_, ?_, hnil hy⟩
      · exact ⟨fun k g o hk hl => (hs.holds k g o hk hl).mono (fun _ x => x) (fun i hi => hg'.block i (hs.immlt i hi) (by simp)) (hg'.block g (hs.lt g ⟨k, o, hk, hl⟩) (by simp)), hs.apart, hs.far, fun g h => Nat.lt_of_lt_of_le (hs.lt g h) hg'.size, fun g h => Nat.lt_of_lt_of_le (hs.immlt g h) hg'.size⟩
      · exact ⟨hg'.os, hg'.tape, hg'.output, hg'.size, fun i hi _ => hg'.block i hi (by simp), fun _ h => h, fun _ h => .inl h, fun _ h => .inl h⟩
    · have hpos : 0 < ys.length := List.length_pos_iff.2 hy
      have hform : ∃ g cap, v' = .slice (some ⟨g, 0, none⟩) ys.length cap := by
        rcases hown.2 with ⟨_, e⟩ | ⟨g2, C2, cur, e, _⟩
        · omega
        · exact ⟨g2, C2, e⟩
      obtain ⟨g, cap, rfl⟩ := hform
      have hgg : g = w.heap.size := by
        rcases hat with h | h
        · simp [Value.ownBlock] at h
        · simpa [Value.ownBlock] using h
      subst hgg
      have hnews' := hnews.grown (w' := w') hs hg' (by simp)
      obtain ⟨hh, hlt⟩ := row_owns rfl hown hs0 hys hnews'
      exact ⟨_, w', _, _, hr, .sl _ _ _ _, hs.new hlt (fun i hi => hg'.block i hi (by simp)) hh, Tr.new hg' _, hcons hy _ _⟩
  | sl k g Cp n =>
    simp only [aappend] at h
    split at h
    · rename_i g' e' sz' C' xs hk
      split at h
      case isFalse => exact h.elim
      rename_i hee
      obtain ⟨rfl, rfl⟩ := hee
      obtain ⟨rfl, rfl, rfl, hle, h⟩ := h
      obtain ⟨vs, hvs, hown0, hxs⟩ := owns_row (hs.holds k g' _ hk trivial)
      obtain ⟨v', w', hr, hown, hg, hiff, hat⟩ := hrun _ _ _ hown0 (hbound _ hle) hle
      simp only [Value.ownBlock] at hg hat
      have hrow : ∀ g, some g' = some g → Own L g := fun g e => by cases e; exact ⟨k, _, hk, trivial⟩
      have h1 := hvs.grown (w' := w') hs hg hrow
      have h2 := hnews.grown (w' := w') hs hg hrow
      have h3 := h1.append h2
      rw [← flats_append] at h3
      have hform : ∃ g2 C2, v' = .slice (some ⟨g2, 0, none⟩) (xs.length + ys.length) C2 := by
        rcases hown.2 with ⟨e, _⟩ | ⟨g2, C2, cur, e, _⟩
        · exact absurd (hiff.1 e).1 (by simp)
        · exact ⟨g2, C2, e⟩
      obtain ⟨g2, C2, rfl⟩ := hform
      obtain ⟨hh, hlt⟩ := row_owns (xs := xs ++ ys) (by simp) hown hs0 (fun y hy => (List.mem_append.1 hy).elim (hxs y) (hys y)) h3
      have hgg : g2 = g' ∨ w.heap.size ≤ g2 ∧ g2 < w'.heap.size := by
        rcases hat with h | h
        · left; simpa [Value.ownBlock] using h
        · right
          have : g2 = w.heap.size := by simpa [Value.ownBlock] using h
          omega
      exact ⟨_, w', _, _, hr, .sl _ _ _ _, hs.turn hk trivial hg.size (fun i hi hne => hg.block i hi (by simpa using hne)) hgg hh, Tr.turn hk trivial hg (hgg.imp id (·.1)), h g2 C2⟩
    · exact h.elim
  | _ => exact h.elim

end Go.Proofs.YtfohedaadncefaaDoor.HB
