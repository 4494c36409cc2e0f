/- Each of the model's operations does what the abstract one says. -/
import Derived.Test.YtfohedaadncefaaDoorHbI
import Derived.Lib.AppendZeros
namespace Go.Proofs.YtfohedaadncefaaDoor.HB
open Go

theorem args_VR {imm : Nat → Prop} {w : World} {env : List AV} {a : Act} (he : EnvR imm w env a.tmps) (args : Array Operand) :
    (args.map a.eval).toList.length = (args.toList.map (aeval env)).length ∧ ∀ (j : Nat) (x : AV) (v : Value), (args.toList.map (aeval env))[j]? = some x → (args.map a.eval).toList[j]? = some v → VR imm w x v := by
  refine ⟨by simp, fun j x v hx hv => ?_⟩
  rw [List.getElem?_map] at hx
  rw [Array.toList_map, List.getElem?_map] at hv
  cases ho : args.toList[j]? with
  | none => simp [ho] at hx
  | some y =>
    simp [ho] at hx hv
    subst hx; subst hv
    exact aeval_VR he y

theorem Sat.fresh {imm : Nat → Prop} {w w' : World} {L : AHeap} (h : Sat imm w L) (hg : w.grownBy w' none) : Sat imm w' L :=
  ⟨fun k g o hk hl => (h.holds k g o hk hl).mono (fun _ x => x) (fun i hi => hg.block i (h.immlt i hi) (by simp)) (hg.block g (h.lt g ⟨k, o, hk, hl⟩) (by simp)), h.apart, h.far, fun g hg' => Nat.lt_of_lt_of_le (h.lt g hg') hg.size, fun g hg' => Nat.lt_of_lt_of_le (h.immlt g hg') hg.size⟩

open Go.Lib in
theorem run_append_str_at {P : Program} (w : World) (base : Nat) (t u ty e : TypeId) (i : TypeInfo) (ht : P.underlying t = some (.slice e)) (hu : P.underlying u = some .string) (hi : P.info? e = some i) (hz : i.zero = some (.int .u8 0))
    (hsize : i.size = 1) (hby : i.bytes = 1)
    (v : Value) (n : Nat) (xs : List Value) (hown : w.ownsRow base e 1 v n xs) (s : ByteArray)
    (h63 : n + s.size ≤ maxLen) (hbytes : n + s.size ≤ 140737488355328) (hbase : base ≤ w.heap.size) :
    ∃ v' w', (Builtin.append_ #[t, u] ty #[v, .string s]).run P w = .ok v' w' ∧ w'.ownsRow base e 1 v' (n + s.size) (xs ++ strCells s) ∧ w.grownBy w' v.ownBlock ∧
      (v' = .slice none 0 0 ↔ v = .slice none 0 0 ∧ s.size = 0) ∧ (v'.ownBlock = v.ownBlock ∨ v'.ownBlock = some w.heap.size) := by
  obtain ⟨v', w', hr, h1, h2, h3⟩ := run_append_own_string (P := P) w base t u ty e i ht hu hi hz hsize hby v n xs hown s h63 hbytes hbase
  refine ⟨v', w', hr, h1, h2, h3, ?_⟩
  have hsmall : n + s.size ≤ 9223372036854775807 := by simp only [maxLen] at h63; omega
  have hxl : xs.length = n := by simpa using hown.1
  rcases hown.2 with ⟨rfl, rfl⟩ | ⟨g, cap, cur, rfl, hbg, hg, hnc, hcm, hcs, htake⟩
  · by_cases hm : s.size = 0
    · exact .inl (by rw [h3.2 ⟨rfl, hm⟩])
    · have hr2 := run_append_nil_string (P := P) w t u ty e i (.int .u8 0) ht hu hi hz s (by omega) (by omega) (by rw [hby]; omega)
      rw [hr] at hr2
      simp only [Result.ok.injEq] at hr2
      exact .inr (by rw [hr2.1]; rfl)
  · by_cases hroom : n + s.size ≤ cap
    · have hcs' : cur.size = cap := by simpa using hcs
      have hr2 := run_append_room_string (P := P) w t u ty e i ht hu hi hsize g n cap cur hg s hroom (by omega)
      rw [hr] at hr2
      simp only [Result.ok.injEq] at hr2
      exact .inl (by rw [hr2.1]; rfl)
    · have holds : ∀ j u, xs[j]? = some u → w.cell? ((⟨g, 0, none⟩ : Addr).add j) = some u := hown.cells (g := g) rfl
      have hr2 := run_append_grow_string (P := P) w t u ty e i (.int .u8 0) ht hu hi hz ⟨g, 0, none⟩ n cap xs (by rw [hsize]; simpa using hxl) holds s (by omega) (by omega) (by rw [hby]; exact growslice_fits (by omega) (by omega))
      rw [hr] at hr2
      simp only [Result.ok.injEq] at hr2
      exact .inr (by rw [hr2.1]; rfl)

open Go.Lib in
theorem abuiltin_sound {C : Cx} (hC : C.Ok) {b : Builtin} {ts : Array TypeId} {args : Array Operand} {L : AHeap} {env : List AV} {K : AV → AHeap → Prop} (h : abuiltin C b ts (args.toList.map (aeval env)) L K) {imm : Nat → Prop} {w : World} {a : Act} (hs : Sat imm w L) (he : EnvR imm w env a.tmps) (ty : TypeId) (cs : Array Bool) :
    ∃ v w' r L', (builtin b ts ty cs (args.map a.eval)).run C.P w = .ok (.value v) w' ∧ VR imm w' r v ∧ Sat imm w' L' ∧ Tr (Own L) imm w (Own L') imm w' ∧ K r L' := by
  unfold abuiltin at h
  split at h
  · rename_i t x hts hargs
    have hts' : ts = #[t] := by rw [← Array.toArray_toList (xs := ts), hts]
    obtain ⟨ox, hox, rfl⟩ : ∃ ox, args.toList = [ox] ∧ aeval env ox = x := by
      cases hl : args.toList with
      | nil => simp [hl] at hargs
      | cons o1 r => cases r with
        | nil => simp [hl] at hargs; exact ⟨o1, rfl, hargs⟩
        | cons => simp [hl] at hargs
    have hargs' : args.map a.eval = #[a.eval ox] := by rw [← Array.toArray_toList (xs := args.map a.eval), Array.toList_map, hox]; rfl
    have hx := aeval_VR he ox
    have fin : ∀ (n : Nat), (Builtin.len_ #[t] ty #[a.eval ox]).run C.P w = .ok (goInt n) w → K (.int .i64 n) L →
        ∃ v w' r L', (builtin .len ts ty cs (args.map a.eval)).run C.P w = .ok (.value v) w' ∧ VR imm w' r v ∧ Sat imm w' L' ∧ Tr (Own L) imm w (Own L') imm w' ∧ K r L' := fun n hr hk =>
      ⟨_, w, _, L, by rw [hts', hargs']; simp [builtin, hr]; rfl, .int .i64 n, hs, Tr.refl _ _ _, hk⟩
    split at h
    · rename_i z s ht e
      rw [e] at hx
      have hu := tiOf_one (hC.types _ _ ht)
      generalize a.eval ox = v at *
      cases hx
      exact fin _ (by simp [Builtin.len_, run_underlying hu]) h
    · rename_i e' sz by_ ea zs k g Cp n ht e
      rw [e] at hx
      have hu := (tiOf_slice (hC.types _ _ ht)).1
      generalize a.eval ox = v at *
      cases hx
      exact fin _ (by simp [Builtin.len_, run_underlying hu]) h
    · rename_i e' sz by_ ea zs sz' xs n ht e
      rw [e] at hx
      have hu := (tiOf_slice (hC.types _ _ ht)).1
      generalize a.eval ox = v at *
      cases hx
      exact fin _ (by simp [Builtin.len_, run_underlying hu]) h
    · rename_i e' sz by_ ea zs ht e
      rw [e] at hx
      have hu := (tiOf_slice (hC.types _ _ ht)).1
      generalize a.eval ox = v at *
      cases hx
      exact fin 0 (by simp [Builtin.len_, run_underlying hu]) h
    · exact h.elim
  · rename_i t t' s x hts hargs
    have hts' : ts = #[t, t'] := by rw [← Array.toArray_toList (xs := ts), hts]
    obtain ⟨os, ox, hox, rfl, rfl⟩ : ∃ os ox, args.toList = [os, ox] ∧ aeval env os = s ∧ aeval env ox = x := by
      cases hl : args.toList with
      | nil => simp [hl] at hargs
      | cons o1 r => cases r with
        | nil => simp [hl] at hargs
        | cons o2 r => cases r with
          | nil => simp [hl] at hargs; exact ⟨o1, o2, rfl, hargs.1, hargs.2⟩
          | cons => simp [hl] at hargs
    have hargs' : args.map a.eval = #[a.eval os, a.eval ox] := by rw [← Array.toArray_toList (xs := args.map a.eval), Array.toList_map, hox]; rfl
    have hvs := aeval_VR he os
    have hvx := aeval_VR he ox
    split at h
    case h_2 => exact h.elim
    rename_i e sz by_ ea zs ht
    obtain ⟨hu, j, ze, hj, hsz, hby, hze, hzs, hs0, _, _⟩ := tiOf_slice (hC.types _ _ ht)
    split at h
    · exact h.elim
    rename_i hb0
    split at h
    · rename_i e2
      subst e2
      obtain ⟨A, m, c, ys, news, ex, hm, h, hnv, hys, hA, hAn⟩ := asrc_sound hs hvx h
      subst hm
      obtain ⟨v', w', r, L', hr, hrest⟩ := aappend_sound (P := C.P) (t := t) (ty := ty) hs hs0 (by omega) hvs h hys hnv (a.eval ox) t (fun v0 n xs0 hown h63 hbytes => by
        rw [ex]
        rcases Nat.eq_zero_or_pos ys.length with h0 | h0
        · have hy0 : ys = [] := List.eq_nil_of_length_eq_zero h0
          subst hy0
          have hn0 : news = [] := by
            have := hnv.len
            simpa [flats] using this
          subst hn0
          cases A with
          | none =>
            obtain ⟨A0, c0, hv0, hle0⟩ : ∃ A0 c0, v0 = .slice A0 n c0 ∧ n ≤ c0 := by
              rcases hown.2 with ⟨e, e'⟩ | ⟨g, cap, cur, e, _, _, hnc, _⟩
              · subst e'; exact ⟨_, _, e, Nat.le_refl _⟩
              · exact ⟨_, _, e, hnc⟩
            subst hv0
            exact ⟨_, w, run_append_none w t ty e j hu hj _ _ _ _ hle0, by simpa using hown, ⟨rfl, rfl, rfl, Nat.le_refl _, fun _ _ _ => rfl⟩, by simp, .inl rfl⟩
          | some ad =>
            exact run_append_own_at (P := C.P) w 0 t ty e j ze sz by_ hu hj hze hsz hby hzs hs0 v0 n xs0 hown ad [].length c [] (by simp) (by simp) (by simp) h63 hbytes (Nat.zero_le _)
        · obtain ⟨ad, rfl, hc⟩ := hA h0
          exact run_append_own_at (P := C.P) w 0 t ty e j ze sz by_ hu hj hze hsz hby hzs hs0 v0 n xs0 hown ad ys.length c news (by rw [hnv.len, flats_length hys]) hc hnv.one h63 hbytes (Nat.zero_le _))
      exact ⟨v', w', r, L', by rw [hts', hargs']; simp [builtin, hr], hrest⟩
    · split at h
      case h_3 => exact h.elim
      case h_2 =>
        rename_i e1 s1 b1 a1 z1 z2 n ht1 ht2 e2
        split at h
        case h_2 => exact h.elim
        rename_i e3
        obtain ⟨h0, hle, hk⟩ := h
        rw [e2] at hvx
        rw [e3] at hvs
        generalize a.eval ox = vx at *
        generalize a.eval os = vs at *
        cases hvx
        cases hvs
        obtain ⟨m, rfl⟩ : ∃ m : Nat, n = (m : Int) := ⟨n.toNat, by omega⟩
        have hm0 : 0 < m := by omega
        have hle' : m * by_ ≤ 140737488355328 := by have := hle; rw [← Int.natCast_mul] at this; omega
        have hmm : m ≤ 140737488355328 := Nat.le_trans (Nat.le_mul_of_pos_right m (by omega)) hle'
        have hr := run_append_nil_zeros (P := C.P) w t t' ty e j ze .i64 .i64 hu (tiOf_one (hC.types _ _ ht2)) hj hze m hm0 (by omega) (by omega) (by rw [hby]; omega)
        have hg : w.grownBy (w.drew.alloc (.cells (Builtin.zeroCells ze.cells m ++ Builtin.zeroCells ze.cells (grownCap w m 0 e - m)) e)) none := by
          have := World.grownBy_alloc w.drew (.cells (Builtin.zeroCells ze.cells m ++ Builtin.zeroCells ze.cells (grownCap w m 0 e - m)) e) none
          exact ⟨this.os, this.tape, this.output, this.size, this.block⟩
        refine ⟨_, _, .sl L.length w.heap.size (grownCap w m 0 e) m, _, by rw [hts', hargs']; simp only [builtin, hr, Sem.run_bind, Result.andThen_ok]; rfl, .sl _ _ _ _, Sat.new (o := .row e sz (grownCap w m 0 e) []) hs ?_ (fun i hi => hg.block i hi (by simp)) ?_, Tr.new hg _, hk _ _⟩
        · show w.heap.size < (w.drew.heap.push _).size
          rw [Array.size_push]
          exact Nat.lt_succ_self _
        · refine .row e sz _ [] [] ((Builtin.zeroCells ze.cells m).toList ++ (Builtin.zeroCells ze.cells (grownCap w m 0 e - m)).toList) ?_ (by omega) (by simp) ?_ (grownCap_le_maxLen _ _ _ _ (by simp only [maxLen]; omega)) (by simp) (.nil _ _)
          · rw [List.nil_append, ← Array.toList_append, Array.toArray_toList]
            exact heap_alloc_new w.drew _
          · simp only [List.nil_append, List.length_append, Array.length_toList, size_zeroCells, hzs, ← Nat.add_mul]
            have := grownCap_ge w m 0 e
            congr 1
            omega
      rename_i t1 e1 z1 u ht1 ht2 e2
      rw [ht] at ht1
      simp only [Option.some.injEq, TI.slice.injEq] at ht1
      obtain ⟨rfl, rfl, rfl, rfl, hz1⟩ := ht1
      obtain ⟨_, j', ze', hj', hsz', hby', hze', hzs', _, hzz, _, _, hone⟩ := tiOf_slice (hC.types _ _ ht)
      have hu2 := tiOf_one (hC.types _ _ ht2)
      rw [e2] at hvx
      generalize hvv : a.eval ox = v at *
      cases hvx
      have hz8 : ze' = .int .u8 0 := by
        have h1 := hone rfl
        rw [hz1] at hzz
        have h2 : ze'.cells = #[ze'] := by cases ze' <;> first | rfl | cases h1
        rw [h2] at hzz
        simp at hzz
        unfold ofV at hzz
        split at hzz <;> simp_all
      subst hz8
      have hnews : VRs imm w (flats (bytesA u)) (strCells u) := by
        have : flats (bytesA u) = (strCells u).map ofV := by
          unfold bytesA flats strCells
          generalize u.data.toList = l
          induction l with
          | nil => rfl
          | cons b l ih => simpa [flat, ofV] using ih
        rw [this]
        exact map_ofV_VRs imm w _ (strCells_oneCell u)
      have hlenb : (bytesA u).length = u.size := by rw [bytesA, List.length_map, Array.length_toList]; rfl
      obtain ⟨v', w', r, L', hr, hrest⟩ := aappend_sound (P := C.P) (t := t) (ty := ty) hs (by omega) (by omega) hvs h (fun y hy => by simp [bytesA] at hy; obtain ⟨b, _, rfl⟩ := hy; rfl) hnews (.string u) t' (fun v0 n xs0 hown h63 hbytes => by
        rw [hlenb] at h63 hbytes ⊢
        exact run_append_str_at (P := C.P) w 0 t t' ty e j' hu hu2 hj' hze' hsz' hby' v0 n xs0 hown u h63 (by omega) (Nat.zero_le _))
      exact ⟨v', w', r, L', by rw [hts', hargs']; simp [builtin, hr], hrest⟩
  · rename_i t1 t2 k x k' y hts hargs
    obtain ⟨o1, o2, hox, e1, e2⟩ : ∃ o1 o2, args.toList = [o1, o2] ∧ aeval env o1 = .int k x ∧ aeval env o2 = .int k' y := by
      cases hl : args.toList with
      | nil => simp [hl] at hargs
      | cons o1 r => cases r with
        | nil => simp [hl] at hargs
        | cons o2 r => cases r with
          | nil => simp [hl] at hargs; exact ⟨o1, o2, rfl, hargs.1, hargs.2⟩
          | cons => simp [hl] at hargs
    have hargs' : args.map a.eval = #[a.eval o1, a.eval o2] := by rw [← Array.toArray_toList (xs := args.map a.eval), Array.toList_map, hox]; rfl
    have h1 := aeval_VR he o1
    have h2 := aeval_VR he o2
    rw [e1] at h1
    rw [e2] at h2
    generalize a.eval o1 = u at *
    generalize a.eval o2 = v at *
    cases h1
    cases h2
    split at h
    case isFalse => exact h.elim
    rename_i hkk
    subst hkk
    exact ⟨_, w, _, L, by rw [hargs']; simp only [builtin, Sem.run_bind, run_min_int2 w ts ty k k x y, Result.andThen_ok]; rfl, .int k _, hs, Tr.refl _ _ _, h _ rfl⟩
  · rename_i t1 t2 k x k' y hts hargs
    obtain ⟨o1, o2, hox, e1, e2⟩ : ∃ o1 o2, args.toList = [o1, o2] ∧ aeval env o1 = .int k x ∧ aeval env o2 = .int k' y := by
      cases hl : args.toList with
      | nil => simp [hl] at hargs
      | cons o1 r => cases r with
        | nil => simp [hl] at hargs
        | cons o2 r => cases r with
          | nil => simp [hl] at hargs; exact ⟨o1, o2, rfl, hargs.1, hargs.2⟩
          | cons => simp [hl] at hargs
    have hargs' : args.map a.eval = #[a.eval o1, a.eval o2] := by rw [← Array.toArray_toList (xs := args.map a.eval), Array.toList_map, hox]; rfl
    have h1 := aeval_VR he o1
    have h2 := aeval_VR he o2
    rw [e1] at h1
    rw [e2] at h2
    generalize a.eval o1 = u at *
    generalize a.eval o2 = v at *
    cases h1
    cases h2
    split at h
    case isFalse => exact h.elim
    rename_i hkk
    subst hkk
    exact ⟨_, w, _, L, by rw [hargs']; simp only [builtin, Sem.run_bind, run_max_int2 w ts ty k k x y, Result.andThen_ok]; rfl, .int k _, hs, Tr.refl _ _ _, h _ rfl⟩
  · rename_i t x hts hargs
    have hts' : ts = #[t] := by rw [← Array.toArray_toList (xs := ts), hts]
    obtain ⟨ox, hox, rfl⟩ : ∃ ox, args.toList = [ox] ∧ aeval env ox = x := by
      cases hl : args.toList with
      | nil => simp [hl] at hargs
      | cons o1 r => cases r with
        | nil => simp [hl] at hargs; exact ⟨o1, rfl, hargs⟩
        | cons => simp [hl] at hargs
    have hargs' : args.map a.eval = #[a.eval ox] := by rw [← Array.toArray_toList (xs := args.map a.eval), Array.toList_map, hox]; rfl
    have hx := aeval_VR he ox
    have fin : ∀ (n : Nat), (Builtin.cap_ #[t] ty #[a.eval ox]).run C.P w = .ok (goInt n) w → K (.int .i64 n) L →
        ∃ v w' r L', (builtin .cap ts ty cs (args.map a.eval)).run C.P w = .ok (.value v) w' ∧ VR imm w' r v ∧ Sat imm w' L' ∧ Tr (Own L) imm w (Own L') imm w' ∧ K r L' := fun n hr hk =>
      ⟨_, w, _, L, by rw [hts', hargs']; simp [builtin, hr]; rfl, .int .i64 n, hs, Tr.refl _ _ _, hk⟩
    split at h
    · rename_i e' sz by_ ea zs k g Cp n ht e
      rw [e] at hx
      have hu := (tiOf_slice (hC.types _ _ ht)).1
      generalize a.eval ox = v at *
      cases hx
      exact fin _ (by simp [Builtin.cap_, run_underlying hu]) h
    · rename_i e' sz by_ ea zs ht e
      rw [e] at hx
      have hu := (tiOf_slice (hC.types _ _ ht)).1
      generalize a.eval ox = v at *
      cases hx
      exact fin 0 (by simp [Builtin.cap_, run_underlying hu]) h
    · exact h.elim
  · exact h.elim

end Go.Proofs.YtfohedaadncefaaDoor.HB
