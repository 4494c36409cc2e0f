/- Each of the model's operations does what the abstract one says. -/
import Derived.Test.YtfohedaadncefaaDoorHbF
import Derived.Lib.AppendZeros
import Derived.Lib.AppendZerosOnto
namespace Go.Proofs.YtfohedaadncefaaDoor.HB
open Go

theorem args_VR {imm : Nat → Prop} {w : World} {env : List AV} {a : Act} (he : EnvR imm w env a.tmps) (args : Array Operand) :
    (args.map a.eval).toList.length = (args.toList.map (aeval env)).length ∧ ∀ (j : Nat) (x : AV) (v : Value), (args.toList.map (aeval env))[j]? = some x → (args.map a.eval).toList[j]? = some v → VR imm w x v := by
  refine ⟨by simp, fun j x v hx hv => ?_⟩
  rw [List.getElem?_map] at hx
  rw [Array.toList_map, List.getElem?_map] at hv
  cases ho : args.toList[j]? with
  | none => simp [ho] at hx
  | some y =>
    simp [ho] at hx hv
    subst hx; subst hv
    exact aeval_VR he y

theorem Sat.fresh {imm : Nat → Prop} {w w' : World} {L : AHeap} (h : Sat imm w L) (hg : w.grownBy w' none) : Sat imm w' L :=
  ⟨fun k g o hk hl => (h.holds k g o hk hl).mono (fun _ x => x) (fun i hi => hg.block i (h.immlt i hi) (by simp)) (hg.block g (h.lt g ⟨k, o, hk, hl⟩) (by simp)), h.apart, h.far, fun g hg' => Nat.lt_of_lt_of_le (h.lt g hg') hg.size, fun g hg' => Nat.lt_of_lt_of_le (h.immlt g hg') hg.size⟩

theorem flats_drop' {sz : Nat} {xs : List AV} (h : ∀ x ∈ xs, (flat x).length = sz) (l : Nat) : flats (xs.drop l) = (flats xs).drop (l * sz) := by
  by_cases hl : l ≤ xs.length
  · exact flats_drop h hl
  · rw [List.drop_eq_nil_of_le (by omega), List.drop_eq_nil_of_le]
    · rfl
    · rw [flats_length h]
      exact Nat.mul_le_mul_right _ (by omega)

theorem flats_junk (n sz : Nat) : flats (List.replicate n (AV.agg (List.replicate sz .junk))) = List.replicate (n * sz) .junk := by
  induction n with
  | zero => simp [flats]
  | succ n ih => rw [List.replicate_succ, flats_cons, ih, Nat.succ_mul, Nat.add_comm, ← List.replicate_append_replicate]; rfl

/-- A stretch of an own row is written. -/
theorem row_write {imm : Nat → Prop} {w : World} {L : AHeap} (hs : Sat imm w L) {k g e sz Cp : Nat} {xs : List AV} (hk : L[k]? = some (g, .row e sz Cp xs)) {lo : Nat} (hlo : lo ≤ xs.length)
    {ys : List AV} {news : List Value} (hnv : VRs imm w (flats ys) news) (hys : ∀ y ∈ ys, (flat y).length = sz) (hfit : lo + ys.length ≤ Cp) {o' : AObj} (ho : SubO (.row e sz Cp (xs.take lo ++ ys ++ xs.drop (lo + ys.length))) o') :
    ∃ cur : Array Value, w.heap[g]? = some (.cells cur e (0, 0)) ∧ lo * sz + news.length ≤ cur.size ∧ news.length = ys.length * sz ∧
      Sat imm (w.setRow g (cur.toList.take (lo * sz) ++ news ++ cur.toList.drop (lo * sz + news.length)).toArray) (L.set k (g, o')) ∧
      Tr (Own L) imm w (Own (L.set k (g, o'))) imm (w.setRow g (cur.toList.take (lo * sz) ++ news ++ cur.toList.drop (lo * sz + news.length)).toArray) := by
  have hfar := hs.far g ⟨k, _, hk, trivial⟩
  cases hs.holds k g _ hk trivial with
  | row _ _ _ _ vs spare hg hs0 hsz hCC hm hxl hv =>
    have hvl : vs.length = xs.length * sz := by rw [hv.len, flats_length hsz]
    have hnl : news.length = ys.length * sz := by rw [hnv.len, flats_length hys]
    have hm1 : lo * sz ≤ vs.length := by rw [hvl]; exact Nat.mul_le_mul_right _ hlo
    have hm2 : lo * sz + ys.length * sz ≤ Cp * sz := by rw [← Nat.add_mul]; exact Nat.mul_le_mul_right _ hfit
    have hlist : (vs ++ spare).take (lo * sz) ++ news ++ (vs ++ spare).drop (lo * sz + news.length) = (vs.take (lo * sz) ++ news ++ vs.drop ((lo + ys.length) * sz)) ++ spare.drop ((lo + ys.length) * sz - vs.length) := by
      rw [List.take_append_of_le_length hm1, hnl, ← Nat.add_mul, List.drop_append]
      simp
    have h1 := ((hv.take (lo * sz)).append hnv).append (hv.drop ((lo + ys.length) * sz))
    rw [← flats_take hsz hlo, ← flats_drop' hsz, ← flats_append, ← flats_append] at h1
    have h2 := h1.setRow hfar ((vs ++ spare).take (lo * sz) ++ news ++ (vs ++ spare).drop (lo * sz + news.length)).toArray
    have hgn : (w.setRow g ((vs ++ spare).take (lo * sz) ++ news ++ (vs ++ spare).drop (lo * sz + news.length)).toArray).heap[g]? = _ := setRow_heap w g _ _ e _ hg
    refine ⟨_, hg, by simp only [List.size_toArray]; omega, hnl, ?_, ?_⟩
    · refine hs.turn hk trivial (by simp) (fun i _ hi => setRow_other w g i _ hi) (.inl rfl) (ho.holds ?_)
      simp only at hgn ⊢
      refine .row e sz Cp _ _ (spare.drop ((lo + ys.length) * sz - vs.length)) ?_ hs0 (fun y hy => ?_) ?_ hm ?_ h2
      · rw [← hlist]; exact hgn
      · rcases List.mem_append.1 hy with hy | hy
        · rcases List.mem_append.1 hy with hy | hy
          · exact hsz y (List.mem_of_mem_take hy)
          · exact hys y hy
        · exact hsz y (List.mem_of_mem_drop hy)
      · rw [← hlist, ← hCC]
        simp only [List.length_append, List.length_take, List.length_drop]
        simp only [List.length_append] at hCC
        omega
      · simp only [List.length_append, List.length_take, List.length_drop]
        omega
    · exact Tr.turn hk trivial (grownBy_setRow w g _) (.inl rfl)

theorem run_copy_sz {P : Program} (w : World) (dT sT ty elem : TypeId) (g o dLen dCap : Nat) (a : Addr) (sLen sCap m : Nat) (cur : Array Value) (t : TypeId) (cs : List Value) (i : TypeInfo)
    (hu : P.underlying dT = some (.slice elem)) (hi : P.info? elem = some i)
    (hg : w.heap[g]? = some (.cells cur t (0, 0))) (hm : m = Nat.min sLen dLen) (hn : cs.length = m * i.size)
    (hsrc : ∀ j v, cs[j]? = some v → w.cell? (a.add j) = some v) (hfit : o + cs.length ≤ cur.size) (h1 : ∀ v ∈ cs, v.oneCell' = true) :
    (Builtin.copy_ #[dT, sT] ty #[.slice (some ⟨g, o, none⟩) dLen dCap, .slice (some a) sLen sCap]).run P w =
      .ok (goInt m) (w.setRow g (cur.toList.take o ++ cs ++ cur.toList.drop (o + cs.length)).toArray) := by
  have hl := run_firstCells_some (P := P) w i.size m a sLen sCap cs hn hsrc
  have hst := run_storeCells_at P g o t cs 0 cur w hg (by simpa using hfit) h1
  simp only [Nat.add_zero] at hst
  simp [Builtin.copy_, run_underlying hu, Builtin.lenOf, sizeOf, typeInfo, hi, ← hm, hl, hst]

theorem run_copy_zero {P : Program} (w : World) (dT sT ty elem : TypeId) (d a : Addr) (dLen dCap sLen sCap : Nat) (i : TypeInfo)
    (hu : P.underlying dT = some (.slice elem)) (hi : P.info? elem = some i) (hm : 0 = Nat.min sLen dLen) :
    (Builtin.copy_ #[dT, sT] ty #[.slice (some d) dLen dCap, .slice (some a) sLen sCap]).run P w = .ok (goInt 0) w := by
  have hl := run_firstCells_some (P := P) w i.size 0 a sLen sCap [] (by simp) (by simp)
  simp [Builtin.copy_, run_underlying hu, Builtin.lenOf, sizeOf, typeInfo, hi, ← hm, hl, storeCells]

open Go.Lib in
theorem run_append_str_at {P : Program} (w : World) (base : Nat) (t u ty e : TypeId) (i : TypeInfo) (ht : P.underlying t = some (.slice e)) (hu : P.underlying u = some .string) (hi : P.info? e = some i) (hz : i.zero = some (.int .u8 0))
    (hsize : i.size = 1) (hby : i.bytes = 1)
    (v : Value) (n : Nat) (xs : List Value) (hown : w.ownsRow base e 1 v n xs) (s : ByteArray)
    (h63 : n + s.size ≤ maxLen) (hbytes : n + s.size ≤ 140737488355328) (hbase : base ≤ w.heap.size) :
    ∃ v' w', (Builtin.append_ #[t, u] ty #[v, .string s]).run P w = .ok v' w' ∧ w'.ownsRow base e 1 v' (n + s.size) (xs ++ strCells s) ∧ w.grownBy w' v.ownBlock ∧
      (v' = .slice none 0 0 ↔ v = .slice none 0 0 ∧ s.size = 0) ∧ (v'.ownBlock = v.ownBlock ∨ v'.ownBlock = some w.heap.size) := by
  obtain ⟨v', w', hr, h1, h2, h3⟩ := run_append_own_string (P := P) w base t u ty e i ht hu hi hz hsize hby v n xs hown s h63 hbytes hbase
  refine ⟨v', w', hr, h1, h2, h3, ?_⟩
  have hsmall : n + s.size ≤ 9223372036854775807 := by simp only [maxLen] at h63; omega
  have hxl : xs.length = n := by simpa using hown.1
  rcases hown.2 with ⟨rfl, rfl⟩ | ⟨g, cap, cur, rfl, hbg, hg, hnc, hcm, hcs, htake⟩
  · by_cases hm : s.size = 0
    · exact .inl (by rw [h3.2 ⟨rfl, hm⟩])
    · have hr2 := run_append_nil_string (P := P) w t u ty e i (.int .u8 0) ht hu hi hz s (by omega) (by omega) (by rw [hby]; omega)
      rw [hr] at hr2
      simp only [Result.ok.injEq] at hr2
      exact .inr (by rw [hr2.1]; rfl)
  · by_cases hroom : n + s.size ≤ cap
    · have hcs' : cur.size = cap := by simpa using hcs
      have hr2 := run_append_room_string (P := P) w t u ty e i ht hu hi hsize g n cap cur hg s hroom (by omega)
      rw [hr] at hr2
      simp only [Result.ok.injEq] at hr2
      exact .inl (by rw [hr2.1]; rfl)
    · have holds : ∀ j u, xs[j]? = some u → w.cell? ((⟨g, 0, none⟩ : Addr).add j) = some u := hown.cells (g := g) rfl
      have hr2 := run_append_grow_string (P := P) w t u ty e i (.int .u8 0) ht hu hi hz ⟨g, 0, none⟩ n cap xs (by rw [hsize]; simpa using hxl) holds s (by omega) (by omega) (by rw [hby]; exact growslice_fits (by omega) (by omega))
      rw [hr] at hr2
      simp only [Result.ok.injEq] at hr2
      exact .inr (by rw [hr2.1]; rfl)

open Go.Lib in
theorem abuiltin_sound {C : Cx} (hC : C.Ok) {b : Builtin} {ts : Array TypeId} {args : Array Operand} {L : AHeap} {env : List AV} {K : AV → AHeap → Prop} (h : abuiltin C b ts (args.toList.map (aeval env)) L K) {imm : Nat → Prop} {w : World} {a : Act} (hs : Sat imm w L) (he : EnvR imm w env a.tmps) (ty : TypeId) (cs : Array Bool) :
    ∃ v w' r L', (builtin b ts ty cs (args.map a.eval)).run C.P w = .ok (.value v) w' ∧ VR imm w' r v ∧ Sat imm w' L' ∧ Tr (Own L) imm w (Own L') imm w' ∧ K r L' := by
  unfold abuiltin at h
  split at h
  · rename_i t x hts hargs
    have hts' : ts = #[t] := by rw [← Array.toArray_toList (xs := ts), hts]
    obtain ⟨ox, hox, rfl⟩ : ∃ ox, args.toList = [ox] ∧ aeval env ox = x := by
      cases hl : args.toList with
      | nil => simp [hl] at hargs
      | cons o1 r => cases r with
        | nil => simp [hl] at hargs; exact ⟨o1, rfl, hargs⟩
        | cons => simp [hl] at hargs
    have hargs' : args.map a.eval = #[a.eval ox] := by rw [← Array.toArray_toList (xs := args.map a.eval), Array.toList_map, hox]; rfl
    have hx := aeval_VR he ox
    have fin : ∀ (n : Nat), (Builtin.len_ #[t] ty #[a.eval ox]).run C.P w = .ok (goInt n) w → K (.int .i64 n) L →
        ∃ v w' r L', (builtin .len ts ty cs (args.map a.eval)).run C.P w = .ok (.value v) w' ∧ VR imm w' r v ∧ Sat imm w' L' ∧ Tr (Own L) imm w (Own L') imm w' ∧ K r L' := fun n hr hk =>
      ⟨_, w, _, L, by rw [hts', hargs']; simp [builtin, hr]; rfl, .int .i64 n, hs, Tr.refl _ _ _, hk⟩
    split at h
    · rename_i z s ht e
      rw [e] at hx
      have hu := tiOf_one (hC.types _ _ ht)
      generalize a.eval ox = v at *
      cases hx
      exact fin _ (by simp [Builtin.len_, run_underlying hu]) h
    · rename_i e' sz by_ ea zs k g Cp n ht e
      rw [e] at hx
      have hu := (tiOf_slice (hC.types _ _ ht)).1
      generalize a.eval ox = v at *
      cases hx
      exact fin _ (by simp [Builtin.len_, run_underlying hu]) h
    · rename_i e' sz by_ ea zs sz' xs n ht e
      rw [e] at hx
      have hu := (tiOf_slice (hC.types _ _ ht)).1
      generalize a.eval ox = v at *
      cases hx
      exact fin _ (by simp [Builtin.len_, run_underlying hu]) h
    · rename_i e' sz by_ ea zs k g Cp sz0 lo n ht e
      rw [e] at hx
      have hu := (tiOf_slice (hC.types _ _ ht)).1
      generalize a.eval ox = v at *
      cases hx
      exact fin _ (by simp [Builtin.len_, run_underlying hu]) h
    · rename_i e' sz by_ ea zs ht e
      rw [e] at hx
      have hu := (tiOf_slice (hC.types _ _ ht)).1
      generalize a.eval ox = v at *
      cases hx
      exact fin 0 (by simp [Builtin.len_, run_underlying hu]) h
    · exact h.elim
  · rename_i t t' s x hts hargs
    have hts' : ts = #[t, t'] := by rw [← Array.toArray_toList (xs := ts), hts]
    obtain ⟨os, ox, hox, rfl, rfl⟩ : ∃ os ox, args.toList = [os, ox] ∧ aeval env os = s ∧ aeval env ox = x := by
      cases hl : args.toList with
      | nil => simp [hl] at hargs
      | cons o1 r => cases r with
        | nil => simp [hl] at hargs
        | cons o2 r => cases r with
          | nil => simp [hl] at hargs; exact ⟨o1, o2, rfl, hargs.1, hargs.2⟩
          | cons => simp [hl] at hargs
    have hargs' : args.map a.eval = #[a.eval os, a.eval ox] := by rw [← Array.toArray_toList (xs := args.map a.eval), Array.toList_map, hox]; rfl
    have hvs := aeval_VR he os
    have hvx := aeval_VR he ox
    split at h
    case h_2 => exact h.elim
    rename_i e sz by_ ea zs ht
    obtain ⟨hu, j, ze, hj, hsz, hby, hze, hzs, hs0, _, _⟩ := tiOf_slice (hC.types _ _ ht)
    split at h
    · exact h.elim
    rename_i hb0
    split at h
    · rename_i e2
      subst e2
      obtain ⟨A, m, c, ys, news, ex, hm, h, hnv, hys, hA, hAn⟩ := asrc_sound hs hvx h
      subst hm
      obtain ⟨v', w', r, L', hr, hrest⟩ := aappend_sound (P := C.P) (t := t) (ty := ty) hs hs0 (by omega) hvs h hys hnv (a.eval ox) t (fun v0 n xs0 hown h63 hbytes => by
        rw [ex]
        rcases Nat.eq_zero_or_pos ys.length with h0 | h0
        · have hy0 : ys = [] := List.eq_nil_of_length_eq_zero h0
          subst hy0
          have hn0 : news = [] := by
            have := hnv.len
            simpa [flats] using this
          subst hn0
          cases A with
          | none =>
            obtain ⟨A0, c0, hv0, hle0⟩ : ∃ A0 c0, v0 = .slice A0 n c0 ∧ n ≤ c0 := by
              rcases hown.2 with ⟨e, e'⟩ | ⟨g, cap, cur, e, _, _, hnc, _⟩
              · subst e'; exact ⟨_, _, e, Nat.le_refl _⟩
              · exact ⟨_, _, e, hnc⟩
            subst hv0
            exact ⟨_, w, run_append_none w t ty e j hu hj _ _ _ _ hle0, by simpa using hown, ⟨rfl, rfl, rfl, Nat.le_refl _, fun _ _ _ => rfl⟩, by simp, .inl rfl⟩
          | some ad =>
            exact run_append_own_at (P := C.P) w 0 t ty e j ze sz by_ hu hj hze hsz hby hzs hs0 v0 n xs0 hown ad [].length c [] (by simp) (by simp) (by simp) h63 hbytes (Nat.zero_le _)
        · obtain ⟨ad, rfl, hc⟩ := hA h0
          exact run_append_own_at (P := C.P) w 0 t ty e j ze sz by_ hu hj hze hsz hby hzs hs0 v0 n xs0 hown ad ys.length c news (by rw [hnv.len, flats_length hys]) hc hnv.one h63 hbytes (Nat.zero_le _))
        (fun g n Cp cur hg hcs hroom _ => by
          rw [ex]
          have hnl : news.length = ys.length * j.size := by rw [hnv.len, flats_length hys, hsz]
          have hfit : n * j.size + news.length ≤ cur.size := by rw [hnl, hcs, hsz, ← Nat.add_mul]; exact Nat.mul_le_mul_right _ hroom
          cases A with
          | none =>
            have h0 := hAn rfl
            rw [h0] at hroom ⊢
            exact ⟨w, by rw [Nat.add_zero]; exact run_append_none w t ty e j hu hj _ _ _ _ (by omega)⟩
          | some ad =>
            have hc : ∀ (q : Nat) (u : Value), news[q]? = some u → w.cell? (ad.add q) = some u := by
              rcases Nat.eq_zero_or_pos ys.length with h0 | h0
              · intro q u hq
                have : news = [] := List.eq_nil_of_length_eq_zero (by rw [hnl, h0]; simp)
                simp [this] at hq
              · obtain ⟨ad', e', hc⟩ := hA h0
                cases e'
                exact hc
            exact ⟨_, run_append_room (P := C.P) w t ty e j hu hj g n Cp cur hg ad ys.length c news hnl hc hnv.one hroom hfit⟩)
      exact ⟨v', w', r, L', by rw [hts', hargs']; simp [builtin, hr], hrest⟩
    · split at h
      case h_3 => exact h.elim
      case h_2 =>
        rename_i e1 s1 b1 a1 z1 z2 n ht1 ht2 e2
        split at h
        case h_3 => exact h.elim
        case h_2 =>
          rename_i k g Cp sz0 lo m e3
          split at h
          case h_2 => exact h.elim
          rename_i g' e' sz' C' xs hk
          split at h
          case isFalse => exact h.elim
          rename_i hee
          obtain ⟨rfl, rfl, rfl⟩ := hee
          obtain ⟨rfl, rfl, rfl, hm, h0, hlt, hle, hK⟩ := h
          rw [e2] at hvx
          rw [e3] at hvs
          generalize a.eval ox = vx at *
          generalize a.eval os = vs at *
          cases hvx
          cases hvs with
          | sb _ _ _ _ _ _ off e1' e0' =>
          have hoff := e0' rfl
          subst hoff
          obtain ⟨q, rfl⟩ : ∃ q : Nat, n = (q : Int) := ⟨n.toNat, by omega⟩
          have hq0 : 0 < q := by omega
          have hle' : (m + q) * by_ ≤ 140737488355328 := by
            have h5 := hle
            rw [← Int.natCast_add, ← Int.natCast_mul] at h5
            omega
          have hmm : m + q ≤ 140737488355328 := Nat.le_trans (Nat.le_mul_of_pos_right _ (by omega)) hle'
          have hqb : q * by_ ≤ 140737488355328 := Nat.le_trans (Nat.mul_le_mul_right _ (by omega)) hle'
          obtain ⟨olds, b1, b2, b3, b4⟩ := row_part (hs.holds k g' _ hk trivial) (lo := 0) (n := m) (by omega)
          rw [List.drop_zero] at b1 b3
          have hold : (Builtin.firstCells j.size m (.slice (some ⟨g', 0, none⟩) m C')).run C.P w.drew = .ok olds.toArray w.drew :=
            run_firstCells_some (P := C.P) w.drew j.size m ⟨g', 0, none⟩ m C' olds (by rw [b2, hsz]) (fun q u hq => by have := b4 q u hq; simpa using this)
          have hr := Lib.run_append_grow_zeros (P := C.P) w t t' ty e' j ze .i64 .i64 hu (tiOf_one (hC.types _ _ ht2)) hj hze (some ⟨g', 0, none⟩) m C' olds hold q hq0 (by omega) (by omega) (by omega) (by rw [hby]; omega) (by rw [hby]; exact growslice_fits (by omega) (by omega))
          have hg : w.grownBy (w.drew.alloc (.cells (olds.toArray ++ Builtin.zeroCells ze.cells q ++ Builtin.zeroCells ze.cells (grownCap w (m + q) C' e' - (m + q))) e')) none := by
            have := World.grownBy_alloc w.drew (.cells (olds.toArray ++ Builtin.zeroCells ze.cells q ++ Builtin.zeroCells ze.cells (grownCap w (m + q) C' e' - (m + q))) e') none
            exact ⟨this.os, this.tape, this.output, this.size, this.block⟩
          have hge := grownCap_ge w (m + q) C' e'
          refine ⟨_, _, .sb L.length w.heap.size (grownCap w (m + q) C' e') sz0 0 (m + q), _, by rw [hts', hargs']; simp only [builtin, hr, Sem.run_bind, Result.andThen_ok, Nat.sub_zero]; rfl, .sb _ _ _ _ _ _ 0 (fun _ => by simp) (fun _ => rfl), Sat.new (o := .row e' sz0 (grownCap w (m + q) C' e') (xs.take m)) hs ?_ (fun i hi => hg.block i hi (by simp)) ?_, Tr.new hg _, by simpa using hK _ _ hge⟩
          · show w.heap.size < (w.drew.heap.push _).size
            rw [Array.size_push]
            exact Nat.lt_succ_self _
          · refine .row e' sz0 _ _ olds ((Builtin.zeroCells ze.cells q).toList ++ (Builtin.zeroCells ze.cells (grownCap w (m + q) C' e' - (m + q))).toList) ?_ (by omega) b3 ?_ (grownCap_le_maxLen _ _ _ _ (by simp only [maxLen]; omega)) (by rw [List.length_take]; omega) (b1.grown hs hg (by simp))
            · have e5 : olds ++ ((Builtin.zeroCells ze.cells q).toList ++ (Builtin.zeroCells ze.cells (grownCap w (m + q) C' e' - (m + q))).toList) = (olds.toArray ++ Builtin.zeroCells ze.cells q ++ Builtin.zeroCells ze.cells (grownCap w (m + q) C' e' - (m + q))).toList := by simp
              rw [e5, Array.toArray_toList]
              exact heap_alloc_new w.drew _
            · simp only [List.length_append, Array.length_toList, size_zeroCells, hzs, b2, ← Nat.add_mul]
              congr 1
              omega
        rename_i e3
        obtain ⟨h0, hle, hk⟩ := h
        rw [e2] at hvx
        rw [e3] at hvs
        generalize a.eval ox = vx at *
        generalize a.eval os = vs at *
        cases hvx
        cases hvs
        obtain ⟨m, rfl⟩ : ∃ m : Nat, n = (m : Int) := ⟨n.toNat, by omega⟩
        have hm0 : 0 < m := by omega
        have hle' : m * by_ ≤ 140737488355328 := by have := hle; rw [← Int.natCast_mul] at this; omega
        have hmm : m ≤ 140737488355328 := Nat.le_trans (Nat.le_mul_of_pos_right m (by omega)) hle'
        have hr := run_append_nil_zeros (P := C.P) w t t' ty e j ze .i64 .i64 hu (tiOf_one (hC.types _ _ ht2)) hj hze m hm0 (by omega) (by omega) (by rw [hby]; omega)
        have hg : w.grownBy (w.drew.alloc (.cells (Builtin.zeroCells ze.cells m ++ Builtin.zeroCells ze.cells (grownCap w m 0 e - m)) e)) none := by
          have := World.grownBy_alloc w.drew (.cells (Builtin.zeroCells ze.cells m ++ Builtin.zeroCells ze.cells (grownCap w m 0 e - m)) e) none
          exact ⟨this.os, this.tape, this.output, this.size, this.block⟩
        refine ⟨_, _, .sl L.length w.heap.size (grownCap w m 0 e) m, _, by rw [hts', hargs']; simp only [builtin, hr, Sem.run_bind, Result.andThen_ok]; rfl, .sl _ _ _ _, Sat.new (o := .row e sz (grownCap w m 0 e) []) hs ?_ (fun i hi => hg.block i hi (by simp)) ?_, Tr.new hg _, hk _ _⟩
        · show w.heap.size < (w.drew.heap.push _).size
          rw [Array.size_push]
          exact Nat.lt_succ_self _
        · refine .row e sz _ [] [] ((Builtin.zeroCells ze.cells m).toList ++ (Builtin.zeroCells ze.cells (grownCap w m 0 e - m)).toList) ?_ (by omega) (by simp) ?_ (grownCap_le_maxLen _ _ _ _ (by simp only [maxLen]; omega)) (by simp) (.nil _ _)
          · rw [List.nil_append, ← Array.toList_append, Array.toArray_toList]
            exact heap_alloc_new w.drew _
          · simp only [List.nil_append, List.length_append, Array.length_toList, size_zeroCells, hzs, ← Nat.add_mul]
            have := grownCap_ge w m 0 e
            congr 1
            omega
      rename_i t1 e1 z1 u ht1 ht2 e2
      rw [ht] at ht1
      simp only [Option.some.injEq, TI.slice.injEq] at ht1
      obtain ⟨rfl, rfl, rfl, rfl, hz1⟩ := ht1
      obtain ⟨_, j', ze', hj', hsz', hby', hze', hzs', _, hzz, _, _, hone⟩ := tiOf_slice (hC.types _ _ ht)
      have hu2 := tiOf_one (hC.types _ _ ht2)
      rw [e2] at hvx
      generalize hvv : a.eval ox = v at *
      cases hvx
      have hz8 : ze' = .int .u8 0 := by
        have h1 := hone rfl
        rw [hz1] at hzz
        have h2 : ze'.cells = #[ze'] := by cases ze' <;> first | rfl | cases h1
        rw [h2] at hzz
        simp at hzz
        unfold ofV at hzz
        split at hzz <;> simp_all
      subst hz8
      have hnews : VRs imm w (flats (bytesA u)) (strCells u) := by
        have : flats (bytesA u) = (strCells u).map ofV := by
          unfold bytesA flats strCells
          generalize u.data.toList = l
          induction l with
          | nil => rfl
          | cons b l ih => simpa [flat, ofV] using ih
        rw [this]
        exact map_ofV_VRs imm w _ (strCells_oneCell u)
      have hlenb : (bytesA u).length = u.size := by rw [bytesA, List.length_map, Array.length_toList]; rfl
      obtain ⟨v', w', r, L', hr, hrest⟩ := aappend_sound (P := C.P) (t := t) (ty := ty) hs (by omega) (by omega) hvs h (fun y hy => by simp [bytesA] at hy; obtain ⟨b, _, rfl⟩ := hy; rfl) hnews (.string u) t' (fun v0 n xs0 hown h63 hbytes => by
        rw [hlenb] at h63 hbytes ⊢
        exact run_append_str_at (P := C.P) w 0 t t' ty e j' hu hu2 hj' hze' hsz' hby' v0 n xs0 hown u h63 (by omega) (Nat.zero_le _))
        (fun g n Cp cur hg hcs hroom _ => by
          rw [hlenb] at hroom ⊢
          exact ⟨_, Lib.run_append_room_string (P := C.P) w t t' ty e j' hu hu2 hj' hsz' g n Cp cur hg u hroom (by omega)⟩)
      exact ⟨v', w', r, L', by rw [hts', hargs']; simp [builtin, hr], hrest⟩
  · rename_i t1 t2 k x k' y hts hargs
    obtain ⟨o1, o2, hox, e1, e2⟩ : ∃ o1 o2, args.toList = [o1, o2] ∧ aeval env o1 = .int k x ∧ aeval env o2 = .int k' y := by
      cases hl : args.toList with
      | nil => simp [hl] at hargs
      | cons o1 r => cases r with
        | nil => simp [hl] at hargs
        | cons o2 r => cases r with
          | nil => simp [hl] at hargs; exact ⟨o1, o2, rfl, hargs.1, hargs.2⟩
          | cons => simp [hl] at hargs
    have hargs' : args.map a.eval = #[a.eval o1, a.eval o2] := by rw [← Array.toArray_toList (xs := args.map a.eval), Array.toList_map, hox]; rfl
    have h1 := aeval_VR he o1
    have h2 := aeval_VR he o2
    rw [e1] at h1
    rw [e2] at h2
    generalize a.eval o1 = u at *
    generalize a.eval o2 = v at *
    cases h1
    cases h2
    split at h
    case isFalse => exact h.elim
    rename_i hkk
    subst hkk
    exact ⟨_, w, _, L, by rw [hargs']; simp only [builtin, Sem.run_bind, run_min_int2 w ts ty k k x y, Result.andThen_ok]; rfl, .int k _, hs, Tr.refl _ _ _, h _ rfl⟩
  · rename_i t1 t2 k x k' y hts hargs
    obtain ⟨o1, o2, hox, e1, e2⟩ : ∃ o1 o2, args.toList = [o1, o2] ∧ aeval env o1 = .int k x ∧ aeval env o2 = .int k' y := by
      cases hl : args.toList with
      | nil => simp [hl] at hargs
      | cons o1 r => cases r with
        | nil => simp [hl] at hargs
        | cons o2 r => cases r with
          | nil => simp [hl] at hargs; exact ⟨o1, o2, rfl, hargs.1, hargs.2⟩
          | cons => simp [hl] at hargs
    have hargs' : args.map a.eval = #[a.eval o1, a.eval o2] := by rw [← Array.toArray_toList (xs := args.map a.eval), Array.toList_map, hox]; rfl
    have h1 := aeval_VR he o1
    have h2 := aeval_VR he o2
    rw [e1] at h1
    rw [e2] at h2
    generalize a.eval o1 = u at *
    generalize a.eval o2 = v at *
    cases h1
    cases h2
    split at h
    case isFalse => exact h.elim
    rename_i hkk
    subst hkk
    exact ⟨_, w, _, L, by rw [hargs']; simp only [builtin, Sem.run_bind, run_max_int2 w ts ty k k x y, Result.andThen_ok]; rfl, .int k _, hs, Tr.refl _ _ _, h _ rfl⟩
  · rename_i t x hts hargs
    have hts' : ts = #[t] := by rw [← Array.toArray_toList (xs := ts), hts]
    obtain ⟨ox, hox, rfl⟩ : ∃ ox, args.toList = [ox] ∧ aeval env ox = x := by
      cases hl : args.toList with
      | nil => simp [hl] at hargs
      | cons o1 r => cases r with
        | nil => simp [hl] at hargs; exact ⟨o1, rfl, hargs⟩
        | cons => simp [hl] at hargs
    have hargs' : args.map a.eval = #[a.eval ox] := by rw [← Array.toArray_toList (xs := args.map a.eval), Array.toList_map, hox]; rfl
    have hx := aeval_VR he ox
    have fin : ∀ (n : Nat), (Builtin.cap_ #[t] ty #[a.eval ox]).run C.P w = .ok (goInt n) w → K (.int .i64 n) L →
        ∃ v w' r L', (builtin .cap ts ty cs (args.map a.eval)).run C.P w = .ok (.value v) w' ∧ VR imm w' r v ∧ Sat imm w' L' ∧ Tr (Own L) imm w (Own L') imm w' ∧ K r L' := fun n hr hk =>
      ⟨_, w, _, L, by rw [hts', hargs']; simp [builtin, hr]; rfl, .int .i64 n, hs, Tr.refl _ _ _, hk⟩
    split at h
    · rename_i e' sz by_ ea zs k g Cp n ht e
      rw [e] at hx
      have hu := (tiOf_slice (hC.types _ _ ht)).1
      generalize a.eval ox = v at *
      cases hx
      exact fin _ (by simp [Builtin.cap_, run_underlying hu]) h
    · rename_i e' sz by_ ea zs ht e
      rw [e] at hx
      have hu := (tiOf_slice (hC.types _ _ ht)).1
      generalize a.eval ox = v at *
      cases hx
      exact fin 0 (by simp [Builtin.cap_, run_underlying hu]) h
    · rename_i e' sz by_ ea zs k g Cp sz0 lo n ht e
      rw [e] at hx
      have hu := (tiOf_slice (hC.types _ _ ht)).1
      generalize a.eval ox = v at *
      cases hx
      exact fin _ (by simp [Builtin.cap_, run_underlying hu]) h
    · exact h.elim
  · -- copy
    rename_i t t' d x hts hargs
    have hts' : ts = #[t, t'] := by rw [← Array.toArray_toList (xs := ts), hts]
    obtain ⟨od, ox, hox, rfl, rfl⟩ : ∃ od ox, args.toList = [od, ox] ∧ aeval env od = d ∧ aeval env ox = x := by
      cases hl : args.toList with
      | nil => simp [hl] at hargs
      | cons o1 r => cases r with
        | nil => simp [hl] at hargs
        | cons o2 r => cases r with
          | nil => simp [hl] at hargs; exact ⟨o1, o2, rfl, hargs.1, hargs.2⟩
          | cons => simp [hl] at hargs
    have hargs' : args.map a.eval = #[a.eval od, a.eval ox] := by rw [← Array.toArray_toList (xs := args.map a.eval), Array.toList_map, hox]; rfl
    have hvd := aeval_VR he od
    have hvx := aeval_VR he ox
    split at h
    case h_2 => exact h.elim
    rename_i e sz by_ ea zs k g Cp sz0 lo n k' g' Cp' sz0' lo' n' ht e1 e2
    split at h
    case h_2 => exact h.elim
    rename_i hg1 e3 sz1 C1 xs hg2 e4 sz2 C2 xs' hk hk'
    split at h
    case isFalse => exact h.elim
    rename_i hee
    obtain ⟨rfl, rfl, rfl, rfl, rfl⟩ := hee
    obtain ⟨rfl, rfl, rfl, rfl, hlo, hfit, hsrc, hK⟩ := h _ rfl
    rw [e1] at hvd
    rw [e2] at hvx
    generalize a.eval od = vd at *
    generalize a.eval ox = vx at *
    obtain ⟨hu, j, ze, hj, hsz, hby, hze, hzs, hs0, _, _⟩ := tiOf_slice (hC.types _ _ ht)
    cases hvd with
    | sb _ _ _ _ _ _ off f1 f0 =>
    cases hvx with
    | sb _ _ _ _ _ _ off' f1' f0' =>
    generalize hm : min n' n = m at *
    have hlt' : xs'.length ≤ C2 := by cases hs.holds k' _ _ hk' trivial; assumption
    obtain ⟨news, b1, b2, b3, b4⟩ := row_part (hs.holds k' _ _ hk' trivial) hsrc
    have hml : ((xs'.drop lo').take m).length = m := by simp; omega
    rcases Nat.eq_zero_or_pos m with h0 | h0
    · subst h0
      refine ⟨_, w, _, L, by rw [hts', hargs']; simp only [builtin, run_copy_zero w t t' ty e3 _ _ n _ n' _ j hu hj hm.symm, Sem.run_bind, Result.andThen_ok]; rfl, .int .i64 0, hs, Tr.refl _ _ _, ?_⟩
      have e5 : xs.take lo ++ (xs'.drop lo').take 0 ++ xs.drop (lo + 0) = xs := by simp
      rw [e5] at hK
      have e6 : L.set k (hg1, .row e3 sz0' C1 xs) = L := by
        apply List.ext_getElem?
        intro i
        rw [List.getElem?_set]
        split
        · rename_i hi
          subst hi
          rw [hk]
          split
          · rfl
          · rename_i hi2
            exact absurd (List.getElem?_eq_some_iff.1 hk).1 hi2
        · rfl
      rw [e6] at hK
      exact hK
    · obtain ⟨cur, c1, c2, c3, c4, c5⟩ := row_write hs hk hlo b1 b3 (by rw [hml]; exact hfit) (SubO.rowR _ _ _ _)
      rw [hml] at c3 c4 c5
      have hr := run_copy_sz (P := C.P) w t t' ty e3 hg1 (lo * sz0') n (C1 - lo) ⟨hg2, lo' * sz0', none⟩ n' (C2 - lo') m cur e3 news j hu hj c1 hm.symm (by rw [b2, hsz]) b4 c2 b1.one
      have g1 : off = lo * sz0' := f1 (by omega)
      have g2 : off' = lo' * sz0' := f1' (by omega)
      subst g1
      subst g2
      exact ⟨_, _, _, _, by rw [hts', hargs']; simp only [builtin, hr, Sem.run_bind, Result.andThen_ok]; rfl, .int .i64 m, c4, c5, hK⟩
  · -- clear
    rename_i t x hts hargs
    have hts' : ts = #[t] := by rw [← Array.toArray_toList (xs := ts), hts]
    obtain ⟨ox, hox, rfl⟩ : ∃ ox, args.toList = [ox] ∧ aeval env ox = x := by
      cases hl : args.toList with
      | nil => simp [hl] at hargs
      | cons o1 r => cases r with
        | nil => simp [hl] at hargs; exact ⟨o1, rfl, hargs⟩
        | cons => simp [hl] at hargs
    have hargs' : args.map a.eval = #[a.eval ox] := by rw [← Array.toArray_toList (xs := args.map a.eval), Array.toList_map, hox]; rfl
    have hvx := aeval_VR he ox
    split at h
    case h_2 => exact h.elim
    rename_i e sz by_ ea zs k g Cp sz0 lo n ht e1
    split at h
    case h_2 => exact h.elim
    rename_i hg1 e3 sz1 C1 xs hk
    split at h
    case isFalse => exact h.elim
    rename_i hee
    obtain ⟨rfl, rfl, rfl⟩ := hee
    obtain ⟨rfl, rfl, hlo, hfit, hK⟩ := h
    rw [e1] at hvx
    generalize a.eval ox = vx at *
    obtain ⟨hu, j, ze, hj, hsz, hby, hze, hzs, hs0, hzo, hz1, _⟩ := tiOf_slice (hC.types _ _ ht)
    cases hvx with
    | sb _ _ _ _ _ _ off f1 f0 =>
    rcases Nat.eq_zero_or_pos n with h0 | h0
    · subst h0
      refine ⟨.tuple #[], w, .junk, _, by rw [hts', hargs']; simp [builtin, Builtin.clear_, run_underlying hu], .junk _, ?_, ?_, hK⟩
      · exact hs.turn hk trivial (Nat.le_refl _) (fun _ _ _ => rfl) (.inl rfl) ((SubO.rowT _ _ _ _ lo).holds (hs.holds k _ _ hk trivial))
      · exact Tr.turn hk trivial ⟨rfl, rfl, rfl, Nat.le_refl _, fun _ _ _ => rfl⟩ (.inl rfl)
    · have hzc1 : ∀ u ∈ (Builtin.zeroCells ze.cells n).toList, u.oneCell' = true := by
        intro u hu'
        simp only [Builtin.zeroCells, Array.toList_map, List.mem_map] at hu'
        obtain ⟨i, _, rfl⟩ := hu'
        have hlt : i % ze.cells.size < ze.cells.size := Nat.mod_lt _ (by omega)
        rw [getElem!_pos ze.cells _ hlt]
        exact hz1 _ (by simp)
      have hflat := flats_junk n sz0
      have hVRs : VRs imm w (flats (List.replicate n (AV.agg (List.replicate sz0 .junk)))) (Builtin.zeroCells ze.cells n).toList := by
        rw [hflat]
        refine ⟨by simp [size_zeroCells, hzs], hzc1, fun i y u hy hu' => ?_⟩
        rw [List.getElem?_replicate] at hy
        split at hy
        · cases hy; exact .junk _
        · cases hy
      have htk : (xs.take lo ++ List.replicate n (AV.agg (List.replicate sz0 .junk)) ++ xs.drop (lo + (List.replicate n (AV.agg (List.replicate sz0 .junk))).length)).take lo = xs.take lo := by
        have e9 : (xs.take lo).length = lo := by rw [List.length_take]; omega
        rw [List.append_assoc, List.take_append_of_le_length (by omega), List.take_take, Nat.min_self]
      have hsub := SubO.rowT e3 sz0 C1 (xs.take lo ++ List.replicate n (AV.agg (List.replicate sz0 .junk)) ++ xs.drop (lo + (List.replicate n (AV.agg (List.replicate sz0 .junk))).length)) lo
      rw [htk] at hsub
      obtain ⟨cur, c1, c2, c3, c4, c5⟩ := row_write hs hk hlo hVRs (fun y hy => by rw [List.eq_of_mem_replicate hy]; simp [flat]) (by simpa using hfit) hsub
      have g1 : off = lo * sz0 := f1 (by omega)
      subst g1
      have hst := run_storeCells_at C.P hg1 (lo * sz0) e3 _ 0 cur w c1 (by simpa using c2) hzc1
      obtain ⟨n1, rfl⟩ : ∃ n1, n = n1 + 1 := ⟨n - 1, by omega⟩
      have hzv : ∀ w', (zeroValue e3).run C.P w' = .ok ze w' := fun w' => by simp [zeroValue, typeInfo, hj, hze]
      exact ⟨.tuple #[], _, .junk, _, by rw [hts', hargs']; simp [builtin, Builtin.clear_, run_underlying hu, hzv, hst], .junk _, c4, c5, hK⟩
  · exact h.elim

end Go.Proofs.YtfohedaadncefaaDoor.HB
/- Every operation of the model does what the abstract one says. -/
namespace Go.Proofs.YtfohedaadncefaaDoor.HB
open Go

theorem run_field_part {P : Program} (w : World) {t : TypeId} {i : TypeInfo} {d : TypeDesc} (hi : P.info? t = some i) (hd : P.underlying t = some d) (cs : Array Value) (off : Nat) :
    (part t cs off).run P w = if aggD d then .ok (.agg (cs.extract off (off + i.size))) w else (match cs[off]? with
      | some v => .ok v w
      | none => (stuck "part: no such cell" : Sem Value).run P w) := by
  unfold part
  rw [Sem.run_bind, run_isAgg w hd, Result.andThen_ok]
  split
  · rw [Sem.run_bind, run_sizeOf w hi]; rfl
  · cases hc : cs[off]? <;> rfl

theorem partsOk_spec {sz : Nat} {imm : Nat → Prop} {w : World} : ∀ (ps : List (Nat × AV)) (vs : List Value) (j : Nat), partsOk sz ps j = true → vs.length = ps.length →
    (∀ (k : Nat) (p : Nat × AV) (v : Value), ps[k]? = some p → vs[k]? = some v → VR imm w p.2 v) →
    (ps.map (·.1) = List.range' j ps.length) ∧ (∀ p ∈ ps, (flat p.2).length = sz) ∧ (∀ v ∈ vs, v.cells.size = sz) ∧ VRs imm w (flats (ps.map (·.2))) (vs.flatMap fun v => v.cells.toList)
  | [], vs, j, _, hl, _ => by
    have : vs = [] := List.eq_nil_of_length_eq_zero (by simpa using hl)
    subst this
    exact ⟨rfl, by simp, by simp, .nil _ _⟩
  | (i, x) :: ps, [], j, _, hl, _ => by simp at hl
  | (i, x) :: ps, v :: vs, j, h, hl, hv => by
    simp only [partsOk, Bool.and_eq_true, beq_iff_eq] at h
    obtain ⟨⟨rfl, hc⟩, h⟩ := h
    split at hc
    case h_2 => cases hc
    rename_i c hcc
    have hx := hv 0 _ _ rfl rfl
    have hf := cellsA_flat hcc
    have h1 := cellsA_VRs hx hcc
    have hcl : c.length = sz := by simpa using hc
    obtain ⟨a1, a2, a3, a4⟩ := partsOk_spec ps vs (i + 1) h (by simpa using hl) (fun k p u hp hu => hv (k + 1) p u (by simpa using hp) (by simpa using hu))
    refine ⟨by simp [a1, List.range'_succ], fun p hp => ?_, fun u hu => ?_, ?_⟩
    · rcases List.mem_cons.1 hp with rfl | hp
      · rw [hf]; exact hcl
      · exact a2 p hp
    · rcases List.mem_cons.1 hu with rfl | hu
      · have := h1.len; rw [Array.length_toList] at this; omega
      · exact a3 u hu
    · rw [List.map_cons, flats_cons, List.flatMap_cons, hf]
      exact h1.append a4

/-- What an operation that only reads may rest on: what is immutable, and what is owned, is as it was. -/
def Same (imm : Nat → Prop) (L : AHeap) (w w' : World) : Prop := ∀ g, imm g ∨ Own L g → w'.heap[g]? = w.heap[g]?
def isLoad : Op → Bool
  | .load .. => true
  | _ => false
/-- Operations that make nothing and write nothing. -/
def movA : Op → Bool
  | .move _ | .assign _ | .pick .. | .load .. | .nilCheck _ | .binOp .. | .unOp .. | .fieldAddr .. | .field .. | .build .. | .index .. | .indexAddr .. | .slice .. | .extract .. | .convert .. => true
  | .call { callee := .builtin .len, .. } => true
  | _ => false

theorem alen_sound {C : Cx} (hC : C.Ok) {ts : Array TypeId} {args : Array Operand} {L : AHeap} {env : List AV} {K : AV → AHeap → Prop} (h : abuiltin C .len ts (args.toList.map (aeval env)) L K) {imm : Nat → Prop} {w : World} {a : Act} (he : EnvR imm w env a.tmps) :
    ∃ v r, (∀ w' (ty : TypeId) (cs : Array Bool), (builtin .len ts ty cs (args.map a.eval)).run C.P w' = .ok (.value v) w') ∧ VR imm w r v ∧ K r L := by
  unfold abuiltin at h
  split at h
  · rename_i t x hb hts hargs
    have hts' : ts = #[t] := by rw [← Array.toArray_toList (xs := ts), hts]
    obtain ⟨ox, hox, rfl⟩ : ∃ ox, args.toList = [ox] ∧ aeval env ox = x := by
      cases hl : args.toList with
      | nil => simp [hl] at hargs
      | cons o1 r => cases r with
        | nil => simp [hl] at hargs; exact ⟨o1, rfl, hargs⟩
        | cons => simp [hl] at hargs
    have hargs' : args.map a.eval = #[a.eval ox] := by rw [← Array.toArray_toList (xs := args.map a.eval), Array.toList_map, hox]; rfl
    have hx := aeval_VR he ox
    have fin : ∀ (n : Nat), (∀ w' ty, (Builtin.len_ #[t] ty #[a.eval ox]).run C.P w' = .ok (goInt n) w') → K (.int .i64 n) L →
        ∃ v r, (∀ w' (ty : TypeId) (cs : Array Bool), (builtin .len ts ty cs (args.map a.eval)).run C.P w' = .ok (.value v) w') ∧ VR imm w r v ∧ K r L := fun n hr hk =>
      ⟨_, _, fun w' ty cs => by rw [hts', hargs']; simp [builtin, hr]; rfl, .int .i64 n, hk⟩
    split at h
    · rename_i z s ht e
      rw [e] at hx
      have hu := tiOf_one (hC.types _ _ ht)
      generalize a.eval ox = v at *
      cases hx
      exact fin _ (fun w' ty => by simp [Builtin.len_, run_underlying hu]) h
    · rename_i e' sz by_ ea zs k g Cp n ht e
      rw [e] at hx
      have hu := (tiOf_slice (hC.types _ _ ht)).1
      generalize a.eval ox = v at *
      cases hx
      exact fin _ (fun w' ty => by simp [Builtin.len_, run_underlying hu]) h
    · rename_i e' sz by_ ea zs sz' xs n ht e
      rw [e] at hx
      have hu := (tiOf_slice (hC.types _ _ ht)).1
      generalize a.eval ox = v at *
      cases hx
      exact fin _ (fun w' ty => by simp [Builtin.len_, run_underlying hu]) h
    · rename_i e' sz by_ ea zs k g Cp sz0 lo n ht e
      rw [e] at hx
      have hu := (tiOf_slice (hC.types _ _ ht)).1
      generalize a.eval ox = v at *
      cases hx
      exact fin _ (fun w' ty => by simp [Builtin.len_, run_underlying hu]) h
    · rename_i e' sz by_ ea zs ht e
      rw [e] at hx
      have hu := (tiOf_slice (hC.types _ _ ht)).1
      generalize a.eval ox = v at *
      cases hx
      exact fin 0 (fun w' ty => by simp [Builtin.len_, run_underlying hu]) h
    · exact h.elim
  · rename_i hb _ _; cases hb
  · rename_i hb _ _; cases hb
  · rename_i hb _ _; cases hb
  · rename_i hb _ _; cases hb
  · rename_i hb _ _; cases hb
  · rename_i hb _ _; cases hb
  · exact h.elim

theorem aop_move {C : Cx} (hC : C.Ok) {o : Oper} (hm : movA o.op = true) {env : List AV} {L : AHeap} {K : AV → AHeap → Prop} (h : aop C o env L K) {imm : Nat → Prop} {w : World} {a : Act} (hG : C.G imm w) (hs : Sat imm w L) (he : EnvR imm w env a.tmps) :
    ∃ v x, (∀ w', (isLoad o.op = true → Same imm L w w') → (execOp a.eval o).run C.P w' = .ok (.value v) w') ∧ VR imm w x v ∧ K x L := by
  have pureOp : ∀ {v : Value} {x : AV}, (∀ w', (isLoad o.op = true → Same imm L w w') → (execOp a.eval o).run C.P w' = .ok (.value v) w') → VR imm w x v → K x L →
      ∃ v x, (∀ w', (isLoad o.op = true → Same imm L w w') → (execOp a.eval o).run C.P w' = .ok (.value v) w') ∧ VR imm w x v ∧ K x L := fun hr hx hk => ⟨_, _, hr, hx, hk⟩
  unfold aop at h
  split at h
  · rename_i x ho; exact pureOp (v := a.eval x) (fun w' _ => by simp [execOp, ho]) (aeval_VR he x) h
  · rename_i x ho; exact pureOp (v := a.eval x) (fun w' _ => by simp [execOp, ho]) (aeval_VR he x) h
  · -- pick
    rename_i c x y ho
    have hc := aeval_VR he c
    split at h
    · rename_i e; rw [e] at hc; generalize hv : a.eval c = v at hc; cases hc
      exact pureOp (v := a.eval x) (fun w' _ => by simp [execOp, ho, hv, asBool]) (aeval_VR he x) h
    · rename_i e; rw [e] at hc; generalize hv : a.eval c = v at hc; cases hc
      exact pureOp (v := a.eval y) (fun w' _ => by simp [execOp, ho, hv, asBool]) (aeval_VR he y) h
    · exact h.elim
  · rename_i ho; rw [ho] at hm; cases hm
  · rename_i ho; rw [ho] at hm; cases hm
  · -- load
    rename_i t x ho
    split at h
    case h_2 => exact h.elim
    rename_i ti ht
    have hti := tiOf_spec (hC.types _ _ ht)
    obtain ⟨ad, cs, vs, hv, h, hvs, him, hc⟩ := aptr_sound hs (aeval_VR he x) h
    unfold aloadT at h
    split at h
    case isFalse => exact h.elim
    rename_i hle
    obtain ⟨v, hr, hag, hone⟩ := run_loadVar_any (a := ad) hti hvs hle
    have hrun : ∀ w', (isLoad o.op = true → Same imm L w w') → (execOp a.eval o).run C.P w' = .ok (.value v) w' := fun w' hsm => by
      have hsame := hsm (by rw [ho]; rfl)
      have := hr w' (fun j u hj => by
        rw [World.cell?_of_block (w := w)]
        · exact hc j u hj
        · rw [show (ad.add j).block = ad.block by unfold Addr.add; split <;> rfl]; exact hsame _ him)
      simp [execOp, ho, Instr.loadAt, hv, Instr.sureAddr, this]
    split at h
    · rename_i hagg
      refine pureOp hrun ?_ h
      rw [hag hagg]
      have := hvs.take ti.size
      exact .agg _ _ this.len this.one this.at_
    · rename_i hagg
      obtain ⟨u, hu, rfl⟩ := hone (by simpa using hagg)
      split at h
      · rename_i c rest
        exact pureOp hrun (hvs.at_ 0 c v rfl hu) h
      · exact h.elim
  · rename_i ho; rw [ho] at hm; cases hm
  · -- nilCheck
    rename_i x ho
    have hx := aeval_VR he x
    split at h
    · rename_i e; rw [e] at hx; generalize hv : a.eval x = v at hx; cases hx
      exact pureOp (v := .pointer (some _)) (fun w' _ => by simp [execOp, ho, hv]) (.ptr _ _ _) h
    · rename_i e; rw [e] at hx; generalize hv : a.eval x = v at hx; cases hx
      exact pureOp (v := .pointer (some _)) (fun w' _ => by simp [execOp, ho, hv]) (.el _ _ _ _ _ _) h
    · rename_i e; rw [e] at hx; generalize hv : a.eval x = v at hx
      have hx' := hx
      cases hx
      exact pureOp (v := .pointer (some _)) (fun w' _ => by simp [execOp, ho, hv]) hx' h
    · exact h.elim
  · -- binOp
    rename_i op t x y ty ho
    obtain ⟨r, z, h1, h2, h3⟩ := abin_run hC (t := t) (aeval_VR he x) (aeval_VR he y) h x y
    refine pureOp (v := r) (fun w' _ => ?_) h2 h3
    simp only [execOp, ho]
    rw [Sem.run_bind, h1 w']
    rfl
  · -- not
    rename_i t x ho
    have hx := aeval_VR he x
    split at h
    · rename_i b e; rw [e] at hx; generalize hv : a.eval x = v at hx; cases hx
      exact pureOp (v := .bool !b) (fun w' _ => by simp [execOp, ho, hv, Op.unary]) (.bool _) h
    · exact h.elim
  · -- fieldAddr
    rename_i t x f ho
    split at h
    case h_2 => exact h.elim
    rename_i fs zs ht
    split at h
    case h_2 => exact h.elim
    rename_i off sz bb hf
    split at h
    · exact h.elim
    rename_i hsz
    obtain ⟨fields, hu, hfs, hall⟩ := tiOf_agg (hC.types _ _ ht)
    subst hfs
    rw [List.getElem?_map] at hf
    cases hfd : fields.toList[f]? with
    | none => simp [hfd] at hf
    | some fd =>
      simp only [hfd, Option.map_some, Option.some.injEq, Prod.mk.injEq] at hf
      obtain ⟨rfl, rfl, _⟩ := hf
      have hfd' : fields[f]? = some fd := by simpa using hfd
      have hinfo : ∃ q, C.P.info? fd.type = some q ∧ q.size ≠ 0 := by
        cases hq : C.P.info? fd.type with
        | none => exact absurd (by simp [Program.cellsOf, hq]) hsz
        | some q => exact ⟨q, rfl, by simpa [Program.cellsOf, hq] using hsz⟩
      obtain ⟨q, hq, hq0⟩ := hinfo
      have hrun : ∀ ad : Addr, a.eval x = .pointer (some ad) → ∀ w', (isLoad o.op = true → Same imm L w w') → (execOp a.eval o).run C.P w' = .ok (.value (.pointer (some (ad.add fd.offset)))) w' := fun ad hv w' _ => by
        simp [execOp, ho, Instr.fieldAt, run_underlying hu, hfd', hv, Instr.sureAddr, fieldPlace, run_sizeOf w' hq, hq0]
      have hx := aeval_VR he x
      split at h
      · rename_i e; rw [e] at hx; generalize hv : a.eval x = v at hx; cases hx
        exact pureOp (hrun _ hv) (by rw [addr_addn]; exact .ptr _ _ _) h
      · rename_i e; rw [e] at hx; generalize hv : a.eval x = v at hx; cases hx
        exact pureOp (hrun _ hv) (by rw [addr_addn, Nat.add_assoc]; exact .el _ _ _ _ _ _) h
      · rename_i e; rw [e] at hx; generalize hv : a.eval x = v at hx
        cases hx with
        | rel cs ad vs hi hl hc h1 hvv =>
          have hd := (VRs.mk hl h1 hvv).drop fd.offset
          refine pureOp (hrun _ hv) (.rel _ _ (vs.drop fd.offset) ?_ hd.len (fun j u hj => ?_) hd.one hd.at_) h
          · rw [show (ad.add fd.offset).block = ad.block by unfold Addr.add; split <;> rfl]; exact hi
          · rw [addr_add_add]; rw [List.getElem?_drop] at hj; exact hc _ u hj
      · exact h.elim
  · -- field
    rename_i t x f ho
    split at h
    case h_2 => exact h.elim
    rename_i fs zs cs ht e
    have hx := aeval_VR he x
    rw [e] at hx
    generalize hv : a.eval x = v at hx
    obtain ⟨fields, hu, hfs, hall⟩ := tiOf_agg (hC.types _ _ ht)
    subst hfs
    cases hx with
    | agg _ vs hvl h1 hvv =>
      have hVRs : VRs imm w cs vs := ⟨hvl, h1, hvv⟩
      have hget : ∀ {off sz : Nat} {bb : Bool}, (fields.toList.map fun f => (f.offset, C.P.cellsOf f.type, aggT C.P f.type))[f]? = some (off, sz, bb) → ∃ fd, fields[f]? = some fd ∧ fd.offset = off ∧ C.P.cellsOf fd.type = sz ∧ aggT C.P fd.type = bb := by
        intro off sz bb hf
        rw [List.getElem?_map] at hf
        cases hfd : fields.toList[f]? with
        | none => simp [hfd] at hf
        | some fd =>
          simp only [hfd, Option.map_some, Option.some.injEq, Prod.mk.injEq] at hf
          exact ⟨fd, by simpa using hfd, hf.1, hf.2.1, hf.2.2⟩
      split at h
      · rename_i off sz hf
        obtain ⟨fd, hfd, rfl, rfl, hag⟩ := hget hf
        split at h
        case isFalse => exact h.elim
        rename_i hle
        have hd : ∃ d, C.P.underlying fd.type = some d ∧ aggD d = true := by
          cases hq : C.P.underlying fd.type with
          | none => simp [aggT, hq] at hag
          | some d => exact ⟨d, rfl, by simpa [aggT, hq] using hag⟩
        obtain ⟨d, hd, hdd⟩ := hd
        have hinfo : ∃ q, C.P.info? fd.type = some q := by
          cases hq : C.P.info? fd.type with
          | none => simp [Program.underlying, hq] at hd
          | some q => exact ⟨q, rfl⟩
        obtain ⟨q, hq⟩ := hinfo
        have hqs : q.size = C.P.cellsOf fd.type := by simp [Program.cellsOf, hq]
        have hp := fun w' => run_field_part (P := C.P) w' hq hd vs.toArray fd.offset
        simp only [hdd, if_true] at hp
        have hext : (vs.toArray.extract fd.offset (fd.offset + q.size)) = ((vs.drop fd.offset).take q.size).toArray := by
          apply Array.ext'
          simp [List.take_drop]
        simp only [hext] at hp
        have hdt := (hVRs.drop fd.offset).take q.size
        refine pureOp (v := .agg ((vs.drop fd.offset).take q.size).toArray) (fun w' _ => by simp [execOp, ho, hv, Instr.field, run_underlying hu, hfd, asAgg, hp]) ?_ h
        rw [← hqs]
        exact .agg _ _ hdt.len hdt.one hdt.at_
      · rename_i off sz hf
        obtain ⟨fd, hfd, rfl, rfl, hag⟩ := hget hf
        split at h
        case h_2 => exact h.elim
        rename_i c hc
        obtain ⟨u, hu1, hu2, hu3⟩ := hVRs.get hc
        have hadd : ∃ q d, C.P.info? fd.type = some q ∧ C.P.underlying fd.type = some d ∧ aggD d = false := by
          obtain ⟨i1, i2⟩ := hall fd (by simpa using Array.mem_of_getElem? hfd)
          obtain ⟨q, hq⟩ := Option.isSome_iff_exists.1 i1
          obtain ⟨d, hd⟩ := Option.isSome_iff_exists.1 i2
          exact ⟨q, d, hq, hd, by simpa [aggT, hd] using hag⟩
        obtain ⟨q, d, hq, hd, hdd⟩ := hadd
        have hp := fun w' => run_field_part (P := C.P) w' hq hd vs.toArray fd.offset
        simp only [hdd, Bool.false_eq_true, if_false, List.getElem?_toArray, hu1] at hp
        exact pureOp (v := u) (fun w' _ => by simp [execOp, ho, hv, Instr.field, run_underlying hu, hfd, asAgg, hp]) hu3 h
      · exact h.elim
  · -- build
    rename_i t parts ho
    split at h
    case h_2 => exact h.elim
    rename_i fs zs ht
    split at h
    case isFalse => exact h.elim
    rename_i hne
    split at h
    case h_2 => exact h.elim
    rename_i cs hf
    obtain ⟨us, hb, hus⟩ := built_sound (pv := (parts.map fun (i, x) => (i, a.eval x)).toList) (hC.types _ _ ht) hne (by simp) (fun j p q hp hq => by
      rw [List.getElem?_map] at hp
      rw [Array.toList_map, List.getElem?_map] at hq
      cases hj : parts.toList[j]? with
      | none => simp [hj] at hp
      | some y =>
        simp [hj] at hp hq
        subst hp; subst hq
        exact ⟨rfl, aeval_VR he y.2⟩) hf
    have hr := fun w' => run_build (P := C.P) w' t (parts.map fun (i, x) => (i, a.eval x)) us.toArray hb
    exact pureOp (v := .agg us.toArray) (fun w' _ => by simp only [execOp, ho]; rw [Sem.run_bind, hr w']; rfl) (.agg _ _ hus.len hus.one hus.at_) h
  · rename_i ho; rw [ho] at hm; cases hm
  · -- index
    rename_i t x i ho
    split at h
    case h_2 => exact h.elim
    rename_i z s k n ht e1 e2
    have hx := aeval_VR he x
    have hi := aeval_VR he i
    rw [e1] at hx
    rw [e2] at hi
    generalize hv : a.eval x = v at hx
    generalize hv2 : a.eval i = v2 at hi
    cases hx
    cases hi
    have hu := tiOf_one (hC.types _ _ ht)
    obtain ⟨h0, hlt, hk⟩ := h
    refine pureOp (v := .int .u8 (s[n.toNat]'hlt).toNat) (fun w' _ => ?_) (.int _ _) hk
    have hget : s[n.toNat]? = some (s[n.toNat]'hlt) := getElem?_pos s n.toNat hlt
    simp [execOp, ho, hv, hv2, Instr.index, asIntOf, run_underlying hu, h0, hget]
  · -- indexAddr
    rename_i t x i ho
    have hx := aeval_VR he x
    have hi := aeval_VR he i
    split at h
    · rename_i e sz by_ ea zs k g Cp n kk m ht e1 e2
      rw [e1] at hx
      rw [e2] at hi
      generalize hv : a.eval x = v at hx
      generalize hv2 : a.eval i = v2 at hi
      cases hx
      cases hi
      obtain ⟨hu, j, ze, hj, hsz, _⟩ := tiOf_slice (hC.types _ _ ht)
      obtain ⟨h0, h1, hk⟩ := h
      refine pureOp (v := .pointer (some ⟨g, m.toNat * sz + 0, none⟩)) (fun w' _ => ?_) (.el _ _ _ _ _ _) hk
      have hb : ((match C.P.underlying t with | some (.array ..) => true | _ => false) = false) := by rw [hu]
      simp [execOp, ho, hv, hv2, Instr.indexAt, asIntOf, run_underlying hu, h0, h1, run_sizeOf w' hj, hsz, addr_add0]
    · rename_i e sz by_ ea zs sz' xs n kk m ht e1 e2
      split at h
      case isFalse => exact h.elim
      rename_i esz
      subst esz
      rw [e1] at hx
      rw [e2] at hi
      generalize hv : a.eval x = v at hx
      generalize hv2 : a.eval i = v2 at hi
      cases hi
      obtain ⟨hu, j, ze, hj, hsz, _⟩ := tiOf_slice (hC.types _ _ ht)
      obtain ⟨h0, h1, y, hy, hk⟩ := h
      cases hx with
      | ro _ _ _ A cap vs hnn hcap hszz hvl ha h1c hvv =>
        obtain ⟨ad, rfl, him, hc⟩ := ha (by omega)
        have hVRs : VRs imm w (flats xs) vs := ⟨hvl, h1c, hvv⟩
        have hat := flats_at hszz hy
        have hd := (hVRs.drop (m.toNat * sz')).take sz'
        rw [hat] at hd
        refine pureOp (v := .pointer (some (ad.add (m.toNat * sz')))) (fun w' _ => ?_) (.rel _ _ ((vs.drop (m.toNat * sz')).take sz') ?_ hd.len (fun q u hj => ?_) hd.one hd.at_) hk
        · simp [execOp, ho, hv, hv2, Instr.indexAt, asIntOf, run_underlying hu, h0, h1, run_sizeOf w' hj, hsz]
        · rw [show (ad.add (m.toNat * sz')).block = ad.block by unfold Addr.add; split <;> rfl]; exact him
        · rw [addr_add_add]
          rw [List.getElem?_take] at hj
          split at hj
          · rw [List.getElem?_drop] at hj
            exact hc _ u hj
          · cases hj
    · rename_i n ea zs g kk m ht e1 e2
      rw [e1] at hx
      rw [e2] at hi
      generalize hv : a.eval x = v at hx
      generalize hv2 : a.eval i = v2 at hi
      cases hx
      cases hi
      obtain ⟨e, hu, hce, hae⟩ := tiOf_arr (hC.types _ _ ht)
      split at h
      case h_2 => exact h.elim
      rename_i cs hcs
      obtain ⟨h0, h1, c, hcc, hk⟩ := h
      obtain ⟨him, vs, t', fr, hg, hvs⟩ := hC.globs imm w g cs hG hcs
      have hinfo : ∃ q, C.P.info? e = some q ∧ q.size = 1 := by
        cases hq : C.P.info? e with
        | none => simp [Program.cellsOf, hq] at hce
        | some q => exact ⟨q, rfl, by simpa [Program.cellsOf, hq] using hce⟩
      obtain ⟨q, hq, hq1⟩ := hinfo
      obtain ⟨u, hu1, hu2, hu3⟩ := hvs.get hcc
      have htiny : ¬ n ≤ 1 ∨ True := .inr trivial
      refine pureOp (v := .pointer (some ((⟨g, 0, none⟩ : Addr).add (m.toNat * 1)))) (fun w' _ => ?_) (.rel _ _ [u] ?_ rfl (fun j v hj => ?_) (by simpa using hu2) (fun j y v hy hj => ?_)) hk
      · simp [execOp, ho, hv, hv2, Instr.indexAt, asIntOf, run_underlying hu, h0, h1, run_sizeOf w' hq, hq1, Instr.sureAddr]
      · rw [addr_add0]; exact him
      · rw [addr_add_add, addr_add0]
        cases j with
        | zero =>
          simp at hj
          subst hj
          rw [cell_of_row w g _ vs t' fr hg]
          simpa using hu1
        | succ j => simp at hj
      · cases j with
        | zero => simp at hy hj; subst hy; subst hj; exact hu3
        | succ j => simp at hy
    · exact h.elim
  · -- slice
    rename_i t x lo hi ho
    obtain ⟨r, u, h1, h2, h3⟩ := aslice_sound hC h hs he (aeval_VR he x)
    exact pureOp (v := u) (fun w' _ => by simp [execOp, ho, h1]) h2 h3
  · -- slice with three bounds
    rename_i t x lo hi m ho
    obtain ⟨u, h1, h3⟩ := aslice3_sound hC h he (aeval_VR he x)
    exact pureOp (v := u) (fun w' _ => by simp [execOp, ho, h1]) (.junk _) h3
  · -- extract
    rename_i x i ho
    have hx := aeval_VR he x
    split at h
    case h_2 => exact h.elim
    rename_i xs e
    rw [e] at hx
    generalize hv : a.eval x = v at hx
    split at h
    case h_2 => exact h.elim
    rename_i c hc
    cases hx with
    | tuple _ vs hl hvv =>
      have hlt : i < vs.length := by rw [hl]; exact (List.getElem?_eq_some_iff.1 hc).1
      refine pureOp (v := vs[i]) (fun w' _ => ?_) (hvv i c _ hc (List.getElem?_eq_getElem hlt)) h
      simp [execOp, ho, hv, Instr.extract, hlt]
  · -- convert
    rename_i src dst x ho
    have hx := aeval_VR he x
    split at h
    · rename_i k0 z0 k z k1 n hs0 hd0 e
      rw [e] at hx
      generalize hv : a.eval x = v at hx
      cases hx
      have hu := tiOf_one (hC.types _ _ hs0)
      have hu' := tiOf_one (hC.types _ _ hd0)
      have hk : C.P.intKind dst = k := by unfold Program.intKind; rw [hu']
      refine pureOp (v := .int k (k.wrap n)) (fun w' _ => ?_) (.int k _) (h _ rfl)
      have := run_convert_int (P := C.P) w' src dst k1 n (by rw [hu]; rfl) (by rw [hk]; exact hu')
      rw [hk] at this
      simp [execOp, ho, hv, this]
    · rename_i z0 z s hs0 hd0 e
      rw [e] at hx
      generalize hv : a.eval x = v at hx
      cases hx
      have hu := tiOf_one (hC.types _ _ hs0)
      have hu' := tiOf_one (hC.types _ _ hd0)
      refine pureOp (v := .string s) (fun w' _ => ?_) (.str s) h
      simp [execOp, ho, hv, convert, run_underlying hu, run_underlying hu']
    · exact h.elim
  · rename_i ho; rw [ho] at hm; cases hm
  · -- len
    rename_i b args ts ho
    have hb : b = .len := by
      rw [ho] at hm
      cases b <;> first | rfl | cases hm
    subst hb
    obtain ⟨v, r, hr, a1, a2⟩ := alen_sound hC h he
    refine pureOp (v := v) (fun w' _ => ?_) a1 a2
    unfold execOp
    simp only [ho, resolve, invoke, Sem.run_bind, Sem.run_pure, Result.andThen_ok]
    exact hr w' _ _
  · exact h.elim

theorem aop_sound {C : Cx} (hC : C.Ok) {o : Oper} {env : List AV} {L : AHeap} {K : AV → AHeap → Prop} (h : aop C o env L K) {imm : Nat → Prop} {w : World} {a : Act} (hG : C.G imm w) (hs : Sat imm w L) (he : EnvR imm w env a.tmps)
    {next : Act → World → Prop} {Q : Exit → Act → World → Prop}
    (hn : ∀ x L' imm' v w', K x L' → Sat imm' w' L' → VR imm' w' x v → Tr (Own L) imm w (Own L') imm' w' → next (a.put o.dst v) w') : o.wp C.P a w next Q := by
  by_cases hm : movA o.op = true
  · obtain ⟨v, x, hr, hx, hk⟩ := aop_move hC hm h hG hs he
    exact wp_value (hr w (fun _ _ _ => rfl)) (hn _ _ _ _ _ hk hs hx (Tr.refl _ _ _))
  have newOp : ∀ {ob : Obj} {x : AV} {ao : AObj} {v : Value}, (execOp a.eval o).run C.P w = .ok (.value v) (w.alloc ob) → VR imm (w.alloc ob) x v → Holds imm (w.alloc ob) w.heap.size ao → K x (L ++ [(w.heap.size, ao)]) → o.wp C.P a w next Q := fun {ob x ao v} hr hx hh hk =>
    wp_value hr (hn _ _ _ _ _ hk (hs.new (by simp) (fun i hi => (World.grownBy_alloc w ob none).block i hi (by simp)) hh) hx (Tr.new (World.grownBy_alloc w ob none) _))
  have keepA : ∀ {ob : Obj} {xs : List AV} {vs : List Value}, VRs imm w xs vs → VRs imm (w.alloc ob) xs vs := fun {ob xs vs} h => h.grown hs (World.grownBy_alloc w ob none) (by simp)
  unfold aop at h
  split at h
  · rename_i ho; rw [ho] at hm; exact absurd rfl hm
  · rename_i ho; rw [ho] at hm; exact absurd rfl hm
  · rename_i ho; rw [ho] at hm; exact absurd rfl hm
  · -- box
    rename_i t x ho
    split at h
    case h_2 => exact h.elim
    rename_i cs hcs
    have hx := cellsA_VRs (aeval_VR he x) hcs
    refine newOp (ob := .cells (a.eval x).cells t) (v := .pointer (some ⟨w.heap.size, 0, none⟩)) (by simp [execOp, ho, Instr.box, newVar, newRow]) (.ptr _ _ _) (.cells t cs (a.eval x).cells.toList ?_ (keepA hx)) (h w.heap.size)
    rw [Array.toArray_toList]
    exact heap_alloc_new w _
  · -- alloc
    rename_i t ho
    split at h
    case h_2 => exact h.elim
    rename_i ti ht
    obtain ⟨i, d, z, hi, hd, hz, hsz, hag, hzs, h1, hzo, _, _⟩ := (tiOf_spec (hC.types _ _ ht)).ok
    have hx := map_ofV_VRs imm w z.cells.toList h1
    rw [hzo] at hx
    refine newOp (ob := .cells z.cells t) (v := .pointer (some ⟨w.heap.size, 0, none⟩)) (by simp [execOp, ho, Instr.alloc, zeroValue, typeInfo, hi, hz, newVar, newRow]) (.ptr _ _ _) (.cells t ti.zero z.cells.toList ?_ (keepA hx)) (h w.heap.size)
    rw [Array.toArray_toList]
    exact heap_alloc_new w _
  · rename_i ho; rw [ho] at hm; exact absurd rfl hm
  · -- store
    rename_i t x y ho
    split at h
    case h_2 => exact h.elim
    rename_i ti new ht hnew
    split at h
    case isFalse => exact h.elim
    rename_i hlen
    obtain ⟨i, d, z, hi, hd, hz, hsz, _⟩ := (tiOf_spec (hC.types _ _ ht)).ok
    have hy := cellsA_VRs (aeval_VR he y) hnew
    obtain ⟨ad, L', w', hv, hk, hr, hs', ht'⟩ := astore_sound (P := C.P) hs (aeval_VR he x) hy h
    have hcs : (a.eval y).cells.size = i.size := by
      have := hy.len
      rw [Array.length_toList] at this
      omega
    refine wp_skip (w' := w') ?_ (hn _ _ _ _ _ hk hs' (.junk _) ht')
    simp [execOp, ho, Instr.storeAt, hv, Instr.sureAddr, storeVar, run_sizeOf w hi, hcs, hr]
  · rename_i ho; rw [ho] at hm; exact absurd rfl hm
  · rename_i ho; rw [ho] at hm; exact absurd rfl hm
  · rename_i ho; rw [ho] at hm; exact absurd rfl hm
  · rename_i ho; rw [ho] at hm; exact absurd rfl hm
  · rename_i ho; rw [ho] at hm; exact absurd rfl hm
  · rename_i ho; rw [ho] at hm; exact absurd rfl hm
  · -- buildSlice
    rename_i t len parts ho
    split at h
    case h_2 => exact h.elim
    rename_i e sz by_ ea zs ht
    split at h
    case isTrue =>
      rename_i hemp
      simp only [Bool.and_eq_true, beq_iff_eq, List.isEmpty_iff] at hemp
      obtain ⟨rfl, hpe⟩ := hemp
      have hpe' : parts = #[] := by rw [← Array.toArray_toList (xs := parts), hpe]
      subst hpe'
      obtain ⟨hu, j, ze, hj, hsz, hby, hze, hzs, hs0, _, _⟩ := tiOf_slice (hC.types _ _ ht)
      refine newOp (ob := .cells #[] e) (v := .slice (some ⟨w.heap.size, 0, none⟩) 0 0) (ao := .row e sz 0 []) (by simp [execOp, ho, Instr.buildSlice, run_underlying hu, sizeOf, typeInfo, hj, Instr.fill, newRow]; congr 2; exact Array.eq_empty_of_size_eq_zero (by simp)) (.sl _ _ _ _) ?_ (h w.heap.size)
      exact .row e sz 0 [] [] [] (heap_alloc_new w _) hs0 (by simp) (by simp) (Nat.zero_le _) (Nat.le_refl _) (.nil _ _)
    split at h
    case isFalse => exact h.elim
    rename_i hcond
    simp only [Bool.and_eq_true, beq_iff_eq, decide_eq_true_eq] at hcond
    obtain ⟨⟨⟨⟨hp, hlen⟩, hpos⟩, hsmall⟩, hlenm⟩ := hcond
    obtain ⟨hu, j, ze, hj, hsz, hby, hze, hzs, hs0, _, _⟩ := tiOf_slice (hC.types _ _ ht)
    obtain ⟨a1, a2, a3, a4⟩ := partsOk_spec (imm := imm) (w := w) (parts.toList.map fun p => (p.1, aeval env p.2)) (parts.toList.map fun p => a.eval p.2) 0 hp (by simp) (fun k p v hp hv => by
      rw [List.getElem?_map] at hp hv
      cases hj : parts.toList[k]? with
      | none => simp [hj] at hp
      | some y =>
        simp [hj] at hp hv
        subst hp; subst hv
        exact aeval_VR he y.2)
    simp only [List.map_map, Function.comp_def] at a1 a4
    simp only [List.length_map] at a1
    have hzip : (parts.map fun (i, x) => (i, a.eval x)).toList = ((parts.toList.map fun p => a.eval p.2).zipIdx 0).map fun x => (x.2, x.1) := by
      apply List.ext_getElem?
      intro k
      rw [Array.toList_map, List.getElem?_map, List.getElem?_map, List.getElem?_zipIdx, List.getElem?_map]
      cases hj : parts.toList[k]? with
      | none => simp
      | some y =>
        have : (parts.toList.map fun p => p.1)[k]? = some y.1 := by simp [hj]
        rw [a1] at this
        have hk : k < parts.toList.length := (List.getElem?_eq_some_iff.1 hj).1
        rw [List.getElem?_range' hk] at this
        simp at this
        simp [← this]
    have hfill := Great.fill_whole (s := sz) hs0 (parts.toList.map fun p => a.eval p.2) ((Array.range (len * sz)).map (ze.cells[· % ze.cells.size]!)) a3 (by simp [← hlen])
    rw [← hzip] at hfill
    have hr := run_buildSlice (P := C.P) w t e len (parts.map fun (i, x) => (i, a.eval x)) _ j ze hu hj hze (by rw [hsz]; omega) (by rw [hsz]; omega) (by rw [hsz]; exact hfill)
    refine newOp (v := .slice (some ⟨w.heap.size, 0, none⟩) len len) (ao := .row e sz len (parts.toList.map fun p => aeval env p.2)) (by simp only [execOp, ho]; rw [Sem.run_bind, hr]; rfl) (.sl _ _ _ _) ?_ (h w.heap.size)
    refine .row e sz len _ ((parts.toList.map fun p => a.eval p.2).flatMap fun v => v.cells.toList) [] ?_ hs0 (fun x hx => ?_) ?_ (by simp only [maxLen]; omega) (by simp [← hlen]) (keepA a4)
    · rw [List.append_nil]; exact heap_alloc_new w _
    · obtain ⟨p, hp, rfl⟩ := List.mem_map.1 hx
      exact a2 _ (List.mem_map.2 ⟨p, hp, rfl⟩)
    · rw [List.append_nil, a4.len, flats_length (sz := sz) (fun x hx => by
        obtain ⟨p, hp, rfl⟩ := List.mem_map.1 hx
        exact a2 _ (List.mem_map.2 ⟨p, hp, rfl⟩))]
      simp [← hlen]
  · rename_i ho; rw [ho] at hm; exact absurd rfl hm
  · rename_i ho; rw [ho] at hm; exact absurd rfl hm
  · rename_i ho; rw [ho] at hm; exact absurd rfl hm
  · rename_i ho; rw [ho] at hm; exact absurd rfl hm
  · rename_i ho; rw [ho] at hm; exact absurd rfl hm
  · rename_i ho; rw [ho] at hm; exact absurd rfl hm
  · -- call of a function
    rename_i x args ts ho
    have hx := aeval_VR he x
    split at h
    case h_2 => exact h.elim
    rename_i f hfx
    have hxv := afun_VR hx hfx
    obtain ⟨hl, hv⟩ := args_VR he args
    rcases ACall.sound hC h hG hs hl hv with ⟨⟨fn, hf, hname, hb⟩, hc⟩ | ⟨v, r, hr, hvr, hk⟩
    case inr =>
      rw [Array.toArray_toList] at hr
      refine wp_value (v := v) (w' := w) ?_ (hn r L imm v w hk hs hvr (Tr.refl _ _ _))
      unfold execOp
      simp only [ho, hxv, resolve, Deferred.ofValue, invoke, Sem.run_bind, Sem.run_pure, Result.andThen_ok]
      simpa using hr
    rw [Array.toArray_toList] at hc
    have h1 : fn.name ≠ "runtime.NumGoroutine" := by simpa using hname
    obtain ⟨cc, hcc⟩ := Option.isSome_iff_exists.1 hb
    have hrun : (execOp a.eval o).run C.P w = .ok (.enter f (args.map a.eval)) w := by
      unfold execOp
      simp [ho, hxv, resolve, Deferred.ofValue, invoke, callFunc, hf, h1, hcc]
    unfold Oper.wp
    rw [hrun, Oper.upon_enter]
    refine hc.mono fun e w'' hh => ?_
    obtain ⟨v, r, L', imm', rfl, a1, a2, a3, a4⟩ := hh
    exact hn r L' imm' v w'' a4 a2 a1 a3
  · -- call of a builtin
    rename_i b args ts ho
    obtain ⟨v, w', r, L', hr, a1, a2, a3, a4⟩ := abuiltin_sound hC h hs he o.type (args.map fun | .const _ => true | _ => false)
    refine wp_value (v := v) (w' := w') ?_ (hn r L' imm v w' a4 a2 a1 a3)
    unfold execOp
    simp only [ho, resolve, invoke, Sem.run_bind, Sem.run_pure, Result.andThen_ok]
    exact hr
  · exact h.elim

end Go.Proofs.YtfohedaadncefaaDoor.HB
