/- The contract of the law ShotDecodes. -/
import Derived.Test.YtfohedaadncefaaDoorHbC6
import Derived.Test.YtfohedaadncefaaDoorHbC2
namespace Go.Proofs.YtfohedaadncefaaDoor.HBT
open Go Go.Proofs.YtfohedaadncefaaDoor.HB Go.RowKit
set_option maxRecDepth 30000

/-- What a decoding answers, told so that nothing is to be parted. -/
noncomputable def decR (d : List Int) : Int × Int × ByteArray × Int × List Sn :=
  if 262144 < d.length then (2, 0, ⟨#[]⟩, 0, []) else match decD d with
    | none => (51, 0, ⟨#[]⟩, 0, [])
    | some (st, pl, kd, l) => (0, st, pl, kd, l)
noncomputable abbrev dE (d : List Int) : Int := (decR d).1
noncomputable abbrev dS (d : List Int) : Int := (decR d).2.1
noncomputable abbrev dP (d : List Int) : ByteArray := (decR d).2.2.1
noncomputable abbrev dK (d : List Int) : Int := (decR d).2.2.2.1
noncomputable abbrev dL (d : List Int) : List Sn := (decR d).2.2.2.2
theorem decR_len (d : List Int) : (dL d).length ≤ 100 := by
  unfold dL decR
  split
  · simp
  · cases h : decD d with
    | none => simp
    | some q =>
      obtain ⟨st, pl, kd, l⟩ := q
      simp only
      unfold decD at h
      split at h
      · cases h
      split at h
      · cases h
      split at h
      · rename_i hc
        simp only [Option.some.injEq, Prod.mk.injEq] at h
        obtain ⟨_, _, _, rfl⟩ := h
        have := hc.2.2.2.2.1
        omega
      · cases h
def DecU (d : List Int) (r : AV) (L' : AHeap) : Prop := ∃ v g o, LN 0 (dL d) v g o ∧ r = .tuple [shot (dS d) (dP d) (dK d) v, .int .i64 (dE d)] ∧ L' = [(g, o)]
theorem own_dead (g : Nat) : Own [(g, .dead)] = Own [] := by
  funext i
  refine propext ⟨fun ⟨k, o, hk, ho⟩ => ?_, fun h => (not_own_nil i h).elim⟩
  cases k with
  | zero => simp at hk; rw [← hk.2] at ho; exact ho.elim
  | succ k => simp at hk
theorem toU {f : FuncId} {args : List AV} {d : List Int} (h : FnSpec C f args [] (DecQ d)) : FnSpec C f args [] (DecU d) := by
  refine ⟨h.1, fun imm w vs hG hs hl hv => (h.2 imm w vs hG hs hl hv).mono ?_⟩
  have dead : ∀ {imm : Nat → Prop} {w : World}, Sat imm w [] → Sat imm w [(0, .dead)] := fun {imm w} hs => by
    have e := own_dead 0
    refine ⟨fun k g o hk ho => ?_, fun k k' g o o' hk ho => ?_, fun g hg => ?_, fun g hg => ?_, hs.immlt⟩
    · cases k with
      | zero => simp at hk; rw [← hk.2] at ho; exact ho.elim
      | succ k => simp at hk
    · cases k with
      | zero => simp at hk; rw [← hk.2] at ho; exact ho.elim
      | succ k => simp at hk
    · rw [e] at hg; exact (not_own_nil g hg).elim
    · rw [e] at hg; exact (not_own_nil g hg).elim
  rintro e w' ⟨v, r, L', imm', he, hr, hs', ht, (⟨h1, rfl, rfl⟩ | ⟨h1, h2, rfl, rfl⟩ | ⟨h1, st, pl, kd, l, h2, vv, g, o, hln, rfl, rfl⟩)⟩
  · refine ⟨v, _, _, imm', he, hr, dead hs', by rw [own_dead]; exact ht, .nils, 0, .dead, ?_, ?_, rfl⟩
    · unfold dL decR; rw [if_pos h1]; exact .inl ⟨rfl, rfl, rfl⟩
    · unfold dS dP dK dE decR; rw [if_pos h1]
  · refine ⟨v, _, _, imm', he, hr, dead hs', by rw [own_dead]; exact ht, .nils, 0, .dead, ?_, ?_, rfl⟩
    · unfold dL decR; rw [if_neg h1, h2]; exact .inl ⟨rfl, rfl, rfl⟩
    · unfold dS dP dK dE decR; rw [if_neg h1, h2]
  · refine ⟨v, _, _, imm', he, hr, hs', ht, vv, g, o, ?_, ?_, rfl⟩
    · unfold dL decR; rw [if_neg h1, h2]; exact hln
    · unfold dS dP dK dE decR; rw [if_neg h1, h2]
theorem LN.scalD {k g : Nat} {l : List Sn} {v : AV} {o : AObj} (h : LN k l v g o) (st : Int) (pl : ByteArray) (kd e : Int) : scalD (.tuple [shot st pl kd v, .int .i64 e]) = true := by
  rcases h with ⟨_, rfl, _⟩ | ⟨_, rfl, _⟩ <;> rfl
theorem lendB {L : AHeap} {K g Cp m : Nat} {xs : List AV} {ws : List Int} (hk : L[K]? = some (g, .row 5 1 Cp xs)) (hx : xs = u8s ws) (hm : m ≤ ws.length) : Lend L (.sl K g Cp m) (rdb ws m) := by
  subst hx
  exact .row K g Cp m 5 1 _ hk (by rw [u8s_len]; exact hm)
theorem decY (a : Int) (p : ByteArray) (h1 : rdHead [0, 2, 47, a, 1, 0] = some (0, p, 1, 0, 6)) (h2 : checkP 0 p 1 [] 0) : dE [0, 2, 47, a, 1, 0] = 0 ∧ dP [0, 2, 47, a, 1, 0] = p := by
  have h3 : decD [0, 2, 47, a, 1, 0] = some (0, p, 1, []) := (decD_eq h1 (l := []) (at_ := 6) rfl).1 ⟨rfl, h2⟩
  have h4 : ¬ 262144 < ([0, 2, 47, a, 1, 0] : List Int).length := by simp
  unfold dE dP decR
  rw [if_neg h4, h3]
  exact ⟨rfl, rfl⟩
theorem u8s_set (l : List Int) (i : Nat) (x : Int) : u8s (l.set i x) = (u8s l).set i (.int .u8 x) := List.map_set ..
def LB (k : Nat) (l : List Int) (v : AV) (g : Nat) (o : AObj) : Prop := (l = [] ∧ v = .nils ∧ o = .dead) ∨ (∃ Cp, v = .sl k g Cp l.length ∧ o = .row 5 1 Cp (u8s l))

/-- What holds where the bytes are turned. -/
abbrev decI (d : List Int) (n : Nat) : Nat → List AV → AHeap → Prop := (fun k env L => ∃ (i : Nat) (ws : List Int) (v : AV) (o : AObj) (gn gc Cc gs gt : Nat), k = n - i ∧ i ≤ n ∧ ws.length = n + 1 ∧ Bytes ws ∧ LB 3 (ws.take i) v gn o ∧ env = [rdb d n, .junk, .junk, .junk, .junk, .junk, .junk, .junk, .junk, .junk, .sl 0 gc Cc (n + 1), .ptr 1 gs 0, .junk, .ptr 2 gt 0, .junk, v, .int .i64 i, .junk, .junk, .junk, .junk, .junk, .junk, .junk, .junk, .junk, .junk, .junk, .junk, .junk, .junk, .junk, .junk, .junk, .junk, .junk, .junk, .junk, .junk, .junk, .junk, .junk, .junk, .junk, .junk, .junk, .junk, .junk, .junk, .junk, .junk, .junk, .junk, .junk, .junk, .junk, .junk, .junk, .junk, .junk, .junk, .junk, .junk, .junk, .junk, .junk, .junk, .junk, .junk, .junk, .junk, .junk, .junk, .junk, .junk, .junk, .junk, .junk, .junk, .junk, .junk, .junk, .junk, .junk, .junk, .junk, .junk, .junk, .junk, .junk, .junk, .junk, .junk, .junk, .junk, .junk, .junk, .junk, .junk, .junk, .junk, .junk, .junk, .junk, .junk, .junk, .junk, .junk, .junk, .junk, .junk, .junk, .junk, .junk, .junk, .junk, .junk, .junk, .junk, .junk, .junk, .junk, .junk, .junk, .junk, .junk, .junk, .junk, .junk, .junk, .junk, .junk, .junk, .junk, .junk, .junk, .junk, .junk, .junk, .junk, .junk, .junk, .junk, .junk, .junk, .junk, .junk, .junk, .junk, .junk, .junk, .junk, .junk, .junk, .junk, .junk, .junk, .junk, .junk, .junk, .junk, .junk, .junk, .junk, .junk, .junk, .junk, .junk, .junk, .junk, .junk, .junk, .junk, .junk, .junk, .junk, .junk, .junk, .junk, .junk, .junk, .junk, .junk, .junk] ∧ L = [(gc, .row 5 1 Cc (u8s ws)), (gs, .cells 24 [.junk, .junk, .junk, .junk]), (gt, .cells 24 [.junk, .junk, .junk, .junk]), (gn, o)])
def decRound (d : List Int) (n : Nat) (kk : List HB.Frame) (bb : Code) : Prop := ∀ m env L, decI d n m env L → Run C (apost C Tryd.f6 (fun r L' => r = .bool true ∧ L' = [])) (.lp (decI d n) m :: kk) bb env L

theorem decCut {d : List Int} {n : Nat} {kk : List HB.Frame} {bb : Code} {G : Prop} (main : decRound d n kk bb → G) (round : decRound d n kk bb) : G := main round
set_option maxHeartbeats 16000000 in
theorem lawDecodes_spec (d : List Int) (n : Nat) (long : Int) (hn : n ≤ d.length) (hb : Bytes d) : FnSpec C 6 [rdb d n, .int .i64 long] [] (fun r L' => r = .bool true ∧ L' = []) := by
  have tl : n ≤ d.length → (d.take n).length = n := fun h => by rw [List.length_take]; omega
  refine FnSpec.start C_ok Tryd.func6 rfl rfl Tryd.ntmps6 ?_
  repeat (first | refine OpsA.cons ?_ | refine OpsA.nil ?_ | refine OrdE.cons rfl ?_ | refine OrdE.nil ?_ | refine Run.textA C_ok (aopM_sound C_ok) ?_ | refine And.intro rfl ?_ | refine And.intro (Nat.le_of_ble_eq_true rfl) ?_ | refine And.intro (Int.natCast_nonneg _) ?_ | refine fun (_ : Nat) => ?_ | refine Ord.go ?_ | refine Run.go rfl ?_ | refine Cont.go rfl ?_ | refine OrdP.go ?_)
  refine ⟨fun h => ?_, fun h => ?_⟩
  · repeat (first | refine OpsA.cons ?_ | refine OpsA.nil ?_ | refine OrdE.cons rfl ?_ | refine OrdE.nil ?_ | refine Run.textA C_ok (aopM_sound C_ok) ?_ | refine And.intro rfl ?_ | refine And.intro (Nat.le_of_ble_eq_true rfl) ?_ | refine And.intro (Int.natCast_nonneg _) ?_ | refine fun (_ : Nat) => ?_ | refine Ord.go ?_ | refine Run.go rfl ?_ | refine Cont.go rfl ?_ | refine OrdP.go ?_)
    exact ⟨_, [], FinOk.drop _ _, rfl, rfl⟩
  have h : ¬ (40000 : Int) < (n : Int) := h
  have hN : n ≤ 40000 := by omega
  apply decCut (d := d) (n := n)
  · intro round
    repeat (first | refine OpsA.cons ?_ | refine OpsA.nil ?_ | refine OrdE.cons rfl ?_ | refine OrdE.nil ?_ | refine Run.textA C_ok (aopM_sound C_ok) ?_ | refine And.intro rfl ?_ | refine And.intro (Nat.le_of_ble_eq_true rfl) ?_ | refine And.intro (Int.natCast_nonneg _) ?_ | refine fun (_ : Nat) => ?_ | refine Ord.go ?_ | refine Run.go rfl ?_ | refine Cont.go rfl ?_ | refine OrdP.go ?_)
    refine ⟨fun h0 => ?_, fun h0 => ?_⟩
    · have h0 : 0 ≤ long := h0
      repeat (first | refine OpsA.cons ?_ | refine OpsA.nil ?_ | refine OrdE.cons rfl ?_ | refine OrdE.nil ?_ | refine Run.textA C_ok (aopM_sound C_ok) ?_ | refine And.intro rfl ?_ | refine And.intro (Nat.le_of_ble_eq_true rfl) ?_ | refine And.intro (Int.natCast_nonneg _) ?_ | refine fun (_ : Nat) => ?_ | refine Ord.go ?_ | refine Run.go rfl ?_ | refine Cont.go rfl ?_ | refine OrdP.go ?_)
      refine ⟨fun h2 => ?_, fun h2 => ?_⟩
      · have h2 : long ≤ 2 := h2
        obtain ⟨N, hNl⟩ : ∃ N : Nat, (N : Int) = 262144 + long := ⟨(262144 + long).toNat, by omega⟩
        have hzb : Bytes (List.replicate N 0) := fun b hb => by rw [List.eq_of_mem_replicate hb]; omega
        have hzl : ((List.replicate N 0) : List Int).length = N := List.length_replicate
        have hzt : ((List.replicate N 0) : List Int).take N = (List.replicate N 0) := List.take_of_length_le (by rw [hzl]; exact Nat.le_refl _)
        have cb1 := decShot_spec (List.replicate N 0) N (by omega) hzb (by omega)
        have cb2 := decRef_spec (List.replicate N 0) N (by omega) hzb (by omega)
        rw [hzt] at cb1 cb2
        repeat (first | refine OpsA.cons ?_ | refine OpsA.nil ?_ | refine OrdE.cons rfl ?_ | refine OrdE.nil ?_ | refine Run.textA C_ok (aopM_sound C_ok) ?_ | refine And.intro rfl ?_ | refine And.intro (Nat.le_of_ble_eq_true rfl) ?_ | refine And.intro (Int.natCast_nonneg _) ?_ | refine fun (_ : Nat) => ?_ | refine Ord.go ?_ | refine Run.go rfl ?_ | refine Cont.go rfl ?_ | refine OrdP.go ?_)
        refine fun r hr => ?_
        obtain rfl : r = (N : Int) := by rw [hr, IntKind.wrap_i64]; omega
        repeat (first | refine OpsA.cons ?_ | refine OpsA.nil ?_ | refine OrdE.cons rfl ?_ | refine OrdE.nil ?_ | refine Run.textA C_ok (aopM_sound C_ok) ?_ | refine And.intro rfl ?_ | refine And.intro (Nat.le_of_ble_eq_true rfl) ?_ | refine And.intro (Int.natCast_nonneg _) ?_ | refine fun (_ : Nat) => ?_ | refine Ord.go ?_ | refine Run.go rfl ?_ | refine Cont.go rfl ?_ | refine OrdP.go ?_)
        refine ⟨by omega, by omega, fun gb => ?_⟩
        repeat (first | refine OpsA.cons ?_ | refine OpsA.nil ?_ | refine OrdE.cons rfl ?_ | refine OrdE.nil ?_ | refine Run.textA C_ok (aopM_sound C_ok) ?_ | refine And.intro rfl ?_ | refine And.intro (Nat.le_of_ble_eq_true rfl) ?_ | refine And.intro (Int.natCast_nonneg _) ?_ | refine fun (_ : Nat) => ?_ | refine Ord.go ?_ | refine Run.go rfl ?_ | refine Cont.go rfl ?_ | refine OrdP.go ?_)
        refine ACallT.lendD [rdb (List.replicate N 0) N] _ (.one (lendB rfl (by simp [u8s]) (by omega))) (toU cb1) ?_
        rintro r L' ⟨v1, gv1, ov1, hv1, rfl, rfl⟩
        obtain ⟨v1', sv1, hv1'⟩ := hv1.move 1
        refine ⟨hv1.scalD _ _ _ _, hv1.scal.2, .tuple [shot (dS (List.replicate N 0)) (dP (List.replicate N 0)) (dK (List.replicate N 0)) v1', .int .i64 (dE (List.replicate N 0))], Sub.tuples ⟨Sub.aggs ⟨Sub.refl _, Sub.refl _, Sub.refl _, sv1, trivial⟩, Sub.refl _, trivial⟩, ?_⟩
        repeat (first | refine OpsA.cons ?_ | refine OpsA.nil ?_ | refine OrdE.cons rfl ?_ | refine OrdE.nil ?_ | refine Run.textA C_ok (aopM_sound C_ok) ?_ | refine And.intro rfl ?_ | refine And.intro (Nat.le_of_ble_eq_true rfl) ?_ | refine And.intro (Int.natCast_nonneg _) ?_ | refine fun (_ : Nat) => ?_ | refine Ord.go ?_ | refine Run.go rfl ?_ | refine Cont.go rfl ?_ | refine OrdP.go ?_)
        refine ACallT.lendD [rdb (List.replicate N 0) N] _ (.one (lendB rfl (by simp [u8s]) (by omega))) (toU cb2) ?_
        rintro r L' ⟨v2, gv2, ov2, hv2, rfl, rfl⟩
        obtain ⟨v2', sv2, hv2'⟩ := hv2.move 3
        refine ⟨hv2.scalD _ _ _ _, hv2.scal.2, .tuple [shot (dS (List.replicate N 0)) (dP (List.replicate N 0)) (dK (List.replicate N 0)) v2', .int .i64 (dE (List.replicate N 0))], Sub.tuples ⟨Sub.aggs ⟨Sub.refl _, Sub.refl _, Sub.refl _, sv2, trivial⟩, Sub.refl _, trivial⟩, ?_⟩
        repeat (first | refine OpsA.cons ?_ | refine OpsA.nil ?_ | refine OrdE.cons rfl ?_ | refine OrdE.nil ?_ | refine Run.textA C_ok (aopM_sound C_ok) ?_ | refine And.intro rfl ?_ | refine And.intro (Nat.le_of_ble_eq_true rfl) ?_ | refine And.intro (Int.natCast_nonneg _) ?_ | refine fun (_ : Nat) => ?_ | refine Ord.go ?_ | refine Run.go rfl ?_ | refine Cont.go rfl ?_ | refine OrdP.go ?_)
        refine ACallT.ok (ACall.ret (num_spec _) ?_)
        repeat (first | refine OpsA.cons ?_ | refine OpsA.nil ?_ | refine OrdE.cons rfl ?_ | refine OrdE.nil ?_ | refine Run.textA C_ok (aopM_sound C_ok) ?_ | refine And.intro rfl ?_ | refine And.intro (Nat.le_of_ble_eq_true rfl) ?_ | refine And.intro (Int.natCast_nonneg _) ?_ | refine fun (_ : Nat) => ?_ | refine Ord.go ?_ | refine Run.go rfl ?_ | refine Cont.go rfl ?_ | refine OrdP.go ?_)
        refine ⟨fun h => absurd rfl h, fun _ => ?_⟩
        repeat (first | refine OpsA.cons ?_ | refine OpsA.nil ?_ | refine OrdE.cons rfl ?_ | refine OrdE.nil ?_ | refine Run.textA C_ok (aopM_sound C_ok) ?_ | refine And.intro rfl ?_ | refine And.intro (Nat.le_of_ble_eq_true rfl) ?_ | refine And.intro (Int.natCast_nonneg _) ?_ | refine fun (_ : Nat) => ?_ | refine Ord.go ?_ | refine Run.go rfl ?_ | refine Cont.go rfl ?_ | refine OrdP.go ?_)
        refine ACallT.ok (ACall.ret_lend (args' := [shot (dS (List.replicate N 0)) (dP (List.replicate N 0)) (dK (List.replicate N 0)) (rdo (dL (List.replicate N 0)) (dL (List.replicate N 0)).length), shot (dS (List.replicate N 0)) (dP (List.replicate N 0)) (dK (List.replicate N 0)) (rdo (dL (List.replicate N 0)) (dL (List.replicate N 0)).length)]) (.two (Lend.aggs ⟨.same _, .same _, .same _, hv1'.lend rfl, trivial⟩) (Lend.aggs ⟨.same _, .same _, .same _, hv2'.lend rfl, trivial⟩)) (alike_true (dS (List.replicate N 0)) (dP (List.replicate N 0)) (dK (List.replicate N 0)) (dL (List.replicate N 0)) (decR_len _)) rfl ?_)
        repeat (first | refine OpsA.cons ?_ | refine OpsA.nil ?_ | refine OrdE.cons rfl ?_ | refine OrdE.nil ?_ | refine Run.textA C_ok (aopM_sound C_ok) ?_ | refine And.intro rfl ?_ | refine And.intro (Nat.le_of_ble_eq_true rfl) ?_ | refine And.intro (Int.natCast_nonneg _) ?_ | refine fun (_ : Nat) => ?_ | refine Ord.go ?_ | refine Run.go rfl ?_ | refine Cont.go rfl ?_ | refine OrdP.go ?_)
        refine ⟨by simp; omega, fun h => ?_, fun h => ?_⟩
        rotate_left
        · repeat (first | refine OpsA.cons ?_ | refine OpsA.nil ?_ | refine OrdE.cons rfl ?_ | refine OrdE.nil ?_ | refine Run.textA C_ok (aopM_sound C_ok) ?_ | refine And.intro rfl ?_ | refine And.intro (Nat.le_of_ble_eq_true rfl) ?_ | refine And.intro (Int.natCast_nonneg _) ?_ | refine fun (_ : Nat) => ?_ | refine Ord.go ?_ | refine Run.go rfl ?_ | refine Cont.go rfl ?_ | refine OrdP.go ?_)
          refine ⟨show ((List.take n (u8s d)).length + 1) * 1 ≤ _ by simp; omega, ?_⟩
          repeat (first | refine OpsA.cons ?_ | refine OpsA.nil ?_ | refine OrdE.cons rfl ?_ | refine OrdE.nil ?_ | refine Run.textA C_ok (aopM_sound C_ok) ?_ | refine And.intro rfl ?_ | refine And.intro (Nat.le_of_ble_eq_true rfl) ?_ | refine And.intro (Int.natCast_nonneg _) ?_ | refine fun (_ : Nat) => ?_ | refine Ord.go ?_ | refine Run.go rfl ?_ | refine Cont.go rfl ?_ | refine OrdP.go ?_)
          rename_i gq gc Cc
          have tk : (List.take n (u8s d)).length = n := by rw [List.length_take, u8s_len]; omega
          obtain ⟨W, hW⟩ : ∃ W : List Int, W = d.take n ++ [94] := ⟨_, rfl⟩
          have wl : W.length = n + 1 := by rw [hW]; simp; omega
          have wt : W.take n = d.take n := by rw [hW]; show (d.take n ++ [94]).take n = _; rw [List.take_append_of_le_length (by rw [tl hn]; exact Nat.le_refl _), List.take_take, Nat.min_self]
          have wn : W[n]? = some 94 := by rw [hW]; show (d.take n ++ [94])[n]? = _; rw [List.getElem?_append_right (by rw [tl hn]; exact Nat.le_refl _), tl hn, Nat.sub_self]; rfl
          have wb : Bytes W := fun b hbm => by
            rcases List.mem_append.1 (hW ▸ hbm) with h | h
            · exact hb b (List.mem_of_mem_take h)
            · obtain rfl : b = 94 := by simpa using h
              decide
          have cs := decShot_spec W n (by omega) wb (by omega)
          rw [wt] at cs
          have cr := decRef_spec d n hn hb (by omega)
          have csame := sameBytes_spec W d n n (by omega) hn (by omega)
          rw [decide_eq_true (show W.take n = d.take n from wt)] at csame
          have hrow : List.take n (u8s d) ++ [AV.int .u8 94] = u8s W := by rw [hW]; simp [u8s, List.map_take]
          refine ⟨show (n : Int) ≤ ((_ : Nat) : Int) by rw [List.length_append, tk]; show (n : Int) ≤ ((n + 1 : Nat) : Int); omega, ?_⟩
          repeat (first | refine OpsA.cons ?_ | refine OpsA.nil ?_ | refine OrdE.cons rfl ?_ | refine OrdE.nil ?_ | refine Run.textA C_ok (aopM_sound C_ok) ?_ | refine And.intro rfl ?_ | refine And.intro (Nat.le_of_ble_eq_true rfl) ?_ | refine And.intro (Int.natCast_nonneg _) ?_ | refine fun (_ : Nat) => ?_ | refine Ord.go ?_ | refine Run.go rfl ?_ | refine Cont.go rfl ?_ | refine OrdP.go ?_)
          refine ACallT.lendD [rdb W n] _ (.one (lendB rfl hrow (by omega))) (toU cs) ?_
          rintro r L' ⟨v1, gv1, ov1, hv1, rfl, rfl⟩
          obtain ⟨v1', sv1, hv1'⟩ := hv1.move 7
          refine ⟨hv1.scalD _ _ _ _, hv1.scal.2, .tuple [shot (dS (d.take n)) (dP (d.take n)) (dK (d.take n)) v1', .int .i64 (dE (d.take n))], Sub.tuples ⟨Sub.aggs ⟨Sub.refl _, Sub.refl _, Sub.refl _, sv1, trivial⟩, Sub.refl _, trivial⟩, ?_⟩
          repeat (first | refine OpsA.cons ?_ | refine OpsA.nil ?_ | refine OrdE.cons rfl ?_ | refine OrdE.nil ?_ | refine Run.textA C_ok (aopM_sound C_ok) ?_ | refine And.intro rfl ?_ | refine And.intro (Nat.le_of_ble_eq_true rfl) ?_ | refine And.intro (Int.natCast_nonneg _) ?_ | refine fun (_ : Nat) => ?_ | refine Ord.go ?_ | refine Run.go rfl ?_ | refine Cont.go rfl ?_ | refine OrdP.go ?_)
          rename_i gs
          refine ACallT.ok (ACall.pure _ (toU cr) ?_)
          rintro r L' ⟨v2, gv2, ov2, hv2, rfl, rfl⟩
          obtain ⟨v2', sv2, hv2'⟩ := hv2.move 9
          refine ⟨.tuple [shot (dS (d.take n)) (dP (d.take n)) (dK (d.take n)) v2', .int .i64 (dE (d.take n))], Sub.tuples ⟨Sub.aggs ⟨Sub.refl _, Sub.refl _, Sub.refl _, sv2, trivial⟩, Sub.refl _, trivial⟩, ?_⟩
          repeat (first | refine OpsA.cons ?_ | refine OpsA.nil ?_ | refine OrdE.cons rfl ?_ | refine OrdE.nil ?_ | refine Run.textA C_ok (aopM_sound C_ok) ?_ | refine And.intro rfl ?_ | refine And.intro (Nat.le_of_ble_eq_true rfl) ?_ | refine And.intro (Int.natCast_nonneg _) ?_ | refine fun (_ : Nat) => ?_ | refine Ord.go ?_ | refine Run.go rfl ?_ | refine Cont.go rfl ?_ | refine OrdP.go ?_)
          rename_i gt
          refine ACallT.ok (ACall.ret (num_spec _) ?_)
          repeat (first | refine OpsA.cons ?_ | refine OpsA.nil ?_ | refine OrdE.cons rfl ?_ | refine OrdE.nil ?_ | refine Run.textA C_ok (aopM_sound C_ok) ?_ | refine And.intro rfl ?_ | refine And.intro (Nat.le_of_ble_eq_true rfl) ?_ | refine And.intro (Int.natCast_nonneg _) ?_ | refine fun (_ : Nat) => ?_ | refine Ord.go ?_ | refine Run.go rfl ?_ | refine Cont.go rfl ?_ | refine OrdP.go ?_)
          refine ⟨fun h => absurd rfl h, fun _ => ?_⟩
          repeat (first | refine OpsA.cons ?_ | refine OpsA.nil ?_ | refine OrdE.cons rfl ?_ | refine OrdE.nil ?_ | refine Run.textA C_ok (aopM_sound C_ok) ?_ | refine And.intro rfl ?_ | refine And.intro (Nat.le_of_ble_eq_true rfl) ?_ | refine And.intro (Int.natCast_nonneg _) ?_ | refine fun (_ : Nat) => ?_ | refine Ord.go ?_ | refine Run.go rfl ?_ | refine Cont.go rfl ?_ | refine OrdP.go ?_)
          refine ACallT.ok (ACall.ret_lend (args' := [shot (dS (d.take n)) (dP (d.take n)) (dK (d.take n)) (rdo (dL (d.take n)) (dL (d.take n)).length), shot (dS (d.take n)) (dP (d.take n)) (dK (d.take n)) (rdo (dL (d.take n)) (dL (d.take n)).length)]) (.two (Lend.aggs ⟨.same _, .same _, .same _, hv1'.lend rfl, trivial⟩) (Lend.aggs ⟨.same _, .same _, .same _, hv2'.lend rfl, trivial⟩)) (alike_true (dS (d.take n)) (dP (d.take n)) (dK (d.take n)) (dL (d.take n)) (decR_len _)) rfl ?_)
          repeat (first | refine OpsA.cons ?_ | refine OpsA.nil ?_ | refine OrdE.cons rfl ?_ | refine OrdE.nil ?_ | refine Run.textA C_ok (aopM_sound C_ok) ?_ | refine And.intro rfl ?_ | refine And.intro (Nat.le_of_ble_eq_true rfl) ?_ | refine And.intro (Int.natCast_nonneg _) ?_ | refine fun (_ : Nat) => ?_ | refine Ord.go ?_ | refine Run.go rfl ?_ | refine Cont.go rfl ?_ | refine OrdP.go ?_)
          refine ⟨show (n : Int) ≤ ((_ : Nat) : Int) by rw [List.length_append, tk]; show (n : Int) ≤ ((n + 1 : Nat) : Int); omega, ?_⟩
          repeat (first | refine OpsA.cons ?_ | refine OpsA.nil ?_ | refine OrdE.cons rfl ?_ | refine OrdE.nil ?_ | refine Run.textA C_ok (aopM_sound C_ok) ?_ | refine And.intro rfl ?_ | refine And.intro (Nat.le_of_ble_eq_true rfl) ?_ | refine And.intro (Int.natCast_nonneg _) ?_ | refine fun (_ : Nat) => ?_ | refine Ord.go ?_ | refine Run.go rfl ?_ | refine Cont.go rfl ?_ | refine OrdP.go ?_)
          refine ACallT.ok (ACall.ret_lend (.two (lendB rfl hrow (by omega)) (.same _)) csame rfl ?_)
          repeat (first | refine OpsA.cons ?_ | refine OpsA.nil ?_ | refine OrdE.cons rfl ?_ | refine OrdE.nil ?_ | refine Run.textA C_ok (aopM_sound C_ok) ?_ | refine And.intro rfl ?_ | refine And.intro (Nat.le_of_ble_eq_true rfl) ?_ | refine And.intro (Int.natCast_nonneg _) ?_ | refine fun (_ : Nat) => ?_ | refine Ord.go ?_ | refine Run.go rfl ?_ | refine Cont.go rfl ?_ | refine OrdP.go ?_)
          refine ⟨show (n : Int) < (((List.take n (u8s d)).length + 1 : Nat) : Int) by rw [tk]; omega, ?_⟩
          repeat (first | refine OpsA.cons ?_ | refine OpsA.nil ?_ | refine OrdE.cons rfl ?_ | refine OrdE.nil ?_ | refine Run.textA C_ok (aopM_sound C_ok) ?_ | refine And.intro rfl ?_ | refine And.intro (Nat.le_of_ble_eq_true rfl) ?_ | refine And.intro (Int.natCast_nonneg _) ?_ | refine fun (_ : Nat) => ?_ | refine Ord.go ?_ | refine Run.go rfl ?_ | refine Cont.go rfl ?_ | refine OrdP.go ?_)
          refine ⟨.int .u8 94, (show ((List.take n (u8s d) ++ [AV.int .u8 94]))[n]? = some (.int .u8 94) by rw [hrow]; exact u8s_at _ _ _ wn), ?_⟩
          repeat (first | refine OpsA.cons ?_ | refine OpsA.nil ?_ | refine OrdE.cons rfl ?_ | refine OrdE.nil ?_ | refine Run.textA C_ok (aopM_sound C_ok) ?_ | refine And.intro rfl ?_ | refine And.intro (Nat.le_of_ble_eq_true rfl) ?_ | refine And.intro (Int.natCast_nonneg _) ?_ | refine fun (_ : Nat) => ?_ | refine Ord.go ?_ | refine Run.go rfl ?_ | refine Cont.go rfl ?_ | refine OrdP.go ?_)
          refine ⟨fun h => absurd rfl h, fun _ => ?_⟩
          repeat (first | refine OpsA.cons ?_ | refine OpsA.nil ?_ | refine OrdE.cons rfl ?_ | refine OrdE.nil ?_ | refine Run.textA C_ok (aopM_sound C_ok) ?_ | refine And.intro rfl ?_ | refine And.intro (Nat.le_of_ble_eq_true rfl) ?_ | refine And.intro (Int.natCast_nonneg _) ?_ | refine fun (_ : Nat) => ?_ | refine Ord.go ?_ | refine Run.go rfl ?_ | refine Cont.go rfl ?_ | refine OrdP.go ?_)
          refine Run.loopW (decI d n) n
            [rdb d n, .junk, .junk, .junk, .junk, .junk, .junk, .junk, .junk, .junk, .sl 0 gc Cc (n + 1), .ptr 1 gs 0, .junk, .ptr 2 gt 0, .junk, .nils, .int .i64 (0 : Nat), .junk, .junk, .junk, .junk, .junk, .junk, .junk, .junk, .junk, .junk, .junk, .junk, .junk, .junk, .junk, .junk, .junk, .junk, .junk, .junk, .junk, .junk, .junk, .junk, .junk, .junk, .junk, .junk, .junk, .junk, .junk, .junk, .junk, .junk, .junk, .junk, .junk, .junk, .junk, .junk, .junk, .junk, .junk, .junk, .junk, .junk, .junk, .junk, .junk, .junk, .junk, .junk, .junk, .junk, .junk, .junk, .junk, .junk, .junk, .junk, .junk, .junk, .junk, .junk, .junk, .junk, .junk, .junk, .junk, .junk, .junk, .junk, .junk, .junk, .junk, .junk, .junk, .junk, .junk, .junk, .junk, .junk, .junk, .junk, .junk, .junk, .junk, .junk, .junk, .junk, .junk, .junk, .junk, .junk, .junk, .junk, .junk, .junk, .junk, .junk, .junk, .junk, .junk, .junk, .junk, .junk, .junk, .junk, .junk, .junk, .junk, .junk, .junk, .junk, .junk, .junk, .junk, .junk, .junk, .junk, .junk, .junk, .junk, .junk, .junk, .junk, .junk, .junk, .junk, .junk, .junk, .junk, .junk, .junk, .junk, .junk, .junk, .junk, .junk, .junk, .junk, .junk, .junk, .junk, .junk, .junk, .junk, .junk, .junk, .junk, .junk, .junk, .junk, .junk, .junk, .junk, .junk, .junk, .junk, .junk, .junk, .junk, .junk, .junk, .junk, .junk, .junk]
            [(gc, .row 5 1 Cc (u8s W)), (gs, .cells 24 [.junk, .junk, .junk, .junk]), (gt, .cells 24 [.junk, .junk, .junk, .junk]), (0, .dead)]
            (Weak.sel ?_ [5, 8, 10, 99] (by decide) ⟨rfl, (show SubO (.row 5 1 Cc (List.take n (u8s d) ++ [AV.int .u8 94])) (.row 5 1 Cc (u8s W)) by rw [hrow]; exact SubO.refl _), rfl, SubO.cells ⟨Sub.junk _, Sub.junk _, Sub.junk _, Sub.junk _, trivial⟩, rfl, SubO.cells ⟨Sub.junk _, Sub.junk _, Sub.junk _, Sub.junk _, trivial⟩, rfl, trivial, trivial⟩)
            ⟨0, W, .nils, .dead, 0, gc, Cc, gs, gt, by omega, by omega, wl, wb, .inl ⟨rfl, rfl, rfl⟩, rfl, rfl⟩ round
          repeat (first | exact trivial | refine And.intro (Sub.junk _) ?_ | refine And.intro (Sub.refl _) ?_ | refine And.intro (Sub.sl _ _ _ _ _) ?_ | refine And.intro (Sub.ptr _ _ _ _) ?_)
          refine And.intro (show HB.Sub (.sl 5 gc Cc ((List.take n (u8s d)).length + 1)) (.sl 0 gc Cc (n + 1)) by rw [tk]; exact Sub.sl _ _ _ _ _) ?_
          repeat (first | exact trivial | refine And.intro (Sub.junk _) ?_ | refine And.intro (Sub.refl _) ?_ | refine And.intro (Sub.sl _ _ _ _ _) ?_ | refine And.intro (Sub.ptr _ _ _ _) ?_)
        · have hn0 : n = 0 := by have := congrArg List.length h; rw [List.length_take, u8s_len, List.length_nil] at this; omega
          subst hn0
          repeat (first | refine OpsA.cons ?_ | refine OpsA.nil ?_ | refine OrdE.cons rfl ?_ | refine OrdE.nil ?_ | refine Run.textA C_ok (aopM_sound C_ok) ?_ | refine And.intro rfl ?_ | refine And.intro (Nat.le_of_ble_eq_true rfl) ?_ | refine And.intro (Int.natCast_nonneg _) ?_ | refine fun (_ : Nat) => ?_ | refine Ord.go ?_ | refine Run.go rfl ?_ | refine Cont.go rfl ?_ | refine OrdP.go ?_)
          refine ⟨fun h => absurd h (List.cons_ne_nil _ _), fun _ => ?_⟩
          repeat (first | refine OpsA.cons ?_ | refine OpsA.nil ?_ | refine OrdE.cons rfl ?_ | refine OrdE.nil ?_ | refine Run.textA C_ok (aopM_sound C_ok) ?_ | refine And.intro rfl ?_ | refine And.intro (Nat.le_of_ble_eq_true rfl) ?_ | refine And.intro (Int.natCast_nonneg _) ?_ | refine fun (_ : Nat) => ?_ | refine Ord.go ?_ | refine Run.go rfl ?_ | refine Cont.go rfl ?_ | refine OrdP.go ?_)
          rename_i gq gc Cc
          obtain ⟨W, hW⟩ : ∃ W : List Int, W = d.take 0 ++ [94] := ⟨_, rfl⟩
          have wl : W.length = 0 + 1 := by rw [hW]; simp
          have wt : W.take 0 = d.take 0 := by rw [hW]; show (d.take 0 ++ [94]).take 0 = _; rw [List.take_append_of_le_length (by rw [tl hn]; exact Nat.le_refl _), List.take_take, Nat.min_self]
          have wn : W[0]? = some 94 := by rw [hW]; show (d.take 0 ++ [94])[0]? = _; rw [List.getElem?_append_right (by rw [tl hn]; exact Nat.le_refl _), tl hn, Nat.sub_self]; rfl
          have wb : Bytes W := fun b hbm => by
            rcases List.mem_append.1 (hW ▸ hbm) with h | h
            · exact hb b (List.mem_of_mem_take h)
            · obtain rfl : b = 94 := by simpa using h
              decide
          have cs := decShot_spec W 0 (by omega) wb (by omega)
          rw [wt] at cs
          have cr := decRef_spec d 0 hn hb (by omega)
          have csame := sameBytes_spec W d 0 0 (by omega) hn (by omega)
          rw [decide_eq_true (show W.take 0 = d.take 0 from wt)] at csame
          have hrow : [AV.int .u8 94] = u8s W := by rw [hW]; rfl
          refine ACallT.lendD [rdb W 0] _ (.one (lendB rfl hrow (by omega))) (toU cs) ?_
          rintro r L' ⟨v1, gv1, ov1, hv1, rfl, rfl⟩
          obtain ⟨v1', sv1, hv1'⟩ := hv1.move 7
          refine ⟨hv1.scalD _ _ _ _, hv1.scal.2, .tuple [shot (dS (d.take 0)) (dP (d.take 0)) (dK (d.take 0)) v1', .int .i64 (dE (d.take 0))], Sub.tuples ⟨Sub.aggs ⟨Sub.refl _, Sub.refl _, Sub.refl _, sv1, trivial⟩, Sub.refl _, trivial⟩, ?_⟩
          repeat (first | refine OpsA.cons ?_ | refine OpsA.nil ?_ | refine OrdE.cons rfl ?_ | refine OrdE.nil ?_ | refine Run.textA C_ok (aopM_sound C_ok) ?_ | refine And.intro rfl ?_ | refine And.intro (Nat.le_of_ble_eq_true rfl) ?_ | refine And.intro (Int.natCast_nonneg _) ?_ | refine fun (_ : Nat) => ?_ | refine Ord.go ?_ | refine Run.go rfl ?_ | refine Cont.go rfl ?_ | refine OrdP.go ?_)
          rename_i gs
          refine ACallT.ok (ACall.pure _ (toU cr) ?_)
          rintro r L' ⟨v2, gv2, ov2, hv2, rfl, rfl⟩
          obtain ⟨v2', sv2, hv2'⟩ := hv2.move 9
          refine ⟨.tuple [shot (dS (d.take 0)) (dP (d.take 0)) (dK (d.take 0)) v2', .int .i64 (dE (d.take 0))], Sub.tuples ⟨Sub.aggs ⟨Sub.refl _, Sub.refl _, Sub.refl _, sv2, trivial⟩, Sub.refl _, trivial⟩, ?_⟩
          repeat (first | refine OpsA.cons ?_ | refine OpsA.nil ?_ | refine OrdE.cons rfl ?_ | refine OrdE.nil ?_ | refine Run.textA C_ok (aopM_sound C_ok) ?_ | refine And.intro rfl ?_ | refine And.intro (Nat.le_of_ble_eq_true rfl) ?_ | refine And.intro (Int.natCast_nonneg _) ?_ | refine fun (_ : Nat) => ?_ | refine Ord.go ?_ | refine Run.go rfl ?_ | refine Cont.go rfl ?_ | refine OrdP.go ?_)
          rename_i gt
          refine ACallT.ok (ACall.ret (num_spec _) ?_)
          repeat (first | refine OpsA.cons ?_ | refine OpsA.nil ?_ | refine OrdE.cons rfl ?_ | refine OrdE.nil ?_ | refine Run.textA C_ok (aopM_sound C_ok) ?_ | refine And.intro rfl ?_ | refine And.intro (Nat.le_of_ble_eq_true rfl) ?_ | refine And.intro (Int.natCast_nonneg _) ?_ | refine fun (_ : Nat) => ?_ | refine Ord.go ?_ | refine Run.go rfl ?_ | refine Cont.go rfl ?_ | refine OrdP.go ?_)
          refine ⟨fun h => absurd rfl h, fun _ => ?_⟩
          repeat (first | refine OpsA.cons ?_ | refine OpsA.nil ?_ | refine OrdE.cons rfl ?_ | refine OrdE.nil ?_ | refine Run.textA C_ok (aopM_sound C_ok) ?_ | refine And.intro rfl ?_ | refine And.intro (Nat.le_of_ble_eq_true rfl) ?_ | refine And.intro (Int.natCast_nonneg _) ?_ | refine fun (_ : Nat) => ?_ | refine Ord.go ?_ | refine Run.go rfl ?_ | refine Cont.go rfl ?_ | refine OrdP.go ?_)
          refine ACallT.ok (ACall.ret_lend (args' := [shot (dS (d.take 0)) (dP (d.take 0)) (dK (d.take 0)) (rdo (dL (d.take 0)) (dL (d.take 0)).length), shot (dS (d.take 0)) (dP (d.take 0)) (dK (d.take 0)) (rdo (dL (d.take 0)) (dL (d.take 0)).length)]) (.two (Lend.aggs ⟨.same _, .same _, .same _, hv1'.lend rfl, trivial⟩) (Lend.aggs ⟨.same _, .same _, .same _, hv2'.lend rfl, trivial⟩)) (alike_true (dS (d.take 0)) (dP (d.take 0)) (dK (d.take 0)) (dL (d.take 0)) (decR_len _)) rfl ?_)
          repeat (first | refine OpsA.cons ?_ | refine OpsA.nil ?_ | refine OrdE.cons rfl ?_ | refine OrdE.nil ?_ | refine Run.textA C_ok (aopM_sound C_ok) ?_ | refine And.intro rfl ?_ | refine And.intro (Nat.le_of_ble_eq_true rfl) ?_ | refine And.intro (Int.natCast_nonneg _) ?_ | refine fun (_ : Nat) => ?_ | refine Ord.go ?_ | refine Run.go rfl ?_ | refine Cont.go rfl ?_ | refine OrdP.go ?_)
          refine ACallT.ok (ACall.ret_lend (.two (lendB rfl hrow (by omega)) (.same _)) csame rfl ?_)
          repeat (first | refine OpsA.cons ?_ | refine OpsA.nil ?_ | refine OrdE.cons rfl ?_ | refine OrdE.nil ?_ | refine Run.textA C_ok (aopM_sound C_ok) ?_ | refine And.intro rfl ?_ | refine And.intro (Nat.le_of_ble_eq_true rfl) ?_ | refine And.intro (Int.natCast_nonneg _) ?_ | refine fun (_ : Nat) => ?_ | refine Ord.go ?_ | refine Run.go rfl ?_ | refine Cont.go rfl ?_ | refine OrdP.go ?_)
          refine ⟨.int .u8 94, (show ([AV.int .u8 94])[0]? = some (.int .u8 94) by rw [hrow]; exact u8s_at _ _ _ wn), ?_⟩
          repeat (first | refine OpsA.cons ?_ | refine OpsA.nil ?_ | refine OrdE.cons rfl ?_ | refine OrdE.nil ?_ | refine Run.textA C_ok (aopM_sound C_ok) ?_ | refine And.intro rfl ?_ | refine And.intro (Nat.le_of_ble_eq_true rfl) ?_ | refine And.intro (Int.natCast_nonneg _) ?_ | refine fun (_ : Nat) => ?_ | refine Ord.go ?_ | refine Run.go rfl ?_ | refine Cont.go rfl ?_ | refine OrdP.go ?_)
          refine ⟨fun h => absurd rfl h, fun _ => ?_⟩
          repeat (first | refine OpsA.cons ?_ | refine OpsA.nil ?_ | refine OrdE.cons rfl ?_ | refine OrdE.nil ?_ | refine Run.textA C_ok (aopM_sound C_ok) ?_ | refine And.intro rfl ?_ | refine And.intro (Nat.le_of_ble_eq_true rfl) ?_ | refine And.intro (Int.natCast_nonneg _) ?_ | refine fun (_ : Nat) => ?_ | refine Ord.go ?_ | refine Run.go rfl ?_ | refine Cont.go rfl ?_ | refine OrdP.go ?_)
          refine Run.loopW (decI d 0) 0
            [rdb d 0, .junk, .junk, .junk, .junk, .junk, .junk, .junk, .junk, .junk, .sl 0 gc Cc (0 + 1), .ptr 1 gs 0, .junk, .ptr 2 gt 0, .junk, .nils, .int .i64 (0 : Nat), .junk, .junk, .junk, .junk, .junk, .junk, .junk, .junk, .junk, .junk, .junk, .junk, .junk, .junk, .junk, .junk, .junk, .junk, .junk, .junk, .junk, .junk, .junk, .junk, .junk, .junk, .junk, .junk, .junk, .junk, .junk, .junk, .junk, .junk, .junk, .junk, .junk, .junk, .junk, .junk, .junk, .junk, .junk, .junk, .junk, .junk, .junk, .junk, .junk, .junk, .junk, .junk, .junk, .junk, .junk, .junk, .junk, .junk, .junk, .junk, .junk, .junk, .junk, .junk, .junk, .junk, .junk, .junk, .junk, .junk, .junk, .junk, .junk, .junk, .junk, .junk, .junk, .junk, .junk, .junk, .junk, .junk, .junk, .junk, .junk, .junk, .junk, .junk, .junk, .junk, .junk, .junk, .junk, .junk, .junk, .junk, .junk, .junk, .junk, .junk, .junk, .junk, .junk, .junk, .junk, .junk, .junk, .junk, .junk, .junk, .junk, .junk, .junk, .junk, .junk, .junk, .junk, .junk, .junk, .junk, .junk, .junk, .junk, .junk, .junk, .junk, .junk, .junk, .junk, .junk, .junk, .junk, .junk, .junk, .junk, .junk, .junk, .junk, .junk, .junk, .junk, .junk, .junk, .junk, .junk, .junk, .junk, .junk, .junk, .junk, .junk, .junk, .junk, .junk, .junk, .junk, .junk, .junk, .junk, .junk, .junk, .junk, .junk, .junk, .junk, .junk, .junk]
            [(gc, .row 5 1 Cc (u8s W)), (gs, .cells 24 [.junk, .junk, .junk, .junk]), (gt, .cells 24 [.junk, .junk, .junk, .junk]), (0, .dead)]
            (Weak.sel ?_ [6, 8, 10, 99] (by decide) ⟨rfl, (show SubO (.row 5 1 Cc [AV.int .u8 94]) (.row 5 1 Cc (u8s W)) by rw [hrow]; exact SubO.refl _), rfl, SubO.cells ⟨Sub.junk _, Sub.junk _, Sub.junk _, Sub.junk _, trivial⟩, rfl, SubO.cells ⟨Sub.junk _, Sub.junk _, Sub.junk _, Sub.junk _, trivial⟩, rfl, trivial, trivial⟩)
            ⟨0, W, .nils, .dead, 0, gc, Cc, gs, gt, by omega, by omega, wl, wb, .inl ⟨rfl, rfl, rfl⟩, rfl, rfl⟩ round
          repeat (first | exact trivial | refine And.intro (Sub.junk _) ?_ | refine And.intro (Sub.refl _) ?_ | refine And.intro (Sub.sl _ _ _ _ _) ?_ | refine And.intro (Sub.ptr _ _ _ _) ?_)

      · repeat (first | refine OpsA.cons ?_ | refine OpsA.nil ?_ | refine OrdE.cons rfl ?_ | refine OrdE.nil ?_ | refine Run.textA C_ok (aopM_sound C_ok) ?_ | refine And.intro rfl ?_ | refine And.intro (Nat.le_of_ble_eq_true rfl) ?_ | refine And.intro (Int.natCast_nonneg _) ?_ | refine fun (_ : Nat) => ?_ | refine Ord.go ?_ | refine Run.go rfl ?_ | refine Cont.go rfl ?_ | refine OrdP.go ?_)
        refine ⟨by simp; omega, fun h => ?_, fun h => ?_⟩
        rotate_left
        · repeat (first | refine OpsA.cons ?_ | refine OpsA.nil ?_ | refine OrdE.cons rfl ?_ | refine OrdE.nil ?_ | refine Run.textA C_ok (aopM_sound C_ok) ?_ | refine And.intro rfl ?_ | refine And.intro (Nat.le_of_ble_eq_true rfl) ?_ | refine And.intro (Int.natCast_nonneg _) ?_ | refine fun (_ : Nat) => ?_ | refine Ord.go ?_ | refine Run.go rfl ?_ | refine Cont.go rfl ?_ | refine OrdP.go ?_)
          refine ⟨show ((List.take n (u8s d)).length + 1) * 1 ≤ _ by simp; omega, ?_⟩
          repeat (first | refine OpsA.cons ?_ | refine OpsA.nil ?_ | refine OrdE.cons rfl ?_ | refine OrdE.nil ?_ | refine Run.textA C_ok (aopM_sound C_ok) ?_ | refine And.intro rfl ?_ | refine And.intro (Nat.le_of_ble_eq_true rfl) ?_ | refine And.intro (Int.natCast_nonneg _) ?_ | refine fun (_ : Nat) => ?_ | refine Ord.go ?_ | refine Run.go rfl ?_ | refine Cont.go rfl ?_ | refine OrdP.go ?_)
          rename_i gq gc Cc
          have tk : (List.take n (u8s d)).length = n := by rw [List.length_take, u8s_len]; omega
          obtain ⟨W, hW⟩ : ∃ W : List Int, W = d.take n ++ [94] := ⟨_, rfl⟩
          have wl : W.length = n + 1 := by rw [hW]; simp; omega
          have wt : W.take n = d.take n := by rw [hW]; show (d.take n ++ [94]).take n = _; rw [List.take_append_of_le_length (by rw [tl hn]; exact Nat.le_refl _), List.take_take, Nat.min_self]
          have wn : W[n]? = some 94 := by rw [hW]; show (d.take n ++ [94])[n]? = _; rw [List.getElem?_append_right (by rw [tl hn]; exact Nat.le_refl _), tl hn, Nat.sub_self]; rfl
          have wb : Bytes W := fun b hbm => by
            rcases List.mem_append.1 (hW ▸ hbm) with h | h
            · exact hb b (List.mem_of_mem_take h)
            · obtain rfl : b = 94 := by simpa using h
              decide
          have cs := decShot_spec W n (by omega) wb (by omega)
          rw [wt] at cs
          have cr := decRef_spec d n hn hb (by omega)
          have csame := sameBytes_spec W d n n (by omega) hn (by omega)
          rw [decide_eq_true (show W.take n = d.take n from wt)] at csame
          have hrow : List.take n (u8s d) ++ [AV.int .u8 94] = u8s W := by rw [hW]; simp [u8s, List.map_take]
          refine ⟨show (n : Int) ≤ ((_ : Nat) : Int) by rw [List.length_append, tk]; show (n : Int) ≤ ((n + 1 : Nat) : Int); omega, ?_⟩
          repeat (first | refine OpsA.cons ?_ | refine OpsA.nil ?_ | refine OrdE.cons rfl ?_ | refine OrdE.nil ?_ | refine Run.textA C_ok (aopM_sound C_ok) ?_ | refine And.intro rfl ?_ | refine And.intro (Nat.le_of_ble_eq_true rfl) ?_ | refine And.intro (Int.natCast_nonneg _) ?_ | refine fun (_ : Nat) => ?_ | refine Ord.go ?_ | refine Run.go rfl ?_ | refine Cont.go rfl ?_ | refine OrdP.go ?_)
          refine ACallT.lendD [rdb W n] _ (.one (lendB rfl hrow (by omega))) (toU cs) ?_
          rintro r L' ⟨v1, gv1, ov1, hv1, rfl, rfl⟩
          obtain ⟨v1', sv1, hv1'⟩ := hv1.move 2
          refine ⟨hv1.scalD _ _ _ _, hv1.scal.2, .tuple [shot (dS (d.take n)) (dP (d.take n)) (dK (d.take n)) v1', .int .i64 (dE (d.take n))], Sub.tuples ⟨Sub.aggs ⟨Sub.refl _, Sub.refl _, Sub.refl _, sv1, trivial⟩, Sub.refl _, trivial⟩, ?_⟩
          repeat (first | refine OpsA.cons ?_ | refine OpsA.nil ?_ | refine OrdE.cons rfl ?_ | refine OrdE.nil ?_ | refine Run.textA C_ok (aopM_sound C_ok) ?_ | refine And.intro rfl ?_ | refine And.intro (Nat.le_of_ble_eq_true rfl) ?_ | refine And.intro (Int.natCast_nonneg _) ?_ | refine fun (_ : Nat) => ?_ | refine Ord.go ?_ | refine Run.go rfl ?_ | refine Cont.go rfl ?_ | refine OrdP.go ?_)
          rename_i gs
          refine ACallT.ok (ACall.pure _ (toU cr) ?_)
          rintro r L' ⟨v2, gv2, ov2, hv2, rfl, rfl⟩
          obtain ⟨v2', sv2, hv2'⟩ := hv2.move 4
          refine ⟨.tuple [shot (dS (d.take n)) (dP (d.take n)) (dK (d.take n)) v2', .int .i64 (dE (d.take n))], Sub.tuples ⟨Sub.aggs ⟨Sub.refl _, Sub.refl _, Sub.refl _, sv2, trivial⟩, Sub.refl _, trivial⟩, ?_⟩
          repeat (first | refine OpsA.cons ?_ | refine OpsA.nil ?_ | refine OrdE.cons rfl ?_ | refine OrdE.nil ?_ | refine Run.textA C_ok (aopM_sound C_ok) ?_ | refine And.intro rfl ?_ | refine And.intro (Nat.le_of_ble_eq_true rfl) ?_ | refine And.intro (Int.natCast_nonneg _) ?_ | refine fun (_ : Nat) => ?_ | refine Ord.go ?_ | refine Run.go rfl ?_ | refine Cont.go rfl ?_ | refine OrdP.go ?_)
          rename_i gt
          refine ACallT.ok (ACall.ret (num_spec _) ?_)
          repeat (first | refine OpsA.cons ?_ | refine OpsA.nil ?_ | refine OrdE.cons rfl ?_ | refine OrdE.nil ?_ | refine Run.textA C_ok (aopM_sound C_ok) ?_ | refine And.intro rfl ?_ | refine And.intro (Nat.le_of_ble_eq_true rfl) ?_ | refine And.intro (Int.natCast_nonneg _) ?_ | refine fun (_ : Nat) => ?_ | refine Ord.go ?_ | refine Run.go rfl ?_ | refine Cont.go rfl ?_ | refine OrdP.go ?_)
          refine ⟨fun h => absurd rfl h, fun _ => ?_⟩
          repeat (first | refine OpsA.cons ?_ | refine OpsA.nil ?_ | refine OrdE.cons rfl ?_ | refine OrdE.nil ?_ | refine Run.textA C_ok (aopM_sound C_ok) ?_ | refine And.intro rfl ?_ | refine And.intro (Nat.le_of_ble_eq_true rfl) ?_ | refine And.intro (Int.natCast_nonneg _) ?_ | refine fun (_ : Nat) => ?_ | refine Ord.go ?_ | refine Run.go rfl ?_ | refine Cont.go rfl ?_ | refine OrdP.go ?_)
          refine ACallT.ok (ACall.ret_lend (args' := [shot (dS (d.take n)) (dP (d.take n)) (dK (d.take n)) (rdo (dL (d.take n)) (dL (d.take n)).length), shot (dS (d.take n)) (dP (d.take n)) (dK (d.take n)) (rdo (dL (d.take n)) (dL (d.take n)).length)]) (.two (Lend.aggs ⟨.same _, .same _, .same _, hv1'.lend rfl, trivial⟩) (Lend.aggs ⟨.same _, .same _, .same _, hv2'.lend rfl, trivial⟩)) (alike_true (dS (d.take n)) (dP (d.take n)) (dK (d.take n)) (dL (d.take n)) (decR_len _)) rfl ?_)
          repeat (first | refine OpsA.cons ?_ | refine OpsA.nil ?_ | refine OrdE.cons rfl ?_ | refine OrdE.nil ?_ | refine Run.textA C_ok (aopM_sound C_ok) ?_ | refine And.intro rfl ?_ | refine And.intro (Nat.le_of_ble_eq_true rfl) ?_ | refine And.intro (Int.natCast_nonneg _) ?_ | refine fun (_ : Nat) => ?_ | refine Ord.go ?_ | refine Run.go rfl ?_ | refine Cont.go rfl ?_ | refine OrdP.go ?_)
          refine ⟨show (n : Int) ≤ ((_ : Nat) : Int) by rw [List.length_append, tk]; show (n : Int) ≤ ((n + 1 : Nat) : Int); omega, ?_⟩
          repeat (first | refine OpsA.cons ?_ | refine OpsA.nil ?_ | refine OrdE.cons rfl ?_ | refine OrdE.nil ?_ | refine Run.textA C_ok (aopM_sound C_ok) ?_ | refine And.intro rfl ?_ | refine And.intro (Nat.le_of_ble_eq_true rfl) ?_ | refine And.intro (Int.natCast_nonneg _) ?_ | refine fun (_ : Nat) => ?_ | refine Ord.go ?_ | refine Run.go rfl ?_ | refine Cont.go rfl ?_ | refine OrdP.go ?_)
          refine ACallT.ok (ACall.ret_lend (.two (lendB rfl hrow (by omega)) (.same _)) csame rfl ?_)
          repeat (first | refine OpsA.cons ?_ | refine OpsA.nil ?_ | refine OrdE.cons rfl ?_ | refine OrdE.nil ?_ | refine Run.textA C_ok (aopM_sound C_ok) ?_ | refine And.intro rfl ?_ | refine And.intro (Nat.le_of_ble_eq_true rfl) ?_ | refine And.intro (Int.natCast_nonneg _) ?_ | refine fun (_ : Nat) => ?_ | refine Ord.go ?_ | refine Run.go rfl ?_ | refine Cont.go rfl ?_ | refine OrdP.go ?_)
          refine ⟨show (n : Int) < (((List.take n (u8s d)).length + 1 : Nat) : Int) by rw [tk]; omega, ?_⟩
          repeat (first | refine OpsA.cons ?_ | refine OpsA.nil ?_ | refine OrdE.cons rfl ?_ | refine OrdE.nil ?_ | refine Run.textA C_ok (aopM_sound C_ok) ?_ | refine And.intro rfl ?_ | refine And.intro (Nat.le_of_ble_eq_true rfl) ?_ | refine And.intro (Int.natCast_nonneg _) ?_ | refine fun (_ : Nat) => ?_ | refine Ord.go ?_ | refine Run.go rfl ?_ | refine Cont.go rfl ?_ | refine OrdP.go ?_)
          refine ⟨.int .u8 94, (show ((List.take n (u8s d) ++ [AV.int .u8 94]))[n]? = some (.int .u8 94) by rw [hrow]; exact u8s_at _ _ _ wn), ?_⟩
          repeat (first | refine OpsA.cons ?_ | refine OpsA.nil ?_ | refine OrdE.cons rfl ?_ | refine OrdE.nil ?_ | refine Run.textA C_ok (aopM_sound C_ok) ?_ | refine And.intro rfl ?_ | refine And.intro (Nat.le_of_ble_eq_true rfl) ?_ | refine And.intro (Int.natCast_nonneg _) ?_ | refine fun (_ : Nat) => ?_ | refine Ord.go ?_ | refine Run.go rfl ?_ | refine Cont.go rfl ?_ | refine OrdP.go ?_)
          refine ⟨fun h => absurd rfl h, fun _ => ?_⟩
          repeat (first | refine OpsA.cons ?_ | refine OpsA.nil ?_ | refine OrdE.cons rfl ?_ | refine OrdE.nil ?_ | refine Run.textA C_ok (aopM_sound C_ok) ?_ | refine And.intro rfl ?_ | refine And.intro (Nat.le_of_ble_eq_true rfl) ?_ | refine And.intro (Int.natCast_nonneg _) ?_ | refine fun (_ : Nat) => ?_ | refine Ord.go ?_ | refine Run.go rfl ?_ | refine Cont.go rfl ?_ | refine OrdP.go ?_)
          refine Run.loopW (decI d n) n
            [rdb d n, .junk, .junk, .junk, .junk, .junk, .junk, .junk, .junk, .junk, .sl 0 gc Cc (n + 1), .ptr 1 gs 0, .junk, .ptr 2 gt 0, .junk, .nils, .int .i64 (0 : Nat), .junk, .junk, .junk, .junk, .junk, .junk, .junk, .junk, .junk, .junk, .junk, .junk, .junk, .junk, .junk, .junk, .junk, .junk, .junk, .junk, .junk, .junk, .junk, .junk, .junk, .junk, .junk, .junk, .junk, .junk, .junk, .junk, .junk, .junk, .junk, .junk, .junk, .junk, .junk, .junk, .junk, .junk, .junk, .junk, .junk, .junk, .junk, .junk, .junk, .junk, .junk, .junk, .junk, .junk, .junk, .junk, .junk, .junk, .junk, .junk, .junk, .junk, .junk, .junk, .junk, .junk, .junk, .junk, .junk, .junk, .junk, .junk, .junk, .junk, .junk, .junk, .junk, .junk, .junk, .junk, .junk, .junk, .junk, .junk, .junk, .junk, .junk, .junk, .junk, .junk, .junk, .junk, .junk, .junk, .junk, .junk, .junk, .junk, .junk, .junk, .junk, .junk, .junk, .junk, .junk, .junk, .junk, .junk, .junk, .junk, .junk, .junk, .junk, .junk, .junk, .junk, .junk, .junk, .junk, .junk, .junk, .junk, .junk, .junk, .junk, .junk, .junk, .junk, .junk, .junk, .junk, .junk, .junk, .junk, .junk, .junk, .junk, .junk, .junk, .junk, .junk, .junk, .junk, .junk, .junk, .junk, .junk, .junk, .junk, .junk, .junk, .junk, .junk, .junk, .junk, .junk, .junk, .junk, .junk, .junk, .junk, .junk, .junk, .junk, .junk, .junk, .junk]
            [(gc, .row 5 1 Cc (u8s W)), (gs, .cells 24 [.junk, .junk, .junk, .junk]), (gt, .cells 24 [.junk, .junk, .junk, .junk]), (0, .dead)]
            (Weak.sel ?_ [0, 3, 5, 99] (by decide) ⟨rfl, (show SubO (.row 5 1 Cc (List.take n (u8s d) ++ [AV.int .u8 94])) (.row 5 1 Cc (u8s W)) by rw [hrow]; exact SubO.refl _), rfl, SubO.cells ⟨Sub.junk _, Sub.junk _, Sub.junk _, Sub.junk _, trivial⟩, rfl, SubO.cells ⟨Sub.junk _, Sub.junk _, Sub.junk _, Sub.junk _, trivial⟩, rfl, trivial, trivial⟩)
            ⟨0, W, .nils, .dead, 0, gc, Cc, gs, gt, by omega, by omega, wl, wb, .inl ⟨rfl, rfl, rfl⟩, rfl, rfl⟩ round
          repeat (first | exact trivial | refine And.intro (Sub.junk _) ?_ | refine And.intro (Sub.refl _) ?_ | refine And.intro (Sub.sl _ _ _ _ _) ?_ | refine And.intro (Sub.ptr _ _ _ _) ?_)
          refine And.intro (show HB.Sub (.sl 0 gc Cc ((List.take n (u8s d)).length + 1)) (.sl 0 gc Cc (n + 1)) by rw [tk]; exact Sub.sl _ _ _ _ _) ?_
          repeat (first | exact trivial | refine And.intro (Sub.junk _) ?_ | refine And.intro (Sub.refl _) ?_ | refine And.intro (Sub.sl _ _ _ _ _) ?_ | refine And.intro (Sub.ptr _ _ _ _) ?_)
        · have hn0 : n = 0 := by have := congrArg List.length h; rw [List.length_take, u8s_len, List.length_nil] at this; omega
          subst hn0
          repeat (first | refine OpsA.cons ?_ | refine OpsA.nil ?_ | refine OrdE.cons rfl ?_ | refine OrdE.nil ?_ | refine Run.textA C_ok (aopM_sound C_ok) ?_ | refine And.intro rfl ?_ | refine And.intro (Nat.le_of_ble_eq_true rfl) ?_ | refine And.intro (Int.natCast_nonneg _) ?_ | refine fun (_ : Nat) => ?_ | refine Ord.go ?_ | refine Run.go rfl ?_ | refine Cont.go rfl ?_ | refine OrdP.go ?_)
          refine ⟨fun h => absurd h (List.cons_ne_nil _ _), fun _ => ?_⟩
          repeat (first | refine OpsA.cons ?_ | refine OpsA.nil ?_ | refine OrdE.cons rfl ?_ | refine OrdE.nil ?_ | refine Run.textA C_ok (aopM_sound C_ok) ?_ | refine And.intro rfl ?_ | refine And.intro (Nat.le_of_ble_eq_true rfl) ?_ | refine And.intro (Int.natCast_nonneg _) ?_ | refine fun (_ : Nat) => ?_ | refine Ord.go ?_ | refine Run.go rfl ?_ | refine Cont.go rfl ?_ | refine OrdP.go ?_)
          rename_i gq gc Cc
          obtain ⟨W, hW⟩ : ∃ W : List Int, W = d.take 0 ++ [94] := ⟨_, rfl⟩
          have wl : W.length = 0 + 1 := by rw [hW]; simp
          have wt : W.take 0 = d.take 0 := by rw [hW]; show (d.take 0 ++ [94]).take 0 = _; rw [List.take_append_of_le_length (by rw [tl hn]; exact Nat.le_refl _), List.take_take, Nat.min_self]
          have wn : W[0]? = some 94 := by rw [hW]; show (d.take 0 ++ [94])[0]? = _; rw [List.getElem?_append_right (by rw [tl hn]; exact Nat.le_refl _), tl hn, Nat.sub_self]; rfl
          have wb : Bytes W := fun b hbm => by
            rcases List.mem_append.1 (hW ▸ hbm) with h | h
            · exact hb b (List.mem_of_mem_take h)
            · obtain rfl : b = 94 := by simpa using h
              decide
          have cs := decShot_spec W 0 (by omega) wb (by omega)
          rw [wt] at cs
          have cr := decRef_spec d 0 hn hb (by omega)
          have csame := sameBytes_spec W d 0 0 (by omega) hn (by omega)
          rw [decide_eq_true (show W.take 0 = d.take 0 from wt)] at csame
          have hrow : [AV.int .u8 94] = u8s W := by rw [hW]; rfl
          refine ACallT.lendD [rdb W 0] _ (.one (lendB rfl hrow (by omega))) (toU cs) ?_
          rintro r L' ⟨v1, gv1, ov1, hv1, rfl, rfl⟩
          obtain ⟨v1', sv1, hv1'⟩ := hv1.move 2
          refine ⟨hv1.scalD _ _ _ _, hv1.scal.2, .tuple [shot (dS (d.take 0)) (dP (d.take 0)) (dK (d.take 0)) v1', .int .i64 (dE (d.take 0))], Sub.tuples ⟨Sub.aggs ⟨Sub.refl _, Sub.refl _, Sub.refl _, sv1, trivial⟩, Sub.refl _, trivial⟩, ?_⟩
          repeat (first | refine OpsA.cons ?_ | refine OpsA.nil ?_ | refine OrdE.cons rfl ?_ | refine OrdE.nil ?_ | refine Run.textA C_ok (aopM_sound C_ok) ?_ | refine And.intro rfl ?_ | refine And.intro (Nat.le_of_ble_eq_true rfl) ?_ | refine And.intro (Int.natCast_nonneg _) ?_ | refine fun (_ : Nat) => ?_ | refine Ord.go ?_ | refine Run.go rfl ?_ | refine Cont.go rfl ?_ | refine OrdP.go ?_)
          rename_i gs
          refine ACallT.ok (ACall.pure _ (toU cr) ?_)
          rintro r L' ⟨v2, gv2, ov2, hv2, rfl, rfl⟩
          obtain ⟨v2', sv2, hv2'⟩ := hv2.move 4
          refine ⟨.tuple [shot (dS (d.take 0)) (dP (d.take 0)) (dK (d.take 0)) v2', .int .i64 (dE (d.take 0))], Sub.tuples ⟨Sub.aggs ⟨Sub.refl _, Sub.refl _, Sub.refl _, sv2, trivial⟩, Sub.refl _, trivial⟩, ?_⟩
          repeat (first | refine OpsA.cons ?_ | refine OpsA.nil ?_ | refine OrdE.cons rfl ?_ | refine OrdE.nil ?_ | refine Run.textA C_ok (aopM_sound C_ok) ?_ | refine And.intro rfl ?_ | refine And.intro (Nat.le_of_ble_eq_true rfl) ?_ | refine And.intro (Int.natCast_nonneg _) ?_ | refine fun (_ : Nat) => ?_ | refine Ord.go ?_ | refine Run.go rfl ?_ | refine Cont.go rfl ?_ | refine OrdP.go ?_)
          rename_i gt
          refine ACallT.ok (ACall.ret (num_spec _) ?_)
          repeat (first | refine OpsA.cons ?_ | refine OpsA.nil ?_ | refine OrdE.cons rfl ?_ | refine OrdE.nil ?_ | refine Run.textA C_ok (aopM_sound C_ok) ?_ | refine And.intro rfl ?_ | refine And.intro (Nat.le_of_ble_eq_true rfl) ?_ | refine And.intro (Int.natCast_nonneg _) ?_ | refine fun (_ : Nat) => ?_ | refine Ord.go ?_ | refine Run.go rfl ?_ | refine Cont.go rfl ?_ | refine OrdP.go ?_)
          refine ⟨fun h => absurd rfl h, fun _ => ?_⟩
          repeat (first | refine OpsA.cons ?_ | refine OpsA.nil ?_ | refine OrdE.cons rfl ?_ | refine OrdE.nil ?_ | refine Run.textA C_ok (aopM_sound C_ok) ?_ | refine And.intro rfl ?_ | refine And.intro (Nat.le_of_ble_eq_true rfl) ?_ | refine And.intro (Int.natCast_nonneg _) ?_ | refine fun (_ : Nat) => ?_ | refine Ord.go ?_ | refine Run.go rfl ?_ | refine Cont.go rfl ?_ | refine OrdP.go ?_)
          refine ACallT.ok (ACall.ret_lend (args' := [shot (dS (d.take 0)) (dP (d.take 0)) (dK (d.take 0)) (rdo (dL (d.take 0)) (dL (d.take 0)).length), shot (dS (d.take 0)) (dP (d.take 0)) (dK (d.take 0)) (rdo (dL (d.take 0)) (dL (d.take 0)).length)]) (.two (Lend.aggs ⟨.same _, .same _, .same _, hv1'.lend rfl, trivial⟩) (Lend.aggs ⟨.same _, .same _, .same _, hv2'.lend rfl, trivial⟩)) (alike_true (dS (d.take 0)) (dP (d.take 0)) (dK (d.take 0)) (dL (d.take 0)) (decR_len _)) rfl ?_)
          repeat (first | refine OpsA.cons ?_ | refine OpsA.nil ?_ | refine OrdE.cons rfl ?_ | refine OrdE.nil ?_ | refine Run.textA C_ok (aopM_sound C_ok) ?_ | refine And.intro rfl ?_ | refine And.intro (Nat.le_of_ble_eq_true rfl) ?_ | refine And.intro (Int.natCast_nonneg _) ?_ | refine fun (_ : Nat) => ?_ | refine Ord.go ?_ | refine Run.go rfl ?_ | refine Cont.go rfl ?_ | refine OrdP.go ?_)
          refine ACallT.ok (ACall.ret_lend (.two (lendB rfl hrow (by omega)) (.same _)) csame rfl ?_)
          repeat (first | refine OpsA.cons ?_ | refine OpsA.nil ?_ | refine OrdE.cons rfl ?_ | refine OrdE.nil ?_ | refine Run.textA C_ok (aopM_sound C_ok) ?_ | refine And.intro rfl ?_ | refine And.intro (Nat.le_of_ble_eq_true rfl) ?_ | refine And.intro (Int.natCast_nonneg _) ?_ | refine fun (_ : Nat) => ?_ | refine Ord.go ?_ | refine Run.go rfl ?_ | refine Cont.go rfl ?_ | refine OrdP.go ?_)
          refine ⟨.int .u8 94, (show ([AV.int .u8 94])[0]? = some (.int .u8 94) by rw [hrow]; exact u8s_at _ _ _ wn), ?_⟩
          repeat (first | refine OpsA.cons ?_ | refine OpsA.nil ?_ | refine OrdE.cons rfl ?_ | refine OrdE.nil ?_ | refine Run.textA C_ok (aopM_sound C_ok) ?_ | refine And.intro rfl ?_ | refine And.intro (Nat.le_of_ble_eq_true rfl) ?_ | refine And.intro (Int.natCast_nonneg _) ?_ | refine fun (_ : Nat) => ?_ | refine Ord.go ?_ | refine Run.go rfl ?_ | refine Cont.go rfl ?_ | refine OrdP.go ?_)
          refine ⟨fun h => absurd rfl h, fun _ => ?_⟩
          repeat (first | refine OpsA.cons ?_ | refine OpsA.nil ?_ | refine OrdE.cons rfl ?_ | refine OrdE.nil ?_ | refine Run.textA C_ok (aopM_sound C_ok) ?_ | refine And.intro rfl ?_ | refine And.intro (Nat.le_of_ble_eq_true rfl) ?_ | refine And.intro (Int.natCast_nonneg _) ?_ | refine fun (_ : Nat) => ?_ | refine Ord.go ?_ | refine Run.go rfl ?_ | refine Cont.go rfl ?_ | refine OrdP.go ?_)
          refine Run.loopW (decI d 0) 0
            [rdb d 0, .junk, .junk, .junk, .junk, .junk, .junk, .junk, .junk, .junk, .sl 0 gc Cc (0 + 1), .ptr 1 gs 0, .junk, .ptr 2 gt 0, .junk, .nils, .int .i64 (0 : Nat), .junk, .junk, .junk, .junk, .junk, .junk, .junk, .junk, .junk, .junk, .junk, .junk, .junk, .junk, .junk, .junk, .junk, .junk, .junk, .junk, .junk, .junk, .junk, .junk, .junk, .junk, .junk, .junk, .junk, .junk, .junk, .junk, .junk, .junk, .junk, .junk, .junk, .junk, .junk, .junk, .junk, .junk, .junk, .junk, .junk, .junk, .junk, .junk, .junk, .junk, .junk, .junk, .junk, .junk, .junk, .junk, .junk, .junk, .junk, .junk, .junk, .junk, .junk, .junk, .junk, .junk, .junk, .junk, .junk, .junk, .junk, .junk, .junk, .junk, .junk, .junk, .junk, .junk, .junk, .junk, .junk, .junk, .junk, .junk, .junk, .junk, .junk, .junk, .junk, .junk, .junk, .junk, .junk, .junk, .junk, .junk, .junk, .junk, .junk, .junk, .junk, .junk, .junk, .junk, .junk, .junk, .junk, .junk, .junk, .junk, .junk, .junk, .junk, .junk, .junk, .junk, .junk, .junk, .junk, .junk, .junk, .junk, .junk, .junk, .junk, .junk, .junk, .junk, .junk, .junk, .junk, .junk, .junk, .junk, .junk, .junk, .junk, .junk, .junk, .junk, .junk, .junk, .junk, .junk, .junk, .junk, .junk, .junk, .junk, .junk, .junk, .junk, .junk, .junk, .junk, .junk, .junk, .junk, .junk, .junk, .junk, .junk, .junk, .junk, .junk, .junk, .junk]
            [(gc, .row 5 1 Cc (u8s W)), (gs, .cells 24 [.junk, .junk, .junk, .junk]), (gt, .cells 24 [.junk, .junk, .junk, .junk]), (0, .dead)]
            (Weak.sel ?_ [1, 3, 5, 99] (by decide) ⟨rfl, (show SubO (.row 5 1 Cc [AV.int .u8 94]) (.row 5 1 Cc (u8s W)) by rw [hrow]; exact SubO.refl _), rfl, SubO.cells ⟨Sub.junk _, Sub.junk _, Sub.junk _, Sub.junk _, trivial⟩, rfl, SubO.cells ⟨Sub.junk _, Sub.junk _, Sub.junk _, Sub.junk _, trivial⟩, rfl, trivial, trivial⟩)
            ⟨0, W, .nils, .dead, 0, gc, Cc, gs, gt, by omega, by omega, wl, wb, .inl ⟨rfl, rfl, rfl⟩, rfl, rfl⟩ round
          repeat (first | exact trivial | refine And.intro (Sub.junk _) ?_ | refine And.intro (Sub.refl _) ?_ | refine And.intro (Sub.sl _ _ _ _ _) ?_ | refine And.intro (Sub.ptr _ _ _ _) ?_)

    · repeat (first | refine OpsA.cons ?_ | refine OpsA.nil ?_ | refine OrdE.cons rfl ?_ | refine OrdE.nil ?_ | refine Run.textA C_ok (aopM_sound C_ok) ?_ | refine And.intro rfl ?_ | refine And.intro (Nat.le_of_ble_eq_true rfl) ?_ | refine And.intro (Int.natCast_nonneg _) ?_ | refine fun (_ : Nat) => ?_ | refine Ord.go ?_ | refine Run.go rfl ?_ | refine Cont.go rfl ?_ | refine OrdP.go ?_)
      refine ⟨by simp; omega, fun h => ?_, fun h => ?_⟩
      rotate_left
      · repeat (first | refine OpsA.cons ?_ | refine OpsA.nil ?_ | refine OrdE.cons rfl ?_ | refine OrdE.nil ?_ | refine Run.textA C_ok (aopM_sound C_ok) ?_ | refine And.intro rfl ?_ | refine And.intro (Nat.le_of_ble_eq_true rfl) ?_ | refine And.intro (Int.natCast_nonneg _) ?_ | refine fun (_ : Nat) => ?_ | refine Ord.go ?_ | refine Run.go rfl ?_ | refine Cont.go rfl ?_ | refine OrdP.go ?_)
        refine ⟨show ((List.take n (u8s d)).length + 1) * 1 ≤ _ by simp; omega, ?_⟩
        repeat (first | refine OpsA.cons ?_ | refine OpsA.nil ?_ | refine OrdE.cons rfl ?_ | refine OrdE.nil ?_ | refine Run.textA C_ok (aopM_sound C_ok) ?_ | refine And.intro rfl ?_ | refine And.intro (Nat.le_of_ble_eq_true rfl) ?_ | refine And.intro (Int.natCast_nonneg _) ?_ | refine fun (_ : Nat) => ?_ | refine Ord.go ?_ | refine Run.go rfl ?_ | refine Cont.go rfl ?_ | refine OrdP.go ?_)
        rename_i gq gc Cc
        have tk : (List.take n (u8s d)).length = n := by rw [List.length_take, u8s_len]; omega
        obtain ⟨W, hW⟩ : ∃ W : List Int, W = d.take n ++ [94] := ⟨_, rfl⟩
        have wl : W.length = n + 1 := by rw [hW]; simp; omega
        have wt : W.take n = d.take n := by rw [hW]; show (d.take n ++ [94]).take n = _; rw [List.take_append_of_le_length (by rw [tl hn]; exact Nat.le_refl _), List.take_take, Nat.min_self]
        have wn : W[n]? = some 94 := by rw [hW]; show (d.take n ++ [94])[n]? = _; rw [List.getElem?_append_right (by rw [tl hn]; exact Nat.le_refl _), tl hn, Nat.sub_self]; rfl
        have wb : Bytes W := fun b hbm => by
          rcases List.mem_append.1 (hW ▸ hbm) with h | h
          · exact hb b (List.mem_of_mem_take h)
          · obtain rfl : b = 94 := by simpa using h
            decide
        have cs := decShot_spec W n (by omega) wb (by omega)
        rw [wt] at cs
        have cr := decRef_spec d n hn hb (by omega)
        have csame := sameBytes_spec W d n n (by omega) hn (by omega)
        rw [decide_eq_true (show W.take n = d.take n from wt)] at csame
        have hrow : List.take n (u8s d) ++ [AV.int .u8 94] = u8s W := by rw [hW]; simp [u8s, List.map_take]
        refine ⟨show (n : Int) ≤ ((_ : Nat) : Int) by rw [List.length_append, tk]; show (n : Int) ≤ ((n + 1 : Nat) : Int); omega, ?_⟩
        repeat (first | refine OpsA.cons ?_ | refine OpsA.nil ?_ | refine OrdE.cons rfl ?_ | refine OrdE.nil ?_ | refine Run.textA C_ok (aopM_sound C_ok) ?_ | refine And.intro rfl ?_ | refine And.intro (Nat.le_of_ble_eq_true rfl) ?_ | refine And.intro (Int.natCast_nonneg _) ?_ | refine fun (_ : Nat) => ?_ | refine Ord.go ?_ | refine Run.go rfl ?_ | refine Cont.go rfl ?_ | refine OrdP.go ?_)
        refine ACallT.lendD [rdb W n] _ (.one (lendB rfl hrow (by omega))) (toU cs) ?_
        rintro r L' ⟨v1, gv1, ov1, hv1, rfl, rfl⟩
        obtain ⟨v1', sv1, hv1'⟩ := hv1.move 2
        refine ⟨hv1.scalD _ _ _ _, hv1.scal.2, .tuple [shot (dS (d.take n)) (dP (d.take n)) (dK (d.take n)) v1', .int .i64 (dE (d.take n))], Sub.tuples ⟨Sub.aggs ⟨Sub.refl _, Sub.refl _, Sub.refl _, sv1, trivial⟩, Sub.refl _, trivial⟩, ?_⟩
        repeat (first | refine OpsA.cons ?_ | refine OpsA.nil ?_ | refine OrdE.cons rfl ?_ | refine OrdE.nil ?_ | refine Run.textA C_ok (aopM_sound C_ok) ?_ | refine And.intro rfl ?_ | refine And.intro (Nat.le_of_ble_eq_true rfl) ?_ | refine And.intro (Int.natCast_nonneg _) ?_ | refine fun (_ : Nat) => ?_ | refine Ord.go ?_ | refine Run.go rfl ?_ | refine Cont.go rfl ?_ | refine OrdP.go ?_)
        rename_i gs
        refine ACallT.ok (ACall.pure _ (toU cr) ?_)
        rintro r L' ⟨v2, gv2, ov2, hv2, rfl, rfl⟩
        obtain ⟨v2', sv2, hv2'⟩ := hv2.move 4
        refine ⟨.tuple [shot (dS (d.take n)) (dP (d.take n)) (dK (d.take n)) v2', .int .i64 (dE (d.take n))], Sub.tuples ⟨Sub.aggs ⟨Sub.refl _, Sub.refl _, Sub.refl _, sv2, trivial⟩, Sub.refl _, trivial⟩, ?_⟩
        repeat (first | refine OpsA.cons ?_ | refine OpsA.nil ?_ | refine OrdE.cons rfl ?_ | refine OrdE.nil ?_ | refine Run.textA C_ok (aopM_sound C_ok) ?_ | refine And.intro rfl ?_ | refine And.intro (Nat.le_of_ble_eq_true rfl) ?_ | refine And.intro (Int.natCast_nonneg _) ?_ | refine fun (_ : Nat) => ?_ | refine Ord.go ?_ | refine Run.go rfl ?_ | refine Cont.go rfl ?_ | refine OrdP.go ?_)
        rename_i gt
        refine ACallT.ok (ACall.ret (num_spec _) ?_)
        repeat (first | refine OpsA.cons ?_ | refine OpsA.nil ?_ | refine OrdE.cons rfl ?_ | refine OrdE.nil ?_ | refine Run.textA C_ok (aopM_sound C_ok) ?_ | refine And.intro rfl ?_ | refine And.intro (Nat.le_of_ble_eq_true rfl) ?_ | refine And.intro (Int.natCast_nonneg _) ?_ | refine fun (_ : Nat) => ?_ | refine Ord.go ?_ | refine Run.go rfl ?_ | refine Cont.go rfl ?_ | refine OrdP.go ?_)
        refine ⟨fun h => absurd rfl h, fun _ => ?_⟩
        repeat (first | refine OpsA.cons ?_ | refine OpsA.nil ?_ | refine OrdE.cons rfl ?_ | refine OrdE.nil ?_ | refine Run.textA C_ok (aopM_sound C_ok) ?_ | refine And.intro rfl ?_ | refine And.intro (Nat.le_of_ble_eq_true rfl) ?_ | refine And.intro (Int.natCast_nonneg _) ?_ | refine fun (_ : Nat) => ?_ | refine Ord.go ?_ | refine Run.go rfl ?_ | refine Cont.go rfl ?_ | refine OrdP.go ?_)
        refine ACallT.ok (ACall.ret_lend (args' := [shot (dS (d.take n)) (dP (d.take n)) (dK (d.take n)) (rdo (dL (d.take n)) (dL (d.take n)).length), shot (dS (d.take n)) (dP (d.take n)) (dK (d.take n)) (rdo (dL (d.take n)) (dL (d.take n)).length)]) (.two (Lend.aggs ⟨.same _, .same _, .same _, hv1'.lend rfl, trivial⟩) (Lend.aggs ⟨.same _, .same _, .same _, hv2'.lend rfl, trivial⟩)) (alike_true (dS (d.take n)) (dP (d.take n)) (dK (d.take n)) (dL (d.take n)) (decR_len _)) rfl ?_)
        repeat (first | refine OpsA.cons ?_ | refine OpsA.nil ?_ | refine OrdE.cons rfl ?_ | refine OrdE.nil ?_ | refine Run.textA C_ok (aopM_sound C_ok) ?_ | refine And.intro rfl ?_ | refine And.intro (Nat.le_of_ble_eq_true rfl) ?_ | refine And.intro (Int.natCast_nonneg _) ?_ | refine fun (_ : Nat) => ?_ | refine Ord.go ?_ | refine Run.go rfl ?_ | refine Cont.go rfl ?_ | refine OrdP.go ?_)
        refine ⟨show (n : Int) ≤ ((_ : Nat) : Int) by rw [List.length_append, tk]; show (n : Int) ≤ ((n + 1 : Nat) : Int); omega, ?_⟩
        repeat (first | refine OpsA.cons ?_ | refine OpsA.nil ?_ | refine OrdE.cons rfl ?_ | refine OrdE.nil ?_ | refine Run.textA C_ok (aopM_sound C_ok) ?_ | refine And.intro rfl ?_ | refine And.intro (Nat.le_of_ble_eq_true rfl) ?_ | refine And.intro (Int.natCast_nonneg _) ?_ | refine fun (_ : Nat) => ?_ | refine Ord.go ?_ | refine Run.go rfl ?_ | refine Cont.go rfl ?_ | refine OrdP.go ?_)
        refine ACallT.ok (ACall.ret_lend (.two (lendB rfl hrow (by omega)) (.same _)) csame rfl ?_)
        repeat (first | refine OpsA.cons ?_ | refine OpsA.nil ?_ | refine OrdE.cons rfl ?_ | refine OrdE.nil ?_ | refine Run.textA C_ok (aopM_sound C_ok) ?_ | refine And.intro rfl ?_ | refine And.intro (Nat.le_of_ble_eq_true rfl) ?_ | refine And.intro (Int.natCast_nonneg _) ?_ | refine fun (_ : Nat) => ?_ | refine Ord.go ?_ | refine Run.go rfl ?_ | refine Cont.go rfl ?_ | refine OrdP.go ?_)
        refine ⟨show (n : Int) < (((List.take n (u8s d)).length + 1 : Nat) : Int) by rw [tk]; omega, ?_⟩
        repeat (first | refine OpsA.cons ?_ | refine OpsA.nil ?_ | refine OrdE.cons rfl ?_ | refine OrdE.nil ?_ | refine Run.textA C_ok (aopM_sound C_ok) ?_ | refine And.intro rfl ?_ | refine And.intro (Nat.le_of_ble_eq_true rfl) ?_ | refine And.intro (Int.natCast_nonneg _) ?_ | refine fun (_ : Nat) => ?_ | refine Ord.go ?_ | refine Run.go rfl ?_ | refine Cont.go rfl ?_ | refine OrdP.go ?_)
        refine ⟨.int .u8 94, (show ((List.take n (u8s d) ++ [AV.int .u8 94]))[n]? = some (.int .u8 94) by rw [hrow]; exact u8s_at _ _ _ wn), ?_⟩
        repeat (first | refine OpsA.cons ?_ | refine OpsA.nil ?_ | refine OrdE.cons rfl ?_ | refine OrdE.nil ?_ | refine Run.textA C_ok (aopM_sound C_ok) ?_ | refine And.intro rfl ?_ | refine And.intro (Nat.le_of_ble_eq_true rfl) ?_ | refine And.intro (Int.natCast_nonneg _) ?_ | refine fun (_ : Nat) => ?_ | refine Ord.go ?_ | refine Run.go rfl ?_ | refine Cont.go rfl ?_ | refine OrdP.go ?_)
        refine ⟨fun h => absurd rfl h, fun _ => ?_⟩
        repeat (first | refine OpsA.cons ?_ | refine OpsA.nil ?_ | refine OrdE.cons rfl ?_ | refine OrdE.nil ?_ | refine Run.textA C_ok (aopM_sound C_ok) ?_ | refine And.intro rfl ?_ | refine And.intro (Nat.le_of_ble_eq_true rfl) ?_ | refine And.intro (Int.natCast_nonneg _) ?_ | refine fun (_ : Nat) => ?_ | refine Ord.go ?_ | refine Run.go rfl ?_ | refine Cont.go rfl ?_ | refine OrdP.go ?_)
        refine Run.loopW (decI d n) n
          [rdb d n, .junk, .junk, .junk, .junk, .junk, .junk, .junk, .junk, .junk, .sl 0 gc Cc (n + 1), .ptr 1 gs 0, .junk, .ptr 2 gt 0, .junk, .nils, .int .i64 (0 : Nat), .junk, .junk, .junk, .junk, .junk, .junk, .junk, .junk, .junk, .junk, .junk, .junk, .junk, .junk, .junk, .junk, .junk, .junk, .junk, .junk, .junk, .junk, .junk, .junk, .junk, .junk, .junk, .junk, .junk, .junk, .junk, .junk, .junk, .junk, .junk, .junk, .junk, .junk, .junk, .junk, .junk, .junk, .junk, .junk, .junk, .junk, .junk, .junk, .junk, .junk, .junk, .junk, .junk, .junk, .junk, .junk, .junk, .junk, .junk, .junk, .junk, .junk, .junk, .junk, .junk, .junk, .junk, .junk, .junk, .junk, .junk, .junk, .junk, .junk, .junk, .junk, .junk, .junk, .junk, .junk, .junk, .junk, .junk, .junk, .junk, .junk, .junk, .junk, .junk, .junk, .junk, .junk, .junk, .junk, .junk, .junk, .junk, .junk, .junk, .junk, .junk, .junk, .junk, .junk, .junk, .junk, .junk, .junk, .junk, .junk, .junk, .junk, .junk, .junk, .junk, .junk, .junk, .junk, .junk, .junk, .junk, .junk, .junk, .junk, .junk, .junk, .junk, .junk, .junk, .junk, .junk, .junk, .junk, .junk, .junk, .junk, .junk, .junk, .junk, .junk, .junk, .junk, .junk, .junk, .junk, .junk, .junk, .junk, .junk, .junk, .junk, .junk, .junk, .junk, .junk, .junk, .junk, .junk, .junk, .junk, .junk, .junk, .junk, .junk, .junk, .junk, .junk]
          [(gc, .row 5 1 Cc (u8s W)), (gs, .cells 24 [.junk, .junk, .junk, .junk]), (gt, .cells 24 [.junk, .junk, .junk, .junk]), (0, .dead)]
          (Weak.sel ?_ [0, 3, 5, 99] (by decide) ⟨rfl, (show SubO (.row 5 1 Cc (List.take n (u8s d) ++ [AV.int .u8 94])) (.row 5 1 Cc (u8s W)) by rw [hrow]; exact SubO.refl _), rfl, SubO.cells ⟨Sub.junk _, Sub.junk _, Sub.junk _, Sub.junk _, trivial⟩, rfl, SubO.cells ⟨Sub.junk _, Sub.junk _, Sub.junk _, Sub.junk _, trivial⟩, rfl, trivial, trivial⟩)
          ⟨0, W, .nils, .dead, 0, gc, Cc, gs, gt, by omega, by omega, wl, wb, .inl ⟨rfl, rfl, rfl⟩, rfl, rfl⟩ round
        repeat (first | exact trivial | refine And.intro (Sub.junk _) ?_ | refine And.intro (Sub.refl _) ?_ | refine And.intro (Sub.sl _ _ _ _ _) ?_ | refine And.intro (Sub.ptr _ _ _ _) ?_)
        refine And.intro (show HB.Sub (.sl 0 gc Cc ((List.take n (u8s d)).length + 1)) (.sl 0 gc Cc (n + 1)) by rw [tk]; exact Sub.sl _ _ _ _ _) ?_
        repeat (first | exact trivial | refine And.intro (Sub.junk _) ?_ | refine And.intro (Sub.refl _) ?_ | refine And.intro (Sub.sl _ _ _ _ _) ?_ | refine And.intro (Sub.ptr _ _ _ _) ?_)
      · have hn0 : n = 0 := by have := congrArg List.length h; rw [List.length_take, u8s_len, List.length_nil] at this; omega
        subst hn0
        repeat (first | refine OpsA.cons ?_ | refine OpsA.nil ?_ | refine OrdE.cons rfl ?_ | refine OrdE.nil ?_ | refine Run.textA C_ok (aopM_sound C_ok) ?_ | refine And.intro rfl ?_ | refine And.intro (Nat.le_of_ble_eq_true rfl) ?_ | refine And.intro (Int.natCast_nonneg _) ?_ | refine fun (_ : Nat) => ?_ | refine Ord.go ?_ | refine Run.go rfl ?_ | refine Cont.go rfl ?_ | refine OrdP.go ?_)
        refine ⟨fun h => absurd h (List.cons_ne_nil _ _), fun _ => ?_⟩
        repeat (first | refine OpsA.cons ?_ | refine OpsA.nil ?_ | refine OrdE.cons rfl ?_ | refine OrdE.nil ?_ | refine Run.textA C_ok (aopM_sound C_ok) ?_ | refine And.intro rfl ?_ | refine And.intro (Nat.le_of_ble_eq_true rfl) ?_ | refine And.intro (Int.natCast_nonneg _) ?_ | refine fun (_ : Nat) => ?_ | refine Ord.go ?_ | refine Run.go rfl ?_ | refine Cont.go rfl ?_ | refine OrdP.go ?_)
        rename_i gq gc Cc
        obtain ⟨W, hW⟩ : ∃ W : List Int, W = d.take 0 ++ [94] := ⟨_, rfl⟩
        have wl : W.length = 0 + 1 := by rw [hW]; simp
        have wt : W.take 0 = d.take 0 := by rw [hW]; show (d.take 0 ++ [94]).take 0 = _; rw [List.take_append_of_le_length (by rw [tl hn]; exact Nat.le_refl _), List.take_take, Nat.min_self]
        have wn : W[0]? = some 94 := by rw [hW]; show (d.take 0 ++ [94])[0]? = _; rw [List.getElem?_append_right (by rw [tl hn]; exact Nat.le_refl _), tl hn, Nat.sub_self]; rfl
        have wb : Bytes W := fun b hbm => by
          rcases List.mem_append.1 (hW ▸ hbm) with h | h
          · exact hb b (List.mem_of_mem_take h)
          · obtain rfl : b = 94 := by simpa using h
            decide
        have cs := decShot_spec W 0 (by omega) wb (by omega)
        rw [wt] at cs
        have cr := decRef_spec d 0 hn hb (by omega)
        have csame := sameBytes_spec W d 0 0 (by omega) hn (by omega)
        rw [decide_eq_true (show W.take 0 = d.take 0 from wt)] at csame
        have hrow : [AV.int .u8 94] = u8s W := by rw [hW]; rfl
        refine ACallT.lendD [rdb W 0] _ (.one (lendB rfl hrow (by omega))) (toU cs) ?_
        rintro r L' ⟨v1, gv1, ov1, hv1, rfl, rfl⟩
        obtain ⟨v1', sv1, hv1'⟩ := hv1.move 2
        refine ⟨hv1.scalD _ _ _ _, hv1.scal.2, .tuple [shot (dS (d.take 0)) (dP (d.take 0)) (dK (d.take 0)) v1', .int .i64 (dE (d.take 0))], Sub.tuples ⟨Sub.aggs ⟨Sub.refl _, Sub.refl _, Sub.refl _, sv1, trivial⟩, Sub.refl _, trivial⟩, ?_⟩
        repeat (first | refine OpsA.cons ?_ | refine OpsA.nil ?_ | refine OrdE.cons rfl ?_ | refine OrdE.nil ?_ | refine Run.textA C_ok (aopM_sound C_ok) ?_ | refine And.intro rfl ?_ | refine And.intro (Nat.le_of_ble_eq_true rfl) ?_ | refine And.intro (Int.natCast_nonneg _) ?_ | refine fun (_ : Nat) => ?_ | refine Ord.go ?_ | refine Run.go rfl ?_ | refine Cont.go rfl ?_ | refine OrdP.go ?_)
        rename_i gs
        refine ACallT.ok (ACall.pure _ (toU cr) ?_)
        rintro r L' ⟨v2, gv2, ov2, hv2, rfl, rfl⟩
        obtain ⟨v2', sv2, hv2'⟩ := hv2.move 4
        refine ⟨.tuple [shot (dS (d.take 0)) (dP (d.take 0)) (dK (d.take 0)) v2', .int .i64 (dE (d.take 0))], Sub.tuples ⟨Sub.aggs ⟨Sub.refl _, Sub.refl _, Sub.refl _, sv2, trivial⟩, Sub.refl _, trivial⟩, ?_⟩
        repeat (first | refine OpsA.cons ?_ | refine OpsA.nil ?_ | refine OrdE.cons rfl ?_ | refine OrdE.nil ?_ | refine Run.textA C_ok (aopM_sound C_ok) ?_ | refine And.intro rfl ?_ | refine And.intro (Nat.le_of_ble_eq_true rfl) ?_ | refine And.intro (Int.natCast_nonneg _) ?_ | refine fun (_ : Nat) => ?_ | refine Ord.go ?_ | refine Run.go rfl ?_ | refine Cont.go rfl ?_ | refine OrdP.go ?_)
        rename_i gt
        refine ACallT.ok (ACall.ret (num_spec _) ?_)
        repeat (first | refine OpsA.cons ?_ | refine OpsA.nil ?_ | refine OrdE.cons rfl ?_ | refine OrdE.nil ?_ | refine Run.textA C_ok (aopM_sound C_ok) ?_ | refine And.intro rfl ?_ | refine And.intro (Nat.le_of_ble_eq_true rfl) ?_ | refine And.intro (Int.natCast_nonneg _) ?_ | refine fun (_ : Nat) => ?_ | refine Ord.go ?_ | refine Run.go rfl ?_ | refine Cont.go rfl ?_ | refine OrdP.go ?_)
        refine ⟨fun h => absurd rfl h, fun _ => ?_⟩
        repeat (first | refine OpsA.cons ?_ | refine OpsA.nil ?_ | refine OrdE.cons rfl ?_ | refine OrdE.nil ?_ | refine Run.textA C_ok (aopM_sound C_ok) ?_ | refine And.intro rfl ?_ | refine And.intro (Nat.le_of_ble_eq_true rfl) ?_ | refine And.intro (Int.natCast_nonneg _) ?_ | refine fun (_ : Nat) => ?_ | refine Ord.go ?_ | refine Run.go rfl ?_ | refine Cont.go rfl ?_ | refine OrdP.go ?_)
        refine ACallT.ok (ACall.ret_lend (args' := [shot (dS (d.take 0)) (dP (d.take 0)) (dK (d.take 0)) (rdo (dL (d.take 0)) (dL (d.take 0)).length), shot (dS (d.take 0)) (dP (d.take 0)) (dK (d.take 0)) (rdo (dL (d.take 0)) (dL (d.take 0)).length)]) (.two (Lend.aggs ⟨.same _, .same _, .same _, hv1'.lend rfl, trivial⟩) (Lend.aggs ⟨.same _, .same _, .same _, hv2'.lend rfl, trivial⟩)) (alike_true (dS (d.take 0)) (dP (d.take 0)) (dK (d.take 0)) (dL (d.take 0)) (decR_len _)) rfl ?_)
        repeat (first | refine OpsA.cons ?_ | refine OpsA.nil ?_ | refine OrdE.cons rfl ?_ | refine OrdE.nil ?_ | refine Run.textA C_ok (aopM_sound C_ok) ?_ | refine And.intro rfl ?_ | refine And.intro (Nat.le_of_ble_eq_true rfl) ?_ | refine And.intro (Int.natCast_nonneg _) ?_ | refine fun (_ : Nat) => ?_ | refine Ord.go ?_ | refine Run.go rfl ?_ | refine Cont.go rfl ?_ | refine OrdP.go ?_)
        refine ACallT.ok (ACall.ret_lend (.two (lendB rfl hrow (by omega)) (.same _)) csame rfl ?_)
        repeat (first | refine OpsA.cons ?_ | refine OpsA.nil ?_ | refine OrdE.cons rfl ?_ | refine OrdE.nil ?_ | refine Run.textA C_ok (aopM_sound C_ok) ?_ | refine And.intro rfl ?_ | refine And.intro (Nat.le_of_ble_eq_true rfl) ?_ | refine And.intro (Int.natCast_nonneg _) ?_ | refine fun (_ : Nat) => ?_ | refine Ord.go ?_ | refine Run.go rfl ?_ | refine Cont.go rfl ?_ | refine OrdP.go ?_)
        refine ⟨.int .u8 94, (show ([AV.int .u8 94])[0]? = some (.int .u8 94) by rw [hrow]; exact u8s_at _ _ _ wn), ?_⟩
        repeat (first | refine OpsA.cons ?_ | refine OpsA.nil ?_ | refine OrdE.cons rfl ?_ | refine OrdE.nil ?_ | refine Run.textA C_ok (aopM_sound C_ok) ?_ | refine And.intro rfl ?_ | refine And.intro (Nat.le_of_ble_eq_true rfl) ?_ | refine And.intro (Int.natCast_nonneg _) ?_ | refine fun (_ : Nat) => ?_ | refine Ord.go ?_ | refine Run.go rfl ?_ | refine Cont.go rfl ?_ | refine OrdP.go ?_)
        refine ⟨fun h => absurd rfl h, fun _ => ?_⟩
        repeat (first | refine OpsA.cons ?_ | refine OpsA.nil ?_ | refine OrdE.cons rfl ?_ | refine OrdE.nil ?_ | refine Run.textA C_ok (aopM_sound C_ok) ?_ | refine And.intro rfl ?_ | refine And.intro (Nat.le_of_ble_eq_true rfl) ?_ | refine And.intro (Int.natCast_nonneg _) ?_ | refine fun (_ : Nat) => ?_ | refine Ord.go ?_ | refine Run.go rfl ?_ | refine Cont.go rfl ?_ | refine OrdP.go ?_)
        refine Run.loopW (decI d 0) 0
          [rdb d 0, .junk, .junk, .junk, .junk, .junk, .junk, .junk, .junk, .junk, .sl 0 gc Cc (0 + 1), .ptr 1 gs 0, .junk, .ptr 2 gt 0, .junk, .nils, .int .i64 (0 : Nat), .junk, .junk, .junk, .junk, .junk, .junk, .junk, .junk, .junk, .junk, .junk, .junk, .junk, .junk, .junk, .junk, .junk, .junk, .junk, .junk, .junk, .junk, .junk, .junk, .junk, .junk, .junk, .junk, .junk, .junk, .junk, .junk, .junk, .junk, .junk, .junk, .junk, .junk, .junk, .junk, .junk, .junk, .junk, .junk, .junk, .junk, .junk, .junk, .junk, .junk, .junk, .junk, .junk, .junk, .junk, .junk, .junk, .junk, .junk, .junk, .junk, .junk, .junk, .junk, .junk, .junk, .junk, .junk, .junk, .junk, .junk, .junk, .junk, .junk, .junk, .junk, .junk, .junk, .junk, .junk, .junk, .junk, .junk, .junk, .junk, .junk, .junk, .junk, .junk, .junk, .junk, .junk, .junk, .junk, .junk, .junk, .junk, .junk, .junk, .junk, .junk, .junk, .junk, .junk, .junk, .junk, .junk, .junk, .junk, .junk, .junk, .junk, .junk, .junk, .junk, .junk, .junk, .junk, .junk, .junk, .junk, .junk, .junk, .junk, .junk, .junk, .junk, .junk, .junk, .junk, .junk, .junk, .junk, .junk, .junk, .junk, .junk, .junk, .junk, .junk, .junk, .junk, .junk, .junk, .junk, .junk, .junk, .junk, .junk, .junk, .junk, .junk, .junk, .junk, .junk, .junk, .junk, .junk, .junk, .junk, .junk, .junk, .junk, .junk, .junk, .junk, .junk]
          [(gc, .row 5 1 Cc (u8s W)), (gs, .cells 24 [.junk, .junk, .junk, .junk]), (gt, .cells 24 [.junk, .junk, .junk, .junk]), (0, .dead)]
          (Weak.sel ?_ [1, 3, 5, 99] (by decide) ⟨rfl, (show SubO (.row 5 1 Cc [AV.int .u8 94]) (.row 5 1 Cc (u8s W)) by rw [hrow]; exact SubO.refl _), rfl, SubO.cells ⟨Sub.junk _, Sub.junk _, Sub.junk _, Sub.junk _, trivial⟩, rfl, SubO.cells ⟨Sub.junk _, Sub.junk _, Sub.junk _, Sub.junk _, trivial⟩, rfl, trivial, trivial⟩)
          ⟨0, W, .nils, .dead, 0, gc, Cc, gs, gt, by omega, by omega, wl, wb, .inl ⟨rfl, rfl, rfl⟩, rfl, rfl⟩ round
        repeat (first | exact trivial | refine And.intro (Sub.junk _) ?_ | refine And.intro (Sub.refl _) ?_ | refine And.intro (Sub.sl _ _ _ _ _) ?_ | refine And.intro (Sub.ptr _ _ _ _) ?_)

  · intro k env L hI0
    obtain ⟨i, ws, v, o, gn, gc, Cc, gs, gt, rfl, hi, hwl, hwb, hv, rfl, rfl⟩ := hI0
    rcases hv with ⟨hv0, rfl, rfl⟩ | ⟨Cn, rfl, rfl⟩
    · repeat (first | refine OpsA.cons ?_ | refine OpsA.nil ?_ | refine OrdE.cons rfl ?_ | refine OrdE.nil ?_ | refine Run.textA C_ok (aopM_sound C_ok) ?_ | refine And.intro rfl ?_ | refine And.intro (Nat.le_of_ble_eq_true rfl) ?_ | refine And.intro (Int.natCast_nonneg _) ?_ | refine fun (_ : Nat) => ?_ | refine Ord.go ?_ | refine Run.go rfl ?_ | refine Cont.go rfl ?_ | refine OrdP.go ?_)
      refine ⟨fun h => ?_, fun h => ?_⟩
      · have h : (i : Int) < (n : Int) := h
        obtain ⟨b, eb⟩ : ∃ b, ws[i]? = some b := ⟨ws[i], List.getElem?_eq_getElem (by omega)⟩
        have hbb := hwb b (List.mem_of_getElem? eb)
        repeat (first | refine OpsA.cons ?_ | refine OpsA.nil ?_ | refine OrdE.cons rfl ?_ | refine OrdE.nil ?_ | refine Run.textA C_ok (aopM_sound C_ok) ?_ | refine And.intro rfl ?_ | refine And.intro (Nat.le_of_ble_eq_true rfl) ?_ | refine And.intro (Int.natCast_nonneg _) ?_ | refine fun (_ : Nat) => ?_ | refine Ord.go ?_ | refine Run.go rfl ?_ | refine Cont.go rfl ?_ | refine OrdP.go ?_)
        refine ⟨show (i : Int) < ((n + 1 : Nat) : Int) by omega, ?_⟩
        repeat (first | refine OpsA.cons ?_ | refine OpsA.nil ?_ | refine OrdE.cons rfl ?_ | refine OrdE.nil ?_ | refine Run.textA C_ok (aopM_sound C_ok) ?_ | refine And.intro rfl ?_ | refine And.intro (Nat.le_of_ble_eq_true rfl) ?_ | refine And.intro (Int.natCast_nonneg _) ?_ | refine fun (_ : Nat) => ?_ | refine Ord.go ?_ | refine Run.go rfl ?_ | refine Cont.go rfl ?_ | refine OrdP.go ?_)
        refine ⟨.int .u8 b, u8s_at _ _ _ eb, ?_⟩
        repeat (first | refine OpsA.cons ?_ | refine OpsA.nil ?_ | refine OrdE.cons rfl ?_ | refine OrdE.nil ?_ | refine Run.textA C_ok (aopM_sound C_ok) ?_ | refine And.intro rfl ?_ | refine And.intro (Nat.le_of_ble_eq_true rfl) ?_ | refine And.intro (Int.natCast_nonneg _) ?_ | refine fun (_ : Nat) => ?_ | refine Ord.go ?_ | refine Run.go rfl ?_ | refine Cont.go rfl ?_ | refine OrdP.go ?_)
        refine ⟨fun hge => ?_, fun hge => ?_⟩
        · have hge : (97 : Int) ≤ b := hge
          repeat (first | refine OpsA.cons ?_ | refine OpsA.nil ?_ | refine OrdE.cons rfl ?_ | refine OrdE.nil ?_ | refine Run.textA C_ok (aopM_sound C_ok) ?_ | refine And.intro rfl ?_ | refine And.intro (Nat.le_of_ble_eq_true rfl) ?_ | refine And.intro (Int.natCast_nonneg _) ?_ | refine fun (_ : Nat) => ?_ | refine Ord.go ?_ | refine Run.go rfl ?_ | refine Cont.go rfl ?_ | refine OrdP.go ?_)
          refine ⟨show (i : Int) < ((n + 1 : Nat) : Int) by omega, ?_⟩
          repeat (first | refine OpsA.cons ?_ | refine OpsA.nil ?_ | refine OrdE.cons rfl ?_ | refine OrdE.nil ?_ | refine Run.textA C_ok (aopM_sound C_ok) ?_ | refine And.intro rfl ?_ | refine And.intro (Nat.le_of_ble_eq_true rfl) ?_ | refine And.intro (Int.natCast_nonneg _) ?_ | refine fun (_ : Nat) => ?_ | refine Ord.go ?_ | refine Run.go rfl ?_ | refine Cont.go rfl ?_ | refine OrdP.go ?_)
          refine ⟨.int .u8 b, u8s_at _ _ _ eb, ?_⟩
          repeat (first | refine OpsA.cons ?_ | refine OpsA.nil ?_ | refine OrdE.cons rfl ?_ | refine OrdE.nil ?_ | refine Run.textA C_ok (aopM_sound C_ok) ?_ | refine And.intro rfl ?_ | refine And.intro (Nat.le_of_ble_eq_true rfl) ?_ | refine And.intro (Int.natCast_nonneg _) ?_ | refine fun (_ : Nat) => ?_ | refine Ord.go ?_ | refine Run.go rfl ?_ | refine Cont.go rfl ?_ | refine OrdP.go ?_)
          refine ⟨fun hlt => ?_, fun hlt => ?_⟩
          · have hlt : b < 122 := hlt
            repeat (first | refine OpsA.cons ?_ | refine OpsA.nil ?_ | refine OrdE.cons rfl ?_ | refine OrdE.nil ?_ | refine Run.textA C_ok (aopM_sound C_ok) ?_ | refine And.intro rfl ?_ | refine And.intro (Nat.le_of_ble_eq_true rfl) ?_ | refine And.intro (Int.natCast_nonneg _) ?_ | refine fun (_ : Nat) => ?_ | refine Ord.go ?_ | refine Run.go rfl ?_ | refine Cont.go rfl ?_ | refine OrdP.go ?_)
            refine ⟨show (i : Int) < ((n + 1 : Nat) : Int) by omega, ?_⟩
            repeat (first | refine OpsA.cons ?_ | refine OpsA.nil ?_ | refine OrdE.cons rfl ?_ | refine OrdE.nil ?_ | refine Run.textA C_ok (aopM_sound C_ok) ?_ | refine And.intro rfl ?_ | refine And.intro (Nat.le_of_ble_eq_true rfl) ?_ | refine And.intro (Int.natCast_nonneg _) ?_ | refine fun (_ : Nat) => ?_ | refine Ord.go ?_ | refine Run.go rfl ?_ | refine Cont.go rfl ?_ | refine OrdP.go ?_)
            refine ⟨.int .u8 b, u8s_at _ _ _ eb, ?_⟩
            repeat (first | refine OpsA.cons ?_ | refine OpsA.nil ?_ | refine OrdE.cons rfl ?_ | refine OrdE.nil ?_ | refine Run.textA C_ok (aopM_sound C_ok) ?_ | refine And.intro rfl ?_ | refine And.intro (Nat.le_of_ble_eq_true rfl) ?_ | refine And.intro (Int.natCast_nonneg _) ?_ | refine fun (_ : Nat) => ?_ | refine Ord.go ?_ | refine Run.go rfl ?_ | refine Cont.go rfl ?_ | refine OrdP.go ?_)
            refine fun r hr => ?_
            obtain rfl : r = b + 1 := by rw [hr, show b + 1 = ((b.toNat + 1 : Nat) : Int) by omega, wrap_u8]; omega
            repeat (first | refine OpsA.cons ?_ | refine OpsA.nil ?_ | refine OrdE.cons rfl ?_ | refine OrdE.nil ?_ | refine Run.textA C_ok (aopM_sound C_ok) ?_ | refine And.intro rfl ?_ | refine And.intro (Nat.le_of_ble_eq_true rfl) ?_ | refine And.intro (Int.natCast_nonneg _) ?_ | refine fun (_ : Nat) => ?_ | refine Ord.go ?_ | refine Run.go rfl ?_ | refine Cont.go rfl ?_ | refine OrdP.go ?_)
            refine ⟨show (i : Int) < ((n + 1 : Nat) : Int) by omega, ?_⟩
            repeat (first | refine OpsA.cons ?_ | refine OpsA.nil ?_ | refine OrdE.cons rfl ?_ | refine OrdE.nil ?_ | refine Run.textA C_ok (aopM_sound C_ok) ?_ | refine And.intro rfl ?_ | refine And.intro (Nat.le_of_ble_eq_true rfl) ?_ | refine And.intro (Int.natCast_nonneg _) ?_ | refine fun (_ : Nat) => ?_ | refine Ord.go ?_ | refine Run.go rfl ?_ | refine Cont.go rfl ?_ | refine OrdP.go ?_)
            refine ⟨.int .u8 b, u8s_at _ _ _ eb, Nat.le_of_ble_eq_true rfl, rfl, ?_⟩
            repeat (first | refine OpsA.cons ?_ | refine OpsA.nil ?_ | refine OrdE.cons rfl ?_ | refine OrdE.nil ?_ | refine Run.textA C_ok (aopM_sound C_ok) ?_ | refine And.intro rfl ?_ | refine And.intro (Nat.le_of_ble_eq_true rfl) ?_ | refine And.intro (Int.natCast_nonneg _) ?_ | refine fun (_ : Nat) => ?_ | refine Ord.go ?_ | refine Run.go rfl ?_ | refine Cont.go rfl ?_ | refine OrdP.go ?_)
            have htk : (ws.set i (b + 1)).take (i + 1) = ws.take i ++ [(b + 1)] := by rw [List.take_add_one, List.getElem?_set_self (by omega), List.take_set, List.set_eq_of_length_le (by simp; omega)]; rfl
            refine ⟨show (i : Int) < ((n + 1 : Nat) : Int) by omega, ?_⟩
            repeat (first | refine OpsA.cons ?_ | refine OpsA.nil ?_ | refine OrdE.cons rfl ?_ | refine OrdE.nil ?_ | refine Run.textA C_ok (aopM_sound C_ok) ?_ | refine And.intro rfl ?_ | refine And.intro (Nat.le_of_ble_eq_true rfl) ?_ | refine And.intro (Int.natCast_nonneg _) ?_ | refine fun (_ : Nat) => ?_ | refine Ord.go ?_ | refine Run.go rfl ?_ | refine Cont.go rfl ?_ | refine OrdP.go ?_)
            refine ⟨.int .u8 (b + 1), (show (List.set (u8s ws) i _)[i]? = some (AV.int .u8 (b + 1)) by rw [List.getElem?_set_self (by rw [u8s_len]; omega)]; rfl), ?_⟩
            repeat (first | refine OpsA.cons ?_ | refine OpsA.nil ?_ | refine OrdE.cons rfl ?_ | refine OrdE.nil ?_ | refine Run.textA C_ok (aopM_sound C_ok) ?_ | refine And.intro rfl ?_ | refine And.intro (Nat.le_of_ble_eq_true rfl) ?_ | refine And.intro (Int.natCast_nonneg _) ?_ | refine fun (_ : Nat) => ?_ | refine Ord.go ?_ | refine Run.go rfl ?_ | refine Cont.go rfl ?_ | refine OrdP.go ?_)
            refine ⟨fun h => absurd h (List.cons_ne_nil _ _), fun _ => ?_⟩
            repeat (first | refine OpsA.cons ?_ | refine OpsA.nil ?_ | refine OrdE.cons rfl ?_ | refine OrdE.nil ?_ | refine Run.textA C_ok (aopM_sound C_ok) ?_ | refine And.intro rfl ?_ | refine And.intro (Nat.le_of_ble_eq_true rfl) ?_ | refine And.intro (Int.natCast_nonneg _) ?_ | refine fun (_ : Nat) => ?_ | refine Ord.go ?_ | refine Run.go rfl ?_ | refine Cont.go rfl ?_ | refine OrdP.go ?_)
            rename_i gq gn2 Cn2
            refine fun r hr => ?_
            obtain rfl := add1 hr (by omega)
            repeat (first | refine OpsA.cons ?_ | refine OpsA.nil ?_ | refine OrdE.cons rfl ?_ | refine OrdE.nil ?_ | refine Run.textA C_ok (aopM_sound C_ok) ?_ | refine And.intro rfl ?_ | refine And.intro (Nat.le_of_ble_eq_true rfl) ?_ | refine And.intro (Int.natCast_nonneg _) ?_ | refine fun (_ : Nat) => ?_ | refine Ord.go ?_ | refine Run.go rfl ?_ | refine Cont.go rfl ?_ | refine OrdP.go ?_)
            refine Cont.lpW ?_
            refine ⟨n - (i + 1), [rdb d n, .junk, .junk, .junk, .junk, .junk, .junk, .junk, .junk, .junk, .sl 0 gc Cc (n + 1), .ptr 1 gs 0, .junk, .ptr 2 gt 0, .junk, .sl 3 gn2 Cn2 1, .int .i64 (i + 1 : Nat), .junk, .junk, .junk, .junk, .junk, .junk, .junk, .junk, .junk, .junk, .junk, .junk, .junk, .junk, .junk, .junk, .junk, .junk, .junk, .junk, .junk, .junk, .junk, .junk, .junk, .junk, .junk, .junk, .junk, .junk, .junk, .junk, .junk, .junk, .junk, .junk, .junk, .junk, .junk, .junk, .junk, .junk, .junk, .junk, .junk, .junk, .junk, .junk, .junk, .junk, .junk, .junk, .junk, .junk, .junk, .junk, .junk, .junk, .junk, .junk, .junk, .junk, .junk, .junk, .junk, .junk, .junk, .junk, .junk, .junk, .junk, .junk, .junk, .junk, .junk, .junk, .junk, .junk, .junk, .junk, .junk, .junk, .junk, .junk, .junk, .junk, .junk, .junk, .junk, .junk, .junk, .junk, .junk, .junk, .junk, .junk, .junk, .junk, .junk, .junk, .junk, .junk, .junk, .junk, .junk, .junk, .junk, .junk, .junk, .junk, .junk, .junk, .junk, .junk, .junk, .junk, .junk, .junk, .junk, .junk, .junk, .junk, .junk, .junk, .junk, .junk, .junk, .junk, .junk, .junk, .junk, .junk, .junk, .junk, .junk, .junk, .junk, .junk, .junk, .junk, .junk, .junk, .junk, .junk, .junk, .junk, .junk, .junk, .junk, .junk, .junk, .junk, .junk, .junk, .junk, .junk, .junk, .junk, .junk, .junk, .junk, .junk, .junk, .junk, .junk, .junk, .junk],
              [(gc, .row 5 1 Cc (u8s (ws.set i (b + 1)))), (gs, .cells 24 [.junk, .junk, .junk, .junk]), (gt, .cells 24 [.junk, .junk, .junk, .junk]), (gn2, .row 5 1 Cn2 [.int .u8 (b + 1)])], by omega,
              Weak.sel ?_ [0, 1, 2, 5] (by decide) ⟨rfl, (show SubO (.row 5 1 Cc ((u8s ws).set i (.int .u8 (b + 1)))) (.row 5 1 Cc (u8s (ws.set i (b + 1)))) by rw [u8s_set]; exact SubO.refl _), rfl, SubO.refl _, rfl, SubO.refl _, rfl, SubO.refl _, trivial⟩,
              ⟨i + 1, (ws.set i (b + 1)), (.sl 3 gn2 Cn2 1), (.row 5 1 Cn2 [.int .u8 (b + 1)]), gn2, gc, Cc, gs, gt, rfl, by omega, by rw [List.length_set]; exact hwl, (fun x hx => by rcases List.mem_or_eq_of_mem_set hx with hx | rfl; exact hwb x hx; omega), .inr ⟨Cn2, by rw [htk, hv0]; rfl, by rw [htk, hv0]; rfl⟩, rfl, rfl⟩⟩
            repeat (first | exact trivial | refine And.intro (Sub.junk _) ?_ | refine And.intro (Sub.refl _) ?_ | refine And.intro (Sub.sl _ _ _ _ _) ?_ | refine And.intro (Sub.ptr _ _ _ _) ?_)
          · repeat (first | refine OpsA.cons ?_ | refine OpsA.nil ?_ | refine OrdE.cons rfl ?_ | refine OrdE.nil ?_ | refine Run.textA C_ok (aopM_sound C_ok) ?_ | refine And.intro rfl ?_ | refine And.intro (Nat.le_of_ble_eq_true rfl) ?_ | refine And.intro (Int.natCast_nonneg _) ?_ | refine fun (_ : Nat) => ?_ | refine Ord.go ?_ | refine Run.go rfl ?_ | refine Cont.go rfl ?_ | refine OrdP.go ?_)
            have htk : ws.take (i + 1) = ws.take i ++ [b] := by rw [List.take_add_one, eb]; rfl
            refine ⟨show (i : Int) < ((n + 1 : Nat) : Int) by omega, ?_⟩
            repeat (first | refine OpsA.cons ?_ | refine OpsA.nil ?_ | refine OrdE.cons rfl ?_ | refine OrdE.nil ?_ | refine Run.textA C_ok (aopM_sound C_ok) ?_ | refine And.intro rfl ?_ | refine And.intro (Nat.le_of_ble_eq_true rfl) ?_ | refine And.intro (Int.natCast_nonneg _) ?_ | refine fun (_ : Nat) => ?_ | refine Ord.go ?_ | refine Run.go rfl ?_ | refine Cont.go rfl ?_ | refine OrdP.go ?_)
            refine ⟨.int .u8 b, u8s_at _ _ _ eb, ?_⟩
            repeat (first | refine OpsA.cons ?_ | refine OpsA.nil ?_ | refine OrdE.cons rfl ?_ | refine OrdE.nil ?_ | refine Run.textA C_ok (aopM_sound C_ok) ?_ | refine And.intro rfl ?_ | refine And.intro (Nat.le_of_ble_eq_true rfl) ?_ | refine And.intro (Int.natCast_nonneg _) ?_ | refine fun (_ : Nat) => ?_ | refine Ord.go ?_ | refine Run.go rfl ?_ | refine Cont.go rfl ?_ | refine OrdP.go ?_)
            refine ⟨fun h => absurd h (List.cons_ne_nil _ _), fun _ => ?_⟩
            repeat (first | refine OpsA.cons ?_ | refine OpsA.nil ?_ | refine OrdE.cons rfl ?_ | refine OrdE.nil ?_ | refine Run.textA C_ok (aopM_sound C_ok) ?_ | refine And.intro rfl ?_ | refine And.intro (Nat.le_of_ble_eq_true rfl) ?_ | refine And.intro (Int.natCast_nonneg _) ?_ | refine fun (_ : Nat) => ?_ | refine Ord.go ?_ | refine Run.go rfl ?_ | refine Cont.go rfl ?_ | refine OrdP.go ?_)
            rename_i gq gn2 Cn2
            refine fun r hr => ?_
            obtain rfl := add1 hr (by omega)
            repeat (first | refine OpsA.cons ?_ | refine OpsA.nil ?_ | refine OrdE.cons rfl ?_ | refine OrdE.nil ?_ | refine Run.textA C_ok (aopM_sound C_ok) ?_ | refine And.intro rfl ?_ | refine And.intro (Nat.le_of_ble_eq_true rfl) ?_ | refine And.intro (Int.natCast_nonneg _) ?_ | refine fun (_ : Nat) => ?_ | refine Ord.go ?_ | refine Run.go rfl ?_ | refine Cont.go rfl ?_ | refine OrdP.go ?_)
            refine Cont.lpW ?_
            refine ⟨n - (i + 1), [rdb d n, .junk, .junk, .junk, .junk, .junk, .junk, .junk, .junk, .junk, .sl 0 gc Cc (n + 1), .ptr 1 gs 0, .junk, .ptr 2 gt 0, .junk, .sl 3 gn2 Cn2 1, .int .i64 (i + 1 : Nat), .junk, .junk, .junk, .junk, .junk, .junk, .junk, .junk, .junk, .junk, .junk, .junk, .junk, .junk, .junk, .junk, .junk, .junk, .junk, .junk, .junk, .junk, .junk, .junk, .junk, .junk, .junk, .junk, .junk, .junk, .junk, .junk, .junk, .junk, .junk, .junk, .junk, .junk, .junk, .junk, .junk, .junk, .junk, .junk, .junk, .junk, .junk, .junk, .junk, .junk, .junk, .junk, .junk, .junk, .junk, .junk, .junk, .junk, .junk, .junk, .junk, .junk, .junk, .junk, .junk, .junk, .junk, .junk, .junk, .junk, .junk, .junk, .junk, .junk, .junk, .junk, .junk, .junk, .junk, .junk, .junk, .junk, .junk, .junk, .junk, .junk, .junk, .junk, .junk, .junk, .junk, .junk, .junk, .junk, .junk, .junk, .junk, .junk, .junk, .junk, .junk, .junk, .junk, .junk, .junk, .junk, .junk, .junk, .junk, .junk, .junk, .junk, .junk, .junk, .junk, .junk, .junk, .junk, .junk, .junk, .junk, .junk, .junk, .junk, .junk, .junk, .junk, .junk, .junk, .junk, .junk, .junk, .junk, .junk, .junk, .junk, .junk, .junk, .junk, .junk, .junk, .junk, .junk, .junk, .junk, .junk, .junk, .junk, .junk, .junk, .junk, .junk, .junk, .junk, .junk, .junk, .junk, .junk, .junk, .junk, .junk, .junk, .junk, .junk, .junk, .junk, .junk],
              [(gc, .row 5 1 Cc (u8s ws)), (gs, .cells 24 [.junk, .junk, .junk, .junk]), (gt, .cells 24 [.junk, .junk, .junk, .junk]), (gn2, .row 5 1 Cn2 [.int .u8 b])], by omega,
              Weak.sel ?_ [0, 1, 2, 5] (by decide) ⟨rfl, SubO.refl _, rfl, SubO.refl _, rfl, SubO.refl _, rfl, SubO.refl _, trivial⟩,
              ⟨i + 1, ws, (.sl 3 gn2 Cn2 1), (.row 5 1 Cn2 [.int .u8 b]), gn2, gc, Cc, gs, gt, rfl, by omega, hwl, hwb, .inr ⟨Cn2, by rw [htk, hv0]; rfl, by rw [htk, hv0]; rfl⟩, rfl, rfl⟩⟩
            repeat (first | exact trivial | refine And.intro (Sub.junk _) ?_ | refine And.intro (Sub.refl _) ?_ | refine And.intro (Sub.sl _ _ _ _ _) ?_ | refine And.intro (Sub.ptr _ _ _ _) ?_)
        · repeat (first | refine OpsA.cons ?_ | refine OpsA.nil ?_ | refine OrdE.cons rfl ?_ | refine OrdE.nil ?_ | refine Run.textA C_ok (aopM_sound C_ok) ?_ | refine And.intro rfl ?_ | refine And.intro (Nat.le_of_ble_eq_true rfl) ?_ | refine And.intro (Int.natCast_nonneg _) ?_ | refine fun (_ : Nat) => ?_ | refine Ord.go ?_ | refine Run.go rfl ?_ | refine Cont.go rfl ?_ | refine OrdP.go ?_)
          have htk : ws.take (i + 1) = ws.take i ++ [b] := by rw [List.take_add_one, eb]; rfl
          refine ⟨show (i : Int) < ((n + 1 : Nat) : Int) by omega, ?_⟩
          repeat (first | refine OpsA.cons ?_ | refine OpsA.nil ?_ | refine OrdE.cons rfl ?_ | refine OrdE.nil ?_ | refine Run.textA C_ok (aopM_sound C_ok) ?_ | refine And.intro rfl ?_ | refine And.intro (Nat.le_of_ble_eq_true rfl) ?_ | refine And.intro (Int.natCast_nonneg _) ?_ | refine fun (_ : Nat) => ?_ | refine Ord.go ?_ | refine Run.go rfl ?_ | refine Cont.go rfl ?_ | refine OrdP.go ?_)
          refine ⟨.int .u8 b, u8s_at _ _ _ eb, ?_⟩
          repeat (first | refine OpsA.cons ?_ | refine OpsA.nil ?_ | refine OrdE.cons rfl ?_ | refine OrdE.nil ?_ | refine Run.textA C_ok (aopM_sound C_ok) ?_ | refine And.intro rfl ?_ | refine And.intro (Nat.le_of_ble_eq_true rfl) ?_ | refine And.intro (Int.natCast_nonneg _) ?_ | refine fun (_ : Nat) => ?_ | refine Ord.go ?_ | refine Run.go rfl ?_ | refine Cont.go rfl ?_ | refine OrdP.go ?_)
          refine ⟨fun h => absurd h (List.cons_ne_nil _ _), fun _ => ?_⟩
          repeat (first | refine OpsA.cons ?_ | refine OpsA.nil ?_ | refine OrdE.cons rfl ?_ | refine OrdE.nil ?_ | refine Run.textA C_ok (aopM_sound C_ok) ?_ | refine And.intro rfl ?_ | refine And.intro (Nat.le_of_ble_eq_true rfl) ?_ | refine And.intro (Int.natCast_nonneg _) ?_ | refine fun (_ : Nat) => ?_ | refine Ord.go ?_ | refine Run.go rfl ?_ | refine Cont.go rfl ?_ | refine OrdP.go ?_)
          rename_i gq gn2 Cn2
          refine fun r hr => ?_
          obtain rfl := add1 hr (by omega)
          repeat (first | refine OpsA.cons ?_ | refine OpsA.nil ?_ | refine OrdE.cons rfl ?_ | refine OrdE.nil ?_ | refine Run.textA C_ok (aopM_sound C_ok) ?_ | refine And.intro rfl ?_ | refine And.intro (Nat.le_of_ble_eq_true rfl) ?_ | refine And.intro (Int.natCast_nonneg _) ?_ | refine fun (_ : Nat) => ?_ | refine Ord.go ?_ | refine Run.go rfl ?_ | refine Cont.go rfl ?_ | refine OrdP.go ?_)
          refine Cont.lpW ?_
          refine ⟨n - (i + 1), [rdb d n, .junk, .junk, .junk, .junk, .junk, .junk, .junk, .junk, .junk, .sl 0 gc Cc (n + 1), .ptr 1 gs 0, .junk, .ptr 2 gt 0, .junk, .sl 3 gn2 Cn2 1, .int .i64 (i + 1 : Nat), .junk, .junk, .junk, .junk, .junk, .junk, .junk, .junk, .junk, .junk, .junk, .junk, .junk, .junk, .junk, .junk, .junk, .junk, .junk, .junk, .junk, .junk, .junk, .junk, .junk, .junk, .junk, .junk, .junk, .junk, .junk, .junk, .junk, .junk, .junk, .junk, .junk, .junk, .junk, .junk, .junk, .junk, .junk, .junk, .junk, .junk, .junk, .junk, .junk, .junk, .junk, .junk, .junk, .junk, .junk, .junk, .junk, .junk, .junk, .junk, .junk, .junk, .junk, .junk, .junk, .junk, .junk, .junk, .junk, .junk, .junk, .junk, .junk, .junk, .junk, .junk, .junk, .junk, .junk, .junk, .junk, .junk, .junk, .junk, .junk, .junk, .junk, .junk, .junk, .junk, .junk, .junk, .junk, .junk, .junk, .junk, .junk, .junk, .junk, .junk, .junk, .junk, .junk, .junk, .junk, .junk, .junk, .junk, .junk, .junk, .junk, .junk, .junk, .junk, .junk, .junk, .junk, .junk, .junk, .junk, .junk, .junk, .junk, .junk, .junk, .junk, .junk, .junk, .junk, .junk, .junk, .junk, .junk, .junk, .junk, .junk, .junk, .junk, .junk, .junk, .junk, .junk, .junk, .junk, .junk, .junk, .junk, .junk, .junk, .junk, .junk, .junk, .junk, .junk, .junk, .junk, .junk, .junk, .junk, .junk, .junk, .junk, .junk, .junk, .junk, .junk, .junk],
            [(gc, .row 5 1 Cc (u8s ws)), (gs, .cells 24 [.junk, .junk, .junk, .junk]), (gt, .cells 24 [.junk, .junk, .junk, .junk]), (gn2, .row 5 1 Cn2 [.int .u8 b])], by omega,
            Weak.sel ?_ [0, 1, 2, 5] (by decide) ⟨rfl, SubO.refl _, rfl, SubO.refl _, rfl, SubO.refl _, rfl, SubO.refl _, trivial⟩,
            ⟨i + 1, ws, (.sl 3 gn2 Cn2 1), (.row 5 1 Cn2 [.int .u8 b]), gn2, gc, Cc, gs, gt, rfl, by omega, hwl, hwb, .inr ⟨Cn2, by rw [htk, hv0]; rfl, by rw [htk, hv0]; rfl⟩, rfl, rfl⟩⟩
          repeat (first | exact trivial | refine And.intro (Sub.junk _) ?_ | refine And.intro (Sub.refl _) ?_ | refine And.intro (Sub.sl _ _ _ _ _) ?_ | refine And.intro (Sub.ptr _ _ _ _) ?_)
      · have h : ¬ (i : Int) < (n : Int) := h
        have hin : i = n := by omega
        have cs := decShot_spec ws n (by omega) hwb (by omega)
        have cr := decRef_spec (ws.take i) (ws.take i).length (Nat.le_refl _) (hwb.take i) (by rw [List.length_take]; omega)
        rw [List.take_length] at cr
        rw [show DecQ (ws.take i) = DecQ (ws.take n) by rw [hin]] at cr
        have cy1 := decShot_spec [0, 2, 47, 97, 1, 0] 6 (by decide) (fun b hb => by simp at hb; omega) (by decide)
        have cy2 := decShot_spec [0, 2, 47, 98, 1, 0] 6 (by decide) (fun b hb => by simp at hb; omega) (by decide)
        have ky1 := decY 97 ⟨#[47, 97]⟩ rfl ⟨by omega, by decide +kernel, .inl rfl, by omega, by decide, fun _ _ h => absurd h (Nat.not_lt_zero _)⟩
        have ky2 := decY 98 ⟨#[47, 98]⟩ rfl ⟨by omega, by decide +kernel, .inl rfl, by omega, by decide, fun _ _ h => absurd h (Nat.not_lt_zero _)⟩
        repeat (first | refine OpsA.cons ?_ | refine OpsA.nil ?_ | refine OrdE.cons rfl ?_ | refine OrdE.nil ?_ | refine Run.textA C_ok (aopM_sound C_ok) ?_ | refine And.intro rfl ?_ | refine And.intro (Nat.le_of_ble_eq_true rfl) ?_ | refine And.intro (Int.natCast_nonneg _) ?_ | refine fun (_ : Nat) => ?_ | refine Ord.go ?_ | refine Run.go rfl ?_ | refine Cont.go rfl ?_ | refine OrdP.go ?_)
        refine ⟨show (n : Int) ≤ (((u8s ws).length : Nat) : Int) by rw [u8s_len]; omega, ?_⟩
        repeat (first | refine OpsA.cons ?_ | refine OpsA.nil ?_ | refine OrdE.cons rfl ?_ | refine OrdE.nil ?_ | refine Run.textA C_ok (aopM_sound C_ok) ?_ | refine And.intro rfl ?_ | refine And.intro (Nat.le_of_ble_eq_true rfl) ?_ | refine And.intro (Int.natCast_nonneg _) ?_ | refine fun (_ : Nat) => ?_ | refine Ord.go ?_ | refine Run.go rfl ?_ | refine Cont.go rfl ?_ | refine OrdP.go ?_)
        refine ACallT.lendD [rdb ws n] _ (.one (lendB rfl rfl (by omega))) (toU cs) ?_
        rintro r L' ⟨v1, gv1, ov1, hv1, rfl, rfl⟩
        obtain ⟨v1', sv1, hv1'⟩ := hv1.move 4
        refine ⟨hv1.scalD _ _ _ _, hv1.scal.2, .tuple [shot (dS (ws.take n)) (dP (ws.take n)) (dK (ws.take n)) v1', .int .i64 (dE (ws.take n))], Sub.tuples ⟨Sub.aggs ⟨Sub.refl _, Sub.refl _, Sub.refl _, sv1, trivial⟩, Sub.refl _, trivial⟩, ?_⟩
        repeat (first | refine OpsA.cons ?_ | refine OpsA.nil ?_ | refine OrdE.cons rfl ?_ | refine OrdE.nil ?_ | refine Run.textA C_ok (aopM_sound C_ok) ?_ | refine And.intro rfl ?_ | refine And.intro (Nat.le_of_ble_eq_true rfl) ?_ | refine And.intro (Int.natCast_nonneg _) ?_ | refine fun (_ : Nat) => ?_ | refine Ord.go ?_ | refine Run.go rfl ?_ | refine Cont.go rfl ?_ | refine OrdP.go ?_)
        refine ACallT.lendD [rdb (ws.take i) (ws.take i).length] _ (.one (by rw [hv0]; exact .nils 1)) (toU cr) ?_
        rintro r L' ⟨v2, gv2, ov2, hv2, rfl, rfl⟩
        obtain ⟨v2', sv2, hv2'⟩ := hv2.move 5
        refine ⟨hv2.scalD _ _ _ _, hv2.scal.2, .tuple [shot (dS (ws.take n)) (dP (ws.take n)) (dK (ws.take n)) v2', .int .i64 (dE (ws.take n))], Sub.tuples ⟨Sub.aggs ⟨Sub.refl _, Sub.refl _, Sub.refl _, sv2, trivial⟩, Sub.refl _, trivial⟩, ?_⟩
        repeat (first | refine OpsA.cons ?_ | refine OpsA.nil ?_ | refine OrdE.cons rfl ?_ | refine OrdE.nil ?_ | refine Run.textA C_ok (aopM_sound C_ok) ?_ | refine And.intro rfl ?_ | refine And.intro (Nat.le_of_ble_eq_true rfl) ?_ | refine And.intro (Int.natCast_nonneg _) ?_ | refine fun (_ : Nat) => ?_ | refine Ord.go ?_ | refine Run.go rfl ?_ | refine Cont.go rfl ?_ | refine OrdP.go ?_)
        refine ACallT.lendD [rdb [0, 2, 47, 97, 1, 0] 6] _ (.one (lendB rfl rfl (by decide))) (toU cy1) ?_
        rintro r L' ⟨y1, gy1, oy1, hy1, rfl, rfl⟩
        obtain ⟨y1', sy1, hy1'⟩ := hy1.move 7
        refine ⟨hy1.scalD _ _ _ _, hy1.scal.2, .tuple [shot (dS [0, 2, 47, 97, 1, 0]) (dP [0, 2, 47, 97, 1, 0]) (dK [0, 2, 47, 97, 1, 0]) y1', .int .i64 (dE [0, 2, 47, 97, 1, 0])], Sub.tuples ⟨Sub.aggs ⟨Sub.refl _, Sub.refl _, Sub.refl _, sy1, trivial⟩, Sub.refl _, trivial⟩, ?_⟩
        repeat (first | refine OpsA.cons ?_ | refine OpsA.nil ?_ | refine OrdE.cons rfl ?_ | refine OrdE.nil ?_ | refine Run.textA C_ok (aopM_sound C_ok) ?_ | refine And.intro rfl ?_ | refine And.intro (Nat.le_of_ble_eq_true rfl) ?_ | refine And.intro (Int.natCast_nonneg _) ?_ | refine fun (_ : Nat) => ?_ | refine Ord.go ?_ | refine Run.go rfl ?_ | refine Cont.go rfl ?_ | refine OrdP.go ?_)
        refine ⟨.int .u8 97, rfl, Nat.le_of_ble_eq_true rfl, rfl, ?_⟩
        repeat (first | refine OpsA.cons ?_ | refine OpsA.nil ?_ | refine OrdE.cons rfl ?_ | refine OrdE.nil ?_ | refine Run.textA C_ok (aopM_sound C_ok) ?_ | refine And.intro rfl ?_ | refine And.intro (Nat.le_of_ble_eq_true rfl) ?_ | refine And.intro (Int.natCast_nonneg _) ?_ | refine fun (_ : Nat) => ?_ | refine Ord.go ?_ | refine Run.go rfl ?_ | refine Cont.go rfl ?_ | refine OrdP.go ?_)
        refine ACallT.lendD [rdb [0, 2, 47, 98, 1, 0] 6] _ (.one (lendB rfl rfl (by decide))) (toU cy2) ?_
        rintro r L' ⟨y2, gy2, oy2, hy2, rfl, rfl⟩
        obtain ⟨y2', sy2, hy2'⟩ := hy2.move 9
        refine ⟨hy2.scalD _ _ _ _, hy2.scal.2, .tuple [shot (dS [0, 2, 47, 98, 1, 0]) (dP [0, 2, 47, 98, 1, 0]) (dK [0, 2, 47, 98, 1, 0]) y2', .int .i64 (dE [0, 2, 47, 98, 1, 0])], Sub.tuples ⟨Sub.aggs ⟨Sub.refl _, Sub.refl _, Sub.refl _, sy2, trivial⟩, Sub.refl _, trivial⟩, ?_⟩
        repeat (first | refine OpsA.cons ?_ | refine OpsA.nil ?_ | refine OrdE.cons rfl ?_ | refine OrdE.nil ?_ | refine Run.textA C_ok (aopM_sound C_ok) ?_ | refine And.intro rfl ?_ | refine And.intro (Nat.le_of_ble_eq_true rfl) ?_ | refine And.intro (Int.natCast_nonneg _) ?_ | refine fun (_ : Nat) => ?_ | refine Ord.go ?_ | refine Run.go rfl ?_ | refine Cont.go rfl ?_ | refine OrdP.go ?_)
        refine ACallT.ok (ACall.ret (num_spec _) ?_)
        repeat (first | refine OpsA.cons ?_ | refine OpsA.nil ?_ | refine OrdE.cons rfl ?_ | refine OrdE.nil ?_ | refine Run.textA C_ok (aopM_sound C_ok) ?_ | refine And.intro rfl ?_ | refine And.intro (Nat.le_of_ble_eq_true rfl) ?_ | refine And.intro (Int.natCast_nonneg _) ?_ | refine fun (_ : Nat) => ?_ | refine Ord.go ?_ | refine Run.go rfl ?_ | refine Cont.go rfl ?_ | refine OrdP.go ?_)
        refine ⟨fun _ => ?_, fun h => absurd rfl h⟩
        repeat (first | refine OpsA.cons ?_ | refine OpsA.nil ?_ | refine OrdE.cons rfl ?_ | refine OrdE.nil ?_ | refine Run.textA C_ok (aopM_sound C_ok) ?_ | refine And.intro rfl ?_ | refine And.intro (Nat.le_of_ble_eq_true rfl) ?_ | refine And.intro (Int.natCast_nonneg _) ?_ | refine fun (_ : Nat) => ?_ | refine Ord.go ?_ | refine Run.go rfl ?_ | refine Cont.go rfl ?_ | refine OrdP.go ?_)
        refine ACallT.ok (ACall.ret_lend (args' := [shot (dS (ws.take n)) (dP (ws.take n)) (dK (ws.take n)) (rdo (dL (ws.take n)) (dL (ws.take n)).length), shot (dS (ws.take n)) (dP (ws.take n)) (dK (ws.take n)) (rdo (dL (ws.take n)) (dL (ws.take n)).length)]) (.two (Lend.aggs ⟨.same _, .same _, .same _, hv1'.lend rfl, trivial⟩) (Lend.aggs ⟨.same _, .same _, .same _, hv2'.lend rfl, trivial⟩)) (alike_true (dS (ws.take n)) (dP (ws.take n)) (dK (ws.take n)) (dL (ws.take n)) (decR_len _)) rfl ?_)
        repeat (first | refine OpsA.cons ?_ | refine OpsA.nil ?_ | refine OrdE.cons rfl ?_ | refine OrdE.nil ?_ | refine Run.textA C_ok (aopM_sound C_ok) ?_ | refine And.intro rfl ?_ | refine And.intro (Nat.le_of_ble_eq_true rfl) ?_ | refine And.intro (Int.natCast_nonneg _) ?_ | refine fun (_ : Nat) => ?_ | refine Ord.go ?_ | refine Run.go rfl ?_ | refine Cont.go rfl ?_ | refine OrdP.go ?_)
        refine ⟨fun _ => ?_, fun h => absurd ky1.1 h⟩
        repeat (first | refine OpsA.cons ?_ | refine OpsA.nil ?_ | refine OrdE.cons rfl ?_ | refine OrdE.nil ?_ | refine Run.textA C_ok (aopM_sound C_ok) ?_ | refine And.intro rfl ?_ | refine And.intro (Nat.le_of_ble_eq_true rfl) ?_ | refine And.intro (Int.natCast_nonneg _) ?_ | refine fun (_ : Nat) => ?_ | refine Ord.go ?_ | refine Run.go rfl ?_ | refine Cont.go rfl ?_ | refine OrdP.go ?_)
        refine ⟨fun _ => ?_, fun h => absurd ky1.2 h⟩
        repeat (first | refine OpsA.cons ?_ | refine OpsA.nil ?_ | refine OrdE.cons rfl ?_ | refine OrdE.nil ?_ | refine Run.textA C_ok (aopM_sound C_ok) ?_ | refine And.intro rfl ?_ | refine And.intro (Nat.le_of_ble_eq_true rfl) ?_ | refine And.intro (Int.natCast_nonneg _) ?_ | refine fun (_ : Nat) => ?_ | refine Ord.go ?_ | refine Run.go rfl ?_ | refine Cont.go rfl ?_ | refine OrdP.go ?_)
        refine ⟨fun _ => ?_, fun h => absurd ky2.1 h⟩
        repeat (first | refine OpsA.cons ?_ | refine OpsA.nil ?_ | refine OrdE.cons rfl ?_ | refine OrdE.nil ?_ | refine Run.textA C_ok (aopM_sound C_ok) ?_ | refine And.intro rfl ?_ | refine And.intro (Nat.le_of_ble_eq_true rfl) ?_ | refine And.intro (Int.natCast_nonneg _) ?_ | refine fun (_ : Nat) => ?_ | refine Ord.go ?_ | refine Run.go rfl ?_ | refine Cont.go rfl ?_ | refine OrdP.go ?_)
        refine ⟨fun _ => ?_, fun h => absurd ky2.2 h⟩
        repeat (first | refine OpsA.cons ?_ | refine OpsA.nil ?_ | refine OrdE.cons rfl ?_ | refine OrdE.nil ?_ | refine Run.textA C_ok (aopM_sound C_ok) ?_ | refine And.intro rfl ?_ | refine And.intro (Nat.le_of_ble_eq_true rfl) ?_ | refine And.intro (Int.natCast_nonneg _) ?_ | refine fun (_ : Nat) => ?_ | refine Ord.go ?_ | refine Run.go rfl ?_ | refine Cont.go rfl ?_ | refine OrdP.go ?_)
        exact ⟨_, [], FinOk.drop _ _, rfl, rfl⟩
    · repeat (first | refine OpsA.cons ?_ | refine OpsA.nil ?_ | refine OrdE.cons rfl ?_ | refine OrdE.nil ?_ | refine Run.textA C_ok (aopM_sound C_ok) ?_ | refine And.intro rfl ?_ | refine And.intro (Nat.le_of_ble_eq_true rfl) ?_ | refine And.intro (Int.natCast_nonneg _) ?_ | refine fun (_ : Nat) => ?_ | refine Ord.go ?_ | refine Run.go rfl ?_ | refine Cont.go rfl ?_ | refine OrdP.go ?_)
      refine ⟨fun h => ?_, fun h => ?_⟩
      · have h : (i : Int) < (n : Int) := h
        obtain ⟨b, eb⟩ : ∃ b, ws[i]? = some b := ⟨ws[i], List.getElem?_eq_getElem (by omega)⟩
        have hbb := hwb b (List.mem_of_getElem? eb)
        repeat (first | refine OpsA.cons ?_ | refine OpsA.nil ?_ | refine OrdE.cons rfl ?_ | refine OrdE.nil ?_ | refine Run.textA C_ok (aopM_sound C_ok) ?_ | refine And.intro rfl ?_ | refine And.intro (Nat.le_of_ble_eq_true rfl) ?_ | refine And.intro (Int.natCast_nonneg _) ?_ | refine fun (_ : Nat) => ?_ | refine Ord.go ?_ | refine Run.go rfl ?_ | refine Cont.go rfl ?_ | refine OrdP.go ?_)
        refine ⟨show (i : Int) < ((n + 1 : Nat) : Int) by omega, ?_⟩
        repeat (first | refine OpsA.cons ?_ | refine OpsA.nil ?_ | refine OrdE.cons rfl ?_ | refine OrdE.nil ?_ | refine Run.textA C_ok (aopM_sound C_ok) ?_ | refine And.intro rfl ?_ | refine And.intro (Nat.le_of_ble_eq_true rfl) ?_ | refine And.intro (Int.natCast_nonneg _) ?_ | refine fun (_ : Nat) => ?_ | refine Ord.go ?_ | refine Run.go rfl ?_ | refine Cont.go rfl ?_ | refine OrdP.go ?_)
        refine ⟨.int .u8 b, u8s_at _ _ _ eb, ?_⟩
        repeat (first | refine OpsA.cons ?_ | refine OpsA.nil ?_ | refine OrdE.cons rfl ?_ | refine OrdE.nil ?_ | refine Run.textA C_ok (aopM_sound C_ok) ?_ | refine And.intro rfl ?_ | refine And.intro (Nat.le_of_ble_eq_true rfl) ?_ | refine And.intro (Int.natCast_nonneg _) ?_ | refine fun (_ : Nat) => ?_ | refine Ord.go ?_ | refine Run.go rfl ?_ | refine Cont.go rfl ?_ | refine OrdP.go ?_)
        refine ⟨fun hge => ?_, fun hge => ?_⟩
        · have hge : (97 : Int) ≤ b := hge
          repeat (first | refine OpsA.cons ?_ | refine OpsA.nil ?_ | refine OrdE.cons rfl ?_ | refine OrdE.nil ?_ | refine Run.textA C_ok (aopM_sound C_ok) ?_ | refine And.intro rfl ?_ | refine And.intro (Nat.le_of_ble_eq_true rfl) ?_ | refine And.intro (Int.natCast_nonneg _) ?_ | refine fun (_ : Nat) => ?_ | refine Ord.go ?_ | refine Run.go rfl ?_ | refine Cont.go rfl ?_ | refine OrdP.go ?_)
          refine ⟨show (i : Int) < ((n + 1 : Nat) : Int) by omega, ?_⟩
          repeat (first | refine OpsA.cons ?_ | refine OpsA.nil ?_ | refine OrdE.cons rfl ?_ | refine OrdE.nil ?_ | refine Run.textA C_ok (aopM_sound C_ok) ?_ | refine And.intro rfl ?_ | refine And.intro (Nat.le_of_ble_eq_true rfl) ?_ | refine And.intro (Int.natCast_nonneg _) ?_ | refine fun (_ : Nat) => ?_ | refine Ord.go ?_ | refine Run.go rfl ?_ | refine Cont.go rfl ?_ | refine OrdP.go ?_)
          refine ⟨.int .u8 b, u8s_at _ _ _ eb, ?_⟩
          repeat (first | refine OpsA.cons ?_ | refine OpsA.nil ?_ | refine OrdE.cons rfl ?_ | refine OrdE.nil ?_ | refine Run.textA C_ok (aopM_sound C_ok) ?_ | refine And.intro rfl ?_ | refine And.intro (Nat.le_of_ble_eq_true rfl) ?_ | refine And.intro (Int.natCast_nonneg _) ?_ | refine fun (_ : Nat) => ?_ | refine Ord.go ?_ | refine Run.go rfl ?_ | refine Cont.go rfl ?_ | refine OrdP.go ?_)
          refine ⟨fun hlt => ?_, fun hlt => ?_⟩
          · have hlt : b < 122 := hlt
            repeat (first | refine OpsA.cons ?_ | refine OpsA.nil ?_ | refine OrdE.cons rfl ?_ | refine OrdE.nil ?_ | refine Run.textA C_ok (aopM_sound C_ok) ?_ | refine And.intro rfl ?_ | refine And.intro (Nat.le_of_ble_eq_true rfl) ?_ | refine And.intro (Int.natCast_nonneg _) ?_ | refine fun (_ : Nat) => ?_ | refine Ord.go ?_ | refine Run.go rfl ?_ | refine Cont.go rfl ?_ | refine OrdP.go ?_)
            refine ⟨show (i : Int) < ((n + 1 : Nat) : Int) by omega, ?_⟩
            repeat (first | refine OpsA.cons ?_ | refine OpsA.nil ?_ | refine OrdE.cons rfl ?_ | refine OrdE.nil ?_ | refine Run.textA C_ok (aopM_sound C_ok) ?_ | refine And.intro rfl ?_ | refine And.intro (Nat.le_of_ble_eq_true rfl) ?_ | refine And.intro (Int.natCast_nonneg _) ?_ | refine fun (_ : Nat) => ?_ | refine Ord.go ?_ | refine Run.go rfl ?_ | refine Cont.go rfl ?_ | refine OrdP.go ?_)
            refine ⟨.int .u8 b, u8s_at _ _ _ eb, ?_⟩
            repeat (first | refine OpsA.cons ?_ | refine OpsA.nil ?_ | refine OrdE.cons rfl ?_ | refine OrdE.nil ?_ | refine Run.textA C_ok (aopM_sound C_ok) ?_ | refine And.intro rfl ?_ | refine And.intro (Nat.le_of_ble_eq_true rfl) ?_ | refine And.intro (Int.natCast_nonneg _) ?_ | refine fun (_ : Nat) => ?_ | refine Ord.go ?_ | refine Run.go rfl ?_ | refine Cont.go rfl ?_ | refine OrdP.go ?_)
            refine fun r hr => ?_
            obtain rfl : r = b + 1 := by rw [hr, show b + 1 = ((b.toNat + 1 : Nat) : Int) by omega, wrap_u8]; omega
            repeat (first | refine OpsA.cons ?_ | refine OpsA.nil ?_ | refine OrdE.cons rfl ?_ | refine OrdE.nil ?_ | refine Run.textA C_ok (aopM_sound C_ok) ?_ | refine And.intro rfl ?_ | refine And.intro (Nat.le_of_ble_eq_true rfl) ?_ | refine And.intro (Int.natCast_nonneg _) ?_ | refine fun (_ : Nat) => ?_ | refine Ord.go ?_ | refine Run.go rfl ?_ | refine Cont.go rfl ?_ | refine OrdP.go ?_)
            refine ⟨show (i : Int) < ((n + 1 : Nat) : Int) by omega, ?_⟩
            repeat (first | refine OpsA.cons ?_ | refine OpsA.nil ?_ | refine OrdE.cons rfl ?_ | refine OrdE.nil ?_ | refine Run.textA C_ok (aopM_sound C_ok) ?_ | refine And.intro rfl ?_ | refine And.intro (Nat.le_of_ble_eq_true rfl) ?_ | refine And.intro (Int.natCast_nonneg _) ?_ | refine fun (_ : Nat) => ?_ | refine Ord.go ?_ | refine Run.go rfl ?_ | refine Cont.go rfl ?_ | refine OrdP.go ?_)
            refine ⟨.int .u8 b, u8s_at _ _ _ eb, Nat.le_of_ble_eq_true rfl, rfl, ?_⟩
            repeat (first | refine OpsA.cons ?_ | refine OpsA.nil ?_ | refine OrdE.cons rfl ?_ | refine OrdE.nil ?_ | refine Run.textA C_ok (aopM_sound C_ok) ?_ | refine And.intro rfl ?_ | refine And.intro (Nat.le_of_ble_eq_true rfl) ?_ | refine And.intro (Int.natCast_nonneg _) ?_ | refine fun (_ : Nat) => ?_ | refine Ord.go ?_ | refine Run.go rfl ?_ | refine Cont.go rfl ?_ | refine OrdP.go ?_)
            have htk : (ws.set i (b + 1)).take (i + 1) = ws.take i ++ [(b + 1)] := by rw [List.take_add_one, List.getElem?_set_self (by omega), List.take_set, List.set_eq_of_length_le (by simp; omega)]; rfl
            refine ⟨show (i : Int) < ((n + 1 : Nat) : Int) by omega, ?_⟩
            repeat (first | refine OpsA.cons ?_ | refine OpsA.nil ?_ | refine OrdE.cons rfl ?_ | refine OrdE.nil ?_ | refine Run.textA C_ok (aopM_sound C_ok) ?_ | refine And.intro rfl ?_ | refine And.intro (Nat.le_of_ble_eq_true rfl) ?_ | refine And.intro (Int.natCast_nonneg _) ?_ | refine fun (_ : Nat) => ?_ | refine Ord.go ?_ | refine Run.go rfl ?_ | refine Cont.go rfl ?_ | refine OrdP.go ?_)
            refine ⟨.int .u8 (b + 1), (show (List.set (u8s ws) i _)[i]? = some (AV.int .u8 (b + 1)) by rw [List.getElem?_set_self (by rw [u8s_len]; omega)]; rfl), ?_⟩
            repeat (first | refine OpsA.cons ?_ | refine OpsA.nil ?_ | refine OrdE.cons rfl ?_ | refine OrdE.nil ?_ | refine Run.textA C_ok (aopM_sound C_ok) ?_ | refine And.intro rfl ?_ | refine And.intro (Nat.le_of_ble_eq_true rfl) ?_ | refine And.intro (Int.natCast_nonneg _) ?_ | refine fun (_ : Nat) => ?_ | refine Ord.go ?_ | refine Run.go rfl ?_ | refine Cont.go rfl ?_ | refine OrdP.go ?_)
            refine ⟨(u8s_len _).symm, ?_⟩
            repeat (first | refine OpsA.cons ?_ | refine OpsA.nil ?_ | refine OrdE.cons rfl ?_ | refine OrdE.nil ?_ | refine Run.textA C_ok (aopM_sound C_ok) ?_ | refine And.intro rfl ?_ | refine And.intro (Nat.le_of_ble_eq_true rfl) ?_ | refine And.intro (Int.natCast_nonneg _) ?_ | refine fun (_ : Nat) => ?_ | refine Ord.go ?_ | refine Run.go rfl ?_ | refine Cont.go rfl ?_ | refine OrdP.go ?_)
            refine ⟨show ((u8s (ws.take i)).length + 1) * 1 ≤ _ by rw [u8s_len, List.length_take]; omega, ?_⟩
            repeat (first | refine OpsA.cons ?_ | refine OpsA.nil ?_ | refine OrdE.cons rfl ?_ | refine OrdE.nil ?_ | refine Run.textA C_ok (aopM_sound C_ok) ?_ | refine And.intro rfl ?_ | refine And.intro (Nat.le_of_ble_eq_true rfl) ?_ | refine And.intro (Int.natCast_nonneg _) ?_ | refine fun (_ : Nat) => ?_ | refine Ord.go ?_ | refine Run.go rfl ?_ | refine Cont.go rfl ?_ | refine OrdP.go ?_)
            rename_i gq gn2 Cn2
            refine fun r hr => ?_
            obtain rfl := add1 hr (by omega)
            repeat (first | refine OpsA.cons ?_ | refine OpsA.nil ?_ | refine OrdE.cons rfl ?_ | refine OrdE.nil ?_ | refine Run.textA C_ok (aopM_sound C_ok) ?_ | refine And.intro rfl ?_ | refine And.intro (Nat.le_of_ble_eq_true rfl) ?_ | refine And.intro (Int.natCast_nonneg _) ?_ | refine fun (_ : Nat) => ?_ | refine Ord.go ?_ | refine Run.go rfl ?_ | refine Cont.go rfl ?_ | refine OrdP.go ?_)
            refine Cont.lpW ?_
            refine ⟨n - (i + 1), [rdb d n, .junk, .junk, .junk, .junk, .junk, .junk, .junk, .junk, .junk, .sl 0 gc Cc (n + 1), .ptr 1 gs 0, .junk, .ptr 2 gt 0, .junk, .sl 3 gn2 Cn2 ((u8s (ws.take i)).length + 1), .int .i64 (i + 1 : Nat), .junk, .junk, .junk, .junk, .junk, .junk, .junk, .junk, .junk, .junk, .junk, .junk, .junk, .junk, .junk, .junk, .junk, .junk, .junk, .junk, .junk, .junk, .junk, .junk, .junk, .junk, .junk, .junk, .junk, .junk, .junk, .junk, .junk, .junk, .junk, .junk, .junk, .junk, .junk, .junk, .junk, .junk, .junk, .junk, .junk, .junk, .junk, .junk, .junk, .junk, .junk, .junk, .junk, .junk, .junk, .junk, .junk, .junk, .junk, .junk, .junk, .junk, .junk, .junk, .junk, .junk, .junk, .junk, .junk, .junk, .junk, .junk, .junk, .junk, .junk, .junk, .junk, .junk, .junk, .junk, .junk, .junk, .junk, .junk, .junk, .junk, .junk, .junk, .junk, .junk, .junk, .junk, .junk, .junk, .junk, .junk, .junk, .junk, .junk, .junk, .junk, .junk, .junk, .junk, .junk, .junk, .junk, .junk, .junk, .junk, .junk, .junk, .junk, .junk, .junk, .junk, .junk, .junk, .junk, .junk, .junk, .junk, .junk, .junk, .junk, .junk, .junk, .junk, .junk, .junk, .junk, .junk, .junk, .junk, .junk, .junk, .junk, .junk, .junk, .junk, .junk, .junk, .junk, .junk, .junk, .junk, .junk, .junk, .junk, .junk, .junk, .junk, .junk, .junk, .junk, .junk, .junk, .junk, .junk, .junk, .junk, .junk, .junk, .junk, .junk, .junk, .junk],
              [(gc, .row 5 1 Cc (u8s (ws.set i (b + 1)))), (gs, .cells 24 [.junk, .junk, .junk, .junk]), (gt, .cells 24 [.junk, .junk, .junk, .junk]), (gn2, .row 5 1 Cn2 (u8s (ws.take i) ++ [.int .u8 (b + 1)]))], by omega,
              Weak.sel ?_ [0, 1, 2, 3] (by decide) ⟨rfl, (show SubO (.row 5 1 Cc ((u8s ws).set i (.int .u8 (b + 1)))) (.row 5 1 Cc (u8s (ws.set i (b + 1)))) by rw [u8s_set]; exact SubO.refl _), rfl, SubO.refl _, rfl, SubO.refl _, rfl, SubO.refl _, trivial⟩,
              ⟨i + 1, (ws.set i (b + 1)), (.sl 3 gn2 Cn2 ((u8s (ws.take i)).length + 1)), (.row 5 1 Cn2 (u8s (ws.take i) ++ [.int .u8 (b + 1)])), gn2, gc, Cc, gs, gt, rfl, by omega, by rw [List.length_set]; exact hwl, (fun x hx => by rcases List.mem_or_eq_of_mem_set hx with hx | rfl; exact hwb x hx; omega), .inr ⟨Cn2, by rw [htk, List.length_append, u8s_len]; rfl, by rw [htk, ← u8s_app]; rfl⟩, rfl, rfl⟩⟩
            repeat (first | exact trivial | refine And.intro (Sub.junk _) ?_ | refine And.intro (Sub.refl _) ?_ | refine And.intro (Sub.sl _ _ _ _ _) ?_ | refine And.intro (Sub.ptr _ _ _ _) ?_)
          · repeat (first | refine OpsA.cons ?_ | refine OpsA.nil ?_ | refine OrdE.cons rfl ?_ | refine OrdE.nil ?_ | refine Run.textA C_ok (aopM_sound C_ok) ?_ | refine And.intro rfl ?_ | refine And.intro (Nat.le_of_ble_eq_true rfl) ?_ | refine And.intro (Int.natCast_nonneg _) ?_ | refine fun (_ : Nat) => ?_ | refine Ord.go ?_ | refine Run.go rfl ?_ | refine Cont.go rfl ?_ | refine OrdP.go ?_)
            have htk : ws.take (i + 1) = ws.take i ++ [b] := by rw [List.take_add_one, eb]; rfl
            refine ⟨show (i : Int) < ((n + 1 : Nat) : Int) by omega, ?_⟩
            repeat (first | refine OpsA.cons ?_ | refine OpsA.nil ?_ | refine OrdE.cons rfl ?_ | refine OrdE.nil ?_ | refine Run.textA C_ok (aopM_sound C_ok) ?_ | refine And.intro rfl ?_ | refine And.intro (Nat.le_of_ble_eq_true rfl) ?_ | refine And.intro (Int.natCast_nonneg _) ?_ | refine fun (_ : Nat) => ?_ | refine Ord.go ?_ | refine Run.go rfl ?_ | refine Cont.go rfl ?_ | refine OrdP.go ?_)
            refine ⟨.int .u8 b, u8s_at _ _ _ eb, ?_⟩
            repeat (first | refine OpsA.cons ?_ | refine OpsA.nil ?_ | refine OrdE.cons rfl ?_ | refine OrdE.nil ?_ | refine Run.textA C_ok (aopM_sound C_ok) ?_ | refine And.intro rfl ?_ | refine And.intro (Nat.le_of_ble_eq_true rfl) ?_ | refine And.intro (Int.natCast_nonneg _) ?_ | refine fun (_ : Nat) => ?_ | refine Ord.go ?_ | refine Run.go rfl ?_ | refine Cont.go rfl ?_ | refine OrdP.go ?_)
            refine ⟨(u8s_len _).symm, ?_⟩
            repeat (first | refine OpsA.cons ?_ | refine OpsA.nil ?_ | refine OrdE.cons rfl ?_ | refine OrdE.nil ?_ | refine Run.textA C_ok (aopM_sound C_ok) ?_ | refine And.intro rfl ?_ | refine And.intro (Nat.le_of_ble_eq_true rfl) ?_ | refine And.intro (Int.natCast_nonneg _) ?_ | refine fun (_ : Nat) => ?_ | refine Ord.go ?_ | refine Run.go rfl ?_ | refine Cont.go rfl ?_ | refine OrdP.go ?_)
            refine ⟨show ((u8s (ws.take i)).length + 1) * 1 ≤ _ by rw [u8s_len, List.length_take]; omega, ?_⟩
            repeat (first | refine OpsA.cons ?_ | refine OpsA.nil ?_ | refine OrdE.cons rfl ?_ | refine OrdE.nil ?_ | refine Run.textA C_ok (aopM_sound C_ok) ?_ | refine And.intro rfl ?_ | refine And.intro (Nat.le_of_ble_eq_true rfl) ?_ | refine And.intro (Int.natCast_nonneg _) ?_ | refine fun (_ : Nat) => ?_ | refine Ord.go ?_ | refine Run.go rfl ?_ | refine Cont.go rfl ?_ | refine OrdP.go ?_)
            rename_i gq gn2 Cn2
            refine fun r hr => ?_
            obtain rfl := add1 hr (by omega)
            repeat (first | refine OpsA.cons ?_ | refine OpsA.nil ?_ | refine OrdE.cons rfl ?_ | refine OrdE.nil ?_ | refine Run.textA C_ok (aopM_sound C_ok) ?_ | refine And.intro rfl ?_ | refine And.intro (Nat.le_of_ble_eq_true rfl) ?_ | refine And.intro (Int.natCast_nonneg _) ?_ | refine fun (_ : Nat) => ?_ | refine Ord.go ?_ | refine Run.go rfl ?_ | refine Cont.go rfl ?_ | refine OrdP.go ?_)
            refine Cont.lpW ?_
            refine ⟨n - (i + 1), [rdb d n, .junk, .junk, .junk, .junk, .junk, .junk, .junk, .junk, .junk, .sl 0 gc Cc (n + 1), .ptr 1 gs 0, .junk, .ptr 2 gt 0, .junk, .sl 3 gn2 Cn2 ((u8s (ws.take i)).length + 1), .int .i64 (i + 1 : Nat), .junk, .junk, .junk, .junk, .junk, .junk, .junk, .junk, .junk, .junk, .junk, .junk, .junk, .junk, .junk, .junk, .junk, .junk, .junk, .junk, .junk, .junk, .junk, .junk, .junk, .junk, .junk, .junk, .junk, .junk, .junk, .junk, .junk, .junk, .junk, .junk, .junk, .junk, .junk, .junk, .junk, .junk, .junk, .junk, .junk, .junk, .junk, .junk, .junk, .junk, .junk, .junk, .junk, .junk, .junk, .junk, .junk, .junk, .junk, .junk, .junk, .junk, .junk, .junk, .junk, .junk, .junk, .junk, .junk, .junk, .junk, .junk, .junk, .junk, .junk, .junk, .junk, .junk, .junk, .junk, .junk, .junk, .junk, .junk, .junk, .junk, .junk, .junk, .junk, .junk, .junk, .junk, .junk, .junk, .junk, .junk, .junk, .junk, .junk, .junk, .junk, .junk, .junk, .junk, .junk, .junk, .junk, .junk, .junk, .junk, .junk, .junk, .junk, .junk, .junk, .junk, .junk, .junk, .junk, .junk, .junk, .junk, .junk, .junk, .junk, .junk, .junk, .junk, .junk, .junk, .junk, .junk, .junk, .junk, .junk, .junk, .junk, .junk, .junk, .junk, .junk, .junk, .junk, .junk, .junk, .junk, .junk, .junk, .junk, .junk, .junk, .junk, .junk, .junk, .junk, .junk, .junk, .junk, .junk, .junk, .junk, .junk, .junk, .junk, .junk, .junk, .junk],
              [(gc, .row 5 1 Cc (u8s ws)), (gs, .cells 24 [.junk, .junk, .junk, .junk]), (gt, .cells 24 [.junk, .junk, .junk, .junk]), (gn2, .row 5 1 Cn2 (u8s (ws.take i) ++ [.int .u8 b]))], by omega,
              Weak.sel ?_ [0, 1, 2, 3] (by decide) ⟨rfl, SubO.refl _, rfl, SubO.refl _, rfl, SubO.refl _, rfl, SubO.refl _, trivial⟩,
              ⟨i + 1, ws, (.sl 3 gn2 Cn2 ((u8s (ws.take i)).length + 1)), (.row 5 1 Cn2 (u8s (ws.take i) ++ [.int .u8 b])), gn2, gc, Cc, gs, gt, rfl, by omega, hwl, hwb, .inr ⟨Cn2, by rw [htk, List.length_append, u8s_len]; rfl, by rw [htk, ← u8s_app]; rfl⟩, rfl, rfl⟩⟩
            repeat (first | exact trivial | refine And.intro (Sub.junk _) ?_ | refine And.intro (Sub.refl _) ?_ | refine And.intro (Sub.sl _ _ _ _ _) ?_ | refine And.intro (Sub.ptr _ _ _ _) ?_)
        · repeat (first | refine OpsA.cons ?_ | refine OpsA.nil ?_ | refine OrdE.cons rfl ?_ | refine OrdE.nil ?_ | refine Run.textA C_ok (aopM_sound C_ok) ?_ | refine And.intro rfl ?_ | refine And.intro (Nat.le_of_ble_eq_true rfl) ?_ | refine And.intro (Int.natCast_nonneg _) ?_ | refine fun (_ : Nat) => ?_ | refine Ord.go ?_ | refine Run.go rfl ?_ | refine Cont.go rfl ?_ | refine OrdP.go ?_)
          have htk : ws.take (i + 1) = ws.take i ++ [b] := by rw [List.take_add_one, eb]; rfl
          refine ⟨show (i : Int) < ((n + 1 : Nat) : Int) by omega, ?_⟩
          repeat (first | refine OpsA.cons ?_ | refine OpsA.nil ?_ | refine OrdE.cons rfl ?_ | refine OrdE.nil ?_ | refine Run.textA C_ok (aopM_sound C_ok) ?_ | refine And.intro rfl ?_ | refine And.intro (Nat.le_of_ble_eq_true rfl) ?_ | refine And.intro (Int.natCast_nonneg _) ?_ | refine fun (_ : Nat) => ?_ | refine Ord.go ?_ | refine Run.go rfl ?_ | refine Cont.go rfl ?_ | refine OrdP.go ?_)
          refine ⟨.int .u8 b, u8s_at _ _ _ eb, ?_⟩
          repeat (first | refine OpsA.cons ?_ | refine OpsA.nil ?_ | refine OrdE.cons rfl ?_ | refine OrdE.nil ?_ | refine Run.textA C_ok (aopM_sound C_ok) ?_ | refine And.intro rfl ?_ | refine And.intro (Nat.le_of_ble_eq_true rfl) ?_ | refine And.intro (Int.natCast_nonneg _) ?_ | refine fun (_ : Nat) => ?_ | refine Ord.go ?_ | refine Run.go rfl ?_ | refine Cont.go rfl ?_ | refine OrdP.go ?_)
          refine ⟨(u8s_len _).symm, ?_⟩
          repeat (first | refine OpsA.cons ?_ | refine OpsA.nil ?_ | refine OrdE.cons rfl ?_ | refine OrdE.nil ?_ | refine Run.textA C_ok (aopM_sound C_ok) ?_ | refine And.intro rfl ?_ | refine And.intro (Nat.le_of_ble_eq_true rfl) ?_ | refine And.intro (Int.natCast_nonneg _) ?_ | refine fun (_ : Nat) => ?_ | refine Ord.go ?_ | refine Run.go rfl ?_ | refine Cont.go rfl ?_ | refine OrdP.go ?_)
          refine ⟨show ((u8s (ws.take i)).length + 1) * 1 ≤ _ by rw [u8s_len, List.length_take]; omega, ?_⟩
          repeat (first | refine OpsA.cons ?_ | refine OpsA.nil ?_ | refine OrdE.cons rfl ?_ | refine OrdE.nil ?_ | refine Run.textA C_ok (aopM_sound C_ok) ?_ | refine And.intro rfl ?_ | refine And.intro (Nat.le_of_ble_eq_true rfl) ?_ | refine And.intro (Int.natCast_nonneg _) ?_ | refine fun (_ : Nat) => ?_ | refine Ord.go ?_ | refine Run.go rfl ?_ | refine Cont.go rfl ?_ | refine OrdP.go ?_)
          rename_i gq gn2 Cn2
          refine fun r hr => ?_
          obtain rfl := add1 hr (by omega)
          repeat (first | refine OpsA.cons ?_ | refine OpsA.nil ?_ | refine OrdE.cons rfl ?_ | refine OrdE.nil ?_ | refine Run.textA C_ok (aopM_sound C_ok) ?_ | refine And.intro rfl ?_ | refine And.intro (Nat.le_of_ble_eq_true rfl) ?_ | refine And.intro (Int.natCast_nonneg _) ?_ | refine fun (_ : Nat) => ?_ | refine Ord.go ?_ | refine Run.go rfl ?_ | refine Cont.go rfl ?_ | refine OrdP.go ?_)
          refine Cont.lpW ?_
          refine ⟨n - (i + 1), [rdb d n, .junk, .junk, .junk, .junk, .junk, .junk, .junk, .junk, .junk, .sl 0 gc Cc (n + 1), .ptr 1 gs 0, .junk, .ptr 2 gt 0, .junk, .sl 3 gn2 Cn2 ((u8s (ws.take i)).length + 1), .int .i64 (i + 1 : Nat), .junk, .junk, .junk, .junk, .junk, .junk, .junk, .junk, .junk, .junk, .junk, .junk, .junk, .junk, .junk, .junk, .junk, .junk, .junk, .junk, .junk, .junk, .junk, .junk, .junk, .junk, .junk, .junk, .junk, .junk, .junk, .junk, .junk, .junk, .junk, .junk, .junk, .junk, .junk, .junk, .junk, .junk, .junk, .junk, .junk, .junk, .junk, .junk, .junk, .junk, .junk, .junk, .junk, .junk, .junk, .junk, .junk, .junk, .junk, .junk, .junk, .junk, .junk, .junk, .junk, .junk, .junk, .junk, .junk, .junk, .junk, .junk, .junk, .junk, .junk, .junk, .junk, .junk, .junk, .junk, .junk, .junk, .junk, .junk, .junk, .junk, .junk, .junk, .junk, .junk, .junk, .junk, .junk, .junk, .junk, .junk, .junk, .junk, .junk, .junk, .junk, .junk, .junk, .junk, .junk, .junk, .junk, .junk, .junk, .junk, .junk, .junk, .junk, .junk, .junk, .junk, .junk, .junk, .junk, .junk, .junk, .junk, .junk, .junk, .junk, .junk, .junk, .junk, .junk, .junk, .junk, .junk, .junk, .junk, .junk, .junk, .junk, .junk, .junk, .junk, .junk, .junk, .junk, .junk, .junk, .junk, .junk, .junk, .junk, .junk, .junk, .junk, .junk, .junk, .junk, .junk, .junk, .junk, .junk, .junk, .junk, .junk, .junk, .junk, .junk, .junk, .junk],
            [(gc, .row 5 1 Cc (u8s ws)), (gs, .cells 24 [.junk, .junk, .junk, .junk]), (gt, .cells 24 [.junk, .junk, .junk, .junk]), (gn2, .row 5 1 Cn2 (u8s (ws.take i) ++ [.int .u8 b]))], by omega,
            Weak.sel ?_ [0, 1, 2, 3] (by decide) ⟨rfl, SubO.refl _, rfl, SubO.refl _, rfl, SubO.refl _, rfl, SubO.refl _, trivial⟩,
            ⟨i + 1, ws, (.sl 3 gn2 Cn2 ((u8s (ws.take i)).length + 1)), (.row 5 1 Cn2 (u8s (ws.take i) ++ [.int .u8 b])), gn2, gc, Cc, gs, gt, rfl, by omega, hwl, hwb, .inr ⟨Cn2, by rw [htk, List.length_append, u8s_len]; rfl, by rw [htk, ← u8s_app]; rfl⟩, rfl, rfl⟩⟩
          repeat (first | exact trivial | refine And.intro (Sub.junk _) ?_ | refine And.intro (Sub.refl _) ?_ | refine And.intro (Sub.sl _ _ _ _ _) ?_ | refine And.intro (Sub.ptr _ _ _ _) ?_)
      · have h : ¬ (i : Int) < (n : Int) := h
        have hin : i = n := by omega
        have cs := decShot_spec ws n (by omega) hwb (by omega)
        have cr := decRef_spec (ws.take i) (ws.take i).length (Nat.le_refl _) (hwb.take i) (by rw [List.length_take]; omega)
        rw [List.take_length] at cr
        rw [show DecQ (ws.take i) = DecQ (ws.take n) by rw [hin]] at cr
        have cy1 := decShot_spec [0, 2, 47, 97, 1, 0] 6 (by decide) (fun b hb => by simp at hb; omega) (by decide)
        have cy2 := decShot_spec [0, 2, 47, 98, 1, 0] 6 (by decide) (fun b hb => by simp at hb; omega) (by decide)
        have ky1 := decY 97 ⟨#[47, 97]⟩ rfl ⟨by omega, by decide +kernel, .inl rfl, by omega, by decide, fun _ _ h => absurd h (Nat.not_lt_zero _)⟩
        have ky2 := decY 98 ⟨#[47, 98]⟩ rfl ⟨by omega, by decide +kernel, .inl rfl, by omega, by decide, fun _ _ h => absurd h (Nat.not_lt_zero _)⟩
        repeat (first | refine OpsA.cons ?_ | refine OpsA.nil ?_ | refine OrdE.cons rfl ?_ | refine OrdE.nil ?_ | refine Run.textA C_ok (aopM_sound C_ok) ?_ | refine And.intro rfl ?_ | refine And.intro (Nat.le_of_ble_eq_true rfl) ?_ | refine And.intro (Int.natCast_nonneg _) ?_ | refine fun (_ : Nat) => ?_ | refine Ord.go ?_ | refine Run.go rfl ?_ | refine Cont.go rfl ?_ | refine OrdP.go ?_)
        refine ⟨show (n : Int) ≤ (((u8s ws).length : Nat) : Int) by rw [u8s_len]; omega, ?_⟩
        repeat (first | refine OpsA.cons ?_ | refine OpsA.nil ?_ | refine OrdE.cons rfl ?_ | refine OrdE.nil ?_ | refine Run.textA C_ok (aopM_sound C_ok) ?_ | refine And.intro rfl ?_ | refine And.intro (Nat.le_of_ble_eq_true rfl) ?_ | refine And.intro (Int.natCast_nonneg _) ?_ | refine fun (_ : Nat) => ?_ | refine Ord.go ?_ | refine Run.go rfl ?_ | refine Cont.go rfl ?_ | refine OrdP.go ?_)
        refine ACallT.lendD [rdb ws n] _ (.one (lendB rfl rfl (by omega))) (toU cs) ?_
        rintro r L' ⟨v1, gv1, ov1, hv1, rfl, rfl⟩
        obtain ⟨v1', sv1, hv1'⟩ := hv1.move 4
        refine ⟨hv1.scalD _ _ _ _, hv1.scal.2, .tuple [shot (dS (ws.take n)) (dP (ws.take n)) (dK (ws.take n)) v1', .int .i64 (dE (ws.take n))], Sub.tuples ⟨Sub.aggs ⟨Sub.refl _, Sub.refl _, Sub.refl _, sv1, trivial⟩, Sub.refl _, trivial⟩, ?_⟩
        repeat (first | refine OpsA.cons ?_ | refine OpsA.nil ?_ | refine OrdE.cons rfl ?_ | refine OrdE.nil ?_ | refine Run.textA C_ok (aopM_sound C_ok) ?_ | refine And.intro rfl ?_ | refine And.intro (Nat.le_of_ble_eq_true rfl) ?_ | refine And.intro (Int.natCast_nonneg _) ?_ | refine fun (_ : Nat) => ?_ | refine Ord.go ?_ | refine Run.go rfl ?_ | refine Cont.go rfl ?_ | refine OrdP.go ?_)
        refine ACallT.lendD [rdb (ws.take i) (ws.take i).length] _ (.one (lendB rfl rfl (Nat.le_refl _))) (toU cr) ?_
        rintro r L' ⟨v2, gv2, ov2, hv2, rfl, rfl⟩
        obtain ⟨v2', sv2, hv2'⟩ := hv2.move 5
        refine ⟨hv2.scalD _ _ _ _, hv2.scal.2, .tuple [shot (dS (ws.take n)) (dP (ws.take n)) (dK (ws.take n)) v2', .int .i64 (dE (ws.take n))], Sub.tuples ⟨Sub.aggs ⟨Sub.refl _, Sub.refl _, Sub.refl _, sv2, trivial⟩, Sub.refl _, trivial⟩, ?_⟩
        repeat (first | refine OpsA.cons ?_ | refine OpsA.nil ?_ | refine OrdE.cons rfl ?_ | refine OrdE.nil ?_ | refine Run.textA C_ok (aopM_sound C_ok) ?_ | refine And.intro rfl ?_ | refine And.intro (Nat.le_of_ble_eq_true rfl) ?_ | refine And.intro (Int.natCast_nonneg _) ?_ | refine fun (_ : Nat) => ?_ | refine Ord.go ?_ | refine Run.go rfl ?_ | refine Cont.go rfl ?_ | refine OrdP.go ?_)
        refine ACallT.lendD [rdb [0, 2, 47, 97, 1, 0] 6] _ (.one (lendB rfl rfl (by decide))) (toU cy1) ?_
        rintro r L' ⟨y1, gy1, oy1, hy1, rfl, rfl⟩
        obtain ⟨y1', sy1, hy1'⟩ := hy1.move 7
        refine ⟨hy1.scalD _ _ _ _, hy1.scal.2, .tuple [shot (dS [0, 2, 47, 97, 1, 0]) (dP [0, 2, 47, 97, 1, 0]) (dK [0, 2, 47, 97, 1, 0]) y1', .int .i64 (dE [0, 2, 47, 97, 1, 0])], Sub.tuples ⟨Sub.aggs ⟨Sub.refl _, Sub.refl _, Sub.refl _, sy1, trivial⟩, Sub.refl _, trivial⟩, ?_⟩
        repeat (first | refine OpsA.cons ?_ | refine OpsA.nil ?_ | refine OrdE.cons rfl ?_ | refine OrdE.nil ?_ | refine Run.textA C_ok (aopM_sound C_ok) ?_ | refine And.intro rfl ?_ | refine And.intro (Nat.le_of_ble_eq_true rfl) ?_ | refine And.intro (Int.natCast_nonneg _) ?_ | refine fun (_ : Nat) => ?_ | refine Ord.go ?_ | refine Run.go rfl ?_ | refine Cont.go rfl ?_ | refine OrdP.go ?_)
        refine ⟨.int .u8 97, rfl, Nat.le_of_ble_eq_true rfl, rfl, ?_⟩
        repeat (first | refine OpsA.cons ?_ | refine OpsA.nil ?_ | refine OrdE.cons rfl ?_ | refine OrdE.nil ?_ | refine Run.textA C_ok (aopM_sound C_ok) ?_ | refine And.intro rfl ?_ | refine And.intro (Nat.le_of_ble_eq_true rfl) ?_ | refine And.intro (Int.natCast_nonneg _) ?_ | refine fun (_ : Nat) => ?_ | refine Ord.go ?_ | refine Run.go rfl ?_ | refine Cont.go rfl ?_ | refine OrdP.go ?_)
        refine ACallT.lendD [rdb [0, 2, 47, 98, 1, 0] 6] _ (.one (lendB rfl rfl (by decide))) (toU cy2) ?_
        rintro r L' ⟨y2, gy2, oy2, hy2, rfl, rfl⟩
        obtain ⟨y2', sy2, hy2'⟩ := hy2.move 9
        refine ⟨hy2.scalD _ _ _ _, hy2.scal.2, .tuple [shot (dS [0, 2, 47, 98, 1, 0]) (dP [0, 2, 47, 98, 1, 0]) (dK [0, 2, 47, 98, 1, 0]) y2', .int .i64 (dE [0, 2, 47, 98, 1, 0])], Sub.tuples ⟨Sub.aggs ⟨Sub.refl _, Sub.refl _, Sub.refl _, sy2, trivial⟩, Sub.refl _, trivial⟩, ?_⟩
        repeat (first | refine OpsA.cons ?_ | refine OpsA.nil ?_ | refine OrdE.cons rfl ?_ | refine OrdE.nil ?_ | refine Run.textA C_ok (aopM_sound C_ok) ?_ | refine And.intro rfl ?_ | refine And.intro (Nat.le_of_ble_eq_true rfl) ?_ | refine And.intro (Int.natCast_nonneg _) ?_ | refine fun (_ : Nat) => ?_ | refine Ord.go ?_ | refine Run.go rfl ?_ | refine Cont.go rfl ?_ | refine OrdP.go ?_)
        refine ACallT.ok (ACall.ret (num_spec _) ?_)
        repeat (first | refine OpsA.cons ?_ | refine OpsA.nil ?_ | refine OrdE.cons rfl ?_ | refine OrdE.nil ?_ | refine Run.textA C_ok (aopM_sound C_ok) ?_ | refine And.intro rfl ?_ | refine And.intro (Nat.le_of_ble_eq_true rfl) ?_ | refine And.intro (Int.natCast_nonneg _) ?_ | refine fun (_ : Nat) => ?_ | refine Ord.go ?_ | refine Run.go rfl ?_ | refine Cont.go rfl ?_ | refine OrdP.go ?_)
        refine ⟨fun _ => ?_, fun h => absurd rfl h⟩
        repeat (first | refine OpsA.cons ?_ | refine OpsA.nil ?_ | refine OrdE.cons rfl ?_ | refine OrdE.nil ?_ | refine Run.textA C_ok (aopM_sound C_ok) ?_ | refine And.intro rfl ?_ | refine And.intro (Nat.le_of_ble_eq_true rfl) ?_ | refine And.intro (Int.natCast_nonneg _) ?_ | refine fun (_ : Nat) => ?_ | refine Ord.go ?_ | refine Run.go rfl ?_ | refine Cont.go rfl ?_ | refine OrdP.go ?_)
        refine ACallT.ok (ACall.ret_lend (args' := [shot (dS (ws.take n)) (dP (ws.take n)) (dK (ws.take n)) (rdo (dL (ws.take n)) (dL (ws.take n)).length), shot (dS (ws.take n)) (dP (ws.take n)) (dK (ws.take n)) (rdo (dL (ws.take n)) (dL (ws.take n)).length)]) (.two (Lend.aggs ⟨.same _, .same _, .same _, hv1'.lend rfl, trivial⟩) (Lend.aggs ⟨.same _, .same _, .same _, hv2'.lend rfl, trivial⟩)) (alike_true (dS (ws.take n)) (dP (ws.take n)) (dK (ws.take n)) (dL (ws.take n)) (decR_len _)) rfl ?_)
        repeat (first | refine OpsA.cons ?_ | refine OpsA.nil ?_ | refine OrdE.cons rfl ?_ | refine OrdE.nil ?_ | refine Run.textA C_ok (aopM_sound C_ok) ?_ | refine And.intro rfl ?_ | refine And.intro (Nat.le_of_ble_eq_true rfl) ?_ | refine And.intro (Int.natCast_nonneg _) ?_ | refine fun (_ : Nat) => ?_ | refine Ord.go ?_ | refine Run.go rfl ?_ | refine Cont.go rfl ?_ | refine OrdP.go ?_)
        refine ⟨fun _ => ?_, fun h => absurd ky1.1 h⟩
        repeat (first | refine OpsA.cons ?_ | refine OpsA.nil ?_ | refine OrdE.cons rfl ?_ | refine OrdE.nil ?_ | refine Run.textA C_ok (aopM_sound C_ok) ?_ | refine And.intro rfl ?_ | refine And.intro (Nat.le_of_ble_eq_true rfl) ?_ | refine And.intro (Int.natCast_nonneg _) ?_ | refine fun (_ : Nat) => ?_ | refine Ord.go ?_ | refine Run.go rfl ?_ | refine Cont.go rfl ?_ | refine OrdP.go ?_)
        refine ⟨fun _ => ?_, fun h => absurd ky1.2 h⟩
        repeat (first | refine OpsA.cons ?_ | refine OpsA.nil ?_ | refine OrdE.cons rfl ?_ | refine OrdE.nil ?_ | refine Run.textA C_ok (aopM_sound C_ok) ?_ | refine And.intro rfl ?_ | refine And.intro (Nat.le_of_ble_eq_true rfl) ?_ | refine And.intro (Int.natCast_nonneg _) ?_ | refine fun (_ : Nat) => ?_ | refine Ord.go ?_ | refine Run.go rfl ?_ | refine Cont.go rfl ?_ | refine OrdP.go ?_)
        refine ⟨fun _ => ?_, fun h => absurd ky2.1 h⟩
        repeat (first | refine OpsA.cons ?_ | refine OpsA.nil ?_ | refine OrdE.cons rfl ?_ | refine OrdE.nil ?_ | refine Run.textA C_ok (aopM_sound C_ok) ?_ | refine And.intro rfl ?_ | refine And.intro (Nat.le_of_ble_eq_true rfl) ?_ | refine And.intro (Int.natCast_nonneg _) ?_ | refine fun (_ : Nat) => ?_ | refine Ord.go ?_ | refine Run.go rfl ?_ | refine Cont.go rfl ?_ | refine OrdP.go ?_)
        refine ⟨fun _ => ?_, fun h => absurd ky2.2 h⟩
        repeat (first | refine OpsA.cons ?_ | refine OpsA.nil ?_ | refine OrdE.cons rfl ?_ | refine OrdE.nil ?_ | refine Run.textA C_ok (aopM_sound C_ok) ?_ | refine And.intro rfl ?_ | refine And.intro (Nat.le_of_ble_eq_true rfl) ?_ | refine And.intro (Int.natCast_nonneg _) ?_ | refine fun (_ : Nat) => ?_ | refine Ord.go ?_ | refine Run.go rfl ?_ | refine Cont.go rfl ?_ | refine OrdP.go ?_)
        exact ⟨_, [], FinOk.drop _ _, rfl, rfl⟩
end Go.Proofs.YtfohedaadncefaaDoor.HBT
