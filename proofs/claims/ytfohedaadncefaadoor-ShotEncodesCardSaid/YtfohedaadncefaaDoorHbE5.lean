/- The contract of the document's own text 'Encode'. -/
import Derived.Test.YtfohedaadncefaaDoorHbE4
import Derived.Test.YtfohedaadncefaaDoorHbR12
namespace Go.Proofs.YtfohedaadncefaaDoor.HBT
open Go Go.Proofs.YtfohedaadncefaaDoor.HB Go.RowKit
set_option maxRecDepth 8000

theorem merge_tail1 (a : Nat × AObj) : ∀ (T : AHeap) (j : Nat), mergeA [1] [a] (j + 2) T = T
  | [], j => rfl
  | x :: T, j => by
    simp only [mergeA]
    rw [show j + 2 + 1 = (j + 1) + 2 by omega, merge_tail1 a T (j + 1)]
    have : idxN [1] (j + 2) 0 = none := by
      simp only [idxN]
      rw [if_neg (by simp)]
    rw [this]
theorem rstep1 {f : FuncId} {x : AV} {new : List Int} {s0 : Nat × AObj} {K : AV → AHeap → Prop} (spec : ∀ b L, BH [] b L → FnSpec C f [b, x] L (fun r L' => BH ([] ++ new) r L')) (hne : new ≠ [])
    (k : ∀ g Cp, K (.sl 1 g Cp new.length) [s0, (g, .row 5 1 Cp (u8s new))]) : ACall C f [.nils, x] [s0] K :=
  .pure _ (spec _ _ (.inl ⟨rfl, rfl, rfl⟩)) (by
    intro r L' h
    rcases h with ⟨h, _⟩ | ⟨_, g, Cp, rfl, rfl⟩
    · exact absurd h hne
    · exact ⟨_, Sub.sl _ 1 _ _ _, k g Cp⟩)
theorem rstep {f : FuncId} {x : AV} {acc new : List Int} {gb Cb : Nat} {s0 : Nat × AObj} {T : AHeap} {K : AV → AHeap → Prop} (spec : ∀ b L, BH acc b L → FnSpec C f [b, x] L (fun r L' => BH (acc ++ new) r L')) (hacc : acc ≠ [])
    (k : ∀ g Cp, K (.sl 1 g Cp (acc ++ new).length) (s0 :: (g, .row 5 1 Cp (u8s (acc ++ new))) :: T)) : ACall C f [.sl 1 gb Cb acc.length, x] (s0 :: (gb, .row 5 1 Cb (u8s acc)) :: T) K :=
  .sel [1] (by decide) [.sl 0 gb Cb acc.length, x] _ (.two (Sub.sl _ _ _ _ _) (Sub.refl _)) (spec _ _ (.inr ⟨hacc, gb, Cb, rfl, rfl⟩)) (by
    intro r L' h
    rcases h with ⟨h, _⟩ | ⟨_, g, Cp, rfl, rfl⟩
    · exact absurd (List.append_eq_nil_iff.1 h).1 hacc
    · refine ⟨_, Sub.sl _ 1 _ _ _, ?_⟩
      show K _ (s0 :: (g, .row 5 1 Cp (u8s (acc ++ new))) :: mergeA [1] _ (0 + 2) T)
      rw [merge_tail1]
      exact k g Cp)

set_option maxHeartbeats 2000000 in
theorem refEncode_spec (st : Int) (pl : ByteArray) (kd : Int) (xs : List Sn) (n : Nat) (hn : n ≤ xs.length) (hps : ∀ x ∈ xs, x.p.size ≤ 9223372036854775807) :
    FnSpec C 33 [shot st pl kd (rdo xs n)] [] (fun r L' => (¬ refP st pl kd xs n ∧ r = .tuple [.nils, .int .i64 51] ∧ L' = []) ∨
      (refP st pl kd xs n ∧ ∃ g Cp, r = .tuple [.sl 0 g Cp (encI st pl kd xs n).length, .int .i64 0] ∧ L' = [(g, .row 5 1 Cp (u8s (encI st pl kd xs n)))])) := by
  refine FnSpec.start C_ok Tryd.func33 rfl rfl Tryd.ntmps33 ?_
  repeat (first | refine Ops.cons ?_ | refine Ops.nil ?_ | refine And.intro rfl ?_ | refine And.intro (Nat.le_of_ble_eq_true rfl) ?_ | refine And.intro (Int.natCast_nonneg _) ?_ | refine fun (_ : Nat) => ?_ | refine Ord.quiet rfl ?_ | refine Ord.loud rfl ?_ | refine Ord.nil ?_ | refine Run.seq ?_ | refine Run.text ?_ | refine Run.cond ?_ | refine Run.blk ?_ | refine Run.skip ?_ | refine Run.ret ?_ | refine Run.exit ?_ | refine Cont.seq ?_ | refine Cont.seq_ret ?_ | refine Cont.seq_exit ?_ | refine Cont.blk ?_ | refine Cont.blk_ret ?_ | refine Cont.blk_exit ?_ | refine Cont.lp_ret ?_ | refine Cont.lp_exit ?_ | refine Cont.nil ?_ | refine Cont.op rfl ?_ | refine OrdP.cons rfl ?_ | refine OrdP.nil ?_)
  have c1 := refCheck_spec st pl kd xs n hn hps
  by_cases hP : refP st pl kd xs n
  case neg =>
    rw [if_neg hP] at c1
    refine ACall.ret c1 ?_
    repeat (first | refine Ops.cons ?_ | refine Ops.nil ?_ | refine And.intro rfl ?_ | refine And.intro (Nat.le_of_ble_eq_true rfl) ?_ | refine And.intro (Int.natCast_nonneg _) ?_ | refine fun (_ : Nat) => ?_ | refine Ord.quiet rfl ?_ | refine Ord.loud rfl ?_ | refine Ord.nil ?_ | refine Run.seq ?_ | refine Run.text ?_ | refine Run.cond ?_ | refine Run.blk ?_ | refine Run.skip ?_ | refine Run.ret ?_ | refine Run.exit ?_ | refine Cont.seq ?_ | refine Cont.seq_ret ?_ | refine Cont.seq_exit ?_ | refine Cont.blk ?_ | refine Cont.blk_ret ?_ | refine Cont.blk_exit ?_ | refine Cont.lp_ret ?_ | refine Cont.lp_exit ?_ | refine Cont.nil ?_ | refine Cont.op rfl ?_ | refine OrdP.cons rfl ?_ | refine OrdP.nil ?_)
    refine ⟨fun _ => ?_, fun h => absurd (by decide) h⟩
    repeat (first | refine Ops.cons ?_ | refine Ops.nil ?_ | refine And.intro rfl ?_ | refine And.intro (Nat.le_of_ble_eq_true rfl) ?_ | refine And.intro (Int.natCast_nonneg _) ?_ | refine fun (_ : Nat) => ?_ | refine Ord.quiet rfl ?_ | refine Ord.loud rfl ?_ | refine Ord.nil ?_ | refine Run.seq ?_ | refine Run.text ?_ | refine Run.cond ?_ | refine Run.blk ?_ | refine Run.skip ?_ | refine Run.ret ?_ | refine Run.exit ?_ | refine Cont.seq ?_ | refine Cont.seq_ret ?_ | refine Cont.seq_exit ?_ | refine Cont.blk ?_ | refine Cont.blk_ret ?_ | refine Cont.blk_exit ?_ | refine Cont.lp_ret ?_ | refine Cont.lp_exit ?_ | refine Cont.nil ?_ | refine Cont.op rfl ?_ | refine OrdP.cons rfl ?_ | refine OrdP.nil ?_)
    exact ⟨_, [], FinOk.drop _ _, .inl ⟨hP, rfl, rfl⟩⟩
  rw [if_pos hP] at c1
  refine ACall.ret c1 ?_
  repeat (first | refine Ops.cons ?_ | refine Ops.nil ?_ | refine And.intro rfl ?_ | refine And.intro (Nat.le_of_ble_eq_true rfl) ?_ | refine And.intro (Int.natCast_nonneg _) ?_ | refine fun (_ : Nat) => ?_ | refine Ord.quiet rfl ?_ | refine Ord.loud rfl ?_ | refine Ord.nil ?_ | refine Run.seq ?_ | refine Run.text ?_ | refine Run.cond ?_ | refine Run.blk ?_ | refine Run.skip ?_ | refine Run.ret ?_ | refine Run.exit ?_ | refine Cont.seq ?_ | refine Cont.seq_ret ?_ | refine Cont.seq_exit ?_ | refine Cont.blk ?_ | refine Cont.blk_ret ?_ | refine Cont.blk_exit ?_ | refine Cont.lp_ret ?_ | refine Cont.lp_exit ?_ | refine Cont.nil ?_ | refine Cont.op rfl ?_ | refine OrdP.cons rfl ?_ | refine OrdP.nil ?_)
  refine ⟨fun h => absurd rfl h, fun _ => ?_⟩
  have hP0 := hP
  obtain ⟨⟨hst0, hst⟩, hpl, hkd, hn64, _, hnodes⟩ := hP
  have ht := headI_len (st := st) (kd := kd) (n := n) hpl
  have hps := place_size hpl
  have l1 := (numI_len st.toNat).2
  have l2 := txtI_len pl
  have l3 := (numI_len kd.toNat).2
  have l4 := (numI_len n).2
  repeat (first | refine Ops.cons ?_ | refine Ops.nil ?_ | refine And.intro rfl ?_ | refine And.intro (Nat.le_of_ble_eq_true rfl) ?_ | refine And.intro (Int.natCast_nonneg _) ?_ | refine fun (_ : Nat) => ?_ | refine Ord.quiet rfl ?_ | refine Ord.loud rfl ?_ | refine Ord.nil ?_ | refine Run.seq ?_ | refine Run.text ?_ | refine Run.cond ?_ | refine Run.blk ?_ | refine Run.skip ?_ | refine Run.ret ?_ | refine Run.exit ?_ | refine Cont.seq ?_ | refine Cont.seq_ret ?_ | refine Cont.seq_exit ?_ | refine Cont.blk ?_ | refine Cont.blk_ret ?_ | refine Cont.blk_exit ?_ | refine Cont.lp_ret ?_ | refine Cont.lp_exit ?_ | refine Cont.nil ?_ | refine Cont.op rfl ?_ | refine OrdP.cons rfl ?_ | refine OrdP.nil ?_)
  refine rstep1 (new := numI st.toNat) (fun b L h => ?_) (numI_ne _) (fun g1 C1 => ?_)
  · have := refNum_spec [] st.toNat (by omega) (by simp) h
    rw [Int.toNat_of_nonneg hst0] at this
    exact this
  repeat (first | refine Ops.cons ?_ | refine Ops.nil ?_ | refine And.intro rfl ?_ | refine And.intro (Nat.le_of_ble_eq_true rfl) ?_ | refine And.intro (Int.natCast_nonneg _) ?_ | refine fun (_ : Nat) => ?_ | refine Ord.quiet rfl ?_ | refine Ord.loud rfl ?_ | refine Ord.nil ?_ | refine Run.seq ?_ | refine Run.text ?_ | refine Run.cond ?_ | refine Run.blk ?_ | refine Run.skip ?_ | refine Run.ret ?_ | refine Run.exit ?_ | refine Cont.seq ?_ | refine Cont.seq_ret ?_ | refine Cont.seq_exit ?_ | refine Cont.blk ?_ | refine Cont.blk_ret ?_ | refine Cont.blk_exit ?_ | refine Cont.lp_ret ?_ | refine Cont.lp_exit ?_ | refine Cont.nil ?_ | refine Cont.op rfl ?_ | refine OrdP.cons rfl ?_ | refine OrdP.nil ?_)
  refine rstep (acc := numI st.toNat) (new := txtI pl) (T := []) (fun b L h => refTxt_spec _ pl (by omega) (by omega) h) (numI_ne _) (fun g2 C2 => ?_)
  repeat (first | refine Ops.cons ?_ | refine Ops.nil ?_ | refine And.intro rfl ?_ | refine And.intro (Nat.le_of_ble_eq_true rfl) ?_ | refine And.intro (Int.natCast_nonneg _) ?_ | refine fun (_ : Nat) => ?_ | refine Ord.quiet rfl ?_ | refine Ord.loud rfl ?_ | refine Ord.nil ?_ | refine Run.seq ?_ | refine Run.text ?_ | refine Run.cond ?_ | refine Run.blk ?_ | refine Run.skip ?_ | refine Run.ret ?_ | refine Run.exit ?_ | refine Cont.seq ?_ | refine Cont.seq_ret ?_ | refine Cont.seq_exit ?_ | refine Cont.blk ?_ | refine Cont.blk_ret ?_ | refine Cont.blk_exit ?_ | refine Cont.lp_ret ?_ | refine Cont.lp_exit ?_ | refine Cont.nil ?_ | refine Cont.op rfl ?_ | refine OrdP.cons rfl ?_ | refine OrdP.nil ?_)
  refine rstep (acc := numI st.toNat ++ txtI pl) (new := numI kd.toNat) (T := []) (fun b L h => ?_) (fun e => numI_ne _ (List.append_eq_nil_iff.1 e).1) (fun g3 C3 => ?_)
  · have := refNum_spec (numI st.toNat ++ txtI pl) kd.toNat (by omega) (by rw [List.length_append]; omega) h
    rw [Int.toNat_of_nonneg (by omega)] at this
    exact this
  repeat (first | refine Ops.cons ?_ | refine Ops.nil ?_ | refine And.intro rfl ?_ | refine And.intro (Nat.le_of_ble_eq_true rfl) ?_ | refine And.intro (Int.natCast_nonneg _) ?_ | refine fun (_ : Nat) => ?_ | refine Ord.quiet rfl ?_ | refine Ord.loud rfl ?_ | refine Ord.nil ?_ | refine Run.seq ?_ | refine Run.text ?_ | refine Run.cond ?_ | refine Run.blk ?_ | refine Run.skip ?_ | refine Run.ret ?_ | refine Run.exit ?_ | refine Cont.seq ?_ | refine Cont.seq_ret ?_ | refine Cont.seq_exit ?_ | refine Cont.blk ?_ | refine Cont.blk_ret ?_ | refine Cont.blk_exit ?_ | refine Cont.lp_ret ?_ | refine Cont.lp_exit ?_ | refine Cont.nil ?_ | refine Cont.op rfl ?_ | refine OrdP.cons rfl ?_ | refine OrdP.nil ?_)
  refine rstep (acc := numI st.toNat ++ txtI pl ++ numI kd.toNat) (new := numI n) (T := []) (fun b L h => refNum_spec _ n (by omega) (by rw [List.length_append, List.length_append]; omega) h) (fun e => numI_ne _ (List.append_eq_nil_iff.1 e).2) (fun g4 C4 => ?_)
  have nodes : ∀ (i : Nat) (x : Sn), i < n → xs[i]? = some x → parseE x.p = 0 ∧ x.d.size ≤ 64 := fun i x hi ex => ⟨(hnodes i x hi ex).1, (hnodes i x hi ex).2.2.1.1⟩
  have a0 : headI st pl kd n ++ nodesI (xs.take 0) = headI st pl kd n := by simp [nodesI]
  repeat (first | refine Ops.cons ?_ | refine Ops.nil ?_ | refine And.intro rfl ?_ | refine And.intro (Nat.le_of_ble_eq_true rfl) ?_ | refine And.intro (Int.natCast_nonneg _) ?_ | refine fun (_ : Nat) => ?_ | refine Ord.quiet rfl ?_ | refine Ord.loud rfl ?_ | refine Ord.nil ?_ | refine Run.seq ?_ | refine Run.text ?_ | refine Run.cond ?_ | refine Run.blk ?_ | refine Run.skip ?_ | refine Run.ret ?_ | refine Run.exit ?_ | refine Cont.seq ?_ | refine Cont.seq_ret ?_ | refine Cont.seq_exit ?_ | refine Cont.blk ?_ | refine Cont.blk_ret ?_ | refine Cont.blk_exit ?_ | refine Cont.lp_ret ?_ | refine Cont.lp_exit ?_ | refine Cont.nil ?_ | refine Cont.op rfl ?_ | refine OrdP.cons rfl ?_ | refine OrdP.nil ?_)
  refine Run.loop (fun k env L => ∃ (i g0 gb Cb : Nat), k = n - i ∧ i ≤ n ∧ env = [.junk, .ptr 0 g0 0, .junk, .junk, .sl 1 gb Cb (headI st pl kd n ++ nodesI (xs.take i)).length, .int .i64 i, .junk, .junk, .junk, .junk, .junk, .junk, .junk, .junk, .junk, .junk, .junk, .junk, .junk, .junk, .junk, .junk, .junk, .junk, .junk, .junk, .junk, .junk, .junk, .junk, .junk, .junk, .junk, .junk, .junk, .junk, .junk, .junk, .junk, .junk, .junk, .junk, .junk, .junk, .junk, .junk, .junk, .junk, .junk, .junk, .junk, .junk, .junk, .junk, .junk, .junk, .junk, .junk] ∧
      L = [(g0, .cells 24 [.int .i64 st, .str pl, .int .i64 kd, rdo xs n]), (gb, .row 5 1 Cb (u8s (headI st pl kd n ++ nodesI (xs.take i))))]) n
    [.junk, .ptr 0 _ 0, .junk, .junk, .sl 1 g4 C4 (headI st pl kd n).length, .int .i64 (0 : Nat), .junk, .junk, .junk, .junk, .junk, .junk, .junk, .junk, .junk, .junk, .junk, .junk, .junk, .junk, .junk, .junk, .junk, .junk, .junk, .junk, .junk, .junk, .junk, .junk, .junk, .junk, .junk, .junk, .junk, .junk, .junk, .junk, .junk, .junk, .junk, .junk, .junk, .junk, .junk, .junk, .junk, .junk, .junk, .junk, .junk, .junk, .junk, .junk, .junk, .junk, .junk, .junk] ?_ ⟨0, _, g4, C4, by omega, by omega, by rw [a0], by rw [a0]; rfl⟩ ?_
  · repeat (first | exact trivial | refine ⟨.inl rfl, ?_⟩ | refine ⟨.inr rfl, ?_⟩)
  rintro k env L ⟨i, g0, gb, Cb, rfl, hi, rfl, rfl⟩
  have hlen := nodesI_len hn nodes i hi
  have hne : ∀ l, headI st pl kd n ++ l ≠ [] := fun l e => headI_ne _ _ _ _ (List.append_eq_nil_iff.1 e).1
  repeat (first | refine Ops.cons ?_ | refine Ops.nil ?_ | refine And.intro rfl ?_ | refine And.intro (Nat.le_of_ble_eq_true rfl) ?_ | refine And.intro (Int.natCast_nonneg _) ?_ | refine fun (_ : Nat) => ?_ | refine Ord.quiet rfl ?_ | refine Ord.loud rfl ?_ | refine Ord.nil ?_ | refine Run.seq ?_ | refine Run.text ?_ | refine Run.cond ?_ | refine Run.blk ?_ | refine Run.skip ?_ | refine Run.ret ?_ | refine Run.exit ?_ | refine Cont.seq ?_ | refine Cont.seq_ret ?_ | refine Cont.seq_exit ?_ | refine Cont.blk ?_ | refine Cont.blk_ret ?_ | refine Cont.blk_exit ?_ | refine Cont.lp_ret ?_ | refine Cont.lp_exit ?_ | refine Cont.nil ?_ | refine Cont.op rfl ?_ | refine OrdP.cons rfl ?_ | refine OrdP.nil ?_)
  refine ⟨fun h => ?_, fun h => ?_⟩
  · have h : (i : Int) < (n : Int) := h
    obtain ⟨x, ex⟩ : ∃ x, xs[i]? = some x := ⟨xs[i], List.getElem?_eq_getElem (by omega)⟩
    obtain ⟨q1, q2⟩ := nodes i x (by omega) ex
    obtain ⟨_, _, ⟨_, q3, q4⟩, _⟩ := hnodes i x (by omega) ex
    have q5 := place_size q1
    have m1 := txtI_len x.p
    have m2 := txtI_len x.d
    repeat (first | refine Ops.cons ?_ | refine Ops.nil ?_ | refine And.intro rfl ?_ | refine And.intro (Nat.le_of_ble_eq_true rfl) ?_ | refine And.intro (Int.natCast_nonneg _) ?_ | refine fun (_ : Nat) => ?_ | refine Ord.quiet rfl ?_ | refine Ord.loud rfl ?_ | refine Ord.nil ?_ | refine Run.seq ?_ | refine Run.text ?_ | refine Run.cond ?_ | refine Run.blk ?_ | refine Run.skip ?_ | refine Run.ret ?_ | refine Run.exit ?_ | refine Cont.seq ?_ | refine Cont.seq_ret ?_ | refine Cont.seq_exit ?_ | refine Cont.blk ?_ | refine Cont.blk_ret ?_ | refine Cont.blk_exit ?_ | refine Cont.lp_ret ?_ | refine Cont.lp_exit ?_ | refine Cont.nil ?_ | refine Cont.op rfl ?_ | refine OrdP.cons rfl ?_ | refine OrdP.nil ?_)
    refine ⟨h, enc x, enc_at _ _ _ ex, ?_⟩
    repeat (first | refine Ops.cons ?_ | refine Ops.nil ?_ | refine And.intro rfl ?_ | refine And.intro (Nat.le_of_ble_eq_true rfl) ?_ | refine And.intro (Int.natCast_nonneg _) ?_ | refine fun (_ : Nat) => ?_ | refine Ord.quiet rfl ?_ | refine Ord.loud rfl ?_ | refine Ord.nil ?_ | refine Run.seq ?_ | refine Run.text ?_ | refine Run.cond ?_ | refine Run.blk ?_ | refine Run.skip ?_ | refine Run.ret ?_ | refine Run.exit ?_ | refine Cont.seq ?_ | refine Cont.seq_ret ?_ | refine Cont.seq_exit ?_ | refine Cont.blk ?_ | refine Cont.blk_ret ?_ | refine Cont.blk_exit ?_ | refine Cont.lp_ret ?_ | refine Cont.lp_exit ?_ | refine Cont.nil ?_ | refine Cont.op rfl ?_ | refine OrdP.cons rfl ?_ | refine OrdP.nil ?_)
    refine rstep (acc := headI st pl kd n ++ nodesI (xs.take i)) (new := txtI x.p) (T := []) (fun b L h => refTxt_spec _ x.p (by omega) (by rw [List.length_append]; omega) h) (hne _) (fun g1 C1 => ?_)
    repeat (first | refine Ops.cons ?_ | refine Ops.nil ?_ | refine And.intro rfl ?_ | refine And.intro (Nat.le_of_ble_eq_true rfl) ?_ | refine And.intro (Int.natCast_nonneg _) ?_ | refine fun (_ : Nat) => ?_ | refine Ord.quiet rfl ?_ | refine Ord.loud rfl ?_ | refine Ord.nil ?_ | refine Run.seq ?_ | refine Run.text ?_ | refine Run.cond ?_ | refine Run.blk ?_ | refine Run.skip ?_ | refine Run.ret ?_ | refine Run.exit ?_ | refine Cont.seq ?_ | refine Cont.seq_ret ?_ | refine Cont.seq_exit ?_ | refine Cont.blk ?_ | refine Cont.blk_ret ?_ | refine Cont.blk_exit ?_ | refine Cont.lp_ret ?_ | refine Cont.lp_exit ?_ | refine Cont.nil ?_ | refine Cont.op rfl ?_ | refine OrdP.cons rfl ?_ | refine OrdP.nil ?_)
    refine ⟨h, enc x, enc_at _ _ _ ex, ?_⟩
    repeat (first | refine Ops.cons ?_ | refine Ops.nil ?_ | refine And.intro rfl ?_ | refine And.intro (Nat.le_of_ble_eq_true rfl) ?_ | refine And.intro (Int.natCast_nonneg _) ?_ | refine fun (_ : Nat) => ?_ | refine Ord.quiet rfl ?_ | refine Ord.loud rfl ?_ | refine Ord.nil ?_ | refine Run.seq ?_ | refine Run.text ?_ | refine Run.cond ?_ | refine Run.blk ?_ | refine Run.skip ?_ | refine Run.ret ?_ | refine Run.exit ?_ | refine Cont.seq ?_ | refine Cont.seq_ret ?_ | refine Cont.seq_exit ?_ | refine Cont.blk ?_ | refine Cont.blk_ret ?_ | refine Cont.blk_exit ?_ | refine Cont.lp_ret ?_ | refine Cont.lp_exit ?_ | refine Cont.nil ?_ | refine Cont.op rfl ?_ | refine OrdP.cons rfl ?_ | refine OrdP.nil ?_)
    refine rstep (acc := headI st pl kd n ++ nodesI (xs.take i) ++ txtI x.p) (new := txtI x.d) (T := []) (fun b L h => refTxt_spec _ x.d (by omega) (by rw [List.length_append, List.length_append]; omega) h) (by rw [List.append_assoc]; exact hne _) (fun g1 C1 => ?_)
    repeat (first | refine Ops.cons ?_ | refine Ops.nil ?_ | refine And.intro rfl ?_ | refine And.intro (Nat.le_of_ble_eq_true rfl) ?_ | refine And.intro (Int.natCast_nonneg _) ?_ | refine fun (_ : Nat) => ?_ | refine Ord.quiet rfl ?_ | refine Ord.loud rfl ?_ | refine Ord.nil ?_ | refine Run.seq ?_ | refine Run.text ?_ | refine Run.cond ?_ | refine Run.blk ?_ | refine Run.skip ?_ | refine Run.ret ?_ | refine Run.exit ?_ | refine Cont.seq ?_ | refine Cont.seq_ret ?_ | refine Cont.seq_exit ?_ | refine Cont.blk ?_ | refine Cont.blk_ret ?_ | refine Cont.blk_exit ?_ | refine Cont.lp_ret ?_ | refine Cont.lp_exit ?_ | refine Cont.nil ?_ | refine Cont.op rfl ?_ | refine OrdP.cons rfl ?_ | refine OrdP.nil ?_)
    refine ⟨h, enc x, enc_at _ _ _ ex, ?_⟩
    repeat (first | refine Ops.cons ?_ | refine Ops.nil ?_ | refine And.intro rfl ?_ | refine And.intro (Nat.le_of_ble_eq_true rfl) ?_ | refine And.intro (Int.natCast_nonneg _) ?_ | refine fun (_ : Nat) => ?_ | refine Ord.quiet rfl ?_ | refine Ord.loud rfl ?_ | refine Ord.nil ?_ | refine Run.seq ?_ | refine Run.text ?_ | refine Run.cond ?_ | refine Run.blk ?_ | refine Run.skip ?_ | refine Run.ret ?_ | refine Run.exit ?_ | refine Cont.seq ?_ | refine Cont.seq_ret ?_ | refine Cont.seq_exit ?_ | refine Cont.blk ?_ | refine Cont.blk_ret ?_ | refine Cont.blk_exit ?_ | refine Cont.lp_ret ?_ | refine Cont.lp_exit ?_ | refine Cont.nil ?_ | refine Cont.op rfl ?_ | refine OrdP.cons rfl ?_ | refine OrdP.nil ?_)
    refine rstep (acc := headI st pl kd n ++ nodesI (xs.take i) ++ txtI x.p ++ txtI x.d) (new := numI x.v.toNat) (T := []) (fun b L h => ?_) (by rw [List.append_assoc, List.append_assoc]; exact hne _) (fun g3 C3 => ?_)
    · have := refNum_spec (headI st pl kd n ++ nodesI (xs.take i) ++ txtI x.p ++ txtI x.d) x.v.toNat (by omega) (by rw [List.length_append, List.length_append, List.length_append]; omega) h
      rw [Int.toNat_of_nonneg q3] at this
      exact this
    repeat (first | refine Ops.cons ?_ | refine Ops.nil ?_ | refine And.intro rfl ?_ | refine And.intro (Nat.le_of_ble_eq_true rfl) ?_ | refine And.intro (Int.natCast_nonneg _) ?_ | refine fun (_ : Nat) => ?_ | refine Ord.quiet rfl ?_ | refine Ord.loud rfl ?_ | refine Ord.nil ?_ | refine Run.seq ?_ | refine Run.text ?_ | refine Run.cond ?_ | refine Run.blk ?_ | refine Run.skip ?_ | refine Run.ret ?_ | refine Run.exit ?_ | refine Cont.seq ?_ | refine Cont.seq_ret ?_ | refine Cont.seq_exit ?_ | refine Cont.blk ?_ | refine Cont.blk_ret ?_ | refine Cont.blk_exit ?_ | refine Cont.lp_ret ?_ | refine Cont.lp_exit ?_ | refine Cont.nil ?_ | refine Cont.op rfl ?_ | refine OrdP.cons rfl ?_ | refine OrdP.nil ?_)
    refine fun r hr => ?_
    obtain rfl := add1 hr (by omega)
    repeat (first | refine Ops.cons ?_ | refine Ops.nil ?_ | refine And.intro rfl ?_ | refine And.intro (Nat.le_of_ble_eq_true rfl) ?_ | refine And.intro (Int.natCast_nonneg _) ?_ | refine fun (_ : Nat) => ?_ | refine Ord.quiet rfl ?_ | refine Ord.loud rfl ?_ | refine Ord.nil ?_ | refine Run.seq ?_ | refine Run.text ?_ | refine Run.cond ?_ | refine Run.blk ?_ | refine Run.skip ?_ | refine Run.ret ?_ | refine Run.exit ?_ | refine Cont.seq ?_ | refine Cont.seq_ret ?_ | refine Cont.seq_exit ?_ | refine Cont.blk ?_ | refine Cont.blk_ret ?_ | refine Cont.blk_exit ?_ | refine Cont.lp_ret ?_ | refine Cont.lp_exit ?_ | refine Cont.nil ?_ | refine Cont.op rfl ?_ | refine OrdP.cons rfl ?_ | refine OrdP.nil ?_)
    refine Cont.lp ?_
    have ea : headI st pl kd n ++ nodesI (xs.take (i + 1)) = headI st pl kd n ++ nodesI (xs.take i) ++ txtI x.p ++ txtI x.d ++ numI x.v.toNat := by
      rw [nodesI_take ex]; unfold nodeI; simp only [List.append_assoc]
    refine ⟨n - (i + 1), [.junk, .ptr 0 g0 0, .junk, .junk, .sl 1 g3 C3 (headI st pl kd n ++ nodesI (xs.take i) ++ txtI x.p ++ txtI x.d ++ numI x.v.toNat).length, .int .i64 (i + 1 : Nat), .junk, .junk, .junk, .junk, .junk, .junk, .junk, .junk, .junk, .junk, .junk, .junk, .junk, .junk, .junk, .junk, .junk, .junk, .junk, .junk, .junk, .junk, .junk, .junk, .junk, .junk, .junk, .junk, .junk, .junk, .junk, .junk, .junk, .junk, .junk, .junk, .junk, .junk, .junk, .junk, .junk, .junk, .junk, .junk, .junk, .junk, .junk, .junk, .junk, .junk, .junk, .junk], 2, by omega, ?_, ⟨i + 1, g0, g3, C3, rfl, by omega, by rw [ea], by rw [ea]; rfl⟩⟩
    repeat (first | exact trivial | refine ⟨.inl rfl, ?_⟩ | refine ⟨.inr rfl, ?_⟩)
  · have h : ¬ (i : Int) < (n : Int) := h
    obtain rfl : i = n := by omega
    repeat (first | refine Ops.cons ?_ | refine Ops.nil ?_ | refine And.intro rfl ?_ | refine And.intro (Nat.le_of_ble_eq_true rfl) ?_ | refine And.intro (Int.natCast_nonneg _) ?_ | refine fun (_ : Nat) => ?_ | refine Ord.quiet rfl ?_ | refine Ord.loud rfl ?_ | refine Ord.nil ?_ | refine Run.seq ?_ | refine Run.text ?_ | refine Run.cond ?_ | refine Run.blk ?_ | refine Run.skip ?_ | refine Run.ret ?_ | refine Run.exit ?_ | refine Cont.seq ?_ | refine Cont.seq_ret ?_ | refine Cont.seq_exit ?_ | refine Cont.blk ?_ | refine Cont.blk_ret ?_ | refine Cont.blk_exit ?_ | refine Cont.lp_ret ?_ | refine Cont.lp_exit ?_ | refine Cont.nil ?_ | refine Cont.op rfl ?_ | refine OrdP.cons rfl ?_ | refine OrdP.nil ?_)
    exact ⟨.tuple [.sl 0 gb Cb (encI st pl kd xs i).length, .int .i64 0], _, FinOk.keep _ [1] (Sub.tuples ⟨Sub.sl _ _ _ _ _, Sub.refl _, trivial⟩) (by decide) rfl, .inr ⟨hP0, gb, Cb, rfl, rfl⟩⟩
end Go.Proofs.YtfohedaadncefaaDoor.HBT
