/- The contract of the shot's text 'Encode'. -/
import Derived.Test.YtfohedaadncefaaDoorHbE3
import Derived.Test.YtfohedaadncefaaDoorHbD9
namespace Go.Proofs.YtfohedaadncefaaDoor.HBT
open Go Go.Proofs.YtfohedaadncefaaDoor.HB Go.RowKit
set_option maxRecDepth 8000

theorem SubO.refl (o : AObj) : SubO o o := by
  cases o with
  | dead => trivial
  | cells t cs => exact SubO.cells (Subs.refl cs)
  | row e sz Cp xs => exact SubO.rowR e sz Cp xs
theorem SubL.refl : ∀ L : AHeap, SubL L L
  | [] => trivial
  | (_, o) :: L => ⟨rfl, SubO.refl o, SubL.refl L⟩
theorem merge_tail (a b : Nat × AObj) : ∀ (T : AHeap) (j : Nat), mergeA [1, 2] [a, b] (j + 3) T = T
  | [], j => rfl
  | x :: T, j => by
    simp only [mergeA]
    rw [show j + 3 + 1 = (j + 1) + 3 by omega, merge_tail a b T (j + 1)]
    have : idxN [1, 2] (j + 3) 0 = none := by
      simp only [idxN]
      rw [if_neg (by simp), if_neg (by simp)]
    rw [this]

theorem wstep1 {f : FuncId} {x : AV} {new : List Int} {gw : Nat} {s0 : Nat × AObj} {K : AV → AHeap → Prop} (spec : ∀ L, WH [] gw L → FnSpec C f [.ptr 0 gw 0, x] L (fun r L' => r = .tuple [] ∧ WH ([] ++ new) gw L')) (hne : new ≠ [])
    (k : ∀ g Cp, K (.tuple []) [s0, (gw, .cells 61 [.sl 2 g Cp new.length]), (g, .row 5 1 Cp (u8s new))]) : ACall C f [.ptr 1 gw 0, x] [s0, (gw, .cells 61 [.nils])] K :=
  .selS [1] (by decide) [.ptr 0 gw 0, x] [(gw, .cells 61 [.nils])] _ (.two (Sub.ptr _ _ _ _) (Sub.refl _)) ⟨rfl, SubO.cells ⟨Sub.refl _, trivial⟩, trivial⟩ (spec _ (.inl ⟨rfl, rfl⟩)) (by
    rintro r L' ⟨rfl, h⟩
    rcases h with ⟨h, _⟩ | ⟨_, g, Cp, rfl⟩
    · exact absurd h hne
    · exact ⟨.tuple [], [s0, (gw, .cells 61 [.sl 2 g Cp new.length]), (g, .row 5 1 Cp (u8s new))], Sub.refl _, ⟨rfl, SubO.refl _, rfl, SubO.cells ⟨Sub.sl _ _ _ _ _, trivial⟩, rfl, SubO.rowR _ _ _ _, trivial⟩, k g Cp⟩)
theorem wstep {f : FuncId} {x : AV} {acc new : List Int} {gw gb Cb : Nat} {s0 : Nat × AObj} {T : AHeap} {K : AV → AHeap → Prop} (spec : ∀ L, WH acc gw L → FnSpec C f [.ptr 0 gw 0, x] L (fun r L' => r = .tuple [] ∧ WH (acc ++ new) gw L')) (hacc : acc ≠ [])
    (k : ∀ g Cp, K (.tuple []) (s0 :: (gw, .cells 61 [.sl 2 g Cp (acc ++ new).length]) :: (g, .row 5 1 Cp (u8s (acc ++ new))) :: T)) :
    ACall C f [.ptr 1 gw 0, x] (s0 :: (gw, .cells 61 [.sl 2 gb Cb acc.length]) :: (gb, .row 5 1 Cb (u8s acc)) :: T) K :=
  .selS [1, 2] (by decide) [.ptr 0 gw 0, x] [(gw, .cells 61 [.sl 1 gb Cb acc.length]), (gb, .row 5 1 Cb (u8s acc))] _ (.two (Sub.ptr _ _ _ _) (Sub.refl _)) ⟨rfl, SubO.cells ⟨Sub.sl _ _ _ _ _, trivial⟩, rfl, SubO.rowR _ _ _ _, trivial⟩ (spec _ (.inr ⟨hacc, gb, Cb, rfl⟩)) (by
    rintro r L' ⟨rfl, h⟩
    rcases h with ⟨h, _⟩ | ⟨_, g, Cp, rfl⟩
    · exact absurd (List.append_eq_nil_iff.1 h).1 hacc
    · refine ⟨.tuple [], s0 :: (gw, .cells 61 [.sl 2 g Cp (acc ++ new).length]) :: (g, .row 5 1 Cp (u8s (acc ++ new))) :: T, Sub.refl _, ?_, k g Cp⟩
      show SubL (s0 :: (gw, .cells 61 [.sl 1 g Cp (acc ++ new).length]) :: (g, .row 5 1 Cp (u8s (acc ++ new))) :: mergeA [1, 2] _ (0 + 3) T) _
      rw [merge_tail]
      exact ⟨rfl, SubO.refl _, rfl, SubO.cells ⟨Sub.sl _ _ _ _ _, trivial⟩, rfl, SubO.rowR _ _ _ _, SubL.refl T⟩)

/-- A node's bytes; a shot's. -/
def nodeI (x : Sn) : List Int := txtI x.p ++ txtI x.d ++ numI x.v.toNat
def headI (st : Int) (pl : ByteArray) (kd : Int) (n : Nat) : List Int := numI st.toNat ++ txtI pl ++ numI kd.toNat ++ numI n
def nodesI (xs : List Sn) : List Int := (xs.map nodeI).flatten
def encI (st : Int) (pl : ByteArray) (kd : Int) (xs : List Sn) (n : Nat) : List Int := headI st pl kd n ++ nodesI (xs.take n)
theorem place_size {s : ByteArray} (h : parseE s = 0) : s.size ≤ 103 := by
  obtain ⟨hok, hs⟩ := place_names h
  have h1 := join_names hok.1 hok.2 (namesOf s).length
  rw [List.take_length] at h1
  have h2 : s.size = (placedB (namesOf s)).data.toList.length := by rw [← hs, Array.length_toList]; rfl
  rw [placed_data, List.length_cons] at h2
  omega
theorem txtI_len (s : ByteArray) : (txtI s).length ≤ s.size + 5 := by unfold txtI; rw [List.length_append, bytesI_len]; have := (numI_len s.size).2; omega
theorem headI_len {st : Int} {pl : ByteArray} {kd : Int} {n : Nat} (hp : parseE pl = 0) : (headI st pl kd n).length ≤ 200 := by
  unfold headI
  have h1 := (numI_len st.toNat).2
  have h2 := txtI_len pl
  have h3 := (numI_len kd.toNat).2
  have h4 := (numI_len n).2
  have h5 := place_size hp
  simp only [List.length_append]
  omega
theorem nodeI_len {x : Sn} (hp : parseE x.p = 0) (hd : x.d.size ≤ 64) : (nodeI x).length ≤ 200 := by
  unfold nodeI
  have h1 := (numI_len x.v.toNat).2
  have h2 := txtI_len x.p
  have h3 := txtI_len x.d
  have h5 := place_size hp
  simp only [List.length_append]
  omega
theorem nodesI_take {xs : List Sn} {i : Nat} {x : Sn} (ex : xs[i]? = some x) : nodesI (xs.take (i + 1)) = nodesI (xs.take i) ++ nodeI x := by
  unfold nodesI
  rw [List.take_add_one, ex]
  simp
theorem nodesI_len {xs : List Sn} {n : Nat} (hn : n ≤ xs.length) (h : ∀ (i : Nat) (x : Sn), i < n → xs[i]? = some x → parseE x.p = 0 ∧ x.d.size ≤ 64) : ∀ i, i ≤ n → (nodesI (xs.take i)).length ≤ 200 * i
  | 0, _ => by simp [nodesI]
  | i + 1, hi => by
    have ex : xs[i]? = some (xs[i]'(by omega)) := List.getElem?_eq_getElem (by omega)
    rw [nodesI_take ex, List.length_append]
    have := nodesI_len hn h i (by omega)
    have := nodeI_len (h i _ (by omega) ex).1 (h i _ (by omega) ex).2
    omega
theorem headI_ne (st : Int) (pl : ByteArray) (kd : Int) (n : Nat) : headI st pl kd n ≠ [] := fun e => by
  unfold headI at e
  exact numI_ne n (List.append_eq_nil_iff.1 e).2

set_option maxHeartbeats 2000000 in
theorem encode_spec (st : Int) (pl : ByteArray) (kd : Int) (xs : List Sn) (n : Nat) (hn : n ≤ xs.length) (hps : ∀ x ∈ xs, x.p.size ≤ 9223372036854775807) :
    FnSpec C 14 [shot st pl kd (rdo xs n)] [] (fun r L' => (¬ checkP st pl kd xs n ∧ r = .tuple [.nils, .int .i64 51] ∧ L' = []) ∨
      (checkP st pl kd xs n ∧ ∃ g Cp, r = .tuple [.sl 0 g Cp (encI st pl kd xs n).length, .int .i64 0] ∧ L' = [(g, .row 5 1 Cp (u8s (encI st pl kd xs n)))])) := by
  refine FnSpec.start C_ok Tryd.func14 rfl rfl Tryd.ntmps14 ?_
  repeat (first | refine Ops.cons ?_ | refine Ops.nil ?_ | refine And.intro rfl ?_ | refine And.intro (Nat.le_of_ble_eq_true rfl) ?_ | refine And.intro (Int.natCast_nonneg _) ?_ | refine fun (_ : Nat) => ?_ | refine Ord.quiet rfl ?_ | refine Ord.loud rfl ?_ | refine Ord.nil ?_ | refine Run.seq ?_ | refine Run.text ?_ | refine Run.cond ?_ | refine Run.blk ?_ | refine Run.skip ?_ | refine Run.ret ?_ | refine Run.exit ?_ | refine Cont.seq ?_ | refine Cont.seq_ret ?_ | refine Cont.seq_exit ?_ | refine Cont.blk ?_ | refine Cont.blk_ret ?_ | refine Cont.blk_exit ?_ | refine Cont.lp_ret ?_ | refine Cont.lp_exit ?_ | refine Cont.nil ?_ | refine Cont.op rfl ?_ | refine OrdP.cons rfl ?_ | refine OrdP.nil ?_)
  have c1 := check_spec st pl kd xs n hn hps
  by_cases hP : checkP st pl kd xs n
  case neg =>
    rw [show checkE st pl kd xs n = 51 from if_neg hP] at c1
    refine ACall.ret c1 ?_
    repeat (first | refine Ops.cons ?_ | refine Ops.nil ?_ | refine And.intro rfl ?_ | refine And.intro (Nat.le_of_ble_eq_true rfl) ?_ | refine And.intro (Int.natCast_nonneg _) ?_ | refine fun (_ : Nat) => ?_ | refine Ord.quiet rfl ?_ | refine Ord.loud rfl ?_ | refine Ord.nil ?_ | refine Run.seq ?_ | refine Run.text ?_ | refine Run.cond ?_ | refine Run.blk ?_ | refine Run.skip ?_ | refine Run.ret ?_ | refine Run.exit ?_ | refine Cont.seq ?_ | refine Cont.seq_ret ?_ | refine Cont.seq_exit ?_ | refine Cont.blk ?_ | refine Cont.blk_ret ?_ | refine Cont.blk_exit ?_ | refine Cont.lp_ret ?_ | refine Cont.lp_exit ?_ | refine Cont.nil ?_ | refine Cont.op rfl ?_ | refine OrdP.cons rfl ?_ | refine OrdP.nil ?_)
    refine ⟨fun _ => ?_, fun h => absurd (by decide) h⟩
    repeat (first | refine Ops.cons ?_ | refine Ops.nil ?_ | refine And.intro rfl ?_ | refine And.intro (Nat.le_of_ble_eq_true rfl) ?_ | refine And.intro (Int.natCast_nonneg _) ?_ | refine fun (_ : Nat) => ?_ | refine Ord.quiet rfl ?_ | refine Ord.loud rfl ?_ | refine Ord.nil ?_ | refine Run.seq ?_ | refine Run.text ?_ | refine Run.cond ?_ | refine Run.blk ?_ | refine Run.skip ?_ | refine Run.ret ?_ | refine Run.exit ?_ | refine Cont.seq ?_ | refine Cont.seq_ret ?_ | refine Cont.seq_exit ?_ | refine Cont.blk ?_ | refine Cont.blk_ret ?_ | refine Cont.blk_exit ?_ | refine Cont.lp_ret ?_ | refine Cont.lp_exit ?_ | refine Cont.nil ?_ | refine Cont.op rfl ?_ | refine OrdP.cons rfl ?_ | refine OrdP.nil ?_)
    exact ⟨_, [], FinOk.drop _ _, .inl ⟨hP, rfl, rfl⟩⟩
  rw [show checkE st pl kd xs n = 0 from if_pos hP] at c1
  refine ACall.ret c1 ?_
  repeat (first | refine Ops.cons ?_ | refine Ops.nil ?_ | refine And.intro rfl ?_ | refine And.intro (Nat.le_of_ble_eq_true rfl) ?_ | refine And.intro (Int.natCast_nonneg _) ?_ | refine fun (_ : Nat) => ?_ | refine Ord.quiet rfl ?_ | refine Ord.loud rfl ?_ | refine Ord.nil ?_ | refine Run.seq ?_ | refine Run.text ?_ | refine Run.cond ?_ | refine Run.blk ?_ | refine Run.skip ?_ | refine Run.ret ?_ | refine Run.exit ?_ | refine Cont.seq ?_ | refine Cont.seq_ret ?_ | refine Cont.seq_exit ?_ | refine Cont.blk ?_ | refine Cont.blk_ret ?_ | refine Cont.blk_exit ?_ | refine Cont.lp_ret ?_ | refine Cont.lp_exit ?_ | refine Cont.nil ?_ | refine Cont.op rfl ?_ | refine OrdP.cons rfl ?_ | refine OrdP.nil ?_)
  refine ⟨fun h => absurd rfl h, fun _ => ?_⟩
  obtain ⟨⟨hst0, hst⟩, hpl, hkd, hn64, _, hnodes⟩ := hP
  have ht := headI_len (st := st) (kd := kd) (n := n) hpl
  have hps := place_size hpl
  repeat (first | refine Ops.cons ?_ | refine Ops.nil ?_ | refine And.intro rfl ?_ | refine And.intro (Nat.le_of_ble_eq_true rfl) ?_ | refine And.intro (Int.natCast_nonneg _) ?_ | refine fun (_ : Nat) => ?_ | refine Ord.quiet rfl ?_ | refine Ord.loud rfl ?_ | refine Ord.nil ?_ | refine Run.seq ?_ | refine Run.text ?_ | refine Run.cond ?_ | refine Run.blk ?_ | refine Run.skip ?_ | refine Run.ret ?_ | refine Run.exit ?_ | refine Cont.seq ?_ | refine Cont.seq_ret ?_ | refine Cont.seq_exit ?_ | refine Cont.blk ?_ | refine Cont.blk_ret ?_ | refine Cont.blk_exit ?_ | refine Cont.lp_ret ?_ | refine Cont.lp_exit ?_ | refine Cont.nil ?_ | refine Cont.op rfl ?_ | refine OrdP.cons rfl ?_ | refine OrdP.nil ?_)
  refine wstep1 (new := numI st.toNat) (fun L h => ?_) (numI_ne _) (fun g1 C1 => ?_)
  · have := wNum_spec [] st.toNat (by omega) (by simp) h
    rw [Int.toNat_of_nonneg hst0] at this
    exact this
  have l1 := (numI_len st.toNat).2
  have l2 := txtI_len pl
  have l3 := (numI_len kd.toNat).2
  have l4 := (numI_len n).2
  repeat (first | refine Ops.cons ?_ | refine Ops.nil ?_ | refine And.intro rfl ?_ | refine And.intro (Nat.le_of_ble_eq_true rfl) ?_ | refine And.intro (Int.natCast_nonneg _) ?_ | refine fun (_ : Nat) => ?_ | refine Ord.quiet rfl ?_ | refine Ord.loud rfl ?_ | refine Ord.nil ?_ | refine Run.seq ?_ | refine Run.text ?_ | refine Run.cond ?_ | refine Run.blk ?_ | refine Run.skip ?_ | refine Run.ret ?_ | refine Run.exit ?_ | refine Cont.seq ?_ | refine Cont.seq_ret ?_ | refine Cont.seq_exit ?_ | refine Cont.blk ?_ | refine Cont.blk_ret ?_ | refine Cont.blk_exit ?_ | refine Cont.lp_ret ?_ | refine Cont.lp_exit ?_ | refine Cont.nil ?_ | refine Cont.op rfl ?_ | refine OrdP.cons rfl ?_ | refine OrdP.nil ?_)
  refine wstep (acc := numI st.toNat) (new := txtI pl) (T := []) (fun L h => wTxt_spec _ pl (by omega) (by omega) h) (numI_ne _) (fun g2 C2 => ?_)
  repeat (first | refine Ops.cons ?_ | refine Ops.nil ?_ | refine And.intro rfl ?_ | refine And.intro (Nat.le_of_ble_eq_true rfl) ?_ | refine And.intro (Int.natCast_nonneg _) ?_ | refine fun (_ : Nat) => ?_ | refine Ord.quiet rfl ?_ | refine Ord.loud rfl ?_ | refine Ord.nil ?_ | refine Run.seq ?_ | refine Run.text ?_ | refine Run.cond ?_ | refine Run.blk ?_ | refine Run.skip ?_ | refine Run.ret ?_ | refine Run.exit ?_ | refine Cont.seq ?_ | refine Cont.seq_ret ?_ | refine Cont.seq_exit ?_ | refine Cont.blk ?_ | refine Cont.blk_ret ?_ | refine Cont.blk_exit ?_ | refine Cont.lp_ret ?_ | refine Cont.lp_exit ?_ | refine Cont.nil ?_ | refine Cont.op rfl ?_ | refine OrdP.cons rfl ?_ | refine OrdP.nil ?_)
  refine wstep (acc := numI st.toNat ++ txtI pl) (new := numI kd.toNat) (T := []) (fun L h => ?_) (fun e => numI_ne _ (List.append_eq_nil_iff.1 e).1) (fun g3 C3 => ?_)
  · have := wNum_spec (numI st.toNat ++ txtI pl) kd.toNat (by omega) (by rw [List.length_append]; omega) h
    rw [Int.toNat_of_nonneg (by omega)] at this
    exact this
  repeat (first | refine Ops.cons ?_ | refine Ops.nil ?_ | refine And.intro rfl ?_ | refine And.intro (Nat.le_of_ble_eq_true rfl) ?_ | refine And.intro (Int.natCast_nonneg _) ?_ | refine fun (_ : Nat) => ?_ | refine Ord.quiet rfl ?_ | refine Ord.loud rfl ?_ | refine Ord.nil ?_ | refine Run.seq ?_ | refine Run.text ?_ | refine Run.cond ?_ | refine Run.blk ?_ | refine Run.skip ?_ | refine Run.ret ?_ | refine Run.exit ?_ | refine Cont.seq ?_ | refine Cont.seq_ret ?_ | refine Cont.seq_exit ?_ | refine Cont.blk ?_ | refine Cont.blk_ret ?_ | refine Cont.blk_exit ?_ | refine Cont.lp_ret ?_ | refine Cont.lp_exit ?_ | refine Cont.nil ?_ | refine Cont.op rfl ?_ | refine OrdP.cons rfl ?_ | refine OrdP.nil ?_)
  refine wstep (acc := numI st.toNat ++ txtI pl ++ numI kd.toNat) (new := numI n) (T := []) (fun L h => wNum_spec _ n (by omega) (by rw [List.length_append, List.length_append]; omega) h) (fun e => numI_ne _ (List.append_eq_nil_iff.1 e).2) (fun g4 C4 => ?_)
  have nodes : ∀ (i : Nat) (x : Sn), i < n → xs[i]? = some x → parseE x.p = 0 ∧ x.d.size ≤ 64 := fun i x hi ex => ⟨(hnodes i x hi ex).1, (hnodes i x hi ex).2.1.1⟩
  have a0 : headI st pl kd n ++ nodesI (xs.take 0) = headI st pl kd n := by simp [nodesI]
  repeat (first | refine Ops.cons ?_ | refine Ops.nil ?_ | refine And.intro rfl ?_ | refine And.intro (Nat.le_of_ble_eq_true rfl) ?_ | refine And.intro (Int.natCast_nonneg _) ?_ | refine fun (_ : Nat) => ?_ | refine Ord.quiet rfl ?_ | refine Ord.loud rfl ?_ | refine Ord.nil ?_ | refine Run.seq ?_ | refine Run.text ?_ | refine Run.cond ?_ | refine Run.blk ?_ | refine Run.skip ?_ | refine Run.ret ?_ | refine Run.exit ?_ | refine Cont.seq ?_ | refine Cont.seq_ret ?_ | refine Cont.seq_exit ?_ | refine Cont.blk ?_ | refine Cont.blk_ret ?_ | refine Cont.blk_exit ?_ | refine Cont.lp_ret ?_ | refine Cont.lp_exit ?_ | refine Cont.nil ?_ | refine Cont.op rfl ?_ | refine OrdP.cons rfl ?_ | refine OrdP.nil ?_)
  refine Run.loop (fun k env L => ∃ (i g0 gw gb Cb : Nat), k = n - i ∧ i ≤ n ∧ env = [.junk, .ptr 0 g0 0, .junk, .junk, .junk, .ptr 1 gw 0, .junk, .junk, .junk, .junk, .junk, .junk, .junk, .junk, .junk, .junk, .junk, .junk, .junk, .junk, .junk, .junk, .junk, .junk, .junk, .junk, .junk, .junk, .junk, .junk, .junk, .junk, .junk, rdo xs n, .int .i64 n, .int .i64 i, .junk, .junk, .junk, .junk, .junk, .junk, .junk, .junk, .junk, .junk, .junk, .junk, .junk, .junk, .junk, .junk, .junk, .junk, .junk, .junk] ∧
      L = [(g0, .cells 24 [.int .i64 st, .str pl, .int .i64 kd, rdo xs n]), (gw, .cells 61 [.sl 2 gb Cb (headI st pl kd n ++ nodesI (xs.take i)).length]), (gb, .row 5 1 Cb (u8s (headI st pl kd n ++ nodesI (xs.take i))))]) n
    [.junk, .ptr 0 _ 0, .junk, .junk, .junk, .ptr 1 _ 0, .junk, .junk, .junk, .junk, .junk, .junk, .junk, .junk, .junk, .junk, .junk, .junk, .junk, .junk, .junk, .junk, .junk, .junk, .junk, .junk, .junk, .junk, .junk, .junk, .junk, .junk, .junk, rdo xs n, .int .i64 n, .int .i64 (0 : Nat), .junk, .junk, .junk, .junk, .junk, .junk, .junk, .junk, .junk, .junk, .junk, .junk, .junk, .junk, .junk, .junk, .junk, .junk, .junk, .junk] ?_ ⟨0, _, _, g4, C4, by omega, by omega, rfl, by rw [a0]; rfl⟩ ?_
  · repeat (first | exact trivial | refine ⟨.inl rfl, ?_⟩ | refine ⟨.inr rfl, ?_⟩)
  rintro k env L ⟨i, g0, gw, gb, Cb, rfl, hi, rfl, rfl⟩
  have hlen := nodesI_len hn nodes i hi
  have hne : ∀ l, headI st pl kd n ++ l ≠ [] := fun l e => headI_ne _ _ _ _ (List.append_eq_nil_iff.1 e).1
  repeat (first | refine Ops.cons ?_ | refine Ops.nil ?_ | refine And.intro rfl ?_ | refine And.intro (Nat.le_of_ble_eq_true rfl) ?_ | refine And.intro (Int.natCast_nonneg _) ?_ | refine fun (_ : Nat) => ?_ | refine Ord.quiet rfl ?_ | refine Ord.loud rfl ?_ | refine Ord.nil ?_ | refine Run.seq ?_ | refine Run.text ?_ | refine Run.cond ?_ | refine Run.blk ?_ | refine Run.skip ?_ | refine Run.ret ?_ | refine Run.exit ?_ | refine Cont.seq ?_ | refine Cont.seq_ret ?_ | refine Cont.seq_exit ?_ | refine Cont.blk ?_ | refine Cont.blk_ret ?_ | refine Cont.blk_exit ?_ | refine Cont.lp_ret ?_ | refine Cont.lp_exit ?_ | refine Cont.nil ?_ | refine Cont.op rfl ?_ | refine OrdP.cons rfl ?_ | refine OrdP.nil ?_)
  refine ⟨fun h => ?_, fun h => ?_⟩
  · have h : (i : Int) < (n : Int) := h
    obtain ⟨x, ex⟩ : ∃ x, xs[i]? = some x := ⟨xs[i], List.getElem?_eq_getElem (by omega)⟩
    obtain ⟨q1, q2⟩ := nodes i x (by omega) ex
    obtain ⟨_, ⟨_, q3, q4⟩, _⟩ := hnodes i x (by omega) ex
    have q5 := place_size q1
    have m1 := txtI_len x.p
    have m2 := txtI_len x.d
    repeat (first | refine Ops.cons ?_ | refine Ops.nil ?_ | refine And.intro rfl ?_ | refine And.intro (Nat.le_of_ble_eq_true rfl) ?_ | refine And.intro (Int.natCast_nonneg _) ?_ | refine fun (_ : Nat) => ?_ | refine Ord.quiet rfl ?_ | refine Ord.loud rfl ?_ | refine Ord.nil ?_ | refine Run.seq ?_ | refine Run.text ?_ | refine Run.cond ?_ | refine Run.blk ?_ | refine Run.skip ?_ | refine Run.ret ?_ | refine Run.exit ?_ | refine Cont.seq ?_ | refine Cont.seq_ret ?_ | refine Cont.seq_exit ?_ | refine Cont.blk ?_ | refine Cont.blk_ret ?_ | refine Cont.blk_exit ?_ | refine Cont.lp_ret ?_ | refine Cont.lp_exit ?_ | refine Cont.nil ?_ | refine Cont.op rfl ?_ | refine OrdP.cons rfl ?_ | refine OrdP.nil ?_)
    refine ⟨h, enc x, enc_at _ _ _ ex, ?_⟩
    repeat (first | refine Ops.cons ?_ | refine Ops.nil ?_ | refine And.intro rfl ?_ | refine And.intro (Nat.le_of_ble_eq_true rfl) ?_ | refine And.intro (Int.natCast_nonneg _) ?_ | refine fun (_ : Nat) => ?_ | refine Ord.quiet rfl ?_ | refine Ord.loud rfl ?_ | refine Ord.nil ?_ | refine Run.seq ?_ | refine Run.text ?_ | refine Run.cond ?_ | refine Run.blk ?_ | refine Run.skip ?_ | refine Run.ret ?_ | refine Run.exit ?_ | refine Cont.seq ?_ | refine Cont.seq_ret ?_ | refine Cont.seq_exit ?_ | refine Cont.blk ?_ | refine Cont.blk_ret ?_ | refine Cont.blk_exit ?_ | refine Cont.lp_ret ?_ | refine Cont.lp_exit ?_ | refine Cont.nil ?_ | refine Cont.op rfl ?_ | refine OrdP.cons rfl ?_ | refine OrdP.nil ?_)
    refine wstep (acc := headI st pl kd n ++ nodesI (xs.take i)) (new := txtI x.p) (T := [_]) (fun L h => wTxt_spec _ x.p (by omega) (by rw [List.length_append]; omega) h) (hne _) (fun g1 C1 => ?_)
    repeat (first | refine Ops.cons ?_ | refine Ops.nil ?_ | refine And.intro rfl ?_ | refine And.intro (Nat.le_of_ble_eq_true rfl) ?_ | refine And.intro (Int.natCast_nonneg _) ?_ | refine fun (_ : Nat) => ?_ | refine Ord.quiet rfl ?_ | refine Ord.loud rfl ?_ | refine Ord.nil ?_ | refine Run.seq ?_ | refine Run.text ?_ | refine Run.cond ?_ | refine Run.blk ?_ | refine Run.skip ?_ | refine Run.ret ?_ | refine Run.exit ?_ | refine Cont.seq ?_ | refine Cont.seq_ret ?_ | refine Cont.seq_exit ?_ | refine Cont.blk ?_ | refine Cont.blk_ret ?_ | refine Cont.blk_exit ?_ | refine Cont.lp_ret ?_ | refine Cont.lp_exit ?_ | refine Cont.nil ?_ | refine Cont.op rfl ?_ | refine OrdP.cons rfl ?_ | refine OrdP.nil ?_)
    refine wstep (acc := headI st pl kd n ++ nodesI (xs.take i) ++ txtI x.p) (new := txtI x.d) (T := [_]) (fun L h => wTxt_spec _ x.d (by omega) (by rw [List.length_append, List.length_append]; omega) h) (by rw [List.append_assoc]; exact hne _) (fun g1 C1 => ?_)
    repeat (first | refine Ops.cons ?_ | refine Ops.nil ?_ | refine And.intro rfl ?_ | refine And.intro (Nat.le_of_ble_eq_true rfl) ?_ | refine And.intro (Int.natCast_nonneg _) ?_ | refine fun (_ : Nat) => ?_ | refine Ord.quiet rfl ?_ | refine Ord.loud rfl ?_ | refine Ord.nil ?_ | refine Run.seq ?_ | refine Run.text ?_ | refine Run.cond ?_ | refine Run.blk ?_ | refine Run.skip ?_ | refine Run.ret ?_ | refine Run.exit ?_ | refine Cont.seq ?_ | refine Cont.seq_ret ?_ | refine Cont.seq_exit ?_ | refine Cont.blk ?_ | refine Cont.blk_ret ?_ | refine Cont.blk_exit ?_ | refine Cont.lp_ret ?_ | refine Cont.lp_exit ?_ | refine Cont.nil ?_ | refine Cont.op rfl ?_ | refine OrdP.cons rfl ?_ | refine OrdP.nil ?_)
    refine wstep (acc := headI st pl kd n ++ nodesI (xs.take i) ++ txtI x.p ++ txtI x.d) (new := numI x.v.toNat) (T := [_]) (fun L h => ?_) (by rw [List.append_assoc, List.append_assoc]; exact hne _) (fun g3 C3 => ?_)
    · have := wNum_spec (headI st pl kd n ++ nodesI (xs.take i) ++ txtI x.p ++ txtI x.d) x.v.toNat (by omega) (by rw [List.length_append, List.length_append, List.length_append]; omega) h
      rw [Int.toNat_of_nonneg q3] at this
      exact this
    repeat (first | refine Ops.cons ?_ | refine Ops.nil ?_ | refine And.intro rfl ?_ | refine And.intro (Nat.le_of_ble_eq_true rfl) ?_ | refine And.intro (Int.natCast_nonneg _) ?_ | refine fun (_ : Nat) => ?_ | refine Ord.quiet rfl ?_ | refine Ord.loud rfl ?_ | refine Ord.nil ?_ | refine Run.seq ?_ | refine Run.text ?_ | refine Run.cond ?_ | refine Run.blk ?_ | refine Run.skip ?_ | refine Run.ret ?_ | refine Run.exit ?_ | refine Cont.seq ?_ | refine Cont.seq_ret ?_ | refine Cont.seq_exit ?_ | refine Cont.blk ?_ | refine Cont.blk_ret ?_ | refine Cont.blk_exit ?_ | refine Cont.lp_ret ?_ | refine Cont.lp_exit ?_ | refine Cont.nil ?_ | refine Cont.op rfl ?_ | refine OrdP.cons rfl ?_ | refine OrdP.nil ?_)
    refine fun r hr => ?_
    obtain rfl := add1 hr (by omega)
    repeat (first | refine Ops.cons ?_ | refine Ops.nil ?_ | refine And.intro rfl ?_ | refine And.intro (Nat.le_of_ble_eq_true rfl) ?_ | refine And.intro (Int.natCast_nonneg _) ?_ | refine fun (_ : Nat) => ?_ | refine Ord.quiet rfl ?_ | refine Ord.loud rfl ?_ | refine Ord.nil ?_ | refine Run.seq ?_ | refine Run.text ?_ | refine Run.cond ?_ | refine Run.blk ?_ | refine Run.skip ?_ | refine Run.ret ?_ | refine Run.exit ?_ | refine Cont.seq ?_ | refine Cont.seq_ret ?_ | refine Cont.seq_exit ?_ | refine Cont.blk ?_ | refine Cont.blk_ret ?_ | refine Cont.blk_exit ?_ | refine Cont.lp_ret ?_ | refine Cont.lp_exit ?_ | refine Cont.nil ?_ | refine Cont.op rfl ?_ | refine OrdP.cons rfl ?_ | refine OrdP.nil ?_)
    refine Cont.lp ?_
    have ea : headI st pl kd n ++ nodesI (xs.take (i + 1)) = headI st pl kd n ++ nodesI (xs.take i) ++ txtI x.p ++ txtI x.d ++ numI x.v.toNat := by
      rw [nodesI_take ex]; unfold nodeI; simp only [List.append_assoc]
    refine ⟨n - (i + 1), [.junk, .ptr 0 g0 0, .junk, .junk, .junk, .ptr 1 gw 0, .junk, .junk, .junk, .junk, .junk, .junk, .junk, .junk, .junk, .junk, .junk, .junk, .junk, .junk, .junk, .junk, .junk, .junk, .junk, .junk, .junk, .junk, .junk, .junk, .junk, .junk, .junk, rdo xs n, .int .i64 n, .int .i64 (i + 1 : Nat), .junk, .junk, .junk, .junk, .junk, .junk, .junk, .junk, .junk, .junk, .junk, .junk, .junk, .junk, .junk, .junk, .junk, .junk, .junk, .junk], 3, by omega, ?_, ⟨i + 1, g0, gw, g3, C3, rfl, by omega, rfl, by rw [ea]; rfl⟩⟩
    repeat (first | exact trivial | refine ⟨.inl rfl, ?_⟩ | refine ⟨.inr rfl, ?_⟩)
  · have h : ¬ (i : Int) < (n : Int) := h
    obtain rfl : i = n := by omega
    repeat (first | refine Ops.cons ?_ | refine Ops.nil ?_ | refine And.intro rfl ?_ | refine And.intro (Nat.le_of_ble_eq_true rfl) ?_ | refine And.intro (Int.natCast_nonneg _) ?_ | refine fun (_ : Nat) => ?_ | refine Ord.quiet rfl ?_ | refine Ord.loud rfl ?_ | refine Ord.nil ?_ | refine Run.seq ?_ | refine Run.text ?_ | refine Run.cond ?_ | refine Run.blk ?_ | refine Run.skip ?_ | refine Run.ret ?_ | refine Run.exit ?_ | refine Cont.seq ?_ | refine Cont.seq_ret ?_ | refine Cont.seq_exit ?_ | refine Cont.blk ?_ | refine Cont.blk_ret ?_ | refine Cont.blk_exit ?_ | refine Cont.lp_ret ?_ | refine Cont.lp_exit ?_ | refine Cont.nil ?_ | refine Cont.op rfl ?_ | refine OrdP.cons rfl ?_ | refine OrdP.nil ?_)
    exact ⟨.tuple [.sl 0 gb Cb (encI st pl kd xs i).length, .int .i64 0], _, FinOk.keep _ [2] (Sub.tuples ⟨Sub.sl _ _ _ _ _, Sub.refl _, trivial⟩) (by decide) rfl, .inr ⟨⟨⟨hst0, hst⟩, hpl, hkd, hn64, by assumption, hnodes⟩, gb, Cb, rfl, rfl⟩⟩
end Go.Proofs.YtfohedaadncefaaDoor.HBT
