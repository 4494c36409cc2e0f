/- The contract of the document's own cutting of a text. -/
import Derived.Test.YtfohedaadncefaaDoorHbR1
namespace Go.Proofs.YtfohedaadncefaaDoor.HBT
open Go Go.Proofs.YtfohedaadncefaaDoor.HB Go.RowKit
set_option maxRecDepth 8000

theorem cut_one : ∀ (x t : List UInt8), (47 : UInt8) ∉ x → cut (x ++ 47 :: t) = x :: cut t
  | [], t, _ => by simp [cut]
  | c :: x, t, h => by
    have hc : ¬ c = 47 := fun e => h (by simp [e])
    have := cut_one x t (fun hx => h (List.mem_cons_of_mem _ hx))
    rw [List.cons_append]
    simp only [cut, hc, if_false, this]
theorem cut_last : ∀ (x : List UInt8), (47 : UInt8) ∉ x → cut x = [x]
  | [], _ => rfl
  | c :: x, h => by
    have hc : ¬ c = 47 := fun e => h (by simp [e])
    have := cut_last x (fun hx => h (List.mem_cons_of_mem _ hx))
    simp only [cut, hc, if_false, this]

theorem cut_step {B : List UInt8} {f i : Nat} (hfi : f ≤ i) (hi : i < B.length) (hno : ∀ j (h : j < B.length), f ≤ j → j < i → B[j] ≠ 47) (h47 : B[i] = 47) : cut (B.drop f) = (B.drop f).take (i - f) :: cut (B.drop (i + 1)) := by
  have e : B.drop f = (B.drop f).take (i - f) ++ 47 :: B.drop (i + 1) := by
    have h1 : (B.drop f).drop (i - f) = B.drop i := by rw [List.drop_drop]; congr 1; omega
    have h2 : B.drop i = 47 :: B.drop (i + 1) := by rw [List.drop_eq_getElem_cons hi, h47]
    rw [← h2, ← h1, List.take_append_drop]
  have hx : (47 : UInt8) ∉ (B.drop f).take (i - f) := fun hm => by
    obtain ⟨k, hk, ek⟩ := List.mem_iff_getElem.1 hm
    have hk2 : k < i - f := by rw [List.length_take] at hk; omega
    rw [List.getElem_take, List.getElem_drop] at ek
    exact hno (f + k) (by omega) (by omega) (by omega) ek
  conv => lhs; rw [e]
  exact cut_one _ _ hx
theorem cut_end {B : List UInt8} {f : Nat} (hno : ∀ j (h : j < B.length), f ≤ j → B[j] ≠ 47) : cut (B.drop f) = [B.drop f] := by
  apply cut_last
  intro hm
  obtain ⟨k, hk, ek⟩ := List.mem_iff_getElem.1 hm
  rw [List.length_drop] at hk
  rw [List.getElem_drop] at ek
  exact hno (f + k) (by omega) (by omega) ek

set_option maxHeartbeats 2000000 in
theorem refPieces_spec (t : ByteArray) (h1 : 1 ≤ t.size) (h2 : t.size ≤ 1000) : FnSpec C 95 [.str t] [] (fun r L' => ∃ g Cp, r = .sl 0 g Cp (cutB t).length ∧ L' = [(g, .row 9 1 Cp ((cutB t).map .str))]) := by
  refine FnSpec.start C_ok Tryd.func95 rfl rfl Tryd.ntmps95 ?_
  have hB : t.data.toList.length = t.size := by rw [Array.length_toList]; rfl
  have hcut : (cutB t).map (·.data.toList) = cut (t.data.toList.drop 1) := cutB_cut t
  have hat : ∀ j (h : j < t.data.toList.length), t.data.toList[j] = t[j]'(by omega) := fun j h => Array.getElem_toList _
  have hext : ∀ a b, (t.extract a b).data.toList = (t.data.toList.drop a).take (b - a) := fun a b => by
    rw [ByteArray.data_extract, Array.toList_extract]
  repeat (first | refine Ops.cons ?_ | refine Ops.nil ?_ | refine And.intro rfl ?_ | refine And.intro (Nat.le_of_ble_eq_true rfl) ?_ | refine And.intro (Int.natCast_nonneg _) ?_ | refine fun (_ : Nat) => ?_ | refine Ord.quiet rfl ?_ | refine Ord.loud rfl ?_ | refine Ord.nil ?_ | refine Run.seq ?_ | refine Run.text ?_ | refine Run.cond ?_ | refine Run.blk ?_ | refine Run.skip ?_ | refine Run.ret ?_ | refine Run.exit ?_ | refine Cont.seq ?_ | refine Cont.seq_ret ?_ | refine Cont.seq_exit ?_ | refine Cont.blk ?_ | refine Cont.blk_ret ?_ | refine Cont.blk_exit ?_ | refine Cont.lp_ret ?_ | refine Cont.lp_exit ?_ | refine Cont.nil ?_ | refine Cont.op rfl ?_ | refine OrdP.cons rfl ?_ | refine OrdP.nil ?_)
  refine Run.loop (fun k env L => ∃ (f i : Nat) (ps : List ByteArray), k = t.size + 1 - i ∧ f ≤ i ∧ i ≤ t.size + 1 ∧ 1 ≤ f ∧ ps.length ≤ i ∧
      ((i = t.size + 1 ∧ (cutB t).map (·.data.toList) = ps.map (·.data.toList)) ∨ (i ≤ t.size ∧ (cutB t).map (·.data.toList) = ps.map (·.data.toList) ++ cut (t.data.toList.drop f) ∧ ∀ j (h : j < t.data.toList.length), f ≤ j → j < i → t.data.toList[j] ≠ 47)) ∧
      ((ps = [] ∧ i ≤ t.size ∧ env = [.str t, .junk, .junk, .nils, .int .i64 f, .int .i64 i, .junk, .junk, .junk, .junk, .junk, .junk, .junk, .junk, .junk, .junk, .junk, .junk, .junk, .junk, .junk, .junk, .junk, .junk, .junk, .junk, .junk, .junk, .junk, .junk, .junk, .junk] ∧ L = []) ∨ (ps ≠ [] ∧ ∃ x0 g Cp, env = [.str t, .junk, .junk, .sl 1 g Cp ps.length, .int .i64 f, .int .i64 i, .junk, .junk, .junk, .junk, .junk, .junk, .junk, .junk, .junk, .junk, .junk, .junk, .junk, .junk, .junk, .junk, .junk, .junk, .junk, .junk, .junk, .junk, .junk, .junk, .junk, .junk] ∧ L = [x0, (g, .row 9 1 Cp (ps.map .str))])))
    t.size [.str t, .junk, .junk, .nils, .int .i64 1, .int .i64 1, .junk, .junk, .junk, .junk, .junk, .junk, .junk, .junk, .junk, .junk, .junk, .junk, .junk, .junk, .junk, .junk, .junk, .junk, .junk, .junk, .junk, .junk, .junk, .junk, .junk, .junk] ?_ ⟨1, 1, [], by omega, by omega, by omega, by omega, by simp, .inr ⟨by omega, by simpa using hcut, fun j _ h1 h2 => by omega⟩, .inl ⟨rfl, by omega, rfl, rfl⟩⟩ ?_
  · repeat (first | exact trivial | refine ⟨.inl rfl, ?_⟩ | refine ⟨.inr rfl, ?_⟩)
  rintro k env L ⟨f, i, ps, rfl, hfi, hi, hf1, hpl, hinv, hshape⟩
  have key : i ≤ t.size → (cutB t).map (·.data.toList) = ps.map (·.data.toList) ++ cut (t.data.toList.drop f) ∧ ∀ j (h : j < t.data.toList.length), f ≤ j → j < i → t.data.toList[j] ≠ 47 := fun h => by
    rcases hinv with ⟨h', _⟩ | ⟨_, h1, h2⟩
    · omega
    · exact ⟨h1, h2⟩
  have newP : i ≤ t.size → (i = t.size ∨ ∃ h : i < t.size, t[i] = 47) → ((i + 1 = t.size + 1 ∧ (cutB t).map (·.data.toList) = (ps ++ [t.extract f i]).map (·.data.toList)) ∨
      (i + 1 ≤ t.size ∧ (cutB t).map (·.data.toList) = (ps ++ [t.extract f i]).map (·.data.toList) ++ cut (t.data.toList.drop (i + 1)) ∧ ∀ j (h : j < t.data.toList.length), i + 1 ≤ j → j < i + 1 → t.data.toList[j] ≠ 47)) := fun hit hc => by
    obtain ⟨k1, k2⟩ := key hit
    rcases hc with rfl | ⟨hlt, h47⟩
    · refine .inl ⟨rfl, ?_⟩
      rw [k1, cut_end (fun j h h3 => k2 j h h3 (by omega)), List.map_append]
      congr 1
      show [_] = [(t.extract f t.size).data.toList]
      rw [hext, List.take_of_length_le (by rw [List.length_drop]; omega)]
    · refine .inr ⟨by omega, ?_, fun j _ h3 h4 => by omega⟩
      rw [k1, cut_step hfi (by omega) k2 (by rw [hat i (by omega)]; exact h47), List.map_append, List.append_assoc]
      congr 1
      show _ = [(t.extract f i).data.toList] ++ _
      rw [hext]
      rfl
  have newN : (h : i < t.size) → t[i] ≠ 47 → ((i + 1 = t.size + 1 ∧ (cutB t).map (·.data.toList) = ps.map (·.data.toList)) ∨ (i + 1 ≤ t.size ∧ (cutB t).map (·.data.toList) = ps.map (·.data.toList) ++ cut (t.data.toList.drop f) ∧ ∀ j (h : j < t.data.toList.length), f ≤ j → j < i + 1 → t.data.toList[j] ≠ 47)) := fun hlt hne => by
    obtain ⟨k1, k2⟩ := key (by omega)
    refine .inr ⟨by omega, k1, fun j h h3 h4 => ?_⟩
    by_cases e : j = i
    · subst e; rw [hat j h]; exact hne
    · exact k2 j h h3 (by omega)
  have b47 : ∀ h : i < t.size, ((t[i]'h).toNat : Int) = 47 ↔ t[i]'h = 47 := fun h => by
    rw [← UInt8.toNat_inj]
    have : (47 : UInt8).toNat = 47 := rfl
    omega
  rcases hshape with ⟨rfl, hit, rfl, rfl⟩ | ⟨hps, x0, g, Cp, rfl, rfl⟩
  · repeat (first | refine Ops.cons ?_ | refine Ops.nil ?_ | refine And.intro rfl ?_ | refine And.intro (Nat.le_of_ble_eq_true rfl) ?_ | refine And.intro (Int.natCast_nonneg _) ?_ | refine fun (_ : Nat) => ?_ | refine Ord.quiet rfl ?_ | refine Ord.loud rfl ?_ | refine Ord.nil ?_ | refine Run.seq ?_ | refine Run.text ?_ | refine Run.cond ?_ | refine Run.blk ?_ | refine Run.skip ?_ | refine Run.ret ?_ | refine Run.exit ?_ | refine Cont.seq ?_ | refine Cont.seq_ret ?_ | refine Cont.seq_exit ?_ | refine Cont.blk ?_ | refine Cont.blk_ret ?_ | refine Cont.blk_exit ?_ | refine Cont.lp_ret ?_ | refine Cont.lp_exit ?_ | refine Cont.nil ?_ | refine Cont.op rfl ?_ | refine OrdP.cons rfl ?_ | refine OrdP.nil ?_)
    refine ⟨fun h => ?_, fun h => absurd (show (i : Int) ≤ (t.size : Int) by omega) h⟩
    repeat (first | refine Ops.cons ?_ | refine Ops.nil ?_ | refine And.intro rfl ?_ | refine And.intro (Nat.le_of_ble_eq_true rfl) ?_ | refine And.intro (Int.natCast_nonneg _) ?_ | refine fun (_ : Nat) => ?_ | refine Ord.quiet rfl ?_ | refine Ord.loud rfl ?_ | refine Ord.nil ?_ | refine Run.seq ?_ | refine Run.text ?_ | refine Run.cond ?_ | refine Run.blk ?_ | refine Run.skip ?_ | refine Run.ret ?_ | refine Run.exit ?_ | refine Cont.seq ?_ | refine Cont.seq_ret ?_ | refine Cont.seq_exit ?_ | refine Cont.blk ?_ | refine Cont.blk_ret ?_ | refine Cont.blk_exit ?_ | refine Cont.lp_ret ?_ | refine Cont.lp_exit ?_ | refine Cont.nil ?_ | refine Cont.op rfl ?_ | refine OrdP.cons rfl ?_ | refine OrdP.nil ?_)
    refine ⟨fun he => ?_, fun he => ?_⟩
    · have he : (i : Int) = (t.size : Int) := he
      repeat (first | refine Ops.cons ?_ | refine Ops.nil ?_ | refine And.intro rfl ?_ | refine And.intro (Nat.le_of_ble_eq_true rfl) ?_ | refine And.intro (Int.natCast_nonneg _) ?_ | refine fun (_ : Nat) => ?_ | refine Ord.quiet rfl ?_ | refine Ord.loud rfl ?_ | refine Ord.nil ?_ | refine Run.seq ?_ | refine Run.text ?_ | refine Run.cond ?_ | refine Run.blk ?_ | refine Run.skip ?_ | refine Run.ret ?_ | refine Run.exit ?_ | refine Cont.seq ?_ | refine Cont.seq_ret ?_ | refine Cont.seq_exit ?_ | refine Cont.blk ?_ | refine Cont.blk_ret ?_ | refine Cont.blk_exit ?_ | refine Cont.lp_ret ?_ | refine Cont.lp_exit ?_ | refine Cont.nil ?_ | refine Cont.op rfl ?_ | refine OrdP.cons rfl ?_ | refine OrdP.nil ?_)
      refine ⟨show (f : Int) ≤ (i : Int) by omega, show (i : Int) ≤ (t.size : Int) by omega, ?_⟩
      repeat (first | refine Ops.cons ?_ | refine Ops.nil ?_ | refine And.intro rfl ?_ | refine And.intro (Nat.le_of_ble_eq_true rfl) ?_ | refine And.intro (Int.natCast_nonneg _) ?_ | refine fun (_ : Nat) => ?_ | refine Ord.quiet rfl ?_ | refine Ord.loud rfl ?_ | refine Ord.nil ?_ | refine Run.seq ?_ | refine Run.text ?_ | refine Run.cond ?_ | refine Run.blk ?_ | refine Run.skip ?_ | refine Run.ret ?_ | refine Run.exit ?_ | refine Cont.seq ?_ | refine Cont.seq_ret ?_ | refine Cont.seq_exit ?_ | refine Cont.blk ?_ | refine Cont.blk_ret ?_ | refine Cont.blk_exit ?_ | refine Cont.lp_ret ?_ | refine Cont.lp_exit ?_ | refine Cont.nil ?_ | refine Cont.op rfl ?_ | refine OrdP.cons rfl ?_ | refine OrdP.nil ?_)
      refine ⟨fun h => absurd h (List.cons_ne_nil _ _), fun _ => ?_⟩
      repeat (first | refine Ops.cons ?_ | refine Ops.nil ?_ | refine And.intro rfl ?_ | refine And.intro (Nat.le_of_ble_eq_true rfl) ?_ | refine And.intro (Int.natCast_nonneg _) ?_ | refine fun (_ : Nat) => ?_ | refine Ord.quiet rfl ?_ | refine Ord.loud rfl ?_ | refine Ord.nil ?_ | refine Run.seq ?_ | refine Run.text ?_ | refine Run.cond ?_ | refine Run.blk ?_ | refine Run.skip ?_ | refine Run.ret ?_ | refine Run.exit ?_ | refine Cont.seq ?_ | refine Cont.seq_ret ?_ | refine Cont.seq_exit ?_ | refine Cont.blk ?_ | refine Cont.blk_ret ?_ | refine Cont.blk_exit ?_ | refine Cont.lp_ret ?_ | refine Cont.lp_exit ?_ | refine Cont.nil ?_ | refine Cont.op rfl ?_ | refine OrdP.cons rfl ?_ | refine OrdP.nil ?_)
      refine fun r hr => ?_
      obtain rfl := add1 hr (by omega)
      repeat (first | refine Ops.cons ?_ | refine Ops.nil ?_ | refine And.intro rfl ?_ | refine And.intro (Nat.le_of_ble_eq_true rfl) ?_ | refine And.intro (Int.natCast_nonneg _) ?_ | refine fun (_ : Nat) => ?_ | refine Ord.quiet rfl ?_ | refine Ord.loud rfl ?_ | refine Ord.nil ?_ | refine Run.seq ?_ | refine Run.text ?_ | refine Run.cond ?_ | refine Run.blk ?_ | refine Run.skip ?_ | refine Run.ret ?_ | refine Run.exit ?_ | refine Cont.seq ?_ | refine Cont.seq_ret ?_ | refine Cont.seq_exit ?_ | refine Cont.blk ?_ | refine Cont.blk_ret ?_ | refine Cont.blk_exit ?_ | refine Cont.lp_ret ?_ | refine Cont.lp_exit ?_ | refine Cont.nil ?_ | refine Cont.op rfl ?_ | refine OrdP.cons rfl ?_ | refine OrdP.nil ?_)
      refine fun r hr => ?_
      obtain rfl := add1 hr (by omega)
      repeat (first | refine Ops.cons ?_ | refine Ops.nil ?_ | refine And.intro rfl ?_ | refine And.intro (Nat.le_of_ble_eq_true rfl) ?_ | refine And.intro (Int.natCast_nonneg _) ?_ | refine fun (_ : Nat) => ?_ | refine Ord.quiet rfl ?_ | refine Ord.loud rfl ?_ | refine Ord.nil ?_ | refine Run.seq ?_ | refine Run.text ?_ | refine Run.cond ?_ | refine Run.blk ?_ | refine Run.skip ?_ | refine Run.ret ?_ | refine Run.exit ?_ | refine Cont.seq ?_ | refine Cont.seq_ret ?_ | refine Cont.seq_exit ?_ | refine Cont.blk ?_ | refine Cont.blk_ret ?_ | refine Cont.blk_exit ?_ | refine Cont.lp_ret ?_ | refine Cont.lp_exit ?_ | refine Cont.nil ?_ | refine Cont.op rfl ?_ | refine OrdP.cons rfl ?_ | refine OrdP.nil ?_)
      refine Cont.lp ?_
      refine ⟨t.size + 1 - (i + 1), [.str t, .junk, .junk, .sl 1 _ _ ([t.extract f i] : List ByteArray).length, .int .i64 (i + 1 : Nat), .int .i64 (i + 1 : Nat), .junk, .junk, .junk, .junk, .junk, .junk, .junk, .junk, .junk, .junk, .junk, .junk, .junk, .junk, .junk, .junk, .junk, .junk, .junk, .junk, .junk, .junk, .junk, .junk, .junk, .junk], 2, by omega, ?_, ⟨i + 1, i + 1, [t.extract f i], rfl, by omega, by omega, by omega, by simp, newP (by omega) (.inl (by omega)), .inr ⟨by simp, _, _, _, rfl, rfl⟩⟩⟩
      repeat (first | exact trivial | refine ⟨.inl rfl, ?_⟩ | refine ⟨.inr rfl, ?_⟩)
    · have he : ¬ (i : Int) = (t.size : Int) := he
      have hlt : i < t.size := by omega
      repeat (first | refine Ops.cons ?_ | refine Ops.nil ?_ | refine And.intro rfl ?_ | refine And.intro (Nat.le_of_ble_eq_true rfl) ?_ | refine And.intro (Int.natCast_nonneg _) ?_ | refine fun (_ : Nat) => ?_ | refine Ord.quiet rfl ?_ | refine Ord.loud rfl ?_ | refine Ord.nil ?_ | refine Run.seq ?_ | refine Run.text ?_ | refine Run.cond ?_ | refine Run.blk ?_ | refine Run.skip ?_ | refine Run.ret ?_ | refine Run.exit ?_ | refine Cont.seq ?_ | refine Cont.seq_ret ?_ | refine Cont.seq_exit ?_ | refine Cont.blk ?_ | refine Cont.blk_ret ?_ | refine Cont.blk_exit ?_ | refine Cont.lp_ret ?_ | refine Cont.lp_exit ?_ | refine Cont.nil ?_ | refine Cont.op rfl ?_ | refine OrdP.cons rfl ?_ | refine OrdP.nil ?_)
      refine ⟨hlt, ?_⟩
      repeat (first | refine Ops.cons ?_ | refine Ops.nil ?_ | refine And.intro rfl ?_ | refine And.intro (Nat.le_of_ble_eq_true rfl) ?_ | refine And.intro (Int.natCast_nonneg _) ?_ | refine fun (_ : Nat) => ?_ | refine Ord.quiet rfl ?_ | refine Ord.loud rfl ?_ | refine Ord.nil ?_ | refine Run.seq ?_ | refine Run.text ?_ | refine Run.cond ?_ | refine Run.blk ?_ | refine Run.skip ?_ | refine Run.ret ?_ | refine Run.exit ?_ | refine Cont.seq ?_ | refine Cont.seq_ret ?_ | refine Cont.seq_exit ?_ | refine Cont.blk ?_ | refine Cont.blk_ret ?_ | refine Cont.blk_exit ?_ | refine Cont.lp_ret ?_ | refine Cont.lp_exit ?_ | refine Cont.nil ?_ | refine Cont.op rfl ?_ | refine OrdP.cons rfl ?_ | refine OrdP.nil ?_)
      refine ⟨fun hc => ?_, fun hc => ?_⟩
      · have hc : t[i] = 47 := (b47 hlt).1 hc
        repeat (first | refine Ops.cons ?_ | refine Ops.nil ?_ | refine And.intro rfl ?_ | refine And.intro (Nat.le_of_ble_eq_true rfl) ?_ | refine And.intro (Int.natCast_nonneg _) ?_ | refine fun (_ : Nat) => ?_ | refine Ord.quiet rfl ?_ | refine Ord.loud rfl ?_ | refine Ord.nil ?_ | refine Run.seq ?_ | refine Run.text ?_ | refine Run.cond ?_ | refine Run.blk ?_ | refine Run.skip ?_ | refine Run.ret ?_ | refine Run.exit ?_ | refine Cont.seq ?_ | refine Cont.seq_ret ?_ | refine Cont.seq_exit ?_ | refine Cont.blk ?_ | refine Cont.blk_ret ?_ | refine Cont.blk_exit ?_ | refine Cont.lp_ret ?_ | refine Cont.lp_exit ?_ | refine Cont.nil ?_ | refine Cont.op rfl ?_ | refine OrdP.cons rfl ?_ | refine OrdP.nil ?_)
        refine ⟨show (f : Int) ≤ (i : Int) by omega, show (i : Int) ≤ (t.size : Int) by omega, ?_⟩
        repeat (first | refine Ops.cons ?_ | refine Ops.nil ?_ | refine And.intro rfl ?_ | refine And.intro (Nat.le_of_ble_eq_true rfl) ?_ | refine And.intro (Int.natCast_nonneg _) ?_ | refine fun (_ : Nat) => ?_ | refine Ord.quiet rfl ?_ | refine Ord.loud rfl ?_ | refine Ord.nil ?_ | refine Run.seq ?_ | refine Run.text ?_ | refine Run.cond ?_ | refine Run.blk ?_ | refine Run.skip ?_ | refine Run.ret ?_ | refine Run.exit ?_ | refine Cont.seq ?_ | refine Cont.seq_ret ?_ | refine Cont.seq_exit ?_ | refine Cont.blk ?_ | refine Cont.blk_ret ?_ | refine Cont.blk_exit ?_ | refine Cont.lp_ret ?_ | refine Cont.lp_exit ?_ | refine Cont.nil ?_ | refine Cont.op rfl ?_ | refine OrdP.cons rfl ?_ | refine OrdP.nil ?_)
        refine ⟨fun h => absurd h (List.cons_ne_nil _ _), fun _ => ?_⟩
        repeat (first | refine Ops.cons ?_ | refine Ops.nil ?_ | refine And.intro rfl ?_ | refine And.intro (Nat.le_of_ble_eq_true rfl) ?_ | refine And.intro (Int.natCast_nonneg _) ?_ | refine fun (_ : Nat) => ?_ | refine Ord.quiet rfl ?_ | refine Ord.loud rfl ?_ | refine Ord.nil ?_ | refine Run.seq ?_ | refine Run.text ?_ | refine Run.cond ?_ | refine Run.blk ?_ | refine Run.skip ?_ | refine Run.ret ?_ | refine Run.exit ?_ | refine Cont.seq ?_ | refine Cont.seq_ret ?_ | refine Cont.seq_exit ?_ | refine Cont.blk ?_ | refine Cont.blk_ret ?_ | refine Cont.blk_exit ?_ | refine Cont.lp_ret ?_ | refine Cont.lp_exit ?_ | refine Cont.nil ?_ | refine Cont.op rfl ?_ | refine OrdP.cons rfl ?_ | refine OrdP.nil ?_)
        refine fun r hr => ?_
        obtain rfl := add1 hr (by omega)
        repeat (first | refine Ops.cons ?_ | refine Ops.nil ?_ | refine And.intro rfl ?_ | refine And.intro (Nat.le_of_ble_eq_true rfl) ?_ | refine And.intro (Int.natCast_nonneg _) ?_ | refine fun (_ : Nat) => ?_ | refine Ord.quiet rfl ?_ | refine Ord.loud rfl ?_ | refine Ord.nil ?_ | refine Run.seq ?_ | refine Run.text ?_ | refine Run.cond ?_ | refine Run.blk ?_ | refine Run.skip ?_ | refine Run.ret ?_ | refine Run.exit ?_ | refine Cont.seq ?_ | refine Cont.seq_ret ?_ | refine Cont.seq_exit ?_ | refine Cont.blk ?_ | refine Cont.blk_ret ?_ | refine Cont.blk_exit ?_ | refine Cont.lp_ret ?_ | refine Cont.lp_exit ?_ | refine Cont.nil ?_ | refine Cont.op rfl ?_ | refine OrdP.cons rfl ?_ | refine OrdP.nil ?_)
        refine fun r hr => ?_
        obtain rfl := add1 hr (by omega)
        repeat (first | refine Ops.cons ?_ | refine Ops.nil ?_ | refine And.intro rfl ?_ | refine And.intro (Nat.le_of_ble_eq_true rfl) ?_ | refine And.intro (Int.natCast_nonneg _) ?_ | refine fun (_ : Nat) => ?_ | refine Ord.quiet rfl ?_ | refine Ord.loud rfl ?_ | refine Ord.nil ?_ | refine Run.seq ?_ | refine Run.text ?_ | refine Run.cond ?_ | refine Run.blk ?_ | refine Run.skip ?_ | refine Run.ret ?_ | refine Run.exit ?_ | refine Cont.seq ?_ | refine Cont.seq_ret ?_ | refine Cont.seq_exit ?_ | refine Cont.blk ?_ | refine Cont.blk_ret ?_ | refine Cont.blk_exit ?_ | refine Cont.lp_ret ?_ | refine Cont.lp_exit ?_ | refine Cont.nil ?_ | refine Cont.op rfl ?_ | refine OrdP.cons rfl ?_ | refine OrdP.nil ?_)
        refine Cont.lp ?_
        refine ⟨t.size + 1 - (i + 1), [.str t, .junk, .junk, .sl 1 _ _ ([t.extract f i] : List ByteArray).length, .int .i64 (i + 1 : Nat), .int .i64 (i + 1 : Nat), .junk, .junk, .junk, .junk, .junk, .junk, .junk, .junk, .junk, .junk, .junk, .junk, .junk, .junk, .junk, .junk, .junk, .junk, .junk, .junk, .junk, .junk, .junk, .junk, .junk, .junk], 2, by omega, ?_, ⟨i + 1, i + 1, [t.extract f i], rfl, by omega, by omega, by omega, by simp, newP (by omega) (.inr ⟨hlt, hc⟩), .inr ⟨by simp, _, _, _, rfl, rfl⟩⟩⟩
        repeat (first | exact trivial | refine ⟨.inl rfl, ?_⟩ | refine ⟨.inr rfl, ?_⟩)
      · have hc : ¬ t[i] = 47 := fun e => hc ((b47 hlt).2 e)
        repeat (first | refine Ops.cons ?_ | refine Ops.nil ?_ | refine And.intro rfl ?_ | refine And.intro (Nat.le_of_ble_eq_true rfl) ?_ | refine And.intro (Int.natCast_nonneg _) ?_ | refine fun (_ : Nat) => ?_ | refine Ord.quiet rfl ?_ | refine Ord.loud rfl ?_ | refine Ord.nil ?_ | refine Run.seq ?_ | refine Run.text ?_ | refine Run.cond ?_ | refine Run.blk ?_ | refine Run.skip ?_ | refine Run.ret ?_ | refine Run.exit ?_ | refine Cont.seq ?_ | refine Cont.seq_ret ?_ | refine Cont.seq_exit ?_ | refine Cont.blk ?_ | refine Cont.blk_ret ?_ | refine Cont.blk_exit ?_ | refine Cont.lp_ret ?_ | refine Cont.lp_exit ?_ | refine Cont.nil ?_ | refine Cont.op rfl ?_ | refine OrdP.cons rfl ?_ | refine OrdP.nil ?_)
        refine fun r hr => ?_
        obtain rfl := add1 hr (by omega)
        repeat (first | refine Ops.cons ?_ | refine Ops.nil ?_ | refine And.intro rfl ?_ | refine And.intro (Nat.le_of_ble_eq_true rfl) ?_ | refine And.intro (Int.natCast_nonneg _) ?_ | refine fun (_ : Nat) => ?_ | refine Ord.quiet rfl ?_ | refine Ord.loud rfl ?_ | refine Ord.nil ?_ | refine Run.seq ?_ | refine Run.text ?_ | refine Run.cond ?_ | refine Run.blk ?_ | refine Run.skip ?_ | refine Run.ret ?_ | refine Run.exit ?_ | refine Cont.seq ?_ | refine Cont.seq_ret ?_ | refine Cont.seq_exit ?_ | refine Cont.blk ?_ | refine Cont.blk_ret ?_ | refine Cont.blk_exit ?_ | refine Cont.lp_ret ?_ | refine Cont.lp_exit ?_ | refine Cont.nil ?_ | refine Cont.op rfl ?_ | refine OrdP.cons rfl ?_ | refine OrdP.nil ?_)
        refine Cont.lp ?_
        refine ⟨t.size + 1 - (i + 1), [.str t, .junk, .junk, .nils, .int .i64 f, .int .i64 (i + 1 : Nat), .junk, .junk, .junk, .junk, .junk, .junk, .junk, .junk, .junk, .junk, .junk, .junk, .junk, .junk, .junk, .junk, .junk, .junk, .junk, .junk, .junk, .junk, .junk, .junk, .junk, .junk], 0, by omega, ?_, ⟨f, i + 1, [], rfl, by omega, by omega, by omega, by simp, newN hlt hc, .inl ⟨rfl, by omega, rfl, rfl⟩⟩⟩
        repeat (first | exact trivial | refine ⟨.inl rfl, ?_⟩ | refine ⟨.inr rfl, ?_⟩)
  · repeat (first | refine Ops.cons ?_ | refine Ops.nil ?_ | refine And.intro rfl ?_ | refine And.intro (Nat.le_of_ble_eq_true rfl) ?_ | refine And.intro (Int.natCast_nonneg _) ?_ | refine fun (_ : Nat) => ?_ | refine Ord.quiet rfl ?_ | refine Ord.loud rfl ?_ | refine Ord.nil ?_ | refine Run.seq ?_ | refine Run.text ?_ | refine Run.cond ?_ | refine Run.blk ?_ | refine Run.skip ?_ | refine Run.ret ?_ | refine Run.exit ?_ | refine Cont.seq ?_ | refine Cont.seq_ret ?_ | refine Cont.seq_exit ?_ | refine Cont.blk ?_ | refine Cont.blk_ret ?_ | refine Cont.blk_exit ?_ | refine Cont.lp_ret ?_ | refine Cont.lp_exit ?_ | refine Cont.nil ?_ | refine Cont.op rfl ?_ | refine OrdP.cons rfl ?_ | refine OrdP.nil ?_)
    refine ⟨fun h => ?_, fun h => ?_⟩
    case' refine_2 =>
      have h : ¬ (i : Int) ≤ (t.size : Int) := h
      have hps2 : ps = cutB t := by
        rcases hinv with ⟨_, h3⟩ | ⟨h3, _⟩
        · exact (map_bytes_inj h3).symm
        · omega
      repeat (first | refine Ops.cons ?_ | refine Ops.nil ?_ | refine And.intro rfl ?_ | refine And.intro (Nat.le_of_ble_eq_true rfl) ?_ | refine And.intro (Int.natCast_nonneg _) ?_ | refine fun (_ : Nat) => ?_ | refine Ord.quiet rfl ?_ | refine Ord.loud rfl ?_ | refine Ord.nil ?_ | refine Run.seq ?_ | refine Run.text ?_ | refine Run.cond ?_ | refine Run.blk ?_ | refine Run.skip ?_ | refine Run.ret ?_ | refine Run.exit ?_ | refine Cont.seq ?_ | refine Cont.seq_ret ?_ | refine Cont.seq_exit ?_ | refine Cont.blk ?_ | refine Cont.blk_ret ?_ | refine Cont.blk_exit ?_ | refine Cont.lp_ret ?_ | refine Cont.lp_exit ?_ | refine Cont.nil ?_ | refine Cont.op rfl ?_ | refine OrdP.cons rfl ?_ | refine OrdP.nil ?_)
      exact ⟨.sl 0 g Cp ps.length, _, FinOk.keep _ [1] (Sub.sl _ _ _ _ _) (by decide) rfl, g, Cp, by rw [hps2], by rw [hps2]; rfl⟩
    have h : (i : Int) ≤ (t.size : Int) := h
    repeat (first | refine Ops.cons ?_ | refine Ops.nil ?_ | refine And.intro rfl ?_ | refine And.intro (Nat.le_of_ble_eq_true rfl) ?_ | refine And.intro (Int.natCast_nonneg _) ?_ | refine fun (_ : Nat) => ?_ | refine Ord.quiet rfl ?_ | refine Ord.loud rfl ?_ | refine Ord.nil ?_ | refine Run.seq ?_ | refine Run.text ?_ | refine Run.cond ?_ | refine Run.blk ?_ | refine Run.skip ?_ | refine Run.ret ?_ | refine Run.exit ?_ | refine Cont.seq ?_ | refine Cont.seq_ret ?_ | refine Cont.seq_exit ?_ | refine Cont.blk ?_ | refine Cont.blk_ret ?_ | refine Cont.blk_exit ?_ | refine Cont.lp_ret ?_ | refine Cont.lp_exit ?_ | refine Cont.nil ?_ | refine Cont.op rfl ?_ | refine OrdP.cons rfl ?_ | refine OrdP.nil ?_)
    refine ⟨fun he => ?_, fun he => ?_⟩
    · have he : (i : Int) = (t.size : Int) := he
      repeat (first | refine Ops.cons ?_ | refine Ops.nil ?_ | refine And.intro rfl ?_ | refine And.intro (Nat.le_of_ble_eq_true rfl) ?_ | refine And.intro (Int.natCast_nonneg _) ?_ | refine fun (_ : Nat) => ?_ | refine Ord.quiet rfl ?_ | refine Ord.loud rfl ?_ | refine Ord.nil ?_ | refine Run.seq ?_ | refine Run.text ?_ | refine Run.cond ?_ | refine Run.blk ?_ | refine Run.skip ?_ | refine Run.ret ?_ | refine Run.exit ?_ | refine Cont.seq ?_ | refine Cont.seq_ret ?_ | refine Cont.seq_exit ?_ | refine Cont.blk ?_ | refine Cont.blk_ret ?_ | refine Cont.blk_exit ?_ | refine Cont.lp_ret ?_ | refine Cont.lp_exit ?_ | refine Cont.nil ?_ | refine Cont.op rfl ?_ | refine OrdP.cons rfl ?_ | refine OrdP.nil ?_)
      refine ⟨show (f : Int) ≤ (i : Int) by omega, show (i : Int) ≤ (t.size : Int) by omega, ?_⟩
      repeat (first | refine Ops.cons ?_ | refine Ops.nil ?_ | refine And.intro rfl ?_ | refine And.intro (Nat.le_of_ble_eq_true rfl) ?_ | refine And.intro (Int.natCast_nonneg _) ?_ | refine fun (_ : Nat) => ?_ | refine Ord.quiet rfl ?_ | refine Ord.loud rfl ?_ | refine Ord.nil ?_ | refine Run.seq ?_ | refine Run.text ?_ | refine Run.cond ?_ | refine Run.blk ?_ | refine Run.skip ?_ | refine Run.ret ?_ | refine Run.exit ?_ | refine Cont.seq ?_ | refine Cont.seq_ret ?_ | refine Cont.seq_exit ?_ | refine Cont.blk ?_ | refine Cont.blk_ret ?_ | refine Cont.blk_exit ?_ | refine Cont.lp_ret ?_ | refine Cont.lp_exit ?_ | refine Cont.nil ?_ | refine Cont.op rfl ?_ | refine OrdP.cons rfl ?_ | refine OrdP.nil ?_)
      refine ⟨(List.length_map ..).symm, show ((ps.map AV.str).length + 1) * 16 ≤ _ by rw [List.length_map]; omega, ?_⟩
      refine fun g2 C2 => ?_
      repeat (first | refine Ops.cons ?_ | refine Ops.nil ?_ | refine And.intro rfl ?_ | refine And.intro (Nat.le_of_ble_eq_true rfl) ?_ | refine And.intro (Int.natCast_nonneg _) ?_ | refine fun (_ : Nat) => ?_ | refine Ord.quiet rfl ?_ | refine Ord.loud rfl ?_ | refine Ord.nil ?_ | refine Run.seq ?_ | refine Run.text ?_ | refine Run.cond ?_ | refine Run.blk ?_ | refine Run.skip ?_ | refine Run.ret ?_ | refine Run.exit ?_ | refine Cont.seq ?_ | refine Cont.seq_ret ?_ | refine Cont.seq_exit ?_ | refine Cont.blk ?_ | refine Cont.blk_ret ?_ | refine Cont.blk_exit ?_ | refine Cont.lp_ret ?_ | refine Cont.lp_exit ?_ | refine Cont.nil ?_ | refine Cont.op rfl ?_ | refine OrdP.cons rfl ?_ | refine OrdP.nil ?_)
      refine fun r hr => ?_
      obtain rfl := add1 hr (by omega)
      repeat (first | refine Ops.cons ?_ | refine Ops.nil ?_ | refine And.intro rfl ?_ | refine And.intro (Nat.le_of_ble_eq_true rfl) ?_ | refine And.intro (Int.natCast_nonneg _) ?_ | refine fun (_ : Nat) => ?_ | refine Ord.quiet rfl ?_ | refine Ord.loud rfl ?_ | refine Ord.nil ?_ | refine Run.seq ?_ | refine Run.text ?_ | refine Run.cond ?_ | refine Run.blk ?_ | refine Run.skip ?_ | refine Run.ret ?_ | refine Run.exit ?_ | refine Cont.seq ?_ | refine Cont.seq_ret ?_ | refine Cont.seq_exit ?_ | refine Cont.blk ?_ | refine Cont.blk_ret ?_ | refine Cont.blk_exit ?_ | refine Cont.lp_ret ?_ | refine Cont.lp_exit ?_ | refine Cont.nil ?_ | refine Cont.op rfl ?_ | refine OrdP.cons rfl ?_ | refine OrdP.nil ?_)
      refine fun r hr => ?_
      obtain rfl := add1 hr (by omega)
      repeat (first | refine Ops.cons ?_ | refine Ops.nil ?_ | refine And.intro rfl ?_ | refine And.intro (Nat.le_of_ble_eq_true rfl) ?_ | refine And.intro (Int.natCast_nonneg _) ?_ | refine fun (_ : Nat) => ?_ | refine Ord.quiet rfl ?_ | refine Ord.loud rfl ?_ | refine Ord.nil ?_ | refine Run.seq ?_ | refine Run.text ?_ | refine Run.cond ?_ | refine Run.blk ?_ | refine Run.skip ?_ | refine Run.ret ?_ | refine Run.exit ?_ | refine Cont.seq ?_ | refine Cont.seq_ret ?_ | refine Cont.seq_exit ?_ | refine Cont.blk ?_ | refine Cont.blk_ret ?_ | refine Cont.blk_exit ?_ | refine Cont.lp_ret ?_ | refine Cont.lp_exit ?_ | refine Cont.nil ?_ | refine Cont.op rfl ?_ | refine OrdP.cons rfl ?_ | refine OrdP.nil ?_)
      refine Cont.lp ?_
      refine ⟨t.size + 1 - (i + 1), [.str t, .junk, .junk, .sl 1 g2 C2 ((ps.map AV.str).length + 1), .int .i64 (i + 1 : Nat), .int .i64 (i + 1 : Nat), .junk, .junk, .junk, .junk, .junk, .junk, .junk, .junk, .junk, .junk, .junk, .junk, .junk, .junk, .junk, .junk, .junk, .junk, .junk, .junk, .junk, .junk, .junk, .junk, .junk, .junk], 2, by omega, ?_, ⟨i + 1, i + 1, ps ++ [t.extract f i], rfl, by omega, by omega, by omega, by simp; omega, newP (by omega) (.inl (by omega)), .inr ⟨by simp, x0, g2, C2, by simp, congrArg (fun l => [x0, (g2, AObj.row 9 1 C2 l)]) (show ps.map AV.str ++ [.str (t.extract f i)] = _ by simp)⟩⟩⟩
      repeat (first | exact trivial | refine ⟨.inl rfl, ?_⟩ | refine ⟨.inr rfl, ?_⟩)
    · have he : ¬ (i : Int) = (t.size : Int) := he
      have hlt : i < t.size := by omega
      repeat (first | refine Ops.cons ?_ | refine Ops.nil ?_ | refine And.intro rfl ?_ | refine And.intro (Nat.le_of_ble_eq_true rfl) ?_ | refine And.intro (Int.natCast_nonneg _) ?_ | refine fun (_ : Nat) => ?_ | refine Ord.quiet rfl ?_ | refine Ord.loud rfl ?_ | refine Ord.nil ?_ | refine Run.seq ?_ | refine Run.text ?_ | refine Run.cond ?_ | refine Run.blk ?_ | refine Run.skip ?_ | refine Run.ret ?_ | refine Run.exit ?_ | refine Cont.seq ?_ | refine Cont.seq_ret ?_ | refine Cont.seq_exit ?_ | refine Cont.blk ?_ | refine Cont.blk_ret ?_ | refine Cont.blk_exit ?_ | refine Cont.lp_ret ?_ | refine Cont.lp_exit ?_ | refine Cont.nil ?_ | refine Cont.op rfl ?_ | refine OrdP.cons rfl ?_ | refine OrdP.nil ?_)
      refine ⟨hlt, ?_⟩
      repeat (first | refine Ops.cons ?_ | refine Ops.nil ?_ | refine And.intro rfl ?_ | refine And.intro (Nat.le_of_ble_eq_true rfl) ?_ | refine And.intro (Int.natCast_nonneg _) ?_ | refine fun (_ : Nat) => ?_ | refine Ord.quiet rfl ?_ | refine Ord.loud rfl ?_ | refine Ord.nil ?_ | refine Run.seq ?_ | refine Run.text ?_ | refine Run.cond ?_ | refine Run.blk ?_ | refine Run.skip ?_ | refine Run.ret ?_ | refine Run.exit ?_ | refine Cont.seq ?_ | refine Cont.seq_ret ?_ | refine Cont.seq_exit ?_ | refine Cont.blk ?_ | refine Cont.blk_ret ?_ | refine Cont.blk_exit ?_ | refine Cont.lp_ret ?_ | refine Cont.lp_exit ?_ | refine Cont.nil ?_ | refine Cont.op rfl ?_ | refine OrdP.cons rfl ?_ | refine OrdP.nil ?_)
      refine ⟨fun hc => ?_, fun hc => ?_⟩
      · have hc : t[i] = 47 := (b47 hlt).1 hc
        repeat (first | refine Ops.cons ?_ | refine Ops.nil ?_ | refine And.intro rfl ?_ | refine And.intro (Nat.le_of_ble_eq_true rfl) ?_ | refine And.intro (Int.natCast_nonneg _) ?_ | refine fun (_ : Nat) => ?_ | refine Ord.quiet rfl ?_ | refine Ord.loud rfl ?_ | refine Ord.nil ?_ | refine Run.seq ?_ | refine Run.text ?_ | refine Run.cond ?_ | refine Run.blk ?_ | refine Run.skip ?_ | refine Run.ret ?_ | refine Run.exit ?_ | refine Cont.seq ?_ | refine Cont.seq_ret ?_ | refine Cont.seq_exit ?_ | refine Cont.blk ?_ | refine Cont.blk_ret ?_ | refine Cont.blk_exit ?_ | refine Cont.lp_ret ?_ | refine Cont.lp_exit ?_ | refine Cont.nil ?_ | refine Cont.op rfl ?_ | refine OrdP.cons rfl ?_ | refine OrdP.nil ?_)
        refine ⟨show (f : Int) ≤ (i : Int) by omega, show (i : Int) ≤ (t.size : Int) by omega, ?_⟩
        repeat (first | refine Ops.cons ?_ | refine Ops.nil ?_ | refine And.intro rfl ?_ | refine And.intro (Nat.le_of_ble_eq_true rfl) ?_ | refine And.intro (Int.natCast_nonneg _) ?_ | refine fun (_ : Nat) => ?_ | refine Ord.quiet rfl ?_ | refine Ord.loud rfl ?_ | refine Ord.nil ?_ | refine Run.seq ?_ | refine Run.text ?_ | refine Run.cond ?_ | refine Run.blk ?_ | refine Run.skip ?_ | refine Run.ret ?_ | refine Run.exit ?_ | refine Cont.seq ?_ | refine Cont.seq_ret ?_ | refine Cont.seq_exit ?_ | refine Cont.blk ?_ | refine Cont.blk_ret ?_ | refine Cont.blk_exit ?_ | refine Cont.lp_ret ?_ | refine Cont.lp_exit ?_ | refine Cont.nil ?_ | refine Cont.op rfl ?_ | refine OrdP.cons rfl ?_ | refine OrdP.nil ?_)
        refine ⟨(List.length_map ..).symm, show ((ps.map AV.str).length + 1) * 16 ≤ _ by rw [List.length_map]; omega, ?_⟩
        refine fun g2 C2 => ?_
        repeat (first | refine Ops.cons ?_ | refine Ops.nil ?_ | refine And.intro rfl ?_ | refine And.intro (Nat.le_of_ble_eq_true rfl) ?_ | refine And.intro (Int.natCast_nonneg _) ?_ | refine fun (_ : Nat) => ?_ | refine Ord.quiet rfl ?_ | refine Ord.loud rfl ?_ | refine Ord.nil ?_ | refine Run.seq ?_ | refine Run.text ?_ | refine Run.cond ?_ | refine Run.blk ?_ | refine Run.skip ?_ | refine Run.ret ?_ | refine Run.exit ?_ | refine Cont.seq ?_ | refine Cont.seq_ret ?_ | refine Cont.seq_exit ?_ | refine Cont.blk ?_ | refine Cont.blk_ret ?_ | refine Cont.blk_exit ?_ | refine Cont.lp_ret ?_ | refine Cont.lp_exit ?_ | refine Cont.nil ?_ | refine Cont.op rfl ?_ | refine OrdP.cons rfl ?_ | refine OrdP.nil ?_)
        refine fun r hr => ?_
        obtain rfl := add1 hr (by omega)
        repeat (first | refine Ops.cons ?_ | refine Ops.nil ?_ | refine And.intro rfl ?_ | refine And.intro (Nat.le_of_ble_eq_true rfl) ?_ | refine And.intro (Int.natCast_nonneg _) ?_ | refine fun (_ : Nat) => ?_ | refine Ord.quiet rfl ?_ | refine Ord.loud rfl ?_ | refine Ord.nil ?_ | refine Run.seq ?_ | refine Run.text ?_ | refine Run.cond ?_ | refine Run.blk ?_ | refine Run.skip ?_ | refine Run.ret ?_ | refine Run.exit ?_ | refine Cont.seq ?_ | refine Cont.seq_ret ?_ | refine Cont.seq_exit ?_ | refine Cont.blk ?_ | refine Cont.blk_ret ?_ | refine Cont.blk_exit ?_ | refine Cont.lp_ret ?_ | refine Cont.lp_exit ?_ | refine Cont.nil ?_ | refine Cont.op rfl ?_ | refine OrdP.cons rfl ?_ | refine OrdP.nil ?_)
        refine fun r hr => ?_
        obtain rfl := add1 hr (by omega)
        repeat (first | refine Ops.cons ?_ | refine Ops.nil ?_ | refine And.intro rfl ?_ | refine And.intro (Nat.le_of_ble_eq_true rfl) ?_ | refine And.intro (Int.natCast_nonneg _) ?_ | refine fun (_ : Nat) => ?_ | refine Ord.quiet rfl ?_ | refine Ord.loud rfl ?_ | refine Ord.nil ?_ | refine Run.seq ?_ | refine Run.text ?_ | refine Run.cond ?_ | refine Run.blk ?_ | refine Run.skip ?_ | refine Run.ret ?_ | refine Run.exit ?_ | refine Cont.seq ?_ | refine Cont.seq_ret ?_ | refine Cont.seq_exit ?_ | refine Cont.blk ?_ | refine Cont.blk_ret ?_ | refine Cont.blk_exit ?_ | refine Cont.lp_ret ?_ | refine Cont.lp_exit ?_ | refine Cont.nil ?_ | refine Cont.op rfl ?_ | refine OrdP.cons rfl ?_ | refine OrdP.nil ?_)
        refine Cont.lp ?_
        refine ⟨t.size + 1 - (i + 1), [.str t, .junk, .junk, .sl 1 g2 C2 ((ps.map AV.str).length + 1), .int .i64 (i + 1 : Nat), .int .i64 (i + 1 : Nat), .junk, .junk, .junk, .junk, .junk, .junk, .junk, .junk, .junk, .junk, .junk, .junk, .junk, .junk, .junk, .junk, .junk, .junk, .junk, .junk, .junk, .junk, .junk, .junk, .junk, .junk], 2, by omega, ?_, ⟨i + 1, i + 1, ps ++ [t.extract f i], rfl, by omega, by omega, by omega, by simp; omega, newP (by omega) (.inr ⟨hlt, hc⟩), .inr ⟨by simp, x0, g2, C2, by simp, congrArg (fun l => [x0, (g2, AObj.row 9 1 C2 l)]) (show ps.map AV.str ++ [.str (t.extract f i)] = _ by simp)⟩⟩⟩
        repeat (first | exact trivial | refine ⟨.inl rfl, ?_⟩ | refine ⟨.inr rfl, ?_⟩)
      · have hc : ¬ t[i] = 47 := fun e => hc ((b47 hlt).2 e)
        repeat (first | refine Ops.cons ?_ | refine Ops.nil ?_ | refine And.intro rfl ?_ | refine And.intro (Nat.le_of_ble_eq_true rfl) ?_ | refine And.intro (Int.natCast_nonneg _) ?_ | refine fun (_ : Nat) => ?_ | refine Ord.quiet rfl ?_ | refine Ord.loud rfl ?_ | refine Ord.nil ?_ | refine Run.seq ?_ | refine Run.text ?_ | refine Run.cond ?_ | refine Run.blk ?_ | refine Run.skip ?_ | refine Run.ret ?_ | refine Run.exit ?_ | refine Cont.seq ?_ | refine Cont.seq_ret ?_ | refine Cont.seq_exit ?_ | refine Cont.blk ?_ | refine Cont.blk_ret ?_ | refine Cont.blk_exit ?_ | refine Cont.lp_ret ?_ | refine Cont.lp_exit ?_ | refine Cont.nil ?_ | refine Cont.op rfl ?_ | refine OrdP.cons rfl ?_ | refine OrdP.nil ?_)
        refine fun r hr => ?_
        obtain rfl := add1 hr (by omega)
        repeat (first | refine Ops.cons ?_ | refine Ops.nil ?_ | refine And.intro rfl ?_ | refine And.intro (Nat.le_of_ble_eq_true rfl) ?_ | refine And.intro (Int.natCast_nonneg _) ?_ | refine fun (_ : Nat) => ?_ | refine Ord.quiet rfl ?_ | refine Ord.loud rfl ?_ | refine Ord.nil ?_ | refine Run.seq ?_ | refine Run.text ?_ | refine Run.cond ?_ | refine Run.blk ?_ | refine Run.skip ?_ | refine Run.ret ?_ | refine Run.exit ?_ | refine Cont.seq ?_ | refine Cont.seq_ret ?_ | refine Cont.seq_exit ?_ | refine Cont.blk ?_ | refine Cont.blk_ret ?_ | refine Cont.blk_exit ?_ | refine Cont.lp_ret ?_ | refine Cont.lp_exit ?_ | refine Cont.nil ?_ | refine Cont.op rfl ?_ | refine OrdP.cons rfl ?_ | refine OrdP.nil ?_)
        refine Cont.lp ?_
        refine ⟨t.size + 1 - (i + 1), [.str t, .junk, .junk, .sl 1 g Cp ps.length, .int .i64 f, .int .i64 (i + 1 : Nat), .junk, .junk, .junk, .junk, .junk, .junk, .junk, .junk, .junk, .junk, .junk, .junk, .junk, .junk, .junk, .junk, .junk, .junk, .junk, .junk, .junk, .junk, .junk, .junk, .junk, .junk], 2, by omega, ?_, ⟨f, i + 1, ps, rfl, by omega, by omega, by omega, by omega, newN hlt hc, .inr ⟨hps, x0, g, Cp, rfl, rfl⟩⟩⟩
        repeat (first | exact trivial | refine ⟨.inl rfl, ?_⟩ | refine ⟨.inr rfl, ?_⟩)

end Go.Proofs.YtfohedaadncefaaDoor.HBT
