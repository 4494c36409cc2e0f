/- The contracts of what puts a number or a text behind bytes: the program's writer, and the document's own functions. -/
import Derived.Test.YtfohedaadncefaaDoorHbD8
namespace Go.Proofs.YtfohedaadncefaaDoor.HBT
open Go Go.Proofs.YtfohedaadncefaaDoor.HB Go.RowKit
set_option maxRecDepth 8000

/-- Bytes so far, as a slice of one's own. -/
def BH (acc : List Int) (b : AV) (L : AHeap) : Prop := (acc = [] ∧ b = .nils ∧ L = []) ∨ (acc ≠ [] ∧ ∃ g Cp, b = .sl 0 g Cp acc.length ∧ L = [(g, .row 5 1 Cp (u8s acc))])
theorem numI_ne (v : Nat) : numI v ≠ [] := fun e => by have := (numI_len v).1; rw [e] at this; simp at this
theorem txtI_ne (s : ByteArray) : txtI s ≠ [] := fun e => numI_ne s.size (List.append_eq_nil_iff.1 e).1
theorem u8s_take (l : List Int) : (u8s l).take l.length = u8s l := List.take_of_length_le (by rw [List.length_map]; exact Nat.le_refl _)
theorem u8s_len (l : List Int) : (u8s l).length = l.length := List.length_map ..
theorem u8s_app (l m : List Int) : u8s l ++ u8s m = u8s (l ++ m) := (List.map_append ..).symm

theorem refNum_spec (acc : List Int) (v : Nat) (hv : v ≤ 2147483647) (hacc : acc.length ≤ 1000000) {b : AV} {L : AHeap} (h : BH acc b L) : FnSpec C 64 [b, .int .i64 v] L (fun r L' => BH (acc ++ numI v) r L') := by
  have hl : 1 ≤ (numI v).length ∧ (numI v).length ≤ 1000000 := ⟨(numI_len v).1, by have := (numI_len v).2; omega⟩
  have hne : acc ++ numI v ≠ [] := fun e => numI_ne v (List.append_eq_nil_iff.1 e).2
  rcases h with ⟨rfl, rfl, rfl⟩ | ⟨hn, g, Cp, rfl, rfl⟩
  · refine FnSpec.start C_ok Tryd.func64 rfl rfl Tryd.ntmps64 ?_
    repeat (first | refine Ops.go ?_ | refine And.intro rfl ?_ | refine And.intro (Nat.le_of_ble_eq_true rfl) ?_ | refine And.intro (Int.natCast_nonneg _) ?_ | refine fun (_ : Nat) => ?_ | refine Ord.go ?_ | refine Run.go rfl ?_ | refine Cont.go rfl ?_ | refine OrdP.go ?_)
    refine ACall.pure _ (refNumber_spec v hv) ?_
    rintro r L' ⟨g1, C1, rfl, rfl⟩
    refine ⟨.tuple [.sl 0 g1 C1 (numI v).length, .int .i64 0], Sub.refl _, ?_⟩
    repeat (first | refine Ops.go ?_ | refine And.intro rfl ?_ | refine And.intro (Nat.le_of_ble_eq_true rfl) ?_ | refine And.intro (Int.natCast_nonneg _) ?_ | refine fun (_ : Nat) => ?_ | refine Ord.go ?_ | refine Run.go rfl ?_ | refine Cont.go rfl ?_ | refine OrdP.go ?_)
    refine ⟨Nat.le_of_eq (u8s_len _).symm, ?_⟩
    repeat (first | refine Ops.go ?_ | refine And.intro rfl ?_ | refine And.intro (Nat.le_of_ble_eq_true rfl) ?_ | refine And.intro (Int.natCast_nonneg _) ?_ | refine fun (_ : Nat) => ?_ | refine Ord.go ?_ | refine Run.go rfl ?_ | refine Cont.go rfl ?_ | refine OrdP.go ?_)
    refine ⟨show (List.take (numI v).length (u8s (numI v))).length * 1 ≤ _ by rw [u8s_take, u8s_len]; omega, fun e => ?_, fun _ g2 C2 => ?_⟩
    · exact absurd (show u8s (numI v) = [] by rw [← u8s_take]; exact e) (fun e => by have := congrArg List.length e; rw [u8s_len, List.length_nil] at this; omega)
    repeat (first | refine Ops.go ?_ | refine And.intro rfl ?_ | refine And.intro (Nat.le_of_ble_eq_true rfl) ?_ | refine And.intro (Int.natCast_nonneg _) ?_ | refine fun (_ : Nat) => ?_ | refine Ord.go ?_ | refine Run.go rfl ?_ | refine Cont.go rfl ?_ | refine OrdP.go ?_)
    refine ⟨.sl 0 g2 C2 (List.take (numI v).length (u8s (numI v))).length, _, FinOk.keep _ [1] (Sub.sl _ _ _ _ _) (by decide) rfl, .inr ⟨hne, g2, C2, by rw [u8s_take, u8s_len]; rfl, congrArg (fun l => [(g2, AObj.row 5 1 C2 l)]) (u8s_take _)⟩⟩
  · refine FnSpec.start C_ok Tryd.func64 rfl rfl Tryd.ntmps64 ?_
    repeat (first | refine Ops.go ?_ | refine And.intro rfl ?_ | refine And.intro (Nat.le_of_ble_eq_true rfl) ?_ | refine And.intro (Int.natCast_nonneg _) ?_ | refine fun (_ : Nat) => ?_ | refine Ord.go ?_ | refine Run.go rfl ?_ | refine Cont.go rfl ?_ | refine OrdP.go ?_)
    refine ACall.pure _ (refNumber_spec v hv) ?_
    rintro r L' ⟨g1, C1, rfl, rfl⟩
    refine ⟨.tuple [.sl 1 g1 C1 (numI v).length, .int .i64 0], Sub.tuples ⟨Sub.sl _ _ _ _ _, Sub.refl _, trivial⟩, ?_⟩
    repeat (first | refine Ops.go ?_ | refine And.intro rfl ?_ | refine And.intro (Nat.le_of_ble_eq_true rfl) ?_ | refine And.intro (Int.natCast_nonneg _) ?_ | refine fun (_ : Nat) => ?_ | refine Ord.go ?_ | refine Run.go rfl ?_ | refine Cont.go rfl ?_ | refine OrdP.go ?_)
    refine ⟨Nat.le_of_eq (u8s_len _).symm, ?_⟩
    repeat (first | refine Ops.go ?_ | refine And.intro rfl ?_ | refine And.intro (Nat.le_of_ble_eq_true rfl) ?_ | refine And.intro (Int.natCast_nonneg _) ?_ | refine fun (_ : Nat) => ?_ | refine Ord.go ?_ | refine Run.go rfl ?_ | refine Cont.go rfl ?_ | refine OrdP.go ?_)
    refine ⟨(u8s_len _).symm, show ((u8s acc).length + (List.take (numI v).length (u8s (numI v))).length) * 1 ≤ _ by rw [u8s_take, u8s_len, u8s_len]; omega, fun g2 C2 => ?_⟩
    repeat (first | refine Ops.go ?_ | refine And.intro rfl ?_ | refine And.intro (Nat.le_of_ble_eq_true rfl) ?_ | refine And.intro (Int.natCast_nonneg _) ?_ | refine fun (_ : Nat) => ?_ | refine Ord.go ?_ | refine Run.go rfl ?_ | refine Cont.go rfl ?_ | refine OrdP.go ?_)
    refine ⟨.sl 0 g2 C2 ((u8s acc).length + (List.take (numI v).length (u8s (numI v))).length), _, FinOk.keep _ [0] (Sub.sl _ _ _ _ _) (by decide) rfl, .inr ⟨hne, g2, C2, by rw [u8s_take, u8s_len, u8s_len, List.length_append], congrArg (fun l => [(g2, AObj.row 5 1 C2 l)]) (show u8s acc ++ List.take (numI v).length (u8s (numI v)) = _ by rw [u8s_take, u8s_app])⟩⟩

theorem refTxt_spec (acc : List Int) (s : ByteArray) (hs : s.size ≤ 262144) (hacc : acc.length ≤ 1000000) {b : AV} {L : AHeap} (h : BH acc b L) : FnSpec C 65 [b, .str s] L (fun r L' => BH (acc ++ txtI s) r L') := by
  have hl : 1 ≤ (txtI s).length ∧ (txtI s).length ≤ 1000000 := by have := numI_len s.size; unfold txtI; rw [List.length_append, bytesI_len]; omega
  have hne : acc ++ txtI s ≠ [] := fun e => txtI_ne s (List.append_eq_nil_iff.1 e).2
  rcases h with ⟨rfl, rfl, rfl⟩ | ⟨hn, g, Cp, rfl, rfl⟩
  · refine FnSpec.start C_ok Tryd.func65 rfl rfl Tryd.ntmps65 ?_
    repeat (first | refine Ops.go ?_ | refine And.intro rfl ?_ | refine And.intro (Nat.le_of_ble_eq_true rfl) ?_ | refine And.intro (Int.natCast_nonneg _) ?_ | refine fun (_ : Nat) => ?_ | refine Ord.go ?_ | refine Run.go rfl ?_ | refine Cont.go rfl ?_ | refine OrdP.go ?_)
    refine ACall.pure _ (refText_spec s hs) ?_
    rintro r L' ⟨g1, C1, rfl, rfl⟩
    refine ⟨.tuple [.sl 0 g1 C1 (txtI s).length, .int .i64 0], Sub.refl _, ?_⟩
    repeat (first | refine Ops.go ?_ | refine And.intro rfl ?_ | refine And.intro (Nat.le_of_ble_eq_true rfl) ?_ | refine And.intro (Int.natCast_nonneg _) ?_ | refine fun (_ : Nat) => ?_ | refine Ord.go ?_ | refine Run.go rfl ?_ | refine Cont.go rfl ?_ | refine OrdP.go ?_)
    refine ⟨Nat.le_of_eq (u8s_len _).symm, ?_⟩
    repeat (first | refine Ops.go ?_ | refine And.intro rfl ?_ | refine And.intro (Nat.le_of_ble_eq_true rfl) ?_ | refine And.intro (Int.natCast_nonneg _) ?_ | refine fun (_ : Nat) => ?_ | refine Ord.go ?_ | refine Run.go rfl ?_ | refine Cont.go rfl ?_ | refine OrdP.go ?_)
    refine ⟨show (List.take (txtI s).length (u8s (txtI s))).length * 1 ≤ _ by rw [u8s_take, u8s_len]; omega, fun e => ?_, fun _ g2 C2 => ?_⟩
    · exact absurd (show u8s (txtI s) = [] by rw [← u8s_take]; exact e) (fun e => by have := congrArg List.length e; rw [u8s_len, List.length_nil] at this; omega)
    repeat (first | refine Ops.go ?_ | refine And.intro rfl ?_ | refine And.intro (Nat.le_of_ble_eq_true rfl) ?_ | refine And.intro (Int.natCast_nonneg _) ?_ | refine fun (_ : Nat) => ?_ | refine Ord.go ?_ | refine Run.go rfl ?_ | refine Cont.go rfl ?_ | refine OrdP.go ?_)
    refine ⟨.sl 0 g2 C2 (List.take (txtI s).length (u8s (txtI s))).length, _, FinOk.keep _ [1] (Sub.sl _ _ _ _ _) (by decide) rfl, .inr ⟨hne, g2, C2, by rw [u8s_take, u8s_len]; rfl, congrArg (fun l => [(g2, AObj.row 5 1 C2 l)]) (u8s_take _)⟩⟩
  · refine FnSpec.start C_ok Tryd.func65 rfl rfl Tryd.ntmps65 ?_
    repeat (first | refine Ops.go ?_ | refine And.intro rfl ?_ | refine And.intro (Nat.le_of_ble_eq_true rfl) ?_ | refine And.intro (Int.natCast_nonneg _) ?_ | refine fun (_ : Nat) => ?_ | refine Ord.go ?_ | refine Run.go rfl ?_ | refine Cont.go rfl ?_ | refine OrdP.go ?_)
    refine ACall.pure _ (refText_spec s hs) ?_
    rintro r L' ⟨g1, C1, rfl, rfl⟩
    refine ⟨.tuple [.sl 1 g1 C1 (txtI s).length, .int .i64 0], Sub.tuples ⟨Sub.sl _ _ _ _ _, Sub.refl _, trivial⟩, ?_⟩
    repeat (first | refine Ops.go ?_ | refine And.intro rfl ?_ | refine And.intro (Nat.le_of_ble_eq_true rfl) ?_ | refine And.intro (Int.natCast_nonneg _) ?_ | refine fun (_ : Nat) => ?_ | refine Ord.go ?_ | refine Run.go rfl ?_ | refine Cont.go rfl ?_ | refine OrdP.go ?_)
    refine ⟨Nat.le_of_eq (u8s_len _).symm, ?_⟩
    repeat (first | refine Ops.go ?_ | refine And.intro rfl ?_ | refine And.intro (Nat.le_of_ble_eq_true rfl) ?_ | refine And.intro (Int.natCast_nonneg _) ?_ | refine fun (_ : Nat) => ?_ | refine Ord.go ?_ | refine Run.go rfl ?_ | refine Cont.go rfl ?_ | refine OrdP.go ?_)
    refine ⟨(u8s_len _).symm, show ((u8s acc).length + (List.take (txtI s).length (u8s (txtI s))).length) * 1 ≤ _ by rw [u8s_take, u8s_len, u8s_len]; omega, fun g2 C2 => ?_⟩
    repeat (first | refine Ops.go ?_ | refine And.intro rfl ?_ | refine And.intro (Nat.le_of_ble_eq_true rfl) ?_ | refine And.intro (Int.natCast_nonneg _) ?_ | refine fun (_ : Nat) => ?_ | refine Ord.go ?_ | refine Run.go rfl ?_ | refine Cont.go rfl ?_ | refine OrdP.go ?_)
    refine ⟨.sl 0 g2 C2 ((u8s acc).length + (List.take (txtI s).length (u8s (txtI s))).length), _, FinOk.keep _ [0] (Sub.sl _ _ _ _ _) (by decide) rfl, .inr ⟨hne, g2, C2, by rw [u8s_take, u8s_len, u8s_len, List.length_append], congrArg (fun l => [(g2, AObj.row 5 1 C2 l)]) (show u8s acc ++ List.take (txtI s).length (u8s (txtI s)) = _ by rw [u8s_take, u8s_app])⟩⟩

/-- The writer, and what it has so far. -/
def WH (acc : List Int) (gw : Nat) (L : AHeap) : Prop := (acc = [] ∧ L = [(gw, .cells 61 [.nils])]) ∨ (acc ≠ [] ∧ ∃ g Cp, L = [(gw, .cells 61 [.sl 1 g Cp acc.length]), (g, .row 5 1 Cp (u8s acc))])

theorem wNum_spec (acc : List Int) (v : Nat) (hv : v ≤ 2147483647) (hacc : acc.length ≤ 1000000) {gw : Nat} {L : AHeap} (h : WH acc gw L) : FnSpec C 34 [.ptr 0 gw 0, .int .i64 v] L (fun r L' => r = .tuple [] ∧ WH (acc ++ numI v) gw L') := by
  have hl : 1 ≤ (numI v).length ∧ (numI v).length ≤ 1000000 := ⟨(numI_len v).1, by have := (numI_len v).2; omega⟩
  have hne : acc ++ numI v ≠ [] := fun e => numI_ne v (List.append_eq_nil_iff.1 e).2
  rcases h with ⟨rfl, rfl⟩ | ⟨hn, g, Cp, rfl⟩
  · refine FnSpec.start C_ok Tryd.func34 rfl rfl Tryd.ntmps34 ?_
    repeat (first | refine Ops.go ?_ | refine And.intro rfl ?_ | refine And.intro (Nat.le_of_ble_eq_true rfl) ?_ | refine And.intro (Int.natCast_nonneg _) ?_ | refine fun (_ : Nat) => ?_ | refine Ord.go ?_ | refine Run.go rfl ?_ | refine Cont.go rfl ?_ | refine OrdP.go ?_)
    refine ACall.pure _ (number_spec v hv) ?_
    rintro r L' ⟨g1, C1, rfl, rfl⟩
    refine ⟨.tuple [.sl 1 g1 C1 (numI v).length, .int .i64 0], Sub.tuples ⟨Sub.sl _ _ _ _ _, Sub.refl _, trivial⟩, ?_⟩
    repeat (first | refine Ops.go ?_ | refine And.intro rfl ?_ | refine And.intro (Nat.le_of_ble_eq_true rfl) ?_ | refine And.intro (Int.natCast_nonneg _) ?_ | refine fun (_ : Nat) => ?_ | refine Ord.go ?_ | refine Run.go rfl ?_ | refine Cont.go rfl ?_ | refine OrdP.go ?_)
    refine ⟨Nat.le_of_eq (u8s_len _).symm, ?_⟩
    repeat (first | refine Ops.go ?_ | refine And.intro rfl ?_ | refine And.intro (Nat.le_of_ble_eq_true rfl) ?_ | refine And.intro (Int.natCast_nonneg _) ?_ | refine fun (_ : Nat) => ?_ | refine Ord.go ?_ | refine Run.go rfl ?_ | refine Cont.go rfl ?_ | refine OrdP.go ?_)
    refine ⟨show (List.take (numI v).length (u8s (numI v))).length * 1 ≤ _ by rw [u8s_take, u8s_len]; omega, fun e => ?_, fun _ g2 C2 => ?_⟩
    · exact absurd (show u8s (numI v) = [] by rw [← u8s_take]; exact e) (fun e => by have := congrArg List.length e; rw [u8s_len, List.length_nil] at this; omega)
    repeat (first | refine Ops.go ?_ | refine And.intro rfl ?_ | refine And.intro (Nat.le_of_ble_eq_true rfl) ?_ | refine And.intro (Int.natCast_nonneg _) ?_ | refine fun (_ : Nat) => ?_ | refine Ord.go ?_ | refine Run.go rfl ?_ | refine Cont.go rfl ?_ | refine OrdP.go ?_)
    refine ⟨.tuple [], [(gw, .cells 61 [.sl 1 g2 C2 (List.take (numI v).length (u8s (numI v))).length]), (g2, .row 5 1 C2 (List.take (numI v).length (u8s (numI v))))], FinOk.keepS _ [0, 2] (Sub.refl _) (by decide) rfl ⟨rfl, SubO.cells ⟨Sub.sl _ _ _ _ _, trivial⟩, rfl, SubO.rowR _ _ _ _, trivial⟩, rfl, .inr ⟨hne, g2, C2, by rw [u8s_take, u8s_len]; rfl⟩⟩
  · refine FnSpec.start C_ok Tryd.func34 rfl rfl Tryd.ntmps34 ?_
    repeat (first | refine Ops.go ?_ | refine And.intro rfl ?_ | refine And.intro (Nat.le_of_ble_eq_true rfl) ?_ | refine And.intro (Int.natCast_nonneg _) ?_ | refine fun (_ : Nat) => ?_ | refine Ord.go ?_ | refine Run.go rfl ?_ | refine Cont.go rfl ?_ | refine OrdP.go ?_)
    refine ACall.pure _ (number_spec v hv) ?_
    rintro r L' ⟨g1, C1, rfl, rfl⟩
    refine ⟨.tuple [.sl 2 g1 C1 (numI v).length, .int .i64 0], Sub.tuples ⟨Sub.sl _ _ _ _ _, Sub.refl _, trivial⟩, ?_⟩
    repeat (first | refine Ops.go ?_ | refine And.intro rfl ?_ | refine And.intro (Nat.le_of_ble_eq_true rfl) ?_ | refine And.intro (Int.natCast_nonneg _) ?_ | refine fun (_ : Nat) => ?_ | refine Ord.go ?_ | refine Run.go rfl ?_ | refine Cont.go rfl ?_ | refine OrdP.go ?_)
    refine ⟨Nat.le_of_eq (u8s_len _).symm, ?_⟩
    repeat (first | refine Ops.go ?_ | refine And.intro rfl ?_ | refine And.intro (Nat.le_of_ble_eq_true rfl) ?_ | refine And.intro (Int.natCast_nonneg _) ?_ | refine fun (_ : Nat) => ?_ | refine Ord.go ?_ | refine Run.go rfl ?_ | refine Cont.go rfl ?_ | refine OrdP.go ?_)
    refine ⟨(u8s_len _).symm, show ((u8s acc).length + (List.take (numI v).length (u8s (numI v))).length) * 1 ≤ _ by rw [u8s_take, u8s_len, u8s_len]; omega, fun g2 C2 => ?_⟩
    repeat (first | refine Ops.go ?_ | refine And.intro rfl ?_ | refine And.intro (Nat.le_of_ble_eq_true rfl) ?_ | refine And.intro (Int.natCast_nonneg _) ?_ | refine fun (_ : Nat) => ?_ | refine Ord.go ?_ | refine Run.go rfl ?_ | refine Cont.go rfl ?_ | refine OrdP.go ?_)
    refine ⟨.tuple [], _, FinOk.keep _ [0, 1] (Sub.refl _) (by decide) rfl, rfl, .inr ⟨hne, g2, C2, ?_⟩⟩
    show [(gw, AObj.cells 61 [.sl 1 g2 C2 ((u8s acc).length + (List.take (numI v).length (u8s (numI v))).length)]), (g2, AObj.row 5 1 C2 (u8s acc ++ List.take (numI v).length (u8s (numI v))))] = _
    rw [u8s_take, u8s_len, u8s_len, u8s_app, List.length_append]

theorem wTxt_spec (acc : List Int) (s : ByteArray) (hs : s.size ≤ 262144) (hacc : acc.length ≤ 1000000) {gw : Nat} {L : AHeap} (h : WH acc gw L) : FnSpec C 35 [.ptr 0 gw 0, .str s] L (fun r L' => r = .tuple [] ∧ WH (acc ++ txtI s) gw L') := by
  have hl : 1 ≤ (txtI s).length ∧ (txtI s).length ≤ 1000000 := by have := numI_len s.size; unfold txtI; rw [List.length_append, bytesI_len]; omega
  have hne : acc ++ txtI s ≠ [] := fun e => txtI_ne s (List.append_eq_nil_iff.1 e).2
  rcases h with ⟨rfl, rfl⟩ | ⟨hn, g, Cp, rfl⟩
  · refine FnSpec.start C_ok Tryd.func35 rfl rfl Tryd.ntmps35 ?_
    repeat (first | refine Ops.go ?_ | refine And.intro rfl ?_ | refine And.intro (Nat.le_of_ble_eq_true rfl) ?_ | refine And.intro (Int.natCast_nonneg _) ?_ | refine fun (_ : Nat) => ?_ | refine Ord.go ?_ | refine Run.go rfl ?_ | refine Cont.go rfl ?_ | refine OrdP.go ?_)
    refine ACall.pure _ (text_spec s hs) ?_
    rintro r L' ⟨g1, C1, rfl, rfl⟩
    refine ⟨.tuple [.sl 1 g1 C1 (txtI s).length, .int .i64 0], Sub.tuples ⟨Sub.sl _ _ _ _ _, Sub.refl _, trivial⟩, ?_⟩
    repeat (first | refine Ops.go ?_ | refine And.intro rfl ?_ | refine And.intro (Nat.le_of_ble_eq_true rfl) ?_ | refine And.intro (Int.natCast_nonneg _) ?_ | refine fun (_ : Nat) => ?_ | refine Ord.go ?_ | refine Run.go rfl ?_ | refine Cont.go rfl ?_ | refine OrdP.go ?_)
    refine ⟨Nat.le_of_eq (u8s_len _).symm, ?_⟩
    repeat (first | refine Ops.go ?_ | refine And.intro rfl ?_ | refine And.intro (Nat.le_of_ble_eq_true rfl) ?_ | refine And.intro (Int.natCast_nonneg _) ?_ | refine fun (_ : Nat) => ?_ | refine Ord.go ?_ | refine Run.go rfl ?_ | refine Cont.go rfl ?_ | refine OrdP.go ?_)
    refine ⟨show (List.take (txtI s).length (u8s (txtI s))).length * 1 ≤ _ by rw [u8s_take, u8s_len]; omega, fun e => ?_, fun _ g2 C2 => ?_⟩
    · exact absurd (show u8s (txtI s) = [] by rw [← u8s_take]; exact e) (fun e => by have := congrArg List.length e; rw [u8s_len, List.length_nil] at this; omega)
    repeat (first | refine Ops.go ?_ | refine And.intro rfl ?_ | refine And.intro (Nat.le_of_ble_eq_true rfl) ?_ | refine And.intro (Int.natCast_nonneg _) ?_ | refine fun (_ : Nat) => ?_ | refine Ord.go ?_ | refine Run.go rfl ?_ | refine Cont.go rfl ?_ | refine OrdP.go ?_)
    refine ⟨.tuple [], [(gw, .cells 61 [.sl 1 g2 C2 (List.take (txtI s).length (u8s (txtI s))).length]), (g2, .row 5 1 C2 (List.take (txtI s).length (u8s (txtI s))))], FinOk.keepS _ [0, 2] (Sub.refl _) (by decide) rfl ⟨rfl, SubO.cells ⟨Sub.sl _ _ _ _ _, trivial⟩, rfl, SubO.rowR _ _ _ _, trivial⟩, rfl, .inr ⟨hne, g2, C2, by rw [u8s_take, u8s_len]; rfl⟩⟩
  · refine FnSpec.start C_ok Tryd.func35 rfl rfl Tryd.ntmps35 ?_
    repeat (first | refine Ops.go ?_ | refine And.intro rfl ?_ | refine And.intro (Nat.le_of_ble_eq_true rfl) ?_ | refine And.intro (Int.natCast_nonneg _) ?_ | refine fun (_ : Nat) => ?_ | refine Ord.go ?_ | refine Run.go rfl ?_ | refine Cont.go rfl ?_ | refine OrdP.go ?_)
    refine ACall.pure _ (text_spec s hs) ?_
    rintro r L' ⟨g1, C1, rfl, rfl⟩
    refine ⟨.tuple [.sl 2 g1 C1 (txtI s).length, .int .i64 0], Sub.tuples ⟨Sub.sl _ _ _ _ _, Sub.refl _, trivial⟩, ?_⟩
    repeat (first | refine Ops.go ?_ | refine And.intro rfl ?_ | refine And.intro (Nat.le_of_ble_eq_true rfl) ?_ | refine And.intro (Int.natCast_nonneg _) ?_ | refine fun (_ : Nat) => ?_ | refine Ord.go ?_ | refine Run.go rfl ?_ | refine Cont.go rfl ?_ | refine OrdP.go ?_)
    refine ⟨Nat.le_of_eq (u8s_len _).symm, ?_⟩
    repeat (first | refine Ops.go ?_ | refine And.intro rfl ?_ | refine And.intro (Nat.le_of_ble_eq_true rfl) ?_ | refine And.intro (Int.natCast_nonneg _) ?_ | refine fun (_ : Nat) => ?_ | refine Ord.go ?_ | refine Run.go rfl ?_ | refine Cont.go rfl ?_ | refine OrdP.go ?_)
    refine ⟨(u8s_len _).symm, show ((u8s acc).length + (List.take (txtI s).length (u8s (txtI s))).length) * 1 ≤ _ by rw [u8s_take, u8s_len, u8s_len]; omega, fun g2 C2 => ?_⟩
    repeat (first | refine Ops.go ?_ | refine And.intro rfl ?_ | refine And.intro (Nat.le_of_ble_eq_true rfl) ?_ | refine And.intro (Int.natCast_nonneg _) ?_ | refine fun (_ : Nat) => ?_ | refine Ord.go ?_ | refine Run.go rfl ?_ | refine Cont.go rfl ?_ | refine OrdP.go ?_)
    refine ⟨.tuple [], _, FinOk.keep _ [0, 1] (Sub.refl _) (by decide) rfl, rfl, .inr ⟨hne, g2, C2, ?_⟩⟩
    show [(gw, AObj.cells 61 [.sl 1 g2 C2 ((u8s acc).length + (List.take (txtI s).length (u8s (txtI s))).length)]), (g2, AObj.row 5 1 C2 (u8s acc ++ List.take (txtI s).length (u8s (txtI s))))] = _
    rw [u8s_take, u8s_len, u8s_len, u8s_app, List.length_append]

end Go.Proofs.YtfohedaadncefaaDoor.HBT
/- The contract of the shot's text 'Encode'. -/
namespace Go.Proofs.YtfohedaadncefaaDoor.HBT
open Go Go.Proofs.YtfohedaadncefaaDoor.HB Go.RowKit
set_option maxRecDepth 8000

theorem merge_tail (a b : Nat × AObj) : ∀ (T : AHeap) (j : Nat), mergeA [1, 2] [a, b] (j + 3) T = T
  | [], j => rfl
  | x :: T, j => by
    simp only [mergeA]
    rw [show j + 3 + 1 = (j + 1) + 3 by omega, merge_tail a b T (j + 1)]
    have : idxN [1, 2] (j + 3) 0 = none := by
      simp only [idxN]
      rw [if_neg (by simp), if_neg (by simp)]
    rw [this]

theorem wstep1 {f : FuncId} {x : AV} {new : List Int} {gw : Nat} {s0 : Nat × AObj} {K : AV → AHeap → Prop} (spec : ∀ L, WH [] gw L → FnSpec C f [.ptr 0 gw 0, x] L (fun r L' => r = .tuple [] ∧ WH ([] ++ new) gw L')) (hne : new ≠ [])
    (k : ∀ g Cp, K (.tuple []) [s0, (gw, .cells 61 [.sl 2 g Cp new.length]), (g, .row 5 1 Cp (u8s new))]) : ACall C f [.ptr 1 gw 0, x] [s0, (gw, .cells 61 [.nils])] K :=
  .selS [1] (by decide) [.ptr 0 gw 0, x] [(gw, .cells 61 [.nils])] _ (.two (Sub.ptr _ _ _ _) (Sub.refl _)) ⟨rfl, SubO.cells ⟨Sub.refl _, trivial⟩, trivial⟩ (spec _ (.inl ⟨rfl, rfl⟩)) (by
    rintro r L' ⟨rfl, h⟩
    rcases h with ⟨h, _⟩ | ⟨_, g, Cp, rfl⟩
    · exact absurd h hne
    · exact ⟨.tuple [], [s0, (gw, .cells 61 [.sl 2 g Cp new.length]), (g, .row 5 1 Cp (u8s new))], Sub.refl _, ⟨rfl, SubO.refl _, rfl, SubO.cells ⟨Sub.sl _ _ _ _ _, trivial⟩, rfl, SubO.rowR _ _ _ _, trivial⟩, k g Cp⟩)
theorem wstep {f : FuncId} {x : AV} {acc new : List Int} {gw gb Cb : Nat} {s0 : Nat × AObj} {T : AHeap} {K : AV → AHeap → Prop} (spec : ∀ L, WH acc gw L → FnSpec C f [.ptr 0 gw 0, x] L (fun r L' => r = .tuple [] ∧ WH (acc ++ new) gw L')) (hacc : acc ≠ [])
    (k : ∀ g Cp, K (.tuple []) (s0 :: (gw, .cells 61 [.sl 2 g Cp (acc ++ new).length]) :: (g, .row 5 1 Cp (u8s (acc ++ new))) :: T)) :
    ACall C f [.ptr 1 gw 0, x] (s0 :: (gw, .cells 61 [.sl 2 gb Cb acc.length]) :: (gb, .row 5 1 Cb (u8s acc)) :: T) K :=
  .selS [1, 2] (by decide) [.ptr 0 gw 0, x] [(gw, .cells 61 [.sl 1 gb Cb acc.length]), (gb, .row 5 1 Cb (u8s acc))] _ (.two (Sub.ptr _ _ _ _) (Sub.refl _)) ⟨rfl, SubO.cells ⟨Sub.sl _ _ _ _ _, trivial⟩, rfl, SubO.rowR _ _ _ _, trivial⟩ (spec _ (.inr ⟨hacc, gb, Cb, rfl⟩)) (by
    rintro r L' ⟨rfl, h⟩
    rcases h with ⟨h, _⟩ | ⟨_, g, Cp, rfl⟩
    · exact absurd (List.append_eq_nil_iff.1 h).1 hacc
    · refine ⟨.tuple [], s0 :: (gw, .cells 61 [.sl 2 g Cp (acc ++ new).length]) :: (g, .row 5 1 Cp (u8s (acc ++ new))) :: T, Sub.refl _, ?_, k g Cp⟩
      show SubL (s0 :: (gw, .cells 61 [.sl 1 g Cp (acc ++ new).length]) :: (g, .row 5 1 Cp (u8s (acc ++ new))) :: mergeA [1, 2] _ (0 + 3) T) _
      rw [merge_tail]
      exact ⟨rfl, SubO.refl _, rfl, SubO.cells ⟨Sub.sl _ _ _ _ _, trivial⟩, rfl, SubO.rowR _ _ _ _, SubL.refl T⟩)

/-- A node's bytes; a shot's. -/
def nodeI (x : Sn) : List Int := txtI x.p ++ txtI x.d ++ numI x.v.toNat
def headI (st : Int) (pl : ByteArray) (kd : Int) (n : Nat) : List Int := numI st.toNat ++ txtI pl ++ numI kd.toNat ++ numI n
def nodesI (xs : List Sn) : List Int := (xs.map nodeI).flatten
def encI (st : Int) (pl : ByteArray) (kd : Int) (xs : List Sn) (n : Nat) : List Int := headI st pl kd n ++ nodesI (xs.take n)
theorem place_size {s : ByteArray} (h : parseE s = 0) : s.size ≤ 103 := by
  obtain ⟨hok, hs⟩ := place_names h
  have h1 := join_names hok.1 hok.2 (namesOf s).length
  rw [List.take_length] at h1
  have h2 : s.size = (placedB (namesOf s)).data.toList.length := by rw [← hs, Array.length_toList]; rfl
  rw [placed_data, List.length_cons] at h2
  omega
theorem txtI_len (s : ByteArray) : (txtI s).length ≤ s.size + 5 := by unfold txtI; rw [List.length_append, bytesI_len]; have := (numI_len s.size).2; omega
theorem headI_len {st : Int} {pl : ByteArray} {kd : Int} {n : Nat} (hp : parseE pl = 0) : (headI st pl kd n).length ≤ 200 := by
  unfold headI
  have h1 := (numI_len st.toNat).2
  have h2 := txtI_len pl
  have h3 := (numI_len kd.toNat).2
  have h4 := (numI_len n).2
  have h5 := place_size hp
  simp only [List.length_append]
  omega
theorem nodeI_len {x : Sn} (hp : parseE x.p = 0) (hd : x.d.size ≤ 64) : (nodeI x).length ≤ 200 := by
  unfold nodeI
  have h1 := (numI_len x.v.toNat).2
  have h2 := txtI_len x.p
  have h3 := txtI_len x.d
  have h5 := place_size hp
  simp only [List.length_append]
  omega
theorem nodesI_take {xs : List Sn} {i : Nat} {x : Sn} (ex : xs[i]? = some x) : nodesI (xs.take (i + 1)) = nodesI (xs.take i) ++ nodeI x := by
  unfold nodesI
  rw [List.take_add_one, ex]
  simp
theorem nodesI_len {xs : List Sn} {n : Nat} (hn : n ≤ xs.length) (h : ∀ (i : Nat) (x : Sn), i < n → xs[i]? = some x → parseE x.p = 0 ∧ x.d.size ≤ 64) : ∀ i, i ≤ n → (nodesI (xs.take i)).length ≤ 200 * i
  | 0, _ => by simp [nodesI]
  | i + 1, hi => by
    have ex : xs[i]? = some (xs[i]'(by omega)) := List.getElem?_eq_getElem (by omega)
    rw [nodesI_take ex, List.length_append]
    have := nodesI_len hn h i (by omega)
    have := nodeI_len (h i _ (by omega) ex).1 (h i _ (by omega) ex).2
    omega
theorem headI_ne (st : Int) (pl : ByteArray) (kd : Int) (n : Nat) : headI st pl kd n ≠ [] := fun e => by
  unfold headI at e
  exact numI_ne n (List.append_eq_nil_iff.1 e).2

set_option maxHeartbeats 2000000 in
theorem encode_spec (st : Int) (pl : ByteArray) (kd : Int) (xs : List Sn) (n : Nat) (hn : n ≤ xs.length) (hps : ∀ x ∈ xs, x.p.size ≤ 9223372036854775807) :
    FnSpec C 14 [shot st pl kd (rdo xs n)] [] (fun r L' => (¬ checkP st pl kd xs n ∧ r = .tuple [.nils, .int .i64 51] ∧ L' = []) ∨
      (checkP st pl kd xs n ∧ ∃ g Cp, r = .tuple [.sl 0 g Cp (encI st pl kd xs n).length, .int .i64 0] ∧ L' = [(g, .row 5 1 Cp (u8s (encI st pl kd xs n)))])) := by
  refine FnSpec.start C_ok Tryd.func14 rfl rfl Tryd.ntmps14 ?_
  repeat (first | refine Ops.go ?_ | refine And.intro rfl ?_ | refine And.intro (Nat.le_of_ble_eq_true rfl) ?_ | refine And.intro (Int.natCast_nonneg _) ?_ | refine fun (_ : Nat) => ?_ | refine Ord.go ?_ | refine Run.go rfl ?_ | refine Cont.go rfl ?_ | refine OrdP.go ?_)
  have c1 := check_spec st pl kd xs n hn hps
  by_cases hP : checkP st pl kd xs n
  case neg =>
    rw [show checkE st pl kd xs n = 51 from if_neg hP] at c1
    refine ACall.ret c1 ?_
    repeat (first | refine Ops.go ?_ | refine And.intro rfl ?_ | refine And.intro (Nat.le_of_ble_eq_true rfl) ?_ | refine And.intro (Int.natCast_nonneg _) ?_ | refine fun (_ : Nat) => ?_ | refine Ord.go ?_ | refine Run.go rfl ?_ | refine Cont.go rfl ?_ | refine OrdP.go ?_)
    refine ⟨fun _ => ?_, fun h => absurd (by decide) h⟩
    repeat (first | refine Ops.go ?_ | refine And.intro rfl ?_ | refine And.intro (Nat.le_of_ble_eq_true rfl) ?_ | refine And.intro (Int.natCast_nonneg _) ?_ | refine fun (_ : Nat) => ?_ | refine Ord.go ?_ | refine Run.go rfl ?_ | refine Cont.go rfl ?_ | refine OrdP.go ?_)
    exact ⟨_, [], FinOk.drop _ _, .inl ⟨hP, rfl, rfl⟩⟩
  rw [show checkE st pl kd xs n = 0 from if_pos hP] at c1
  refine ACall.ret c1 ?_
  repeat (first | refine Ops.go ?_ | refine And.intro rfl ?_ | refine And.intro (Nat.le_of_ble_eq_true rfl) ?_ | refine And.intro (Int.natCast_nonneg _) ?_ | refine fun (_ : Nat) => ?_ | refine Ord.go ?_ | refine Run.go rfl ?_ | refine Cont.go rfl ?_ | refine OrdP.go ?_)
  refine ⟨fun h => absurd rfl h, fun _ => ?_⟩
  obtain ⟨⟨hst0, hst⟩, hpl, hkd, hn64, _, hnodes⟩ := hP
  have ht := headI_len (st := st) (kd := kd) (n := n) hpl
  have hps := place_size hpl
  repeat (first | refine Ops.go ?_ | refine And.intro rfl ?_ | refine And.intro (Nat.le_of_ble_eq_true rfl) ?_ | refine And.intro (Int.natCast_nonneg _) ?_ | refine fun (_ : Nat) => ?_ | refine Ord.go ?_ | refine Run.go rfl ?_ | refine Cont.go rfl ?_ | refine OrdP.go ?_)
  refine wstep1 (new := numI st.toNat) (fun L h => ?_) (numI_ne _) (fun g1 C1 => ?_)
  · have := wNum_spec [] st.toNat (by omega) (by simp) h
    rw [Int.toNat_of_nonneg hst0] at this
    exact this
  have l1 := (numI_len st.toNat).2
  have l2 := txtI_len pl
  have l3 := (numI_len kd.toNat).2
  have l4 := (numI_len n).2
  repeat (first | refine Ops.go ?_ | refine And.intro rfl ?_ | refine And.intro (Nat.le_of_ble_eq_true rfl) ?_ | refine And.intro (Int.natCast_nonneg _) ?_ | refine fun (_ : Nat) => ?_ | refine Ord.go ?_ | refine Run.go rfl ?_ | refine Cont.go rfl ?_ | refine OrdP.go ?_)
  refine wstep (acc := numI st.toNat) (new := txtI pl) (T := []) (fun L h => wTxt_spec _ pl (by omega) (by omega) h) (numI_ne _) (fun g2 C2 => ?_)
  repeat (first | refine Ops.go ?_ | refine And.intro rfl ?_ | refine And.intro (Nat.le_of_ble_eq_true rfl) ?_ | refine And.intro (Int.natCast_nonneg _) ?_ | refine fun (_ : Nat) => ?_ | refine Ord.go ?_ | refine Run.go rfl ?_ | refine Cont.go rfl ?_ | refine OrdP.go ?_)
  refine wstep (acc := numI st.toNat ++ txtI pl) (new := numI kd.toNat) (T := []) (fun L h => ?_) (fun e => numI_ne _ (List.append_eq_nil_iff.1 e).1) (fun g3 C3 => ?_)
  · have := wNum_spec (numI st.toNat ++ txtI pl) kd.toNat (by omega) (by rw [List.length_append]; omega) h
    rw [Int.toNat_of_nonneg (by omega)] at this
    exact this
  repeat (first | refine Ops.go ?_ | refine And.intro rfl ?_ | refine And.intro (Nat.le_of_ble_eq_true rfl) ?_ | refine And.intro (Int.natCast_nonneg _) ?_ | refine fun (_ : Nat) => ?_ | refine Ord.go ?_ | refine Run.go rfl ?_ | refine Cont.go rfl ?_ | refine OrdP.go ?_)
  refine wstep (acc := numI st.toNat ++ txtI pl ++ numI kd.toNat) (new := numI n) (T := []) (fun L h => wNum_spec _ n (by omega) (by rw [List.length_append, List.length_append]; omega) h) (fun e => numI_ne _ (List.append_eq_nil_iff.1 e).2) (fun g4 C4 => ?_)
  have nodes : ∀ (i : Nat) (x : Sn), i < n → xs[i]? = some x → parseE x.p = 0 ∧ x.d.size ≤ 64 := fun i x hi ex => ⟨(hnodes i x hi ex).1, (hnodes i x hi ex).2.1.1⟩
  have a0 : headI st pl kd n ++ nodesI (xs.take 0) = headI st pl kd n := by simp [nodesI]
  repeat (first | refine Ops.go ?_ | refine And.intro rfl ?_ | refine And.intro (Nat.le_of_ble_eq_true rfl) ?_ | refine And.intro (Int.natCast_nonneg _) ?_ | refine fun (_ : Nat) => ?_ | refine Ord.go ?_ | refine Run.go rfl ?_ | refine Cont.go rfl ?_ | refine OrdP.go ?_)
  refine Run.loop (fun k env L => ∃ (i g0 gw gb Cb : Nat), k = n - i ∧ i ≤ n ∧ env = [.junk, .ptr 0 g0 0, .junk, .junk, .junk, .ptr 1 gw 0, .junk, .junk, .junk, .junk, .junk, .junk, .junk, .junk, .junk, .junk, .junk, .junk, .junk, .junk, .junk, .junk, .junk, .junk, .junk, .junk, .junk, .junk, .junk, .junk, .junk, .junk, .junk, rdo xs n, .int .i64 n, .int .i64 i, .junk, .junk, .junk, .junk, .junk, .junk, .junk, .junk, .junk, .junk, .junk, .junk, .junk, .junk, .junk, .junk, .junk, .junk, .junk, .junk] ∧
      L = [(g0, .cells 24 [.int .i64 st, .str pl, .int .i64 kd, rdo xs n]), (gw, .cells 61 [.sl 2 gb Cb (headI st pl kd n ++ nodesI (xs.take i)).length]), (gb, .row 5 1 Cb (u8s (headI st pl kd n ++ nodesI (xs.take i))))]) n
    [.junk, .ptr 0 _ 0, .junk, .junk, .junk, .ptr 1 _ 0, .junk, .junk, .junk, .junk, .junk, .junk, .junk, .junk, .junk, .junk, .junk, .junk, .junk, .junk, .junk, .junk, .junk, .junk, .junk, .junk, .junk, .junk, .junk, .junk, .junk, .junk, .junk, rdo xs n, .int .i64 n, .int .i64 (0 : Nat), .junk, .junk, .junk, .junk, .junk, .junk, .junk, .junk, .junk, .junk, .junk, .junk, .junk, .junk, .junk, .junk, .junk, .junk, .junk, .junk] ?_ ⟨0, _, _, g4, C4, by omega, by omega, rfl, by rw [a0]; rfl⟩ ?_
  · repeat (first | exact trivial | refine ⟨.inl rfl, ?_⟩ | refine ⟨.inr rfl, ?_⟩)
  rintro k env L ⟨i, g0, gw, gb, Cb, rfl, hi, rfl, rfl⟩
  have hlen := nodesI_len hn nodes i hi
  have hne : ∀ l, headI st pl kd n ++ l ≠ [] := fun l e => headI_ne _ _ _ _ (List.append_eq_nil_iff.1 e).1
  repeat (first | refine Ops.go ?_ | refine And.intro rfl ?_ | refine And.intro (Nat.le_of_ble_eq_true rfl) ?_ | refine And.intro (Int.natCast_nonneg _) ?_ | refine fun (_ : Nat) => ?_ | refine Ord.go ?_ | refine Run.go rfl ?_ | refine Cont.go rfl ?_ | refine OrdP.go ?_)
  refine ⟨fun h => ?_, fun h => ?_⟩
  · have h : (i : Int) < (n : Int) := h
    obtain ⟨x, ex⟩ : ∃ x, xs[i]? = some x := ⟨xs[i], List.getElem?_eq_getElem (by omega)⟩
    obtain ⟨q1, q2⟩ := nodes i x (by omega) ex
    obtain ⟨_, ⟨_, q3, q4⟩, _⟩ := hnodes i x (by omega) ex
    have q5 := place_size q1
    have m1 := txtI_len x.p
    have m2 := txtI_len x.d
    repeat (first | refine Ops.go ?_ | refine And.intro rfl ?_ | refine And.intro (Nat.le_of_ble_eq_true rfl) ?_ | refine And.intro (Int.natCast_nonneg _) ?_ | refine fun (_ : Nat) => ?_ | refine Ord.go ?_ | refine Run.go rfl ?_ | refine Cont.go rfl ?_ | refine OrdP.go ?_)
    refine ⟨h, enc x, enc_at _ _ _ ex, ?_⟩
    repeat (first | refine Ops.go ?_ | refine And.intro rfl ?_ | refine And.intro (Nat.le_of_ble_eq_true rfl) ?_ | refine And.intro (Int.natCast_nonneg _) ?_ | refine fun (_ : Nat) => ?_ | refine Ord.go ?_ | refine Run.go rfl ?_ | refine Cont.go rfl ?_ | refine OrdP.go ?_)
    refine wstep (acc := headI st pl kd n ++ nodesI (xs.take i)) (new := txtI x.p) (T := [_]) (fun L h => wTxt_spec _ x.p (by omega) (by rw [List.length_append]; omega) h) (hne _) (fun g1 C1 => ?_)
    repeat (first | refine Ops.go ?_ | refine And.intro rfl ?_ | refine And.intro (Nat.le_of_ble_eq_true rfl) ?_ | refine And.intro (Int.natCast_nonneg _) ?_ | refine fun (_ : Nat) => ?_ | refine Ord.go ?_ | refine Run.go rfl ?_ | refine Cont.go rfl ?_ | refine OrdP.go ?_)
    refine wstep (acc := headI st pl kd n ++ nodesI (xs.take i) ++ txtI x.p) (new := txtI x.d) (T := [_]) (fun L h => wTxt_spec _ x.d (by omega) (by rw [List.length_append, List.length_append]; omega) h) (by rw [List.append_assoc]; exact hne _) (fun g1 C1 => ?_)
    repeat (first | refine Ops.go ?_ | refine And.intro rfl ?_ | refine And.intro (Nat.le_of_ble_eq_true rfl) ?_ | refine And.intro (Int.natCast_nonneg _) ?_ | refine fun (_ : Nat) => ?_ | refine Ord.go ?_ | refine Run.go rfl ?_ | refine Cont.go rfl ?_ | refine OrdP.go ?_)
    refine wstep (acc := headI st pl kd n ++ nodesI (xs.take i) ++ txtI x.p ++ txtI x.d) (new := numI x.v.toNat) (T := [_]) (fun L h => ?_) (by rw [List.append_assoc, List.append_assoc]; exact hne _) (fun g3 C3 => ?_)
    · have := wNum_spec (headI st pl kd n ++ nodesI (xs.take i) ++ txtI x.p ++ txtI x.d) x.v.toNat (by omega) (by rw [List.length_append, List.length_append, List.length_append]; omega) h
      rw [Int.toNat_of_nonneg q3] at this
      exact this
    repeat (first | refine Ops.go ?_ | refine And.intro rfl ?_ | refine And.intro (Nat.le_of_ble_eq_true rfl) ?_ | refine And.intro (Int.natCast_nonneg _) ?_ | refine fun (_ : Nat) => ?_ | refine Ord.go ?_ | refine Run.go rfl ?_ | refine Cont.go rfl ?_ | refine OrdP.go ?_)
    refine fun r hr => ?_
    obtain rfl := add1 hr (by omega)
    repeat (first | refine Ops.go ?_ | refine And.intro rfl ?_ | refine And.intro (Nat.le_of_ble_eq_true rfl) ?_ | refine And.intro (Int.natCast_nonneg _) ?_ | refine fun (_ : Nat) => ?_ | refine Ord.go ?_ | refine Run.go rfl ?_ | refine Cont.go rfl ?_ | refine OrdP.go ?_)
    refine Cont.lp ?_
    have ea : headI st pl kd n ++ nodesI (xs.take (i + 1)) = headI st pl kd n ++ nodesI (xs.take i) ++ txtI x.p ++ txtI x.d ++ numI x.v.toNat := by
      rw [nodesI_take ex]; unfold nodeI; simp only [List.append_assoc]
    refine ⟨n - (i + 1), [.junk, .ptr 0 g0 0, .junk, .junk, .junk, .ptr 1 gw 0, .junk, .junk, .junk, .junk, .junk, .junk, .junk, .junk, .junk, .junk, .junk, .junk, .junk, .junk, .junk, .junk, .junk, .junk, .junk, .junk, .junk, .junk, .junk, .junk, .junk, .junk, .junk, rdo xs n, .int .i64 n, .int .i64 (i + 1 : Nat), .junk, .junk, .junk, .junk, .junk, .junk, .junk, .junk, .junk, .junk, .junk, .junk, .junk, .junk, .junk, .junk, .junk, .junk, .junk, .junk], 3, by omega, ?_, ⟨i + 1, g0, gw, g3, C3, rfl, by omega, rfl, by rw [ea]; rfl⟩⟩
    repeat (first | exact trivial | refine ⟨.inl rfl, ?_⟩ | refine ⟨.inr rfl, ?_⟩)
  · have h : ¬ (i : Int) < (n : Int) := h
    obtain rfl : i = n := by omega
    repeat (first | refine Ops.go ?_ | refine And.intro rfl ?_ | refine And.intro (Nat.le_of_ble_eq_true rfl) ?_ | refine And.intro (Int.natCast_nonneg _) ?_ | refine fun (_ : Nat) => ?_ | refine Ord.go ?_ | refine Run.go rfl ?_ | refine Cont.go rfl ?_ | refine OrdP.go ?_)
    exact ⟨.tuple [.sl 0 gb Cb (encI st pl kd xs i).length, .int .i64 0], _, FinOk.keep _ [2] (Sub.tuples ⟨Sub.sl _ _ _ _ _, Sub.refl _, trivial⟩) (by decide) rfl, .inr ⟨⟨⟨hst0, hst⟩, hpl, hkd, hn64, by assumption, hnodes⟩, gb, Cb, rfl, rfl⟩⟩
end Go.Proofs.YtfohedaadncefaaDoor.HBT
/- The contracts of the document's own texts on names and places, part one. -/
namespace Go.Proofs.YtfohedaadncefaaDoor.HBT
open Go Go.Proofs.YtfohedaadncefaaDoor.HB Go.RowKit
set_option maxRecDepth 8000

theorem size_zero {s : ByteArray} (h : s.size < 1) : s = ⟨#[]⟩ := by
  apply bytes_inj
  have : s.data.toList.length = 0 := by rw [Array.length_toList]; show s.size = 0; omega
  rw [List.eq_nil_of_length_eq_zero this]

set_option maxHeartbeats 4000000 in
theorem nameOf_spec (s : ByteArray) : FnSpec C 96 [.str s] [] (fun r L' => r = .bool (isNameB s) ∧ L' = []) := by
  refine FnSpec.start C_ok Tryd.func96 rfl rfl Tryd.ntmps96 ?_
  repeat (first | refine Ops.go ?_ | refine And.intro rfl ?_ | refine And.intro (Nat.le_of_ble_eq_true rfl) ?_ | refine And.intro (Int.natCast_nonneg _) ?_ | refine fun (_ : Nat) => ?_ | refine Ord.go ?_ | refine Run.go rfl ?_ | refine Cont.go rfl ?_ | refine OrdP.go ?_)
  refine ⟨fun h => ?_, fun h => ?_⟩
  case' refine_1 =>
    repeat (first | refine Ops.go ?_ | refine And.intro rfl ?_ | refine And.intro (Nat.le_of_ble_eq_true rfl) ?_ | refine And.intro (Int.natCast_nonneg _) ?_ | refine fun (_ : Nat) => ?_ | refine Ord.go ?_ | refine Run.go rfl ?_ | refine Cont.go rfl ?_ | refine OrdP.go ?_)
    exact ⟨_, [], FinOk.drop _ _, congrArg AV.bool (show false = _ by
      have h : (s.size : Int) < 1 := h
      rw [size_zero (s := s) (by omega)]
      decide), rfl⟩
  have h : ¬ (s.size : Int) < 1 := h
  have h0 : ¬ s = ⟨#[]⟩ := fun e => by rw [e] at h; exact h (by decide)
  repeat (first | refine Ops.go ?_ | refine And.intro rfl ?_ | refine And.intro (Nat.le_of_ble_eq_true rfl) ?_ | refine And.intro (Int.natCast_nonneg _) ?_ | refine fun (_ : Nat) => ?_ | refine Ord.go ?_ | refine Run.go rfl ?_ | refine Cont.go rfl ?_ | refine OrdP.go ?_)
  refine ⟨fun h => ?_, fun h => ?_⟩
  case' refine_1 =>
    repeat (first | refine Ops.go ?_ | refine And.intro rfl ?_ | refine And.intro (Nat.le_of_ble_eq_true rfl) ?_ | refine And.intro (Int.natCast_nonneg _) ?_ | refine fun (_ : Nat) => ?_ | refine Ord.go ?_ | refine Run.go rfl ?_ | refine Cont.go rfl ?_ | refine OrdP.go ?_)
    exact ⟨_, [], FinOk.drop _ _, congrArg AV.bool (show false = _ by
      have h : (16 : Int) < (s.size : Int) := h
      have : ¬ s.size ≤ 16 := by omega
      simp [isNameB, this]), rfl⟩
  have h : ¬ (16 : Int) < (s.size : Int) := h
  have h1 : s.size ≤ 16 := by omega
  repeat (first | refine Ops.go ?_ | refine And.intro rfl ?_ | refine And.intro (Nat.le_of_ble_eq_true rfl) ?_ | refine And.intro (Int.natCast_nonneg _) ?_ | refine fun (_ : Nat) => ?_ | refine Ord.go ?_ | refine Run.go rfl ?_ | refine Cont.go rfl ?_ | refine OrdP.go ?_)
  refine ⟨fun h => ?_, fun h => ?_⟩
  case' refine_1 =>
    repeat (first | refine Ops.go ?_ | refine And.intro rfl ?_ | refine And.intro (Nat.le_of_ble_eq_true rfl) ?_ | refine And.intro (Int.natCast_nonneg _) ?_ | refine fun (_ : Nat) => ?_ | refine Ord.go ?_ | refine Run.go rfl ?_ | refine Cont.go rfl ?_ | refine OrdP.go ?_)
    exact ⟨_, [], FinOk.drop _ _, congrArg AV.bool (show false = _ by
      have h : s = ⟨#[46]⟩ := h
      subst h
      decide), rfl⟩
  have h2 : ¬ s = ⟨#[46]⟩ := h
  repeat (first | refine Ops.go ?_ | refine And.intro rfl ?_ | refine And.intro (Nat.le_of_ble_eq_true rfl) ?_ | refine And.intro (Int.natCast_nonneg _) ?_ | refine fun (_ : Nat) => ?_ | refine Ord.go ?_ | refine Run.go rfl ?_ | refine Cont.go rfl ?_ | refine OrdP.go ?_)
  refine ⟨fun h => ?_, fun h => ?_⟩
  case' refine_1 =>
    repeat (first | refine Ops.go ?_ | refine And.intro rfl ?_ | refine And.intro (Nat.le_of_ble_eq_true rfl) ?_ | refine And.intro (Int.natCast_nonneg _) ?_ | refine fun (_ : Nat) => ?_ | refine Ord.go ?_ | refine Run.go rfl ?_ | refine Cont.go rfl ?_ | refine OrdP.go ?_)
    exact ⟨_, [], FinOk.drop _ _, congrArg AV.bool (show false = _ by
      have h : s = ⟨#[46, 46]⟩ := h
      subst h
      decide), rfl⟩
  have h3 : ¬ s = ⟨#[46, 46]⟩ := h
  repeat (first | refine Ops.go ?_ | refine And.intro rfl ?_ | refine And.intro (Nat.le_of_ble_eq_true rfl) ?_ | refine And.intro (Int.natCast_nonneg _) ?_ | refine fun (_ : Nat) => ?_ | refine Ord.go ?_ | refine Run.go rfl ?_ | refine Cont.go rfl ?_ | refine OrdP.go ?_)
  refine Run.loop (fun k env L => ∃ i : Nat, k = s.size - i ∧ i ≤ s.size ∧ (∀ (j : Nat) (h : j < s.size), j < i → nameByte s[j].toNat = true) ∧ env = [.str s, .junk, .junk, .int .i64 i, .junk, .junk, .junk, .junk, .junk, .junk, .junk, .junk, .junk, .junk, .junk, .junk, .junk, .junk, .junk, .junk, .junk, .junk, .junk, .junk, .junk, .junk, .junk, .junk, .junk, .junk, .junk, .junk, .junk, .junk, .junk, .junk, .junk, .junk, .junk, .junk, .junk, .junk, .junk, .junk, .junk, .junk, .junk, .junk, .junk, .junk, .junk, .junk, .junk, .junk, .junk, .junk, .junk, .junk, .junk, .junk, .junk, .junk, .junk, .junk, .junk, .junk, .junk] ∧ L = []) s.size [.str s, .junk, .junk, .int .i64 0, .junk, .junk, .junk, .junk, .junk, .junk, .junk, .junk, .junk, .junk, .junk, .junk, .junk, .junk, .junk, .junk, .junk, .junk, .junk, .junk, .junk, .junk, .junk, .junk, .junk, .junk, .junk, .junk, .junk, .junk, .junk, .junk, .junk, .junk, .junk, .junk, .junk, .junk, .junk, .junk, .junk, .junk, .junk, .junk, .junk, .junk, .junk, .junk, .junk, .junk, .junk, .junk, .junk, .junk, .junk, .junk, .junk, .junk, .junk, .junk, .junk, .junk, .junk] ?_ ⟨0, by omega, by omega, (fun j _ hj => absurd hj (Nat.not_lt_zero j)), rfl, rfl⟩ ?_
  · repeat (first | exact trivial | refine ⟨.inl rfl, ?_⟩ | refine ⟨.inr rfl, ?_⟩)
  rintro k env L ⟨i, rfl, hi, hP, rfl, rfl⟩
  repeat (first | refine Ops.go ?_ | refine And.intro rfl ?_ | refine And.intro (Nat.le_of_ble_eq_true rfl) ?_ | refine And.intro (Int.natCast_nonneg _) ?_ | refine fun (_ : Nat) => ?_ | refine Ord.go ?_ | refine Run.go rfl ?_ | refine Cont.go rfl ?_ | refine OrdP.go ?_)
  refine ⟨fun h => ?_, fun h => ?_⟩
  · have h : (i : Int) < (s.size : Int) := h
    have hin : i < s.size := by omega
    repeat (first | refine Ops.go ?_ | refine And.intro rfl ?_ | refine And.intro (Nat.le_of_ble_eq_true rfl) ?_ | refine And.intro (Int.natCast_nonneg _) ?_ | refine fun (_ : Nat) => ?_ | refine Ord.go ?_ | refine Run.go rfl ?_ | refine Cont.go rfl ?_ | refine OrdP.go ?_)
    refine ⟨hin, ?_⟩
    repeat (first | refine Ops.go ?_ | refine And.intro rfl ?_ | refine And.intro (Nat.le_of_ble_eq_true rfl) ?_ | refine And.intro (Int.natCast_nonneg _) ?_ | refine fun (_ : Nat) => ?_ | refine Ord.go ?_ | refine Run.go rfl ?_ | refine Cont.go rfl ?_ | refine OrdP.go ?_)
    have hbad : nameByte s[i].toNat = false → false = isNameB s := fun hb => by
      symm
      rw [Bool.eq_false_iff]
      intro e
      unfold isNameB at e
      simp only [Bool.and_eq_true] at e
      have := (byte_all s _).1 e.2 i hin
      rw [hb] at this
      cases this
    generalize hc : s[i].toNat = c at hbad
    have hcb : c < 256 := by have := s[i].toNat_lt; omega
    have hcc : ∀ h, (s[(i : Int).toNat]'h).toNat = c := fun _ => hc
    simp only [hcc]
    repeat' (first | refine Ops.go ?_ | refine And.intro rfl ?_ | refine And.intro (Nat.le_of_ble_eq_true rfl) ?_ | refine And.intro (Int.natCast_nonneg _) ?_ | refine fun (_ : Nat) => ?_ | refine Ord.go ?_ | refine Run.go rfl ?_ | refine Cont.go rfl ?_ | refine OrdP.go ?_ | refine And.intro (fun _ => ?_) (fun _ => ?_))
    all_goals first
      | (refine ⟨_, [], FinOk.drop _ _, congrArg AV.bool (hbad ?_), rfl⟩
         cases hn : nameByte c with
         | false => rfl
         | true => unfold nameByte at hn; simp at hn; omega)
      | skip
    all_goals
      refine fun r hr => ?_
      obtain rfl := add1 hr (by omega)
      have hn : nameByte c = true := by
        cases hn : nameByte c with
        | true => rfl
        | false => exfalso; unfold nameByte at hn; simp at hn; omega
      repeat (first | refine Ops.go ?_ | refine And.intro rfl ?_ | refine And.intro (Nat.le_of_ble_eq_true rfl) ?_ | refine And.intro (Int.natCast_nonneg _) ?_ | refine fun (_ : Nat) => ?_ | refine Ord.go ?_ | refine Run.go rfl ?_ | refine Cont.go rfl ?_ | refine OrdP.go ?_)
      refine Cont.lp ?_
      refine ⟨s.size - (i + 1), [.str s, .junk, .junk, .int .i64 (i + 1 : Nat), .junk, .junk, .junk, .junk, .junk, .junk, .junk, .junk, .junk, .junk, .junk, .junk, .junk, .junk, .junk, .junk, .junk, .junk, .junk, .junk, .junk, .junk, .junk, .junk, .junk, .junk, .junk, .junk, .junk, .junk, .junk, .junk, .junk, .junk, .junk, .junk, .junk, .junk, .junk, .junk, .junk, .junk, .junk, .junk, .junk, .junk, .junk, .junk, .junk, .junk, .junk, .junk, .junk, .junk, .junk, .junk, .junk, .junk, .junk, .junk, .junk, .junk, .junk], 0, by omega, ?_, ⟨i + 1, rfl, by omega, ?_, rfl, rfl⟩⟩
      · repeat (first | exact trivial | refine ⟨.inl rfl, ?_⟩ | refine ⟨.inr rfl, ?_⟩)
      · intro j hj hji
        by_cases e : j = i
        · subst e; rw [hc]; exact hn
        · exact hP j hj (by omega)
  · have h : ¬ (i : Int) < (s.size : Int) := h
    repeat (first | refine Ops.go ?_ | refine And.intro rfl ?_ | refine And.intro (Nat.le_of_ble_eq_true rfl) ?_ | refine And.intro (Int.natCast_nonneg _) ?_ | refine fun (_ : Nat) => ?_ | refine Ord.go ?_ | refine Run.go rfl ?_ | refine Cont.go rfl ?_ | refine OrdP.go ?_)
    exact ⟨_, [], FinOk.drop _ _, congrArg AV.bool (show true = _ by
      symm
      unfold isNameB
      simp only [Bool.and_eq_true, decide_eq_true_eq]
      exact ⟨⟨⟨⟨h0, h1⟩, h2⟩, h3⟩, (byte_all s _).2 fun j hj => hP j hj (by omega)⟩), rfl⟩

end Go.Proofs.YtfohedaadncefaaDoor.HBT
/- The contract of the document's own cutting of a text. -/
namespace Go.Proofs.YtfohedaadncefaaDoor.HBT
open Go Go.Proofs.YtfohedaadncefaaDoor.HB Go.RowKit
set_option maxRecDepth 8000

theorem cut_one : ∀ (x t : List UInt8), (47 : UInt8) ∉ x → cut (x ++ 47 :: t) = x :: cut t
  | [], t, _ => by simp [cut]
  | c :: x, t, h => by
    have hc : ¬ c = 47 := fun e => h (by simp [e])
    have := cut_one x t (fun hx => h (List.mem_cons_of_mem _ hx))
    rw [List.cons_append]
    simp only [cut, hc, if_false, this]
theorem cut_last : ∀ (x : List UInt8), (47 : UInt8) ∉ x → cut x = [x]
  | [], _ => rfl
  | c :: x, h => by
    have hc : ¬ c = 47 := fun e => h (by simp [e])
    have := cut_last x (fun hx => h (List.mem_cons_of_mem _ hx))
    simp only [cut, hc, if_false, this]

theorem cut_step {B : List UInt8} {f i : Nat} (hfi : f ≤ i) (hi : i < B.length) (hno : ∀ j (h : j < B.length), f ≤ j → j < i → B[j] ≠ 47) (h47 : B[i] = 47) : cut (B.drop f) = (B.drop f).take (i - f) :: cut (B.drop (i + 1)) := by
  have e : B.drop f = (B.drop f).take (i - f) ++ 47 :: B.drop (i + 1) := by
    have h1 : (B.drop f).drop (i - f) = B.drop i := by rw [List.drop_drop]; congr 1; omega
    have h2 : B.drop i = 47 :: B.drop (i + 1) := by rw [List.drop_eq_getElem_cons hi, h47]
    rw [← h2, ← h1, List.take_append_drop]
  have hx : (47 : UInt8) ∉ (B.drop f).take (i - f) := fun hm => by
    obtain ⟨k, hk, ek⟩ := List.mem_iff_getElem.1 hm
    have hk2 : k < i - f := by rw [List.length_take] at hk; omega
    rw [List.getElem_take, List.getElem_drop] at ek
    exact hno (f + k) (by omega) (by omega) (by omega) ek
  conv => lhs; rw [e]
  exact cut_one _ _ hx
theorem cut_end {B : List UInt8} {f : Nat} (hno : ∀ j (h : j < B.length), f ≤ j → B[j] ≠ 47) : cut (B.drop f) = [B.drop f] := by
  apply cut_last
  intro hm
  obtain ⟨k, hk, ek⟩ := List.mem_iff_getElem.1 hm
  rw [List.length_drop] at hk
  rw [List.getElem_drop] at ek
  exact hno (f + k) (by omega) (by omega) ek

set_option maxHeartbeats 2000000 in
theorem refPieces_spec (t : ByteArray) (h1 : 1 ≤ t.size) (h2 : t.size ≤ 1000) : FnSpec C 95 [.str t] [] (fun r L' => ∃ g Cp, r = .sl 0 g Cp (cutB t).length ∧ L' = [(g, .row 9 1 Cp ((cutB t).map .str))]) := by
  refine FnSpec.start C_ok Tryd.func95 rfl rfl Tryd.ntmps95 ?_
  have hB : t.data.toList.length = t.size := by rw [Array.length_toList]; rfl
  have hcut : (cutB t).map (·.data.toList) = cut (t.data.toList.drop 1) := cutB_cut t
  have hat : ∀ j (h : j < t.data.toList.length), t.data.toList[j] = t[j]'(by omega) := fun j h => Array.getElem_toList _
  have hext : ∀ a b, (t.extract a b).data.toList = (t.data.toList.drop a).take (b - a) := fun a b => by
    rw [ByteArray.data_extract, Array.toList_extract]
  repeat (first | refine Ops.go ?_ | refine And.intro rfl ?_ | refine And.intro (Nat.le_of_ble_eq_true rfl) ?_ | refine And.intro (Int.natCast_nonneg _) ?_ | refine fun (_ : Nat) => ?_ | refine Ord.go ?_ | refine Run.go rfl ?_ | refine Cont.go rfl ?_ | refine OrdP.go ?_)
  refine Run.loop (fun k env L => ∃ (f i : Nat) (ps : List ByteArray), k = t.size + 1 - i ∧ f ≤ i ∧ i ≤ t.size + 1 ∧ 1 ≤ f ∧ ps.length ≤ i ∧
      ((i = t.size + 1 ∧ (cutB t).map (·.data.toList) = ps.map (·.data.toList)) ∨ (i ≤ t.size ∧ (cutB t).map (·.data.toList) = ps.map (·.data.toList) ++ cut (t.data.toList.drop f) ∧ ∀ j (h : j < t.data.toList.length), f ≤ j → j < i → t.data.toList[j] ≠ 47)) ∧
      ((ps = [] ∧ i ≤ t.size ∧ env = [.str t, .junk, .junk, .nils, .int .i64 f, .int .i64 i, .junk, .junk, .junk, .junk, .junk, .junk, .junk, .junk, .junk, .junk, .junk, .junk, .junk, .junk, .junk, .junk, .junk, .junk, .junk, .junk, .junk, .junk, .junk, .junk, .junk, .junk] ∧ L = []) ∨ (ps ≠ [] ∧ ∃ x0 g Cp, env = [.str t, .junk, .junk, .sl 1 g Cp ps.length, .int .i64 f, .int .i64 i, .junk, .junk, .junk, .junk, .junk, .junk, .junk, .junk, .junk, .junk, .junk, .junk, .junk, .junk, .junk, .junk, .junk, .junk, .junk, .junk, .junk, .junk, .junk, .junk, .junk, .junk] ∧ L = [x0, (g, .row 9 1 Cp (ps.map .str))])))
    t.size [.str t, .junk, .junk, .nils, .int .i64 1, .int .i64 1, .junk, .junk, .junk, .junk, .junk, .junk, .junk, .junk, .junk, .junk, .junk, .junk, .junk, .junk, .junk, .junk, .junk, .junk, .junk, .junk, .junk, .junk, .junk, .junk, .junk, .junk] ?_ ⟨1, 1, [], by omega, by omega, by omega, by omega, by simp, .inr ⟨by omega, by simpa using hcut, fun j _ h1 h2 => by omega⟩, .inl ⟨rfl, by omega, rfl, rfl⟩⟩ ?_
  · repeat (first | exact trivial | refine ⟨.inl rfl, ?_⟩ | refine ⟨.inr rfl, ?_⟩)
  rintro k env L ⟨f, i, ps, rfl, hfi, hi, hf1, hpl, hinv, hshape⟩
  have key : i ≤ t.size → (cutB t).map (·.data.toList) = ps.map (·.data.toList) ++ cut (t.data.toList.drop f) ∧ ∀ j (h : j < t.data.toList.length), f ≤ j → j < i → t.data.toList[j] ≠ 47 := fun h => by
    rcases hinv with ⟨h', _⟩ | ⟨_, h1, h2⟩
    · omega
    · exact ⟨h1, h2⟩
  have newP : i ≤ t.size → (i = t.size ∨ ∃ h : i < t.size, t[i] = 47) → ((i + 1 = t.size + 1 ∧ (cutB t).map (·.data.toList) = (ps ++ [t.extract f i]).map (·.data.toList)) ∨
      (i + 1 ≤ t.size ∧ (cutB t).map (·.data.toList) = (ps ++ [t.extract f i]).map (·.data.toList) ++ cut (t.data.toList.drop (i + 1)) ∧ ∀ j (h : j < t.data.toList.length), i + 1 ≤ j → j < i + 1 → t.data.toList[j] ≠ 47)) := fun hit hc => by
    obtain ⟨k1, k2⟩ := key hit
    rcases hc with rfl | ⟨hlt, h47⟩
    · refine .inl ⟨rfl, ?_⟩
      rw [k1, cut_end (fun j h h3 => k2 j h h3 (by omega)), List.map_append]
      congr 1
      show [_] = [(t.extract f t.size).data.toList]
      rw [hext, List.take_of_length_le (by rw [List.length_drop]; omega)]
    · refine .inr ⟨by omega, ?_, fun j _ h3 h4 => by omega⟩
      rw [k1, cut_step hfi (by omega) k2 (by rw [hat i (by omega)]; exact h47), List.map_append, List.append_assoc]
      congr 1
      show _ = [(t.extract f i).data.toList] ++ _
      rw [hext]
      rfl
  have newN : (h : i < t.size) → t[i] ≠ 47 → ((i + 1 = t.size + 1 ∧ (cutB t).map (·.data.toList) = ps.map (·.data.toList)) ∨ (i + 1 ≤ t.size ∧ (cutB t).map (·.data.toList) = ps.map (·.data.toList) ++ cut (t.data.toList.drop f) ∧ ∀ j (h : j < t.data.toList.length), f ≤ j → j < i + 1 → t.data.toList[j] ≠ 47)) := fun hlt hne => by
    obtain ⟨k1, k2⟩ := key (by omega)
    refine .inr ⟨by omega, k1, fun j h h3 h4 => ?_⟩
    by_cases e : j = i
    · subst e; rw [hat j h]; exact hne
    · exact k2 j h h3 (by omega)
  have b47 : ∀ h : i < t.size, ((t[i]'h).toNat : Int) = 47 ↔ t[i]'h = 47 := fun h => by
    rw [← UInt8.toNat_inj]
    have : (47 : UInt8).toNat = 47 := rfl
    omega
  rcases hshape with ⟨rfl, hit, rfl, rfl⟩ | ⟨hps, x0, g, Cp, rfl, rfl⟩
  · repeat (first | refine Ops.go ?_ | refine And.intro rfl ?_ | refine And.intro (Nat.le_of_ble_eq_true rfl) ?_ | refine And.intro (Int.natCast_nonneg _) ?_ | refine fun (_ : Nat) => ?_ | refine Ord.go ?_ | refine Run.go rfl ?_ | refine Cont.go rfl ?_ | refine OrdP.go ?_)
    refine ⟨fun h => ?_, fun h => absurd (show (i : Int) ≤ (t.size : Int) by omega) h⟩
    repeat (first | refine Ops.go ?_ | refine And.intro rfl ?_ | refine And.intro (Nat.le_of_ble_eq_true rfl) ?_ | refine And.intro (Int.natCast_nonneg _) ?_ | refine fun (_ : Nat) => ?_ | refine Ord.go ?_ | refine Run.go rfl ?_ | refine Cont.go rfl ?_ | refine OrdP.go ?_)
    refine ⟨fun he => ?_, fun he => ?_⟩
    · have he : (i : Int) = (t.size : Int) := he
      repeat (first | refine Ops.go ?_ | refine And.intro rfl ?_ | refine And.intro (Nat.le_of_ble_eq_true rfl) ?_ | refine And.intro (Int.natCast_nonneg _) ?_ | refine fun (_ : Nat) => ?_ | refine Ord.go ?_ | refine Run.go rfl ?_ | refine Cont.go rfl ?_ | refine OrdP.go ?_)
      refine ⟨show (f : Int) ≤ (i : Int) by omega, show (i : Int) ≤ (t.size : Int) by omega, ?_⟩
      repeat (first | refine Ops.go ?_ | refine And.intro rfl ?_ | refine And.intro (Nat.le_of_ble_eq_true rfl) ?_ | refine And.intro (Int.natCast_nonneg _) ?_ | refine fun (_ : Nat) => ?_ | refine Ord.go ?_ | refine Run.go rfl ?_ | refine Cont.go rfl ?_ | refine OrdP.go ?_)
      refine ⟨fun h => absurd h (List.cons_ne_nil _ _), fun _ => ?_⟩
      repeat (first | refine Ops.go ?_ | refine And.intro rfl ?_ | refine And.intro (Nat.le_of_ble_eq_true rfl) ?_ | refine And.intro (Int.natCast_nonneg _) ?_ | refine fun (_ : Nat) => ?_ | refine Ord.go ?_ | refine Run.go rfl ?_ | refine Cont.go rfl ?_ | refine OrdP.go ?_)
      refine fun r hr => ?_
      obtain rfl := add1 hr (by omega)
      repeat (first | refine Ops.go ?_ | refine And.intro rfl ?_ | refine And.intro (Nat.le_of_ble_eq_true rfl) ?_ | refine And.intro (Int.natCast_nonneg _) ?_ | refine fun (_ : Nat) => ?_ | refine Ord.go ?_ | refine Run.go rfl ?_ | refine Cont.go rfl ?_ | refine OrdP.go ?_)
      refine fun r hr => ?_
      obtain rfl := add1 hr (by omega)
      repeat (first | refine Ops.go ?_ | refine And.intro rfl ?_ | refine And.intro (Nat.le_of_ble_eq_true rfl) ?_ | refine And.intro (Int.natCast_nonneg _) ?_ | refine fun (_ : Nat) => ?_ | refine Ord.go ?_ | refine Run.go rfl ?_ | refine Cont.go rfl ?_ | refine OrdP.go ?_)
      refine Cont.lp ?_
      refine ⟨t.size + 1 - (i + 1), [.str t, .junk, .junk, .sl 1 _ _ ([t.extract f i] : List ByteArray).length, .int .i64 (i + 1 : Nat), .int .i64 (i + 1 : Nat), .junk, .junk, .junk, .junk, .junk, .junk, .junk, .junk, .junk, .junk, .junk, .junk, .junk, .junk, .junk, .junk, .junk, .junk, .junk, .junk, .junk, .junk, .junk, .junk, .junk, .junk], 2, by omega, ?_, ⟨i + 1, i + 1, [t.extract f i], rfl, by omega, by omega, by omega, by simp, newP (by omega) (.inl (by omega)), .inr ⟨by simp, _, _, _, rfl, rfl⟩⟩⟩
      repeat (first | exact trivial | refine ⟨.inl rfl, ?_⟩ | refine ⟨.inr rfl, ?_⟩)
    · have he : ¬ (i : Int) = (t.size : Int) := he
      have hlt : i < t.size := by omega
      repeat (first | refine Ops.go ?_ | refine And.intro rfl ?_ | refine And.intro (Nat.le_of_ble_eq_true rfl) ?_ | refine And.intro (Int.natCast_nonneg _) ?_ | refine fun (_ : Nat) => ?_ | refine Ord.go ?_ | refine Run.go rfl ?_ | refine Cont.go rfl ?_ | refine OrdP.go ?_)
      refine ⟨hlt, ?_⟩
      repeat (first | refine Ops.go ?_ | refine And.intro rfl ?_ | refine And.intro (Nat.le_of_ble_eq_true rfl) ?_ | refine And.intro (Int.natCast_nonneg _) ?_ | refine fun (_ : Nat) => ?_ | refine Ord.go ?_ | refine Run.go rfl ?_ | refine Cont.go rfl ?_ | refine OrdP.go ?_)
      refine ⟨fun hc => ?_, fun hc => ?_⟩
      · have hc : t[i] = 47 := (b47 hlt).1 hc
        repeat (first | refine Ops.go ?_ | refine And.intro rfl ?_ | refine And.intro (Nat.le_of_ble_eq_true rfl) ?_ | refine And.intro (Int.natCast_nonneg _) ?_ | refine fun (_ : Nat) => ?_ | refine Ord.go ?_ | refine Run.go rfl ?_ | refine Cont.go rfl ?_ | refine OrdP.go ?_)
        refine ⟨show (f : Int) ≤ (i : Int) by omega, show (i : Int) ≤ (t.size : Int) by omega, ?_⟩
        repeat (first | refine Ops.go ?_ | refine And.intro rfl ?_ | refine And.intro (Nat.le_of_ble_eq_true rfl) ?_ | refine And.intro (Int.natCast_nonneg _) ?_ | refine fun (_ : Nat) => ?_ | refine Ord.go ?_ | refine Run.go rfl ?_ | refine Cont.go rfl ?_ | refine OrdP.go ?_)
        refine ⟨fun h => absurd h (List.cons_ne_nil _ _), fun _ => ?_⟩
        repeat (first | refine Ops.go ?_ | refine And.intro rfl ?_ | refine And.intro (Nat.le_of_ble_eq_true rfl) ?_ | refine And.intro (Int.natCast_nonneg _) ?_ | refine fun (_ : Nat) => ?_ | refine Ord.go ?_ | refine Run.go rfl ?_ | refine Cont.go rfl ?_ | refine OrdP.go ?_)
        refine fun r hr => ?_
        obtain rfl := add1 hr (by omega)
        repeat (first | refine Ops.go ?_ | refine And.intro rfl ?_ | refine And.intro (Nat.le_of_ble_eq_true rfl) ?_ | refine And.intro (Int.natCast_nonneg _) ?_ | refine fun (_ : Nat) => ?_ | refine Ord.go ?_ | refine Run.go rfl ?_ | refine Cont.go rfl ?_ | refine OrdP.go ?_)
        refine fun r hr => ?_
        obtain rfl := add1 hr (by omega)
        repeat (first | refine Ops.go ?_ | refine And.intro rfl ?_ | refine And.intro (Nat.le_of_ble_eq_true rfl) ?_ | refine And.intro (Int.natCast_nonneg _) ?_ | refine fun (_ : Nat) => ?_ | refine Ord.go ?_ | refine Run.go rfl ?_ | refine Cont.go rfl ?_ | refine OrdP.go ?_)
        refine Cont.lp ?_
        refine ⟨t.size + 1 - (i + 1), [.str t, .junk, .junk, .sl 1 _ _ ([t.extract f i] : List ByteArray).length, .int .i64 (i + 1 : Nat), .int .i64 (i + 1 : Nat), .junk, .junk, .junk, .junk, .junk, .junk, .junk, .junk, .junk, .junk, .junk, .junk, .junk, .junk, .junk, .junk, .junk, .junk, .junk, .junk, .junk, .junk, .junk, .junk, .junk, .junk], 2, by omega, ?_, ⟨i + 1, i + 1, [t.extract f i], rfl, by omega, by omega, by omega, by simp, newP (by omega) (.inr ⟨hlt, hc⟩), .inr ⟨by simp, _, _, _, rfl, rfl⟩⟩⟩
        repeat (first | exact trivial | refine ⟨.inl rfl, ?_⟩ | refine ⟨.inr rfl, ?_⟩)
      · have hc : ¬ t[i] = 47 := fun e => hc ((b47 hlt).2 e)
        repeat (first | refine Ops.go ?_ | refine And.intro rfl ?_ | refine And.intro (Nat.le_of_ble_eq_true rfl) ?_ | refine And.intro (Int.natCast_nonneg _) ?_ | refine fun (_ : Nat) => ?_ | refine Ord.go ?_ | refine Run.go rfl ?_ | refine Cont.go rfl ?_ | refine OrdP.go ?_)
        refine fun r hr => ?_
        obtain rfl := add1 hr (by omega)
        repeat (first | refine Ops.go ?_ | refine And.intro rfl ?_ | refine And.intro (Nat.le_of_ble_eq_true rfl) ?_ | refine And.intro (Int.natCast_nonneg _) ?_ | refine fun (_ : Nat) => ?_ | refine Ord.go ?_ | refine Run.go rfl ?_ | refine Cont.go rfl ?_ | refine OrdP.go ?_)
        refine Cont.lp ?_
        refine ⟨t.size + 1 - (i + 1), [.str t, .junk, .junk, .nils, .int .i64 f, .int .i64 (i + 1 : Nat), .junk, .junk, .junk, .junk, .junk, .junk, .junk, .junk, .junk, .junk, .junk, .junk, .junk, .junk, .junk, .junk, .junk, .junk, .junk, .junk, .junk, .junk, .junk, .junk, .junk, .junk], 0, by omega, ?_, ⟨f, i + 1, [], rfl, by omega, by omega, by omega, by simp, newN hlt hc, .inl ⟨rfl, by omega, rfl, rfl⟩⟩⟩
        repeat (first | exact trivial | refine ⟨.inl rfl, ?_⟩ | refine ⟨.inr rfl, ?_⟩)
  · repeat (first | refine Ops.go ?_ | refine And.intro rfl ?_ | refine And.intro (Nat.le_of_ble_eq_true rfl) ?_ | refine And.intro (Int.natCast_nonneg _) ?_ | refine fun (_ : Nat) => ?_ | refine Ord.go ?_ | refine Run.go rfl ?_ | refine Cont.go rfl ?_ | refine OrdP.go ?_)
    refine ⟨fun h => ?_, fun h => ?_⟩
    case' refine_2 =>
      have h : ¬ (i : Int) ≤ (t.size : Int) := h
      have hps2 : ps = cutB t := by
        rcases hinv with ⟨_, h3⟩ | ⟨h3, _⟩
        · exact (map_bytes_inj h3).symm
        · omega
      repeat (first | refine Ops.go ?_ | refine And.intro rfl ?_ | refine And.intro (Nat.le_of_ble_eq_true rfl) ?_ | refine And.intro (Int.natCast_nonneg _) ?_ | refine fun (_ : Nat) => ?_ | refine Ord.go ?_ | refine Run.go rfl ?_ | refine Cont.go rfl ?_ | refine OrdP.go ?_)
      exact ⟨.sl 0 g Cp ps.length, _, FinOk.keep _ [1] (Sub.sl _ _ _ _ _) (by decide) rfl, g, Cp, by rw [hps2], by rw [hps2]; rfl⟩
    have h : (i : Int) ≤ (t.size : Int) := h
    repeat (first | refine Ops.go ?_ | refine And.intro rfl ?_ | refine And.intro (Nat.le_of_ble_eq_true rfl) ?_ | refine And.intro (Int.natCast_nonneg _) ?_ | refine fun (_ : Nat) => ?_ | refine Ord.go ?_ | refine Run.go rfl ?_ | refine Cont.go rfl ?_ | refine OrdP.go ?_)
    refine ⟨fun he => ?_, fun he => ?_⟩
    · have he : (i : Int) = (t.size : Int) := he
      repeat (first | refine Ops.go ?_ | refine And.intro rfl ?_ | refine And.intro (Nat.le_of_ble_eq_true rfl) ?_ | refine And.intro (Int.natCast_nonneg _) ?_ | refine fun (_ : Nat) => ?_ | refine Ord.go ?_ | refine Run.go rfl ?_ | refine Cont.go rfl ?_ | refine OrdP.go ?_)
      refine ⟨show (f : Int) ≤ (i : Int) by omega, show (i : Int) ≤ (t.size : Int) by omega, ?_⟩
      repeat (first | refine Ops.go ?_ | refine And.intro rfl ?_ | refine And.intro (Nat.le_of_ble_eq_true rfl) ?_ | refine And.intro (Int.natCast_nonneg _) ?_ | refine fun (_ : Nat) => ?_ | refine Ord.go ?_ | refine Run.go rfl ?_ | refine Cont.go rfl ?_ | refine OrdP.go ?_)
      refine ⟨(List.length_map ..).symm, show ((ps.map AV.str).length + 1) * 16 ≤ _ by rw [List.length_map]; omega, ?_⟩
      refine fun g2 C2 => ?_
      repeat (first | refine Ops.go ?_ | refine And.intro rfl ?_ | refine And.intro (Nat.le_of_ble_eq_true rfl) ?_ | refine And.intro (Int.natCast_nonneg _) ?_ | refine fun (_ : Nat) => ?_ | refine Ord.go ?_ | refine Run.go rfl ?_ | refine Cont.go rfl ?_ | refine OrdP.go ?_)
      refine fun r hr => ?_
      obtain rfl := add1 hr (by omega)
      repeat (first | refine Ops.go ?_ | refine And.intro rfl ?_ | refine And.intro (Nat.le_of_ble_eq_true rfl) ?_ | refine And.intro (Int.natCast_nonneg _) ?_ | refine fun (_ : Nat) => ?_ | refine Ord.go ?_ | refine Run.go rfl ?_ | refine Cont.go rfl ?_ | refine OrdP.go ?_)
      refine fun r hr => ?_
      obtain rfl := add1 hr (by omega)
      repeat (first | refine Ops.go ?_ | refine And.intro rfl ?_ | refine And.intro (Nat.le_of_ble_eq_true rfl) ?_ | refine And.intro (Int.natCast_nonneg _) ?_ | refine fun (_ : Nat) => ?_ | refine Ord.go ?_ | refine Run.go rfl ?_ | refine Cont.go rfl ?_ | refine OrdP.go ?_)
      refine Cont.lp ?_
      refine ⟨t.size + 1 - (i + 1), [.str t, .junk, .junk, .sl 1 g2 C2 ((ps.map AV.str).length + 1), .int .i64 (i + 1 : Nat), .int .i64 (i + 1 : Nat), .junk, .junk, .junk, .junk, .junk, .junk, .junk, .junk, .junk, .junk, .junk, .junk, .junk, .junk, .junk, .junk, .junk, .junk, .junk, .junk, .junk, .junk, .junk, .junk, .junk, .junk], 2, by omega, ?_, ⟨i + 1, i + 1, ps ++ [t.extract f i], rfl, by omega, by omega, by omega, by simp; omega, newP (by omega) (.inl (by omega)), .inr ⟨by simp, x0, g2, C2, by simp, congrArg (fun l => [x0, (g2, AObj.row 9 1 C2 l)]) (show ps.map AV.str ++ [.str (t.extract f i)] = _ by simp)⟩⟩⟩
      repeat (first | exact trivial | refine ⟨.inl rfl, ?_⟩ | refine ⟨.inr rfl, ?_⟩)
    · have he : ¬ (i : Int) = (t.size : Int) := he
      have hlt : i < t.size := by omega
      repeat (first | refine Ops.go ?_ | refine And.intro rfl ?_ | refine And.intro (Nat.le_of_ble_eq_true rfl) ?_ | refine And.intro (Int.natCast_nonneg _) ?_ | refine fun (_ : Nat) => ?_ | refine Ord.go ?_ | refine Run.go rfl ?_ | refine Cont.go rfl ?_ | refine OrdP.go ?_)
      refine ⟨hlt, ?_⟩
      repeat (first | refine Ops.go ?_ | refine And.intro rfl ?_ | refine And.intro (Nat.le_of_ble_eq_true rfl) ?_ | refine And.intro (Int.natCast_nonneg _) ?_ | refine fun (_ : Nat) => ?_ | refine Ord.go ?_ | refine Run.go rfl ?_ | refine Cont.go rfl ?_ | refine OrdP.go ?_)
      refine ⟨fun hc => ?_, fun hc => ?_⟩
      · have hc : t[i] = 47 := (b47 hlt).1 hc
        repeat (first | refine Ops.go ?_ | refine And.intro rfl ?_ | refine And.intro (Nat.le_of_ble_eq_true rfl) ?_ | refine And.intro (Int.natCast_nonneg _) ?_ | refine fun (_ : Nat) => ?_ | refine Ord.go ?_ | refine Run.go rfl ?_ | refine Cont.go rfl ?_ | refine OrdP.go ?_)
        refine ⟨show (f : Int) ≤ (i : Int) by omega, show (i : Int) ≤ (t.size : Int) by omega, ?_⟩
        repeat (first | refine Ops.go ?_ | refine And.intro rfl ?_ | refine And.intro (Nat.le_of_ble_eq_true rfl) ?_ | refine And.intro (Int.natCast_nonneg _) ?_ | refine fun (_ : Nat) => ?_ | refine Ord.go ?_ | refine Run.go rfl ?_ | refine Cont.go rfl ?_ | refine OrdP.go ?_)
        refine ⟨(List.length_map ..).symm, show ((ps.map AV.str).length + 1) * 16 ≤ _ by rw [List.length_map]; omega, ?_⟩
        refine fun g2 C2 => ?_
        repeat (first | refine Ops.go ?_ | refine And.intro rfl ?_ | refine And.intro (Nat.le_of_ble_eq_true rfl) ?_ | refine And.intro (Int.natCast_nonneg _) ?_ | refine fun (_ : Nat) => ?_ | refine Ord.go ?_ | refine Run.go rfl ?_ | refine Cont.go rfl ?_ | refine OrdP.go ?_)
        refine fun r hr => ?_
        obtain rfl := add1 hr (by omega)
        repeat (first | refine Ops.go ?_ | refine And.intro rfl ?_ | refine And.intro (Nat.le_of_ble_eq_true rfl) ?_ | refine And.intro (Int.natCast_nonneg _) ?_ | refine fun (_ : Nat) => ?_ | refine Ord.go ?_ | refine Run.go rfl ?_ | refine Cont.go rfl ?_ | refine OrdP.go ?_)
        refine fun r hr => ?_
        obtain rfl := add1 hr (by omega)
        repeat (first | refine Ops.go ?_ | refine And.intro rfl ?_ | refine And.intro (Nat.le_of_ble_eq_true rfl) ?_ | refine And.intro (Int.natCast_nonneg _) ?_ | refine fun (_ : Nat) => ?_ | refine Ord.go ?_ | refine Run.go rfl ?_ | refine Cont.go rfl ?_ | refine OrdP.go ?_)
        refine Cont.lp ?_
        refine ⟨t.size + 1 - (i + 1), [.str t, .junk, .junk, .sl 1 g2 C2 ((ps.map AV.str).length + 1), .int .i64 (i + 1 : Nat), .int .i64 (i + 1 : Nat), .junk, .junk, .junk, .junk, .junk, .junk, .junk, .junk, .junk, .junk, .junk, .junk, .junk, .junk, .junk, .junk, .junk, .junk, .junk, .junk, .junk, .junk, .junk, .junk, .junk, .junk], 2, by omega, ?_, ⟨i + 1, i + 1, ps ++ [t.extract f i], rfl, by omega, by omega, by omega, by simp; omega, newP (by omega) (.inr ⟨hlt, hc⟩), .inr ⟨by simp, x0, g2, C2, by simp, congrArg (fun l => [x0, (g2, AObj.row 9 1 C2 l)]) (show ps.map AV.str ++ [.str (t.extract f i)] = _ by simp)⟩⟩⟩
        repeat (first | exact trivial | refine ⟨.inl rfl, ?_⟩ | refine ⟨.inr rfl, ?_⟩)
      · have hc : ¬ t[i] = 47 := fun e => hc ((b47 hlt).2 e)
        repeat (first | refine Ops.go ?_ | refine And.intro rfl ?_ | refine And.intro (Nat.le_of_ble_eq_true rfl) ?_ | refine And.intro (Int.natCast_nonneg _) ?_ | refine fun (_ : Nat) => ?_ | refine Ord.go ?_ | refine Run.go rfl ?_ | refine Cont.go rfl ?_ | refine OrdP.go ?_)
        refine fun r hr => ?_
        obtain rfl := add1 hr (by omega)
        repeat (first | refine Ops.go ?_ | refine And.intro rfl ?_ | refine And.intro (Nat.le_of_ble_eq_true rfl) ?_ | refine And.intro (Int.natCast_nonneg _) ?_ | refine fun (_ : Nat) => ?_ | refine Ord.go ?_ | refine Run.go rfl ?_ | refine Cont.go rfl ?_ | refine OrdP.go ?_)
        refine Cont.lp ?_
        refine ⟨t.size + 1 - (i + 1), [.str t, .junk, .junk, .sl 1 g Cp ps.length, .int .i64 f, .int .i64 (i + 1 : Nat), .junk, .junk, .junk, .junk, .junk, .junk, .junk, .junk, .junk, .junk, .junk, .junk, .junk, .junk, .junk, .junk, .junk, .junk, .junk, .junk, .junk, .junk, .junk, .junk, .junk, .junk], 2, by omega, ?_, ⟨f, i + 1, ps, rfl, by omega, by omega, by omega, by omega, newN hlt hc, .inr ⟨hps, x0, g, Cp, rfl, rfl⟩⟩⟩
        repeat (first | exact trivial | refine ⟨.inl rfl, ?_⟩ | refine ⟨.inr rfl, ?_⟩)

end Go.Proofs.YtfohedaadncefaaDoor.HBT
/- The contract of the document's own Parse. -/
namespace Go.Proofs.YtfohedaadncefaaDoor.HBT
open Go Go.Proofs.YtfohedaadncefaaDoor.HB Go.RowKit
set_option maxRecDepth 8000

def ParseR (s : ByteArray) (r : AV) (L' : AHeap) : Prop :=
  (parseE s ≠ 0 ∧ r = .tuple [.nils, .int .i64 (parseE s)] ∧ L' = []) ∨ (parseE s = 0 ∧ namesOf s = [] ∧ r = .tuple [.nils, .int .i64 0] ∧ L' = []) ∨
  (parseE s = 0 ∧ (namesOf s).length ≤ 6 ∧ ∃ g Cp, r = .tuple [.sl 0 g Cp (namesOf s).length, .int .i64 0] ∧ L' = [(g, .row 9 1 Cp ((namesOf s).map .str))])

theorem begins_iff {s : ByteArray} (h : 0 < s.size) : begins47 s = true ↔ s[0] = 47 := by
  have hl : 0 < s.data.toList.length := by rw [Array.length_toList]; exact h
  have e : s.data.toList = s[0] :: s.data.toList.drop 1 := by have := byte_at s 0 h; simpa using this
  unfold begins47
  rw [e]
  show (((47 : UInt8) == s[0]) && ([] : List UInt8).isPrefixOf _) = true ↔ _
  constructor
  · intro hb
    rw [Bool.and_eq_true] at hb
    exact (beq_iff_eq.1 hb.1).symm
  · intro e
    rw [e]
    rfl

set_option maxHeartbeats 1000000 in
theorem refParse_spec (s : ByteArray) : FnSpec C 78 [.str s] [] (ParseR s) := by
  refine FnSpec.start C_ok Tryd.func78 rfl rfl Tryd.ntmps78 ?_
  repeat (first | refine Ops.go ?_ | refine And.intro rfl ?_ | refine And.intro (Nat.le_of_ble_eq_true rfl) ?_ | refine And.intro (Int.natCast_nonneg _) ?_ | refine fun (_ : Nat) => ?_ | refine Ord.go ?_ | refine Run.go rfl ?_ | refine Cont.go rfl ?_ | refine OrdP.go ?_)
  refine ⟨fun h => ?_, fun h => ?_⟩
  case' refine_1 =>
    have h : (102 : Int) < (s.size : Int) := h
    have e : parseE s = 2 := by unfold parseE; rw [if_pos (by omega)]
    repeat (first | refine Ops.go ?_ | refine And.intro rfl ?_ | refine And.intro (Nat.le_of_ble_eq_true rfl) ?_ | refine And.intro (Int.natCast_nonneg _) ?_ | refine fun (_ : Nat) => ?_ | refine Ord.go ?_ | refine Run.go rfl ?_ | refine Cont.go rfl ?_ | refine OrdP.go ?_)
    exact ⟨_, [], FinOk.drop _ _, .inl ⟨by rw [e]; decide, by rw [e]; rfl, rfl⟩⟩
  have h : ¬ (102 : Int) < (s.size : Int) := h
  have h1 : ¬ 102 < s.size := by omega
  repeat (first | refine Ops.go ?_ | refine And.intro rfl ?_ | refine And.intro (Nat.le_of_ble_eq_true rfl) ?_ | refine And.intro (Int.natCast_nonneg _) ?_ | refine fun (_ : Nat) => ?_ | refine Ord.go ?_ | refine Run.go rfl ?_ | refine Cont.go rfl ?_ | refine OrdP.go ?_)
  refine ⟨fun h => ?_, fun h => ?_⟩
  case' refine_1 =>
    have h : s = slash := h
    repeat (first | refine Ops.go ?_ | refine And.intro rfl ?_ | refine And.intro (Nat.le_of_ble_eq_true rfl) ?_ | refine And.intro (Int.natCast_nonneg _) ?_ | refine fun (_ : Nat) => ?_ | refine Ord.go ?_ | refine Run.go rfl ?_ | refine Cont.go rfl ?_ | refine OrdP.go ?_)
    exact ⟨_, [], FinOk.drop _ _, .inr (.inl ⟨by unfold parseE; rw [if_neg h1, if_pos h], by unfold namesOf; rw [if_pos h], rfl, rfl⟩)⟩
  have h2 : ¬ s = slash := h
  have bad : begins47 s = false → parseE s = 10 := fun hb => by unfold parseE; rw [if_neg h1, if_neg h2, if_pos hb]
  repeat (first | refine Ops.go ?_ | refine And.intro rfl ?_ | refine And.intro (Nat.le_of_ble_eq_true rfl) ?_ | refine And.intro (Int.natCast_nonneg _) ?_ | refine fun (_ : Nat) => ?_ | refine Ord.go ?_ | refine Run.go rfl ?_ | refine Cont.go rfl ?_ | refine OrdP.go ?_)
  refine ⟨fun h => ?_, fun h => ?_⟩
  case' refine_1 =>
    have h : s = ⟨#[]⟩ := h
    have e := bad (by rw [h]; rfl)
    repeat (first | refine Ops.go ?_ | refine And.intro rfl ?_ | refine And.intro (Nat.le_of_ble_eq_true rfl) ?_ | refine And.intro (Int.natCast_nonneg _) ?_ | refine fun (_ : Nat) => ?_ | refine Ord.go ?_ | refine Run.go rfl ?_ | refine Cont.go rfl ?_ | refine OrdP.go ?_)
    exact ⟨_, [], FinOk.drop _ _, .inl ⟨by rw [e]; decide, by rw [e]; rfl, rfl⟩⟩
  have h0 : ¬ s = ⟨#[]⟩ := h
  have hpos : 0 < s.size := by
    rcases Nat.eq_zero_or_pos s.size with e | e
    · exact absurd (size_zero (by omega)) h0
    · exact e
  repeat (first | refine Ops.go ?_ | refine And.intro rfl ?_ | refine And.intro (Nat.le_of_ble_eq_true rfl) ?_ | refine And.intro (Int.natCast_nonneg _) ?_ | refine fun (_ : Nat) => ?_ | refine Ord.go ?_ | refine Run.go rfl ?_ | refine Cont.go rfl ?_ | refine OrdP.go ?_)
  refine ⟨hpos, ?_⟩
  repeat (first | refine Ops.go ?_ | refine And.intro rfl ?_ | refine And.intro (Nat.le_of_ble_eq_true rfl) ?_ | refine And.intro (Int.natCast_nonneg _) ?_ | refine fun (_ : Nat) => ?_ | refine Ord.go ?_ | refine Run.go rfl ?_ | refine Cont.go rfl ?_ | refine OrdP.go ?_)
  refine ⟨fun h => ?_, fun h => ?_⟩
  case' refine_1 =>
    have h : ((s[0].toNat : Nat) : Int) ≠ 47 := h
    have e := bad (by
      rw [Bool.eq_false_iff]
      intro hb
      rw [(begins_iff hpos).1 hb] at h
      exact h rfl)
    repeat (first | refine Ops.go ?_ | refine And.intro rfl ?_ | refine And.intro (Nat.le_of_ble_eq_true rfl) ?_ | refine And.intro (Int.natCast_nonneg _) ?_ | refine fun (_ : Nat) => ?_ | refine Ord.go ?_ | refine Run.go rfl ?_ | refine Cont.go rfl ?_ | refine OrdP.go ?_)
    exact ⟨_, [], FinOk.drop _ _, .inl ⟨by rw [e]; decide, by rw [e]; rfl, rfl⟩⟩
  have h : ¬ ((s[0].toNat : Nat) : Int) ≠ 47 := h
  have hb : begins47 s = true := (begins_iff hpos).2 (by
    apply UInt8.toNat_inj.1
    have : (47 : UInt8).toNat = 47 := rfl
    omega)
  repeat (first | refine Ops.go ?_ | refine And.intro rfl ?_ | refine And.intro (Nat.le_of_ble_eq_true rfl) ?_ | refine And.intro (Int.natCast_nonneg _) ?_ | refine fun (_ : Nat) => ?_ | refine Ord.go ?_ | refine Run.go rfl ?_ | refine Cont.go rfl ?_ | refine OrdP.go ?_)
  refine ACall.pure _ (refPieces_spec s (by omega) (by omega)) ?_
  rintro r L' ⟨g, Cp, rfl, rfl⟩
  refine ⟨_, Sub.refl _, ?_⟩
  repeat (first | refine Ops.go ?_ | refine And.intro rfl ?_ | refine And.intro (Nat.le_of_ble_eq_true rfl) ?_ | refine And.intro (Int.natCast_nonneg _) ?_ | refine fun (_ : Nat) => ?_ | refine Ord.go ?_ | refine Run.go rfl ?_ | refine Cont.go rfl ?_ | refine OrdP.go ?_)
  refine ⟨fun h => ?_, fun h => ?_⟩
  case' refine_1 =>
    have h : (6 : Int) < ((cutB s).length : Int) := h
    have e : parseE s = 10 := by unfold parseE; rw [if_neg h1, if_neg h2, if_neg (by rw [hb]; decide), if_pos (by omega)]
    repeat (first | refine Ops.go ?_ | refine And.intro rfl ?_ | refine And.intro (Nat.le_of_ble_eq_true rfl) ?_ | refine And.intro (Int.natCast_nonneg _) ?_ | refine fun (_ : Nat) => ?_ | refine Ord.go ?_ | refine Run.go rfl ?_ | refine Cont.go rfl ?_ | refine OrdP.go ?_)
    exact ⟨_, [], FinOk.drop _ _, .inl ⟨by rw [e]; decide, by rw [e]; rfl, rfl⟩⟩
  have h : ¬ (6 : Int) < ((cutB s).length : Int) := h
  have h3 : ¬ 6 < (cutB s).length := by omega
  repeat (first | refine Ops.go ?_ | refine And.intro rfl ?_ | refine And.intro (Nat.le_of_ble_eq_true rfl) ?_ | refine And.intro (Int.natCast_nonneg _) ?_ | refine fun (_ : Nat) => ?_ | refine Ord.go ?_ | refine Run.go rfl ?_ | refine Cont.go rfl ?_ | refine OrdP.go ?_)
  generalize hl : cutB s = l at h3 ⊢
  refine Run.loop (fun k env L => ∃ i : Nat, k = l.length - i ∧ i ≤ l.length ∧ (∀ (j : Nat) (x : ByteArray), l[j]? = some x → j < i → isNameB x = true) ∧
      env = [.junk, .junk, .junk, .junk, .sl 0 g Cp l.length, .int .i64 i, .junk, .junk, .junk, .junk, .junk, .junk, .junk, .junk, .junk, .junk, .junk, .junk, .junk, .junk, .junk, .junk, .junk, .junk, .junk, .junk, .junk, .junk, .junk, .junk, .junk, .junk, .junk, .junk, .junk, .junk, .junk, .junk] ∧ L = [(g, .row 9 1 Cp (l.map .str))]) l.length
    [.junk, .junk, .junk, .junk, .sl 0 g Cp l.length, .int .i64 0, .junk, .junk, .junk, .junk, .junk, .junk, .junk, .junk, .junk, .junk, .junk, .junk, .junk, .junk, .junk, .junk, .junk, .junk, .junk, .junk, .junk, .junk, .junk, .junk, .junk, .junk, .junk, .junk, .junk, .junk, .junk, .junk] ?_ ⟨0, by omega, by omega, (fun j _ _ hj => absurd hj (Nat.not_lt_zero j)), rfl, rfl⟩ ?_
  · repeat (first | exact trivial | refine ⟨.inl rfl, ?_⟩ | refine ⟨.inr rfl, ?_⟩)
  rintro k env L ⟨i, rfl, hi, hP, rfl, rfl⟩
  repeat (first | refine Ops.go ?_ | refine And.intro rfl ?_ | refine And.intro (Nat.le_of_ble_eq_true rfl) ?_ | refine And.intro (Int.natCast_nonneg _) ?_ | refine fun (_ : Nat) => ?_ | refine Ord.go ?_ | refine Run.go rfl ?_ | refine Cont.go rfl ?_ | refine OrdP.go ?_)
  refine ⟨fun h => ?_, fun h => ?_⟩
  · have h : (i : Int) < (l.length : Int) := h
    have hin : i < l.length := by omega
    obtain ⟨x, ex⟩ : ∃ x, l[i]? = some x := ⟨l[i], List.getElem?_eq_getElem hin⟩
    have ex' : (l.map AV.str)[i]? = some (.str x) := by rw [List.getElem?_map, ex]; rfl
    have hn := nameOf_spec x
    repeat (first | refine Ops.go ?_ | refine And.intro rfl ?_ | refine And.intro (Nat.le_of_ble_eq_true rfl) ?_ | refine And.intro (Int.natCast_nonneg _) ?_ | refine fun (_ : Nat) => ?_ | refine Ord.go ?_ | refine Run.go rfl ?_ | refine Cont.go rfl ?_ | refine OrdP.go ?_)
    refine ⟨h, ?_⟩
    repeat (first | refine Ops.go ?_ | refine And.intro rfl ?_ | refine And.intro (Nat.le_of_ble_eq_true rfl) ?_ | refine And.intro (Int.natCast_nonneg _) ?_ | refine fun (_ : Nat) => ?_ | refine Ord.go ?_ | refine Run.go rfl ?_ | refine Cont.go rfl ?_ | refine OrdP.go ?_)
    refine ⟨_, ex', ?_⟩
    repeat (first | refine Ops.go ?_ | refine And.intro rfl ?_ | refine And.intro (Nat.le_of_ble_eq_true rfl) ?_ | refine And.intro (Int.natCast_nonneg _) ?_ | refine fun (_ : Nat) => ?_ | refine Ord.go ?_ | refine Run.go rfl ?_ | refine Cont.go rfl ?_ | refine OrdP.go ?_)
    cases hx : isNameB x with
    | false =>
      rw [hx] at hn
      refine ACall.ret hn ?_
      repeat (first | refine Ops.go ?_ | refine And.intro rfl ?_ | refine And.intro (Nat.le_of_ble_eq_true rfl) ?_ | refine And.intro (Int.natCast_nonneg _) ?_ | refine fun (_ : Nat) => ?_ | refine Ord.go ?_ | refine Run.go rfl ?_ | refine Cont.go rfl ?_ | refine OrdP.go ?_)
      have e : parseE s = 10 := by
        have : l.all isNameB = false := by
          rw [Bool.eq_false_iff]
          intro e
          rw [List.all_eq_true] at e
          have := e x (List.mem_of_getElem? ex)
          rw [hx] at this
          cases this
        unfold parseE
        rw [hl, if_neg h1, if_neg h2, if_neg (by rw [hb]; decide), if_neg h3, this]
        rfl
      exact ⟨_, [], FinOk.drop _ _, .inl ⟨by rw [e]; decide, by rw [e]; rfl, rfl⟩⟩
    | true =>
      rw [hx] at hn
      refine ACall.ret hn ?_
      repeat (first | refine Ops.go ?_ | refine And.intro rfl ?_ | refine And.intro (Nat.le_of_ble_eq_true rfl) ?_ | refine And.intro (Int.natCast_nonneg _) ?_ | refine fun (_ : Nat) => ?_ | refine Ord.go ?_ | refine Run.go rfl ?_ | refine Cont.go rfl ?_ | refine OrdP.go ?_)
      refine fun r hr => ?_
      obtain rfl := add1 hr (by omega)
      repeat (first | refine Ops.go ?_ | refine And.intro rfl ?_ | refine And.intro (Nat.le_of_ble_eq_true rfl) ?_ | refine And.intro (Int.natCast_nonneg _) ?_ | refine fun (_ : Nat) => ?_ | refine Ord.go ?_ | refine Run.go rfl ?_ | refine Cont.go rfl ?_ | refine OrdP.go ?_)
      refine Cont.lp ?_
      refine ⟨l.length - (i + 1), [.junk, .junk, .junk, .junk, .sl 0 g Cp l.length, .int .i64 (i + 1 : Nat), .junk, .junk, .junk, .junk, .junk, .junk, .junk, .junk, .junk, .junk, .junk, .junk, .junk, .junk, .junk, .junk, .junk, .junk, .junk, .junk, .junk, .junk, .junk, .junk, .junk, .junk, .junk, .junk, .junk, .junk, .junk, .junk], 99, by omega, ?_, ⟨i + 1, rfl, by omega, ?_, rfl, rfl⟩⟩
      · repeat (first | exact trivial | refine ⟨.inl rfl, ?_⟩ | refine ⟨.inr rfl, ?_⟩)
      · intro j y hj hji
        by_cases e : j = i
        · subst e; rw [ex] at hj; cases hj; exact hx
        · exact hP j y hj (by omega)
  · have h : ¬ (i : Int) < (l.length : Int) := h
    repeat (first | refine Ops.go ?_ | refine And.intro rfl ?_ | refine And.intro (Nat.le_of_ble_eq_true rfl) ?_ | refine And.intro (Int.natCast_nonneg _) ?_ | refine fun (_ : Nat) => ?_ | refine Ord.go ?_ | refine Run.go rfl ?_ | refine Cont.go rfl ?_ | refine OrdP.go ?_)
    have hall : l.all isNameB = true := by
      rw [List.all_eq_true]
      intro x hx
      obtain ⟨j, hj, rfl⟩ := List.mem_iff_getElem.1 hx
      exact hP j _ (List.getElem?_eq_getElem hj) (by omega)
    have e : parseE s = 0 := by
      unfold parseE
      rw [hl, if_neg h1, if_neg h2, if_neg (by rw [hb]; decide), if_neg h3, if_pos hall]
    have en : namesOf s = l := by unfold namesOf; rw [if_neg h2]; exact hl
    exact ⟨_, _, FinOk.refl _ _, .inr (.inr ⟨e, by rw [en]; omega, g, Cp, by rw [en]; rfl, by rw [en]⟩)⟩

end Go.Proofs.YtfohedaadncefaaDoor.HBT
/- The contracts of the document's own Is, Of and Parent. -/
namespace Go.Proofs.YtfohedaadncefaaDoor.HBT
open Go Go.Proofs.YtfohedaadncefaaDoor.HB Go.RowKit
set_option maxRecDepth 8000

theorem refIs_spec (s : ByteArray) : FnSpec C 54 [.str s] [] (fun r L' => r = .bool (decide (parseE s = 0)) ∧ L' = []) := by
  refine FnSpec.start C_ok Tryd.func54 rfl rfl Tryd.ntmps54 ?_
  repeat (first | refine Ops.go ?_ | refine And.intro rfl ?_ | refine And.intro (Nat.le_of_ble_eq_true rfl) ?_ | refine And.intro (Int.natCast_nonneg _) ?_ | refine fun (_ : Nat) => ?_ | refine Ord.go ?_ | refine Run.go rfl ?_ | refine Cont.go rfl ?_ | refine OrdP.go ?_)
  refine ACall.pure _ (refParse_spec s) ?_
  rintro r L' (⟨h, rfl, rfl⟩ | ⟨h, _, rfl, rfl⟩ | ⟨h, _, g, Cp, rfl, rfl⟩)
  · refine ⟨_, Sub.refl _, ?_⟩
    repeat (first | refine Ops.go ?_ | refine And.intro rfl ?_ | refine And.intro (Nat.le_of_ble_eq_true rfl) ?_ | refine And.intro (Int.natCast_nonneg _) ?_ | refine fun (_ : Nat) => ?_ | refine Ord.go ?_ | refine Run.go rfl ?_ | refine Cont.go rfl ?_ | refine OrdP.go ?_)
    refine ⟨fun e => absurd e h, fun _ => ?_⟩
    repeat (first | refine Ops.go ?_ | refine And.intro rfl ?_ | refine And.intro (Nat.le_of_ble_eq_true rfl) ?_ | refine And.intro (Int.natCast_nonneg _) ?_ | refine fun (_ : Nat) => ?_ | refine Ord.go ?_ | refine Run.go rfl ?_ | refine Cont.go rfl ?_ | refine OrdP.go ?_)
    exact ⟨_, [], FinOk.drop _ _, congrArg AV.bool (show false = _ by simp [h]), rfl⟩
  · refine ⟨_, Sub.refl _, ?_⟩
    repeat (first | refine Ops.go ?_ | refine And.intro rfl ?_ | refine And.intro (Nat.le_of_ble_eq_true rfl) ?_ | refine And.intro (Int.natCast_nonneg _) ?_ | refine fun (_ : Nat) => ?_ | refine Ord.go ?_ | refine Run.go rfl ?_ | refine Cont.go rfl ?_ | refine OrdP.go ?_)
    refine ⟨fun _ => ?_, fun e => absurd rfl e⟩
    repeat (first | refine Ops.go ?_ | refine And.intro rfl ?_ | refine And.intro (Nat.le_of_ble_eq_true rfl) ?_ | refine And.intro (Int.natCast_nonneg _) ?_ | refine fun (_ : Nat) => ?_ | refine Ord.go ?_ | refine Run.go rfl ?_ | refine Cont.go rfl ?_ | refine OrdP.go ?_)
    exact ⟨_, [], FinOk.drop _ _, congrArg AV.bool (show true = _ by simp [h]), rfl⟩
  · refine ⟨_, Sub.refl _, ?_⟩
    repeat (first | refine Ops.go ?_ | refine And.intro rfl ?_ | refine And.intro (Nat.le_of_ble_eq_true rfl) ?_ | refine And.intro (Int.natCast_nonneg _) ?_ | refine fun (_ : Nat) => ?_ | refine Ord.go ?_ | refine Run.go rfl ?_ | refine Cont.go rfl ?_ | refine OrdP.go ?_)
    refine ⟨fun _ => ?_, fun e => absurd rfl e⟩
    repeat (first | refine Ops.go ?_ | refine And.intro rfl ?_ | refine And.intro (Nat.le_of_ble_eq_true rfl) ?_ | refine And.intro (Int.natCast_nonneg _) ?_ | refine fun (_ : Nat) => ?_ | refine Ord.go ?_ | refine Run.go rfl ?_ | refine Cont.go rfl ?_ | refine OrdP.go ?_)
    exact ⟨_, [], FinOk.drop _ _, congrArg AV.bool (show true = _ by simp [h]), rfl⟩

/-- Names, a slash ahead of each. -/
def ofB (l : List ByteArray) : ByteArray := l.foldl (fun s x => (s ++ slash) ++ x) ⟨#[]⟩
theorem ofB_snoc (l : List ByteArray) (x : ByteArray) : ofB (l ++ [x]) = (ofB l ++ slash) ++ x := by
  unfold ofB
  rw [List.foldl_append]
  rfl
set_option maxHeartbeats 1000000 in
theorem refOf_spec (xs : List ByteArray) (n : Nat) (hn : n ≤ xs.length) (h6 : n ≤ 6) (h16 : ∀ x ∈ xs, x.size ≤ 16) : FnSpec C 97 [.ro 1 (xs.map .str) n] [] (fun r L' => r = .str (if ofB (xs.take n) = ⟨#[]⟩ then slash else ofB (xs.take n)) ∧ L' = []) := by
  refine FnSpec.start C_ok Tryd.func97 rfl rfl Tryd.ntmps97 ?_
  repeat (first | refine Ops.go ?_ | refine And.intro rfl ?_ | refine And.intro (Nat.le_of_ble_eq_true rfl) ?_ | refine And.intro (Int.natCast_nonneg _) ?_ | refine fun (_ : Nat) => ?_ | refine Ord.go ?_ | refine Run.go rfl ?_ | refine Cont.go rfl ?_ | refine OrdP.go ?_)
  refine Run.loop (fun k env L => ∃ i : Nat, k = n - i ∧ i ≤ n ∧ (ofB (xs.take i)).size ≤ i * 17 ∧ env = [.ro 1 (xs.map .str) n, .junk, .junk, .str (ofB (xs.take i)), .int .i64 i, .junk, .junk, .junk, .junk, .junk, .junk, .junk, .junk, .junk, .junk, .junk, .junk, .junk, .junk, .junk, .junk] ∧ L = []) n
    [.ro 1 (xs.map .str) n, .junk, .junk, .str (ofB (xs.take 0)), .int .i64 0, .junk, .junk, .junk, .junk, .junk, .junk, .junk, .junk, .junk, .junk, .junk, .junk, .junk, .junk, .junk, .junk] ?_ ⟨0, by omega, by omega, (by decide : (0 : Nat) ≤ 0 * 17), rfl, rfl⟩ ?_
  · repeat (first | exact trivial | refine ⟨.inl rfl, ?_⟩ | refine ⟨.inr rfl, ?_⟩)
  rintro k env L ⟨i, rfl, hi, hsz, rfl, rfl⟩
  repeat (first | refine Ops.go ?_ | refine And.intro rfl ?_ | refine And.intro (Nat.le_of_ble_eq_true rfl) ?_ | refine And.intro (Int.natCast_nonneg _) ?_ | refine fun (_ : Nat) => ?_ | refine Ord.go ?_ | refine Run.go rfl ?_ | refine Cont.go rfl ?_ | refine OrdP.go ?_)
  refine ⟨fun h => ?_, fun h => ?_⟩
  · have h : (i : Int) < (n : Int) := h
    obtain ⟨x, ex⟩ : ∃ x, xs[i]? = some x := ⟨xs[i], List.getElem?_eq_getElem (by omega)⟩
    have ex' : (xs.map AV.str)[i]? = some (.str x) := by rw [List.getElem?_map, ex]; rfl
    have hx := h16 x (List.mem_of_getElem? ex)
    have e1 : slash.size = 1 := rfl
    have htake : xs.take (i + 1) = xs.take i ++ [x] := by rw [List.take_add_one, ex]; rfl
    repeat (first | refine Ops.go ?_ | refine And.intro rfl ?_ | refine And.intro (Nat.le_of_ble_eq_true rfl) ?_ | refine And.intro (Int.natCast_nonneg _) ?_ | refine fun (_ : Nat) => ?_ | refine Ord.go ?_ | refine Run.go rfl ?_ | refine Cont.go rfl ?_ | refine OrdP.go ?_)
    refine ⟨show (ofB (xs.take i)).size + slash.size ≤ 9223372036854775807 by omega, ?_⟩
    repeat (first | refine Ops.go ?_ | refine And.intro rfl ?_ | refine And.intro (Nat.le_of_ble_eq_true rfl) ?_ | refine And.intro (Int.natCast_nonneg _) ?_ | refine fun (_ : Nat) => ?_ | refine Ord.go ?_ | refine Run.go rfl ?_ | refine Cont.go rfl ?_ | refine OrdP.go ?_)
    refine ⟨h, _, ex', ?_⟩
    repeat (first | refine Ops.go ?_ | refine And.intro rfl ?_ | refine And.intro (Nat.le_of_ble_eq_true rfl) ?_ | refine And.intro (Int.natCast_nonneg _) ?_ | refine fun (_ : Nat) => ?_ | refine Ord.go ?_ | refine Run.go rfl ?_ | refine Cont.go rfl ?_ | refine OrdP.go ?_)
    have e2 : (ofB (xs.take i) ++ slash).size = (ofB (xs.take i)).size + slash.size := ByteArray.size_append
    refine ⟨show (ofB (xs.take i) ++ slash).size + x.size ≤ 9223372036854775807 by omega, ?_⟩
    repeat (first | refine Ops.go ?_ | refine And.intro rfl ?_ | refine And.intro (Nat.le_of_ble_eq_true rfl) ?_ | refine And.intro (Int.natCast_nonneg _) ?_ | refine fun (_ : Nat) => ?_ | refine Ord.go ?_ | refine Run.go rfl ?_ | refine Cont.go rfl ?_ | refine OrdP.go ?_)
    refine fun r hr => ?_
    obtain rfl := add1 hr (by omega)
    repeat (first | refine Ops.go ?_ | refine And.intro rfl ?_ | refine And.intro (Nat.le_of_ble_eq_true rfl) ?_ | refine And.intro (Int.natCast_nonneg _) ?_ | refine fun (_ : Nat) => ?_ | refine Ord.go ?_ | refine Run.go rfl ?_ | refine Cont.go rfl ?_ | refine OrdP.go ?_)
    refine Cont.lp ?_
    refine ⟨n - (i + 1), [.ro 1 (xs.map .str) n, .junk, .junk, .str ((ofB (xs.take i) ++ slash) ++ x), .int .i64 (i + 1 : Nat), .junk, .junk, .junk, .junk, .junk, .junk, .junk, .junk, .junk, .junk, .junk, .junk, .junk, .junk, .junk, .junk], 99, by omega, ?_, ⟨i + 1, rfl, by omega, ?_, ?_, rfl⟩⟩
    · repeat (first | exact trivial | refine ⟨.inl rfl, ?_⟩ | refine ⟨.inr rfl, ?_⟩)
    · rw [htake, ofB_snoc, ByteArray.size_append, e2]
      omega
    · rw [htake, ofB_snoc]
  · have h : ¬ (i : Int) < (n : Int) := h
    have hin : i = n := by omega
    subst hin
    repeat (first | refine Ops.go ?_ | refine And.intro rfl ?_ | refine And.intro (Nat.le_of_ble_eq_true rfl) ?_ | refine And.intro (Int.natCast_nonneg _) ?_ | refine fun (_ : Nat) => ?_ | refine Ord.go ?_ | refine Run.go rfl ?_ | refine Cont.go rfl ?_ | refine OrdP.go ?_)
    refine ⟨fun he => ?_, fun he => ?_⟩
    · have he : ofB (xs.take i) = ⟨#[]⟩ := he
      repeat (first | refine Ops.go ?_ | refine And.intro rfl ?_ | refine And.intro (Nat.le_of_ble_eq_true rfl) ?_ | refine And.intro (Int.natCast_nonneg _) ?_ | refine fun (_ : Nat) => ?_ | refine Ord.go ?_ | refine Run.go rfl ?_ | refine Cont.go rfl ?_ | refine OrdP.go ?_)
      exact ⟨_, [], FinOk.drop _ _, by rw [if_pos he]; rfl, rfl⟩
    · have he : ¬ ofB (xs.take i) = ⟨#[]⟩ := he
      repeat (first | refine Ops.go ?_ | refine And.intro rfl ?_ | refine And.intro (Nat.le_of_ble_eq_true rfl) ?_ | refine And.intro (Int.natCast_nonneg _) ?_ | refine fun (_ : Nat) => ?_ | refine Ord.go ?_ | refine Run.go rfl ?_ | refine Cont.go rfl ?_ | refine OrdP.go ?_)
      exact ⟨_, [], FinOk.drop _ _, by rw [if_neg he]; rfl, rfl⟩

end Go.Proofs.YtfohedaadncefaaDoor.HBT
/- The contract of the document's own Parent. -/
namespace Go.Proofs.YtfohedaadncefaaDoor.HBT
open Go Go.Proofs.YtfohedaadncefaaDoor.HB Go.RowKit
set_option maxRecDepth 8000

theorem ofB_data (l : List ByteArray) : (ofB l).data.toList = (l.map fun x => 47 :: x.data.toList).flatten := by
  have key : ∀ (l : List ByteArray) (a : ByteArray), (l.foldl (fun s x => (s ++ slash) ++ x) a).data.toList = a.data.toList ++ (l.map fun x => 47 :: x.data.toList).flatten := by
    intro l
    induction l with
    | nil => intro a; simp
    | cons x l ih =>
      intro a
      rw [List.foldl_cons, ih]
      simp [slash]
  unfold ofB
  rw [key]
  rfl
theorem join_slash : ∀ l : List (List UInt8), l ≠ [] → 47 :: Lib.join l [47] = (l.map fun x => 47 :: x).flatten
  | [], h => absurd rfl h
  | [x], _ => by rw [Lib.join_one]; simp
  | x :: y :: l, _ => by
    have ih := join_slash (y :: l) (by simp)
    have e : Lib.join (x :: y :: l) [47] = x ++ 47 :: Lib.join (y :: l) [47] := by simp [Lib.join, List.intercalate, List.intersperse]
    rw [e, ih]
    simp
theorem of_placed (l : List ByteArray) : (if ofB l = ⟨#[]⟩ then slash else ofB l) = placedB l := by
  by_cases hl : l = []
  · subst hl
    rw [if_pos (show ofB [] = ⟨#[]⟩ from rfl)]
    apply bytes_inj
    rw [placed_data]
    rfl
  · have e : ofB l = placedB l := by
      apply bytes_inj
      rw [ofB_data, placed_data]
      unfold joinB
      rw [join_slash _ (by simpa using hl), List.map_map]
      rfl
    rw [e, if_neg]
    intro h
    have := congrArg (·.data.toList) h
    simp only [placed_data] at this
    cases this

set_option maxHeartbeats 1000000 in
theorem refParent_spec (s : ByteArray) : FnSpec C 81 [.str s] [] (fun r L' => r = .tuple [.str (parentB s), .int .i64 (parentE s)] ∧ L' = []) := by
  refine FnSpec.start C_ok Tryd.func81 rfl rfl Tryd.ntmps81 ?_
  repeat (first | refine Ops.go ?_ | refine And.intro rfl ?_ | refine And.intro (Nat.le_of_ble_eq_true rfl) ?_ | refine And.intro (Int.natCast_nonneg _) ?_ | refine fun (_ : Nat) => ?_ | refine Ord.go ?_ | refine Run.go rfl ?_ | refine Cont.go rfl ?_ | refine OrdP.go ?_)
  refine ACall.pure _ (refParse_spec s) ?_
  rintro r L' (⟨h, rfl, rfl⟩ | ⟨h, hn, rfl, rfl⟩ | ⟨h, hn, g, Cp, rfl, rfl⟩)
  · refine ⟨_, Sub.refl _, ?_⟩
    have e : parentE s = parseE s := by unfold parentE; rw [if_pos h]
    have e2 : parentB s = ⟨#[]⟩ := by unfold parentB; rw [if_pos (by rw [e]; exact h)]
    repeat (first | refine Ops.go ?_ | refine And.intro rfl ?_ | refine And.intro (Nat.le_of_ble_eq_true rfl) ?_ | refine And.intro (Int.natCast_nonneg _) ?_ | refine fun (_ : Nat) => ?_ | refine Ord.go ?_ | refine Run.go rfl ?_ | refine Cont.go rfl ?_ | refine OrdP.go ?_)
    refine ⟨fun _ => ?_, fun e => absurd h e⟩
    repeat (first | refine Ops.go ?_ | refine And.intro rfl ?_ | refine And.intro (Nat.le_of_ble_eq_true rfl) ?_ | refine And.intro (Int.natCast_nonneg _) ?_ | refine fun (_ : Nat) => ?_ | refine Ord.go ?_ | refine Run.go rfl ?_ | refine Cont.go rfl ?_ | refine OrdP.go ?_)
    exact ⟨_, [], FinOk.drop _ _, by rw [e, e2]; rfl, rfl⟩
  · refine ⟨_, Sub.refl _, ?_⟩
    have e : parentE s = 47 := by unfold parentE; rw [if_neg (by rw [h]; decide), if_pos hn]
    have e2 : parentB s = ⟨#[]⟩ := by unfold parentB; rw [if_pos (by rw [e]; decide)]
    repeat (first | refine Ops.go ?_ | refine And.intro rfl ?_ | refine And.intro (Nat.le_of_ble_eq_true rfl) ?_ | refine And.intro (Int.natCast_nonneg _) ?_ | refine fun (_ : Nat) => ?_ | refine Ord.go ?_ | refine Run.go rfl ?_ | refine Cont.go rfl ?_ | refine OrdP.go ?_)
    refine ⟨fun e => absurd rfl e, fun _ => ?_⟩
    repeat (first | refine Ops.go ?_ | refine And.intro rfl ?_ | refine And.intro (Nat.le_of_ble_eq_true rfl) ?_ | refine And.intro (Int.natCast_nonneg _) ?_ | refine fun (_ : Nat) => ?_ | refine Ord.go ?_ | refine Run.go rfl ?_ | refine Cont.go rfl ?_ | refine OrdP.go ?_)
    refine ⟨fun _ => ?_, fun e => absurd rfl e⟩
    repeat (first | refine Ops.go ?_ | refine And.intro rfl ?_ | refine And.intro (Nat.le_of_ble_eq_true rfl) ?_ | refine And.intro (Int.natCast_nonneg _) ?_ | refine fun (_ : Nat) => ?_ | refine Ord.go ?_ | refine Run.go rfl ?_ | refine Cont.go rfl ?_ | refine OrdP.go ?_)
    exact ⟨_, [], FinOk.drop _ _, by rw [e, e2]; rfl, rfl⟩
  · refine ⟨_, Sub.refl _, ?_⟩
    obtain ⟨h6, hall⟩ := names_ok h
    generalize hl : namesOf s = l at h6 hall ⊢
    repeat (first | refine Ops.go ?_ | refine And.intro rfl ?_ | refine And.intro (Nat.le_of_ble_eq_true rfl) ?_ | refine And.intro (Int.natCast_nonneg _) ?_ | refine fun (_ : Nat) => ?_ | refine Ord.go ?_ | refine Run.go rfl ?_ | refine Cont.go rfl ?_ | refine OrdP.go ?_)
    refine ⟨fun e => absurd rfl e, fun _ => ?_⟩
    repeat (first | refine Ops.go ?_ | refine And.intro rfl ?_ | refine And.intro (Nat.le_of_ble_eq_true rfl) ?_ | refine And.intro (Int.natCast_nonneg _) ?_ | refine fun (_ : Nat) => ?_ | refine Ord.go ?_ | refine Run.go rfl ?_ | refine Cont.go rfl ?_ | refine OrdP.go ?_)
    refine ⟨fun h0 => ?_, fun h0 => ?_⟩
    · have h0 : (l.length : Int) = 0 := h0
      have hnil : l = [] := List.eq_nil_of_length_eq_zero (by omega)
      have e : parentE s = 47 := by unfold parentE; rw [if_neg (by rw [h]; decide), if_pos (by rw [hl]; exact hnil)]
      have e2 : parentB s = ⟨#[]⟩ := by unfold parentB; rw [if_pos (by rw [e]; decide)]
      repeat (first | refine Ops.go ?_ | refine And.intro rfl ?_ | refine And.intro (Nat.le_of_ble_eq_true rfl) ?_ | refine And.intro (Int.natCast_nonneg _) ?_ | refine fun (_ : Nat) => ?_ | refine Ord.go ?_ | refine Run.go rfl ?_ | refine Cont.go rfl ?_ | refine OrdP.go ?_)
      exact ⟨_, [], FinOk.drop _ _, by rw [e, e2]; rfl, rfl⟩
    · have h0 : ¬ (l.length : Int) = 0 := h0
      have hne : l ≠ [] := fun e => h0 (by rw [e]; rfl)
      have e : parentE s = 0 := by unfold parentE; rw [if_neg (by rw [h]; decide), if_neg (by rw [hl]; exact hne)]
      have e2 : parentB s = placedB (l.take (l.length - 1)) := by unfold parentB; rw [if_neg (by rw [e]; decide), hl]
      repeat (first | refine Ops.go ?_ | refine And.intro rfl ?_ | refine And.intro (Nat.le_of_ble_eq_true rfl) ?_ | refine And.intro (Int.natCast_nonneg _) ?_ | refine fun (_ : Nat) => ?_ | refine Ord.go ?_ | refine Run.go rfl ?_ | refine Cont.go rfl ?_ | refine OrdP.go ?_)
      refine fun r hr => ?_
      have hr : r = ((l.length - 1 : Nat) : Int) := by rw [hr, IntKind.wrap_i64]; omega
      subst hr
      repeat (first | refine Ops.go ?_ | refine And.intro rfl ?_ | refine And.intro (Nat.le_of_ble_eq_true rfl) ?_ | refine And.intro (Int.natCast_nonneg _) ?_ | refine fun (_ : Nat) => ?_ | refine Ord.go ?_ | refine Run.go rfl ?_ | refine Cont.go rfl ?_ | refine OrdP.go ?_)
      refine ⟨show ((l.length - 1 : Nat) : Int) ≤ ((l.map AV.str).length : Int) by rw [List.length_map]; omega, ?_⟩
      repeat (first | refine Ops.go ?_ | refine And.intro rfl ?_ | refine And.intro (Nat.le_of_ble_eq_true rfl) ?_ | refine And.intro (Int.natCast_nonneg _) ?_ | refine fun (_ : Nat) => ?_ | refine Ord.go ?_ | refine Run.go rfl ?_ | refine Cont.go rfl ?_ | refine OrdP.go ?_)
      have c := refOf_spec l (l.length - 1) (by omega) (by omega) (fun x hx => isNameB_size (hall x hx))
      rw [of_placed] at c
      refine ACall.ret_lend (.one (.row _ _ _ _ _ _ _ rfl (show l.length - 1 ≤ (l.map AV.str).length by rw [List.length_map]; omega))) c rfl ?_
      repeat (first | refine Ops.go ?_ | refine And.intro rfl ?_ | refine And.intro (Nat.le_of_ble_eq_true rfl) ?_ | refine And.intro (Int.natCast_nonneg _) ?_ | refine fun (_ : Nat) => ?_ | refine Ord.go ?_ | refine Run.go rfl ?_ | refine Cont.go rfl ?_ | refine OrdP.go ?_)
      exact ⟨_, [], FinOk.drop _ _, by rw [e, e2]; rfl, rfl⟩

end Go.Proofs.YtfohedaadncefaaDoor.HBT
