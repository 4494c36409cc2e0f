/- The contract of the law's helper that puts other nodes in a list's place. -/
import Derived.Test.YtfohedaadncefaaDoorHbD8
import Derived.Test.YtfohedaadncefaaDoorHbR6
import Derived.Lib.Overlaps
import Derived.Defers
import Derived.Laws.BytesString
namespace Go.Proofs.YtfohedaadncefaaDoor.HBT
open Go Go.Proofs.YtfohedaadncefaaDoor.HB Go.RowKit
set_option maxRecDepth 8000

theorem set_mem {P : Sn → Prop} {l : List Sn} {i : Nat} {x : Sn} (h : ∀ y ∈ l, P y) (hx : P x) : ∀ y ∈ l.set i x, P y := fun y hy => by
  rcases List.mem_or_eq_of_mem_set hy with hy | rfl
  · exact h y hy
  · exact hx

theorem turned_spec (way : Int) (P : ByteArray → Prop) (st : Int) (pl : ByteArray) (kd : Int) (g Cp : Nat) (xs : List Sn) (n : Nat) (hx : n ≤ xs.length) (hn : n ≤ 70) (hPs : ∀ x ∈ xs, P x.p) :
    FnSpec C 11 [shot st pl kd (.sl 0 g Cp n), .int .i64 way] [(g, .row 50 3 Cp (xs.map enc))] (fun r L' => ∃ ws : List Sn, ws.length = xs.length ∧ ws.drop n = xs.drop n ∧ (∀ x ∈ ws, P x.p) ∧
      ((n = 0 ∧ r = shot st pl kd .nils ∧ L' = [(g, .row 50 3 Cp (ws.map enc))]) ∨ (0 < n ∧ ∃ g2 C2, r = shot st pl kd (.sl 1 g2 C2 n) ∧ L' = [(g, .row 50 3 Cp (ws.map enc)), (g2, .row 50 3 C2 ((ws.take n).map enc))]))) := by
  refine FnSpec.start C_ok Tryd.func11 rfl rfl Tryd.ntmps11 ?_
  repeat (first | refine Ops.go ?_ | refine And.intro rfl ?_ | refine And.intro (Nat.le_of_ble_eq_true rfl) ?_ | refine And.intro (Int.natCast_nonneg _) ?_ | refine Ord.go ?_ | refine Run.go rfl ?_ | refine Cont.go rfl ?_ | refine OrdP.go ?_)
  refine fun g1 => ?_
  repeat (first | refine Ops.go ?_ | refine And.intro rfl ?_ | refine And.intro (Nat.le_of_ble_eq_true rfl) ?_ | refine And.intro (Int.natCast_nonneg _) ?_ | refine Ord.go ?_ | refine Run.go rfl ?_ | refine Cont.go rfl ?_ | refine OrdP.go ?_)
  refine fun g2 => ?_
  repeat (first | refine Ops.go ?_ | refine And.intro rfl ?_ | refine And.intro (Nat.le_of_ble_eq_true rfl) ?_ | refine And.intro (Int.natCast_nonneg _) ?_ | refine fun (_ : Nat) => ?_ | refine Ord.go ?_ | refine Run.go rfl ?_ | refine Cont.go rfl ?_ | refine OrdP.go ?_)
  refine Run.loop (fun k env L => ∃ (i : Nat) (ws : List Sn), k = n - i ∧ i ≤ n ∧ ws.length = xs.length ∧ ws.drop n = xs.drop n ∧ (∀ x ∈ ws, P x.p) ∧ env = [.junk, .int .i64 way, .ptr 1 g1 0, .junk, .ptr 2 g2 0, .int .i64 n, .int .i64 i, .junk, .junk, .junk, .junk, .junk, .junk, .junk, .junk, .junk, .junk, .junk, .junk, .junk, .junk, .junk, .junk, .junk, .junk, .junk, .junk, .junk, .junk, .junk, .junk, .junk, .junk, .junk, .junk, .junk, .junk, .junk, .junk, .junk, .junk, .junk, .junk, .junk, .junk, .junk, .junk, .junk, .junk, .junk, .junk, .junk, .junk, .junk, .junk, .junk, .junk, .junk, .junk, .junk, .junk, .junk, .junk, .junk, .junk, .junk, .junk, .junk, .junk, .junk, .junk] ∧ L = [(g, .row 50 3 Cp (ws.map enc)), (g1, .cells 24 [.int .i64 st, .str pl, .int .i64 kd, .sl 0 g Cp n]), (g2, .cells 24 [.int .i64 0, .str ⟨#[]⟩, .int .i64 0, .nils])]) n [.junk, .int .i64 way, .ptr 1 g1 0, .junk, .ptr 2 g2 0, .int .i64 n, .int .i64 0, .junk, .junk, .junk, .junk, .junk, .junk, .junk, .junk, .junk, .junk, .junk, .junk, .junk, .junk, .junk, .junk, .junk, .junk, .junk, .junk, .junk, .junk, .junk, .junk, .junk, .junk, .junk, .junk, .junk, .junk, .junk, .junk, .junk, .junk, .junk, .junk, .junk, .junk, .junk, .junk, .junk, .junk, .junk, .junk, .junk, .junk, .junk, .junk, .junk, .junk, .junk, .junk, .junk, .junk, .junk, .junk, .junk, .junk, .junk, .junk, .junk, .junk, .junk, .junk] ?_ ⟨0, xs, by omega, by omega, rfl, rfl, hPs, rfl, rfl⟩ ?_
  · repeat (first | exact trivial | refine ⟨.inl rfl, ?_⟩ | refine ⟨.inr rfl, ?_⟩)
  rintro k env L ⟨i, ws, rfl, hi, hl, hd, hPw, rfl, rfl⟩
  have rnd : ∀ (ws' : List Sn), ws'.length = xs.length → ws'.drop n = xs.drop n → (∀ x ∈ ws', P x.p) → True := fun _ _ _ _ => trivial
  repeat (first | refine Ops.go ?_ | refine And.intro rfl ?_ | refine And.intro (Nat.le_of_ble_eq_true rfl) ?_ | refine And.intro (Int.natCast_nonneg _) ?_ | refine fun (_ : Nat) => ?_ | refine Ord.go ?_ | refine Run.go rfl ?_ | refine Cont.go rfl ?_ | refine OrdP.go ?_)
  refine ⟨fun h => ?_, fun h => ?_⟩
  · have h : (i : Int) < (n : Int) := h
    have hin : i < n := by omega
    repeat (first | refine Ops.go ?_ | refine And.intro rfl ?_ | refine And.intro (Nat.le_of_ble_eq_true rfl) ?_ | refine And.intro (Int.natCast_nonneg _) ?_ | refine fun (_ : Nat) => ?_ | refine Ord.go ?_ | refine Run.go rfl ?_ | refine Cont.go rfl ?_ | refine OrdP.go ?_)
    refine ⟨fun hw => ?_, fun hw => ?_⟩
    · have hw : way = 1 := hw
      repeat (first | refine Ops.go ?_ | refine And.intro rfl ?_ | refine And.intro (Nat.le_of_ble_eq_true rfl) ?_ | refine And.intro (Int.natCast_nonneg _) ?_ | refine fun (_ : Nat) => ?_ | refine Ord.go ?_ | refine Run.go rfl ?_ | refine Cont.go rfl ?_ | refine OrdP.go ?_)
      refine fun r hr => ?_
      obtain rfl : r = ((n - 1 : Nat) : Int) := by rw [hr, IntKind.wrap_i64]; omega
      repeat (first | refine Ops.go ?_ | refine And.intro rfl ?_ | refine And.intro (Nat.le_of_ble_eq_true rfl) ?_ | refine And.intro (Int.natCast_nonneg _) ?_ | refine fun (_ : Nat) => ?_ | refine Ord.go ?_ | refine Run.go rfl ?_ | refine Cont.go rfl ?_ | refine OrdP.go ?_)
      refine fun r hr => ?_
      obtain ⟨m, rfl, hm⟩ : ∃ m : Nat, r = (m : Int) ∧ m + 1 + i = n := ⟨n - 1 - i, by rw [hr, IntKind.wrap_i64]; omega, by omega⟩
      repeat (first | refine Ops.go ?_ | refine And.intro rfl ?_ | refine And.intro (Nat.le_of_ble_eq_true rfl) ?_ | refine And.intro (Int.natCast_nonneg _) ?_ | refine fun (_ : Nat) => ?_ | refine Ord.go ?_ | refine Run.go rfl ?_ | refine Cont.go rfl ?_ | refine OrdP.go ?_)
      refine ⟨fun hl2 => ?_, fun hl2 => ?_⟩
      · have hl2 : (i : Int) < (m : Int) := hl2
        obtain ⟨x, ex⟩ : ∃ x, ws[i]? = some x := ⟨ws[i], List.getElem?_eq_getElem (by omega)⟩
        obtain ⟨y, ey⟩ : ∃ y, ws[m]? = some y := ⟨ws[m], List.getElem?_eq_getElem (by omega)⟩
        repeat (first | refine Ops.go ?_ | refine And.intro rfl ?_ | refine And.intro (Nat.le_of_ble_eq_true rfl) ?_ | refine And.intro (Int.natCast_nonneg _) ?_ | refine fun (_ : Nat) => ?_ | refine Ord.go ?_ | refine Run.go rfl ?_ | refine Cont.go rfl ?_ | refine OrdP.go ?_)
        refine ⟨h, ?_⟩
        repeat (first | refine Ops.go ?_ | refine And.intro rfl ?_ | refine And.intro (Nat.le_of_ble_eq_true rfl) ?_ | refine And.intro (Int.natCast_nonneg _) ?_ | refine fun (_ : Nat) => ?_ | refine Ord.go ?_ | refine Run.go rfl ?_ | refine Cont.go rfl ?_ | refine OrdP.go ?_)
        refine ⟨enc x, enc_at _ _ _ ex, ?_⟩
        repeat (first | refine Ops.go ?_ | refine And.intro rfl ?_ | refine And.intro (Nat.le_of_ble_eq_true rfl) ?_ | refine And.intro (Int.natCast_nonneg _) ?_ | refine fun (_ : Nat) => ?_ | refine Ord.go ?_ | refine Run.go rfl ?_ | refine Cont.go rfl ?_ | refine OrdP.go ?_)
        refine Run.drawnW [12] [0, 1, 2, 3, 4, 5, 6, 7, 8, 9, 10, 11] (by kernel_rfl) ?_
        repeat (first | refine Ops.go ?_ | refine And.intro rfl ?_ | refine And.intro (Nat.le_of_ble_eq_true rfl) ?_ | refine And.intro (Int.natCast_nonneg _) ?_ | refine fun (_ : Nat) => ?_ | refine Ord.go ?_ | refine Run.go rfl ?_ | refine Cont.go rfl ?_ | refine OrdP.go ?_)
        refine fun r hr => ?_
        obtain rfl : r = ((n - 1 : Nat) : Int) := by rw [hr, IntKind.wrap_i64]; omega
        repeat (first | refine Ops.go ?_ | refine And.intro rfl ?_ | refine And.intro (Nat.le_of_ble_eq_true rfl) ?_ | refine And.intro (Int.natCast_nonneg _) ?_ | refine fun (_ : Nat) => ?_ | refine Ord.go ?_ | refine Run.go rfl ?_ | refine Cont.go rfl ?_ | refine OrdP.go ?_)
        refine fun r hr => ?_
        obtain rfl : r = (m : Int) := by rw [hr, IntKind.wrap_i64]; omega
        repeat (first | refine Ops.go ?_ | refine And.intro rfl ?_ | refine And.intro (Nat.le_of_ble_eq_true rfl) ?_ | refine And.intro (Int.natCast_nonneg _) ?_ | refine fun (_ : Nat) => ?_ | refine Ord.go ?_ | refine Run.go rfl ?_ | refine Cont.go rfl ?_ | refine OrdP.go ?_)
        refine ⟨show (m : Int) < (n : Int) by omega, ?_⟩
        repeat (first | refine Ops.go ?_ | refine And.intro rfl ?_ | refine And.intro (Nat.le_of_ble_eq_true rfl) ?_ | refine And.intro (Int.natCast_nonneg _) ?_ | refine fun (_ : Nat) => ?_ | refine Ord.go ?_ | refine Run.go rfl ?_ | refine Cont.go rfl ?_ | refine OrdP.go ?_)
        refine ⟨enc y, enc_at _ _ _ ey, ?_⟩
        repeat (first | refine Ops.go ?_ | refine And.intro rfl ?_ | refine And.intro (Nat.le_of_ble_eq_true rfl) ?_ | refine And.intro (Int.natCast_nonneg _) ?_ | refine fun (_ : Nat) => ?_ | refine Ord.go ?_ | refine Run.go rfl ?_ | refine Cont.go rfl ?_ | refine OrdP.go ?_)
        refine ⟨h, ?_⟩
        repeat (first | refine Ops.go ?_ | refine And.intro rfl ?_ | refine And.intro (Nat.le_of_ble_eq_true rfl) ?_ | refine And.intro (Int.natCast_nonneg _) ?_ | refine fun (_ : Nat) => ?_ | refine Ord.go ?_ | refine Run.go rfl ?_ | refine Cont.go rfl ?_ | refine OrdP.go ?_)
        refine ⟨enc x, enc_at _ _ _ ex, Nat.le_of_ble_eq_true rfl, rfl, ?_⟩
        repeat (first | refine Ops.go ?_ | refine And.intro rfl ?_ | refine And.intro (Nat.le_of_ble_eq_true rfl) ?_ | refine And.intro (Int.natCast_nonneg _) ?_ | refine fun (_ : Nat) => ?_ | refine Ord.go ?_ | refine Run.go rfl ?_ | refine Cont.go rfl ?_ | refine OrdP.go ?_)
        refine fun r hr => ?_
        obtain rfl : r = ((n - 1 : Nat) : Int) := by rw [hr, IntKind.wrap_i64]; omega
        repeat (first | refine Ops.go ?_ | refine And.intro rfl ?_ | refine And.intro (Nat.le_of_ble_eq_true rfl) ?_ | refine And.intro (Int.natCast_nonneg _) ?_ | refine fun (_ : Nat) => ?_ | refine Ord.go ?_ | refine Run.go rfl ?_ | refine Cont.go rfl ?_ | refine OrdP.go ?_)
        refine fun r hr => ?_
        obtain rfl : r = (m : Int) := by rw [hr, IntKind.wrap_i64]; omega
        repeat (first | refine Ops.go ?_ | refine And.intro rfl ?_ | refine And.intro (Nat.le_of_ble_eq_true rfl) ?_ | refine And.intro (Int.natCast_nonneg _) ?_ | refine fun (_ : Nat) => ?_ | refine Ord.go ?_ | refine Run.go rfl ?_ | refine Cont.go rfl ?_ | refine OrdP.go ?_)
        refine ⟨show (m : Int) < (n : Int) by omega, ?_⟩
        repeat (first | refine Ops.go ?_ | refine And.intro rfl ?_ | refine And.intro (Nat.le_of_ble_eq_true rfl) ?_ | refine And.intro (Int.natCast_nonneg _) ?_ | refine fun (_ : Nat) => ?_ | refine Ord.go ?_ | refine Run.go rfl ?_ | refine Cont.go rfl ?_ | refine OrdP.go ?_)
        refine ⟨enc y, ?_, Nat.le_of_ble_eq_true rfl, rfl, ?_⟩
        · show (List.set (List.map enc ws) i _)[m]? = some _
          rw [List.getElem?_set_ne (by omega)]
          exact enc_at _ _ _ ey
        repeat (first | refine Ops.go ?_ | refine And.intro rfl ?_ | refine And.intro (Nat.le_of_ble_eq_true rfl) ?_ | refine And.intro (Int.natCast_nonneg _) ?_ | refine fun (_ : Nat) => ?_ | refine Ord.go ?_ | refine Run.go rfl ?_ | refine Cont.go rfl ?_ | refine OrdP.go ?_)
        refine ⟨fun h => absurd hw h, fun _ => ?_⟩
        repeat (first | refine Ops.go ?_ | refine And.intro rfl ?_ | refine And.intro (Nat.le_of_ble_eq_true rfl) ?_ | refine And.intro (Int.natCast_nonneg _) ?_ | refine fun (_ : Nat) => ?_ | refine Ord.go ?_ | refine Run.go rfl ?_ | refine Cont.go rfl ?_ | refine OrdP.go ?_)
        refine fun r hr => ?_
        obtain rfl := add1 hr (by omega)
        repeat (first | refine Ops.go ?_ | refine And.intro rfl ?_ | refine And.intro (Nat.le_of_ble_eq_true rfl) ?_ | refine And.intro (Int.natCast_nonneg _) ?_ | refine fun (_ : Nat) => ?_ | refine Ord.go ?_ | refine Run.go rfl ?_ | refine Cont.go rfl ?_ | refine OrdP.go ?_)
        refine Cont.lp ?_
        refine ⟨n - (i + 1), [.junk, .int .i64 way, .ptr 1 g1 0, .junk, .ptr 2 g2 0, .int .i64 n, .int .i64 (i + 1 : Nat), .junk, .junk, .junk, .junk, .junk, .junk, .junk, .junk, .junk, .junk, .junk, .junk, .junk, .junk, .junk, .junk, .junk, .junk, .junk, .junk, .junk, .junk, .junk, .junk, .junk, .junk, .junk, .junk, .junk, .junk, .junk, .junk, .junk, .junk, .junk, .junk, .junk, .junk, .junk, .junk, .junk, .junk, .junk, .junk, .junk, .junk, .junk, .junk, .junk, .junk, .junk, .junk, .junk, .junk, .junk, .junk, .junk, .junk, .junk, .junk, .junk, .junk, .junk, .junk], 3, by omega, ?_, ⟨i + 1, (ws.set i y).set m x, rfl, by omega, by simp [hl], ?_, set_mem (set_mem hPw (hPw y (List.mem_of_getElem? ey))) (hPw x (List.mem_of_getElem? ex)), rfl, ?_⟩⟩
        · repeat (first | exact trivial | refine ⟨.inl rfl, ?_⟩ | refine ⟨.inr rfl, ?_⟩)
        · rw [List.drop_set_of_lt (by omega), List.drop_set_of_lt hin]; exact hd
        · refine congrArg (fun l => [(g, AObj.row 50 3 Cp l), _, _]) ?_
          show ((List.map enc ws).set i (enc y)).set m (enc x) = _
          rw [List.map_set, List.map_set]
      · repeat (first | refine Ops.go ?_ | refine And.intro rfl ?_ | refine And.intro (Nat.le_of_ble_eq_true rfl) ?_ | refine And.intro (Int.natCast_nonneg _) ?_ | refine fun (_ : Nat) => ?_ | refine Ord.go ?_ | refine Run.go rfl ?_ | refine Cont.go rfl ?_ | refine OrdP.go ?_)
        refine ⟨fun h => absurd hw h, fun _ => ?_⟩
        repeat (first | refine Ops.go ?_ | refine And.intro rfl ?_ | refine And.intro (Nat.le_of_ble_eq_true rfl) ?_ | refine And.intro (Int.natCast_nonneg _) ?_ | refine fun (_ : Nat) => ?_ | refine Ord.go ?_ | refine Run.go rfl ?_ | refine Cont.go rfl ?_ | refine OrdP.go ?_)
        refine fun r hr => ?_
        obtain rfl := add1 hr (by omega)
        repeat (first | refine Ops.go ?_ | refine And.intro rfl ?_ | refine And.intro (Nat.le_of_ble_eq_true rfl) ?_ | refine And.intro (Int.natCast_nonneg _) ?_ | refine fun (_ : Nat) => ?_ | refine Ord.go ?_ | refine Run.go rfl ?_ | refine Cont.go rfl ?_ | refine OrdP.go ?_)
        refine Cont.lp ?_
        refine ⟨n - (i + 1), [.junk, .int .i64 way, .ptr 1 g1 0, .junk, .ptr 2 g2 0, .int .i64 n, .int .i64 (i + 1 : Nat), .junk, .junk, .junk, .junk, .junk, .junk, .junk, .junk, .junk, .junk, .junk, .junk, .junk, .junk, .junk, .junk, .junk, .junk, .junk, .junk, .junk, .junk, .junk, .junk, .junk, .junk, .junk, .junk, .junk, .junk, .junk, .junk, .junk, .junk, .junk, .junk, .junk, .junk, .junk, .junk, .junk, .junk, .junk, .junk, .junk, .junk, .junk, .junk, .junk, .junk, .junk, .junk, .junk, .junk, .junk, .junk, .junk, .junk, .junk, .junk, .junk, .junk, .junk, .junk], 3, by omega, ?_, ⟨i + 1, ws, rfl, by omega, hl, hd, hPw, rfl, rfl⟩⟩
        · repeat (first | exact trivial | refine ⟨.inl rfl, ?_⟩ | refine ⟨.inr rfl, ?_⟩)
    · have hw : way ≠ 1 := hw
      repeat (first | refine Ops.go ?_ | refine And.intro rfl ?_ | refine And.intro (Nat.le_of_ble_eq_true rfl) ?_ | refine And.intro (Int.natCast_nonneg _) ?_ | refine fun (_ : Nat) => ?_ | refine Ord.go ?_ | refine Run.go rfl ?_ | refine Cont.go rfl ?_ | refine OrdP.go ?_)
      refine ⟨fun _ => ?_, fun h => absurd hw h⟩
      obtain ⟨x, ex⟩ : ∃ x, ws[i]? = some x := ⟨ws[i], List.getElem?_eq_getElem (by omega)⟩
      repeat (first | refine Ops.go ?_ | refine And.intro rfl ?_ | refine And.intro (Nat.le_of_ble_eq_true rfl) ?_ | refine And.intro (Int.natCast_nonneg _) ?_ | refine fun (_ : Nat) => ?_ | refine Ord.go ?_ | refine Run.go rfl ?_ | refine Cont.go rfl ?_ | refine OrdP.go ?_)
      refine ⟨h, ?_⟩
      repeat (first | refine Ops.go ?_ | refine And.intro rfl ?_ | refine And.intro (Nat.le_of_ble_eq_true rfl) ?_ | refine And.intro (Int.natCast_nonneg _) ?_ | refine fun (_ : Nat) => ?_ | refine Ord.go ?_ | refine Run.go rfl ?_ | refine Cont.go rfl ?_ | refine OrdP.go ?_)
      refine ⟨enc x, enc_at _ _ _ ex, Nat.le_of_ble_eq_true rfl, rfl, ?_⟩
      repeat (first | refine Ops.go ?_ | refine And.intro rfl ?_ | refine And.intro (Nat.le_of_ble_eq_true rfl) ?_ | refine And.intro (Int.natCast_nonneg _) ?_ | refine fun (_ : Nat) => ?_ | refine Ord.go ?_ | refine Run.go rfl ?_ | refine Cont.go rfl ?_ | refine OrdP.go ?_)
      refine ⟨h, ?_⟩
      repeat (first | refine Ops.go ?_ | refine And.intro rfl ?_ | refine And.intro (Nat.le_of_ble_eq_true rfl) ?_ | refine And.intro (Int.natCast_nonneg _) ?_ | refine fun (_ : Nat) => ?_ | refine Ord.go ?_ | refine Run.go rfl ?_ | refine Cont.go rfl ?_ | refine OrdP.go ?_)
      refine ⟨.agg [.str x.p, .str ⟨#[116, 117, 114, 110, 101, 100]⟩, .int .i64 x.v], ?_, Nat.le_of_ble_eq_true rfl, rfl, ?_⟩
      · show (List.set (List.map enc ws) i _)[i]? = some _
        rw [List.getElem?_set_self (by simp; omega)]
        rfl
      repeat (first | refine Ops.go ?_ | refine And.intro rfl ?_ | refine And.intro (Nat.le_of_ble_eq_true rfl) ?_ | refine And.intro (Int.natCast_nonneg _) ?_ | refine fun (_ : Nat) => ?_ | refine Ord.go ?_ | refine Run.go rfl ?_ | refine Cont.go rfl ?_ | refine OrdP.go ?_)
      refine fun r hr => ?_
      obtain rfl := add1 hr (by omega)
      repeat (first | refine Ops.go ?_ | refine And.intro rfl ?_ | refine And.intro (Nat.le_of_ble_eq_true rfl) ?_ | refine And.intro (Int.natCast_nonneg _) ?_ | refine fun (_ : Nat) => ?_ | refine Ord.go ?_ | refine Run.go rfl ?_ | refine Cont.go rfl ?_ | refine OrdP.go ?_)
      refine Cont.lp ?_
      refine ⟨n - (i + 1), [.junk, .int .i64 way, .ptr 1 g1 0, .junk, .ptr 2 g2 0, .int .i64 n, .int .i64 (i + 1 : Nat), .junk, .junk, .junk, .junk, .junk, .junk, .junk, .junk, .junk, .junk, .junk, .junk, .junk, .junk, .junk, .junk, .junk, .junk, .junk, .junk, .junk, .junk, .junk, .junk, .junk, .junk, .junk, .junk, .junk, .junk, .junk, .junk, .junk, .junk, .junk, .junk, .junk, .junk, .junk, .junk, .junk, .junk, .junk, .junk, .junk, .junk, .junk, .junk, .junk, .junk, .junk, .junk, .junk, .junk, .junk, .junk, .junk, .junk, .junk, .junk, .junk, .junk, .junk, .junk], 3, by omega, ?_, ⟨i + 1, ws.set i ⟨x.p, ⟨#[116, 117, 114, 110, 101, 100]⟩, 7⟩, rfl, by omega, by simp [hl], ?_, set_mem hPw (hPw x (List.mem_of_getElem? ex)), rfl, ?_⟩⟩
      · repeat (first | exact trivial | refine ⟨.inl rfl, ?_⟩ | refine ⟨.inr rfl, ?_⟩)
      · rw [List.drop_set_of_lt hin]; exact hd
      · refine congrArg (fun l => [(g, AObj.row 50 3 Cp l), _, _]) ?_
        show ((List.map enc ws).set i _).set i (enc ⟨x.p, _, 7⟩) = _
        rw [List.set_set, List.map_set]
      skip
  · have h : ¬ (i : Int) < (n : Int) := h
    have hin : i = n := by omega
    repeat (first | refine Ops.go ?_ | refine And.intro rfl ?_ | refine And.intro (Nat.le_of_ble_eq_true rfl) ?_ | refine And.intro (Int.natCast_nonneg _) ?_ | refine fun (_ : Nat) => ?_ | refine Ord.go ?_ | refine Run.go rfl ?_ | refine Cont.go rfl ?_ | refine OrdP.go ?_)
    refine ⟨show n ≤ (List.map enc ws).length by simp; omega, ?_⟩
    repeat (first | refine Ops.go ?_ | refine And.intro rfl ?_ | refine And.intro (Nat.le_of_ble_eq_true rfl) ?_ | refine And.intro (Int.natCast_nonneg _) ?_ | refine fun (_ : Nat) => ?_ | refine Ord.go ?_ | refine Run.go rfl ?_ | refine Cont.go rfl ?_ | refine OrdP.go ?_)
    refine ⟨?_, fun h => ?_, fun h => ?_⟩
    · simp; omega
    · have hn0 : n = 0 := by have := congrArg List.length h; rw [List.length_take, List.length_map, List.length_nil] at this; omega
      repeat (first | refine Ops.go ?_ | refine And.intro rfl ?_ | refine And.intro (Nat.le_of_ble_eq_true rfl) ?_ | refine And.intro (Int.natCast_nonneg _) ?_ | refine fun (_ : Nat) => ?_ | refine Ord.go ?_ | refine Run.go rfl ?_ | refine Cont.go rfl ?_ | refine OrdP.go ?_)
      exact ⟨_, _, FinOk.keep _ [0] (Sub.refl _) (by decide) rfl, ws, hl, hd, hPw, .inl ⟨hn0, rfl, rfl⟩⟩
    · have hn0 : 0 < n := by
        rcases Nat.eq_zero_or_pos n with e | e
        · subst e; exact absurd rfl h
        · exact e
      repeat (first | refine Ops.go ?_ | refine And.intro rfl ?_ | refine And.intro (Nat.le_of_ble_eq_true rfl) ?_ | refine And.intro (Int.natCast_nonneg _) ?_ | refine fun (_ : Nat) => ?_ | refine Ord.go ?_ | refine Run.go rfl ?_ | refine Cont.go rfl ?_ | refine OrdP.go ?_)
      refine ⟨shot st pl kd (.sl 1 _ _ n), _, FinOk.keep _ [0, 3] (Sub.aggs ⟨Sub.refl _, Sub.refl _, Sub.refl _, ?_, trivial⟩) (by decide) rfl, ws, hl, hd, hPw, .inr ⟨hn0, _, _, rfl, congrArg (fun l => [_, (_, AObj.row 50 3 _ l)]) (List.map_take ..).symm⟩⟩
      have e : (List.take n (List.map enc ws)).length = n := by simp; omega
      show Sub (.sl _ _ _ (List.take n (List.map enc ws)).length) _
      rw [e]
      exact Sub.sl _ _ _ _ _
end Go.Proofs.YtfohedaadncefaaDoor.HBT
/- The contract of the law's helper that checks one shot both ways, and of the law ShotChecks itself. -/
namespace Go.Proofs.YtfohedaadncefaaDoor.HBT
open Go Go.Proofs.YtfohedaadncefaaDoor.HB Go.RowKit
set_option maxRecDepth 8000

theorem refP_take (st : Int) (pl : ByteArray) (kd : Int) (xs ys : List Sn) (n : Nat) (h : xs.take n = ys.take n) : refP st pl kd xs n → refP st pl kd ys n := by
  have at_ : ∀ i, i < n → xs[i]? = ys[i]? := fun i hi => by
    have := congrArg (·[i]?) h
    simpa only [List.getElem?_take, hi, if_true] using this
  rintro ⟨h1, h2, h3, h4, h5, h6⟩
  refine ⟨h1, h2, h3, h4, h5, fun i x hi ex => ?_⟩
  obtain ⟨k1, k2, k3, k4, k5, k6⟩ := h6 i x hi (by rw [at_ i hi]; exact ex)
  refine ⟨k1, k2, k3, fun h0 => ?_, k5, fun hne => ?_⟩
  · obtain ⟨y, ey, hy⟩ := k4 h0
    exact ⟨y, by rw [← at_ _ (by omega)]; exact ey, hy⟩
  · obtain ⟨k, z, hk, ez, hz⟩ := k6 hne
    exact ⟨k, z, hk, by rw [← at_ _ hk]; exact ez, hz⟩

theorem checks_spec (st : Int) (pl : ByteArray) (kd : Int) (xs ys : List Sn) (n : Nat) (hx : n + 1 ≤ xs.length) (hy : n ≤ ys.length) (hn : n ≤ 70) (hm : xs[n]? = some mark) (h : xs.take n = ys.take n)
    (px : ∀ x ∈ xs, x.p.size ≤ 9223372036854775807) (py : ∀ x ∈ ys, x.p.size ≤ 9223372036854775807) :
    FnSpec C 10 [shot st pl kd (rdo xs n), shot st pl kd (rdo ys n)] [] (fun r L' => r = .bool true ∧ L' = []) := by
  have c1 := check_spec st pl kd xs n (by omega) px
  have c2 := refCheck_spec st pl kd ys n hy py
  have hE : checkE st pl kd xs n = (if refP st pl kd ys n then 0 else 51) := by
    unfold checkE
    by_cases hP : checkP st pl kd xs n
    · rw [if_pos hP, if_pos (refP_take _ _ _ _ _ _ h ((check_ref _ _ _ _ _ (by omega)).1 hP))]
    · rw [if_neg hP, if_neg (fun hr => hP ((check_ref _ _ _ _ _ (by omega)).2 (refP_take _ _ _ _ _ _ h.symm hr)))]
  have c3 := untouched_spec st st pl pl kd kd xs ys n n (by omega) hy (by omega) (by omega) (by omega)
  rw [decide_eq_true (show alikeP st pl kd (xs.take n) st pl kd (ys.take n) ∧ xs[n]? = some mark from ⟨⟨rfl, rfl, rfl, h⟩, hm⟩)] at c3
  refine FnSpec.start C_ok Tryd.func10 rfl rfl Tryd.ntmps10 ?_
  repeat (first | refine Ops.go ?_ | refine And.intro rfl ?_ | refine And.intro (Nat.le_of_ble_eq_true rfl) ?_ | refine And.intro (Int.natCast_nonneg _) ?_ | refine fun (_ : Nat) => ?_ | refine Ord.go ?_ | refine Run.go rfl ?_ | refine Cont.go rfl ?_ | refine OrdP.go ?_)
  refine ACall.ret c1 ?_
  repeat (first | refine Ops.go ?_ | refine And.intro rfl ?_ | refine And.intro (Nat.le_of_ble_eq_true rfl) ?_ | refine And.intro (Int.natCast_nonneg _) ?_ | refine fun (_ : Nat) => ?_ | refine Ord.go ?_ | refine Run.go rfl ?_ | refine Cont.go rfl ?_ | refine OrdP.go ?_)
  refine Run.drawn true [0, 2, 1, 3, 4, 5, 6, 7, 8, 9, 10] (by kernel_rfl) ?_
  repeat (first | refine Ops.go ?_ | refine And.intro rfl ?_ | refine And.intro (Nat.le_of_ble_eq_true rfl) ?_ | refine And.intro (Int.natCast_nonneg _) ?_ | refine fun (_ : Nat) => ?_ | refine Ord.go ?_ | refine Run.go rfl ?_ | refine Cont.go rfl ?_ | refine OrdP.go ?_)
  refine ACallQ.ret (num_spec _) ?_
  repeat (first | refine Ops.go ?_ | refine And.intro rfl ?_ | refine And.intro (Nat.le_of_ble_eq_true rfl) ?_ | refine And.intro (Int.natCast_nonneg _) ?_ | refine fun (_ : Nat) => ?_ | refine Ord.go ?_ | refine Run.go rfl ?_ | refine Cont.go rfl ?_ | refine OrdP.go ?_)
  refine ACallQ.ret c2 ?_
  repeat (first | refine Ops.go ?_ | refine And.intro rfl ?_ | refine And.intro (Nat.le_of_ble_eq_true rfl) ?_ | refine And.intro (Int.natCast_nonneg _) ?_ | refine fun (_ : Nat) => ?_ | refine Ord.go ?_ | refine Run.go rfl ?_ | refine Cont.go rfl ?_ | refine OrdP.go ?_)
  refine ⟨fun _ => ?_, fun h => absurd hE h⟩
  repeat (first | refine Ops.go ?_ | refine And.intro rfl ?_ | refine And.intro (Nat.le_of_ble_eq_true rfl) ?_ | refine And.intro (Int.natCast_nonneg _) ?_ | refine fun (_ : Nat) => ?_ | refine Ord.go ?_ | refine Run.go rfl ?_ | refine Cont.go rfl ?_ | refine OrdP.go ?_)
  refine ACallQ.ret c3 ?_
  repeat (first | refine Ops.go ?_ | refine And.intro rfl ?_ | refine And.intro (Nat.le_of_ble_eq_true rfl) ?_ | refine And.intro (Int.natCast_nonneg _) ?_ | refine fun (_ : Nat) => ?_ | refine Ord.go ?_ | refine Run.go rfl ?_ | refine Cont.go rfl ?_ | refine OrdP.go ?_)
  exact ⟨_, [], FinOk.drop _ _, rfl, rfl⟩

set_option maxHeartbeats 2000000 in
theorem lawChecks_spec (st : Int) (pl : ByteArray) (kd : Int) (xs : List Sn) (n : Nat) (hx : n ≤ xs.length) (px : ∀ x ∈ xs, x.p.size ≤ 9223372036854775807) :
    FnSpec C 3 [shot st pl kd (rdo xs n)] [] (fun r L' => r = .bool true ∧ L' = []) := by
  refine FnSpec.start C_ok Tryd.func3 rfl rfl Tryd.ntmps3 ?_
  repeat (first | refine Ops.go ?_ | refine And.intro rfl ?_ | refine And.intro (Nat.le_of_ble_eq_true rfl) ?_ | refine And.intro (Int.natCast_nonneg _) ?_ | refine fun (_ : Nat) => ?_ | refine Ord.go ?_ | refine Run.go rfl ?_ | refine Cont.go rfl ?_ | refine OrdP.go ?_)
  have s1 := small_spec st pl kd xs n
  by_cases hn : n ≤ 70
  case neg =>
    simp only [hn, decide_false] at s1
    refine ACall.ret s1 ?_
    repeat (first | refine Ops.go ?_ | refine And.intro rfl ?_ | refine And.intro (Nat.le_of_ble_eq_true rfl) ?_ | refine And.intro (Int.natCast_nonneg _) ?_ | refine fun (_ : Nat) => ?_ | refine Ord.go ?_ | refine Run.go rfl ?_ | refine Cont.go rfl ?_ | refine OrdP.go ?_)
    exact ⟨_, [], FinOk.drop _ _, rfl, rfl⟩
  simp only [hn, decide_true] at s1
  refine ACall.ret s1 ?_
  repeat (first | refine Ops.go ?_ | refine And.intro rfl ?_ | refine And.intro (Nat.le_of_ble_eq_true rfl) ?_ | refine And.intro (Int.natCast_nonneg _) ?_ | refine fun (_ : Nat) => ?_ | refine Ord.go ?_ | refine Run.go rfl ?_ | refine Cont.go rfl ?_ | refine OrdP.go ?_)
  refine ACall.pure _ (roomy_spec st pl kd xs n hn hx) ?_
  rintro r L' ⟨gc, Cc, rfl, rfl⟩
  refine ⟨shot st pl kd (.sl 1 gc Cc n), Sub.aggs ⟨Sub.refl _, Sub.refl _, Sub.refl _, Sub.sl _ _ _ _ _, trivial⟩, ?_⟩
  have hxl : (xs.take n).length = n := by simp; omega
  have tx : (xs.take n ++ [mark]).take n = xs.take n := by rw [List.take_append_of_le_length (by omega), List.take_take, Nat.min_self]
  have markAt : ∀ (l : List Sn) (n : Nat), l.length = n → (l ++ [mark])[n]? = some mark := fun l n h => by subst h; simp
  have cl : n + 1 ≤ (xs.take n ++ [mark]).length := by simp; omega
  have pc : ∀ x ∈ xs.take n ++ [mark], x.p.size ≤ 9223372036854775807 := fun x hx => by
    rcases List.mem_append.1 hx with hx | hx
    · exact px x (List.mem_of_mem_take hx)
    · obtain rfl : x = mark := by simpa using hx
      decide
  have c1 := checks_spec st pl kd (xs.take n ++ [mark]) xs n cl hx hn (markAt _ n hxl) tx pc px
  have lc : ∀ (ws : List Sn) (K : Nat) (L : AHeap), n + 1 ≤ ws.length → L[K]? = some (gc, .row 50 3 Cc (ws.map enc)) → Lend L (shot st pl kd (.sl K gc Cc n)) (shot st pl kd (rdo ws n)) := fun ws K L hw h =>
    Lend.aggs ⟨.same _, .same _, .same _, .row _ _ _ _ _ _ _ h (by simp; omega), trivial⟩
  have behind : ∀ (ws : List Sn), ws.length = (xs.take n ++ [mark]).length → ws.drop n = (xs.take n ++ [mark]).drop n → n + 1 ≤ ws.length ∧ ws[n]? = some mark := fun ws hl hd => by
    refine ⟨by rw [hl]; exact cl, ?_⟩
    have h1 : (ws.drop n)[0]? = ((xs.take n ++ [mark]).drop n)[0]? := by rw [hd]
    rw [List.getElem?_drop, List.getElem?_drop, Nat.add_zero, markAt _ n hxl] at h1
    exact h1
  have k1 := check_spec 0 ⟨#[47, 97]⟩ 1 [] 0 (Nat.le_refl _) (by simp)
  have k2 := check_spec 0 ⟨#[]⟩ 0 [] 0 (Nat.le_refl _) (by simp)
  rw [show checkE 0 ⟨#[47, 97]⟩ 1 [] 0 = 0 from if_pos ⟨by omega, by decide +kernel, .inl rfl, by omega, by decide, fun _ _ h => absurd h (Nat.not_lt_zero _)⟩] at k1
  rw [show checkE 0 ⟨#[]⟩ 0 [] 0 = 51 from if_neg (fun h => absurd h.2.1 (by decide))] at k2
  repeat (first | refine Ops.go ?_ | refine And.intro rfl ?_ | refine And.intro (Nat.le_of_ble_eq_true rfl) ?_ | refine And.intro (Int.natCast_nonneg _) ?_ | refine fun (_ : Nat) => ?_ | refine Ord.go ?_ | refine Run.go rfl ?_ | refine Cont.go rfl ?_ | refine OrdP.go ?_)
  refine Run.drawnP [0, 2] [0, 1, 2, 3, 4, 5, 6, 7, 8, 9, 10, 11, 12, 13, 14, 15, 16, 17, 18, 19, 20, 21, 22, 23, 24, 25] (by kernel_rfl) ?_
  repeat (first | refine Ops.go ?_ | refine And.intro rfl ?_ | refine And.intro (Nat.le_of_ble_eq_true rfl) ?_ | refine And.intro (Int.natCast_nonneg _) ?_ | refine fun (_ : Nat) => ?_ | refine Ord.go ?_ | refine Run.go rfl ?_ | refine Cont.go rfl ?_ | refine OrdP.go ?_)
  refine ACallP.ret_lend (.two (lc _ _ _ cl rfl) (.same _)) c1 rfl ?_
  repeat (first | refine Ops.go ?_ | refine And.intro rfl ?_ | refine And.intro (Nat.le_of_ble_eq_true rfl) ?_ | refine And.intro (Int.natCast_nonneg _) ?_ | refine fun (_ : Nat) => ?_ | refine Ord.go ?_ | refine Run.go rfl ?_ | refine Cont.go rfl ?_ | refine OrdP.go ?_)
  refine ACallP.sel [1] (by decide) rfl [shot st pl kd (.sl 0 gc Cc n), .int .i64 0] _ (.two (Sub.aggs (.four (.refl _) (.refl _) (.refl _) (.sl _ _ _ _ _))) (.refl _)) (turned_spec 0 (fun p => p.size ≤ 9223372036854775807) st pl kd gc Cc (xs.take n ++ [mark]) n (by omega) hn pc) ?_
  rintro r L' ⟨ws, hwl, hwd, pw, hcase⟩
  obtain ⟨b1, b2⟩ := behind ws hwl hwd
  have htl : (ws.take n).length = n := by simp; omega
  rcases hcase with ⟨hm0, rfl, rfl⟩ | ⟨hm0, gx, Cx, rfl, rfl⟩
  · refine ⟨_, .refl _, ?_⟩
    subst hm0
    have c2 := checks_spec st pl kd ws [] 0 b1 (Nat.le_refl _) (by omega) b2 rfl pw (by simp)
    have lx : ∀ L : AHeap, Lend L (shot st pl kd .nils) (shot st pl kd (rdo [] 0)) := fun L => Lend.aggs ⟨.same _, .same _, .same _, .nils 3, trivial⟩
    repeat (first | refine Ops.go ?_ | refine And.intro rfl ?_ | refine And.intro (Nat.le_of_ble_eq_true rfl) ?_ | refine And.intro (Int.natCast_nonneg _) ?_ | refine fun (_ : Nat) => ?_ | refine Ord.go ?_ | refine Run.go rfl ?_ | refine Cont.go rfl ?_ | refine OrdP.go ?_)
    refine ACallP.ret_lend (.two (lc _ _ _ b1 rfl) (lx _)) c2 rfl ?_
    repeat (first | refine Ops.go ?_ | refine And.intro rfl ?_ | refine And.intro (Nat.le_of_ble_eq_true rfl) ?_ | refine And.intro (Int.natCast_nonneg _) ?_ | refine fun (_ : Nat) => ?_ | refine Ord.go ?_ | refine Run.go rfl ?_ | refine Cont.go rfl ?_ | refine OrdP.go ?_)
    refine ACallP.sel [1] (by decide) rfl [shot st pl kd (.sl 0 gc Cc 0), .int .i64 1] _ (.two (Sub.aggs (.four (.refl _) (.refl _) (.refl _) (.sl _ _ _ _ _))) (.refl _)) (turned_spec 1 (fun p => p.size ≤ 9223372036854775807) st pl kd gc Cc ws 0 (by omega) hn pw) ?_
    rintro r L' ⟨ws2, hwl2, hwd2, pw2, hcase⟩
    obtain ⟨b3, b4⟩ := behind ws2 (hwl2.trans hwl) (hwd2.trans hwd)
    rcases hcase with ⟨_, rfl, rfl⟩ | ⟨hm0, _⟩
    case inr => exact absurd hm0 (by omega)
    refine ⟨_, .refl _, ?_⟩
    have c3 := checks_spec st pl kd ws2 [] 0 b3 (Nat.le_refl _) (by omega) b4 rfl pw2 (by simp)
    repeat (first | refine Ops.go ?_ | refine And.intro rfl ?_ | refine And.intro (Nat.le_of_ble_eq_true rfl) ?_ | refine And.intro (Int.natCast_nonneg _) ?_ | refine fun (_ : Nat) => ?_ | refine Ord.go ?_ | refine Run.go rfl ?_ | refine Cont.go rfl ?_ | refine OrdP.go ?_)
    refine ACallP.ret_lend (.two (lc _ _ _ b3 rfl) (lx _)) c3 rfl ?_
    repeat (first | refine Ops.go ?_ | refine And.intro rfl ?_ | refine And.intro (Nat.le_of_ble_eq_true rfl) ?_ | refine And.intro (Int.natCast_nonneg _) ?_ | refine fun (_ : Nat) => ?_ | refine Ord.go ?_ | refine Run.go rfl ?_ | refine Cont.go rfl ?_ | refine OrdP.go ?_)
    refine ACallP.ret_lend (args' := [shot 0 ⟨#[47, 97]⟩ 1 (rdo [] 0)]) (.one (Lend.aggs ⟨.same _, .same _, .same _, .nils 3, trivial⟩)) k1 rfl ?_
    repeat (first | refine Ops.go ?_ | refine And.intro rfl ?_ | refine And.intro (Nat.le_of_ble_eq_true rfl) ?_ | refine And.intro (Int.natCast_nonneg _) ?_ | refine fun (_ : Nat) => ?_ | refine Ord.go ?_ | refine Run.go rfl ?_ | refine Cont.go rfl ?_ | refine OrdP.go ?_)
    refine ⟨fun _ => ?_, fun h => absurd rfl h⟩
    repeat (first | refine Ops.go ?_ | refine And.intro rfl ?_ | refine And.intro (Nat.le_of_ble_eq_true rfl) ?_ | refine And.intro (Int.natCast_nonneg _) ?_ | refine fun (_ : Nat) => ?_ | refine Ord.go ?_ | refine Run.go rfl ?_ | refine Cont.go rfl ?_ | refine OrdP.go ?_)
    refine ACallP.ret_lend (args' := [shot 0 ⟨#[]⟩ 0 (rdo [] 0)]) (.one (Lend.aggs ⟨.same _, .same _, .same _, .nils 3, trivial⟩)) k2 rfl ?_
    repeat (first | refine Ops.go ?_ | refine And.intro rfl ?_ | refine And.intro (Nat.le_of_ble_eq_true rfl) ?_ | refine And.intro (Int.natCast_nonneg _) ?_ | refine fun (_ : Nat) => ?_ | refine Ord.go ?_ | refine Run.go rfl ?_ | refine Cont.go rfl ?_ | refine OrdP.go ?_)
    refine ⟨fun _ => ?_, fun h => absurd rfl h⟩
    repeat (first | refine Ops.go ?_ | refine And.intro rfl ?_ | refine And.intro (Nat.le_of_ble_eq_true rfl) ?_ | refine And.intro (Int.natCast_nonneg _) ?_ | refine fun (_ : Nat) => ?_ | refine Ord.go ?_ | refine Run.go rfl ?_ | refine Cont.go rfl ?_ | refine OrdP.go ?_)
    exact ⟨_, [], FinOk.drop _ _, rfl, rfl⟩
  · refine ⟨shot st pl kd (.sl 3 gx Cx n), Sub.aggs (.four (.refl _) (.refl _) (.refl _) (.sl _ _ _ _ _)), ?_⟩
    have c2 := checks_spec st pl kd ws (ws.take n) n b1 (by omega) hn b2 (by rw [List.take_take, Nat.min_self]) pw (fun x hx => pw x (List.mem_of_mem_take hx))
    have lx : ∀ (ws : List Sn) (K gx Cx : Nat) (L : AHeap), n ≤ ws.length → L[K]? = some (gx, .row 50 3 Cx ((ws.take n).map enc)) → Lend L (shot st pl kd (.sl K gx Cx n)) (shot st pl kd (rdo (ws.take n) n)) := fun ws K gx Cx L hw h =>
      Lend.aggs ⟨.same _, .same _, .same _, .row _ _ _ _ _ _ _ h (by simp; omega), trivial⟩
    repeat (first | refine Ops.go ?_ | refine And.intro rfl ?_ | refine And.intro (Nat.le_of_ble_eq_true rfl) ?_ | refine And.intro (Int.natCast_nonneg _) ?_ | refine fun (_ : Nat) => ?_ | refine Ord.go ?_ | refine Run.go rfl ?_ | refine Cont.go rfl ?_ | refine OrdP.go ?_)
    refine ACallP.ret_lend (.two (lc _ _ _ b1 rfl) (lx ws _ _ _ _ (by omega) rfl)) c2 rfl ?_
    repeat (first | refine Ops.go ?_ | refine And.intro rfl ?_ | refine And.intro (Nat.le_of_ble_eq_true rfl) ?_ | refine And.intro (Int.natCast_nonneg _) ?_ | refine fun (_ : Nat) => ?_ | refine Ord.go ?_ | refine Run.go rfl ?_ | refine Cont.go rfl ?_ | refine OrdP.go ?_)
    refine ACallP.sel [1] (by decide) rfl [shot st pl kd (.sl 0 gc Cc n), .int .i64 1] _ (.two (Sub.aggs (.four (.refl _) (.refl _) (.refl _) (.sl _ _ _ _ _))) (.refl _)) (turned_spec 1 (fun p => p.size ≤ 9223372036854775807) st pl kd gc Cc ws n (by omega) hn pw) ?_
    rintro r L' ⟨ws2, hwl2, hwd2, pw2, hcase⟩
    obtain ⟨b3, b4⟩ := behind ws2 (hwl2.trans hwl) (hwd2.trans hwd)
    rcases hcase with ⟨hm0', _⟩ | ⟨_, gy, Cy, rfl, rfl⟩
    · exact absurd hm0' (by omega)
    have htl2 : (ws2.take n).length = n := by simp; omega
    refine ⟨shot st pl kd (.sl 4 gy Cy n), Sub.aggs (.four (.refl _) (.refl _) (.refl _) (.sl _ _ _ _ _)), ?_⟩
    have c3 := checks_spec st pl kd ws2 (ws2.take n) n b3 (by omega) hn b4 (by rw [List.take_take, Nat.min_self]) pw2 (fun x hx => pw2 x (List.mem_of_mem_take hx))
    repeat (first | refine Ops.go ?_ | refine And.intro rfl ?_ | refine And.intro (Nat.le_of_ble_eq_true rfl) ?_ | refine And.intro (Int.natCast_nonneg _) ?_ | refine fun (_ : Nat) => ?_ | refine Ord.go ?_ | refine Run.go rfl ?_ | refine Cont.go rfl ?_ | refine OrdP.go ?_)
    refine ACallP.ret_lend (.two (lc _ _ _ b3 rfl) (lx ws2 _ _ _ _ (by omega) rfl)) c3 rfl ?_
    repeat (first | refine Ops.go ?_ | refine And.intro rfl ?_ | refine And.intro (Nat.le_of_ble_eq_true rfl) ?_ | refine And.intro (Int.natCast_nonneg _) ?_ | refine fun (_ : Nat) => ?_ | refine Ord.go ?_ | refine Run.go rfl ?_ | refine Cont.go rfl ?_ | refine OrdP.go ?_)
    refine ACallP.ret_lend (args' := [shot 0 ⟨#[47, 97]⟩ 1 (rdo [] 0)]) (.one (Lend.aggs ⟨.same _, .same _, .same _, .nils 3, trivial⟩)) k1 rfl ?_
    repeat (first | refine Ops.go ?_ | refine And.intro rfl ?_ | refine And.intro (Nat.le_of_ble_eq_true rfl) ?_ | refine And.intro (Int.natCast_nonneg _) ?_ | refine fun (_ : Nat) => ?_ | refine Ord.go ?_ | refine Run.go rfl ?_ | refine Cont.go rfl ?_ | refine OrdP.go ?_)
    refine ⟨fun _ => ?_, fun h => absurd rfl h⟩
    repeat (first | refine Ops.go ?_ | refine And.intro rfl ?_ | refine And.intro (Nat.le_of_ble_eq_true rfl) ?_ | refine And.intro (Int.natCast_nonneg _) ?_ | refine fun (_ : Nat) => ?_ | refine Ord.go ?_ | refine Run.go rfl ?_ | refine Cont.go rfl ?_ | refine OrdP.go ?_)
    refine ACallP.ret_lend (args' := [shot 0 ⟨#[]⟩ 0 (rdo [] 0)]) (.one (Lend.aggs ⟨.same _, .same _, .same _, .nils 3, trivial⟩)) k2 rfl ?_
    repeat (first | refine Ops.go ?_ | refine And.intro rfl ?_ | refine And.intro (Nat.le_of_ble_eq_true rfl) ?_ | refine And.intro (Int.natCast_nonneg _) ?_ | refine fun (_ : Nat) => ?_ | refine Ord.go ?_ | refine Run.go rfl ?_ | refine Cont.go rfl ?_ | refine OrdP.go ?_)
    refine ⟨fun _ => ?_, fun h => absurd rfl h⟩
    repeat (first | refine Ops.go ?_ | refine And.intro rfl ?_ | refine And.intro (Nat.le_of_ble_eq_true rfl) ?_ | refine And.intro (Int.natCast_nonneg _) ?_ | refine fun (_ : Nat) => ?_ | refine Ord.go ?_ | refine Run.go rfl ?_ | refine Cont.go rfl ?_ | refine OrdP.go ?_)
    exact ⟨_, [], FinOk.drop _ _, rfl, rfl⟩
end Go.Proofs.YtfohedaadncefaaDoor.HBT
/- The contracts of the law's helpers on bytes, and of the law ShotEncodes itself. -/
namespace Go.Proofs.YtfohedaadncefaaDoor.HBT
open Go Go.Proofs.YtfohedaadncefaaDoor.HB Go.RowKit
set_option maxRecDepth 8000

abbrev rdb (xs : List Int) (n : Nat) : AV := .ro 1 (u8s xs) n
theorem u8s_at (xs : List Int) (i : Nat) (x : Int) (h : xs[i]? = some x) : (u8s xs)[i]? = some (.int .u8 x) := by rw [List.getElem?_map, h]; rfl
theorem scal_u8s (g Cp : Nat) (l : List Int) : scalL [(g, .row 5 1 Cp (u8s l))] = true := by
  have : (flats (u8s l)).all scal = true := by
    induction l with
    | nil => rfl
    | cons x l ih => simp [flats, flat, scal]
  simp [scalL, scalO, this]
theorem take_eq_of {α : Type} {xs ys : List α} {n : Nat} (h : ∀ j < n, xs[j]? = ys[j]?) : xs.take n = ys.take n := by
  apply List.ext_getElem?
  intro j
  rw [List.getElem?_take, List.getElem?_take]
  split
  · exact h j (by assumption)
  · rfl

theorem sameBytes_spec (xs ys : List Int) (n m : Nat) (hx : n ≤ xs.length) (hy : m ≤ ys.length) (hn : n ≤ 1000000) : FnSpec C 21 [rdb xs n, rdb ys m] [] (fun r L' => r = .bool (decide (xs.take n = ys.take m)) ∧ L' = []) := by
  refine FnSpec.start C_ok Tryd.func21 rfl rfl Tryd.ntmps21 ?_
  have no : ¬ xs.take n = ys.take m → false = decide (xs.take n = ys.take m) := fun h => (decide_eq_false h).symm
  repeat (first | refine Ops.go ?_ | refine And.intro rfl ?_ | refine And.intro (Nat.le_of_ble_eq_true rfl) ?_ | refine And.intro (Int.natCast_nonneg _) ?_ | refine fun (_ : Nat) => ?_ | refine Ord.go ?_ | refine Run.go rfl ?_ | refine Cont.go rfl ?_ | refine OrdP.go ?_)
  refine ⟨fun h => ?_, fun h => ?_⟩
  · have h : (n : Int) ≠ (m : Int) := h
    repeat (first | refine Ops.go ?_ | refine And.intro rfl ?_ | refine And.intro (Nat.le_of_ble_eq_true rfl) ?_ | refine And.intro (Int.natCast_nonneg _) ?_ | refine fun (_ : Nat) => ?_ | refine Ord.go ?_ | refine Run.go rfl ?_ | refine Cont.go rfl ?_ | refine OrdP.go ?_)
    exact ⟨_, [], FinOk.drop _ _, congrArg AV.bool (no (fun e => by
      have := congrArg List.length e
      rw [List.length_take, List.length_take] at this
      omega)), rfl⟩
  have h : ¬ (n : Int) ≠ (m : Int) := h
  have h : n = m := by omega
  subst h
  repeat (first | refine Ops.go ?_ | refine And.intro rfl ?_ | refine And.intro (Nat.le_of_ble_eq_true rfl) ?_ | refine And.intro (Int.natCast_nonneg _) ?_ | refine fun (_ : Nat) => ?_ | refine Ord.go ?_ | refine Run.go rfl ?_ | refine Cont.go rfl ?_ | refine OrdP.go ?_)
  refine Run.loop (fun k env L => ∃ i : Nat, k = n - i ∧ i ≤ n ∧ (∀ j < i, xs[j]? = ys[j]?) ∧ env = [rdb xs n, rdb ys n, .junk, .junk, .junk, .int .i64 i, .junk, .junk, .junk, .junk, .junk, .junk, .junk, .junk, .junk, .junk, .junk, .junk, .junk, .junk, .junk, .junk, .junk, .junk, .junk, .junk] ∧ L = []) n
    [rdb xs n, rdb ys n, .junk, .junk, .junk, .int .i64 (0 : Nat), .junk, .junk, .junk, .junk, .junk, .junk, .junk, .junk, .junk, .junk, .junk, .junk, .junk, .junk, .junk, .junk, .junk, .junk, .junk, .junk] ?_ ⟨0, by omega, by omega, (fun j hj => absurd hj (Nat.not_lt_zero j)), rfl, rfl⟩ ?_
  · repeat (first | exact trivial | refine ⟨.inl rfl, ?_⟩ | refine ⟨.inr rfl, ?_⟩)
  rintro k env L ⟨i, rfl, hi, hP, rfl, rfl⟩
  repeat (first | refine Ops.go ?_ | refine And.intro rfl ?_ | refine And.intro (Nat.le_of_ble_eq_true rfl) ?_ | refine And.intro (Int.natCast_nonneg _) ?_ | refine fun (_ : Nat) => ?_ | refine Ord.go ?_ | refine Run.go rfl ?_ | refine Cont.go rfl ?_ | refine OrdP.go ?_)
  refine ⟨fun h => ?_, fun h => ?_⟩
  · have h : (i : Int) < (n : Int) := h
    have hin : i < n := by omega
    obtain ⟨x, ex⟩ : ∃ x, xs[i]? = some x := ⟨xs[i], List.getElem?_eq_getElem (by omega)⟩
    obtain ⟨y, ey⟩ : ∃ y, ys[i]? = some y := ⟨ys[i], List.getElem?_eq_getElem (by omega)⟩
    repeat (first | refine Ops.go ?_ | refine And.intro rfl ?_ | refine And.intro (Nat.le_of_ble_eq_true rfl) ?_ | refine And.intro (Int.natCast_nonneg _) ?_ | refine fun (_ : Nat) => ?_ | refine Ord.go ?_ | refine Run.go rfl ?_ | refine Cont.go rfl ?_ | refine OrdP.go ?_)
    refine Run.drawn true [0, 1, 2, 3, 4, 5, 6, 7, 8] (by kernel_rfl) ?_
    repeat (first | refine Ops.go ?_ | refine And.intro rfl ?_ | refine And.intro (Nat.le_of_ble_eq_true rfl) ?_ | refine And.intro (Int.natCast_nonneg _) ?_ | refine fun (_ : Nat) => ?_ | refine Ord.go ?_ | refine Run.go rfl ?_ | refine Cont.go rfl ?_ | refine OrdP.go ?_)
    refine ⟨h, .int .u8 x, u8s_at _ _ _ ex, ?_⟩
    repeat (first | refine Ops.go ?_ | refine And.intro rfl ?_ | refine And.intro (Nat.le_of_ble_eq_true rfl) ?_ | refine And.intro (Int.natCast_nonneg _) ?_ | refine fun (_ : Nat) => ?_ | refine Ord.go ?_ | refine Run.go rfl ?_ | refine Cont.go rfl ?_ | refine OrdP.go ?_)
    refine ⟨h, .int .u8 y, u8s_at _ _ _ ey, ?_⟩
    repeat (first | refine Ops.go ?_ | refine And.intro rfl ?_ | refine And.intro (Nat.le_of_ble_eq_true rfl) ?_ | refine And.intro (Int.natCast_nonneg _) ?_ | refine fun (_ : Nat) => ?_ | refine Ord.go ?_ | refine Run.go rfl ?_ | refine Cont.go rfl ?_ | refine OrdP.go ?_)
    refine ⟨fun hne => ?_, fun heq => ?_⟩
    · have hne : x ≠ y := hne
      repeat (first | refine Ops.go ?_ | refine And.intro rfl ?_ | refine And.intro (Nat.le_of_ble_eq_true rfl) ?_ | refine And.intro (Int.natCast_nonneg _) ?_ | refine fun (_ : Nat) => ?_ | refine Ord.go ?_ | refine Run.go rfl ?_ | refine Cont.go rfl ?_ | refine OrdP.go ?_)
      exact ⟨_, [], FinOk.drop _ _, congrArg AV.bool (no (fun e => by
        have := congrArg (·[i]?) e
        simp only [List.getElem?_take, hin, if_true, ex, ey, Option.some.injEq] at this
        exact hne this)), rfl⟩
    · have heq : x = y := Classical.not_not.1 heq
      repeat (first | refine Ops.go ?_ | refine And.intro rfl ?_ | refine And.intro (Nat.le_of_ble_eq_true rfl) ?_ | refine And.intro (Int.natCast_nonneg _) ?_ | refine fun (_ : Nat) => ?_ | refine Ord.go ?_ | refine Run.go rfl ?_ | refine Cont.go rfl ?_ | refine OrdP.go ?_)
      refine fun r hr => ?_
      obtain rfl := add1 hr (by omega)
      repeat (first | refine Ops.go ?_ | refine And.intro rfl ?_ | refine And.intro (Nat.le_of_ble_eq_true rfl) ?_ | refine And.intro (Int.natCast_nonneg _) ?_ | refine fun (_ : Nat) => ?_ | refine Ord.go ?_ | refine Run.go rfl ?_ | refine Cont.go rfl ?_ | refine OrdP.go ?_)
      refine Cont.lp ?_
      refine ⟨n - (i + 1), _, 99, by omega, ?_, ⟨i + 1, rfl, by omega, ?_, rfl, rfl⟩⟩
      · repeat (first | exact trivial | refine ⟨.inl rfl, ?_⟩ | refine ⟨.inr rfl, ?_⟩)
      · intro j hj
        by_cases e : j = i
        · subst e; rw [ex, ey, heq]
        · exact hP j (by omega)
  · have h : ¬ (i : Int) < (n : Int) := h
    repeat (first | refine Ops.go ?_ | refine And.intro rfl ?_ | refine And.intro (Nat.le_of_ble_eq_true rfl) ?_ | refine And.intro (Int.natCast_nonneg _) ?_ | refine fun (_ : Nat) => ?_ | refine Ord.go ?_ | refine Run.go rfl ?_ | refine Cont.go rfl ?_ | refine OrdP.go ?_)
    exact ⟨_, [], FinOk.drop _ _, congrArg AV.bool (show true = _ from (decide_eq_true (take_eq_of (fun j hj => hP j (by omega)))).symm), rfl⟩

theorem encI_take (st : Int) (pl : ByteArray) (kd : Int) (xs ys : List Sn) (n : Nat) (h : xs.take n = ys.take n) : encI st pl kd xs n = encI st pl kd ys n := by unfold encI; rw [h]

theorem encodes_spec (st : Int) (pl : ByteArray) (kd : Int) (xs ys : List Sn) (n : Nat) (hx : n + 1 ≤ xs.length) (hy : n ≤ ys.length) (hn : n ≤ 70) (hm : xs[n]? = some mark) (h : xs.take n = ys.take n)
    (px : ∀ x ∈ xs, x.p.size ≤ 9223372036854775807) (py : ∀ x ∈ ys, x.p.size ≤ 9223372036854775807) :
    FnSpec C 13 [shot st pl kd (rdo xs n), shot st pl kd (rdo ys n)] [] (fun r L' => r = .bool true ∧ L' = []) := by
  have c1 := encode_spec st pl kd xs n (by omega) px
  have c2 := refEncode_spec st pl kd ys n hy py
  have hE : checkP st pl kd xs n ↔ refP st pl kd ys n := by
    rw [check_ref _ _ _ _ _ (by omega)]
    exact ⟨refP_take _ _ _ _ _ _ h, refP_take _ _ _ _ _ _ h.symm⟩
  have c3 := untouched_spec st st pl pl kd kd xs ys n n (by omega) hy (by omega) (by omega) (by omega)
  rw [decide_eq_true (show alikeP st pl kd (xs.take n) st pl kd (ys.take n) ∧ xs[n]? = some mark from ⟨⟨rfl, rfl, rfl, h⟩, hm⟩)] at c3
  refine FnSpec.start C_ok Tryd.func13 rfl rfl Tryd.ntmps13 ?_
  repeat (first | refine Ops.go ?_ | refine And.intro rfl ?_ | refine And.intro (Nat.le_of_ble_eq_true rfl) ?_ | refine And.intro (Int.natCast_nonneg _) ?_ | refine fun (_ : Nat) => ?_ | refine Ord.go ?_ | refine Run.go rfl ?_ | refine Cont.go rfl ?_ | refine OrdP.go ?_)
  refine ACall.pure _ c1 ?_
  rintro r L' (⟨hP, rfl, rfl⟩ | ⟨hP, g1, C1, rfl, rfl⟩)
  · refine ⟨_, Sub.refl _, ?_⟩
    repeat (first | refine Ops.go ?_ | refine And.intro rfl ?_ | refine And.intro (Nat.le_of_ble_eq_true rfl) ?_ | refine And.intro (Int.natCast_nonneg _) ?_ | refine fun (_ : Nat) => ?_ | refine Ord.go ?_ | refine Run.go rfl ?_ | refine Cont.go rfl ?_ | refine OrdP.go ?_)
    refine ACall.pure _ c2 ?_
    rintro r L' (⟨hR, rfl, rfl⟩ | ⟨hR, _⟩)
    case inr => exact absurd (hE.2 hR) hP
    refine ⟨_, Sub.refl _, ?_⟩
    have c4 := sameBytes_spec [] [] 0 0 (Nat.le_refl _) (Nat.le_refl _) (by omega)
    rw [decide_eq_true rfl] at c4
    repeat (first | refine Ops.go ?_ | refine And.intro rfl ?_ | refine And.intro (Nat.le_of_ble_eq_true rfl) ?_ | refine And.intro (Int.natCast_nonneg _) ?_ | refine fun (_ : Nat) => ?_ | refine Ord.go ?_ | refine Run.go rfl ?_ | refine Cont.go rfl ?_ | refine OrdP.go ?_)
    refine ACall.ret (num_spec _) ?_
    repeat (first | refine Ops.go ?_ | refine And.intro rfl ?_ | refine And.intro (Nat.le_of_ble_eq_true rfl) ?_ | refine And.intro (Int.natCast_nonneg _) ?_ | refine fun (_ : Nat) => ?_ | refine Ord.go ?_ | refine Run.go rfl ?_ | refine Cont.go rfl ?_ | refine OrdP.go ?_)
    refine ⟨fun _ => ?_, fun h => absurd rfl h⟩
    repeat (first | refine Ops.go ?_ | refine And.intro rfl ?_ | refine And.intro (Nat.le_of_ble_eq_true rfl) ?_ | refine And.intro (Int.natCast_nonneg _) ?_ | refine fun (_ : Nat) => ?_ | refine Ord.go ?_ | refine Run.go rfl ?_ | refine Cont.go rfl ?_ | refine OrdP.go ?_)
    refine ACall.ret_lend (args' := [rdb [] 0, rdb [] 0]) (.two (.nils 1) (.nils 1)) c4 rfl ?_
    repeat (first | refine Ops.go ?_ | refine And.intro rfl ?_ | refine And.intro (Nat.le_of_ble_eq_true rfl) ?_ | refine And.intro (Int.natCast_nonneg _) ?_ | refine fun (_ : Nat) => ?_ | refine Ord.go ?_ | refine Run.go rfl ?_ | refine Cont.go rfl ?_ | refine OrdP.go ?_)
    refine ACall.ret c3 ?_
    repeat (first | refine Ops.go ?_ | refine And.intro rfl ?_ | refine And.intro (Nat.le_of_ble_eq_true rfl) ?_ | refine And.intro (Int.natCast_nonneg _) ?_ | refine fun (_ : Nat) => ?_ | refine Ord.go ?_ | refine Run.go rfl ?_ | refine Cont.go rfl ?_ | refine OrdP.go ?_)
    exact ⟨_, [], FinOk.drop _ _, rfl, rfl⟩
  · refine ⟨.tuple [.sl 2 g1 C1 (encI st pl kd xs n).length, .int .i64 0], Sub.tuples ⟨Sub.sl _ _ _ _ _, Sub.refl _, trivial⟩, ?_⟩
    repeat (first | refine Ops.go ?_ | refine And.intro rfl ?_ | refine And.intro (Nat.le_of_ble_eq_true rfl) ?_ | refine And.intro (Int.natCast_nonneg _) ?_ | refine fun (_ : Nat) => ?_ | refine Ord.go ?_ | refine Run.go rfl ?_ | refine Cont.go rfl ?_ | refine OrdP.go ?_)
    refine ACall.pure _ c2 ?_
    rintro r L' (⟨hR, _⟩ | ⟨hR, g2, C2, rfl, rfl⟩)
    · exact absurd (hE.1 hP) hR
    refine ⟨.tuple [.sl 3 g2 C2 (encI st pl kd ys n).length, .int .i64 0], Sub.tuples ⟨Sub.sl _ _ _ _ _, Sub.refl _, trivial⟩, ?_⟩
    have hlen : (encI st pl kd xs n).length ≤ 1000000 := by
      obtain ⟨_, hpl, _, h64, _, hnodes⟩ := hP
      have h1 := headI_len (st := st) (kd := kd) (n := n) hpl
      have h2 := nodesI_len (xs := xs) (n := n) (by omega) (fun i x hi ex => ⟨(hnodes i x hi ex).1, (hnodes i x hi ex).2.1.1⟩) n (Nat.le_refl _)
      unfold encI
      rw [List.length_append]
      omega
    have e1 := encI_take st pl kd xs ys n h
    have c4 := sameBytes_spec (encI st pl kd xs n) (encI st pl kd ys n) (encI st pl kd xs n).length (encI st pl kd ys n).length (Nat.le_refl _) (Nat.le_refl _) hlen
    rw [decide_eq_true (show (encI st pl kd xs n).take (encI st pl kd xs n).length = (encI st pl kd ys n).take (encI st pl kd ys n).length by rw [e1])] at c4
    repeat (first | refine Ops.go ?_ | refine And.intro rfl ?_ | refine And.intro (Nat.le_of_ble_eq_true rfl) ?_ | refine And.intro (Int.natCast_nonneg _) ?_ | refine fun (_ : Nat) => ?_ | refine Ord.go ?_ | refine Run.go rfl ?_ | refine Cont.go rfl ?_ | refine OrdP.go ?_)
    refine ACall.ret (num_spec _) ?_
    repeat (first | refine Ops.go ?_ | refine And.intro rfl ?_ | refine And.intro (Nat.le_of_ble_eq_true rfl) ?_ | refine And.intro (Int.natCast_nonneg _) ?_ | refine fun (_ : Nat) => ?_ | refine Ord.go ?_ | refine Run.go rfl ?_ | refine Cont.go rfl ?_ | refine OrdP.go ?_)
    refine ⟨fun _ => ?_, fun h => absurd rfl h⟩
    repeat (first | refine Ops.go ?_ | refine And.intro rfl ?_ | refine And.intro (Nat.le_of_ble_eq_true rfl) ?_ | refine And.intro (Int.natCast_nonneg _) ?_ | refine fun (_ : Nat) => ?_ | refine Ord.go ?_ | refine Run.go rfl ?_ | refine Cont.go rfl ?_ | refine OrdP.go ?_)
    refine ACall.ret_lend (.two (.row _ _ _ _ _ _ _ rfl (Nat.le_of_eq (u8s_len _).symm)) (.row _ _ _ _ _ _ _ rfl (Nat.le_of_eq (u8s_len _).symm))) c4 rfl ?_
    repeat (first | refine Ops.go ?_ | refine And.intro rfl ?_ | refine And.intro (Nat.le_of_ble_eq_true rfl) ?_ | refine And.intro (Int.natCast_nonneg _) ?_ | refine fun (_ : Nat) => ?_ | refine Ord.go ?_ | refine Run.go rfl ?_ | refine Cont.go rfl ?_ | refine OrdP.go ?_)
    refine ACall.ret c3 ?_
    repeat (first | refine Ops.go ?_ | refine And.intro rfl ?_ | refine And.intro (Nat.le_of_ble_eq_true rfl) ?_ | refine And.intro (Int.natCast_nonneg _) ?_ | refine fun (_ : Nat) => ?_ | refine Ord.go ?_ | refine Run.go rfl ?_ | refine Cont.go rfl ?_ | refine OrdP.go ?_)
    exact ⟨_, [], FinOk.drop _ _, rfl, rfl⟩

set_option maxHeartbeats 2000000 in
theorem lawEncodes_spec (st : Int) (pl : ByteArray) (kd : Int) (xs : List Sn) (n : Nat) (hx : n ≤ xs.length) (px : ∀ x ∈ xs, x.p.size ≤ 9223372036854775807) :
    FnSpec C 4 [shot st pl kd (rdo xs n)] [] (fun r L' => r = .bool true ∧ L' = []) := by
  refine FnSpec.start C_ok Tryd.func4 rfl rfl Tryd.ntmps4 ?_
  repeat (first | refine Ops.go ?_ | refine And.intro rfl ?_ | refine And.intro (Nat.le_of_ble_eq_true rfl) ?_ | refine And.intro (Int.natCast_nonneg _) ?_ | refine fun (_ : Nat) => ?_ | refine Ord.go ?_ | refine Run.go rfl ?_ | refine Cont.go rfl ?_ | refine OrdP.go ?_)
  have s1 := small_spec st pl kd xs n
  by_cases hn : n ≤ 70
  case neg =>
    simp only [hn, decide_false] at s1
    refine ACall.ret s1 ?_
    repeat (first | refine Ops.go ?_ | refine And.intro rfl ?_ | refine And.intro (Nat.le_of_ble_eq_true rfl) ?_ | refine And.intro (Int.natCast_nonneg _) ?_ | refine fun (_ : Nat) => ?_ | refine Ord.go ?_ | refine Run.go rfl ?_ | refine Cont.go rfl ?_ | refine OrdP.go ?_)
    exact ⟨_, [], FinOk.drop _ _, rfl, rfl⟩
  simp only [hn, decide_true] at s1
  refine ACall.ret s1 ?_
  repeat (first | refine Ops.go ?_ | refine And.intro rfl ?_ | refine And.intro (Nat.le_of_ble_eq_true rfl) ?_ | refine And.intro (Int.natCast_nonneg _) ?_ | refine fun (_ : Nat) => ?_ | refine Ord.go ?_ | refine Run.go rfl ?_ | refine Cont.go rfl ?_ | refine OrdP.go ?_)
  refine ACall.pure _ (roomy_spec st pl kd xs n hn hx) ?_
  rintro r L' ⟨gc, Cc, rfl, rfl⟩
  refine ⟨shot st pl kd (.sl 1 gc Cc n), Sub.aggs ⟨Sub.refl _, Sub.refl _, Sub.refl _, Sub.sl _ _ _ _ _, trivial⟩, ?_⟩
  have hxl : (xs.take n).length = n := by simp; omega
  have tx : (xs.take n ++ [mark]).take n = xs.take n := by rw [List.take_append_of_le_length (by omega), List.take_take, Nat.min_self]
  have markAt : ∀ (l : List Sn) (n : Nat), l.length = n → (l ++ [mark])[n]? = some mark := fun l n h => by subst h; simp
  have cl : n + 1 ≤ (xs.take n ++ [mark]).length := by simp; omega
  have pc : ∀ x ∈ xs.take n ++ [mark], x.p.size ≤ 9223372036854775807 := fun x hx => by
    rcases List.mem_append.1 hx with hx | hx
    · exact px x (List.mem_of_mem_take hx)
    · obtain rfl : x = mark := by simpa using hx
      decide
  have c1 := encodes_spec st pl kd (xs.take n ++ [mark]) xs n cl hx hn (markAt _ n hxl) tx pc px
  have lc : ∀ (ws : List Sn) (K : Nat) (L : AHeap), n + 1 ≤ ws.length → L[K]? = some (gc, .row 50 3 Cc (ws.map enc)) → Lend L (shot st pl kd (.sl K gc Cc n)) (shot st pl kd (rdo ws n)) := fun ws K L hw h =>
    Lend.aggs ⟨.same _, .same _, .same _, .row _ _ _ _ _ _ _ h (by simp; omega), trivial⟩
  have behind : ∀ (ws : List Sn), ws.length = (xs.take n ++ [mark]).length → ws.drop n = (xs.take n ++ [mark]).drop n → n + 1 ≤ ws.length ∧ ws[n]? = some mark := fun ws hl hd => by
    refine ⟨by rw [hl]; exact cl, ?_⟩
    have h1 : (ws.drop n)[0]? = ((xs.take n ++ [mark]).drop n)[0]? := by rw [hd]
    rw [List.getElem?_drop, List.getElem?_drop, Nat.add_zero, markAt _ n hxl] at h1
    exact h1
  have k1 := encode_spec 0 ⟨#[47, 97]⟩ 1 [] 0 (Nat.le_refl _) (by simp)
  have ka : checkP 0 ⟨#[47, 97]⟩ 1 [] 0 := ⟨by omega, by decide +kernel, .inl rfl, by omega, by decide, fun _ _ h => absurd h (Nat.not_lt_zero _)⟩
  have kl : (encI 0 ⟨#[47, 97]⟩ 1 [] 0).length = 6 := by decide +kernel
  repeat (first | refine Ops.go ?_ | refine And.intro rfl ?_ | refine And.intro (Nat.le_of_ble_eq_true rfl) ?_ | refine And.intro (Int.natCast_nonneg _) ?_ | refine fun (_ : Nat) => ?_ | refine Ord.go ?_ | refine Run.go rfl ?_ | refine Cont.go rfl ?_ | refine OrdP.go ?_)
  refine Run.drawnP [0, 2] [0, 1, 2, 3, 4, 5, 6, 7, 8, 9, 10] (by kernel_rfl) ?_
  repeat (first | refine Ops.go ?_ | refine And.intro rfl ?_ | refine And.intro (Nat.le_of_ble_eq_true rfl) ?_ | refine And.intro (Int.natCast_nonneg _) ?_ | refine fun (_ : Nat) => ?_ | refine Ord.go ?_ | refine Run.go rfl ?_ | refine Cont.go rfl ?_ | refine OrdP.go ?_)
  refine ACallP.ret_lend (.two (lc _ _ _ cl rfl) (.same _)) c1 rfl ?_
  repeat (first | refine Ops.go ?_ | refine And.intro rfl ?_ | refine And.intro (Nat.le_of_ble_eq_true rfl) ?_ | refine And.intro (Int.natCast_nonneg _) ?_ | refine fun (_ : Nat) => ?_ | refine Ord.go ?_ | refine Run.go rfl ?_ | refine Cont.go rfl ?_ | refine OrdP.go ?_)
  refine ACallP.sel [1] (by decide) rfl [shot st pl kd (.sl 0 gc Cc n), .int .i64 0] _ (.two (Sub.aggs (.four (.refl _) (.refl _) (.refl _) (.sl _ _ _ _ _))) (.refl _)) (turned_spec 0 (fun p => p.size ≤ 9223372036854775807) st pl kd gc Cc (xs.take n ++ [mark]) n (by omega) hn pc) ?_
  rintro r L' ⟨ws, hwl, hwd, pw, hcase⟩
  obtain ⟨b1, b2⟩ := behind ws hwl hwd
  have htl : (ws.take n).length = n := by simp; omega
  rcases hcase with ⟨hm0, rfl, rfl⟩ | ⟨hm0, gx, Cx, rfl, rfl⟩
  case' inl =>
    refine ⟨_, .refl _, ?_⟩
    subst hm0
    have c2 := encodes_spec st pl kd ws [] 0 b1 (Nat.le_refl _) (by omega) b2 rfl pw (by simp)
    have lx : ∀ L : AHeap, Lend L (shot st pl kd .nils) (shot st pl kd (rdo [] 0)) := fun L => Lend.aggs ⟨.same _, .same _, .same _, .nils 3, trivial⟩
    repeat (first | refine Ops.go ?_ | refine And.intro rfl ?_ | refine And.intro (Nat.le_of_ble_eq_true rfl) ?_ | refine And.intro (Int.natCast_nonneg _) ?_ | refine fun (_ : Nat) => ?_ | refine Ord.go ?_ | refine Run.go rfl ?_ | refine Cont.go rfl ?_ | refine OrdP.go ?_)
    refine ACallP.ret_lend (.two (lc _ _ _ b1 rfl) (lx _)) c2 rfl ?_
  case' inr =>
    refine ⟨shot st pl kd (.sl 3 gx Cx n), Sub.aggs (.four (.refl _) (.refl _) (.refl _) (.sl _ _ _ _ _)), ?_⟩
    have c2 := encodes_spec st pl kd ws (ws.take n) n b1 (by omega) hn b2 (by rw [List.take_take, Nat.min_self]) pw (fun x hx => pw x (List.mem_of_mem_take hx))
    have lx : ∀ (K : Nat) (L : AHeap), L[K]? = some (gx, .row 50 3 Cx ((ws.take n).map enc)) → Lend L (shot st pl kd (.sl K gx Cx n)) (shot st pl kd (rdo (ws.take n) n)) := fun K L h =>
      Lend.aggs ⟨.same _, .same _, .same _, .row _ _ _ _ _ _ _ h (by simp; omega), trivial⟩
    repeat (first | refine Ops.go ?_ | refine And.intro rfl ?_ | refine And.intro (Nat.le_of_ble_eq_true rfl) ?_ | refine And.intro (Int.natCast_nonneg _) ?_ | refine fun (_ : Nat) => ?_ | refine Ord.go ?_ | refine Run.go rfl ?_ | refine Cont.go rfl ?_ | refine OrdP.go ?_)
    refine ACallP.ret_lend (.two (lc _ _ _ b1 rfl) (lx _ _ rfl)) c2 rfl ?_
  all_goals
    repeat (first | refine Ops.go ?_ | refine And.intro rfl ?_ | refine And.intro (Nat.le_of_ble_eq_true rfl) ?_ | refine And.intro (Int.natCast_nonneg _) ?_ | refine fun (_ : Nat) => ?_ | refine Ord.go ?_ | refine Run.go rfl ?_ | refine Cont.go rfl ?_ | refine OrdP.go ?_)
    refine ACall.selLend [] (by decide) [shot 0 ⟨#[47, 97]⟩ 1 (rdo [] 0)] [shot 0 ⟨#[47, 97]⟩ 1 (rdo [] 0)] _ (.one (Lend.aggs ⟨.same _, .same _, .same _, .nils 3, trivial⟩)) (.one (.refl _)) k1 ?_
    rintro r L' (⟨hP, _⟩ | ⟨_, g1, C1, rfl, rfl⟩)
    · exact absurd ka hP
    rw [kl]
    refine ⟨rfl, scal_u8s _ _ _, .tuple [.sl 9 g1 C1 6, .int .i64 0], Sub.tuples ⟨Sub.sl _ _ _ _ _, Sub.refl _, trivial⟩, ?_⟩
    repeat (first | refine Ops.go ?_ | refine And.intro rfl ?_ | refine And.intro (Nat.le_of_ble_eq_true rfl) ?_ | refine And.intro (Int.natCast_nonneg _) ?_ | refine fun (_ : Nat) => ?_ | refine Ord.go ?_ | refine Run.go rfl ?_ | refine Cont.go rfl ?_ | refine OrdP.go ?_)
    refine ⟨fun _ => ?_, fun h => absurd rfl h⟩
    repeat (first | refine Ops.go ?_ | refine And.intro rfl ?_ | refine And.intro (Nat.le_of_ble_eq_true rfl) ?_ | refine And.intro (Int.natCast_nonneg _) ?_ | refine fun (_ : Nat) => ?_ | refine Ord.go ?_ | refine Run.go rfl ?_ | refine Cont.go rfl ?_ | refine OrdP.go ?_)
    refine ⟨fun _ => ?_, fun h => absurd rfl h⟩
    repeat (first | refine Ops.go ?_ | refine And.intro rfl ?_ | refine And.intro (Nat.le_of_ble_eq_true rfl) ?_ | refine And.intro (Int.natCast_nonneg _) ?_ | refine fun (_ : Nat) => ?_ | refine Ord.go ?_ | refine Run.go rfl ?_ | refine Cont.go rfl ?_ | refine OrdP.go ?_)
    exact ⟨_, [], FinOk.drop _ _, rfl, rfl⟩
end Go.Proofs.YtfohedaadncefaaDoor.HBT
/- What a row's end says of its room; the model's own slices.overlaps at two rows. -/
namespace Go.Proofs.YtfohedaadncefaaDoor.HB
open Go

theorem FnSpec.capOf {C : Cx} {f : FuncId} {fn : Func} {args : List AV} {L : AHeap} {Q : AV → AHeap → Prop} (hf : C.P.funcs[f]? = some fn) (hb : fn.body.isSome = true) (hname : (fn.name == "runtime.NumGoroutine") = false)
    {k g e sz Cp : Nat} {xs : List AV} (hk : L[k]? = some (g, .row e sz Cp xs)) (h : xs.length ≤ Cp → FnSpec C f args L Q) : FnSpec C f args L Q := by
  refine ⟨⟨fn, hf, hname, hb⟩, fun imm w vs hG hs hl hv => ?_⟩
  have hle : xs.length ≤ Cp := by
    cases hs.holds k g _ hk trivial
    assumption
  exact (h hle).2 imm w vs hG hs hl hv

/-- Two rows of one's own lie apart. -/
theorem overlaps_ext {C : Cx} (hC : C.Ok) {f : FuncId} {fn : Func} {t tR : TypeId} (hf : C.P.funcs[f]? = some fn) (hname : (fn.name == "runtime.NumGoroutine") = false) (hb : fn.body.isNone = true) (hn : Extern.findNext fn = none) (he : Extern.find fn = some (Extern.SlicesOverlaps.overlaps #[t, t] #[tR]))
    {e sz by_ : Nat} {ea : Bool} {zs : List AV} (ht : C.T t = some (.slice e sz by_ ea zs))
    {L : AHeap} {k g Cp lo n k' g' Cp' lo' n' e1 sz1 e2 sz2 : Nat} {xs ys : List AV} (hk : L[k]? = some (g, .row e1 sz1 Cp xs)) (hk' : L[k']? = some (g', .row e2 sz2 Cp' ys)) (hne : k ≠ k') (hpos : 0 < Cp') :
    ExtSpec C f [.sb k g Cp sz1 lo n, .sb k' g' Cp' sz2 lo' n'] L (.bool false) := by
  intro imm w vs hG hs hl hv
  obtain ⟨v1, v2, rfl⟩ : ∃ v1 v2, vs = [v1, v2] := by
    cases vs with
    | nil => simp at hl
    | cons v1 r => cases r with
      | nil => simp at hl
      | cons v2 r => cases r with
        | nil => exact ⟨v1, v2, rfl⟩
        | cons => simp at hl
  have h1 := hv 0 _ _ rfl rfl
  have h2 := hv 1 _ _ rfl rfl
  obtain ⟨hu, j, ze, hj, hsz, _⟩ := tiOf_slice (hC.types _ _ ht)
  cases h1 with
  | sb _ _ _ _ _ _ off a1 a0 =>
  cases h2 with
  | sb _ _ _ _ _ _ off' b1 b0 =>
  cases hs.holds k g _ hk trivial with
  | row _ _ _ _ vs1 spare1 hg1 hs1 hsz1 hC1 hm1 hx1 hv1 =>
  cases hs.holds k' g' _ hk' trivial with
  | row _ _ _ _ vs2 spare2 hg2 hs2 hsz2 hC2 hm2 hx2 hv2 =>
  have hgg : g ≠ g' := fun e => hne (hs.apart k k' g (.row e1 sz1 Cp xs) (.row e2 sz2 Cp' ys) hk trivial (by rw [e]; exact hk') trivial)
  refine ⟨.bool false, ?_, .bool _⟩
  rw [show ([Value.slice (some ⟨g, off, none⟩) n (Cp - lo), Value.slice (some ⟨g', off', none⟩) n' (Cp' - lo')].toArray) = #[Value.slice (some ⟨g, off, none⟩) n (Cp - lo), Value.slice (some ⟨g', off', none⟩) n' (Cp' - lo')] from rfl]
  rw [run_callFunc_extern hf hname hb hn he, Lib.run_overlaps_apart w t tR e hu j.size (fun w' => run_sizeOf w' hj) ⟨g, off, none⟩ ⟨g', off', none⟩ n (Cp - lo) n' (Cp' - lo') hgg e1 e2 (Cp * sz1) (Cp' * sz2)
    (by simp [World.shape?, hg1, ← hC1]) (by simp [World.shape?, hg2, ← hC2]) (by have := Nat.mul_pos hpos hs2; omega) (by simp [World.frozen?, hg1]) (by simp [World.frozen?, hg1])]
  rfl
end Go.Proofs.YtfohedaadncefaaDoor.HB
/- Calls that panic, and the text's own panics; regions that draw their order and hold such calls. -/
namespace Go.Proofs.YtfohedaadncefaaDoor.HB
open Go

abbrev chain1 (v : Value) : List PanicEntry := [{ v, recovered := false }]

/-- A function's contract, where it may panic. -/
def FnSpecE (C : Cx) (f : FuncId) (args : List AV) (L : AHeap) (Q : AV → AHeap → Prop) (QP : Value → AHeap → Prop) : Prop :=
  (∃ fn, C.P.funcs[f]? = some fn ∧ (fn.name == "runtime.NumGoroutine") = false ∧ fn.body.isSome = true) ∧
  ∀ (imm : Nat → Prop) (w : World) (vs : List Value), C.G imm w → Sat imm w L → vs.length = args.length → (∀ (j : Nat) (x : AV) (v : Value), args[j]? = some x → vs[j]? = some v → VR imm w x v) →
    Calls C.P f vs.toArray w (fun e w' => (∃ v r L' imm', e = .returned v ∧ VR imm' w' r v ∧ Sat imm' w' L' ∧ Tr (Own L) imm w (Own L') imm' w' ∧ Q r L') ∨
      (∃ v L' imm', e = .panicked (chain1 v) ∧ Sat imm' w' L' ∧ Tr (Own L) imm w (Own L') imm' w' ∧ QP v L'))

/-- What is asked behind the body of a function that may panic. -/
def apostE (C : Cx) (fn : Func) (Q : AV → AHeap → Prop) (QP : Value → AHeap → Prop) : Exit → List AV → AHeap → Prop
  | .normal, env, L | .ret, env, L => aress C env L fn.results.toList fun xs => ∃ r L', FinOk (aret xs) L r L' ∧ Q r L'
  | .panic ch, _, L => ∃ v L', ch = chain1 v ∧ FinOk .junk L .junk L' ∧ QP v L'
  | _, _, _ => False

theorem FnSpecE.start {C : Cx} (hC : C.Ok) {f : FuncId} {fn : Func} {c : Code} {args : List AV} {L : AHeap} {Q : AV → AHeap → Prop} {QP : Value → AHeap → Prop} {n : Nat} (hf : C.P.funcs[f]? = some fn) (hb : fn.body = some c) (hname : (fn.name == "runtime.NumGoroutine") = false) (hn : fn.ntmps = n)
    (h : force (args ++ List.replicate (n - args.length) .junk) fun env => Run C (apostE C fn Q QP) [] c env L) : FnSpecE C f args L Q QP := by
  rw [force_eq] at h
  have h := h.ok
  refine ⟨⟨fn, hf, hname, by simp [hb]⟩, fun imm w vs hG hs hl hv => ?_⟩
  subst hn
  refine calls_of_wp hf hb ?_
  have henv : EnvR imm w (args ++ List.replicate (fn.ntmps - args.length) .junk) (vs.toArray ++ Array.replicate (fn.ntmps - vs.toArray.size) undef) := by
    refine ⟨by simp [hl], fun t x v hx hvv => ?_⟩
    by_cases ht : t < args.length
    · rw [List.getElem?_append_left ht] at hx
      rw [Array.getElem?_append_left (by simpa [hl] using ht)] at hvv
      exact hv t x v hx (by simpa using hvv)
    · rw [List.getElem?_append_right (by omega), List.getElem?_replicate] at hx
      split at hx
      · cases hx; exact .junk v
      · cases hx
  have hat : At C ⟨[], Own L, imm, w⟩ (args ++ List.replicate (fn.ntmps - args.length) .junk) L { tmps := vs.toArray ++ Array.replicate (fn.ntmps - vs.toArray.size) undef, defers := [] } w := ⟨imm, ⟨hs, henv, Tr.refl _ _ _, rfl⟩, hG⟩
  refine Code.wp_mono ?_ (awp_sound hC c _ _ L _ w h hat)
  have fin : ∀ (a' : Act) (w' : World) (env' : List AV) (L' : AHeap), At C ⟨[], Own L, imm, w⟩ env' L' a' w' → (aress C env' L' fn.results.toList fun xs => ∃ r L'', FinOk (aret xs) L' r L'' ∧ Q r L'') →
      a'.defers = [] ∧ ∃ v, (results fn a'.tmps).run C.P w' = .ok v w' ∧ ((∃ v' r L' imm', Ending.returned v = .returned v' ∧ VR imm' w' r v' ∧ Sat imm' w' L' ∧ Tr (Own L) imm w (Own L') imm' w' ∧ Q r L') ∨
        (∃ v' L' imm', Ending.returned v = .panicked (chain1 v') ∧ Sat imm' w' L' ∧ Tr (Own L) imm w (Own L') imm' w' ∧ QP v' L')) := by
    intro a' w' env' L' ha h
    obtain ⟨imm', hst, _⟩ := ha
    obtain ⟨xs, v, ⟨r, L'', hfin, hq⟩, hrun, hvr⟩ := results_sound hC hst.sat hst.env h
    obtain ⟨imm2, h1, h2, h3⟩ := hfin _ _ _ _ _ _ hst.sat hvr hst.tr
    exact ⟨hst.defers, v, hrun, .inl ⟨v, r, L'', imm2, rfl, h2, h1, h3, hq⟩⟩
  intro e a' w' hq
  cases e with
  | normal => obtain ⟨env', L', ha, hq⟩ := hq; exact fin a' w' env' L' ha hq
  | ret => obtain ⟨env', L', ha, hq⟩ := hq; exact fin a' w' env' L' ha hq
  | exit id => obtain ⟨env', L', ha, hq⟩ := hq; exact hq.elim
  | goto l => obtain ⟨env', L', ha, hq⟩ := hq; exact hq.elim
  | panic c =>
    obtain ⟨env', L', ⟨imm', hst, _⟩, v, L'', rfl, hfin, hq⟩ := hq
    obtain ⟨imm2, h1, _, h3⟩ := hfin _ _ _ _ _ undef hst.sat (.junk _) hst.tr
    exact ⟨hst.defers, .inr ⟨v, L'', imm2, rfl, h1, h3, hq⟩⟩
  | outgrown => exact hq.elim

/-- A call that may panic; what is kept of the objects of these numbers is as it was. -/
inductive ACallE (C : Cx) (keys : List Nat) (f : FuncId) (args : List AV) (L : AHeap) (K : AV → AHeap → Prop) (KP : Value → AHeap → Prop) : Prop where
  | quiet (h : ACallQ C f args L fun v => K v L) : ACallE C keys f args L K KP
  | sel (ks : List Nat) (hnd : ks.Nodup) (hdis : (keys.all fun k => !ks.contains k) = true) (args' : List AV) (Q : AV → AHeap → Prop) (QP : Value → AHeap → Prop) (hsub : Subs args args') (h : FnSpecE C f args' (selL L ks) Q QP)
      (k : ∀ r L', Q r L' → ∃ r', Sub r r' ∧ K r' (mergeL L ks L')) (kp : ∀ v L', QP v L' → KP v (mergeL L ks L')) : ACallE C keys f args L K KP

theorem ACallE.sound {C : Cx} (hC : C.Ok) {keys : List Nat} {f : FuncId} {args : List AV} {L : AHeap} {K : AV → AHeap → Prop} {KP : Value → AHeap → Prop} (h : ACallE C keys f args L K KP) {imm : Nat → Prop} {w : World} (hG : C.G imm w) (hs : Sat imm w L) {vs : List Value}
    (hl : vs.length = args.length) (hv : ∀ (j : Nat) (x : AV) (v : Value), args[j]? = some x → vs[j]? = some v → VR imm w x v) :
    (∃ fn, C.P.funcs[f]? = some fn ∧ (fn.name == "runtime.NumGoroutine") = false ∧ fn.body.isSome = true) ∧
    Calls C.P f vs.toArray w (fun e w' => (∃ v r L' imm', e = .returned v ∧ VR imm' w' r v ∧ Sat imm' w' L' ∧ Tr (Own L) imm w (Own L') imm' w' ∧ SameK imm L keys w w' ∧ (∀ k ∈ keys, ∀ x, L[k]? = some x → L'[k]? = some x) ∧ K r L') ∨
      (∃ v L' imm', e = .panicked (chain1 v) ∧ Sat imm' w' L' ∧ Tr (Own L) imm w (Own L') imm' w' ∧ KP v L')) := by
  cases h with
  | quiet h =>
    obtain ⟨h1, h2⟩ := ACallQ.sound hC h hG hs hl hv
    refine ⟨h1, h2.mono ?_⟩
    rintro e w' ⟨v, r, imm', rfl, a2, a3, a4, a5, a6⟩
    exact .inl ⟨v, r, L, imm', rfl, a2, a3, a4, fun g hg => a5 g (hg.imp id fun ⟨k, o, _, hk, ho⟩ => ⟨k, o, hk, ho⟩), fun _ _ _ h => h, a6⟩
  | sel ks hnd hdis args' Q QP hsub h k kp =>
    obtain ⟨hlen, hat⟩ := hsub.at_
    have hdis : ∀ k ∈ keys, k ∉ ks := fun k hk => by simpa using List.all_eq_true.1 hdis k hk
    refine ⟨h.1, (h.2 imm w vs hG (selL_sat hs hnd) (by omega) (fun j y v hy hvj => ?_)).mono ?_⟩
    · have hj : j < args.length := by rw [hlen]; exact (List.getElem?_eq_some_iff.1 hy).1
      exact hat j args[j] y (List.getElem?_eq_getElem hj) hy _ _ _ (hv j _ v (List.getElem?_eq_getElem hj) hvj)
    · rintro e w' (⟨v, r, L', imm', rfl, hr, hs', ht, hq⟩ | ⟨v, L', imm', rfl, hs', ht, hq⟩)
      · obtain ⟨r', hsub', hk⟩ := k r L' hq
        obtain ⟨m1, m2⟩ := merge_sat hs hs' ht
        refine .inl ⟨v, r', _, imm', rfl, hsub' _ _ _ hr, m1, m2, fun g hg => ?_, fun k hk _ hl => mergeL_keep (hdis k hk) hl, hk⟩
        have hlt : g < w.heap.size := hg.elim (hs.immlt g) fun ⟨k, o, _, hl, ho⟩ => hs.lt g ⟨k, o, hl, ho⟩
        refine ht.block g hlt fun hown => ?_
        obtain ⟨k', o', hk', hl', ho'⟩ := own_selL hown
        rcases hg with hi | ⟨k, o, hk, hl, ho⟩
        · exact hs.far g ⟨k', o', hl', ho'⟩ hi
        · exact hdis k hk (hs.apart k k' g o o' hl ho hl' ho' ▸ hk')
      · obtain ⟨m1, m2⟩ := merge_sat hs hs' ht
        exact .inr ⟨v, _, imm', rfl, m1, m2, kp v L' hq⟩

/-- May such a thing be put into an interface value? -/
def concB (P : Program) (t : TypeId) : Bool := match P.underlying t with
  | some (.struct _) => true
  | _ => false

/-- A value that holds nothing that lies in memory, one step deeper. -/
def scal2 : AV → Bool
  | .agg ys => ys.all scal
  | x => scal x
def scalD : AV → Bool
  | .tuple xs => xs.all scal2
  | x => scal2 x
theorem VR.of_scal2 {imm imm' : Nat → Prop} {w w' : World} {x : AV} {v : Value} (h : VR imm w x v) (hs : scal2 x = true) : VR imm' w' x v := by
  cases x with
  | agg ys => exact h.of_scals (show scals (.agg ys) = true from hs)
  | _ => exact h.of_scal hs
theorem VR.of_scalD {imm imm' : Nat → Prop} {w w' : World} {x : AV} {v : Value} (h : VR imm w x v) (hs : scalD x = true) : VR imm' w' x v := by
  cases x with
  | tuple xs =>
    cases h with
    | tuple xs vs hl hv => exact .tuple xs vs hl (fun j y u hy hu => (hv j y u hy hu).of_scal2 ((List.all_eq_true.1 hs) y (List.mem_of_getElem? hy)))
  | _ => exact h.of_scal2 hs

/-- A call within a region in the text's order. -/
inductive ACallT (C : Cx) (f : FuncId) (args : List AV) (L : AHeap) (K : AV → AHeap → Prop) (KP : Value → AHeap → Prop) : Prop where
  | ok (h : ACall C f args L K)
  | may (h : ACallE C [] f args L K KP)
  | lendD (args' : List AV) (Q : AV → AHeap → Prop) (hl : Lends L args args') (h : FnSpec C f args' [] Q) (k : ∀ r L', Q r L' → scalD r = true ∧ scalL L' = true ∧ ∃ r', Sub r r' ∧ K r' (L ++ L'))

theorem lendD_sound {C : Cx} (hC : C.Ok) {f : FuncId} {args args1 : List AV} {L : AHeap} {K : AV → AHeap → Prop} {Q : AV → AHeap → Prop} (hle : Lends L args args1) (h : FnSpec C f args1 [] Q) (k : ∀ r L', Q r L' → scalD r = true ∧ scalL L' = true ∧ ∃ r', Sub r r' ∧ K r' (L ++ L'))
    {imm : Nat → Prop} {w : World} (hG : C.G imm w) (hs : Sat imm w L) {vs : List Value} (hl : vs.length = args.length) (hv : ∀ (j : Nat) (x : AV) (v : Value), args[j]? = some x → vs[j]? = some v → VR imm w x v) :
    (∃ fn, C.P.funcs[f]? = some fn ∧ (fn.name == "runtime.NumGoroutine") = false ∧ fn.body.isSome = true) ∧
    Calls C.P f vs.toArray w (fun e w' => ∃ v r L' imm', e = .returned v ∧ VR imm' w' r v ∧ Sat imm' w' L' ∧ Tr (Own L) imm w (Own L') imm' w' ∧ K r L') := by
  obtain ⟨hlen1, hat1⟩ := hle.at_
  have hnone : ∀ g, ¬ Own ([] : AHeap) g := fun g ⟨k, o, hk, _⟩ => by simp at hk
  have hlt' : ∀ i, imm i ∨ Own L i → i < w.heap.size := fun i hi => hi.elim (hs.immlt i) (hs.lt i)
  refine ⟨h.1, (h.2 (fun i => imm i ∨ Own L i) w vs (hC.mono _ _ _ _ hG (fun _ => .inl) (fun _ _ => rfl)) ⟨by simp, by simp, fun g hg => (hnone g hg).elim, fun g hg => (hnone g hg).elim, hlt'⟩ (by omega) (fun j y v hy hvj => ?_)).mono ?_⟩
  · have hj : j < args.length := by rw [hlen1]; exact (List.getElem?_eq_some_iff.1 hy).1
    exact (hat1 j args[j] y (List.getElem?_eq_getElem hj) hy).VR hs (hv j _ v (List.getElem?_eq_getElem hj) hvj)
  · rintro e w' ⟨v, r, L', imm', rfl, hr, hs', ht, hq⟩
    obtain ⟨hsc, hscL, r', hsub', hk⟩ := k r L' hq
    have hfar : ∀ g, Own L' g → ¬ imm g := fun g hg hi => hs'.far g hg (ht.imm1 g (.inl hi))
    have hs2 : Sat imm w' L' := ⟨fun j g o hj ho => (hs'.holds j g o hj ho).of_scal ((List.all_eq_true.1 hscL) _ (List.mem_of_getElem? hj)), hs'.apart, hfar, hs'.lt, fun g hg => Nat.lt_of_lt_of_le (hs.immlt g hg) ht.size⟩
    have ht2 : Tr (Own (selL L [])) imm w (Own L') imm w' := ⟨ht.os, ht.tape, ht.output, ht.size, ht.block, fun _ h => h, fun _ h => .inl h, ht.own2⟩
    obtain ⟨m1, m2⟩ := merge_sat (ks := []) hs hs2 ht2
    have hm : mergeL L [] L' = L ++ L' := by
      have : ∀ (L : AHeap) (j : Nat), mergeA [] L' j L = L ++ L' := by
        intro L
        induction L with
        | nil => intro j; rfl
        | cons x L ih => intro j; simp only [mergeA, idxN]; rw [ih]; rfl
      exact this L 0
    rw [hm] at m1 m2
    exact ⟨v, r', _, imm, rfl, hsub' _ _ _ (hr.of_scalD hsc), m1, m2, hk⟩

/-- The text of some bytes. -/
def strI (l : List Int) : ByteArray := ⟨(l.map fun n => UInt8.ofNat n.toNat).toArray⟩
/-- Is this a list of bytes? -/
def u8B (P : Program) (e : TypeId) : Bool := match P.underlying e with
  | some (.int .u8) => true
  | _ => false
def aconv (C : Cx) (src dst : TypeId) (x : AV) (K : AV → Prop) : Prop :=
  match C.T src, C.T dst, x with
  | some (.slice e _ _ _ _), some (.one .string _), .ro 1 xs n => u8B C.P e = true ∧ ∃ l : List Int, xs.take n = l.map (.int .u8) ∧ K (.str (strI l))
  | _, _, _ => False

/-- Is this an interface type? -/
def ifaceB (P : Program) (t : TypeId) : Bool := match P.underlying t with
  | some (.interface _) => true
  | _ => false
/-- One operation of a region in the text's order, where calls may panic. -/
def aopT (C : Cx) (o : Oper) (env : List AV) (L : AHeap) (K : AV → AHeap → Prop) (KP : Value → AHeap → Prop) : Prop :=
  match o.op with
  | .call { callee := .value x, args, .. } => match afun (aeval env x) with
    | some f => evalsK env args.toList fun vs => ACallT C f vs L K KP
    | none => False
  | .panic x => match aeval env x with
    | .any (.iface t v) => KP (.iface t v) L
    | _ => False
  | .makeInterface t x => match aeval env x with
    | .agg [] => concB C.P t = true ∧ K (.any (.iface t (.agg #[]))) L
    | _ => False
  | .typeAssert x _ t true => match aeval env x with
    | .any (.iface t' v) => v = .agg #[] ∧ t' = t ∧ concB C.P t = true ∧ K (.tuple [.agg [], .bool true]) L
    | _ => False
  | .binOp .neq t x (.const .nilIface) _ => match aeval env x with
    | .any (.iface _ _) => ifaceB C.P t = true ∧ K (.bool true) L
    | .any .nilIface => ifaceB C.P t = true ∧ K (.bool false) L
    | _ => False
  | .convert src dst x => match C.T src with
    | some (.slice ..) => aconv C src dst (aeval env x) fun v => K v L
    | _ => aopF C o env L K
  | _ => aopF C o env L K

theorem run_call {C : Cx} {o : Oper} {x : Operand} {args : Array Operand} {ts : Array TypeId} (ho : o.op = .call { callee := .value x, args := args, argTypes := ts }) {a : Act} {f : FuncId} {fn : Func} {w : World}
    (hxv : a.eval x = .func (.func f) #[] #[]) (hf : C.P.funcs[f]? = some fn) (hname : (fn.name == "runtime.NumGoroutine") = false) (hb : fn.body.isSome = true) : (execOp a.eval o).run C.P w = .ok (.enter f (args.map a.eval)) w := by
  have h1 : fn.name ≠ "runtime.NumGoroutine" := by simpa using hname
  obtain ⟨cc, hcc⟩ := Option.isSome_iff_exists.1 hb
  unfold execOp
  simp [ho, hxv, resolve, Deferred.ofValue, invoke, callFunc, hf, h1, hcc]

theorem run_iface {C : Cx} {o : Oper} {t : TypeId} {x : Operand} (ho : o.op = .makeInterface t x) {a : Act} {w : World} (ht : concB C.P t = true) : (execOp a.eval o).run C.P w = .ok (.value (.iface t (a.eval x))) w := by
  unfold concB at ht
  split at ht
  case h_2 => cases ht
  rename_i fs hu
  simp [execOp, ho, Instr.makeInterface, run_underlying hu]

theorem aconv_sound {C : Cx} (hC : C.Ok) {src dst : TypeId} {x : AV} {K : AV → Prop} (h : aconv C src dst x K) {imm : Nat → Prop} {w : World} {v : Value} (hx : VR imm w x v) :
    ∃ u y, (convert src dst v).run C.P w = .ok u w ∧ VR imm w y u ∧ K y := by
  unfold aconv at h
  split at h
  case h_2 => exact h.elim
  rename_i e sz by_ ea zs zd xs n hs hd
  obtain ⟨hu8, l, hl, hk⟩ := h
  obtain ⟨hus, _⟩ := tiOf_slice (hC.types _ _ hs)
  have hud := tiOf_one (hC.types _ _ hd)
  have hue : C.P.underlying e = some (.int .u8) := by
    unfold u8B at hu8
    split at hu8
    · assumption
    · cases hu8
  cases hx with
  | ro _ _ _ A cap vs hn hcap hsz hvl ha h1 hv =>
    have hll : l.length = n := by
      have := congrArg List.length hl
      rw [List.length_take, List.length_map] at this
      omega
    have hflat : ∀ (ys : List AV), (∀ y ∈ ys, (flat y).length = 1) → (flats ys).length = ys.length := fun ys => by
      induction ys with
      | nil => intro _; rfl
      | cons y ys ih =>
        intro hy
        rw [flats_cons, List.length_append, ih (fun z hz => hy z (by simp [hz])), hy y (by simp)]
        simp; omega
    have hxl := hflat xs hsz
    have hat : ∀ (j : Nat) (b : Int), l[j]? = some b → (flats xs)[j]? = some (.int .u8 b) := by
      have : ∀ (xs : List AV) (l : List Int) (n : Nat), (∀ y ∈ xs, (flat y).length = 1) → xs.take n = l.map (.int .u8) → ∀ (j : Nat) (b : Int), l[j]? = some b → (flats xs)[j]? = some (.int .u8 b) := by
        intro xs
        induction xs with
        | nil => intro l n _ hl j b hj; cases l with
          | nil => simp at hj
          | cons => simp at hl
        | cons y ys ih =>
          intro l n hy hl j b hj
          cases l with
          | nil => simp at hj
          | cons c l =>
            cases n with
            | zero => simp at hl
            | succ n =>
              simp only [List.take_succ_cons, List.map_cons, List.cons.injEq] at hl
              obtain ⟨rfl, hl⟩ := hl
              rw [flats_cons]
              cases j with
              | zero => simp at hj; subst hj; rfl
              | succ j => exact ih l n (fun z hz => hy z (by simp [hz])) hl j b (by simpa using hj)
      exact this xs l n hsz hl
    have hvs : ∀ (j : Nat) (b : Int), l[j]? = some b → vs[j]? = some (.int .u8 b) := fun j b hj => by
      have hf := hat j b hj
      have hlt : j < vs.length := by rw [hvl]; exact (List.getElem?_eq_some_iff.1 hf).1
      have := hv j _ _ hf (List.getElem?_eq_getElem hlt)
      generalize hg : vs[j] = u at this
      cases this
      rw [List.getElem?_eq_getElem hlt, hg]
    have hstr : strI l = l.foldl (fun r n => r.push (UInt8.ofNat n.toNat)) ByteArray.empty := by
      have : ∀ (l : List Int) (s : ByteArray), l.foldl (fun r n => r.push (UInt8.ofNat n.toNat)) s = ⟨s.data ++ (l.map fun n => UInt8.ofNat n.toNat).toArray⟩ := by
        intro l
        induction l with
        | nil => intro s; simp
        | cons n l ih => intro s; rw [List.foldl_cons, ih]; simp [ByteArray.push]
      rw [this]
      simp [strI, ByteArray.empty, ByteArray.emptyWithCapacity]
      rfl
    refine ⟨.string (strI l), .str (strI l), ?_, .str _, hk⟩
    cases A with
    | none =>
      have hx0 : xs.length = 0 := by
        rcases Nat.eq_zero_or_pos xs.length with h0 | h0
        · exact h0
        · obtain ⟨a, e, _⟩ := ha h0; cases e
      have : l = [] := List.eq_nil_of_length_eq_zero (by omega)
      subst this
      rw [run_convert_bytes_string w src dst e _ _ _ hus hue hud]
      simp [Conv.bytesToString, strI, ByteArray.empty, ByteArray.emptyWithCapacity]
      rfl
    | some a =>
      rw [run_convert_bytes_string w src dst e _ _ _ hus hue hud, hstr]
      refine run_bytesToString w a n cap l ?_
      have := run_loadCells_list (P := C.P) w a (l.map (Value.int .u8)) (fun j u hj => by
        rw [List.getElem?_map] at hj
        cases hlj : l[j]? with
        | none => rw [hlj] at hj; cases hj
        | some b =>
          rw [hlj] at hj
          cases hj
          have hlt : 0 < xs.length := by have := (List.getElem?_eq_some_iff.1 hlj).1; omega
          obtain ⟨a', e, _, hc⟩ := ha hlt
          cases e
          exact hc j _ (hvs j b hlj))
      simpa [hll] using this

theorem run_iface_ne {P : Program} {w : World} {t u : TypeId} {v : Value} {ms : Array (String × TypeId)} (hu : P.underlying t = some (.interface ms)) : (Op.equal t (.iface u v) .nilIface).run P w = .ok false w := by
  unfold Op.equal
  obtain ⟨d, hd⟩ : ∃ d, Op.maxDepth = d + 1 := ⟨9999, rfl⟩
  rw [hd]
  simp [Op.equalIn, run_underlying hu]
theorem run_iface_nil {P : Program} {w : World} {t : TypeId} {ms : Array (String × TypeId)} (hu : P.underlying t = some (.interface ms)) : (Op.equal t .nilIface .nilIface).run P w = .ok true w := by
  unfold Op.equal
  obtain ⟨d, hd⟩ : ∃ d, Op.maxDepth = d + 1 := ⟨9999, rfl⟩
  rw [hd]
  simp [Op.equalIn, run_underlying hu]
theorem aopT_sound {C : Cx} (hC : C.Ok) {o : Oper} {env : List AV} {L : AHeap} {K : AV → AHeap → Prop} {KP : Value → AHeap → Prop} (h : aopT C o env L K KP) {imm : Nat → Prop} {w : World} {a : Act} (hG : C.G imm w) (hs : Sat imm w L) (he : EnvR imm w env a.tmps)
    {next : Act → World → Prop} {Q : Exit → Act → World → Prop}
    (hn : ∀ x L' imm' v w', K x L' → Sat imm' w' L' → VR imm' w' x v → Tr (Own L) imm w (Own L') imm' w' → next (a.put o.dst v) w')
    (hp : ∀ v L' imm' w', KP v L' → Sat imm' w' L' → Tr (Own L) imm w (Own L') imm' w' → Q (.panic (chain1 v)) a w') : o.wp C.P a w next Q := by
  unfold aopT at h
  split at h
  · rename_i x args ts ho
    have hx := aeval_VR he x
    split at h
    case h_2 => exact h.elim
    rename_i f hfx
    rw [evalsK_eq] at h
    have hxv := afun_VR hx hfx
    obtain ⟨hl, hv⟩ := args_VR he args
    cases h with
    | ok h =>
      refine aop_sound hC (o := o) (env := env) (L := L) (K := K) ?_ hG hs he hn
      unfold aop
      rw [ho]
      simp only [hfx]
      exact h
    | may h =>
      obtain ⟨⟨fn, hf, hname, hb⟩, hc⟩ := ACallE.sound hC h hG hs hl hv
      rw [Array.toArray_toList] at hc
      unfold Oper.wp
      rw [run_call ho hxv hf hname hb, Oper.upon_enter]
      refine hc.mono fun e w'' hh => ?_
      rcases hh with ⟨v, r, L', imm', rfl, a1, a2, a3, _, _, a6⟩ | ⟨v, L', imm', rfl, a2, a3, a6⟩
      · exact hn r L' imm' v w'' a6 a2 a1 a3
      · exact hp v L' imm' w'' a6 a2 a3
    | lendD args' Q' hle h k =>
      obtain ⟨⟨fn, hf, hname, hb⟩, hc⟩ := lendD_sound hC hle h k hG hs hl hv
      rw [Array.toArray_toList] at hc
      unfold Oper.wp
      rw [run_call ho hxv hf hname hb, Oper.upon_enter]
      refine hc.mono fun e w'' hh => ?_
      obtain ⟨v, r, L', imm', rfl, a1, a2, a3, a6⟩ := hh
      exact hn r L' imm' v w'' a6 a2 a1 a3
  · rename_i x ho
    have hx := aeval_VR he x
    split at h
    case h_2 => exact h.elim
    rename_i t v hev
    rw [hev] at hx
    generalize hxx : a.eval x = u at hx
    cases hx
    have hrun : (execOp a.eval o).run C.P w = .halt (.panic (.iface t v)) w := by
      unfold execOp
      have hr : (Instr.panic (Value.iface t v)).run C.P w = .halt (.panic (.iface t v)) w := rfl
      simp [ho, hxx, hr]
    unfold Oper.wp
    rw [hrun, Oper.upon_panic]
    exact hp _ _ imm w h hs (Tr.refl _ _ _)
  · rename_i t x ho
    have hx := aeval_VR he x
    split at h
    case h_2 => exact h.elim
    rename_i hev
    obtain ⟨ht, h⟩ := h
    rw [hev] at hx
    have hxx : a.eval x = .agg #[] := by
      generalize a.eval x = u at hx
      cases hx with
      | agg xs vs hl =>
        have := List.eq_nil_of_length_eq_zero (l := vs) (by have := hl; simp only [List.length_nil] at this; omega)
        rw [this]
    refine wp_value (v := .iface t (.agg #[])) ?_ (hn _ _ _ _ _ h hs (.any _) (Tr.refl _ _ _))
    rw [run_iface ho ht, hxx]
  · rename_i x xt t ho
    have hx := aeval_VR he x
    split at h
    case h_2 => exact h.elim
    rename_i t' v hev
    obtain ⟨rfl, rfl, ht, h⟩ := h
    rw [hev] at hx
    generalize hxx : a.eval x = u at hx
    cases hx
    have hrun : (execOp a.eval o).run C.P w = .ok (.value (.tuple #[.agg #[], .bool true])) w := by
      unfold concB at ht
      split at ht
      case h_2 => cases ht
      rename_i fs hu
      simp [execOp, ho, hxx, Instr.typeAssert, run_underlying hu]
    refine wp_value hrun (hn _ _ _ _ _ h hs ?_ (Tr.refl _ _ _))
    exact VR.tuple [.agg [], .bool true] [.agg #[], .bool true] rfl (fun j y u hy hu => by
      match j, hy, hu with
      | 0, hy, hu => simp at hy hu; subst hy; subst hu; exact .agg [] [] rfl (by simp) (by simp)
      | 1, hy, hu => simp at hy hu; subst hy; subst hu; exact .bool true
      | j + 2, hy, _ => simp at hy)
  · rename_i xt x r ho
    have hx := aeval_VR he x
    split at h
    · rename_i t v hev
      rw [hev] at hx
      generalize hxx : a.eval x = u at hx
      cases hx
      obtain ⟨ht, h⟩ := h
      have hrun : (execOp a.eval o).run C.P w = .ok (.value (.bool true)) w := by
        unfold ifaceB at ht
        split at ht
        case h_2 => cases ht
        rename_i ms hu
        have hc : a.eval (.const .nilIface) = .nilIface := rfl
        simp [execOp, ho, hxx, hc, eqGuard, binOp, run_iface_ne hu]
      exact wp_value hrun (hn _ _ _ _ _ h hs (.bool true) (Tr.refl _ _ _))
    · rename_i hev
      rw [hev] at hx
      generalize hxx : a.eval x = u at hx
      cases hx
      obtain ⟨ht, h⟩ := h
      have hrun : (execOp a.eval o).run C.P w = .ok (.value (.bool false)) w := by
        unfold ifaceB at ht
        split at ht
        case h_2 => cases ht
        rename_i ms hu
        have hc : a.eval (.const .nilIface) = .nilIface := rfl
        simp [execOp, ho, hxx, hc, eqGuard, binOp, run_iface_nil hu]
      exact wp_value hrun (hn _ _ _ _ _ h hs (.bool false) (Tr.refl _ _ _))
    · exact h.elim
  · rename_i src dst x ho
    split at h
    · obtain ⟨u, y, hr, hy, hk⟩ := aconv_sound hC h (aeval_VR he x)
      exact wp_value (by simp [execOp, ho, hr]) (hn _ _ _ _ _ hk hs hy (Tr.refl _ _ _))
    · rw [aopF_fun] at h
      exact aop_sound hC h hG hs he hn
  · rw [aopF_fun] at h
    exact aop_sound hC h hG hs he hn

def awpOpsT (C : Cx) (ops : Array Oper) (KP : Value → List AV → AHeap → Prop) : List Oper → (List AV → AHeap → Prop) → List AV → AHeap → Prop
  | [], Q, env, L => Q env L
  | o :: rest, Q, env, L => aoperG (fun o env L K => aopT C o env L K fun v L' => KP v env L') ops o env L fun env' L' => awpOpsT C ops KP rest Q env' L'

theorem awpOpsT_text {C : Cx} (hC : C.Ok) {F : Fr} {ops : Array Oper} {Q : List AV → AHeap → Prop} {KP : Value → List AV → AHeap → Prop} {Qc : Exit → Act → World → Prop} (hQ : ∀ env L a w, Q env L → At C F env L a w → Qc .normal a w)
    (hP : ∀ v env L a w, KP v env L → At C F env L a w → Qc (.panic (chain1 v)) a w) :
    ∀ (n k : Nat) (env : List AV) (L : AHeap) (a : Act) (w : World), k + n = ops.size → awpOpsT C ops KP (ops.toList.drop k) Q env L → At C F env L a w → wpOps C.P ops Qc (List.range' k n) a w
  | 0, k, env, L, a, w, hk, h, ha => by
    rw [List.drop_of_length_le (by simp; omega)] at h
    exact hQ _ _ _ _ h ha
  | n + 1, k, env, L, a, w, hk, h, ha => by
    have hlt : k < ops.size := by omega
    have hd : ops.toList.drop k = ops[k] :: ops.toList.drop (k + 1) := by
      rw [List.drop_eq_getElem_cons (by simpa using hlt)]
      rfl
    rw [hd] at h
    rw [List.range'_succ]
    simp only [wpOps]
    rw [Array.getElem?_eq_getElem hlt]
    obtain ⟨imm, hst, hG⟩ := ha
    simp only
    rcases aoperG_cases h hst.env with ⟨hw, h⟩ | ⟨hw, h⟩
    · rw [if_pos hw]
      refine .inl (aopT_sound hC h hG hst.sat hst.env (fun x L' imm' v w' hk' hs hx ht => ?_) (fun v L' imm' w' hk' hs ht => ?_))
      · exact awpOpsT_text hC hQ hP n (k + 1) _ _ _ _ (by omega) hk' (At.next hC hst hG hs hx ht _)
      · exact hP _ _ _ _ _ hk' ⟨imm', hst.step hs ht, hC.mono _ _ _ _ hG ht.imm1 (ht.immblock hst.sat.far hst.sat.immlt)⟩
    · rw [if_neg (by rw [hw]; simp)]
      exact awpOpsT_text hC hQ hP n (k + 1) _ _ _ _ (by omega) h ⟨imm, hst.put undef_VR _, hG⟩

/-- The rest of a region in the text's order, where calls may panic. -/
structure OpsT (C : Cx) (Q : Exit → List AV → AHeap → Prop) (k : List Frame) (ops : Array Oper) (rest : List Oper) (env : List AV) (L : AHeap) : Prop where
  ok : awpOpsT C ops (fun v => after C Q k (.panic (chain1 v))) rest (after C Q k .normal) env L
section
variable {C : Cx} {Q : Exit → List AV → AHeap → Prop} {k : List Frame} {env : List AV} {L : AHeap}
theorem Run.textT (hC : C.Ok) {id : Nat} {ops : Array Oper} (h : OpsT C Q k ops ops.toList env L) : Run C Q k (.region id ops false) env L :=
  Run.sem0 fun F a w ha => by
    have := awpOpsT_text (ops := ops) (Qc := QC C F (after C Q k)) hC (fun env L a w hq ha => ⟨env, L, ha, hq⟩) (fun v env L a w hq ha => ⟨env, L, ha, hq⟩) ops.size 0 env L a w (Nat.zero_add _) (by simpa using h.ok) ha
    rw [← List.range_eq_range'] at this
    exact wp_region this
theorem OpsT.nil {ops : Array Oper} (h : Cont C Q k .normal env L) : OpsT C Q k ops [] env L := ⟨h.ok⟩
theorem OpsT.cons {ops : Array Oper} {o : Oper} {rest : List Oper} (h : aoperG (fun o env L K => aopT C o env L K fun v L' => Cont C Q k (.panic (chain1 v)) env L') ops o env L fun env' L' => OpsT C Q k ops rest env' L') : OpsT C Q k ops (o :: rest) env L := by
  have e : (fun env' L' => OpsT C Q k ops rest env' L') = fun env' L' => awpOpsT C ops (fun v => after C Q k (.panic (chain1 v))) rest (after C Q k .normal) env' L' := by
    funext env' L'
    exact propext ⟨fun h => h.ok, fun h => ⟨h⟩⟩
  have e2 : (fun (o : Oper) (env : List AV) (L : AHeap) (K : AV → AHeap → Prop) => aopT C o env L K fun v L' => Cont C Q k (.panic (chain1 v)) env L') = fun o env L K => aopT C o env L K fun v L' => after C Q k (.panic (chain1 v)) env L' := by
    funext o env L K
    congr 1
    funext v L'
    exact propext ⟨fun h => h.ok, fun h => ⟨h⟩⟩
  rw [e, e2] at h
  exact ⟨h⟩
theorem Cont.seq_panic {y : Code} {ch : List PanicEntry} (h : Cont C Q k (.panic ch) env L) : Cont C Q (.seq y :: k) (.panic ch) env L := ⟨h.ok⟩
theorem Cont.blk_panic {id : Nat} {ch : List PanicEntry} (h : Cont C Q k (.panic ch) env L) : Cont C Q (.blk id :: k) (.panic ch) env L := ⟨h.ok⟩
theorem Cont.lp_panic {I : Nat → List AV → AHeap → Prop} {n : Nat} {ch : List PanicEntry} (h : Cont C Q k (.panic ch) env L) : Cont C Q (.lp I n :: k) (.panic ch) env L := ⟨h.ok⟩
theorem Cont.sc_panic {ch : List PanicEntry} (h : Cont C Q k (.panic ch) env L) : Cont C Q (.sc :: k) (.panic ch) env L := ⟨h.ok⟩
theorem Cont.op_panic {ops : Array Oper} {i : Nat} {ch : List PanicEntry} (h : Cont C Q k (.panic ch) env L) : Cont C Q (.op ops i :: k) (.panic ch) env L := ⟨h.ok⟩
end
end Go.Proofs.YtfohedaadncefaaDoor.HB
