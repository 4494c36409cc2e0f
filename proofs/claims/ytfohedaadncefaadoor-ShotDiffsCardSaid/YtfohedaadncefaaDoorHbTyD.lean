/- This seat's types, tables and library contracts. -/
import Derived.Test.YtfohedaadncefaaDoorChecked
import Derived.Test.YtfohedaadncefaaDoorHbQ
import Derived.Test.YtfohedaadncefaaDoorShelf
import Derived.KernelRfl
namespace Go.Proofs.YtfohedaadncefaaDoor.HBT
open Go Go.Proofs.YtfohedaadncefaaDoor.HB Go.RowKit
set_option maxRecDepth 100000

def T : TTab := fun t => match t with
  | 3 => some (.one (.int .i64) (.int .i64 0))
  | 4 => some (.one .bool (.bool false))
  | 5 => some (.one (.int .u8) (.int .u8 0))
  | 9 => some (.one .string (.str ⟨#[]⟩))
  | 22 => some (.slice 50 3 40 true [.str ⟨#[]⟩, .str ⟨#[]⟩, .int .i64 0])
  | 24 => some (.agg [(0, 1, false), (1, 1, false), (2, 1, false), (3, 1, false)] [.int .i64 0, .str ⟨#[]⟩, .int .i64 0, .nils])
  | 29 => some (.one (.int .i64) (.int .i64 0))
  | 31 => some (.slice 5 1 1 false [.int .u8 0])
  | 35 => some (.slice 69 4 48 true [.int .i64 0, .str ⟨#[]⟩, .str ⟨#[]⟩, .int .i64 0])
  | 50 => some (.agg [(0, 1, false), (1, 1, false), (2, 1, false)] [.str ⟨#[]⟩, .str ⟨#[]⟩, .int .i64 0])
  | 61 => some (.agg [(0, 1, false)] [.nils])
  | 77 => some (.agg [(0, 1, false), (1, 1, false)] [.nils, .int .i64 0])
  | 82 => some (.agg [(0, 1, false), (1, 1, false), (2, 1, false)] [.nils, .int .i64 0, .bool false])
  | 106 => some (.slice 35 1 24 false [.nils])
  | 69 => some (.agg [(0, 1, false), (1, 1, false), (2, 1, false), (3, 1, false)] [.int .i64 0, .str ⟨#[]⟩, .str ⟨#[]⟩, .int .i64 0])
  | 92 => some (.slice 9 1 16 false [.str ⟨#[]⟩])
  | 131 => some (.one (.int .u64) (.int .u64 0))
  | 138 => some (.arr 128 1 false (List.replicate 128 (.int .u8 0)))
  | _ => none

theorem T_ok : TOk Tryd.prog T := by
  intro t ti h
  unfold T at h
  split at h
  all_goals first | (cases h; done) | (cases h; kernel_rfl)

def E : TypeId → Option (List AV) := fun t => match t with
  | 50 => some [.str ⟨#[]⟩, .str ⟨#[]⟩, .int .i64 0]
  | 69 => some [.int .i64 0, .str ⟨#[]⟩, .str ⟨#[]⟩, .int .i64 0]
  | _ => none
theorem E_ok : ∀ t ks, E t = some ks → eqOkP Tryd.prog t ks = true := by
  intro t ti h
  unfold E at h
  split at h
  all_goals first | (cases h; done) | (cases h; kernel_rfl)

/-- May the byte stand in a name? -/
def nameByte (c : Nat) : Bool := (decide (97 ≤ c) && decide (c ≤ 122)) || (decide (65 ≤ c) && decide (c ≤ 90)) || (decide (48 ≤ c) && decide (c ≤ 57)) || c == 95 || c == 45 || c == 46
def namedRow : List Int := (List.range 128).map fun i => if nameByte i then 1 else 0
def namedTab : List AV := namedRow.map (.int .u8)
def GT : Nat → Option (List AV) := fun g => match g with
  | 0 => some namedTab
  | _ => none
/-- What every world of the call has: the table of names, and the library's own number. -/
def G (imm : Nat → Prop) (w : World) : Prop :=
  imm 0 ∧ imm 1 ∧ (∃ t fr, w.heap[0]? = some (.cells (namedRow.map (Value.int .u8)).toArray t fr)) ∧ ∃ m t fr, w.heap[1]? = some (.cells #[.int .i64 m] t fr)

noncomputable abbrev C : Cx := ⟨Tryd.prog, T, E, GT, G⟩
theorem ints_VRs (imm : Nat → Prop) (w : World) : ∀ l : List Int, VRs imm w (l.map (AV.int .u8)) (l.map (Value.int .u8))
  | [] => .nil _ _
  | n :: l => .cons rfl (.int .u8 n) (ints_VRs imm w l)
theorem C_ok : C.Ok where
  types := T_ok
  eqs := E_ok
  mono := fun imm imm' w w' ⟨h0, h1, ⟨t, fr, h2⟩, m, t', fr', h3⟩ hi hc => ⟨hi _ h0, hi _ h1, ⟨t, fr, (hc 0 h0).trans h2⟩, m, t', fr', (hc 1 h1).trans h3⟩
  globs := fun imm w g cs ⟨h0, _, ⟨t, fr, h2⟩, _⟩ hg => by
    unfold C GT at hg
    dsimp only at hg
    split at hg
    · cases hg
      exact ⟨h0, _, t, fr, h2, ints_VRs imm w namedRow⟩
    · cases hg
  mixed := Tryd.checked.mixed

theorem hasPrefix_spec (s p : ByteArray) (L : AHeap) : FnSpec C 82 [.str s, .str p] L (fun r L' => r = .bool (Lib.hasPrefix s.data.toList p.data.toList) ∧ L' = L) :=
  FnSpec.of_same Tryd.func82 rfl rfl rfl fun imm w vs _ _ hl hv => by
    obtain ⟨u, v, rfl, hu, hv'⟩ := two_vals hl hv
    rw [hu.str_inv, hv'.str_inv]
    exact ⟨_, .bool _, Tryd.strings_HasPrefix s p w⟩

/-- The pieces between slashes. -/
def pieces (s : ByteArray) : List ByteArray := Lib.splitB ⟨#[47]⟩ 0 (Lib.countB s ⟨#[47]⟩) s
theorem split_spec (s : ByteArray) (hs : s.size < 4294967281) : FnSpec C 83 [.str s, .str ⟨#[47]⟩] [] (fun r L' => ∃ g, r = .sl 0 g (pieces s).length (pieces s).length ∧ L' = [(g, .row 9 1 (pieces s).length ((pieces s).map .str))]) := by
  have hlen := Lib.splitB_all ⟨#[47]⟩ (by decide) 0 _ s rfl
  have hle := Lib.countB_le ⟨#[47]⟩ (by decide) s.size s (Nat.le_refl _)
  refine FnSpec.of_row (us := (pieces s).map .string) Tryd.func83 rfl rfl (fun imm w => strs_VRs imm w _) (fun x hx => ?_) (strs_flats _) (by simp) ?_ fun imm w vs hG hl hv => ?_
  · simp only [List.mem_map] at hx
    obtain ⟨y, _, rfl⟩ := hx
    rfl
  · unfold pieces; rw [hlen]; unfold maxLen; omega
  · obtain ⟨u, v, rfl, hu, hv'⟩ := two_vals hl hv
    rw [hu.str_inv, hv'.str_inv]
    obtain ⟨_, _, _, m, t, fr, hm⟩ := hG
    have := Tryd.strings_Split s ⟨#[47]⟩ m w hs (by rw [cell_of_row w 1 0 _ t fr hm]; rfl) (by decide)
    unfold pieces
    rw [hlen]
    exact this

theorem join_spec (g Cp : Nat) (xs : List ByteArray) (n : Nat) (hn : n ≤ xs.length) (h100 : xs.length ≤ 1000) (hsz : (Lib.join ((xs.take n).map (·.data.toList)) [47]).length ≤ 140737488355328) :
    FnSpec C 100 [.sl 0 g Cp n, .str ⟨#[47]⟩] [(g, .row 9 1 Cp (xs.map .str))] (fun r L' => r = .str ⟨(Lib.join ((xs.take n).map (·.data.toList)) [47]).toArray⟩ ∧ L' = [(g, .row 9 1 Cp (xs.map .str))]) :=
  FnSpec.of_below Tryd.func100 rfl rfl rfl fun imm w vs hG hs hl hv => by
    obtain ⟨u, v, rfl, hu, hv'⟩ := two_vals hl hv
    rw [hv'.str_inv]
    generalize hA : AV.sl 0 g Cp n = A at hu
    cases hu <;> cases hA
    by_cases h0 : n = 0
    · subst h0
      exact ⟨_, .str _, (Tryd.strings_Join_none (some ⟨g, 0, none⟩) Cp ⟨#[47]⟩ w).mono fun e w' ⟨he, hw⟩ => ⟨he, hw ▸ Below.refl _ _⟩⟩
    · have hh := hs.holds 0 g _ rfl trivial
      cases hh with
      | row _ _ _ _ us spare hg hs0 hsz' hC hm hx hvs =>
        rw [strs_flats] at hvs
        have hlt := hs.lt g ⟨0, _, rfl, trivial⟩
        have hcells : ∀ (j : Nat) x, (xs.take n)[j]? = some x → w.cell? ⟨g, 0 + j, none⟩ = some (.string x) := fun j x hj => by
          rw [List.getElem?_take] at hj
          split at hj
          case isFalse => cases hj
          obtain ⟨u, hu, _, hvu⟩ := hvs.get (j := j) (y := .str x) (by rw [List.getElem?_map, hj]; rfl)
          have := cell_at hg 0 j u (by rw [List.drop_zero, List.getElem?_append_left (List.getElem?_eq_some_iff.1 hu).1]; exact hu)
          rw [hvu.str_inv] at this
          have e : (⟨g, 0, none⟩ : Addr).add j = ⟨g, 0 + j, none⟩ := by unfold Addr.add; split <;> simp_all
          rw [← e]; exact this
        have htl : (xs.take n).length = n := by simp; omega
        have hxl : xs.length ≤ Cp := by simpa using hx
        have := Tryd.strings_Join g 0 Cp (xs.take n) ⟨#[47]⟩ w hcells hlt (by omega) (by omega) hsz
        rw [htl] at this
        exact ⟨_, .str _, this⟩

end Go.Proofs.YtfohedaadncefaaDoor.HBT
