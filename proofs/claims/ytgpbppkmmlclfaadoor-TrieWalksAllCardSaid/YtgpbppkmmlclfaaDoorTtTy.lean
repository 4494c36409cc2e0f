/- This seat's types, tables and library contracts. -/
import Derived.Test.YtgpbppkmmlclfaaDoorChecked
import Derived.Test.YtgpbppkmmlclfaaDoorHbZe
import Derived.Test.YtgpbppkmmlclfaaDoorHbZo
import Derived.KernelRfl
import Derived.Lib.Join
namespace Go.Proofs.YtgpbppkmmlclfaaDoor.HBT
open Go Go.Proofs.YtgpbppkmmlclfaaDoor.HB Go.RowKit
set_option maxRecDepth 100000

def T : TTab := fun t => match t with
  | 3 => some (.one (.int .i64) (.int .i64 0))
  | 4 => some (.one .bool (.bool false))
  | 5 => some (.one (.int .u8) (.int .u8 0))
  | 100 => some (.one (.int .u64) (.int .u64 0))
  | 9 => some (.one .string (.str ⟨#[]⟩))
  | 48 => some (.one (.int .i64) (.int .i64 0))
  | 22 => some (.slice 34 5 48 true [.int .i64 0, .int .i64 0, .str ⟨#[]⟩, .int .i64 0, .int .i64 0])
  | 34 => some (.agg [(0, 1, false), (1, 4, true)] [.int .i64 0, .int .i64 0, .str ⟨#[]⟩, .int .i64 0, .int .i64 0])
  | 24 => some (.agg [(0, 1, false), (1, 1, false), (2, 1, false), (3, 1, false)] [.int .i64 0, .str ⟨#[]⟩, .str ⟨#[]⟩, .int .i64 0])
  | 26 => some (.one (.pointer 72) .nilp)
  | 65 => some (.one (.pointer 69) .nilp)
  | 29 => some (.slice 37 2 16 true [.int .i64 0, .int .i64 0])
  | 37 => some (.agg [(0, 1, false), (1, 1, false)] [.int .i64 0, .int .i64 0])
  | 39 => some (.slice 44 3 32 true [.str ⟨#[]⟩, .int .i64 0, .int .i64 0])
  | 44 => some (.agg [(0, 1, false), (1, 2, true)] [.str ⟨#[]⟩, .int .i64 0, .int .i64 0])
  | 45 => some (.slice 32 4 40 true [.int .i64 0, .str ⟨#[]⟩, .int .i64 0, .int .i64 0])
  | 32 => some (.agg [(0, 1, false), (1, 1, false), (2, 1, false), (3, 1, false)] [.int .i64 0, .str ⟨#[]⟩, .int .i64 0, .int .i64 0])
  | 67 => some (.slice 74 5 48 true [.int .i64 0, .int .i64 0, .str ⟨#[]⟩, .int .i64 0, .int .i64 0])
  | 74 => some (.agg [(0, 1, false), (1, 4, true)] [.int .i64 0, .int .i64 0, .str ⟨#[]⟩, .int .i64 0, .int .i64 0])
  | 51 => some (.slice 9 1 16 false [.str ⟨#[]⟩])
  | 108 => some (.slice 3 1 8 false [.int .i64 0])
  | 66 => some (.one (.map 9 65) (.any (.map none)))
  | 70 => some (.one (.map 3 45) (.any (.map none)))
  | 69 => some (.agg [(0, 1, false), (1, 1, false)] [.any (.map none), .nils])
  | 72 => some (.agg [(0, 2, true), (2, 1, false)] [.any (.map none), .nils, .any (.map none)])
  | 110 => some (.arr 128 1 false (List.replicate 128 (.int .u8 0)))
  | _ => none

theorem T_ok : TOk Tryd.prog T := by
  intro t ti h
  unfold T at h
  split at h
  all_goals first | (cases h; done) | (cases h; kernel_rfl)

def E : TypeId → Option (List AV) := fun t => match t with
  | 32 => some [.int .i64 0, .str ⟨#[]⟩, .int .i64 0, .int .i64 0]
  | 37 => some [.int .i64 0, .int .i64 0]
  | _ => none
theorem E_ok : ∀ t ks, E t = some ks → eqOkP Tryd.prog t ks = true := by
  intro t ti h
  unfold E at h
  split at h
  all_goals first | (cases h; done) | (cases h; kernel_rfl)

def E2 : TypeId → Option (List AV) := fun t => match t with
  | 44 => some [.str ⟨#[]⟩, .int .i64 0, .int .i64 0]
  | _ => none
theorem E2_ok : ∀ t ks, E2 t = some ks → eqOk2 Tryd.prog t ks = true := by
  intro t ti h
  unfold E2 at h
  split at h
  all_goals first | (cases h; done) | (cases h; kernel_rfl)

def nameByte (c : Nat) : Bool := (decide (97 ≤ c) && decide (c ≤ 122)) || (decide (65 ≤ c) && decide (c ≤ 90)) || (decide (48 ≤ c) && decide (c ≤ 57)) || c == 95 || c == 45 || c == 46
def namedRow : List Int := (List.range 128).map fun i => if nameByte i then 1 else 0
def namedTab : List AV := namedRow.map (.int .u8)
def GT : Nat → Option (List AV) := fun g => match g with
  | 0 => some namedTab
  | _ => none
def G (imm : Nat → Prop) (w : World) : Prop :=
  imm 0 ∧ imm 1 ∧ (∃ t fr, w.heap[0]? = some (.cells (namedRow.map (Value.int .u8)).toArray t fr)) ∧ ∃ m t fr, w.heap[1]? = some (.cells #[.int .i64 m] t fr)

noncomputable abbrev C : Cx := ⟨Tryd.prog, T, E, GT, G, False⟩
noncomputable abbrev CD : Cx := ⟨Tryd.prog, T, E, GT, G, True⟩
theorem ints_VRs (imm : Nat → Prop) (w : World) : ∀ l : List Int, VRs imm w (l.map (AV.int .u8)) (l.map (Value.int .u8))
  | [] => .nil _ _
  | n :: l => .cons rfl (.int .u8 n) (ints_VRs imm w l)
theorem C_ok : C.Ok where
  types := T_ok
  eqs := E_ok
  mono := fun imm imm' w w' ⟨h0, h1, ⟨t, fr, h2⟩, m, t', fr', h3⟩ hi hc => ⟨hi _ h0, hi _ h1, ⟨t, fr, (hc 0 h0).trans h2⟩, m, t', fr', (hc 1 h1).trans h3⟩
  globs := fun imm w g cs ⟨h0, _, ⟨t, fr, h2⟩, _⟩ hg => by
    unfold C GT at hg
    dsimp only at hg
    split at hg
    · cases hg
      exact ⟨h0, _, t, fr, h2, ints_VRs imm w namedRow⟩
    · cases hg
  mixed := Tryd.checked.mixed
theorem Sc {P Q : Prop} (k : Q) (f : Q → P := by intro h; (first|refine Za ?_|refine Zb ?_|refine Zd rfl ?_|refine Ze ?_|refine Zf rfl ?_|refine Zg ?_|refine Zh rfl ?_|refine Zi ?_|refine Zj rfl ?_|refine Zk ?_|refine Zv C_ok ?_|refine Zy rfl ?_|refine Z2 rfl ?_|refine Z3 ?_|refine Zn rfl ?_|refine Zo rfl ?_); (repeat(first|refine Za ?_|refine Zb ?_|refine Zd rfl ?_|refine Ze ?_|refine Zf rfl ?_|refine Zg ?_|refine Zh rfl ?_|refine Zi ?_|refine Zj rfl ?_|refine Zk ?_|refine Zv C_ok ?_|refine Zy rfl ?_|refine Z2 rfl ?_|refine Z3 ?_|refine Zn rfl ?_|refine Zo rfl ?_)); exact h) : P := f k
theorem Sz {P Q : Prop} (k : Q) (f : Q → P := by intro h; (first|refine Za ?_|refine Zb ?_|refine Zd rfl ?_|refine Ze ?_|refine Zf rfl ?_|refine Zg ?_|refine Zh rfl ?_|refine Zi ?_|refine Zj rfl ?_|refine Zk ?_|refine Zw C_ok ?_|refine Zy rfl ?_|refine Z2 rfl ?_|refine Z3 ?_|refine Zn rfl ?_|refine Zo rfl ?_); (repeat(first|refine Za ?_|refine Zb ?_|refine Zd rfl ?_|refine Ze ?_|refine Zf rfl ?_|refine Zg ?_|refine Zh rfl ?_|refine Zi ?_|refine Zj rfl ?_|refine Zk ?_|refine Zw C_ok ?_|refine Zy rfl ?_|refine Z2 rfl ?_|refine Z3 ?_|refine Zn rfl ?_|refine Zo rfl ?_)); exact h) : P := f k
theorem CD_ok : CD.Ok := ⟨C_ok.types, C_ok.eqs, C_ok.mono, C_ok.globs, C_ok.mixed⟩

theorem hasPrefix_spec (s p : ByteArray) (L : AHeap) : FnSpec C 45 [.str s, .str p] L (fun r L' => r = .bool (Lib.hasPrefix s.data.toList p.data.toList) ∧ L' = L) :=
  FnSpec.of_same Tryd.func45 rfl rfl rfl fun imm w vs _ _ hl hv => by
    obtain ⟨u, v, rfl, hu, hv'⟩ := two_vals hl hv
    rw [hu.str_inv, hv'.str_inv]
    exact ⟨_, .bool _, Tryd.strings_HasPrefix s p w⟩

def pieces (s : ByteArray) : List ByteArray := Lib.splitB ⟨#[47]⟩ 0 (Lib.countB s ⟨#[47]⟩) s
theorem split_spec (s : ByteArray) (hs : s.size < 4294967281) : FnSpec C 46 [.str s, .str ⟨#[47]⟩] [] (fun r L' => ∃ g, r = .sl 0 g (pieces s).length (pieces s).length ∧ L' = [(g, .row 9 1 (pieces s).length ((pieces s).map .str))]) := by
  have hlen := Lib.splitB_all ⟨#[47]⟩ (by decide) 0 _ s rfl
  have hle := Lib.countB_le ⟨#[47]⟩ (by decide) s.size s (Nat.le_refl _)
  refine FnSpec.of_row (us := (pieces s).map .string) Tryd.func46 rfl rfl (fun imm w => strs_VRs imm w _) (fun x hx => ?_) (strs_flats _) (by simp) ?_ fun imm w vs hG hl hv => ?_
  · simp only [List.mem_map] at hx
    obtain ⟨y, _, rfl⟩ := hx
    rfl
  · unfold pieces; rw [hlen]; unfold maxLen; omega
  · obtain ⟨u, v, rfl, hu, hv'⟩ := two_vals hl hv
    rw [hu.str_inv, hv'.str_inv]
    obtain ⟨_, _, _, m, t, fr, hm⟩ := hG
    have := Tryd.strings_Split s ⟨#[47]⟩ m w hs (by rw [cell_of_row w 1 0 _ t fr hm]; rfl) (by decide)
    unfold pieces
    rw [hlen]
    exact this

end Go.Proofs.YtgpbppkmmlclfaaDoor.HBT
