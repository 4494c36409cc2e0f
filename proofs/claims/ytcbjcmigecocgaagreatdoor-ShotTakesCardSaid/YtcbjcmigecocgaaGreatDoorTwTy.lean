/- This seat's types, tables and library contracts. -/
import Derived.Test.YtcbjcmigecocgaaGreatDoorChecked
import Derived.Test.YtcbjcmigecocgaaGreatDoorHbZe
import Derived.KernelRfl
namespace Go.Proofs.YtcbjcmigecocgaaGreatDoor.HBT
open Go Go.Proofs.YtcbjcmigecocgaaGreatDoor.HB Go.RowKit
set_option maxRecDepth 100000

def T : TTab := fun t => match t with
  | 3 => some (.one (.int .i64) (.int .i64 0))
  | 4 => some (.one .bool (.bool false))
  | 5 => some (.one (.int .u8) (.int .u8 0))
  | 9 => some (.one .string (.str ⟨#[]⟩))
  | 32 => some (.one (.int .i64) (.int .i64 0))
  | 69 => some (.slice 63 7 72 true [.str ⟨#[]⟩, .str ⟨#[]⟩, .int .i64 0, .int .i64 0, .int .i64 0, .int .i64 0, .int .i64 0])
  | 42 => some (.slice 79 5 56 true [.int .i64 0, .str ⟨#[]⟩, .str ⟨#[]⟩, .int .i64 0, .int .i64 0])
  | 49 => some (.slice 82 7 88 true [.str ⟨#[]⟩, .str ⟨#[]⟩, .int .i64 0, .int .i64 0, .int .i64 0, .int .i64 0, .nils])
  | 51 => some (.agg [(0, 1, false), (1, 1, false), (2, 1, false), (3, 1, false)] [.int .i64 0, .int .i64 0, .int .i64 0, .nils])
  | 45 => some (.slice 72 4 48 true [.int .i64 0, .str ⟨#[]⟩, .str ⟨#[]⟩, .int .i64 0])
  | 29 => some (.slice 91 3 40 true [.str ⟨#[]⟩, .str ⟨#[]⟩, .int .i64 0])
  | 80 => some (.slice 9 1 16 false [.str ⟨#[]⟩])
  | 63 => some (.agg [(0, 1, false), (1, 1, false), (2, 1, false), (3, 1, false), (4, 1, false), (5, 1, false), (6, 1, false)] [.str ⟨#[]⟩, .str ⟨#[]⟩, .int .i64 0, .int .i64 0, .int .i64 0, .int .i64 0, .int .i64 0])
  | 91 => some (.agg [(0, 1, false), (1, 1, false), (2, 1, false)] [.str ⟨#[]⟩, .str ⟨#[]⟩, .int .i64 0])
  | 24 => some (.slice 67 7 72 true [.str ⟨#[]⟩, .str ⟨#[]⟩, .int .i64 0, .int .i64 0, .int .i64 0, .int .i64 0, .int .i64 0])
  | 67 => some (.agg [(0, 1, false), (1, 1, false), (2, 1, false), (3, 1, false), (4, 1, false), (5, 1, false), (6, 1, false)] [.str ⟨#[]⟩, .str ⟨#[]⟩, .int .i64 0, .int .i64 0, .int .i64 0, .int .i64 0, .int .i64 0])
  | 26 => some (.agg [(0, 1, false)] [.nils])
  | 64 => some (.one (.map 9 63) (.any (.map none)))
  | 66 => some (.agg [(0, 1, false)] [.any (.map none)])
  | 77 => some (.agg [(0, 1, false), (1, 1, false), (2, 1, false), (3, 1, false)] [.any (.map none), .int .i64 0, .int .i64 0, .nils])
  | 79 => some (.agg [(0, 1, false), (1, 1, false), (2, 1, false), (3, 1, false), (4, 1, false)] [.int .i64 0, .str ⟨#[]⟩, .str ⟨#[]⟩, .int .i64 0, .int .i64 0])
  | 82 => some (.agg [(0, 1, false), (1, 1, false), (2, 1, false), (3, 1, false), (4, 1, false), (5, 1, false), (6, 1, false)] [.str ⟨#[]⟩, .str ⟨#[]⟩, .int .i64 0, .int .i64 0, .int .i64 0, .int .i64 0, .nils])
  | 72 => some (.agg [(0, 1, false), (1, 1, false), (2, 1, false), (3, 1, false)] [.int .i64 0, .str ⟨#[]⟩, .str ⟨#[]⟩, .int .i64 0])
  | 100 => some (.agg [(0, 1, false), (1, 1, false), (2, 1, false)] [.bool false, .bool false, .bool false])
  | 22 => some (.slice 44 3 40 true [.int .i64 0, .bool false, .nils])
  | 44 => some (.agg [(0, 1, false), (1, 1, false), (2, 1, false)] [.int .i64 0, .bool false, .nils])
  | 31 => some (.agg [(0, 1, false), (1, 1, false), (2, 1, false), (3, 1, false)] [.int .i64 0, .str ⟨#[]⟩, .int .i64 0, .nils])
  | 134 => some (.slice 5 1 1 false [.int .u8 0])
  | 126 => some (.arr 128 1 false (List.replicate 128 (.int .u8 0)))
  | _ => none

theorem T_ok : TOk Tryz.prog T := by
  intro t ti h
  unfold T at h
  split at h
  all_goals first | (cases h; done) | (cases h; kernel_rfl)

def E : TypeId → Option (List AV) := fun t => match t with
  | 63 => some [.str ⟨#[]⟩, .str ⟨#[]⟩, .int .i64 0, .int .i64 0, .int .i64 0, .int .i64 0, .int .i64 0]
  | 79 => some [.int .i64 0, .str ⟨#[]⟩, .str ⟨#[]⟩, .int .i64 0, .int .i64 0]
  | 72 => some [.int .i64 0, .str ⟨#[]⟩, .str ⟨#[]⟩, .int .i64 0]
  | 91 => some [.str ⟨#[]⟩, .str ⟨#[]⟩, .int .i64 0]
  | _ => none
theorem E_ok : ∀ t ks, E t = some ks → eqOkP Tryz.prog t ks = true := by
  intro t ti h
  unfold E at h
  split at h
  all_goals first | (cases h; done) | (cases h; kernel_rfl)

def nameByte (c : Nat) : Bool := (decide (97 ≤ c) && decide (c ≤ 122)) || (decide (65 ≤ c) && decide (c ≤ 90)) || (decide (48 ≤ c) && decide (c ≤ 57)) || c == 95 || c == 45 || c == 46
def namedRow : List Int := (List.range 128).map fun i => if nameByte i then 1 else 0
def namedTab : List AV := namedRow.map (.int .u8)
def GT : Nat → Option (List AV) := fun g => match g with
  | 0 => some namedTab
  | _ => none
def G (imm : Nat → Prop) (w : World) : Prop :=
  imm 0 ∧ imm 1 ∧ (∃ t fr, w.heap[0]? = some (.cells (namedRow.map (Value.int .u8)).toArray t fr)) ∧ (∃ m t fr, w.heap[1]? = some (.cells #[.int .i64 m] t fr)) ∧
  imm 4 ∧ ∃ t fr, w.heap[4]? = some (.cells (Lib.pow10Tab.map (Value.int .u64)).toArray t fr)

noncomputable abbrev C : Cx := ⟨Tryz.prog, T, E, GT, G, False⟩
noncomputable abbrev CD : Cx := ⟨Tryz.prog, T, E, GT, G, True⟩
theorem ints_VRs (imm : Nat → Prop) (w : World) : ∀ l : List Int, VRs imm w (l.map (AV.int .u8)) (l.map (Value.int .u8))
  | [] => .nil _ _
  | n :: l => .cons rfl (.int .u8 n) (ints_VRs imm w l)
theorem C_ok : C.Ok where
  types := T_ok
  eqs := E_ok
  mono := fun imm imm' w w' ⟨h0, h1, ⟨t, fr, h2⟩, ⟨m, t', fr', h3⟩, h4, t2, fr2, h5⟩ hi hc => ⟨hi _ h0, hi _ h1, ⟨t, fr, (hc 0 h0).trans h2⟩, ⟨m, t', fr', (hc 1 h1).trans h3⟩, hi _ h4, t2, fr2, (hc _ h4).trans h5⟩
  globs := fun imm w g cs ⟨h0, _, ⟨t, fr, h2⟩, _⟩ hg => by
    unfold C GT at hg
    dsimp only at hg
    split at hg
    · cases hg
      exact ⟨h0, _, t, fr, h2, ints_VRs imm w namedRow⟩
    · cases hg
  mixed := Tryz.checked.mixed
theorem Sc {P Q : Prop} (k : Q) (f : Q → P := by intro h; (first|refine Za ?_|refine Zb ?_|refine Zd rfl ?_|refine Ze ?_|refine Zf rfl ?_|refine Zg ?_|refine Zh rfl ?_|refine Zi ?_|refine Zj rfl ?_|refine Zk ?_|refine Zv C_ok ?_|refine Zy rfl ?_|refine Z2 rfl ?_|refine Z3 ?_|refine Zn rfl ?_|refine Zo rfl ?_); (repeat(first|refine Za ?_|refine Zb ?_|refine Zd rfl ?_|refine Ze ?_|refine Zf rfl ?_|refine Zg ?_|refine Zh rfl ?_|refine Zi ?_|refine Zj rfl ?_|refine Zk ?_|refine Zv C_ok ?_|refine Zy rfl ?_|refine Z2 rfl ?_|refine Z3 ?_|refine Zn rfl ?_|refine Zo rfl ?_)); exact h) : P := f k
theorem Sz {P Q : Prop} (k : Q) (f : Q → P := by intro h; (first|refine Za ?_|refine Zb ?_|refine Zd rfl ?_|refine Ze ?_|refine Zf rfl ?_|refine Zg ?_|refine Zh rfl ?_|refine Zi ?_|refine Zj rfl ?_|refine Zk ?_|refine Zw C_ok ?_|refine Zy rfl ?_|refine Z2 rfl ?_|refine Z3 ?_|refine Zn rfl ?_|refine Zo rfl ?_); (repeat(first|refine Za ?_|refine Zb ?_|refine Zd rfl ?_|refine Ze ?_|refine Zf rfl ?_|refine Zg ?_|refine Zh rfl ?_|refine Zi ?_|refine Zj rfl ?_|refine Zk ?_|refine Zw C_ok ?_|refine Zy rfl ?_|refine Z2 rfl ?_|refine Z3 ?_|refine Zn rfl ?_|refine Zo rfl ?_)); exact h) : P := f k
theorem CD_ok : CD.Ok := ⟨C_ok.types, C_ok.eqs, C_ok.mono, C_ok.globs, C_ok.mixed⟩

theorem hasPrefix_spec (s p : ByteArray) (L : AHeap) : FnSpec C 49 [.str s, .str p] L (fun r L' => r = .bool (Lib.hasPrefix s.data.toList p.data.toList) ∧ L' = L) :=
  FnSpec.of_same Tryz.func49 rfl rfl rfl fun imm w vs _ _ hl hv => by
    obtain ⟨u, v, rfl, hu, hv'⟩ := two_vals hl hv
    rw [hu.str_inv, hv'.str_inv]
    exact ⟨_, .bool _, Tryz.strings_HasPrefix s p w⟩

def pieces (s : ByteArray) : List ByteArray := Lib.splitB ⟨#[47]⟩ 0 (Lib.countB s ⟨#[47]⟩) s
theorem split_spec (s : ByteArray) (hs : s.size < 4294967281) : FnSpec C 50 [.str s, .str ⟨#[47]⟩] [] (fun r L' => ∃ g, r = .sl 0 g (pieces s).length (pieces s).length ∧ L' = [(g, .row 9 1 (pieces s).length ((pieces s).map .str))]) := by
  have hlen := Lib.splitB_all ⟨#[47]⟩ (by decide) 0 _ s rfl
  have hle := Lib.countB_le ⟨#[47]⟩ (by decide) s.size s (Nat.le_refl _)
  refine FnSpec.of_row (us := (pieces s).map .string) Tryz.func50 rfl rfl (fun imm w => strs_VRs imm w _) (fun x hx => ?_) (strs_flats _) (by simp) ?_ fun imm w vs hG hl hv => ?_
  · simp only [List.mem_map] at hx
    obtain ⟨y, _, rfl⟩ := hx
    rfl
  · unfold pieces; rw [hlen]; unfold maxLen; omega
  · obtain ⟨u, v, rfl, hu, hv'⟩ := two_vals hl hv
    rw [hu.str_inv, hv'.str_inv]
    obtain ⟨_, _, _, ⟨m, t, fr, hm⟩, _⟩ := hG
    have := Tryz.strings_Split s ⟨#[47]⟩ m w hs (by rw [cell_of_row w 1 0 _ t fr hm]; rfl) (by decide)
    unfold pieces
    rw [hlen]
    exact this

theorem join_spec (g Cp : Nat) (xs : List ByteArray) (n : Nat) (hn : n ≤ xs.length) (h100 : xs.length ≤ 1000) (hsz : (Lib.join ((xs.take n).map (·.data.toList)) [47]).length ≤ 140737488355328) :
    FnSpec C 89 [.sl 0 g Cp n, .str ⟨#[47]⟩] [(g, .row 9 1 Cp (xs.map .str))] (fun r L' => r = .str ⟨(Lib.join ((xs.take n).map (·.data.toList)) [47]).toArray⟩ ∧ L' = [(g, .row 9 1 Cp (xs.map .str))]) :=
  FnSpec.of_below Tryz.func89 rfl rfl rfl fun imm w vs hG hs hl hv => by
    obtain ⟨u, v, rfl, hu, hv'⟩ := two_vals hl hv
    rw [hv'.str_inv]
    generalize hA : AV.sl 0 g Cp n = A at hu
    cases hu <;> cases hA
    by_cases h0 : n = 0
    · subst h0
      exact ⟨_, .str _, (Tryz.strings_Join_none (some ⟨g, 0, none⟩) Cp ⟨#[47]⟩ w).mono fun e w' ⟨he, hw⟩ => ⟨he, hw ▸ Below.refl _ _⟩⟩
    · have hh := hs.holds 0 g _ rfl trivial
      cases hh with
      | row _ _ _ _ us spare hg hs0 hsz' hC hm hx hvs =>
        rw [strs_flats] at hvs
        have hlt := hs.lt g ⟨0, _, _, rfl, rfl⟩
        have hcells : ∀ (j : Nat) x, (xs.take n)[j]? = some x → w.cell? ⟨g, 0 + j, none⟩ = some (.string x) := fun j x hj => by
          rw [List.getElem?_take] at hj
          split at hj
          case isFalse => cases hj
          obtain ⟨u, hu, _, hvu⟩ := hvs.get (j := j) (y := .str x) (by rw [List.getElem?_map, hj]; rfl)
          have := cell_at hg 0 j u (by rw [List.drop_zero, List.getElem?_append_left (List.getElem?_eq_some_iff.1 hu).1]; exact hu)
          rw [hvu.str_inv] at this
          have e : (⟨g, 0, none⟩ : Addr).add j = ⟨g, 0 + j, none⟩ := by unfold Addr.add; split <;> simp_all
          rw [← e]; exact this
        have htl : (xs.take n).length = n := by simp; omega
        have hxl : xs.length ≤ Cp := by simpa using hx
        have := Tryz.strings_Join g 0 Cp (xs.take n) ⟨#[47]⟩ w hcells hlt (by omega) (by omega) hsz
        rw [htl] at this
        exact ⟨_, .str _, this⟩

theorem clone_spec (g : Nat) (es : Array MapEntry) (clock : Nat) : FnSpec C 25 [.any (.map (some g))] [(g, .obj (.map es clock))]
    (fun r L' => ∃ g', r = .any (.map (some g')) ∧ L' = [(g, .obj (.map es clock)), (g', .obj (.map es clock))]) := by
  refine ⟨⟨_, Tryz.func25, rfl, rfl⟩, fun imm w vs hG hs hl hv => ?_⟩
  obtain ⟨v, rfl⟩ : ∃ v, vs = [v] := by
    match vs, hl with
    | [v], _ => exact ⟨v, rfl⟩
  have h0 := hv 0 _ v rfl rfl
  cases h0
  have hg := map_get hs (k := 0) (g := g) rfl
  have hcon := AnyW.maps_Clone Tryz.cloneFull g es clock w hg
  change Calls Tryz.prog 25 _ _ _ at hcon
  refine hcon.mono ?_
  rintro e w' ⟨rfl, rfl⟩
  exact ⟨_, .any (.map (some w.heap.size)), [(g, .obj (.map es clock)), (w.heap.size, .obj (.map es clock))], imm, rfl, .any _, hs.new (by simp) (fun i hi => (World.grownBy_alloc w _ none).block i hi (by simp)) (.obj _ (MapKept.heap_alloc w _).1), Tr.alloc _ _, _, rfl, rfl⟩

end Go.Proofs.YtcbjcmigecocgaaGreatDoor.HBT
