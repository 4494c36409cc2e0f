/- This seat's types, tables and library contracts. -/
import Derived.Test.YtiikjcdjgmlcgaaGreatDoorChecked
import Derived.Test.YtiikjcdjgmlcgaaGreatDoorHbZc
import Derived.Test.YtiikjcdjgmlcgaaGreatDoorShelf
import Derived.KernelRfl
namespace Go.Proofs.YtiikjcdjgmlcgaaGreatDoor.HBT
open Go Go.Proofs.YtiikjcdjgmlcgaaGreatDoor.HB Go.RowKit
set_option maxRecDepth 100000

def T : TTab := fun t => match t with
  | 3 => some (.one (.int .i64) (.int .i64 0))
  | 4 => some (.one .bool (.bool false))
  | 5 => some (.one (.int .u8) (.int .u8 0))
  | 9 => some (.one .string (.str ⟨#[]⟩))
  | 25 => some (.one (.int .i64) (.int .i64 0))
  | 28 => some (.slice 58 7 72 true [.str ⟨#[]⟩, .str ⟨#[]⟩, .int .i64 0, .int .i64 0, .int .i64 0, .int .i64 0, .int .i64 0])
  | 22 => some (.slice 33 6 72 true [.int .i64 0, .int .i64 0, .int .i64 0, .nils, .str ⟨#[]⟩, .int .i64 0])
  | 107 => some (.slice 110 11 256 true [.nils, .nils, .nils, .nils, .nils, .nils, .nils, .nils, .nils, .nils, .str ⟨#[]⟩])
  | 108 => some (.slice 54 1 24 false [.nils])
  | 110 => some (.agg [(0, 1, false), (1, 1, false), (2, 1, false), (3, 1, false), (4, 1, false), (5, 1, false), (6, 1, false), (7, 1, false), (8, 1, false), (9, 1, false), (10, 1, false)] [.nils, .nils, .nils, .nils, .nils, .nils, .nils, .nils, .nils, .nils, .str ⟨#[]⟩])
  | 113 => some (.slice 115 14 240 true [.int .i64 0, .int .i64 0, .int .i64 0, .nils, .int .i64 0, .int .i64 0, .int .i64 0, .nils, .nils, .nils, .nils, .nils, .nils, .nils])
  | 115 => some (.agg [(0, 4, true), (4, 4, true), (8, 1, false), (9, 1, false), (10, 1, false), (11, 1, false), (12, 1, false), (13, 1, false)] [.int .i64 0, .int .i64 0, .int .i64 0, .nils, .int .i64 0, .int .i64 0, .int .i64 0, .nils, .nils, .nils, .nils, .nils, .nils, .nils])
  | 31 => some (.slice 93 5 56 true [.int .i64 0, .str ⟨#[]⟩, .str ⟨#[]⟩, .int .i64 0, .int .i64 0])
  | 33 => some (.agg [(0, 1, false), (1, 1, false), (2, 1, false), (3, 1, false), (4, 1, false), (5, 1, false)] [.int .i64 0, .int .i64 0, .int .i64 0, .nils, .str ⟨#[]⟩, .int .i64 0])
  | 34 => some (.slice 95 7 88 true [.str ⟨#[]⟩, .str ⟨#[]⟩, .int .i64 0, .int .i64 0, .int .i64 0, .int .i64 0, .nils])
  | 36 => some (.agg [(0, 1, false), (1, 1, false), (2, 1, false), (3, 1, false)] [.int .i64 0, .int .i64 0, .int .i64 0, .nils])
  | 37 => some (.slice 100 4 48 true [.int .i64 0, .str ⟨#[]⟩, .str ⟨#[]⟩, .int .i64 0])
  | 46 => some (.slice 63 3 40 true [.str ⟨#[]⟩, .str ⟨#[]⟩, .int .i64 0])
  | 54 => some (.slice 9 1 16 false [.str ⟨#[]⟩])
  | 58 => some (.agg [(0, 1, false), (1, 1, false), (2, 1, false), (3, 1, false), (4, 1, false), (5, 1, false), (6, 1, false)] [.str ⟨#[]⟩, .str ⟨#[]⟩, .int .i64 0, .int .i64 0, .int .i64 0, .int .i64 0, .int .i64 0])
  | 63 => some (.agg [(0, 1, false), (1, 1, false), (2, 1, false)] [.str ⟨#[]⟩, .str ⟨#[]⟩, .int .i64 0])
  | 65 => some (.slice 66 7 72 true [.str ⟨#[]⟩, .str ⟨#[]⟩, .int .i64 0, .int .i64 0, .int .i64 0, .int .i64 0, .int .i64 0])
  | 66 => some (.agg [(0, 1, false), (1, 1, false), (2, 1, false), (3, 1, false), (4, 1, false), (5, 1, false), (6, 1, false)] [.str ⟨#[]⟩, .str ⟨#[]⟩, .int .i64 0, .int .i64 0, .int .i64 0, .int .i64 0, .int .i64 0])
  | 68 => some (.agg [(0, 1, false)] [.nils])
  | 75 => some (.agg [(0, 1, false)] [.nils])
  | 80 => some (.one (.map 9 58) (.any (.map none)))
  | 82 => some (.agg [(0, 1, false)] [.any (.map none)])
  | 91 => some (.agg [(0, 1, false), (1, 1, false), (2, 1, false), (3, 1, false)] [.any (.map none), .int .i64 0, .int .i64 0, .nils])
  | 93 => some (.agg [(0, 1, false), (1, 1, false), (2, 1, false), (3, 1, false), (4, 1, false)] [.int .i64 0, .str ⟨#[]⟩, .str ⟨#[]⟩, .int .i64 0, .int .i64 0])
  | 95 => some (.agg [(0, 1, false), (1, 1, false), (2, 1, false), (3, 1, false), (4, 1, false), (5, 1, false), (6, 1, false)] [.str ⟨#[]⟩, .str ⟨#[]⟩, .int .i64 0, .int .i64 0, .int .i64 0, .int .i64 0, .nils])
  | 100 => some (.agg [(0, 1, false), (1, 1, false), (2, 1, false), (3, 1, false)] [.int .i64 0, .str ⟨#[]⟩, .str ⟨#[]⟩, .int .i64 0])
  | 135 => some (.agg [(0, 1, false), (1, 1, false), (2, 1, false)] [.bool false, .bool false, .bool false])
  | 102 => some (.slice 5 1 1 false [.int .u8 0])
  | 129 => some (.slice 3 1 8 false [.int .i64 0])
  | 142 => some (.arr 128 1 false (List.replicate 128 (.int .u8 0)))
  | _ => none

theorem T_ok : TOk Tryz.prog T := by
  intro t ti h
  unfold T at h
  split at h
  all_goals first | (cases h; done) | (cases h; kernel_rfl)

def E : TypeId → Option (List AV) := fun t => match t with
  | 58 => some [.str ⟨#[]⟩, .str ⟨#[]⟩, .int .i64 0, .int .i64 0, .int .i64 0, .int .i64 0, .int .i64 0]
  | 93 => some [.int .i64 0, .str ⟨#[]⟩, .str ⟨#[]⟩, .int .i64 0, .int .i64 0]
  | 100 => some [.int .i64 0, .str ⟨#[]⟩, .str ⟨#[]⟩, .int .i64 0]
  | 63 => some [.str ⟨#[]⟩, .str ⟨#[]⟩, .int .i64 0]
  | _ => none
theorem E_ok : ∀ t ks, E t = some ks → eqOkP Tryz.prog t ks = true := by
  intro t ti h
  unfold E at h
  split at h
  all_goals first | (cases h; done) | (cases h; kernel_rfl)

/-- May the byte stand in a name? -/
def nameByte (c : Nat) : Bool := (decide (97 ≤ c) && decide (c ≤ 122)) || (decide (65 ≤ c) && decide (c ≤ 90)) || (decide (48 ≤ c) && decide (c ≤ 57)) || c == 95 || c == 45 || c == 46
def namedRow : List Int := (List.range 128).map fun i => if nameByte i then 1 else 0
def namedTab : List AV := namedRow.map (.int .u8)
def GT : Nat → Option (List AV) := fun g => match g with
  | 0 => some namedTab
  | _ => none
/-- What every world of the call has: the table of names, the library's own number, its table of powers of ten. -/
def G (imm : Nat → Prop) (w : World) : Prop :=
  imm 0 ∧ imm 1 ∧ (∃ t fr, w.heap[0]? = some (.cells (namedRow.map (Value.int .u8)).toArray t fr)) ∧ (∃ m t fr, w.heap[1]? = some (.cells #[.int .i64 m] t fr)) ∧
  imm 4 ∧ ∃ t fr, w.heap[4]? = some (.cells (Lib.pow10Tab.map (Value.int .u64)).toArray t fr)

noncomputable abbrev C : Cx := ⟨Tryz.prog, T, E, GT, G, False⟩
/-- The same, draws being counted. -/
noncomputable abbrev CD : Cx := ⟨Tryz.prog, T, E, GT, G, True⟩
theorem ints_VRs (imm : Nat → Prop) (w : World) : ∀ l : List Int, VRs imm w (l.map (AV.int .u8)) (l.map (Value.int .u8))
  | [] => .nil _ _
  | n :: l => .cons rfl (.int .u8 n) (ints_VRs imm w l)
theorem C_ok : C.Ok where
  types := T_ok
  eqs := E_ok
  mono := fun imm imm' w w' ⟨h0, h1, ⟨t, fr, h2⟩, ⟨m, t', fr', h3⟩, h4, t2, fr2, h5⟩ hi hc => ⟨hi _ h0, hi _ h1, ⟨t, fr, (hc 0 h0).trans h2⟩, ⟨m, t', fr', (hc 1 h1).trans h3⟩, hi _ h4, t2, fr2, (hc _ h4).trans h5⟩
  globs := fun imm w g cs ⟨h0, _, ⟨t, fr, h2⟩, _⟩ hg => by
    unfold C GT at hg
    dsimp only at hg
    split at hg
    · cases hg
      exact ⟨h0, _, t, fr, h2, ints_VRs imm w namedRow⟩
    · cases hg
  mixed := Tryz.checked.mixed
theorem CD_ok : CD.Ok := ⟨C_ok.types, C_ok.eqs, C_ok.mono, C_ok.globs, C_ok.mixed⟩

theorem hasPrefix_spec (s p : ByteArray) (L : AHeap) : FnSpec C 53 [.str s, .str p] L (fun r L' => r = .bool (Lib.hasPrefix s.data.toList p.data.toList) ∧ L' = L) :=
  FnSpec.of_same Tryz.func53 rfl rfl rfl fun imm w vs _ _ hl hv => by
    obtain ⟨u, v, rfl, hu, hv'⟩ := two_vals hl hv
    rw [hu.str_inv, hv'.str_inv]
    exact ⟨_, .bool _, Tryz.strings_HasPrefix s p w⟩

/-- The pieces between slashes. -/
def pieces (s : ByteArray) : List ByteArray := Lib.splitB ⟨#[47]⟩ 0 (Lib.countB s ⟨#[47]⟩) s
theorem split_spec (s : ByteArray) (hs : s.size < 4294967281) : FnSpec C 54 [.str s, .str ⟨#[47]⟩] [] (fun r L' => ∃ g, r = .sl 0 g (pieces s).length (pieces s).length ∧ L' = [(g, .row 9 1 (pieces s).length ((pieces s).map .str))]) := by
  have hlen := Lib.splitB_all ⟨#[47]⟩ (by decide) 0 _ s rfl
  have hle := Lib.countB_le ⟨#[47]⟩ (by decide) s.size s (Nat.le_refl _)
  refine FnSpec.of_row (us := (pieces s).map .string) Tryz.func54 rfl rfl (fun imm w => strs_VRs imm w _) (fun x hx => ?_) (strs_flats _) (by simp) ?_ fun imm w vs hG hl hv => ?_
  · simp only [List.mem_map] at hx
    obtain ⟨y, _, rfl⟩ := hx
    rfl
  · unfold pieces; rw [hlen]; unfold maxLen; omega
  · obtain ⟨u, v, rfl, hu, hv'⟩ := two_vals hl hv
    rw [hu.str_inv, hv'.str_inv]
    obtain ⟨_, _, _, ⟨m, t, fr, hm⟩, _⟩ := hG
    have := Tryz.strings_Split s ⟨#[47]⟩ m w hs (by rw [cell_of_row w 1 0 _ t fr hm]; rfl) (by decide)
    unfold pieces
    rw [hlen]
    exact this

theorem join_spec (g Cp : Nat) (xs : List ByteArray) (n : Nat) (hn : n ≤ xs.length) (h100 : xs.length ≤ 1000) (hsz : (Lib.join ((xs.take n).map (·.data.toList)) [47]).length ≤ 140737488355328) :
    FnSpec C 91 [.sl 0 g Cp n, .str ⟨#[47]⟩] [(g, .row 9 1 Cp (xs.map .str))] (fun r L' => r = .str ⟨(Lib.join ((xs.take n).map (·.data.toList)) [47]).toArray⟩ ∧ L' = [(g, .row 9 1 Cp (xs.map .str))]) :=
  FnSpec.of_below Tryz.func91 rfl rfl rfl fun imm w vs hG hs hl hv => by
    obtain ⟨u, v, rfl, hu, hv'⟩ := two_vals hl hv
    rw [hv'.str_inv]
    generalize hA : AV.sl 0 g Cp n = A at hu
    cases hu <;> cases hA
    by_cases h0 : n = 0
    · subst h0
      exact ⟨_, .str _, (Tryz.strings_Join_none (some ⟨g, 0, none⟩) Cp ⟨#[47]⟩ w).mono fun e w' ⟨he, hw⟩ => ⟨he, hw ▸ Below.refl _ _⟩⟩
    · have hh := hs.holds 0 g _ rfl trivial
      cases hh with
      | row _ _ _ _ us spare hg hs0 hsz' hC hm hx hvs =>
        rw [strs_flats] at hvs
        have hlt := hs.lt g ⟨0, _, rfl, trivial⟩
        have hcells : ∀ (j : Nat) x, (xs.take n)[j]? = some x → w.cell? ⟨g, 0 + j, none⟩ = some (.string x) := fun j x hj => by
          rw [List.getElem?_take] at hj
          split at hj
          case isFalse => cases hj
          obtain ⟨u, hu, _, hvu⟩ := hvs.get (j := j) (y := .str x) (by rw [List.getElem?_map, hj]; rfl)
          have := cell_at hg 0 j u (by rw [List.drop_zero, List.getElem?_append_left (List.getElem?_eq_some_iff.1 hu).1]; exact hu)
          rw [hvu.str_inv] at this
          have e : (⟨g, 0, none⟩ : Addr).add j = ⟨g, 0 + j, none⟩ := by unfold Addr.add; split <;> simp_all
          rw [← e]; exact this
        have htl : (xs.take n).length = n := by simp; omega
        have hxl : xs.length ≤ Cp := by simpa using hx
        have := Tryz.strings_Join g 0 Cp (xs.take n) ⟨#[47]⟩ w hcells hlt (by omega) (by omega) hsz
        rw [htl] at this
        exact ⟨_, .str _, this⟩

/-- maps.Clone: a new map of the same entries. -/
theorem clone_spec (g : Nat) (es : Array MapEntry) (clock : Nat) : FnSpec C 48 [.any (.map (some g))] [(g, .obj (.map es clock))]
    (fun r L' => ∃ g', r = .any (.map (some g')) ∧ L' = [(g, .obj (.map es clock)), (g', .obj (.map es clock))]) := by
  refine ⟨⟨_, Tryz.func48, rfl, rfl⟩, fun imm w vs hG hs hl hv => ?_⟩
  obtain ⟨v, rfl⟩ : ∃ v, vs = [v] := by
    match vs, hl with
    | [v], _ => exact ⟨v, rfl⟩
  have h0 := hv 0 _ v rfl rfl
  cases h0
  have hg := map_get hs (k := 0) (g := g) rfl
  have hcon := AnyW.maps_Clone Tryz.cloneFull g es clock w hg
  change Calls Tryz.prog 48 _ _ _ at hcon
  refine hcon.mono ?_
  rintro e w' ⟨rfl, rfl⟩
  exact ⟨_, .any (.map (some w.heap.size)), [(g, .obj (.map es clock)), (w.heap.size, .obj (.map es clock))], imm, rfl, .any _, hs.new (by simp) (fun i hi => (World.grownBy_alloc w _ none).block i hi (by simp)) (.obj _ (MapKept.heap_alloc w _).1), Tr.alloc _ _, _, rfl, rfl⟩

end Go.Proofs.YtiikjcdjgmlcgaaGreatDoor.HBT
/- The contracts of the program's own texts on names and places, part one. -/
namespace Go.Proofs.YtiikjcdjgmlcgaaGreatDoor.HBT
open Go Go.Proofs.YtiikjcdjgmlcgaaGreatDoor.HB Go.RowKit
set_option maxRecDepth 8000

theorem add1 {r : Int} {i : Nat} (h : r = IntKind.i64.wrap ((i : Int) + 1)) (hb : i < 9223372036854775807) : r = ((i + 1 : Nat) : Int) := by
  rw [h, IntKind.wrap_i64]; omega

/-- A byte's rank. -/
def rank (c : UInt8) : Int := if c.toNat = 47 then -1 else c.toNat
theorem weight_specD (c : UInt8) : FnSpec CD 68 [.int .u8 c.toNat] [] (fun r L' => r = .int .i64 (rank c) ∧ L' = []) := by
  have hc := c.toNat_lt
  refine FnSpec.start CD_ok Tryz.func68 rfl rfl Tryz.ntmps68 ?_
  repeat (first | refine Ops.go ?_ | refine And.intro rfl ?_ | refine And.intro (Nat.le_of_ble_eq_true rfl) ?_ | refine And.intro (Int.natCast_nonneg _) ?_ | refine fun (_ : Nat) => ?_ | refine Ord.go ?_ | refine Run.go rfl ?_ | refine Cont.go rfl ?_ | refine OrdP.go ?_)
  refine ⟨fun h => ?_, fun h => ?_⟩
  · have h : (c.toNat : Int) = 47 := h
    repeat (first | refine Ops.go ?_ | refine And.intro rfl ?_ | refine And.intro (Nat.le_of_ble_eq_true rfl) ?_ | refine And.intro (Int.natCast_nonneg _) ?_ | refine fun (_ : Nat) => ?_ | refine Ord.go ?_ | refine Run.go rfl ?_ | refine Cont.go rfl ?_ | refine OrdP.go ?_)
    exact ⟨_, [], FinOk.drop _ _, congrArg (AV.int .i64) (show (-1 : Int) = _ by unfold rank; rw [if_pos (by omega)]), rfl⟩
  · have h : ¬ (c.toNat : Int) = 47 := h
    repeat (first | refine Ops.go ?_ | refine And.intro rfl ?_ | refine And.intro (Nat.le_of_ble_eq_true rfl) ?_ | refine And.intro (Int.natCast_nonneg _) ?_ | refine fun (_ : Nat) => ?_ | refine Ord.go ?_ | refine Run.go rfl ?_ | refine Cont.go rfl ?_ | refine OrdP.go ?_)
    refine fun r hr => ?_
    have hr : r = (c.toNat : Int) := by rw [hr, IntKind.wrap_i64]; omega
    subst hr
    repeat (first | refine Ops.go ?_ | refine And.intro rfl ?_ | refine And.intro (Nat.le_of_ble_eq_true rfl) ?_ | refine And.intro (Int.natCast_nonneg _) ?_ | refine fun (_ : Nat) => ?_ | refine Ord.go ?_ | refine Run.go rfl ?_ | refine Cont.go rfl ?_ | refine OrdP.go ?_)
    exact ⟨_, [], FinOk.drop _ _, congrArg (AV.int .i64) (show (c.toNat : Int) = _ by unfold rank; rw [if_neg (by omega)]), rfl⟩
theorem weight_spec (c : UInt8) : FnSpec C 68 [.int .u8 c.toNat] [] (fun r L' => r = .int .i64 (rank c) ∧ L' = []) := (weight_specD c).undraw

/-- A name, as the program asks. -/
def isNameB (s : ByteArray) : Bool := decide (s ≠ ⟨#[]⟩) && decide (s.size ≤ 16) && decide (s ≠ ⟨#[46]⟩) && decide (s ≠ ⟨#[46, 46]⟩) && s.data.toList.all fun b => nameByte b.toNat

theorem tab_at (c : Nat) (h : c < 128) : namedTab[c]? = some (.int .u8 (if nameByte c then 1 else 0)) := by
  unfold namedTab namedRow
  rw [List.getElem?_map, List.getElem?_map, List.getElem?_range h]
  rfl
theorem byte_all (s : ByteArray) (p : UInt8 → Bool) : s.data.toList.all p = true ↔ ∀ (i : Nat) (h : i < s.size), p s[i] = true := by
  rw [List.all_eq_true]
  constructor
  · intro h i hi
    have hi' : i < s.data.toList.length := by rw [Array.length_toList]; exact hi
    have := h (s.data.toList[i]) (List.getElem_mem hi')
    rw [Array.getElem_toList] at this
    exact this
  · intro h x hx
    obtain ⟨i, hi, rfl⟩ := List.mem_iff_getElem.1 hx
    have hi' : i < s.size := by rw [Array.length_toList] at hi; exact hi
    rw [Array.getElem_toList]
    exact h i hi'
theorem nameByte_lt {c : Nat} (h : nameByte c = true) : c < 128 := by
  unfold nameByte at h
  simp at h
  omega

theorem isName_spec (s : ByteArray) : FnSpec C 55 [.str s] [] (fun r L' => r = .bool (isNameB s) ∧ L' = []) := by
  refine FnSpec.start C_ok Tryz.func55 rfl rfl Tryz.ntmps55 ?_
  repeat (first | refine Ops.go ?_ | refine And.intro rfl ?_ | refine And.intro (Nat.le_of_ble_eq_true rfl) ?_ | refine And.intro (Int.natCast_nonneg _) ?_ | refine fun (_ : Nat) => ?_ | refine Ord.go ?_ | refine Run.go rfl ?_ | refine Cont.go rfl ?_ | refine OrdP.go ?_)
  refine ⟨fun h => ?_, fun h => ?_⟩
  case' refine_1 =>
    repeat (first | refine Ops.go ?_ | refine And.intro rfl ?_ | refine And.intro (Nat.le_of_ble_eq_true rfl) ?_ | refine And.intro (Int.natCast_nonneg _) ?_ | refine fun (_ : Nat) => ?_ | refine Ord.go ?_ | refine Run.go rfl ?_ | refine Cont.go rfl ?_ | refine OrdP.go ?_)
    exact ⟨_, [], FinOk.drop _ _, congrArg AV.bool (show false = _ by
      have h : s = ⟨#[]⟩ := h
      simp [isNameB, h]), rfl⟩
  have h0 : ¬ s = ⟨#[]⟩ := h
  repeat (first | refine Ops.go ?_ | refine And.intro rfl ?_ | refine And.intro (Nat.le_of_ble_eq_true rfl) ?_ | refine And.intro (Int.natCast_nonneg _) ?_ | refine fun (_ : Nat) => ?_ | refine Ord.go ?_ | refine Run.go rfl ?_ | refine Cont.go rfl ?_ | refine OrdP.go ?_)
  refine ⟨fun h => ?_, fun h => ?_⟩
  case' refine_1 =>
    repeat (first | refine Ops.go ?_ | refine And.intro rfl ?_ | refine And.intro (Nat.le_of_ble_eq_true rfl) ?_ | refine And.intro (Int.natCast_nonneg _) ?_ | refine fun (_ : Nat) => ?_ | refine Ord.go ?_ | refine Run.go rfl ?_ | refine Cont.go rfl ?_ | refine OrdP.go ?_)
    exact ⟨_, [], FinOk.drop _ _, congrArg AV.bool (show false = _ by
      have h : (16 : Int) < (s.size : Int) := h
      have : ¬ s.size ≤ 16 := by omega
      simp [isNameB, this]), rfl⟩
  have h : ¬ (16 : Int) < (s.size : Int) := h
  have h1 : s.size ≤ 16 := by omega
  repeat (first | refine Ops.go ?_ | refine And.intro rfl ?_ | refine And.intro (Nat.le_of_ble_eq_true rfl) ?_ | refine And.intro (Int.natCast_nonneg _) ?_ | refine fun (_ : Nat) => ?_ | refine Ord.go ?_ | refine Run.go rfl ?_ | refine Cont.go rfl ?_ | refine OrdP.go ?_)
  refine ⟨fun h => ?_, fun h => ?_⟩
  case' refine_1 =>
    repeat (first | refine Ops.go ?_ | refine And.intro rfl ?_ | refine And.intro (Nat.le_of_ble_eq_true rfl) ?_ | refine And.intro (Int.natCast_nonneg _) ?_ | refine fun (_ : Nat) => ?_ | refine Ord.go ?_ | refine Run.go rfl ?_ | refine Cont.go rfl ?_ | refine OrdP.go ?_)
    exact ⟨_, [], FinOk.drop _ _, congrArg AV.bool (show false = _ by
      have h : s = ⟨#[46]⟩ := h
      subst h
      decide), rfl⟩
  have h2 : ¬ s = ⟨#[46]⟩ := h
  repeat (first | refine Ops.go ?_ | refine And.intro rfl ?_ | refine And.intro (Nat.le_of_ble_eq_true rfl) ?_ | refine And.intro (Int.natCast_nonneg _) ?_ | refine fun (_ : Nat) => ?_ | refine Ord.go ?_ | refine Run.go rfl ?_ | refine Cont.go rfl ?_ | refine OrdP.go ?_)
  refine ⟨fun h => ?_, fun h => ?_⟩
  case' refine_1 =>
    repeat (first | refine Ops.go ?_ | refine And.intro rfl ?_ | refine And.intro (Nat.le_of_ble_eq_true rfl) ?_ | refine And.intro (Int.natCast_nonneg _) ?_ | refine fun (_ : Nat) => ?_ | refine Ord.go ?_ | refine Run.go rfl ?_ | refine Cont.go rfl ?_ | refine OrdP.go ?_)
    exact ⟨_, [], FinOk.drop _ _, congrArg AV.bool (show false = _ by
      have h : s = ⟨#[46, 46]⟩ := h
      subst h
      decide), rfl⟩
  have h3 : ¬ s = ⟨#[46, 46]⟩ := h
  repeat (first | refine Ops.go ?_ | refine And.intro rfl ?_ | refine And.intro (Nat.le_of_ble_eq_true rfl) ?_ | refine And.intro (Int.natCast_nonneg _) ?_ | refine fun (_ : Nat) => ?_ | refine Ord.go ?_ | refine Run.go rfl ?_ | refine Cont.go rfl ?_ | refine OrdP.go ?_)
  refine Run.loop (fun k env L => ∃ i : Nat, k = s.size - i ∧ i ≤ s.size ∧ (∀ (j : Nat) (h : j < s.size), j < i → nameByte s[j].toNat = true) ∧ env = [.str s, .junk, .junk, .junk, .junk, .junk, .junk, .junk, .junk, .junk, .junk, .junk, .junk, .junk, .junk, .junk, .junk, .junk, .junk, .junk, .int .i64 s.size, .int .i64 i, .junk, .junk, .junk, .junk, .junk, .junk, .junk, .junk, .junk, .junk, .junk, .junk, .junk, .junk, .junk] ∧ L = []) s.size [.str s, .junk, .junk, .junk, .junk, .junk, .junk, .junk, .junk, .junk, .junk, .junk, .junk, .junk, .junk, .junk, .junk, .junk, .junk, .junk, .int .i64 s.size, .int .i64 0, .junk, .junk, .junk, .junk, .junk, .junk, .junk, .junk, .junk, .junk, .junk, .junk, .junk, .junk, .junk] ?_ ⟨0, by omega, by omega, (fun j _ hj => absurd hj (Nat.not_lt_zero j)), rfl, rfl⟩ ?_
  · repeat (first | exact trivial | refine ⟨.inl rfl, ?_⟩ | refine ⟨.inr rfl, ?_⟩)
  rintro k env L ⟨i, rfl, hi, hP, rfl, rfl⟩
  repeat (first | refine Ops.go ?_ | refine And.intro rfl ?_ | refine And.intro (Nat.le_of_ble_eq_true rfl) ?_ | refine And.intro (Int.natCast_nonneg _) ?_ | refine fun (_ : Nat) => ?_ | refine Ord.go ?_ | refine Run.go rfl ?_ | refine Cont.go rfl ?_ | refine OrdP.go ?_)
  refine ⟨fun h => ?_, fun h => ?_⟩
  · have h : (i : Int) < (s.size : Int) := h
    have hin : i < s.size := by omega
    repeat (first | refine Ops.go ?_ | refine And.intro rfl ?_ | refine And.intro (Nat.le_of_ble_eq_true rfl) ?_ | refine And.intro (Int.natCast_nonneg _) ?_ | refine fun (_ : Nat) => ?_ | refine Ord.go ?_ | refine Run.go rfl ?_ | refine Cont.go rfl ?_ | refine OrdP.go ?_)
    refine ⟨hin, ?_⟩
    repeat (first | refine Ops.go ?_ | refine And.intro rfl ?_ | refine And.intro (Nat.le_of_ble_eq_true rfl) ?_ | refine And.intro (Int.natCast_nonneg _) ?_ | refine fun (_ : Nat) => ?_ | refine Ord.go ?_ | refine Run.go rfl ?_ | refine Cont.go rfl ?_ | refine OrdP.go ?_)
    have hbad : nameByte s[i].toNat = false → isNameB s = false := fun hb => by
      rw [Bool.eq_false_iff]
      intro e
      unfold isNameB at e
      simp only [Bool.and_eq_true] at e
      have := (byte_all s _).1 e.2 i hin
      rw [hb] at this
      cases this
    refine ⟨fun hc => ?_, fun hc => ?_⟩
    · have hc : (128 : Int) ≤ (s[i].toNat : Int) := hc
      repeat (first | refine Ops.go ?_ | refine And.intro rfl ?_ | refine And.intro (Nat.le_of_ble_eq_true rfl) ?_ | refine And.intro (Int.natCast_nonneg _) ?_ | refine fun (_ : Nat) => ?_ | refine Ord.go ?_ | refine Run.go rfl ?_ | refine Cont.go rfl ?_ | refine OrdP.go ?_)
      exact ⟨_, [], FinOk.drop _ _, congrArg AV.bool (show false = _ by
        refine (hbad ?_).symm
        cases hb : nameByte s[i].toNat with
        | false => rfl
        | true => have := nameByte_lt hb; omega), rfl⟩
    · have hc : ¬ (128 : Int) ≤ (s[i].toNat : Int) := hc
      repeat (first | refine Ops.go ?_ | refine And.intro rfl ?_ | refine And.intro (Nat.le_of_ble_eq_true rfl) ?_ | refine And.intro (Int.natCast_nonneg _) ?_ | refine fun (_ : Nat) => ?_ | refine Ord.go ?_ | refine Run.go rfl ?_ | refine Cont.go rfl ?_ | refine OrdP.go ?_)
      refine ⟨hin, ?_⟩
      repeat (first | refine Ops.go ?_ | refine And.intro rfl ?_ | refine And.intro (Nat.le_of_ble_eq_true rfl) ?_ | refine And.intro (Int.natCast_nonneg _) ?_ | refine fun (_ : Nat) => ?_ | refine Ord.go ?_ | refine Run.go rfl ?_ | refine Cont.go rfl ?_ | refine OrdP.go ?_)
      refine ⟨show (s[i].toNat : Int) < ((128 : Nat) : Int) by omega, _, tab_at s[i].toNat (by omega), ?_⟩
      repeat (first | refine Ops.go ?_ | refine And.intro rfl ?_ | refine And.intro (Nat.le_of_ble_eq_true rfl) ?_ | refine And.intro (Int.natCast_nonneg _) ?_ | refine fun (_ : Nat) => ?_ | refine Ord.go ?_ | refine Run.go rfl ?_ | refine Cont.go rfl ?_ | refine OrdP.go ?_)
      cases hb : nameByte s[i].toNat with
      | false =>
        refine ⟨fun _ => ?_, fun hh => absurd rfl hh⟩
        repeat (first | refine Ops.go ?_ | refine And.intro rfl ?_ | refine And.intro (Nat.le_of_ble_eq_true rfl) ?_ | refine And.intro (Int.natCast_nonneg _) ?_ | refine fun (_ : Nat) => ?_ | refine Ord.go ?_ | refine Run.go rfl ?_ | refine Cont.go rfl ?_ | refine OrdP.go ?_)
        exact ⟨_, [], FinOk.drop _ _, congrArg AV.bool (show false = _ from (hbad hb).symm), rfl⟩
      | true =>
        refine ⟨fun hh => absurd hh (by decide), fun _ => ?_⟩
        repeat (first | refine Ops.go ?_ | refine And.intro rfl ?_ | refine And.intro (Nat.le_of_ble_eq_true rfl) ?_ | refine And.intro (Int.natCast_nonneg _) ?_ | refine fun (_ : Nat) => ?_ | refine Ord.go ?_ | refine Run.go rfl ?_ | refine Cont.go rfl ?_ | refine OrdP.go ?_)
        refine fun r hr => ?_
        obtain rfl := add1 hr (by omega)
        repeat (first | refine Ops.go ?_ | refine And.intro rfl ?_ | refine And.intro (Nat.le_of_ble_eq_true rfl) ?_ | refine And.intro (Int.natCast_nonneg _) ?_ | refine fun (_ : Nat) => ?_ | refine Ord.go ?_ | refine Run.go rfl ?_ | refine Cont.go rfl ?_ | refine OrdP.go ?_)
        refine Cont.lp ?_
        refine ⟨s.size - (i + 1), [.str s, .junk, .junk, .junk, .junk, .junk, .junk, .junk, .junk, .junk, .junk, .junk, .junk, .junk, .junk, .junk, .junk, .junk, .junk, .junk, .int .i64 s.size, .int .i64 (i + 1 : Nat), .junk, .junk, .junk, .junk, .junk, .junk, .junk, .junk, .junk, .junk, .junk, .junk, .junk, .junk, .junk], 99, by omega, ?_, ⟨i + 1, rfl, by omega, ?_, rfl, rfl⟩⟩
        · repeat (first | exact trivial | refine ⟨.inl rfl, ?_⟩ | refine ⟨.inr rfl, ?_⟩)
        · intro j hj hji
          by_cases e : j = i
          · subst e; exact hb
          · exact hP j hj (by omega)
  · have h : ¬ (i : Int) < (s.size : Int) := h
    repeat (first | refine Ops.go ?_ | refine And.intro rfl ?_ | refine And.intro (Nat.le_of_ble_eq_true rfl) ?_ | refine And.intro (Int.natCast_nonneg _) ?_ | refine fun (_ : Nat) => ?_ | refine Ord.go ?_ | refine Run.go rfl ?_ | refine Cont.go rfl ?_ | refine OrdP.go ?_)
    exact ⟨_, [], FinOk.drop _ _, congrArg AV.bool (show true = _ by
      symm
      unfold isNameB
      simp only [Bool.and_eq_true, decide_eq_true_eq]
      exact ⟨⟨⟨⟨h0, h1⟩, h2⟩, h3⟩, (byte_all s _).2 fun j hj => hP j hj (by omega)⟩), rfl⟩

/-- Which of two places comes first. -/
def orderL : List UInt8 → List UInt8 → Int
  | [], [] => 0
  | [], _ :: _ => -1
  | _ :: _, [] => 1
  | x :: a, y :: b => if rank x < rank y then -1 else if rank y < rank x then 1 else orderL a b
abbrev orderB (a b : ByteArray) : Int := orderL a.data.toList b.data.toList
theorem orderL_at {a b : List UInt8} {n : Nat} (hn : n ≤ a.length) (hm : n ≤ b.length) (h : ∀ j (h1 : j < a.length) (h2 : j < b.length), j < n → rank a[j] = rank b[j]) : orderL a b = orderL (a.drop n) (b.drop n) := by
  induction n generalizing a b with
  | zero => rfl
  | succ n ih =>
    match a, b with
    | x :: a, y :: b =>
      have h0 := h 0 (by simp) (by simp) (by omega)
      simp only [List.getElem_cons_zero] at h0
      simp only [orderL, h0, Int.lt_irrefl, if_false, List.drop_succ_cons]
      exact ih (by simpa using hn) (by simpa using hm) (fun j h1 h2 hj => by
        have := h (j + 1) (by simpa using h1) (by simpa using h2) (by omega)
        simpa using this)
theorem byte_at (s : ByteArray) (i : Nat) (h : i < s.size) : s.data.toList.drop i = s[i] :: s.data.toList.drop (i + 1) := by
  have hi' : i < s.data.toList.length := by rw [Array.length_toList]; exact h
  rw [List.drop_eq_getElem_cons hi', Array.getElem_toList]
  rfl

theorem order_specD (a b : ByteArray) (ha : a.size ≤ 9223372036854775807) : FnSpec CD 43 [.str a, .str b] [] (fun r L' => r = .int .i64 (orderB a b) ∧ L' = []) := by
  refine FnSpec.start CD_ok Tryz.func43 rfl rfl Tryz.ntmps43 ?_
  repeat (first | refine Ops.go ?_ | refine And.intro rfl ?_ | refine And.intro (Nat.le_of_ble_eq_true rfl) ?_ | refine And.intro (Int.natCast_nonneg _) ?_ | refine fun (_ : Nat) => ?_ | refine Ord.go ?_ | refine Run.go rfl ?_ | refine Cont.go rfl ?_ | refine OrdP.go ?_)
  refine fun m hm => ?_
  obtain ⟨n, rfl, hna, hnb, hnn⟩ : ∃ n : Nat, m = n ∧ n ≤ a.size ∧ n ≤ b.size ∧ (n = a.size ∨ n = b.size) := by
    refine ⟨min a.size b.size, ?_, by omega, by omega, by omega⟩
    rw [hm]
    split <;> omega
  repeat (first | refine Ops.go ?_ | refine And.intro rfl ?_ | refine And.intro (Nat.le_of_ble_eq_true rfl) ?_ | refine And.intro (Int.natCast_nonneg _) ?_ | refine fun (_ : Nat) => ?_ | refine Ord.go ?_ | refine Run.go rfl ?_ | refine Cont.go rfl ?_ | refine OrdP.go ?_)
  have hla : a.data.toList.length = a.size := by rw [Array.length_toList]; rfl
  have hlb : b.data.toList.length = b.size := by rw [Array.length_toList]; rfl
  refine Run.loop (fun k env L => ∃ i : Nat, k = n - i ∧ i ≤ n ∧ (orderB a b = orderL (a.data.toList.drop i) (b.data.toList.drop i)) ∧ env = [.str a, .str b, .junk, .junk, .junk, .junk, .junk, .junk, .junk, .junk, .junk, .junk, .int .i64 n, .int .i64 i, .junk, .junk, .junk, .junk, .junk, .junk, .junk, .junk, .junk, .junk, .junk, .junk, .junk, .junk, .junk, .junk, .junk, .junk, .junk, .junk, .junk, .junk, .junk, .junk, .junk, .junk, .junk, .junk, .junk] ∧ L = []) n [.str a, .str b, .junk, .junk, .junk, .junk, .junk, .junk, .junk, .junk, .junk, .junk, .int .i64 n, .int .i64 0, .junk, .junk, .junk, .junk, .junk, .junk, .junk, .junk, .junk, .junk, .junk, .junk, .junk, .junk, .junk, .junk, .junk, .junk, .junk, .junk, .junk, .junk, .junk, .junk, .junk, .junk, .junk, .junk, .junk] ?_ ⟨0, by omega, by omega, rfl, rfl, rfl⟩ ?_
  · repeat (first | exact trivial | refine ⟨.inl rfl, ?_⟩ | refine ⟨.inr rfl, ?_⟩)
  rintro k env L ⟨i, rfl, hi, hP, rfl, rfl⟩
  repeat (first | refine Ops.go ?_ | refine And.intro rfl ?_ | refine And.intro (Nat.le_of_ble_eq_true rfl) ?_ | refine And.intro (Int.natCast_nonneg _) ?_ | refine fun (_ : Nat) => ?_ | refine Ord.go ?_ | refine Run.go rfl ?_ | refine Cont.go rfl ?_ | refine OrdP.go ?_)
  refine ⟨fun h => ?_, fun h => ?_⟩
  · have h : (i : Int) < (n : Int) := h
    have hin : i < n := by omega
    have hia : i < a.size := by omega
    have hib : i < b.size := by omega
    have e1 := byte_at a i hia
    have e2 := byte_at b i hib
    repeat (first | refine Ops.go ?_ | refine And.intro rfl ?_ | refine And.intro (Nat.le_of_ble_eq_true rfl) ?_ | refine And.intro (Int.natCast_nonneg _) ?_ | refine fun (_ : Nat) => ?_ | refine Ord.go ?_ | refine Run.go rfl ?_ | refine Cont.go rfl ?_ | refine OrdP.go ?_)
    refine Run.drawn true [0, 1, 2, 4, 5, 6, 3, 7, 8, 9] (by kernel_rfl) ?_
    repeat (first | refine Ops.go ?_ | refine And.intro rfl ?_ | refine And.intro (Nat.le_of_ble_eq_true rfl) ?_ | refine And.intro (Int.natCast_nonneg _) ?_ | refine fun (_ : Nat) => ?_ | refine Ord.go ?_ | refine Run.go rfl ?_ | refine Cont.go rfl ?_ | refine OrdP.go ?_)
    refine ⟨hia, ?_⟩
    repeat (first | refine Ops.go ?_ | refine And.intro rfl ?_ | refine And.intro (Nat.le_of_ble_eq_true rfl) ?_ | refine And.intro (Int.natCast_nonneg _) ?_ | refine fun (_ : Nat) => ?_ | refine Ord.go ?_ | refine Run.go rfl ?_ | refine Cont.go rfl ?_ | refine OrdP.go ?_)
    refine ⟨hib, ?_⟩
    repeat (first | refine Ops.go ?_ | refine And.intro rfl ?_ | refine And.intro (Nat.le_of_ble_eq_true rfl) ?_ | refine And.intro (Int.natCast_nonneg _) ?_ | refine fun (_ : Nat) => ?_ | refine Ord.go ?_ | refine Run.go rfl ?_ | refine Cont.go rfl ?_ | refine OrdP.go ?_)
    refine ACallQ.ret (weight_specD a[i]) ?_
    repeat (first | refine Ops.go ?_ | refine And.intro rfl ?_ | refine And.intro (Nat.le_of_ble_eq_true rfl) ?_ | refine And.intro (Int.natCast_nonneg _) ?_ | refine fun (_ : Nat) => ?_ | refine Ord.go ?_ | refine Run.go rfl ?_ | refine Cont.go rfl ?_ | refine OrdP.go ?_)
    refine ACallQ.ret (weight_specD b[i]) ?_
    repeat (first | refine Ops.go ?_ | refine And.intro rfl ?_ | refine And.intro (Nat.le_of_ble_eq_true rfl) ?_ | refine And.intro (Int.natCast_nonneg _) ?_ | refine fun (_ : Nat) => ?_ | refine Ord.go ?_ | refine Run.go rfl ?_ | refine Cont.go rfl ?_ | refine OrdP.go ?_)
    refine ⟨fun hl => ?_, fun hl => ?_⟩
    · have hl : rank a[i] < rank b[i] := hl
      repeat (first | refine Ops.go ?_ | refine And.intro rfl ?_ | refine And.intro (Nat.le_of_ble_eq_true rfl) ?_ | refine And.intro (Int.natCast_nonneg _) ?_ | refine fun (_ : Nat) => ?_ | refine Ord.go ?_ | refine Run.go rfl ?_ | refine Cont.go rfl ?_ | refine OrdP.go ?_)
      exact ⟨_, [], FinOk.drop _ _, congrArg (AV.int .i64) (show (-1 : Int) = _ by rw [hP, e1, e2]; simp only [orderL, hl, if_true]), rfl⟩
    · have hl : ¬ rank a[i] < rank b[i] := hl
      repeat (first | refine Ops.go ?_ | refine And.intro rfl ?_ | refine And.intro (Nat.le_of_ble_eq_true rfl) ?_ | refine And.intro (Int.natCast_nonneg _) ?_ | refine fun (_ : Nat) => ?_ | refine Ord.go ?_ | refine Run.go rfl ?_ | refine Cont.go rfl ?_ | refine OrdP.go ?_)
      refine ⟨fun hg => ?_, fun hg => ?_⟩
      · have hg : rank b[i] < rank a[i] := hg
        repeat (first | refine Ops.go ?_ | refine And.intro rfl ?_ | refine And.intro (Nat.le_of_ble_eq_true rfl) ?_ | refine And.intro (Int.natCast_nonneg _) ?_ | refine fun (_ : Nat) => ?_ | refine Ord.go ?_ | refine Run.go rfl ?_ | refine Cont.go rfl ?_ | refine OrdP.go ?_)
        exact ⟨_, [], FinOk.drop _ _, congrArg (AV.int .i64) (show (1 : Int) = _ by rw [hP, e1, e2]; simp only [orderL, hl, hg, if_true, if_false]), rfl⟩
      · have hg : ¬ rank b[i] < rank a[i] := hg
        repeat (first | refine Ops.go ?_ | refine And.intro rfl ?_ | refine And.intro (Nat.le_of_ble_eq_true rfl) ?_ | refine And.intro (Int.natCast_nonneg _) ?_ | refine fun (_ : Nat) => ?_ | refine Ord.go ?_ | refine Run.go rfl ?_ | refine Cont.go rfl ?_ | refine OrdP.go ?_)
        refine fun r hr => ?_
        obtain rfl := add1 hr (by omega)
        repeat (first | refine Ops.go ?_ | refine And.intro rfl ?_ | refine And.intro (Nat.le_of_ble_eq_true rfl) ?_ | refine And.intro (Int.natCast_nonneg _) ?_ | refine fun (_ : Nat) => ?_ | refine Ord.go ?_ | refine Run.go rfl ?_ | refine Cont.go rfl ?_ | refine OrdP.go ?_)
        refine Cont.lp ?_
        refine ⟨n - (i + 1), [.str a, .str b, .junk, .junk, .junk, .junk, .junk, .junk, .junk, .junk, .junk, .junk, .int .i64 n, .int .i64 (i + 1 : Nat), .junk, .junk, .junk, .junk, .junk, .junk, .junk, .junk, .junk, .junk, .junk, .junk, .junk, .junk, .junk, .junk, .junk, .junk, .junk, .junk, .junk, .junk, .junk, .junk, .junk, .junk, .junk, .junk, .junk], 99, by omega, ?_, ⟨i + 1, rfl, by omega, ?_, rfl, rfl⟩⟩
        · repeat (first | exact trivial | refine ⟨.inl rfl, ?_⟩ | refine ⟨.inr rfl, ?_⟩)
        · rw [hP, e1, e2]; simp only [orderL, hl, hg, if_false]
  · have h : ¬ (i : Int) < (n : Int) := h
    have hin : i = n := by omega
    subst hin
    have fin : orderB a b = if (a.size : Int) < b.size then -1 else if (b.size : Int) < a.size then 1 else 0 := by
      rw [hP]
      rcases hnn with e | e
      · rw [List.drop_of_length_le (l := a.data.toList) (by omega)]
        by_cases hab : a.size < b.size
        · rw [byte_at b i (by omega), if_pos (by omega)]; rfl
        · rw [List.drop_of_length_le (l := b.data.toList) (by omega), if_neg (by omega), if_neg (by omega)]; rfl
      · rw [List.drop_of_length_le (l := b.data.toList) (by omega)]
        by_cases hab : b.size < a.size
        · rw [byte_at a i (by omega), if_neg (by omega), if_pos (by omega)]; rfl
        · rw [List.drop_of_length_le (l := a.data.toList) (by omega), if_neg (by omega), if_neg (by omega)]; rfl
    repeat (first | refine Ops.go ?_ | refine And.intro rfl ?_ | refine And.intro (Nat.le_of_ble_eq_true rfl) ?_ | refine And.intro (Int.natCast_nonneg _) ?_ | refine fun (_ : Nat) => ?_ | refine Ord.go ?_ | refine Run.go rfl ?_ | refine Cont.go rfl ?_ | refine OrdP.go ?_)
    refine ⟨fun h => ?_, fun h => ?_⟩
    · have h : (a.size : Int) < (b.size : Int) := h
      repeat (first | refine Ops.go ?_ | refine And.intro rfl ?_ | refine And.intro (Nat.le_of_ble_eq_true rfl) ?_ | refine And.intro (Int.natCast_nonneg _) ?_ | refine fun (_ : Nat) => ?_ | refine Ord.go ?_ | refine Run.go rfl ?_ | refine Cont.go rfl ?_ | refine OrdP.go ?_)
      exact ⟨_, [], FinOk.drop _ _, congrArg (AV.int .i64) (show (-1 : Int) = _ by rw [fin, if_pos h]), rfl⟩
    · have h : ¬ (a.size : Int) < (b.size : Int) := h
      repeat (first | refine Ops.go ?_ | refine And.intro rfl ?_ | refine And.intro (Nat.le_of_ble_eq_true rfl) ?_ | refine And.intro (Int.natCast_nonneg _) ?_ | refine fun (_ : Nat) => ?_ | refine Ord.go ?_ | refine Run.go rfl ?_ | refine Cont.go rfl ?_ | refine OrdP.go ?_)
      refine ⟨fun h2 => ?_, fun h2 => ?_⟩
      · have h2 : (b.size : Int) < (a.size : Int) := h2
        repeat (first | refine Ops.go ?_ | refine And.intro rfl ?_ | refine And.intro (Nat.le_of_ble_eq_true rfl) ?_ | refine And.intro (Int.natCast_nonneg _) ?_ | refine fun (_ : Nat) => ?_ | refine Ord.go ?_ | refine Run.go rfl ?_ | refine Cont.go rfl ?_ | refine OrdP.go ?_)
        exact ⟨_, [], FinOk.drop _ _, congrArg (AV.int .i64) (show (1 : Int) = _ by rw [fin, if_neg h, if_pos h2]), rfl⟩
      · have h2 : ¬ (b.size : Int) < (a.size : Int) := h2
        repeat (first | refine Ops.go ?_ | refine And.intro rfl ?_ | refine And.intro (Nat.le_of_ble_eq_true rfl) ?_ | refine And.intro (Int.natCast_nonneg _) ?_ | refine fun (_ : Nat) => ?_ | refine Ord.go ?_ | refine Run.go rfl ?_ | refine Cont.go rfl ?_ | refine OrdP.go ?_)
        exact ⟨_, [], FinOk.drop _ _, congrArg (AV.int .i64) (show (0 : Int) = _ by rw [fin, if_neg h, if_neg h2]), rfl⟩

theorem order_spec (a b : ByteArray) (ha : a.size ≤ 9223372036854775807) : FnSpec C 43 [.str a, .str b] [] (fun r L' => r = .int .i64 (orderB a b) ∧ L' = []) := (order_specD a b ha).undraw

end Go.Proofs.YtiikjcdjgmlcgaaGreatDoor.HBT
/- The contracts of the program's own texts on names and places, part two: Parse. -/
namespace Go.Proofs.YtiikjcdjgmlcgaaGreatDoor.HBT
open Go Go.Proofs.YtiikjcdjgmlcgaaGreatDoor.HB Go.RowKit
set_option maxRecDepth 8000

def slash : ByteArray := ⟨#[47]⟩
def begins47 (s : ByteArray) : Bool := Lib.hasPrefix s.data.toList [47]
/-- What a text holds behind its first slash, cut. -/
def cutB (s : ByteArray) : List ByteArray := pieces (s.extract 1 s.size)
/-- The code that Parse answers. -/
def parseE (s : ByteArray) : Int :=
  if 102 < s.size then 2 else if s = slash then 0 else if begins47 s = false then 10 else if 6 < (cutB s).length then 10 else if (cutB s).all isNameB then 0 else 10
def namesOf (s : ByteArray) : List ByteArray := if s = slash then [] else cutB s

def ParseQ (s : ByteArray) (r : AV) (L' : AHeap) : Prop :=
  (parseE s ≠ 0 ∧ r = .tuple [.nils, .int .i64 (parseE s)] ∧ L' = []) ∨ (parseE s = 0 ∧ namesOf s = [] ∧ r = .tuple [.nils, .int .i64 0] ∧ L' = []) ∨
  (parseE s = 0 ∧ (namesOf s).length ≤ 6 ∧ ∃ g, r = .tuple [.sl 0 g (namesOf s).length (namesOf s).length, .int .i64 0] ∧ L' = [(g, .row 9 1 (namesOf s).length ((namesOf s).map .str))])

theorem hasPrefix_size {l : List UInt8} (h : Lib.hasPrefix l [47] = true) : 1 ≤ l.length := by
  cases l with
  | nil => cases h
  | cons => simp

theorem parse_spec (s : ByteArray) : FnSpec C 29 [.str s] [] (ParseQ s) := by
  refine FnSpec.start C_ok Tryz.func29 rfl rfl Tryz.ntmps29 ?_
  repeat (first | refine Ops.go ?_ | refine And.intro rfl ?_ | refine And.intro (Nat.le_of_ble_eq_true rfl) ?_ | refine And.intro (Int.natCast_nonneg _) ?_ | refine fun (_ : Nat) => ?_ | refine Ord.go ?_ | refine Run.go rfl ?_ | refine Cont.go rfl ?_ | refine OrdP.go ?_)
  refine ⟨fun h => ?_, fun h => ?_⟩
  case' refine_1 =>
    have h : (102 : Int) < (s.size : Int) := h
    have e : parseE s = 2 := by unfold parseE; rw [if_pos (by omega)]
    repeat (first | refine Ops.go ?_ | refine And.intro rfl ?_ | refine And.intro (Nat.le_of_ble_eq_true rfl) ?_ | refine And.intro (Int.natCast_nonneg _) ?_ | refine fun (_ : Nat) => ?_ | refine Ord.go ?_ | refine Run.go rfl ?_ | refine Cont.go rfl ?_ | refine OrdP.go ?_)
    exact ⟨_, [], FinOk.drop _ _, .inl ⟨by rw [e]; decide, by rw [e]; rfl, rfl⟩⟩
  have h : ¬ (102 : Int) < (s.size : Int) := h
  have h1 : ¬ 102 < s.size := by omega
  repeat (first | refine Ops.go ?_ | refine And.intro rfl ?_ | refine And.intro (Nat.le_of_ble_eq_true rfl) ?_ | refine And.intro (Int.natCast_nonneg _) ?_ | refine fun (_ : Nat) => ?_ | refine Ord.go ?_ | refine Run.go rfl ?_ | refine Cont.go rfl ?_ | refine OrdP.go ?_)
  refine ⟨fun h => ?_, fun h => ?_⟩
  case' refine_1 =>
    have h : s = slash := h
    repeat (first | refine Ops.go ?_ | refine And.intro rfl ?_ | refine And.intro (Nat.le_of_ble_eq_true rfl) ?_ | refine And.intro (Int.natCast_nonneg _) ?_ | refine fun (_ : Nat) => ?_ | refine Ord.go ?_ | refine Run.go rfl ?_ | refine Cont.go rfl ?_ | refine OrdP.go ?_)
    exact ⟨_, [], FinOk.drop _ _, .inr (.inl ⟨by unfold parseE; rw [if_neg h1, if_pos h], by unfold namesOf; rw [if_pos h], rfl, rfl⟩)⟩
  have h2 : ¬ s = slash := h
  have hp := hasPrefix_spec s slash []
  cases hb : begins47 s with
  | false =>
    rw [show Lib.hasPrefix s.data.toList slash.data.toList = false from hb] at hp
    repeat (first | refine Ops.go ?_ | refine And.intro rfl ?_ | refine And.intro (Nat.le_of_ble_eq_true rfl) ?_ | refine And.intro (Int.natCast_nonneg _) ?_ | refine fun (_ : Nat) => ?_ | refine Ord.go ?_ | refine Run.go rfl ?_ | refine Cont.go rfl ?_ | refine OrdP.go ?_)
    refine ACall.ret hp ?_
    repeat (first | refine Ops.go ?_ | refine And.intro rfl ?_ | refine And.intro (Nat.le_of_ble_eq_true rfl) ?_ | refine And.intro (Int.natCast_nonneg _) ?_ | refine fun (_ : Nat) => ?_ | refine Ord.go ?_ | refine Run.go rfl ?_ | refine Cont.go rfl ?_ | refine OrdP.go ?_)
    have e : parseE s = 10 := by unfold parseE; rw [if_neg h1, if_neg h2, if_pos hb]
    exact ⟨_, [], FinOk.drop _ _, .inl ⟨by rw [e]; decide, by rw [e]; rfl, rfl⟩⟩
  | true =>
    rw [show Lib.hasPrefix s.data.toList slash.data.toList = true from hb] at hp
    repeat (first | refine Ops.go ?_ | refine And.intro rfl ?_ | refine And.intro (Nat.le_of_ble_eq_true rfl) ?_ | refine And.intro (Int.natCast_nonneg _) ?_ | refine fun (_ : Nat) => ?_ | refine Ord.go ?_ | refine Run.go rfl ?_ | refine Cont.go rfl ?_ | refine OrdP.go ?_)
    refine ACall.ret hp ?_
    repeat (first | refine Ops.go ?_ | refine And.intro rfl ?_ | refine And.intro (Nat.le_of_ble_eq_true rfl) ?_ | refine And.intro (Int.natCast_nonneg _) ?_ | refine fun (_ : Nat) => ?_ | refine Ord.go ?_ | refine Run.go rfl ?_ | refine Cont.go rfl ?_ | refine OrdP.go ?_)
    have hs1 : 1 ≤ s.size := by have := hasPrefix_size hb; rw [Array.length_toList] at this; exact this
    refine ⟨show (1 : Int) ≤ (s.size : Int) by omega, Int.le_refl _, ?_⟩
    repeat (first | refine Ops.go ?_ | refine And.intro rfl ?_ | refine And.intro (Nat.le_of_ble_eq_true rfl) ?_ | refine And.intro (Int.natCast_nonneg _) ?_ | refine fun (_ : Nat) => ?_ | refine Ord.go ?_ | refine Run.go rfl ?_ | refine Cont.go rfl ?_ | refine OrdP.go ?_)
    refine ACall.pure _ (split_spec (s.extract 1 s.size) (by rw [ByteArray.size_extract]; omega)) ?_
    rintro r L' ⟨g, rfl, rfl⟩
    refine ⟨_, Sub.refl _, ?_⟩
    repeat (first | refine Ops.go ?_ | refine And.intro rfl ?_ | refine And.intro (Nat.le_of_ble_eq_true rfl) ?_ | refine And.intro (Int.natCast_nonneg _) ?_ | refine fun (_ : Nat) => ?_ | refine Ord.go ?_ | refine Run.go rfl ?_ | refine Cont.go rfl ?_ | refine OrdP.go ?_)
    have ed : pieces (s.extract 1 s.size) = cutB s := rfl
    rw [ed]
    refine ⟨fun h => ?_, fun h => ?_⟩
    case' refine_1 =>
      have h : (6 : Int) < ((cutB s).length : Int) := h
      have e : parseE s = 10 := by unfold parseE; rw [if_neg h1, if_neg h2, if_neg (by rw [hb]; decide), if_pos (by omega)]
      repeat (first | refine Ops.go ?_ | refine And.intro rfl ?_ | refine And.intro (Nat.le_of_ble_eq_true rfl) ?_ | refine And.intro (Int.natCast_nonneg _) ?_ | refine fun (_ : Nat) => ?_ | refine Ord.go ?_ | refine Run.go rfl ?_ | refine Cont.go rfl ?_ | refine OrdP.go ?_)
      exact ⟨_, [], FinOk.drop _ _, .inl ⟨by rw [e]; decide, by rw [e]; rfl, rfl⟩⟩
    have h : ¬ (6 : Int) < ((cutB s).length : Int) := h
    have h3 : ¬ 6 < (cutB s).length := by omega
    repeat (first | refine Ops.go ?_ | refine And.intro rfl ?_ | refine And.intro (Nat.le_of_ble_eq_true rfl) ?_ | refine And.intro (Int.natCast_nonneg _) ?_ | refine fun (_ : Nat) => ?_ | refine Ord.go ?_ | refine Run.go rfl ?_ | refine Cont.go rfl ?_ | refine OrdP.go ?_)
    generalize hl : cutB s = l at h3 ⊢
    refine Run.loop (fun k env L => ∃ i : Nat, k = l.length - i ∧ i ≤ l.length ∧ (∀ (j : Nat) (x : ByteArray), l[j]? = some x → j < i → isNameB x = true) ∧
        env = [.junk, .junk, .junk, .junk, .sl 0 g l.length l.length, .junk, .junk, .junk, .junk, .junk, .junk, .junk, .junk, .junk, .junk, .junk, .junk, .junk, .junk, .junk, .junk, .sl 0 g l.length l.length, .int .i64 l.length, .int .i64 i, .junk, .junk, .junk, .junk, .junk, .junk, .junk, .junk] ∧ L = [(g, .row 9 1 l.length (l.map .str))]) l.length
      [.junk, .junk, .junk, .junk, .sl 0 g l.length l.length, .junk, .junk, .junk, .junk, .junk, .junk, .junk, .junk, .junk, .junk, .junk, .junk, .junk, .junk, .junk, .junk, .sl 0 g l.length l.length, .int .i64 l.length, .int .i64 0, .junk, .junk, .junk, .junk, .junk, .junk, .junk, .junk] ?_ ⟨0, by omega, by omega, (fun j _ _ hj => absurd hj (Nat.not_lt_zero j)), rfl, rfl⟩ ?_
    · repeat (first | exact trivial | refine ⟨.inl rfl, ?_⟩ | refine ⟨.inr rfl, ?_⟩)
    rintro k env L ⟨i, rfl, hi, hP, rfl, rfl⟩
    repeat (first | refine Ops.go ?_ | refine And.intro rfl ?_ | refine And.intro (Nat.le_of_ble_eq_true rfl) ?_ | refine And.intro (Int.natCast_nonneg _) ?_ | refine fun (_ : Nat) => ?_ | refine Ord.go ?_ | refine Run.go rfl ?_ | refine Cont.go rfl ?_ | refine OrdP.go ?_)
    refine ⟨fun h => ?_, fun h => ?_⟩
    · have h : (i : Int) < (l.length : Int) := h
      have hin : i < l.length := by omega
      obtain ⟨x, ex⟩ : ∃ x, l[i]? = some x := ⟨l[i], List.getElem?_eq_getElem hin⟩
      have ex' : (l.map AV.str)[i]? = some (.str x) := by rw [List.getElem?_map, ex]; rfl
      have hn := isName_spec x
      repeat (first | refine Ops.go ?_ | refine And.intro rfl ?_ | refine And.intro (Nat.le_of_ble_eq_true rfl) ?_ | refine And.intro (Int.natCast_nonneg _) ?_ | refine fun (_ : Nat) => ?_ | refine Ord.go ?_ | refine Run.go rfl ?_ | refine Cont.go rfl ?_ | refine OrdP.go ?_)
      refine ⟨h, ?_⟩
      repeat (first | refine Ops.go ?_ | refine And.intro rfl ?_ | refine And.intro (Nat.le_of_ble_eq_true rfl) ?_ | refine And.intro (Int.natCast_nonneg _) ?_ | refine fun (_ : Nat) => ?_ | refine Ord.go ?_ | refine Run.go rfl ?_ | refine Cont.go rfl ?_ | refine OrdP.go ?_)
      refine ⟨_, ex', ?_⟩
      repeat (first | refine Ops.go ?_ | refine And.intro rfl ?_ | refine And.intro (Nat.le_of_ble_eq_true rfl) ?_ | refine And.intro (Int.natCast_nonneg _) ?_ | refine fun (_ : Nat) => ?_ | refine Ord.go ?_ | refine Run.go rfl ?_ | refine Cont.go rfl ?_ | refine OrdP.go ?_)
      cases hx : isNameB x with
      | false =>
        rw [hx] at hn
        refine ACall.ret hn ?_
        repeat (first | refine Ops.go ?_ | refine And.intro rfl ?_ | refine And.intro (Nat.le_of_ble_eq_true rfl) ?_ | refine And.intro (Int.natCast_nonneg _) ?_ | refine fun (_ : Nat) => ?_ | refine Ord.go ?_ | refine Run.go rfl ?_ | refine Cont.go rfl ?_ | refine OrdP.go ?_)
        have e : parseE s = 10 := by
          have : l.all isNameB = false := by
            rw [Bool.eq_false_iff]
            intro e
            rw [List.all_eq_true] at e
            have := e x (List.mem_of_getElem? ex)
            rw [hx] at this
            cases this
          unfold parseE
          rw [hl, if_neg h1, if_neg h2, if_neg (by rw [hb]; decide), if_neg h3, this]
          rfl
        exact ⟨_, [], FinOk.drop _ _, .inl ⟨by rw [e]; decide, by rw [e]; rfl, rfl⟩⟩
      | true =>
        rw [hx] at hn
        refine ACall.ret hn ?_
        repeat (first | refine Ops.go ?_ | refine And.intro rfl ?_ | refine And.intro (Nat.le_of_ble_eq_true rfl) ?_ | refine And.intro (Int.natCast_nonneg _) ?_ | refine fun (_ : Nat) => ?_ | refine Ord.go ?_ | refine Run.go rfl ?_ | refine Cont.go rfl ?_ | refine OrdP.go ?_)
        refine fun r hr => ?_
        obtain rfl := add1 hr (by omega)
        repeat (first | refine Ops.go ?_ | refine And.intro rfl ?_ | refine And.intro (Nat.le_of_ble_eq_true rfl) ?_ | refine And.intro (Int.natCast_nonneg _) ?_ | refine fun (_ : Nat) => ?_ | refine Ord.go ?_ | refine Run.go rfl ?_ | refine Cont.go rfl ?_ | refine OrdP.go ?_)
        refine Cont.lp ?_
        refine ⟨l.length - (i + 1), [.junk, .junk, .junk, .junk, .sl 0 g l.length l.length, .junk, .junk, .junk, .junk, .junk, .junk, .junk, .junk, .junk, .junk, .junk, .junk, .junk, .junk, .junk, .junk, .sl 0 g l.length l.length, .int .i64 l.length, .int .i64 (i + 1 : Nat), .junk, .junk, .junk, .junk, .junk, .junk, .junk, .junk], 99, by omega, ?_, ⟨i + 1, rfl, by omega, ?_, rfl, rfl⟩⟩
        · repeat (first | exact trivial | refine ⟨.inl rfl, ?_⟩ | refine ⟨.inr rfl, ?_⟩)
        · intro j y hj hji
          by_cases e : j = i
          · subst e; rw [ex] at hj; cases hj; exact hx
          · exact hP j y hj (by omega)
    · have h : ¬ (i : Int) < (l.length : Int) := h
      repeat (first | refine Ops.go ?_ | refine And.intro rfl ?_ | refine And.intro (Nat.le_of_ble_eq_true rfl) ?_ | refine And.intro (Int.natCast_nonneg _) ?_ | refine fun (_ : Nat) => ?_ | refine Ord.go ?_ | refine Run.go rfl ?_ | refine Cont.go rfl ?_ | refine OrdP.go ?_)
      have hall : l.all isNameB = true := by
        rw [List.all_eq_true]
        intro x hx
        obtain ⟨j, hj, rfl⟩ := List.mem_iff_getElem.1 hx
        exact hP j _ (List.getElem?_eq_getElem hj) (by omega)
      have e : parseE s = 0 := by
        unfold parseE
        rw [hl, if_neg h1, if_neg h2, if_neg (by rw [hb]; decide), if_neg h3, if_pos hall]
      have en : namesOf s = l := by unfold namesOf; rw [if_neg h2]; exact hl
      exact ⟨_, _, FinOk.refl _ _, .inr (.inr ⟨e, by rw [en]; omega, g, by rw [en]; rfl, by rw [en]⟩)⟩

end Go.Proofs.YtiikjcdjgmlcgaaGreatDoor.HBT
/- The contracts of the program's own texts on names and places, part three: placed, Parent, isPlace. -/
namespace Go.Proofs.YtiikjcdjgmlcgaaGreatDoor.HBT
open Go Go.Proofs.YtiikjcdjgmlcgaaGreatDoor.HB Go.RowKit
set_option maxRecDepth 8000

def joinB (l : List ByteArray) : List UInt8 := Lib.join (l.map (·.data.toList)) [47]
/-- The place of names. -/
def placedB (l : List ByteArray) : ByteArray := slash ++ ⟨(joinB l).toArray⟩

theorem placed_spec (g Cp : Nat) (xs : List ByteArray) (n : Nat) (hn : n ≤ xs.length) (h100 : xs.length ≤ 1000) (hsz : (joinB (xs.take n)).length ≤ 100000) :
    FnSpec C 67 [.sl 0 g Cp n] [(g, .row 9 1 Cp (xs.map .str))] (fun r L' => r = .str (placedB (xs.take n)) ∧ L' = [(g, .row 9 1 Cp (xs.map .str))]) := by
  refine FnSpec.start C_ok Tryz.func67 rfl rfl Tryz.ntmps67 ?_
  repeat (first | refine Ops.go ?_ | refine And.intro rfl ?_ | refine And.intro (Nat.le_of_ble_eq_true rfl) ?_ | refine And.intro (Int.natCast_nonneg _) ?_ | refine fun (_ : Nat) => ?_ | refine Ord.go ?_ | refine Run.go rfl ?_ | refine Cont.go rfl ?_ | refine OrdP.go ?_)
  refine ACall.all _ (join_spec g Cp xs n hn h100 (by have : (joinB (xs.take n)).length ≤ 100000 := hsz; unfold joinB at this; omega)) ?_
  rintro r L' ⟨rfl, rfl⟩
  repeat (first | refine Ops.go ?_ | refine And.intro rfl ?_ | refine And.intro (Nat.le_of_ble_eq_true rfl) ?_ | refine And.intro (Int.natCast_nonneg _) ?_ | refine fun (_ : Nat) => ?_ | refine Ord.go ?_ | refine Run.go rfl ?_ | refine Cont.go rfl ?_ | refine OrdP.go ?_)
  refine ⟨show slash.size + (ByteArray.mk (joinB (xs.take n)).toArray).size ≤ 9223372036854775807 by
    have e : (ByteArray.mk (joinB (xs.take n)).toArray).size = (joinB (xs.take n)).length := by show (joinB (xs.take n)).toArray.size = _; simp
    have e2 : slash.size = 1 := rfl
    omega, ?_⟩
  repeat (first | refine Ops.go ?_ | refine And.intro rfl ?_ | refine And.intro (Nat.le_of_ble_eq_true rfl) ?_ | refine And.intro (Int.natCast_nonneg _) ?_ | refine fun (_ : Nat) => ?_ | refine Ord.go ?_ | refine Run.go rfl ?_ | refine Cont.go rfl ?_ | refine OrdP.go ?_)
  exact ⟨_, _, FinOk.refl _ _, rfl, rfl⟩

def parentE (s : ByteArray) : Int := if parseE s ≠ 0 then parseE s else if namesOf s = [] then 47 else 0
def parentB (s : ByteArray) : ByteArray := if parentE s ≠ 0 then ⟨#[]⟩ else placedB ((namesOf s).take ((namesOf s).length - 1))

theorem join_le : ∀ (l : List (List UInt8)) (n : Nat), (∀ x ∈ l, x.length ≤ n) → (Lib.join l [47]).length ≤ l.length * (n + 1)
  | [], _, _ => by simp [Lib.join]
  | [x], n, h => by have := h x (by simp); simp [Lib.join]; omega
  | x :: y :: l, n, h => by
    have h0 := h x (by simp)
    have ih := join_le (y :: l) n (fun z hz => h z (List.mem_cons_of_mem _ hz))
    have e : Lib.join (x :: y :: l) [47] = x ++ ([47] ++ Lib.join (y :: l) [47]) := by simp [Lib.join, List.intercalate, List.intersperse]
    have e3 : (x :: y :: l).length * (n + 1) = (y :: l).length * (n + 1) + (n + 1) := by rw [List.length_cons, Nat.succ_mul]
    rw [e, List.length_append, List.length_append, e3]
    have : ([47] : List UInt8).length = 1 := rfl
    omega
theorem names_ok {s : ByteArray} (h : parseE s = 0) : (namesOf s).length ≤ 6 ∧ ∀ x ∈ namesOf s, isNameB x = true := by
  unfold parseE at h
  unfold namesOf
  split at h
  · cases h
  split at h
  · rename_i e; rw [if_pos e]; exact ⟨by simp, by simp⟩
  rename_i e
  rw [if_neg e]
  split at h
  · cases h
  split at h
  · cases h
  split at h
  · rename_i hall; exact ⟨by omega, fun x hx => (List.all_eq_true.1 hall) x hx⟩
  · cases h
theorem isNameB_size {x : ByteArray} (h : isNameB x = true) : x.size ≤ 16 := by
  unfold isNameB at h
  simp only [Bool.and_eq_true, decide_eq_true_eq] at h
  exact h.1.1.1.2
theorem join_names {l : List ByteArray} (h6 : l.length ≤ 6) (h : ∀ x ∈ l, isNameB x = true) (n : Nat) : (joinB (l.take n)).length ≤ 102 := by
  have := join_le ((l.take n).map (·.data.toList)) 16 (fun x hx => by
    obtain ⟨y, hy, rfl⟩ := List.mem_map.1 hx
    have := isNameB_size (h y (List.mem_of_mem_take hy))
    rw [Array.length_toList]
    exact this)
  have hl : ((l.take n).map (·.data.toList)).length ≤ 6 := by rw [List.length_map, List.length_take]; omega
  have h2 : ((l.take n).map (·.data.toList)).length * (16 + 1) ≤ 6 * 17 := Nat.mul_le_mul_right 17 hl
  unfold joinB
  omega

theorem parent_spec (s : ByteArray) : FnSpec C 42 [.str s] [] (fun r L' => r = .tuple [.str (parentB s), .int .i64 (parentE s)] ∧ L' = []) := by
  refine FnSpec.start C_ok Tryz.func42 rfl rfl Tryz.ntmps42 ?_
  repeat (first | refine Ops.go ?_ | refine And.intro rfl ?_ | refine And.intro (Nat.le_of_ble_eq_true rfl) ?_ | refine And.intro (Int.natCast_nonneg _) ?_ | refine fun (_ : Nat) => ?_ | refine Ord.go ?_ | refine Run.go rfl ?_ | refine Cont.go rfl ?_ | refine OrdP.go ?_)
  refine ACall.pure _ (parse_spec s) ?_
  rintro r L' (⟨h, rfl, rfl⟩ | ⟨h, hn, rfl, rfl⟩ | ⟨h, hn, g, rfl, rfl⟩)
  · refine ⟨_, Sub.refl _, ?_⟩
    have e : parentE s = parseE s := by unfold parentE; rw [if_pos h]
    have e2 : parentB s = ⟨#[]⟩ := by unfold parentB; rw [if_pos (by rw [e]; exact h)]
    repeat (first | refine Ops.go ?_ | refine And.intro rfl ?_ | refine And.intro (Nat.le_of_ble_eq_true rfl) ?_ | refine And.intro (Int.natCast_nonneg _) ?_ | refine fun (_ : Nat) => ?_ | refine Ord.go ?_ | refine Run.go rfl ?_ | refine Cont.go rfl ?_ | refine OrdP.go ?_)
    refine ⟨fun _ => ?_, fun e => absurd h e⟩
    repeat (first | refine Ops.go ?_ | refine And.intro rfl ?_ | refine And.intro (Nat.le_of_ble_eq_true rfl) ?_ | refine And.intro (Int.natCast_nonneg _) ?_ | refine fun (_ : Nat) => ?_ | refine Ord.go ?_ | refine Run.go rfl ?_ | refine Cont.go rfl ?_ | refine OrdP.go ?_)
    exact ⟨_, [], FinOk.drop _ _, by rw [e, e2]; rfl, rfl⟩
  · refine ⟨_, Sub.refl _, ?_⟩
    have e : parentE s = 47 := by unfold parentE; rw [if_neg (by rw [h]; decide), if_pos hn]
    have e2 : parentB s = ⟨#[]⟩ := by unfold parentB; rw [if_pos (by rw [e]; decide)]
    repeat (first | refine Ops.go ?_ | refine And.intro rfl ?_ | refine And.intro (Nat.le_of_ble_eq_true rfl) ?_ | refine And.intro (Int.natCast_nonneg _) ?_ | refine fun (_ : Nat) => ?_ | refine Ord.go ?_ | refine Run.go rfl ?_ | refine Cont.go rfl ?_ | refine OrdP.go ?_)
    refine ⟨fun e => absurd rfl e, fun _ => ?_⟩
    repeat (first | refine Ops.go ?_ | refine And.intro rfl ?_ | refine And.intro (Nat.le_of_ble_eq_true rfl) ?_ | refine And.intro (Int.natCast_nonneg _) ?_ | refine fun (_ : Nat) => ?_ | refine Ord.go ?_ | refine Run.go rfl ?_ | refine Cont.go rfl ?_ | refine OrdP.go ?_)
    refine ⟨fun _ => ?_, fun e => absurd rfl e⟩
    repeat (first | refine Ops.go ?_ | refine And.intro rfl ?_ | refine And.intro (Nat.le_of_ble_eq_true rfl) ?_ | refine And.intro (Int.natCast_nonneg _) ?_ | refine fun (_ : Nat) => ?_ | refine Ord.go ?_ | refine Run.go rfl ?_ | refine Cont.go rfl ?_ | refine OrdP.go ?_)
    exact ⟨_, [], FinOk.drop _ _, by rw [e, e2]; rfl, rfl⟩
  · refine ⟨_, Sub.refl _, ?_⟩
    obtain ⟨h6, hall⟩ := names_ok h
    generalize hl : namesOf s = l at h6 hall ⊢
    repeat (first | refine Ops.go ?_ | refine And.intro rfl ?_ | refine And.intro (Nat.le_of_ble_eq_true rfl) ?_ | refine And.intro (Int.natCast_nonneg _) ?_ | refine fun (_ : Nat) => ?_ | refine Ord.go ?_ | refine Run.go rfl ?_ | refine Cont.go rfl ?_ | refine OrdP.go ?_)
    refine ⟨fun e => absurd rfl e, fun _ => ?_⟩
    repeat (first | refine Ops.go ?_ | refine And.intro rfl ?_ | refine And.intro (Nat.le_of_ble_eq_true rfl) ?_ | refine And.intro (Int.natCast_nonneg _) ?_ | refine fun (_ : Nat) => ?_ | refine Ord.go ?_ | refine Run.go rfl ?_ | refine Cont.go rfl ?_ | refine OrdP.go ?_)
    refine ⟨fun h0 => ?_, fun h0 => ?_⟩
    · have h0 : (l.length : Int) = 0 := h0
      have hnil : l = [] := List.eq_nil_of_length_eq_zero (by omega)
      have e : parentE s = 47 := by unfold parentE; rw [if_neg (by rw [h]; decide), if_pos (by rw [hl]; exact hnil)]
      have e2 : parentB s = ⟨#[]⟩ := by unfold parentB; rw [if_pos (by rw [e]; decide)]
      repeat (first | refine Ops.go ?_ | refine And.intro rfl ?_ | refine And.intro (Nat.le_of_ble_eq_true rfl) ?_ | refine And.intro (Int.natCast_nonneg _) ?_ | refine fun (_ : Nat) => ?_ | refine Ord.go ?_ | refine Run.go rfl ?_ | refine Cont.go rfl ?_ | refine OrdP.go ?_)
      exact ⟨_, [], FinOk.drop _ _, by rw [e, e2]; rfl, rfl⟩
    · have h0 : ¬ (l.length : Int) = 0 := h0
      have hne : l ≠ [] := fun e => h0 (by rw [e]; rfl)
      have e : parentE s = 0 := by unfold parentE; rw [if_neg (by rw [h]; decide), if_neg (by rw [hl]; exact hne)]
      have e2 : parentB s = placedB (l.take (l.length - 1)) := by unfold parentB; rw [if_neg (by rw [e]; decide), hl]
      repeat (first | refine Ops.go ?_ | refine And.intro rfl ?_ | refine And.intro (Nat.le_of_ble_eq_true rfl) ?_ | refine And.intro (Int.natCast_nonneg _) ?_ | refine fun (_ : Nat) => ?_ | refine Ord.go ?_ | refine Run.go rfl ?_ | refine Cont.go rfl ?_ | refine OrdP.go ?_)
      refine fun r hr => ?_
      have hr : r = ((l.length - 1 : Nat) : Int) := by rw [hr, IntKind.wrap_i64]; omega
      subst hr
      repeat (first | refine Ops.go ?_ | refine And.intro rfl ?_ | refine And.intro (Nat.le_of_ble_eq_true rfl) ?_ | refine And.intro (Int.natCast_nonneg _) ?_ | refine fun (_ : Nat) => ?_ | refine Ord.go ?_ | refine Run.go rfl ?_ | refine Cont.go rfl ?_ | refine OrdP.go ?_)
      refine ⟨show ((l.length - 1 : Nat) : Int) ≤ ((l.map AV.str).length : Int) by rw [List.length_map]; omega, ?_⟩
      repeat (first | refine Ops.go ?_ | refine And.intro rfl ?_ | refine And.intro (Nat.le_of_ble_eq_true rfl) ?_ | refine And.intro (Int.natCast_nonneg _) ?_ | refine fun (_ : Nat) => ?_ | refine Ord.go ?_ | refine Run.go rfl ?_ | refine Cont.go rfl ?_ | refine OrdP.go ?_)
      refine ACall.all _ (placed_spec g l.length l (l.length - 1) (by omega) (by omega) (by have := join_names h6 hall (l.length - 1); omega)) ?_
      rintro r L' ⟨rfl, rfl⟩
      repeat (first | refine Ops.go ?_ | refine And.intro rfl ?_ | refine And.intro (Nat.le_of_ble_eq_true rfl) ?_ | refine And.intro (Int.natCast_nonneg _) ?_ | refine fun (_ : Nat) => ?_ | refine Ord.go ?_ | refine Run.go rfl ?_ | refine Cont.go rfl ?_ | refine OrdP.go ?_)
      exact ⟨_, [], FinOk.drop _ _, by rw [e, e2]; rfl, rfl⟩

end Go.Proofs.YtiikjcdjgmlcgaaGreatDoor.HBT
/- Plain laws on texts that are cut at their slashes: no program in sight. -/
namespace Go.Proofs.YtiikjcdjgmlcgaaGreatDoor.HBT
open Go Go.Proofs.YtiikjcdjgmlcgaaGreatDoor.HB Go.RowKit
set_option maxRecDepth 8000

/-- A text, cut at its slashes. -/
def cut : List UInt8 → List (List UInt8)
  | [] => [[]]
  | c :: l => if c = 47 then [] :: cut l else match cut l with
    | [] => [[c]]
    | p :: ps => (c :: p) :: ps

theorem cut_ne_nil (l : List UInt8) : cut l ≠ [] := by
  cases l with
  | nil => simp [cut]
  | cons c l => simp only [cut]; split <;> (try split) <;> simp

theorem splitK_cut : ∀ l : List UInt8, Lib.splitK [47] 0 (Lib.count l [47]) l = cut l
  | [] => by
    rw [show Lib.count [] [47] = 0 from by rw [Lib.count_miss (by simp [Lib.index])]]
    rfl
  | c :: l => by
    have ih := splitK_cut l
    by_cases hc : c = 47
    · subst hc
      rw [Lib.count_cons_eq, Nat.add_comm]
      have hix : Lib.index (47 :: l) [47] = 0 := by rw [Lib.index]; simp [List.isPrefixOf]
      simp only [Lib.splitK, hix, cut, if_true]
      rw [← ih]
      rfl
    · rw [Lib.count_cons_ne c 47 l hc]
      have hp : ([47] : List UInt8).isPrefixOf (c :: l) = false := by simp [List.isPrefixOf, Ne.symm hc]
      have hix : Lib.index (c :: l) [47] = if Lib.index l [47] == -1 then -1 else Lib.index l [47] + 1 := by rw [Lib.index, hp]; simp
      simp only [cut, hc, if_false]
      rw [← ih]
      by_cases hm : Lib.index l [47] = -1
      · rw [Lib.count_miss hm]
        rfl
      · have hge := Lib.index_ge l [47]
        obtain ⟨j, hj⟩ : ∃ j : Nat, Lib.index l [47] = j := ⟨(Lib.index l [47]).toNat, by omega⟩
        have hcount : ∃ k, Lib.count l [47] = k + 1 := by
          rw [Lib.count_hit (by simp) hj]
          exact ⟨_, Nat.add_comm _ _⟩
        obtain ⟨k, hk⟩ := hcount
        rw [hk]
        have h1 : (Lib.index l [47] == -1) = false := by simpa using hm
        have h2 : (Lib.index (c :: l) [47] == -1) = false := by rw [hix, h1]; simp; omega
        have h3 : (Lib.index (c :: l) [47]).toNat = j + 1 := by rw [hix, h1]; simp; omega
        have h4 : (Lib.index l [47]).toNat = j := by omega
        simp only [Lib.splitK, h1, h2, h3, h4]
        simp

theorem pieces_cut (s : ByteArray) : (pieces s).map (·.data.toList) = cut s.data.toList := by
  unfold pieces
  rw [Lib.splitB_data]
  exact splitK_cut s.data.toList

/-- Names put together, cut again. -/
theorem cut_join : ∀ (l : List (List UInt8)), l ≠ [] → (∀ x ∈ l, (47 : UInt8) ∉ x) → cut (Lib.join l [47]) = l := by
  have one : ∀ (x t : List UInt8), (47 : UInt8) ∉ x → cut (x ++ 47 :: t) = x :: cut t := by
    intro x
    induction x with
    | nil => intro t _; simp [cut]
    | cons c x ih =>
      intro t h
      have hc : ¬ c = 47 := fun e => h (by simp [e])
      have := ih t (fun hx => h (List.mem_cons_of_mem _ hx))
      rw [List.cons_append]
      simp only [cut, hc, if_false, this]
  have last : ∀ (x : List UInt8), (47 : UInt8) ∉ x → cut x = [x] := by
    intro x
    induction x with
    | nil => intro _; rfl
    | cons c x ih =>
      intro h
      have hc : ¬ c = 47 := fun e => h (by simp [e])
      have := ih (fun hx => h (List.mem_cons_of_mem _ hx))
      simp only [cut, hc, if_false, this]
  intro l
  induction l with
  | nil => intro h; exact absurd rfl h
  | cons x l ih =>
    intro _ h
    cases l with
    | nil => rw [Lib.join_one]; exact last x (h x (by simp))
    | cons y l =>
      have e : Lib.join (x :: y :: l) [47] = x ++ 47 :: Lib.join (y :: l) [47] := by simp [Lib.join, List.intercalate, List.intersperse]
      rw [e, one x _ (h x (by simp)), ih (by simp) (fun z hz => h z (List.mem_cons_of_mem _ hz))]

/-- A text is its pieces put together. -/
theorem join_cut : ∀ l : List UInt8, Lib.join (cut l) [47] = l
  | [] => by simp [cut, Lib.join, List.intercalate]
  | c :: l => by
    have ih := join_cut l
    have hne := cut_ne_nil l
    by_cases hc : c = 47
    · subst hc
      simp only [cut, if_true]
      cases hl : cut l with
      | nil => exact absurd hl hne
      | cons p ps =>
        rw [hl] at ih
        have e : Lib.join ([] :: p :: ps) [47] = [] ++ 47 :: Lib.join (p :: ps) [47] := by simp [Lib.join, List.intercalate, List.intersperse]
        rw [e, ih]
        rfl
    · simp only [cut, hc, if_false]
      cases hl : cut l with
      | nil => exact absurd hl hne
      | cons p ps =>
        rw [hl] at ih
        cases ps with
        | nil => rw [Lib.join_one] at ih ⊢; rw [ih]
        | cons q ps =>
          have e : ∀ x : List UInt8, Lib.join (x :: q :: ps) [47] = x ++ 47 :: Lib.join (q :: ps) [47] := fun x => by simp [Lib.join, List.intercalate, List.intersperse]
          rw [e] at ih ⊢
          rw [List.cons_append, ih]

end Go.Proofs.YtiikjcdjgmlcgaaGreatDoor.HBT
/- Places and their names: plain laws. -/
namespace Go.Proofs.YtiikjcdjgmlcgaaGreatDoor.HBT
open Go Go.Proofs.YtiikjcdjgmlcgaaGreatDoor.HB Go.RowKit
set_option maxRecDepth 8000

theorem bytes_inj {x y : ByteArray} (h : x.data.toList = y.data.toList) : x = y := ByteArray.ext (Array.toList_inj.mp h)
theorem map_bytes_inj : ∀ {l m : List ByteArray}, l.map (·.data.toList) = m.map (·.data.toList) → l = m
  | [], [], _ => rfl
  | [], _ :: _, h => by simp at h
  | _ :: _, [], h => by simp at h
  | x :: l, y :: m, h => by
    simp only [List.map_cons, List.cons.injEq] at h
    rw [bytes_inj h.1, map_bytes_inj h.2]

theorem name_no_slash {x : ByteArray} (h : isNameB x = true) : (47 : UInt8) ∉ x.data.toList := fun hm => by
  unfold isNameB at h
  simp only [Bool.and_eq_true] at h
  have := (List.all_eq_true.1 h.2) 47 hm
  exact absurd this (by decide)
theorem name_ne_nil {x : ByteArray} (h : isNameB x = true) : x.data.toList ≠ [] := fun e => by
  unfold isNameB at h
  simp only [Bool.and_eq_true, decide_eq_true_eq] at h
  exact h.1.1.1.1 (bytes_inj e)

/-- Names that may make a place. -/
def okNames (l : List ByteArray) : Prop := l.length ≤ 6 ∧ ∀ x ∈ l, isNameB x = true
theorem okNames.take {l : List ByteArray} (h : okNames l) (n : Nat) : okNames (l.take n) := ⟨by rw [List.length_take]; have := h.1; omega, fun x hx => h.2 x (List.mem_of_mem_take hx)⟩

theorem placed_data (l : List ByteArray) : (placedB l).data.toList = 47 :: joinB l := by
  unfold placedB slash
  simp
theorem cutB_cut (s : ByteArray) : (cutB s).map (·.data.toList) = cut (s.data.toList.drop 1) := by
  unfold cutB
  rw [pieces_cut]
  rw [Lib.extract_to_end]

theorem joinB_ne_nil {l : List ByteArray} (h : okNames l) (hne : l ≠ []) : joinB l ≠ [] := by
  cases l with
  | nil => exact absurd rfl hne
  | cons x l =>
    have hx := name_ne_nil (h.2 x (by simp))
    unfold joinB
    rw [List.map_cons]
    cases l with
    | nil => rw [List.map_nil, Lib.join_one]; exact hx
    | cons y l =>
      rw [List.map_cons]
      simp [Lib.join, List.intercalate, List.intersperse, hx]

theorem placed_slash {l : List ByteArray} (h : okNames l) : placedB l = slash ↔ l = [] := by
  constructor
  · intro e
    by_cases hl : l = []
    · exact hl
    · have := congrArg (·.data.toList) e
      simp only [placed_data] at this
      have h2 : slash.data.toList = [47] := rfl
      rw [h2] at this
      simp at this
      exact absurd this (joinB_ne_nil h hl)
  · intro e
    subst e
    apply bytes_inj
    rw [placed_data]
    rfl

theorem join_lt : ∀ (l : List (List UInt8)) (n : Nat), l ≠ [] → (∀ x ∈ l, x.length ≤ n) → (Lib.join l [47]).length + 1 ≤ l.length * (n + 1)
  | [], _, h, _ => absurd rfl h
  | [x], n, _, h => by have := h x (by simp); rw [Lib.join_one]; simp; omega
  | x :: y :: l, n, _, h => by
    have h0 := h x (by simp)
    have ih := join_lt (y :: l) n (by simp) (fun z hz => h z (List.mem_cons_of_mem _ hz))
    have e : Lib.join (x :: y :: l) [47] = x ++ ([47] ++ Lib.join (y :: l) [47]) := by simp [Lib.join, List.intercalate, List.intersperse]
    have e3 : (x :: y :: l).length * (n + 1) = (y :: l).length * (n + 1) + (n + 1) := by rw [List.length_cons, Nat.succ_mul]
    rw [e, List.length_append, List.length_append, e3]
    have : ([47] : List UInt8).length = 1 := rfl
    omega

theorem names_placed {l : List ByteArray} (h : okNames l) : parseE (placedB l) = 0 ∧ namesOf (placedB l) = l := by
  by_cases hl : l = []
  · have e := (placed_slash h).2 hl
    refine ⟨?_, ?_⟩
    · rw [e]; unfold parseE; rw [if_neg (by decide), if_pos rfl]
    · rw [e, hl]; unfold namesOf; rw [if_pos rfl]
  · have e : ¬ placedB l = slash := fun e => hl ((placed_slash h).1 e)
    have hcut : cutB (placedB l) = l := by
      apply map_bytes_inj
      rw [cutB_cut, placed_data]
      show cut (joinB l) = _
      unfold joinB
      exact cut_join _ (by simpa using hl) (fun x hx => by
        obtain ⟨y, hy, rfl⟩ := List.mem_map.1 hx
        exact name_no_slash (h.2 y hy))
    have hsz : (placedB l).size ≤ 102 := by
      have h1 : (placedB l).size = (placedB l).data.toList.length := by rw [Array.length_toList]; rfl
      have h2 := join_lt (l.map (·.data.toList)) 16 (by simpa using hl) (fun x hx => by
        obtain ⟨y, hy, rfl⟩ := List.mem_map.1 hx
        have := isNameB_size (h.2 y hy)
        rw [Array.length_toList]
        exact this)
      have h3 : (l.map (·.data.toList)).length * (16 + 1) ≤ 6 * 17 := Nat.mul_le_mul_right 17 (by rw [List.length_map]; exact h.1)
      rw [h1, placed_data, List.length_cons]
      unfold joinB
      omega
    have hb : begins47 (placedB l) = true := by unfold begins47; rw [placed_data]; rfl
    refine ⟨?_, by unfold namesOf; rw [if_neg e]; exact hcut⟩
    unfold parseE
    rw [if_neg (by omega), if_neg e, if_neg (by rw [hb]; decide), hcut, if_neg (by have := h.1; omega), if_pos (List.all_eq_true.2 h.2)]

/-- A place is the place of its names. -/
theorem place_names {s : ByteArray} (h : parseE s = 0) : okNames (namesOf s) ∧ s = placedB (namesOf s) := by
  have hok : okNames (namesOf s) := names_ok h
  refine ⟨hok, ?_⟩
  unfold parseE at h
  split at h
  · cases h
  split at h
  · rename_i e
    have en : namesOf s = [] := by unfold namesOf; rw [if_pos e]
    rw [en]
    exact e.trans ((placed_slash ⟨by simp, by simp⟩).2 rfl).symm
  rename_i e
  have en : namesOf s = cutB s := by unfold namesOf; rw [if_neg e]
  split at h
  · cases h
  rename_i hb
  have hb : begins47 s = true := by simpa using hb
  apply bytes_inj
  rw [placed_data, en]
  unfold joinB
  rw [cutB_cut, join_cut]
  unfold begins47 at hb
  cases hs : s.data.toList with
  | nil => rw [hs] at hb; cases hb
  | cons c t =>
    rw [hs] at hb
    have hb' : ((47 : UInt8) == c && ([] : List UInt8).isPrefixOf t) = true := hb
    rw [Bool.and_eq_true] at hb'
    have hc : c = 47 := (beq_iff_eq.1 hb'.1).symm
    rw [hc]
    rfl
theorem placed_inj {l m : List ByteArray} (hl : okNames l) (hm : okNames m) (h : placedB l = placedB m) : l = m := by
  rw [← (names_placed hl).2, h, (names_placed hm).2]
theorem parent_placed {l : List ByteArray} (h : okNames l) : parentE (placedB l) = (if l = [] then 47 else 0) ∧ (l ≠ [] → parentB (placedB l) = placedB (l.take (l.length - 1))) := by
  obtain ⟨h1, h2⟩ := names_placed h
  have e : parentE (placedB l) = (if l = [] then 47 else 0) := by unfold parentE; rw [if_neg (by rw [h1]; decide), h2]
  refine ⟨e, fun hne => ?_⟩
  unfold parentB
  rw [if_neg (by rw [e, if_neg hne]; decide), h2]

end Go.Proofs.YtiikjcdjgmlcgaaGreatDoor.HBT
/- The contracts of the shot's small texts: kinds, sizes, below, search. -/
namespace Go.Proofs.YtiikjcdjgmlcgaaGreatDoor.HBT
open Go Go.Proofs.YtiikjcdjgmlcgaaGreatDoor.HB Go.RowKit
set_option maxRecDepth 8000

/-- Is the first place below the second one; is that its parent? -/
def belowB (low high : ByteArray) : Prop := parseE low = 0 ∧ ∃ j, j < (namesOf low).length ∧ high = placedB ((namesOf low).take j)
def childB (low high : ByteArray) : Prop := parentE low = 0 ∧ parentB low = high
noncomputable instance (low high : ByteArray) : Decidable (belowB low high) := Classical.propDecidable _
noncomputable instance (low high : ByteArray) : Decidable (childB low high) := Classical.propDecidable _

theorem parent_of {s : ByteArray} (h : parseE s = 0) : parentE s = (if namesOf s = [] then 47 else 0) ∧ (namesOf s ≠ [] → parentB s = placedB ((namesOf s).take ((namesOf s).length - 1))) := by
  obtain ⟨hok, e⟩ := place_names h
  have := parent_placed hok
  rw [← e] at this
  exact this
theorem parent_bad {s : ByteArray} (h : parseE s ≠ 0) : parentE s = parseE s := by unfold parentE; rw [if_pos h]
theorem child_below {low high : ByteArray} (h : childB low high) : belowB low high := by
  obtain ⟨h1, h2⟩ := h
  by_cases hp : parseE low = 0
  · obtain ⟨e1, e2⟩ := parent_of hp
    by_cases hn : namesOf low = []
    · rw [e1, if_pos hn] at h1; cases h1
    · have : 0 < (namesOf low).length := List.length_pos_iff.2 hn
      exact ⟨hp, (namesOf low).length - 1, by omega, by rw [← h2, e2 hn]⟩
  · rw [parent_bad hp] at h1; exact absurd h1 hp

end Go.Proofs.YtiikjcdjgmlcgaaGreatDoor.HBT
/- The order of places: plain laws. -/
namespace Go.Proofs.YtiikjcdjgmlcgaaGreatDoor.HBT
open Go Go.Proofs.YtiikjcdjgmlcgaaGreatDoor.HB Go.RowKit
set_option maxRecDepth 8000

theorem rank_inj {a b : UInt8} (h : rank a = rank b) : a = b := by
  unfold rank at h
  apply UInt8.toNat_inj.1
  split at h <;> split at h <;> omega

theorem orderL_eq : ∀ {a b : List UInt8}, orderL a b = 0 ↔ a = b
  | [], [] => by simp [orderL]
  | [], _ :: _ => by simp [orderL]
  | _ :: _, [] => by simp [orderL]
  | x :: a, y :: b => by
    have ih := @orderL_eq a b
    simp only [orderL, List.cons.injEq]
    by_cases h1 : rank x < rank y
    · rw [if_pos h1]
      constructor
      · intro h; cases h
      · rintro ⟨rfl, _⟩; omega
    · rw [if_neg h1]
      by_cases h2 : rank y < rank x
      · rw [if_pos h2]
        constructor
        · intro h; cases h
        · rintro ⟨rfl, _⟩; omega
      · rw [if_neg h2, ih]
        have : x = y := rank_inj (by omega)
        simp [this]
theorem orderL_swap : ∀ (a b : List UInt8), orderL b a = - orderL a b
  | [], [] => rfl
  | [], _ :: _ => rfl
  | _ :: _, [] => rfl
  | x :: a, y :: b => by
    have ih := orderL_swap a b
    simp only [orderL]
    by_cases h1 : rank x < rank y
    · rw [if_pos h1, if_neg (by omega), if_pos h1]; rfl
    · by_cases h2 : rank y < rank x
      · rw [if_pos h2, if_neg h1, if_pos h2]
      · rw [if_neg h1, if_neg h2, if_neg h2, if_neg h1, ih]
theorem orderL_trans : ∀ {a b c : List UInt8}, orderL a b < 0 → orderL b c < 0 → orderL a c < 0
  | [], [], _, h, _ => by simp [orderL] at h
  | [], _ :: _, [], _, h => by simp [orderL] at h
  | [], _ :: _, _ :: _, _, _ => by simp [orderL]
  | _ :: _, [], _, h, _ => by simp [orderL] at h
  | _ :: _, _ :: _, [], _, h => by simp [orderL] at h
  | x :: a, y :: b, z :: c, h, k => by
    have ih := @orderL_trans a b c
    simp only [orderL] at h k ⊢
    by_cases h1 : rank x < rank y
    · by_cases k1 : rank y < rank z
      · rw [if_pos (by omega)]; decide
      · rw [if_neg k1] at k
        by_cases k2 : rank z < rank y
        · rw [if_pos k2] at k; exact absurd k (by decide)
        · rw [if_pos (by omega)]; decide
    · rw [if_neg h1] at h
      by_cases h2 : rank y < rank x
      · rw [if_pos h2] at h; exact absurd h (by decide)
      · rw [if_neg h2] at h
        by_cases k1 : rank y < rank z
        · rw [if_pos (by omega)]; decide
        · rw [if_neg k1] at k
          by_cases k2 : rank z < rank y
          · rw [if_pos k2] at k; exact absurd k (by decide)
          · rw [if_neg k2] at k
            rw [if_neg (by omega), if_neg (by omega)]
            exact ih h k
theorem orderL_prefix : ∀ (a b : List UInt8), b ≠ [] → orderL a (a ++ b) < 0
  | [], [], h => absurd rfl h
  | [], _ :: _, _ => by simp [orderL]
  | x :: a, b, h => by
    have := orderL_prefix a b h
    simp only [List.cons_append, orderL, Int.lt_irrefl, if_false]
    exact this

end Go.Proofs.YtiikjcdjgmlcgaaGreatDoor.HBT
/- The tree, plainly: nodes in the order of their places; what one op, a request, a session's end make of them. -/
namespace Go.Proofs.YtiikjcdjgmlcgaaGreatDoor.HBT
open Go Go.Proofs.YtiikjcdjgmlcgaaGreatDoor.HB Go.RowKit
set_option maxRecDepth 8000

structure Fu where
  p : ByteArray
  d : ByteArray
  v : Int
  m : Int
  c : Int
  o : Int
  k : Int
  deriving DecidableEq, Inhabited
structure Opp where
  k : Int
  p : ByteArray
  d : ByteArray
  v : Int
  f : Int
  deriving DecidableEq
structure Res where
  p : ByteArray
  d : ByteArray
  v : Int
  m : Int
  c : Int
  o : Int
  kids : List ByteArray
  deriving DecidableEq
structure Chg where
  k : Int
  p : ByteArray
  d : ByteArray
  v : Int
  deriving DecidableEq

def eS : ByteArray := ⟨#[]⟩
instance (low high : ByteArray) : Decidable (childB low high) := inferInstanceAs (Decidable (_ ∧ _))
/-- The five digits of a counter. -/
def digs (n : Nat) : List UInt8 := [n / 10000 % 10, n / 1000 % 10, n / 100 % 10, n / 10 % 10, n % 10].map fun d => UInt8.ofNat (48 + d)
def countedB (p : ByteArray) (k : Int) : ByteArray := p ++ ⟨(digs k.toNat).toArray⟩
/-- May a counted node stand there? -/
def longB (p : ByteArray) : Bool := match (namesOf p).getLast? with
  | some n => decide (11 < n.size)
  | none => false
def nameB (p : ByteArray) : ByteArray := if parseE p ≠ 0 then eS else (namesOf p).getLast?.getD eS
def countedE (p : ByteArray) (k : Int) : Int := if parseE p ≠ 0 then parseE p else if namesOf p = [] then 47 else if longB p then 10 else if k < 0 ∨ 99999 < k then 1 else 0

def isCnt (f : Int) : Bool := decide (f = 2 ∨ f = 3)
def isBrf (f : Int) : Bool := decide (f = 1 ∨ f = 3)
def findF (l : List Fu) (p : ByteArray) : Option Fu := l.find? fun x => decide (x.p = p)
def kidsF (l : List Fu) (p : ByteArray) : List Fu := l.filter fun x => decide (childB x.p p)
/-- A node more, in its order. -/
def ins (x : Fu) : List Fu → List Fu
  | [] => [x]
  | y :: l => if orderB x.p y.p < 0 then x :: y :: l else y :: ins x l
/-- A node told otherwise. -/
def upd (l : List Fu) (a : Fu) : List Fu := l.map fun y => if y.p = a.p then a else y
def del (l : List Fu) (p : ByteArray) : List Fu := l.filter fun y => decide (y.p ≠ p)
def told (x : Fu) : Res := ⟨x.p, eS, x.v, x.m, x.c, x.o, []⟩
def goneC (x : Fu) : Chg := ⟨3, x.p, eS, x.v⟩

abbrev One := Except Int (List Fu × Res × List Chg)
/-- The node that a make makes. -/
def madeX (s st : Int) (a : Fu) (o : Opp) : Fu := ⟨if isCnt o.f then countedB o.p a.k else o.p, o.d, 0, st, st, if isBrf o.f then s else 0, 0⟩
def madeA (a : Fu) (o : Opp) : Fu := if isCnt o.f then { a with k := a.k + 1 } else a
def makeF (l : List Fu) (s st : Int) (o : Opp) : One :=
  if o.f < 0 ∨ 3 < o.f then .error 48
  else if parentE o.p = 47 then .error 47
  else if parentE o.p ≠ 0 ∨ (isCnt o.f = true ∧ longB o.p = true) then .error 10
  else if isBrf o.f = true ∧ s = 0 then .error 44
  else if 64 < o.d.size then .error 45
  else match findF l (parentB o.p) with
    | none => .error 40
    | some a =>
      if a.o ≠ 0 then .error 44
      else if isCnt o.f = true ∧ 99999 < a.k then .error 46
      else if (findF l (madeX s st a o).p).isSome then .error 41
      else if 64 ≤ l.length then .error 46
      else .ok (upd (ins (madeX s st a o) l) (madeA a o), told (madeX s st a o), [⟨1, (madeX s st a o).p, o.d, 0⟩])
def playF (l : List Fu) (s st : Int) (o : Opp) : One :=
  if o.k < 1 ∨ 7 < o.k then .error 48
  else if o.k = 1 then makeF l s st o
  else if parseE o.p ≠ 0 then .error 10
  else if o.k = 3 ∧ o.p = slash then .error 47
  else if o.k = 2 ∧ 64 < o.d.size then .error 45
  else match findF l o.p with
    | none => .error 40
    | some x =>
      if o.k ≤ 4 ∧ o.v ≠ -1 ∧ o.v ≠ x.v then .error 42
      else if o.k = 2 then
        if 2147483647 ≤ x.v then .error 46
        else .ok (upd l { x with d := o.d, c := st, v := x.v + 1 }, told { x with d := o.d, c := st, v := x.v + 1 }, [⟨2, x.p, o.d, x.v + 1⟩])
      else if o.k = 3 then
        if kidsF l x.p ≠ [] then .error 43
        else .ok (del l x.p, ⟨x.p, eS, 0, 0, 0, 0, []⟩, [goneC x])
      else if o.k = 5 then .ok (l, { told x with d := x.d }, [])
      else if o.k = 7 then .ok (l, { told x with kids := (kidsF l x.p).map fun y => nameB y.p }, [])
      else .ok (l, told x, [])

/-- The ops one behind the other: what was answered and changed so far; where it ends. -/
def goF (s st : Int) : List Fu → List Res → List Chg → Nat → List Opp → Except (Int × Nat) (List Fu × List Res × List Chg)
  | l, rs, cs, _, [] => .ok (l, rs, cs)
  | l, rs, cs, i, o :: os => match playF l s st o with
    | .error e => .error (e, i)
    | .ok (l', r, c) => goF s st l' (rs ++ [r]) (cs ++ c) (i + 1) os

structure Rep where
  st : Int
  code : Int
  at_ : Int
  rs : List Res
  deriving DecidableEq
def playR (l : List Fu) (s st : Int) (ops : List Opp) : List Fu × Rep × List Chg :=
  if 4 < ops.length then (l, ⟨st, 2, 0, []⟩, [])
  else if s < 0 ∨ 2147483647 < s ∨ st < 1 ∨ 2147483647 < st then (l, ⟨st, 3, 0, []⟩, [])
  else if ops = [] then (l, ⟨st, 48, 0, []⟩, [])
  else match goF s st l [] [] 0 ops with
    | .error (e, i) => (l, ⟨st, e, i, []⟩, [])
    | .ok (l', rs, cs) => (l', ⟨st, 0, 0, rs⟩, cs)
def endF (l : List Fu) (s : Int) : List Fu × List Chg :=
  if s < 1 then (l, []) else (l.filter fun x => decide (x.o ≠ s), (l.filter fun x => decide (x.o = s)).map goneC)

/-! ### Order -/
def Sorted (l : List Fu) : Prop := l.Pairwise fun a b => orderB a.p b.p < 0
theorem orderB_irrefl (a : ByteArray) : ¬ orderB a a < 0 := by
  have : orderB a a = 0 := orderL_eq.2 rfl
  omega
theorem orderB_eq {a b : ByteArray} : orderB a b = 0 ↔ a = b := ⟨fun h => ByteArray.ext (Array.toList_inj.mp (orderL_eq.1 h)), fun h => by subst h; exact orderL_eq.2 rfl⟩
theorem orderB_swap (a b : ByteArray) : orderB b a = - orderB a b := orderL_swap _ _
theorem orderB_trans {a b c : ByteArray} (h : orderB a b < 0) (k : orderB b c < 0) : orderB a c < 0 := orderL_trans h k
theorem Sorted.nodup {l : List Fu} (h : Sorted l) : (l.map (·.p)).Nodup := by
  rw [List.nodup_iff_pairwise_ne, List.pairwise_map]
  refine List.Pairwise.imp ?_ (show List.Pairwise (fun a b => orderB a.p b.p < 0) l from h)
  intro a b hab e
  rw [e] at hab
  exact orderB_irrefl _ hab
theorem Sorted.uniq {l m : List Fu} (hl : Sorted l) (hm : Sorted m) (h : l.Perm m) : l = m := by
  refine List.Perm.eq_of_pairwise (le := fun (a b : Fu) => orderB a.p b.p < 0) (fun a b _ _ h1 h2 => ?_) hl hm h
  exact (orderB_irrefl _ (orderB_trans h1 h2)).elim

theorem ins_perm (x : Fu) : ∀ l : List Fu, (ins x l).Perm (x :: l)
  | [] => .refl _
  | y :: l => by
    unfold ins
    split
    · exact .refl _
    · exact ((ins_perm x l).cons y).trans (List.Perm.swap x y l)
theorem ins_sorted {x : Fu} : ∀ {l : List Fu}, Sorted l → (∀ y ∈ l, y.p ≠ x.p) → Sorted (ins x l)
  | [], _, _ => List.pairwise_singleton _ _
  | y :: l, h, hne => by
    unfold ins
    have h' := List.pairwise_cons.1 h
    split
    · rename_i hlt
      refine List.pairwise_cons.2 ⟨fun z hz => ?_, h⟩
      rcases List.mem_cons.1 hz with rfl | hz
      · exact hlt
      · exact orderB_trans hlt (h'.1 z hz)
    · rename_i hlt
      refine List.pairwise_cons.2 ⟨fun z hz => ?_, ins_sorted h'.2 fun z hz => hne z (.tail _ hz)⟩
      rcases List.mem_cons.1 ((ins_perm x l).mem_iff.1 hz) with rfl | hz
      · have h1 := hne y (.head _)
        have h2 : orderB z.p y.p ≠ 0 := fun e => h1 (orderB_eq.1 e).symm
        have := orderB_swap z.p y.p
        omega
      · exact h'.1 z hz
theorem upd_sorted {l : List Fu} {a : Fu} (h : Sorted l) : Sorted (upd l a) := by
  unfold Sorted upd
  rw [List.pairwise_map]
  refine h.imp fun {x y} hxy => ?_
  have e : ∀ z : Fu, (if z.p = a.p then a else z).p = z.p := fun z => by split <;> simp_all
  rw [e, e]; exact hxy
theorem upd_places (l : List Fu) (a : Fu) : (upd l a).map (·.p) = l.map (·.p) := by
  unfold upd
  rw [List.map_map]
  refine List.map_congr_left fun z _ => ?_
  simp only [Function.comp]
  split <;> simp_all
theorem del_sorted {l : List Fu} {p : ByteArray} (h : Sorted l) : Sorted (del l p) := h.filter _

theorem findF_some {l : List Fu} {p : ByteArray} {x : Fu} (h : findF l p = some x) : x ∈ l ∧ x.p = p := by
  unfold findF at h
  exact ⟨List.mem_of_find?_eq_some h, by simpa using List.find?_some h⟩
theorem findF_none {l : List Fu} {p : ByteArray} (h : findF l p = none) : ∀ x ∈ l, x.p ≠ p := by
  unfold findF at h
  simpa using h
theorem mem_uniq {l : List Fu} (h : (l.map (·.p)).Nodup) {x y : Fu} (hx : x ∈ l) (hy : y ∈ l) (e : x.p = y.p) : x = y := by
  obtain ⟨i, hi, ei⟩ := List.mem_iff_getElem.1 hx
  obtain ⟨j, hj, ej⟩ := List.mem_iff_getElem.1 hy
  have : i = j := by
    refine (List.getElem?_inj (by simpa using hi) h).1 ?_
    simp [hi, hj, ei, ej, e]
  subst this
  rw [← ei, ← ej]
theorem findF_mem {l : List Fu} (h : (l.map (·.p)).Nodup) {x : Fu} (hx : x ∈ l) : findF l x.p = some x := by
  cases e : findF l x.p with
  | none => exact absurd rfl (findF_none e x hx)
  | some y =>
    obtain ⟨h1, h2⟩ := findF_some e
    rw [mem_uniq h h1 hx h2]
theorem nodup_perm {l m : List Fu} (h : l.Perm m) (hn : (m.map (·.p)).Nodup) : (l.map (·.p)).Nodup := (h.map _).nodup_iff.2 hn
theorem findF_perm {l m : List Fu} (h : l.Perm m) (hn : (m.map (·.p)).Nodup) (p : ByteArray) : findF l p = findF m p := by
  cases e : findF l p with
  | none =>
    cases e2 : findF m p with
    | none => rfl
    | some y =>
      obtain ⟨h1, h2⟩ := findF_some e2
      exact absurd h2 (findF_none e y (h.mem_iff.2 h1))
  | some x =>
    obtain ⟨h1, h2⟩ := findF_some e
    rw [← h2, findF_mem hn (h.mem_iff.1 h1)]

end Go.Proofs.YtiikjcdjgmlcgaaGreatDoor.HBT
/- The tree, plainly: counted places, what always holds of the nodes. -/
namespace Go.Proofs.YtiikjcdjgmlcgaaGreatDoor.HBT
open Go Go.Proofs.YtiikjcdjgmlcgaaGreatDoor.HB Go.RowKit
set_option maxRecDepth 8000

theorem join_flat : ∀ l : List (List UInt8), l ≠ [] → 47 :: Lib.join l [47] = (l.map fun x => 47 :: x).flatten
  | [], h => absurd rfl h
  | [x], _ => by rw [Lib.join_one]; simp
  | x :: y :: l, _ => by
    have e : Lib.join (x :: y :: l) [47] = x ++ ([47] ++ Lib.join (y :: l) [47]) := by simp [Lib.join, List.intercalate, List.intersperse]
    have ih := join_flat (y :: l) (by simp)
    rw [e, List.map_cons, List.flatten_cons, ← ih]
    simp
theorem placed_flat {l : List ByteArray} (h : l ≠ []) : (placedB l).data.toList = (l.map fun x => 47 :: x.data.toList).flatten := by
  rw [placed_data]
  unfold joinB
  rw [join_flat _ (by simpa using h), List.map_map]
  rfl
theorem placed_nil : placedB [] = slash := (placed_slash ⟨by simp, by simp⟩).2 rfl
theorem parse_slash : parseE slash = 0 := by unfold parseE; rw [if_neg (by decide), if_pos rfl]
theorem names_slash : namesOf slash = [] := by unfold namesOf; rw [if_pos rfl]
theorem placed_snoc {l : List ByteArray} {x : ByteArray} (h : l ≠ []) : (placedB (l ++ [x])).data.toList = (placedB l).data.toList ++ 47 :: x.data.toList := by
  rw [placed_flat (by simp), placed_flat h]
  simp
/-- The last name longer by some bytes. -/
theorem placed_longer (l : List ByteArray) (x : ByteArray) (t : ByteArray) : placedB (l ++ [x ++ t]) = placedB (l ++ [x]) ++ t := by
  apply bytes_inj
  rw [placed_flat (by simp)]
  have : (placedB (l ++ [x]) ++ t).data.toList = (placedB (l ++ [x])).data.toList ++ t.data.toList := by simp [ByteArray.data_append]
  rw [this, placed_flat (by simp)]
  simp [ByteArray.data_append]
/-- A place that is not the root: the place above, the last name. -/
theorem place_split {p : ByteArray} (h : parseE p = 0) (hn : namesOf p ≠ []) : ∃ l x, namesOf p = l ++ [x] ∧ okNames (l ++ [x]) ∧ p = placedB (l ++ [x]) ∧ parentB p = placedB l ∧ parentE p = 0 ∧ okNames l := by
  obtain ⟨h1, h2⟩ := place_names h
  obtain ⟨l, x, e⟩ : ∃ l x, namesOf p = l ++ [x] := ⟨(namesOf p).dropLast, (namesOf p).getLast hn, (List.dropLast_concat_getLast hn).symm⟩
  rw [e] at h1 h2
  have h3 := parent_placed h1
  rw [← h2] at h3
  refine ⟨l, x, e, h1, h2, ?_, ?_, ?_⟩
  · rw [h3.2 (by simp)]; simp
  · rw [h3.1, if_neg (by simp)]
  · have := h1.take l.length
    simpa using this
theorem names_iff {p : ByteArray} (h : parseE p = 0) : namesOf p = [] ↔ p = slash := by
  obtain ⟨h1, h2⟩ := place_names h
  constructor
  · intro e; rw [e] at h2; rw [h2, placed_nil]
  · intro e; rw [e]; exact names_slash
theorem parentE_zero {p : ByteArray} (h : parentE p = 0) : parseE p = 0 ∧ p ≠ slash := by
  unfold parentE at h
  split at h
  · omega
  · rename_i h1
    have h1 : parseE p = 0 := Classical.not_not.1 h1
    split at h
    · cases h
    · rename_i h2
      exact ⟨h1, fun e => h2 ((names_iff h1).2 e)⟩
theorem parentE_of {p : ByteArray} (h : parseE p = 0) (hn : p ≠ slash) : parentE p = 0 := by
  unfold parentE
  rw [if_neg (by omega), if_neg fun e => hn ((names_iff h).1 e)]
theorem parse_not47 (p : ByteArray) : parseE p ≠ 47 := by
  unfold parseE
  repeat' split
  all_goals decide
theorem parentE_47 {p : ByteArray} : parentE p = 47 ↔ p = slash := by
  constructor
  · intro h
    unfold parentE at h
    split at h
    · exact absurd h (parse_not47 p)
    · rename_i h1
      split at h
      · rename_i h2; exact (names_iff (Classical.not_not.1 h1)).1 h2
      · cases h
  · intro h
    subst h
    unfold parentE
    rw [if_neg (by rw [parse_slash]; decide), if_pos names_slash]
theorem parent_ok {p : ByteArray} (h : parentE p = 0) : parseE (parentB p) = 0 ∧ orderB (parentB p) p < 0 := by
  obtain ⟨h1, h2⟩ := parentE_zero h
  obtain ⟨l, x, _, e2, e3, e4, _, e6⟩ := place_split h1 fun e => h2 ((names_iff h1).1 e)
  rw [e4]
  refine ⟨(names_placed e6).1, ?_⟩
  by_cases hl : l = []
  · subst hl
    have hd : p.data.toList = [47] ++ x.data.toList := by rw [e3, placed_flat (by simp)]; simp
    have hs : (placedB []).data.toList = [47] := by rw [placed_nil]; rfl
    unfold orderB
    rw [hd, hs]
    exact orderL_prefix _ _ (name_ne_nil (e2.2 x (by simp)))
  · have hd : p.data.toList = (placedB l).data.toList ++ 47 :: x.data.toList := by rw [e3, placed_snoc hl]
    unfold orderB
    rw [hd]
    exact orderL_prefix _ _ (by simp)
theorem slash_first {p : ByteArray} (h : parseE p = 0) (hn : p ≠ slash) : orderB slash p < 0 := by
  obtain ⟨h1, h2⟩ := place_names h
  have hne : namesOf p ≠ [] := fun e => hn ((names_iff h).1 e)
  have hd : p.data.toList = [47] ++ joinB (namesOf p) := by
    conv => lhs; rw [h2]
    rw [placed_data]; rfl
  unfold orderB
  rw [hd]
  exact orderL_prefix _ _ (joinB_ne_nil h1 hne)
theorem place_size {p : ByteArray} (h : parseE p = 0) : p.size ≤ 102 := by
  unfold parseE at h
  split at h
  · cases h
  · omega

/-! ### Counted places -/
theorem digs_length (n : Nat) : (digs n).length = 5 := rfl
theorem digs_name (n : Nat) : ∀ b ∈ digs n, nameByte b.toNat = true := by
  intro b hb
  unfold digs at hb
  obtain ⟨d, hd, rfl⟩ := List.mem_map.1 hb
  have hd10 : d < 10 := by
    simp only [List.mem_cons, List.mem_nil_iff, or_false] at hd
    rcases hd with rfl | rfl | rfl | rfl | rfl <;> exact Nat.mod_lt _ (by decide)
  have : (UInt8.ofNat (48 + d)).toNat = 48 + d := by
    rw [UInt8.toNat_ofNat']
    omega
  rw [this]
  unfold nameByte
  have h1 : decide (48 ≤ 48 + d) = true := by simp
  have h2 : decide (48 + d ≤ 57) = true := by simp; omega
  rw [h1, h2]
  simp
theorem size_list (s : ByteArray) : s.size = s.data.toList.length := by rw [Array.length_toList]; rfl
theorem counted_name {x : ByteArray} (h : isNameB x = true) (h11 : x.size ≤ 11) (k : Int) : isNameB (x ++ ⟨(digs k.toNat).toArray⟩) = true := by
  have hd : (x ++ (⟨(digs k.toNat).toArray⟩ : ByteArray)).data.toList = x.data.toList ++ digs k.toNat := by simp [ByteArray.data_append]
  have hs : (x ++ (⟨(digs k.toNat).toArray⟩ : ByteArray)).size = x.size + 5 := by rw [size_list, hd, List.length_append, digs_length, size_list]
  unfold isNameB at h ⊢
  simp only [Bool.and_eq_true, decide_eq_true_eq] at h ⊢
  refine ⟨⟨⟨⟨fun e => ?_, by omega⟩, fun e => ?_⟩, fun e => ?_⟩, ?_⟩
  · rw [e] at hs; have : (⟨#[]⟩ : ByteArray).size = 0 := rfl; omega
  · rw [e] at hs; have : (⟨#[46]⟩ : ByteArray).size = 1 := rfl; omega
  · rw [e] at hs; have : (⟨#[46, 46]⟩ : ByteArray).size = 2 := rfl; omega
  · rw [hd, List.all_append, Bool.and_eq_true]
    exact ⟨h.2, List.all_eq_true.2 fun b hb => digs_name _ b hb⟩
theorem counted_place {p : ByteArray} (h : parentE p = 0) (hl : longB p = false) (k : Int) : parentE (countedB p k) = 0 ∧ parseE (countedB p k) = 0 ∧ parentB (countedB p k) = parentB p := by
  obtain ⟨h1, h2⟩ := parentE_zero h
  obtain ⟨l, x, e1, e2, e3, e4, _, e6⟩ := place_split h1 fun e => h2 ((names_iff h1).1 e)
  have h11 : x.size ≤ 11 := by
    unfold longB at hl
    rw [e1, List.getLast?_concat] at hl
    simp at hl
    exact hl
  have hn := counted_name (e2.2 x (by simp)) h11 k
  have hok : okNames (l ++ [x ++ ⟨(digs k.toNat).toArray⟩]) := by
    refine ⟨by have := e2.1; simpa using this, fun y hy => ?_⟩
    rcases List.mem_append.1 hy with hy | hy
    · exact e6.2 y hy
    · simp at hy; subst hy; exact hn
  have e : countedB p k = placedB (l ++ [x ++ ⟨(digs k.toNat).toArray⟩]) := by rw [placed_longer, ← e3]; rfl
  have h3 := parent_placed hok
  rw [← e] at h3
  refine ⟨by rw [h3.1, if_neg (by simp)], by rw [e]; exact (names_placed hok).1, ?_⟩
  rw [h3.2 (by simp), e4]
  simp

/-! ### What always holds -/
def okX (x : Fu) : Prop := parseE x.p = 0 ∧ x.d.size ≤ 64 ∧ (0 ≤ x.v ∧ x.v ≤ 2147483647) ∧ (0 ≤ x.m ∧ x.m ≤ 2147483647) ∧ (0 ≤ x.c ∧ x.c ≤ 2147483647) ∧ (0 ≤ x.o ∧ x.o ≤ 2147483647) ∧ (0 ≤ x.k ∧ x.k ≤ 100000) ∧ (x.o = 0 ∨ x.k = 0)
structure TInv (l : List Fu) : Prop where
  sorted : Sorted l
  len : l.length ≤ 64
  root : ∃ r ∈ l, r.p = slash ∧ r.o = 0
  ok : ∀ x ∈ l, okX x
  up : ∀ x ∈ l, x.p ≠ slash → ∃ a ∈ l, a.p = parentB x.p ∧ a.o = 0

def rootF : Fu := ⟨slash, eS, 0, 0, 0, 0, 0⟩
theorem TInv.new : TInv [rootF] where
  sorted := List.pairwise_singleton _ _
  len := by simp
  root := ⟨rootF, by simp, rfl, rfl⟩
  ok := fun x hx => by
    simp at hx; subst hx
    refine ⟨parse_slash, by decide, ?_⟩
    decide
  up := fun x hx h => by simp at hx; subst hx; exact absurd rfl h

theorem upd_mem {l : List Fu} {a x : Fu} (h : x ∈ upd l a) : x = a ∨ x ∈ l := by
  unfold upd at h
  obtain ⟨y, hy, e⟩ := List.mem_map.1 h
  split at e
  · exact .inl e.symm
  · exact .inr (e ▸ hy)
theorem upd_of {l : List Fu} {a y : Fu} (h : y ∈ l) : ∃ z ∈ upd l a, z.p = y.p ∧ (z = y ∨ z = a) := by
  unfold upd
  by_cases e : y.p = a.p
  · exact ⟨a, List.mem_map.2 ⟨y, h, by rw [if_pos e]⟩, e.symm, .inr rfl⟩
  · exact ⟨y, List.mem_map.2 ⟨y, h, by rw [if_neg e]⟩, rfl, .inl rfl⟩
theorem upd_len (l : List Fu) (a : Fu) : (upd l a).length = l.length := by unfold upd; rw [List.length_map]

theorem TInv.upd {l : List Fu} (h : TInv l) {a a' : Fu} (ha : a ∈ l) (hp : a'.p = a.p) (ho : a'.o = a.o) (hok : okX a') : TInv (HBT.upd l a') where
  sorted := upd_sorted h.sorted
  len := by rw [upd_len]; exact h.len
  root := by
    obtain ⟨r, hr, e1, e2⟩ := h.root
    obtain ⟨z, hz, e3, e4⟩ := upd_of (a := a') hr
    refine ⟨z, hz, e3.trans e1, ?_⟩
    rcases e4 with rfl | rfl
    · exact e2
    · have := mem_uniq h.sorted.nodup hr ha (by rw [← e3, hp])
      rw [ho, ← this]; exact e2
  ok := fun x hx => (upd_mem hx).elim (fun e => e ▸ hok) (h.ok x)
  up := fun x hx hn => by
    have : ∃ y ∈ l, y.p = x.p := by
      rcases upd_mem hx with rfl | hx
      · exact ⟨a, ha, hp.symm⟩
      · exact ⟨x, hx, rfl⟩
    obtain ⟨y, hy, e⟩ := this
    obtain ⟨b, hb, e1, e2⟩ := h.up y hy (by rw [e]; exact hn)
    obtain ⟨z, hz, e3, e4⟩ := upd_of (a := a') hb
    refine ⟨z, hz, by rw [e3, e1, e], ?_⟩
    rcases e4 with rfl | rfl
    · exact e2
    · have := mem_uniq h.sorted.nodup hb ha (by rw [← e3, hp])
      rw [ho, ← this]; exact e2

theorem TInv.ins {l : List Fu} (h : TInv l) {x a : Fu} (hne : ∀ y ∈ l, y.p ≠ x.p) (hl : l.length < 64) (hok : okX x) (ha : a ∈ l) (hp : a.p = parentB x.p) (ho : a.o = 0) : TInv (HBT.ins x l) where
  sorted := ins_sorted h.sorted hne
  len := by rw [(ins_perm x l).length_eq, List.length_cons]; omega
  root := by
    obtain ⟨r, hr, e⟩ := h.root
    exact ⟨r, (ins_perm x l).mem_iff.2 (.tail _ hr), e⟩
  ok := fun y hy => by
    rcases List.mem_cons.1 ((ins_perm x l).mem_iff.1 hy) with rfl | hy
    · exact hok
    · exact h.ok y hy
  up := fun y hy hn => by
    rcases List.mem_cons.1 ((ins_perm x l).mem_iff.1 hy) with rfl | hy
    · exact ⟨a, (ins_perm _ l).mem_iff.2 (.tail _ ha), hp, ho⟩
    · obtain ⟨b, hb, e⟩ := h.up y hy hn
      exact ⟨b, (ins_perm x l).mem_iff.2 (.tail _ hb), e⟩

/-- Some nodes less, none of them a parent or the root. -/
theorem TInv.filter {l : List Fu} (h : TInv l) (f : Fu → Bool) (hr : ∀ x ∈ l, f x = false → x.p ≠ slash) (hk : ∀ x ∈ l, f x = false → ∀ y ∈ l, f y = true → childB y.p x.p → x.o ≠ 0) : TInv (l.filter f) where
  sorted := h.sorted.filter _
  len := Nat.le_trans (List.length_filter_le _ _) h.len
  root := by
    obtain ⟨r, hm, e1, e2⟩ := h.root
    refine ⟨r, List.mem_filter.2 ⟨hm, ?_⟩, e1, e2⟩
    cases hf : f r with
    | true => rfl
    | false => exact absurd e1 (hr r hm hf)
  ok := fun x hx => h.ok x (List.mem_filter.1 hx).1
  up := fun x hx hn => by
    obtain ⟨hx1, hx2⟩ := List.mem_filter.1 hx
    obtain ⟨a, ha, e1, e2⟩ := h.up x hx1 hn
    refine ⟨a, List.mem_filter.2 ⟨ha, ?_⟩, e1, e2⟩
    cases hf : f a with
    | true => rfl
    | false => exact absurd e2 (hk a ha hf x hx1 hx2 ⟨parentE_of (h.ok x hx1).1 hn, e1.symm⟩)

theorem makeF_inv {l l' : List Fu} {s st : Int} {o : Opp} {r : Res} {cs : List Chg} (h : TInv l) (hs : 0 ≤ s ∧ s ≤ 2147483647) (ht : 1 ≤ st ∧ st ≤ 2147483647) (hp : makeF l s st o = .ok (l', r, cs)) : TInv l' := by
  unfold makeF at hp
  split at hp
  · cases hp
  rename_i hfl
  split at hp
  · cases hp
  rename_i h47
  split at hp
  · cases hp
  rename_i h10
  split at hp
  · cases hp
  rename_i h44
  split at hp
  · cases hp
  rename_i h45
  split at hp
  · cases hp
  rename_i a hfa
  split at hp
  · cases hp
  rename_i hao
  have hao : a.o = 0 := Classical.not_not.1 hao
  split at hp
  · cases hp
  rename_i h46
  split at hp
  · cases hp
  rename_i h41
  split at hp
  · cases hp
  rename_i h64
  have hp0 : parentE o.p = 0 := Classical.not_not.1 fun e => h10 (.inl e)
  obtain ⟨ham, hap⟩ := findF_some hfa
  have hx : parseE (madeX s st a o).p = 0 ∧ parentB (madeX s st a o).p = parentB o.p := by
    unfold madeX
    by_cases hc : isCnt o.f = true
    · have hlong : longB o.p = false := by
        cases e : longB o.p with
        | false => rfl
        | true => exact absurd (.inr ⟨hc, e⟩) h10
      have := counted_place hp0 hlong a.k
      simp only [hc, if_true]
      exact this.2
    · have hc : isCnt o.f = false := by simpa using hc
      simp only [hc]
      exact ⟨(parentE_zero hp0).1, rfl⟩
  have hne : ∀ y ∈ l, y.p ≠ (madeX s st a o).p := by
    cases e : findF l (madeX s st a o).p with
    | none => exact findF_none e
    | some y => rw [e] at h41; exact absurd rfl h41
  have hokx : okX (madeX s st a o) := by
    refine ⟨hx.1, by show o.d.size ≤ 64; omega, ⟨by show (0 : Int) ≤ 0; omega, by show (0 : Int) ≤ _; omega⟩, ⟨by show 0 ≤ st; omega, ht.2⟩, ⟨by show 0 ≤ st; omega, ht.2⟩, ?_, ⟨by show (0 : Int) ≤ 0; omega, by show (0 : Int) ≤ _; omega⟩, .inr rfl⟩
    show 0 ≤ (if isBrf o.f then s else 0) ∧ (if isBrf o.f then s else 0) ≤ 2147483647
    split
    · exact hs
    · omega
  have hins := h.ins hne (by omega) hokx ham (by rw [hx.2]; exact hap) hao
  have ham' : a ∈ ins (madeX s st a o) l := (ins_perm _ _).mem_iff.2 (.tail _ ham)
  cases hp
  have hka := h.ok a ham
  refine hins.upd ham' ?_ ?_ ?_
  · unfold madeA; split <;> rfl
  · unfold madeA; split <;> rfl
  · unfold madeA
    split
    · rename_i hc
      have : ¬ 99999 < a.k := fun e => h46 ⟨hc, e⟩
      obtain ⟨a1, a2, a3, a4, a5, a6, a7, a8⟩ := hka
      exact ⟨a1, a2, a3, a4, a5, a6, ⟨by show 0 ≤ a.k + 1; omega, by show a.k + 1 ≤ 100000; omega⟩, .inl hao⟩
    · exact hka

theorem playF_inv {l l' : List Fu} {s st : Int} {o : Opp} {r : Res} {cs : List Chg} (h : TInv l) (hs : 0 ≤ s ∧ s ≤ 2147483647) (ht : 1 ≤ st ∧ st ≤ 2147483647) (hp : playF l s st o = .ok (l', r, cs)) : TInv l' := by
  unfold playF at hp
  by_cases c1 : o.k < 1 ∨ 7 < o.k
  · rw [if_pos c1] at hp; cases hp
  rw [if_neg c1] at hp
  by_cases c2 : o.k = 1
  · rw [if_pos c2] at hp; exact makeF_inv h hs ht hp
  rw [if_neg c2] at hp
  by_cases c3 : parseE o.p ≠ 0
  · rw [if_pos c3] at hp; cases hp
  rw [if_neg c3] at hp
  by_cases hroot : o.k = 3 ∧ o.p = slash
  · rw [if_pos hroot] at hp; cases hp
  rw [if_neg hroot] at hp
  by_cases hlarge : o.k = 2 ∧ 64 < o.d.size
  · rw [if_pos hlarge] at hp; cases hp
  rw [if_neg hlarge] at hp
  cases hfx : findF l o.p with
  | none => rw [hfx] at hp; cases hp
  | some x =>
  rw [hfx] at hp
  dsimp only at hp
  obtain ⟨hxm, hxp⟩ := findF_some hfx
  by_cases c4 : o.k ≤ 4 ∧ o.v ≠ -1 ∧ o.v ≠ x.v
  · rw [if_pos c4] at hp; cases hp
  rw [if_neg c4] at hp
  by_cases h2 : o.k = 2
  · rw [if_pos h2] at hp
    by_cases hv : 2147483647 ≤ x.v
    · rw [if_pos hv] at hp; cases hp
    rw [if_neg hv] at hp
    cases hp
    obtain ⟨a1, a2, a3, a4, a5, a6, a7, a8⟩ := h.ok x hxm
    refine h.upd hxm rfl rfl ⟨a1, ?_, ⟨by show 0 ≤ x.v + 1; omega, by show x.v + 1 ≤ _; omega⟩, a4, ⟨by show 0 ≤ st; omega, ht.2⟩, a6, a7, a8⟩
    show o.d.size ≤ 64
    have : ¬ 64 < o.d.size := fun e => hlarge ⟨h2, e⟩
    omega
  rw [if_neg h2] at hp
  by_cases h3 : o.k = 3
  · rw [if_pos h3] at hp
    by_cases hk : kidsF l x.p ≠ []
    · rw [if_pos hk] at hp; cases hp
    rw [if_neg hk] at hp
    have hk : kidsF l x.p = [] := Classical.not_not.1 hk
    cases hp
    refine h.filter _ (fun y hy hf => ?_) fun y hy hf z hz hfz hch => ?_
    · have : y.p = x.p := by simpa using hf
      rw [this, hxp]
      exact fun e => hroot ⟨h3, e⟩
    · have e : y.p = x.p := by simpa using hf
      rw [e] at hch
      have : z ∈ kidsF l x.p := List.mem_filter.2 ⟨hz, by simpa using hch⟩
      rw [hk] at this
      cases this
  rw [if_neg h3] at hp
  by_cases h5 : o.k = 5
  · rw [if_pos h5] at hp; cases hp; exact h
  rw [if_neg h5] at hp
  by_cases h7 : o.k = 7
  · rw [if_pos h7] at hp; cases hp; exact h
  · rw [if_neg h7] at hp; cases hp; exact h

theorem goF_inv {s st : Int} (hs : 0 ≤ s ∧ s ≤ 2147483647) (ht : 1 ≤ st ∧ st ≤ 2147483647) : ∀ {os : List Opp} {l l' : List Fu} {rs rs' : List Res} {cs cs' : List Chg} {i : Nat}, TInv l → goF s st l rs cs i os = .ok (l', rs', cs') → TInv l'
  | [], _, _, _, _, _, _, _, h, e => by unfold goF at e; cases e; exact h
  | o :: os, l, l', rs, rs', cs, cs', i, h, e => by
    unfold goF at e
    split at e
    · cases e
    · rename_i l2 r c e2
      exact goF_inv hs ht (playF_inv h hs ht e2) e
theorem playR_inv {l : List Fu} {s st : Int} {ops : List Opp} (h : TInv l) : TInv (playR l s st ops).1 := by
  unfold playR
  split
  · exact h
  split
  · exact h
  rename_i hn
  split
  · exact h
  split
  · exact h
  · rename_i l' rs cs e
    exact goF_inv (by omega) (by omega) h e
theorem endF_inv {l : List Fu} {s : Int} (h : TInv l) : TInv (endF l s).1 := by
  unfold endF
  split
  · exact h
  rename_i hs
  refine h.filter _ (fun x hx hf e => ?_) fun x hx hf y hy _ hch => ?_
  · have hf : x.o = s := by simpa using hf
    obtain ⟨r, hr, e1, e2⟩ := h.root
    have := mem_uniq h.sorted.nodup hx hr (e.trans e1.symm)
    rw [this] at hf
    omega
  · have hf : x.o = s := by simpa using hf
    omega
end Go.Proofs.YtiikjcdjgmlcgaaGreatDoor.HBT
/- The tree's small texts: New, none, told, gone, needs; how a tree lies. -/
namespace Go.Proofs.YtiikjcdjgmlcgaaGreatDoor.HBT
open Go Go.Proofs.YtiikjcdjgmlcgaaGreatDoor.HB Go.RowKit
set_option maxRecDepth 8000

abbrev encX (x : Fu) : AV := .agg [.str x.p, .str x.d, .int .i64 x.v, .int .i64 x.m, .int .i64 x.c, .int .i64 x.o, .int .i64 x.k]
abbrev encO (o : Opp) : AV := .agg [.int .i64 o.k, .str o.p, .str o.d, .int .i64 o.v, .int .i64 o.f]
abbrev encC (c : Chg) : AV := .agg [.int .i64 c.k, .str c.p, .str c.d, .int .i64 c.v]
abbrev kidsA (l : List ByteArray) : AV := .ro 1 (l.map .str) l.length
abbrev encR (r : Res) : AV := .agg [.str r.p, .str r.d, .int .i64 r.v, .int .i64 r.m, .int .i64 r.c, .int .i64 r.o, kidsA r.kids]
abbrev tX : TypeId := 58
abbrev tC : TypeId := 100
abbrev tR : TypeId := 95
abbrev tO : TypeId := 93
abbrev tT : TypeId := 82
abbrev tW : TypeId := 91
/-- A list of one's own, made or not. -/
def LN {α : Type} (e : α → AV) (t : TypeId) (sz : Nat) (k : Nat) (l : List α) (v : AV) (g : Nat) (o : AObj) : Prop := (l = [] ∧ v = .nils ∧ o = .dead) ∨ (∃ Cp, v = .sl k g Cp l.length ∧ o = .row t sz Cp (l.map e))
abbrev LX := LN encX tX 7
abbrev LC := LN encC tC 4
abbrev LR := LN encR tR 7
theorem LN.snoc {α : Type} {e : α → AV} {t : TypeId} {sz k : Nat} {l : List α} {x : α} {g Cp : Nat} : LN e t sz k (l ++ [x]) (.sl k g Cp ((l.map e).length + 1)) g (.row t sz Cp (l.map e ++ [e x])) := .inr ⟨Cp, by simp, by simp⟩
theorem LN.one {α : Type} {e : α → AV} {t : TypeId} {sz k : Nat} {l : List α} {x : α} {g Cp : Nat} (h : l = []) : LN e t sz k (l ++ [x]) (.sl k g Cp 1) g (.row t sz Cp [e x]) := .inr ⟨Cp, by subst h; rfl, by subst h; rfl⟩
def keyX (x : Fu) : Value := .string x.p
def valX (x : Fu) : Value := .agg #[.string x.p, .string x.d, .int .i64 x.v, .int .i64 x.m, .int .i64 x.c, .int .i64 x.o, .int .i64 x.k]
theorem encX_V (x : Fu) : toV (encX x) = some (valX x) := rfl
theorem encX_V1 (x : Fu) : toVs [.str x.p, .str x.d, .int .i64 x.v, .int .i64 x.m, .int .i64 x.c, .int .i64 x.o, .int .i64 x.k] = some [.string x.p, .string x.d, .int .i64 x.v, .int .i64 x.m, .int .i64 x.c, .int .i64 x.o, .int .i64 x.k] := rfl
abbrev MX := MapOk keyX valX

/-- A tree in memory. -/
def TreeL (gt gm : Nat) (es : Array MapEntry) (cl : Nat) : AHeap := [(gt, .cells tT [.any (.map (some gm))]), (gm, .obj (.map es cl))]
/-- These are a map's nodes, and these in order. -/
structure TM (l : List Fu) (es : Array MapEntry) (cl : Nat) : Prop where
  map : ∃ M : List Fu, M.Perm l ∧ MX M es cl

theorem none_spec (gt : Nat) (m : Option Nat) : FnSpec C 45 [.ptr 0 gt 0] [(gt, .cells tT [.any (.map m)])] (fun r L' => r = .bool m.isNone ∧ L' = [(gt, .cells tT [.any (.map m)])]) := by
  refine FnSpec.start C_ok Tryz.func45 rfl rfl Tryz.ntmps45 ?_
  repeat (first | refine OpsA.cons ?_ | refine OpsA.nil ?_ | refine Run.textA C_ok (aopC_sound C_ok) ?_ | refine And.intro rfl ?_ | refine And.intro (Nat.le_of_ble_eq_true rfl) ?_ | refine And.intro (Int.natCast_nonneg _) ?_ | refine fun (_ : Nat) => ?_ | refine Run.go rfl ?_ | refine Cont.go rfl ?_)
  exact ⟨_, _, FinOk.keep _ [0] (Sub.refl _) (by decide) rfl, rfl, rfl⟩
theorem none_nil : FnSpec C 45 [.nilp] [] (fun r L' => r = .bool true ∧ L' = []) := by
  refine FnSpec.start C_ok Tryz.func45 rfl rfl Tryz.ntmps45 ?_
  repeat (first | refine OpsA.cons ?_ | refine OpsA.nil ?_ | refine Run.textA C_ok (aopC_sound C_ok) ?_ | refine And.intro rfl ?_ | refine And.intro (Nat.le_of_ble_eq_true rfl) ?_ | refine And.intro (Int.natCast_nonneg _) ?_ | refine fun (_ : Nat) => ?_ | refine Run.go rfl ?_ | refine Cont.go rfl ?_)
  exact ⟨_, _, FinOk.drop _ _, rfl, rfl⟩

abbrev encRk (r : Res) (kv : AV) : AV := .agg [.str r.p, .str r.d, .int .i64 r.v, .int .i64 r.m, .int .i64 r.c, .int .i64 r.o, kv]
theorem Sub.nilsRo (sz : Nat) : Sub .nils (.ro sz [] 0) := fun imm w v h => by
  cases h
  exact .ro sz [] 0 _ _ [] (by simp) (by simp) (by simp) rfl (by simp) (by simp) (by simp)
theorem told_spec (x : Fu) : FnSpec C 76 [encX x] [] (fun r L' => r = encRk (told x) .nils ∧ L' = []) := by
  refine FnSpec.start C_ok Tryz.func76 rfl rfl Tryz.ntmps76 ?_
  repeat (first | refine OpsA.cons ?_ | refine OpsA.nil ?_ | refine Run.textA C_ok (aopC_sound C_ok) ?_ | refine And.intro rfl ?_ | refine And.intro (Nat.le_of_ble_eq_true rfl) ?_ | refine And.intro (Int.natCast_nonneg _) ?_ | refine fun (_ : Nat) => ?_ | refine Run.go rfl ?_ | refine Cont.go rfl ?_)
  exact ⟨_, [], FinOk.drop _ _, rfl, rfl⟩
theorem gone_spec (x : Fu) : FnSpec C 51 [encX x] [] (fun r L' => r = encC (goneC x) ∧ L' = []) := by
  refine FnSpec.start C_ok Tryz.func51 rfl rfl Tryz.ntmps51 ?_
  repeat (first | refine OpsA.cons ?_ | refine OpsA.nil ?_ | refine Run.textA C_ok (aopC_sound C_ok) ?_ | refine And.intro rfl ?_ | refine And.intro (Nat.le_of_ble_eq_true rfl) ?_ | refine And.intro (Int.natCast_nonneg _) ?_ | refine fun (_ : Nat) => ?_ | refine Run.go rfl ?_ | refine Cont.go rfl ?_)
  exact ⟨_, [], FinOk.drop _ _, rfl, rfl⟩
theorem needs_spec (k : Int) : FnSpec C 73 [.int .i64 k] [] (fun r L' => r = .agg [.bool (decide (k = 1 ∨ k = 3)), .bool (decide (k = 1 ∨ k = 2)), .bool (decide (k = 2 ∨ k = 3 ∨ k = 4))] ∧ L' = []) := by
  refine FnSpec.start C_ok Tryz.func73 rfl rfl Tryz.ntmps73 ?_
  repeat (first | refine OpsA.cons ?_ | refine OpsA.nil ?_ | refine Run.textA C_ok (aopC_sound C_ok) ?_ | refine And.intro rfl ?_ | refine And.intro (Nat.le_of_ble_eq_true rfl) ?_ | refine And.intro (Int.natCast_nonneg _) ?_ | refine fun (_ : Nat) => ?_ | refine Run.go rfl ?_ | refine Cont.go rfl ?_)
  refine ⟨fun h => ?_, fun h => ?_⟩
  · obtain rfl : k = 1 := h
    repeat (first | refine OpsA.cons ?_ | refine OpsA.nil ?_ | refine Run.textA C_ok (aopC_sound C_ok) ?_ | refine And.intro rfl ?_ | refine And.intro (Nat.le_of_ble_eq_true rfl) ?_ | refine And.intro (Int.natCast_nonneg _) ?_ | refine fun (_ : Nat) => ?_ | refine Run.go rfl ?_ | refine Cont.go rfl ?_)
    exact ⟨_, [], FinOk.drop _ _, rfl, rfl⟩
  have h1 : ¬ k = 1 := h
  repeat (first | refine OpsA.cons ?_ | refine OpsA.nil ?_ | refine Run.textA C_ok (aopC_sound C_ok) ?_ | refine And.intro rfl ?_ | refine And.intro (Nat.le_of_ble_eq_true rfl) ?_ | refine And.intro (Int.natCast_nonneg _) ?_ | refine fun (_ : Nat) => ?_ | refine Run.go rfl ?_ | refine Cont.go rfl ?_)
  refine ⟨fun h => ?_, fun h => ?_⟩
  · obtain rfl : k = 2 := h
    repeat (first | refine OpsA.cons ?_ | refine OpsA.nil ?_ | refine Run.textA C_ok (aopC_sound C_ok) ?_ | refine And.intro rfl ?_ | refine And.intro (Nat.le_of_ble_eq_true rfl) ?_ | refine And.intro (Int.natCast_nonneg _) ?_ | refine fun (_ : Nat) => ?_ | refine Run.go rfl ?_ | refine Cont.go rfl ?_)
    exact ⟨_, [], FinOk.drop _ _, rfl, rfl⟩
  have h2 : ¬ k = 2 := h
  repeat (first | refine OpsA.cons ?_ | refine OpsA.nil ?_ | refine Run.textA C_ok (aopC_sound C_ok) ?_ | refine And.intro rfl ?_ | refine And.intro (Nat.le_of_ble_eq_true rfl) ?_ | refine And.intro (Int.natCast_nonneg _) ?_ | refine fun (_ : Nat) => ?_ | refine Run.go rfl ?_ | refine Cont.go rfl ?_)
  refine ⟨fun h => ?_, fun h => ?_⟩
  · obtain rfl : k = 3 := h
    repeat (first | refine OpsA.cons ?_ | refine OpsA.nil ?_ | refine Run.textA C_ok (aopC_sound C_ok) ?_ | refine And.intro rfl ?_ | refine And.intro (Nat.le_of_ble_eq_true rfl) ?_ | refine And.intro (Int.natCast_nonneg _) ?_ | refine fun (_ : Nat) => ?_ | refine Run.go rfl ?_ | refine Cont.go rfl ?_)
    exact ⟨_, [], FinOk.drop _ _, rfl, rfl⟩
  have h3 : ¬ k = 3 := h
  repeat (first | refine OpsA.cons ?_ | refine OpsA.nil ?_ | refine Run.textA C_ok (aopC_sound C_ok) ?_ | refine And.intro rfl ?_ | refine And.intro (Nat.le_of_ble_eq_true rfl) ?_ | refine And.intro (Int.natCast_nonneg _) ?_ | refine fun (_ : Nat) => ?_ | refine Run.go rfl ?_ | refine Cont.go rfl ?_)
  refine ⟨fun h => ?_, fun h => ?_⟩
  · obtain rfl : k = 4 := h
    repeat (first | refine OpsA.cons ?_ | refine OpsA.nil ?_ | refine Run.textA C_ok (aopC_sound C_ok) ?_ | refine And.intro rfl ?_ | refine And.intro (Nat.le_of_ble_eq_true rfl) ?_ | refine And.intro (Int.natCast_nonneg _) ?_ | refine fun (_ : Nat) => ?_ | refine Run.go rfl ?_ | refine Cont.go rfl ?_)
    exact ⟨_, [], FinOk.drop _ _, rfl, rfl⟩
  have h4 : ¬ k = 4 := h
  repeat (first | refine OpsA.cons ?_ | refine OpsA.nil ?_ | refine Run.textA C_ok (aopC_sound C_ok) ?_ | refine And.intro rfl ?_ | refine And.intro (Nat.le_of_ble_eq_true rfl) ?_ | refine And.intro (Int.natCast_nonneg _) ?_ | refine fun (_ : Nat) => ?_ | refine Run.go rfl ?_ | refine Cont.go rfl ?_)
  exact ⟨_, [], FinOk.drop _ _, by simp [h1, h2, h3, h4, aret], rfl⟩
theorem new_spec : FnSpec C 15 [] [] (fun r L' => ∃ gt gm es cl, TM [rootF] es cl ∧ r = .ptr 0 gt 0 ∧ L' = TreeL gt gm es cl) := by
  refine FnSpec.start C_ok Tryz.func15 rfl rfl Tryz.ntmps15 ?_
  repeat (first | refine OpsA.cons ?_ | refine OpsA.nil ?_ | refine Run.textA C_ok (aopC_sound C_ok) ?_ | refine And.intro rfl ?_ | refine And.intro (Nat.le_of_ble_eq_true rfl) ?_ | refine And.intro (Int.natCast_nonneg _) ?_ | refine fun (_ : Nat) => ?_ | refine Run.go rfl ?_ | refine Cont.go rfl ?_)
  rename_i gm
  refine ⟨0, #[], 0, none, rfl, rfl, ?_⟩
  repeat (first | refine OpsA.cons ?_ | refine OpsA.nil ?_ | refine Run.textA C_ok (aopC_sound C_ok) ?_ | refine And.intro rfl ?_ | refine And.intro (Nat.le_of_ble_eq_true rfl) ?_ | refine And.intro (Int.natCast_nonneg _) ?_ | refine fun (_ : Nat) => ?_ | refine Run.go rfl ?_ | refine Cont.go rfl ?_)
  rename_i gt
  refine ⟨.ptr 0 gt 0, TreeL gt gm _ 1, FinOk.keep _ [1, 0] (Sub.ptr _ _ _ _) (by decide) rfl, gt, gm, _, 1, ⟨[rootF], .refl _, ?_⟩, rfl, rfl⟩
  exact MapOk.push (y := rootF) MapOk.nil (by simp)
end Go.Proofs.YtiikjcdjgmlcgaaGreatDoor.HBT
