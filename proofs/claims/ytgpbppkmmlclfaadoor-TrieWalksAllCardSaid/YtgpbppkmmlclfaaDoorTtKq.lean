/- Watches are sorted for a walk. -/
import Derived.Test.YtgpbppkmmlclfaaDoorTtKp
import Derived.Test.YtgpbppkmmlclfaaDoorTtG4
set_option linter.unusedVariables false
set_option linter.unusedSimpArgs false
namespace Go.Proofs.YtgpbppkmmlclfaaDoor.HBT
open Go Go.Proofs.YtgpbppkmmlclfaaDoor.HB Go.RowKit Go.Shelf Go.Sort
set_option maxRecDepth 8000

abbrev PH := { x : On // parseE x.w.p = 0 }
theorem parse_slash9 : parseE slash = 0 := by kernel_rfl
instance : Inhabited PH := ⟨⟨⟨0, ⟨0, slash, 0, 0⟩⟩, parse_slash9⟩⟩
def cfH (x y : PH) : Int := heldC x.1 y.1
theorem swoPH : SWO (ltOf cfH) where
  irrefl := fun x => swoH.irrefl x.1
  trans := fun x y z h1 h2 => swoH.trans x.1 y.1 z.1 h1 h2
  ntrans := fun x y z h1 h2 => swoH.ntrans x.1 y.1 z.1 h1 h2
theorem place_size9 {p : ByteArray} (h : parseE p = 0) : p.size ≤ 9223372036854775807 := by
  unfold parseE at h
  split at h
  · cases h
  · omega
theorem sortPH_spec (k0 g Cp : Nat) (xs : List PH) (hn : xs.length ≤ 1000) : FnSpec C 41 [.sl k0 g Cp xs.length, .any (.func (.func 42) #[] #[])] [(g, .row tH 5 Cp (xs.map fun x => encH x.1))]
    (fun r L' => r = .tuple [] ∧ ∃ ys : List PH, ys.Perm xs ∧ ys.Pairwise (fun a b => ltOf cfH b a = false) ∧ L' = [(g, .row tH 5 Cp (ys.map fun x => encH x.1))]) :=
  FnSpec.sortFunc (C := C) (C' := CD) (ρ := Tryd.sortHeld_ren) C_ok Tryd.sortHeld rfl (fun _ _ h => h) trivial (fun h => h) ⟨_, Tryd.func41, rfl, rfl⟩ Tryd.isAgg74 Tryd.sizeOf74
    (fun x : PH => [.int .i64 x.1.s, .int .i64 x.1.w.id, .str x.1.w.p, .int .i64 x.1.w.k, .int .i64 x.1.w.f]) (fun x => [.int .i64 x.1.s, .int .i64 x.1.w.id, .string x.1.w.p, .int .i64 x.1.w.k, .int .i64 x.1.w.f]) (fun x => rfl) (fun x => rfl) cfH swoPH
    42 (fun x y => (held_lessD x.1 y.1 (place_size9 x.2)).post fun r L' ⟨e, e'⟩ => ⟨_, _, Sub.refl _, Imp.refl _, e⟩) xs (by omega) k0
theorem sub_listH : ∀ {xs : List On}, (∀ x ∈ xs, parseE x.w.p = 0) → ∃ ys : List PH, ys.map (·.1) = xs
  | [], _ => ⟨[], rfl⟩
  | x :: xs, h => by
    obtain ⟨ys, e⟩ := sub_listH (xs := xs) fun y hy => h y (.tail _ hy)
    exact ⟨⟨x, h x (.head _)⟩ :: ys, by rw [List.map_cons, e]⟩
theorem sortH_spec (k0 g Cp : Nat) (xs : List On) (hv : ∀ x ∈ xs, parseE x.w.p = 0) (hn : xs.length ≤ 1000) : FnSpec C 41 [.sl k0 g Cp xs.length, .any (.func (.func 42) #[] #[])] [(g, .row tH 5 Cp (xs.map encH))]
    (fun r L' => ∃ ys : List On, r = .tuple [] ∧ ys.Perm xs ∧ Walked ys ∧ L' = [(g, .row tH 5 Cp (ys.map encH))]) := by
  obtain ⟨ys, rfl⟩ := sub_listH hv
  have hm : ∀ ys : List PH, (ys.map (·.1)).map encH = ys.map fun x => encH x.1 := fun ys => by rw [List.map_map]; rfl
  rw [hm, List.length_map]
  refine (sortPH_spec k0 g Cp ys (by simpa using hn)).post ?_
  rintro r L' ⟨rfl, zs, h1, h2, rfl⟩
  refine ⟨_, _, Sub.refl _, Imp.refl _, zs.map (·.1), rfl, h1.map _, ?_, by rw [hm]⟩
  unfold Walked
  rw [List.pairwise_map]
  refine h2.imp fun {a b} h => ?_
  intro e
  exact of_decide_eq_false h (heldC_neg.2 e)
theorem sortH_nil : FnSpec C 41 [.nils, .any (.func (.func 42) #[] #[])] [] (fun r L' => r = .tuple [] ∧ L' = []) :=
  FnSpec.sortFunc_nil (C := C) (ρ := Tryd.sortHeld_ren) Tryd.sortHeld ⟨_, Tryd.func41, rfl, rfl⟩ (.func (.func 42) #[] #[])
end Go.Proofs.YtgpbppkmmlclfaaDoor.HBT
