/- A session's end: End. -/
import Derived.Test.YtiikjcdjgmlcgaaGreatDoorTzT9
import Derived.Test.YtiikjcdjgmlcgaaGreatDoorHbZe
import Derived.Test.YtiikjcdjgmlcgaaGreatDoorHbP
import Derived.Test.YtiikjcdjgmlcgaaGreatDoorRows
import Derived.Lib.LaidU8
import Derived.Shelf.Vars
import Derived.Lay
import Derived.MakeChecks
set_option linter.unusedVariables false
set_option linter.unusedSimpArgs false
namespace Go.Proofs.YtiikjcdjgmlcgaaGreatDoor.HBT
open Go Go.Proofs.YtiikjcdjgmlcgaaGreatDoor.HB Go.RowKit
set_option maxRecDepth 8000

def EndQ (gt gm : Nat) (l : List Fu) (s : Int) : AV → AHeap → Prop := fun r L' =>
  ∃ es cl, TM (endF l s).1 es cl ∧ r = encCs (endF l s).2 ∧ L' = TreeL gt gm es cl
def endL (l : List Fu) (s : Int) (i : Nat) : List Fu := ((l.take i).filter fun x => decide (x.o ≠ s)) ++ l.drop i
def endC (l : List Fu) (s : Int) (i : Nat) : List Chg := ((l.take i).filter fun x => decide (x.o = s)).map goneC
theorem endL_zero (l : List Fu) (s : Int) : endL l s 0 = l := by unfold endL; simp
theorem endC_len (l : List Fu) (s : Int) (i : Nat) : (endC l s i).length ≤ i := by
  unfold endC
  rw [List.length_map]
  exact Nat.le_trans (List.length_filter_le _ _) (by rw [List.length_take]; omega)
theorem end_no {l : List Fu} {s : Int} {i : Nat} {x : Fu} (h : l[i]? = some x) (ho : ¬ x.o = s) : endL l s (i + 1) = endL l s i ∧ endC l s (i + 1) = endC l s i := by
  unfold endL endC
  rw [List.take_add_one, h, drop_at h]
  simp [List.filter_append, ho]
theorem end_yes {l : List Fu} (hs : Sorted l) {s : Int} {i : Nat} {x : Fu} (h : l[i]? = some x) (ho : x.o = s) : endL l s (i + 1) = del (endL l s i) x.p ∧ endC l s (i + 1) = endC l s i ++ [goneC x] ∧ Sorted (endL l s i) ∧ x ∈ endL l s i := by
  have hsub : List.Sublist (endL l s i) l := by
    have := (List.filter_sublist (p := fun x : Fu => decide (x.o ≠ s)) (l := l.take i)).append (List.Sublist.refl (l.drop i))
    rw [List.take_append_drop] at this
    exact this
  have hsrt : Sorted (endL l s i) := List.Pairwise.sublist hsub hs
  refine ⟨?_, ?_, hsrt, ?_⟩
  · have hn := hs.nodup
    have e : l = l.take i ++ x :: l.drop (i + 1) := by rw [← drop_at h, List.take_append_drop]
    have hne : ∀ y, y ∈ l.take i ∨ y ∈ l.drop (i + 1) → y.p ≠ x.p := by
      rw [e, List.map_append, List.map_cons, List.nodup_append] at hn
      obtain ⟨_, h2, h3⟩ := hn
      rw [List.nodup_cons] at h2
      intro y hy
      rcases hy with hy | hy
      · exact h3 y.p (List.mem_map.2 ⟨y, hy, rfl⟩) x.p (.head _)
      · exact fun e => h2.1 (List.mem_map.2 ⟨y, hy, e⟩)
    unfold endL del
    rw [drop_at h, List.take_add_one, h, List.filter_append, List.filter_append, List.filter_cons_of_neg (by simp)]
    have e1 : ((l.take i).filter fun x => decide (x.o ≠ s)).filter (fun y => decide (y.p ≠ x.p)) = (l.take i).filter fun x => decide (x.o ≠ s) := List.filter_eq_self.2 fun y hy => by simpa using hne y (.inl (List.mem_filter.1 hy).1)
    have e2 : (l.drop (i + 1)).filter (fun y => decide (y.p ≠ x.p)) = l.drop (i + 1) := List.filter_eq_self.2 fun y hy => by simpa using hne y (.inr hy)
    rw [e1, e2]
    simp [ho]
  · unfold endC
    rw [List.take_add_one, h]
    simp [List.filter_append, ho]
  · unfold endL
    rw [drop_at h]
    simp
set_option maxHeartbeats 8000000 in
theorem end_spec (gt gm : Nat) {l : List Fu} {es : Array MapEntry} {cl : Nat} (hT : TM l es cl) (hi : TInv l) (s : Int) :
    FnSpec C 22 [.ptr 0 gt 0, .int .i64 s] (TreeL gt gm es cl) (EndQ gt gm l s) := by
  refine FnSpec.start C_ok Tryz.func22 rfl rfl Tryz.ntmps22 ?_
  repeat(first|refine Sc ?_|refine fun(_:Nat)=>?_)
  refine ACallT.ok (ACall.sel [0] (by decide) [.ptr 0 gt 0] _ (.one (Sub.refl _)) (none_spec gt (some gm)) ?_)
  rintro r L' ⟨rfl, rfl⟩
  refine ⟨.bool false, Sub.refl _, ?_⟩
  repeat(first|refine Sc ?_|refine fun(_:Nat)=>?_)
  refine ⟨fun h => ?_, fun h => ?_⟩
  · have h : s < 1 := h
    have he : endF l s = (l, []) := by unfold endF; rw [if_pos h]
    repeat(first|refine Sc ?_|refine fun(_:Nat)=>?_)
    exact ⟨encCs [], _, FinOk.keep _ [0, 1] (Sub.nilsRo 4) (by decide) rfl, es, cl, by rw [he]; exact hT, by rw [he], rfl⟩
  have h : ¬ s < 1 := h
  have he : endF l s = (l.filter fun x => decide (x.o ≠ s), (l.filter fun x => decide (x.o = s)).map goneC) := by unfold endF; rw [if_neg h]
  repeat(first|refine Sc ?_|refine fun(_:Nat)=>?_)
  refine ACallT.ok (ACall.sel [0, 1] (by decide) [.ptr 0 gt 0] _ (.one (Sub.refl _)) (nodes_spec gt gm hT hi) ?_)
  rintro r L' ⟨gn, Cn, rfl, rfl⟩
  refine ⟨.sl 2 gn Cn l.length, Sub.refl _, ?_⟩
  repeat(first|refine Sc ?_|refine fun(_:Nat)=>?_)
  refine Run.loopW (fun k env L => ∃ (i : Nat) (es' : Array MapEntry) (v : AV) (gc : Nat) (co : AObj), k = l.length - i ∧ i ≤ l.length ∧ TM (endL l s i) es' cl ∧ LC 3 (endC l s i) v gc co ∧ env = [.ptr 0 gt 0, .int .i64 s, .junk, .junk, .junk, v, .junk, .junk, .junk, .junk, .junk, .junk, .junk, .junk, .junk, .sl 2 gn Cn l.length, .int .i64 l.length, .int .i64 i, .junk, .junk, .junk, .junk, .junk, .junk, .junk, .junk, .junk, .junk, .junk, .junk, .junk, .junk, .junk, .junk, .junk, .junk, .junk, .junk] ∧ L = [(gt, .cells tT [.any (.map (some gm))]), (gm, .obj (.map es' cl)), (gn, .row tX 7 Cn (l.map encX)), (gc, co)]) l.length
    [.ptr 0 gt 0, .int .i64 s, .junk, .junk, .junk, .nils, .junk, .junk, .junk, .junk, .junk, .junk, .junk, .junk, .junk, .sl 2 gn Cn l.length, .int .i64 l.length, .int .i64 (0 : Nat), .junk, .junk, .junk, .junk, .junk, .junk, .junk, .junk, .junk, .junk, .junk, .junk, .junk, .junk, .junk, .junk, .junk, .junk, .junk, .junk] [(gt, .cells tT [.any (.map (some gm))]), (gm, .obj (.map es cl)), (gn, .row tX 7 Cn (l.map encX)), (0, .dead)] (Weak.sel ?_ [0, 1, 2, 9] (by decide) ?_) ⟨0, es, .nils, 0, .dead, by omega, by omega, by rw [endL_zero]; exact hT, .inl ⟨rfl, rfl, rfl⟩, rfl, rfl⟩ ?_
  · exact Ss
  · exact Sl
  rintro k env L ⟨i, es', v, gc, co, rfl, hil, hT', hv, rfl, rfl⟩
  repeat(first|refine Sc ?_|refine fun(_:Nat)=>?_)
  refine ⟨fun h => ?_, fun h => ?_⟩
  · have h : (i : Int) < (l.length : Int) := h
    have hi2 : i < l.length := by omega
    obtain ⟨x, ex⟩ : ∃ x, l[i]? = some x := ⟨_, List.getElem?_eq_getElem hi2⟩
    have hl64 := hi.len
    repeat(first|refine Sc ?_|refine fun(_:Nat)=>?_)
    refine ⟨h, ?_⟩
    repeat(first|refine Sc ?_|refine fun(_:Nat)=>?_)
    refine ⟨encX x, map_at encX ex, ?_⟩
    repeat(first|refine Sc ?_|refine fun(_:Nat)=>?_)
    refine ⟨fun ho => ?_, fun ho => ?_⟩
    · have ho : x.o = s := ho
      obtain ⟨e1, e2, e3, e4⟩ := end_yes hi.sorted ex ho
      obtain ⟨j, f1, f2, f3, f4, _⟩ := hT'.hit e3 e4
      rw [← e1] at f4
      have hcl : (endC l s i).length ≤ i := endC_len l s i
      repeat(first|refine Sc ?_|refine fun(_:Nat)=>?_)
      refine Run.drawnK C_ok (aopC_sound C_ok) [0, 4] [0, 1, 2, 3, 4, 5, 6] (by kernel_rfl) ?_
      repeat(first|refine Sc ?_|refine fun(_:Nat)=>?_)
      refine ⟨1, es', cl, some (j, valX x), rfl, f1, ?_⟩
      repeat(first|refine Sc ?_|refine fun(_:Nat)=>?_)
      refine ACallT.ok (ACall.ret (gone_spec x) ?_)
      repeat(first|refine Sc ?_|refine fun(_:Nat)=>?_)
      rcases hv with ⟨e0, rfl, rfl⟩ | ⟨Cp, rfl, rfl⟩
      · repeat(first|refine Sc ?_|refine fun(_:Nat)=>?_)
        refine ⟨fun h => absurd h (List.cons_ne_nil _ _), fun _ => ?_⟩
        repeat(first|refine Sc ?_|refine fun(_:Nat)=>?_)
        rename_i g' C'
        refine fun r hr => ?_
        obtain rfl := add1 hr (by omega)
        repeat(first|refine Sc ?_|refine fun(_:Nat)=>?_)
        refine Cont.lpW ?_
        refine ⟨l.length - (i + 1), _, _, by omega, Weak.sel ?_ [0, 1, 2, 6] (by decide) ?_, ⟨i + 1, _, .sl 3 g' C' 1, g', _, rfl, by omega, f4, e2.symm ▸ LN.one e0, rfl, rfl⟩⟩
        · exact Ss
        · exact Sl
      · repeat(first|refine Sc ?_|refine fun(_:Nat)=>?_)
        refine ⟨by simp, ?_⟩
        repeat(first|refine Sc ?_|refine fun(_:Nat)=>?_)
        refine ⟨by simp; omega, ?_⟩
        repeat(first|refine Sc ?_|refine fun(_:Nat)=>?_)
        rename_i g' C'
        refine fun r hr => ?_
        obtain rfl := add1 hr (by omega)
        repeat(first|refine Sc ?_|refine fun(_:Nat)=>?_)
        refine Cont.lpW ?_
        refine ⟨l.length - (i + 1), _, _, by omega, Weak.sel ?_ [0, 1, 2, 3] (by decide) ?_, ⟨i + 1, _, .sl 3 g' C' (((endC l s i).map encC).length + 1), g', .row tC 4 C' ((endC l s i).map encC ++ [encC (goneC x)]), rfl, by omega, f4, e2.symm ▸ LN.snoc, rfl, rfl⟩⟩
        · exact Ss
        · exact Sl
    · have ho : ¬ x.o = s := ho
      obtain ⟨e1, e2⟩ := end_no ex ho
      repeat(first|refine Sc ?_|refine fun(_:Nat)=>?_)
      refine fun r hr => ?_
      obtain rfl := add1 hr (by omega)
      repeat(first|refine Sc ?_|refine fun(_:Nat)=>?_)
      refine Cont.lpW ?_
      refine ⟨l.length - (i + 1), _, _, by omega, Weak.sel ?_ [0, 1, 2, 3] (by decide) ?_, ⟨i + 1, es', v, gc, co, rfl, by omega, e1.symm ▸ hT', e2.symm ▸ hv, rfl, rfl⟩⟩
      · exact Ss
      · exact Sl
  · have h : ¬ (i : Int) < (l.length : Int) := h
    have e0 : i = l.length := by omega
    subst e0
    have e1 : endL l s l.length = (endF l s).1 := by rw [he]; unfold endL; rw [List.take_length, List.drop_length, List.append_nil]
    have e2 : endC l s l.length = (endF l s).2 := by rw [he]; unfold endC; rw [List.take_length]
    rw [e1] at hT'
    rw [e2] at hv
    rcases hv with ⟨e0, rfl, rfl⟩ | ⟨Cp, rfl, rfl⟩
    · repeat(first|refine Sc ?_|refine fun(_:Nat)=>?_)
      exact ⟨encCs (endF l s).2, _, FinOk.keep _ [0, 1] (by rw [e0]; exact Sub.nilsRo 4) (by decide) rfl, es', cl, hT', rfl, rfl⟩
    · repeat(first|refine Sc ?_|refine fun(_:Nat)=>?_)
      exact ⟨encCs (endF l s).2, _, FinOk.keepLend (r1 := encCs (endF l s).2) [0, 1] (by decide) (.row 3 gc Cp _ tC 4 _ rfl (by simp)) (Sub.refl _), es', cl, hT', rfl, rfl⟩
end Go.Proofs.YtiikjcdjgmlcgaaGreatDoor.HBT
/- The laws' helpers: num, known, sound. -/
namespace Go.Proofs.YtiikjcdjgmlcgaaGreatDoor.HBT
open Go Go.Proofs.YtiikjcdjgmlcgaaGreatDoor.HB Go.RowKit
set_option maxRecDepth 8000

theorem num_spec (k : Int) : FnSpec C 18 [.int .i64 k] [] (fun r L' => r = .int .i64 k ∧ L' = []) := by
  refine FnSpec.start C_ok Tryz.func18 rfl rfl Tryz.ntmps18 ?_
  repeat(first|refine Sc ?_|refine fun(_:Nat)=>?_)
  exact ⟨_, [], FinOk.drop _ _, rfl, rfl⟩
def sA : ByteArray := ⟨#[47, 97]⟩
def sB : ByteArray := ⟨#[47, 98]⟩
def sX : ByteArray := ⟨#[120]⟩
def z65 : ByteArray := strI (List.replicate 65 0)
theorem known_1 : playR [rootF] 5 1 [⟨1, sA, sX, 0, 0⟩] = ([rootF, ⟨sA, sX, 0, 1, 1, 0, 0⟩], ⟨1, 0, 0, [⟨sA, eS, 0, 1, 1, 0, []⟩]⟩, [⟨1, sA, sX, 0⟩]) := by kernel_rfl
theorem known_2 : (playR [rootF, ⟨sA, sX, 0, 1, 1, 0, 0⟩] 0 2 [⟨2, sB, z65, -1, 0⟩]) = ([rootF, ⟨sA, sX, 0, 1, 1, 0, 0⟩], ⟨2, 45, 0, []⟩, []) := by kernel_rfl
theorem TInv.one : TInv [rootF, ⟨sA, sX, 0, 1, 1, 0, 0⟩] := by
  have := playR_inv (s := 5) (st := 1) (ops := [⟨1, sA, sX, 0, 0⟩]) TInv.new
  rw [known_1] at this
  exact this
set_option maxHeartbeats 8000000 in
theorem known_spec : FnSpec C 23 [] [] (fun r L' => r = .bool true ∧ L' = []) := by
  refine FnSpec.start C_ok Tryz.func23 rfl rfl Tryz.ntmps23 ?_
  repeat(first|refine Sz ?_|refine fun(_:Nat)=>?_)
  refine CallZ.plain (ACallT.ok (ACall.pure _ new_spec ?_))
  rintro r L' ⟨gt, gm, es, cl, hT, rfl, rfl⟩
  refine ⟨_, Sub.refl _, ?_⟩
  repeat(first|refine Sz ?_|refine fun(_:Nat)=>?_)
  rename_i go
  refine CallZ.frz [2] [0, 1] (by kernel_rfl) [.ptr 0 gt 0, .int .i64 5, .int .i64 1, .ro 5 ([⟨1, sA, sX, 0, 0⟩].map encO) 1] ⟨.same _, .same _, .same _, .row 2 go 1 1 tO 5 _ rfl (by decide), trivial⟩ ?_
  refine ACall.sel [0, 1] (by decide) [.ptr 0 gt 0, .int .i64 5, .int .i64 1, .ro 5 ([⟨1, sA, sX, 0, 0⟩].map encO) 1] _ ⟨Sub.refl _, Sub.refl _, Sub.refl _, Sub.refl _, trivial⟩ (play_spec gt gm hT TInv.new 5 1 [⟨1, sA, sX, 0, 0⟩] 1 (by decide)) ?_
  intro r L' hq
  obtain ⟨gm', es', cl', hT', rfl, rfl⟩ := hq
  have e1 : playR [rootF] 5 1 (List.take 1 [⟨1, sA, sX, 0, 0⟩]) = _ := known_1
  rw [e1] at hT' ⊢
  refine ⟨.tuple [encP ⟨1, 0, 0, [⟨sA, eS, 0, 1, 1, 0, []⟩]⟩, encCs [⟨1, sA, sX, 0⟩]], Sub.refl _, ?_⟩
  repeat(first|refine Sz ?_|refine fun(_:Nat)=>?_)
  refine ⟨List.replicate 65 0, by kernel_rfl, ?_⟩
  repeat(first|refine Sz ?_|refine fun(_:Nat)=>?_)
  rename_i go2
  refine CallZ.frz [5] [0, 1, 2, 3, 4] (by kernel_rfl) [.ptr 0 gt 0, .int .i64 0, .int .i64 2, .ro 5 ([⟨2, sB, z65, -1, 0⟩].map encO) 1] ⟨.same _, .same _, .same _, .row 5 go2 1 1 tO 5 _ rfl (by decide), trivial⟩ ?_
  refine ACall.sel [0, 1] (by decide) [.ptr 0 gt 0, .int .i64 0, .int .i64 2, .ro 5 ([⟨2, sB, z65, -1, 0⟩].map encO) 1] _ ⟨Sub.refl _, Sub.refl _, Sub.refl _, Sub.refl _, trivial⟩ (play_spec gt gm' hT' TInv.one 0 2 [⟨2, sB, z65, -1, 0⟩] 1 (by decide)) ?_
  intro r L' hq
  obtain ⟨gm2, es2, cl2, hT2, rfl, rfl⟩ := hq
  have e2 : playR [rootF, ⟨sA, sX, 0, 1, 1, 0, 0⟩] 0 2 (List.take 1 [⟨2, sB, z65, -1, 0⟩]) = _ := known_2
  rw [e2] at hT2 ⊢
  refine ⟨.tuple [encP ⟨2, 45, 0, []⟩, encCs []], Sub.refl _, ?_⟩
  repeat(first|refine Sz ?_|refine fun(_:Nat)=>?_)
  refine CallZ.plain (ACallT.ok (ACall.ret (num_spec 45) ?_))
  repeat(first|refine Sz ?_|refine fun(_:Nat)=>?_)
  refine CallZ.plain (ACallT.ok (ACall.ret (num_spec 45) ?_))
  repeat(first|refine Sz ?_|refine fun(_:Nat)=>?_)
  refine ⟨fun h => absurd rfl h, fun _ => ?_⟩
  repeat(first|refine Sz ?_|refine fun(_:Nat)=>?_)
  refine CallZ.plain (ACallT.ok (ACall.sel [0, 1] (by decide) [.ptr 0 gt 0] _ (.one (Sub.refl _)) (nodes_spec gt gm2 hT2 TInv.one) ?_))
  rintro r L' ⟨gn, Cn, rfl, rfl⟩
  refine ⟨.sl 7 gn Cn 2, Sub.sl _ _ _ _ _, ?_⟩
  repeat(first|refine Sz ?_|refine fun(_:Nat)=>?_)
  refine CallZ.plain (ACallT.ok (ACall.ret (num_spec 0) ?_))
  repeat(first|refine Sz ?_|refine fun(_:Nat)=>?_)
  refine ⟨fun _ => ?_, fun h => absurd rfl h⟩
  repeat(first|refine Sz ?_|refine fun(_:Nat)=>?_)
  refine ⟨fun _ => ?_, fun h => absurd rfl h⟩
  repeat(first|refine Sz ?_|refine fun(_:Nat)=>?_)
  refine ⟨fun _ => ?_, fun h => absurd rfl h⟩
  repeat(first|refine Sz ?_|refine fun(_:Nat)=>?_)
  refine ⟨encC ⟨1, sA, sX, 0⟩, rfl, ?_⟩
  repeat(first|refine Sz ?_|refine fun(_:Nat)=>?_)
  refine ⟨fun _ => ?_, fun h => absurd rfl h⟩
  repeat(first|refine Sz ?_|refine fun(_:Nat)=>?_)
  refine ⟨fun _ => ?_, fun h => absurd rfl h⟩
  repeat(first|refine Sz ?_|refine fun(_:Nat)=>?_)
  refine ⟨encX ⟨sA, sX, 0, 1, 1, 0, 0⟩, rfl, ?_⟩
  repeat(first|refine Sz ?_|refine fun(_:Nat)=>?_)
  refine ⟨fun _ => ?_, fun h => absurd rfl h⟩
  repeat(first|refine Sz ?_|refine fun(_:Nat)=>?_)
  exact ⟨_, [], FinOk.drop _ _, rfl, rfl⟩
end Go.Proofs.YtiikjcdjgmlcgaaGreatDoor.HBT
/- The law's 'sound'. -/
namespace Go.Proofs.YtiikjcdjgmlcgaaGreatDoor.HBT
open Go Go.Proofs.YtiikjcdjgmlcgaaGreatDoor.HB Go.RowKit
set_option maxRecDepth 8000

theorem orderL_neg : ∀ (a b : List UInt8), orderL a b < 0 → orderL a b = -1
  | [], [], h => by simp [orderL] at h
  | [], _ :: _, _ => rfl
  | _ :: _, [], h => by simp [orderL] at h
  | x :: a, y :: b, h => by
    unfold orderL at h ⊢
    split
    · rfl
    · rename_i h1
      rw [if_neg h1] at h
      split
      · rename_i h2; rw [if_pos h2] at h; exact absurd h (by decide)
      · rename_i h2; rw [if_neg h2] at h; exact orderL_neg a b h
theorem TInv.head {l : List Fu} (h : TInv l) : ∃ r tl, l = r :: tl ∧ r.p = slash ∧ r.o = 0 := by
  obtain ⟨r, hr, e1, e2⟩ := h.root
  match l, hr, h with
  | x :: tl, hr, h =>
    rcases List.mem_cons.1 hr with rfl | hr
    · exact ⟨r, tl, rfl, e1, e2⟩
    · have h1 := (List.pairwise_cons.1 h.sorted).1 r hr
      by_cases hx : x.p = slash
      · rw [e1, hx] at h1; exact absurd h1 (orderB_irrefl _)
      · have h2 := slash_first (h.ok x (.head _)).1 hx
        rw [e1] at h1
        exact absurd (orderB_trans h2 h1) (orderB_irrefl _)
theorem TInv.sound {l : List Fu} (h : TInv l) {i : Nat} {x y : Fu} (hx : l[i + 1]? = some x) (hy : l[i]? = some y) :
    parentE x.p = 0 ∧ orderB y.p x.p = -1 ∧ x.d.size ≤ 64 ∧ ∃ k z, k < i + 1 ∧ l[k]? = some z ∧ z.p = parentB x.p ∧ z.o = 0 := by
  have hm := List.mem_of_getElem? hx
  have hlt : orderB y.p x.p < 0 := by
    obtain ⟨h1, e1⟩ := List.getElem?_eq_some_iff.1 hx
    obtain ⟨h2, e2⟩ := List.getElem?_eq_some_iff.1 hy
    rw [← e1, ← e2]
    exact List.pairwise_iff_getElem.1 h.sorted i (i + 1) h2 h1 (by omega)
  have hns : x.p ≠ slash := fun e => by
    have hym := List.mem_of_getElem? hy
    by_cases e2 : y.p = slash
    · rw [e, e2] at hlt; exact orderB_irrefl _ hlt
    · have := slash_first (h.ok y hym).1 e2
      rw [e] at hlt
      exact orderB_irrefl _ (orderB_trans this hlt)
  have hp := parentE_of (h.ok x hm).1 hns
  obtain ⟨a, ha, e1, e2⟩ := h.up x hm hns
  obtain ⟨k, hk⟩ := List.mem_iff_getElem?.1 ha
  refine ⟨hp, orderL_neg _ _ hlt, (h.ok x hm).2.1, k, a, ?_, hk, e1, e2⟩
  have ho := (parent_ok hp).2
  rw [← e1] at ho
  refine Classical.byContradiction fun hn => ?_
  obtain ⟨h1, f1⟩ := List.getElem?_eq_some_iff.1 hx
  obtain ⟨h2, f2⟩ := List.getElem?_eq_some_iff.1 hk
  by_cases e : k = i + 1
  · subst e
    rw [hx] at hk; cases hk
    exact orderB_irrefl _ ho
  · have := List.pairwise_iff_getElem.1 h.sorted (i + 1) k h1 h2 (by omega)
    rw [f1, f2] at this
    exact orderB_irrefl _ (orderB_trans this ho)

end Go.Proofs.YtiikjcdjgmlcgaaGreatDoor.HBT
/- The law TreeSound, walked. -/
namespace Go.Proofs.YtiikjcdjgmlcgaaGreatDoor.HBT
open Go Go.Proofs.YtiikjcdjgmlcgaaGreatDoor.HB Go.RowKit
set_option maxRecDepth 8000

structure Stp where
  k : Int
  s : Int
  st : Int
  ops : List Opp
  no : Nat
  p : ByteArray
  n : Int
def Stp.ok (x : Stp) : Prop := x.no ≤ x.ops.length
abbrev encS (x : Stp) : AV := .agg [.int .i64 x.k, .int .i64 x.s, .int .i64 x.st, .ro 5 (x.ops.map encO) x.no, .str x.p, .int .i64 x.n]
abbrev rdS (xs : List Stp) (n : Nat) : AV := .ro 6 (xs.map encS) n

end Go.Proofs.YtiikjcdjgmlcgaaGreatDoor.HBT
/- What the laws of this seat share: how a script is read, what the listed variables give, the witness. -/
namespace Go.Proofs.YtiikjcdjgmlcgaaGreatDoor.HBT
open Go Go.Proofs.YtiikjcdjgmlcgaaGreatDoor.HB Go.Proofs.YtiikjcdjgmlcgaaGreatDoor Go.ChangeShapes Go.WideShapes Go.ChangeAt Go.RowKit Go.Lib
set_option maxRecDepth 8000

theorem op_arg {Z : Prop} {ys : List AV} (h : CellsOkZ Z Tryz.prog 93 ys) : ∃ s : Opp, wrapC true ys = encO s := by
  obtain ⟨yss, hf, rfl⟩ := h.struct_inv Tryz.underlying93
  obtain ⟨y0, yss, rfl, h0, hf⟩ := hf.cons_inv
  obtain ⟨y1, yss, rfl, h1, hf⟩ := hf.cons_inv
  obtain ⟨y2, yss, rfl, h2, hf⟩ := hf.cons_inv
  obtain ⟨y3, yss, rfl, h3, hf⟩ := hf.cons_inv
  obtain ⟨y4, yss, rfl, h4, hf⟩ := hf.cons_inv
  obtain rfl := hf.nil_inv
  obtain ⟨k, _, rfl⟩ := h0.int_inv Tryz.underlying3
  obtain ⟨p, _, rfl⟩ := h1.str_inv Tryz.underlying9
  obtain ⟨q, _, rfl⟩ := h2.str_inv Tryz.underlying9
  obtain ⟨n, _, rfl⟩ := h3.int_inv Tryz.underlying3
  obtain ⟨m, _, rfl⟩ := h4.int_inv Tryz.underlying3
  exact ⟨⟨k, p, q, n, m⟩, rfl⟩
theorem own : ownKnob Tryz.prog.godebug = none := by kernel_rfl
theorem laidOut : laidOutB Tryz.prog = true := by kernel_rfl
def laid : List (String × DataW Unit) := [("math/bits.deBruijn32tab", Rows.laid_math_bits_deBruijn32tab), ("math/bits.deBruijn64tab", Rows.laid_math_bits_deBruijn64tab), ("internal/strconv.uint64pow10", Rows.laid_internal_strconv_uint64pow10), ("unicode/utf8.acceptRanges", Rows.laid_unicode_utf8_acceptRanges), ("herald/place.named", Rows.laid_herald_place_named), ("unicode/utf8.first", Rows.laid_unicode_utf8_first)]

theorem gNamed : Tryz.prog.globalNamed "herald/place.named" = some 0 := by kernel_rfl
theorem tNamed : (Tryz.prog.globals[0]?).map (·.type) = some 142 := by kernel_rfl
theorem named_tab : (Rows.laid_herald_place_named : DataW Unit) = tabData .u8 namedRow := by kernel_rfl
theorem tPow : (Tryz.prog.globals[4]?).map (·.type) = some 225 := by kernel_rfl
theorem pow_tab : (Rows.laid_internal_strconv_uint64pow10 : DataW Unit) = tabData .u64 pow10Tab := by kernel_rfl

theorem cells_of_shaped {P : Program} {w : World} {g : Nat} {t : TypeId} {zero : Array Value} (h : w.ShapedOpen P) (hg : g < P.globals.size)
    (h0 : ((begin P (fun _ _ => 0) default).world.heap[g]?).bind Obj.row? = some (zero, t)) : ∃ cs, w.heap[g]? = some (.cells cs t) ∧ cs.size = zero.size :=
  let ⟨cs, h1, h2, _⟩ := h.1 g zero t hg h0
  ⟨cs, h1, h2⟩

theorem G_of {W : World} (hL : laidMetH Tryz.prog laid W) (hs : W.ShapedOpen Tryz.prog) : G (fun g => g < W.heap.size) W := by
  rw [MakeChecks.laidMetH_plain _ _ _ (by kernel_rfl)] at hL
  have h0 : ∃ t fr, W.heap[0]? = some (.cells (namedRow.map (Value.int .u8)).toArray t fr) := by
    obtain ⟨g, t, cs, fuel, p, hg, hty, hvar, hd⟩ := laidMet.reads hL (List.Mem.tail _ (List.Mem.tail _ (List.Mem.tail _ (List.Mem.tail _ (List.Mem.head _)))))
    obtain rfl := Option.some.inj (gNamed.symm.trans hg)
    obtain rfl := Option.some.inj (tNamed.symm.trans hty)
    rw [named_tab] at hd
    have hcs := cells_of_tab Tryz.underlying142 Tryz.underlying5 (by kernel_rfl) (by kernel_rfl) hd
    have hcs : cs = (namedRow.map (Value.int .u8)).toArray := by rw [← hcs]
    simp only [World.var?, hg, Option.bind_some] at hvar
    split at hvar
    · rename_i c t fr hb
      cases hvar
      exact ⟨t, fr, by rw [hb, hcs]⟩
    · cases hvar
  have h2 : ∃ t fr, W.heap[4]? = some (.cells (pow10Tab.map (Value.int .u64)).toArray t fr) := by
    obtain ⟨g, t, cs, fuel, p, hg, hty, hvar, hd⟩ := laidMet.reads hL (List.Mem.tail _ (List.Mem.tail _ (List.Mem.head _)))
    obtain rfl := Option.some.inj (pow_named.symm.trans hg)
    obtain rfl := Option.some.inj (tPow.symm.trans hty)
    rw [pow_tab] at hd
    have hcs := cells_of_tab Tryz.underlying225 Tryz.underlying185 (by kernel_rfl) (by kernel_rfl) hd
    have hcs : cs = (pow10Tab.map (Value.int .u64)).toArray := by rw [← hcs]
    simp only [World.var?, hg, Option.bind_some] at hvar
    split at hvar
    · rename_i c t fr hb
      cases hvar
      exact ⟨t, fr, by rw [hb, hcs]⟩
    · cases hvar
  have h1 : ∃ m t fr, W.heap[1]? = some (.cells #[.int .i64 m] t fr) := by
    obtain ⟨m, hm⟩ := cell_of_shapedOpen_int (k := .i64) (g := 1) (t := 3) (zero := #[.int .i64 0]) hs (of_decide_eq_true (by kernel_rfl)) (by kernel_rfl) rfl (by kernel_rfl) (by kernel_rfl) Tryz.underlying3
    obtain ⟨cs, h1, h2⟩ := cells_of_shaped (g := 1) (t := 3) (zero := #[.int .i64 0]) hs (of_decide_eq_true (by kernel_rfl)) (by kernel_rfl)
    refine ⟨m, 3, (0, 0), ?_⟩
    rw [h1]
    have h3 : cs[0]? = some (.int .i64 m) := by
      unfold World.cell? at hm
      rw [h1] at hm
      simpa using hm
    have : cs = #[.int .i64 m] := by
      apply Array.toList_inj.1
      obtain ⟨l⟩ := cs
      match l, h2, h3 with
      | [x], _, h3 => simp at h3; rw [h3]
    rw [this]
  have lt : ∀ {g : Nat} {o : Obj}, W.heap[g]? = some o → g < W.heap.size := fun h => (Array.getElem?_eq_some_iff.1 h).1
  obtain ⟨t, fr, e0⟩ := h0
  obtain ⟨m, t', fr', e1⟩ := h1
  obtain ⟨t2, fr2, e2⟩ := h2
  exact ⟨lt e0, lt e1, ⟨t, fr, e0⟩, ⟨m, t', fr', e1⟩, lt e2, t2, fr2, e2⟩

theorem door_met (os : Os) (args : Array Value) : laidMetH Tryz.prog laid ((World.laidAll Tryz.prog os laid).forCall (fun _ _ => 0) ⟨#[], args, []⟩).memory := by
  rw [MakeChecks.laidMetH_plain _ _ _ (by kernel_rfl)]
  exact laidMet_laidAll _ (by kernel_rfl) (by kernel_rfl)
theorem door_shape (os : Os) (args : Array Value) : ((World.laidAll Tryz.prog os laid).forCall (fun _ _ => 0) ⟨#[], args, []⟩).Shaped Tryz.prog := World.shaped_of_ZipB (by kernel_rfl) (by kernel_rfl)

end Go.Proofs.YtiikjcdjgmlcgaaGreatDoor.HBT
/- The laws' helpers: played, same, find. -/
namespace Go.Proofs.YtiikjcdjgmlcgaaGreatDoor.HBT
open Go Go.Proofs.YtiikjcdjgmlcgaaGreatDoor.HB Go.RowKit
set_option maxRecDepth 8000

end Go.Proofs.YtiikjcdjgmlcgaaGreatDoor.HBT
/- The laws' helpers: same, find. -/
namespace Go.Proofs.YtiikjcdjgmlcgaaGreatDoor.HBT
open Go Go.Proofs.YtiikjcdjgmlcgaaGreatDoor.HB Go.RowKit
set_option maxRecDepth 8000

theorem fx_eq (x y : Fu) : allEq [.str x.p, .str x.d, .int .i64 x.v, .int .i64 x.m, .int .i64 x.c, .int .i64 x.o, .int .i64 x.k] [.str y.p, .str y.d, .int .i64 y.v, .int .i64 y.m, .int .i64 y.c, .int .i64 y.o, .int .i64 y.k] ↔ x = y := by
  cases x; cases y; simp [allEq, eq1]
theorem chg_eq (x y : Chg) : allEq [.int .i64 x.k, .str x.p, .str x.d, .int .i64 x.v] [.int .i64 y.k, .str y.p, .str y.d, .int .i64 y.v] ↔ x = y := by
  cases x; cases y; simp [allEq, eq1]
end Go.Proofs.YtiikjcdjgmlcgaaGreatDoor.HBT
/- Loading, plainly: which lists of nodes make a tree. -/
namespace Go.Proofs.YtiikjcdjgmlcgaaGreatDoor.HBT
open Go Go.Proofs.YtiikjcdjgmlcgaaGreatDoor.HB Go.RowKit
set_option maxRecDepth 8000

def mayP (x : Fu) : Prop := (0 ≤ x.v ∧ x.v ≤ 2147483647) ∧ (0 ≤ x.m ∧ x.m ≤ 2147483647) ∧ (0 ≤ x.c ∧ x.c ≤ 2147483647) ∧ (0 ≤ x.o ∧ x.o ≤ 2147483647) ∧ x.d.size ≤ 64 ∧ 0 ≤ x.k ∧ x.k ≤ 100000 ∧ (x.o = 0 ∨ x.k = 0)
instance (x : Fu) : Decidable (mayP x) := by unfold mayP; infer_instance
def standsP (done : List Fu) (x : Fu) : Prop := (done = [] ∧ x.p = slash ∧ x.o = 0) ∨ (∃ y, done.getLast? = some y ∧ parentE x.p = 0 ∧ orderB y.p x.p < 0 ∧ ∃ a ∈ done, a.p = parentB x.p ∧ a.o = 0)
open Classical in
noncomputable def loadB : List Fu → List Fu → Bool
  | _, [] => true
  | done, x :: l => decide (standsP done x ∧ mayP x) && loadB (done ++ [x]) l
noncomputable def loadE (l : List Fu) : Int := if 64 < l.length then 2 else if l = [] then 1 else if loadB [] l = true then 0 else 1

theorem stands_inv {done : List Fu} {x : Fu} (h : done = [] ∨ TInv done) (hl : done.length < 64) (hs : standsP done x) (hm : mayP x) : TInv (done ++ [x]) := by
  obtain ⟨m1, m2, m3, m4, m5, m6, m7, m8⟩ := hm
  rcases hs with ⟨rfl, e1, e2⟩ | ⟨y, ey, e1, e2, a, ha, e3, e4⟩
  · exact {
      sorted := List.pairwise_singleton _ _
      len := by simp
      root := ⟨x, by simp, e1, e2⟩
      ok := fun z hz => by
        simp at hz; subst hz
        exact ⟨e1 ▸ parse_slash, m5, m1, m2, m3, m4, ⟨m6, m7⟩, m8⟩
      up := fun z hz hn => by simp at hz; subst hz; exact absurd e1 hn }
  · have hI : TInv done := h.resolve_left fun e => by rw [e] at ha; cases ha
    obtain ⟨ys, rfl⟩ := List.getLast?_eq_some_iff.1 ey
    exact {
      sorted := by
        refine List.pairwise_append.2 ⟨hI.sorted, List.pairwise_singleton _ _, fun b hb c hc => ?_⟩
        simp only [List.mem_singleton] at hc; subst hc
        rcases List.mem_append.1 hb with hb | hb
        · exact orderB_trans ((List.pairwise_append.1 hI.sorted).2.2 b hb y (by simp)) e2
        · simp only [List.mem_singleton] at hb; subst hb; exact e2
      len := by rw [List.length_append]; simp only [List.length_singleton]; omega
      root := by
        obtain ⟨r, hr, q⟩ := hI.root
        exact ⟨r, List.mem_append.2 (.inl hr), q⟩
      ok := fun z hz => by
        rcases List.mem_append.1 hz with hz | hz
        · exact hI.ok z hz
        · simp only [List.mem_singleton] at hz; subst hz
          exact ⟨(parentE_zero e1).1, m5, m1, m2, m3, m4, ⟨m6, m7⟩, m8⟩
      up := fun z hz hn => by
        rcases List.mem_append.1 hz with hz | hz
        · obtain ⟨b, hb, q⟩ := hI.up z hz hn
          exact ⟨b, List.mem_append.2 (.inl hb), q⟩
        · simp only [List.mem_singleton] at hz; subst hz
          exact ⟨a, List.mem_append.2 (.inl ha), e3, e4⟩ }
theorem TInv.stands {done : List Fu} {x : Fu} {l : List Fu} (h : TInv (done ++ x :: l)) : standsP done x ∧ mayP x := by
  have hx : x ∈ done ++ x :: l := by simp
  obtain ⟨q1, q2, q3, q4, q5, q6, q7, q8⟩ := h.ok x hx
  refine ⟨?_, q3, q4, q5, q6, q2, q7.1, q7.2, q8⟩
  by_cases hd : done = []
  · subst hd
    obtain ⟨r, tl, e, e1, e2⟩ := h.head
    simp only [List.nil_append, List.cons.injEq] at e
    obtain ⟨rfl, _⟩ := e
    exact .inl ⟨rfl, e1, e2⟩
  · obtain ⟨y, ey⟩ : ∃ y, done.getLast? = some y := ⟨_, List.getLast?_eq_some_getLast hd⟩
    obtain ⟨ys, rfl⟩ := List.getLast?_eq_some_iff.1 ey
    have ex : (ys ++ [y] ++ x :: l)[ys.length + 1]? = some x := by simp
    have ey2 : (ys ++ [y] ++ x :: l)[ys.length]? = some y := by simp
    obtain ⟨s1, s2, s3, k, z, s4, s5, s6, s7⟩ := h.sound ex ey2
    refine .inr ⟨y, ey, s1, by omega, z, ?_, s6, s7⟩
    have : (ys ++ [y])[k]? = some z := by
      rw [List.getElem?_append_left (by simp; omega)] at s5
      exact s5
    exact List.mem_of_getElem? this
open Classical in
theorem TInv.loadB : ∀ {l done : List Fu}, TInv (done ++ l) → HBT.loadB done l = true
  | [], _, _ => rfl
  | x :: l, done, h => by
    unfold HBT.loadB
    rw [Bool.and_eq_true]
    refine ⟨decide_eq_true h.stands, TInv.loadB ?_⟩
    have e : done ++ x :: l = (done ++ [x]) ++ l := by simp
    rw [← e]; exact h
theorem TInv.loadE {l : List Fu} (h : TInv l) : HBT.loadE l = 0 := by
  unfold HBT.loadE
  have h0 : l ≠ [] := fun e => by obtain ⟨r, hr, _⟩ := h.root; rw [e] at hr; cases hr
  rw [if_neg (by have := h.len; omega), if_neg h0, if_pos (TInv.loadB (done := []) h)]
end Go.Proofs.YtiikjcdjgmlcgaaGreatDoor.HBT
