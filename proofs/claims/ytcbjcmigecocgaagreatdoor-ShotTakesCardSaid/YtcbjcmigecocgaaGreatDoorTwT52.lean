/- A part of the tree: Part; the laws' 'seen'. -/
import Derived.Test.YtcbjcmigecocgaaGreatDoorTwT10
import Derived.Test.YtcbjcmigecocgaaGreatDoorTwG4
import Derived.Test.YtcbjcmigecocgaaGreatDoorTwU1
set_option linter.unusedVariables false
set_option linter.unusedSimpArgs false
namespace Go.Proofs.YtcbjcmigecocgaaGreatDoor.HBT
open Go Go.Proofs.YtcbjcmigecocgaaGreatDoor.HB Go.RowKit
set_option maxRecDepth 8000

structure Sn where
  p : ByteArray
  d : ByteArray
  v : Int
  deriving DecidableEq
abbrev encN (x : Sn) : AV := .agg [.str x.p, .str x.d, .int .i64 x.v]
abbrev encNs (l : List Sn) : AV := .ro 3 (l.map encN) l.length
abbrev tN : TypeId := 91
abbrev LS3 := LN encN tN 3
theorem sn_eq (x y : Sn) : allEq [.str x.p, .str x.d, .int .i64 x.v] [.str y.p, .str y.d, .int .i64 y.v] ↔ x = y := by
  cases x; cases y; simp [allEq, eq1]
def seenX (kd : Int) (x : Fu) : Sn := if kd = 2 then ⟨x.p, eS, 0⟩ else ⟨x.p, x.d, x.v⟩
noncomputable def partF (l : List Fu) (at_ : ByteArray) (kd : Int) : List Sn := (l.filter fun x => decide (coversP kd at_ 1 x.p)).map (seenX kd)
def partE (at_ : ByteArray) (kd : Int) : Int := if parseE at_ ≠ 0 then 10 else if kd < 1 ∨ 3 < kd then 1 else 0
theorem part_more {l : List Fu} {i : Nat} {x : Fu} (ex : l[i]? = some x) (a : ByteArray) (kd : Int) : partF (l.take (i + 1)) a kd = partF (l.take i) a kd ++ (if coversP kd a 1 x.p then [seenX kd x] else []) := by
  obtain ⟨h1, e1⟩ := List.getElem?_eq_some_iff.1 ex
  unfold partF
  rw [List.take_succ_eq_append_getElem h1, e1, List.filter_append, List.map_append]
  congr 1
  by_cases h : coversP kd a 1 x.p
  · rw [if_pos h, List.filter_cons_of_pos (by simpa using h)]; rfl
  · rw [if_neg h, List.filter_cons_of_neg (by simpa using h)]; rfl
theorem part_len (l : List Fu) (a : ByteArray) (kd : Int) : (partF l a kd).length ≤ l.length := by
  unfold partF
  rw [List.length_map]
  exact List.length_filter_le _ _
set_option maxHeartbeats 4000000 in
theorem part_spec (gt gm : Nat) {l : List Fu} {es : Array MapEntry} {cl : Nat} (hT : TM l es cl) (hI : TInv l) (a : ByteArray) (kd : Int) :
    FnSpec C 17 [.ptr 0 gt 0, .str a, .int .i64 kd] (TreeL gt gm es cl) (fun r L' => r = .tuple [encNs (if partE a kd = 0 then partF l a kd else []), .int .i64 (partE a kd)] ∧ L' = TreeL gt gm es cl) := by
  have hL := hI.len
  refine FnSpec.start C_ok Tryz.func17 rfl rfl Tryz.ntmps17 ?_
  repeat(first|refine Sc ?_|refine fun(_:Nat)=>?_)
  refine ACallT.ok (ACall.sel [0] (by decide) [.ptr 0 gt 0] _ (.one (Sub.refl _)) (none_spec gt (some gm)) ?_)
  rintro r L' ⟨rfl, rfl⟩
  refine ⟨.bool false, Sub.refl _, ?_⟩
  repeat(first|refine Sc ?_|refine fun(_:Nat)=>?_)
  refine ACallT.ok (ACall.ret (parse_code a) ?_)
  repeat(first|refine Sc ?_|refine fun(_:Nat)=>?_)
  refine ⟨fun h => ?_, fun h => ?_⟩
  · have h : parseE a ≠ 0 := h
    have e : partE a kd = 10 := by unfold partE; rw [if_pos h]
    repeat(first|refine Sc ?_|refine fun(_:Nat)=>?_)
    exact ⟨.tuple [encNs [], .int .i64 10], _, FinOk.keep _ [0, 1] (Sub.tuples ⟨Sub.nilsRo 3, Sub.refl _, trivial⟩) (by decide) rfl, by rw [e]; rfl, rfl⟩
  have hp : ¬ parseE a ≠ 0 := h
  repeat(first|refine Sc ?_|refine fun(_:Nat)=>?_)
  refine ⟨fun h => ?_, fun h => ?_⟩
  · have h : kd < 1 := h
    have e : partE a kd = 1 := by unfold partE; rw [if_neg hp, if_pos (.inl h)]
    repeat(first|refine Sc ?_|refine fun(_:Nat)=>?_)
    exact ⟨.tuple [encNs [], .int .i64 1], _, FinOk.keep _ [0, 1] (Sub.tuples ⟨Sub.nilsRo 3, Sub.refl _, trivial⟩) (by decide) rfl, by rw [e]; rfl, rfl⟩
  have h1 : ¬ kd < 1 := h
  repeat(first|refine Sc ?_|refine fun(_:Nat)=>?_)
  refine ⟨fun h => ?_, fun h => ?_⟩
  · have h : 3 < kd := h
    have e : partE a kd = 1 := by unfold partE; rw [if_neg hp, if_pos (.inr h)]
    repeat(first|refine Sc ?_|refine fun(_:Nat)=>?_)
    exact ⟨.tuple [encNs [], .int .i64 1], _, FinOk.keep _ [0, 1] (Sub.tuples ⟨Sub.nilsRo 3, Sub.refl _, trivial⟩) (by decide) rfl, by rw [e]; rfl, rfl⟩
  have h3 : ¬ 3 < kd := h
  have e : partE a kd = 0 := by unfold partE; rw [if_neg hp, if_neg (by omega)]
  rw [e, if_pos rfl]
  repeat(first|refine Sc ?_|refine fun(_:Nat)=>?_)
  refine ACallT.ok (ACall.sel [0, 1] (by decide) [.ptr 0 gt 0] _ (.one (Sub.refl _)) (nodes_spec gt gm hT hI) ?_)
  rintro r L' ⟨gn, Cn, rfl, rfl⟩
  refine ⟨.sl 2 gn Cn l.length, Sub.refl _, ?_⟩
  repeat(first|refine Sc ?_|refine fun(_:Nat)=>?_)
  refine Run.loopW (fun k env L => ∃ (i : Nat) (v : AV) (gk : Nat) (o : AObj), k = l.length - i ∧ i ≤ l.length ∧ LS3 3 (partF (l.take i) a kd) v gk o ∧ env = [.junk, .str a, .int .i64 kd, .junk, .junk, .junk, .junk, .junk, .junk, .junk, v, .junk, .junk, .junk, .junk, .junk, .junk, .junk, .junk, .junk, .junk, .junk, .junk, .junk, .junk, .junk, .junk, .junk, .junk, .junk, .sl 2 gn Cn l.length, .int .i64 l.length, .int .i64 i, .junk, .junk, .junk, .junk, .junk, .junk, .junk, .junk, .junk, .junk, .junk, .junk, .junk, .junk, .junk, .junk, .junk, .junk, .junk, .junk, .junk, .junk, .junk, .junk, .junk, .junk, .junk] ∧ L = [(gt, .cells tT [.any (.map (some gm))]), (gm, .obj (.map es cl)), (gn, .row tX 7 Cn (l.map encX)), (gk, o)]) l.length
    [.junk, .str a, .int .i64 kd, .junk, .junk, .junk, .junk, .junk, .junk, .junk, .nils, .junk, .junk, .junk, .junk, .junk, .junk, .junk, .junk, .junk, .junk, .junk, .junk, .junk, .junk, .junk, .junk, .junk, .junk, .junk, .sl 2 gn Cn l.length, .int .i64 l.length, .int .i64 (0 : Nat), .junk, .junk, .junk, .junk, .junk, .junk, .junk, .junk, .junk, .junk, .junk, .junk, .junk, .junk, .junk, .junk, .junk, .junk, .junk, .junk, .junk, .junk, .junk, .junk, .junk, .junk, .junk] [(gt, .cells tT [.any (.map (some gm))]), (gm, .obj (.map es cl)), (gn, .row tX 7 Cn (l.map encX)), (0, .dead)] (Weak.sel ?_ [0, 1, 2, 9] (by decide) ?_) ⟨0, .nils, 0, .dead, by omega, by omega, .inl ⟨rfl, rfl, rfl⟩, rfl, rfl⟩ ?_
  · exact Ss
  · exact Sl
  rintro k env L ⟨i, v, gk, o, rfl, hi, hv, rfl, rfl⟩
  repeat(first|refine Sc ?_|refine fun(_:Nat)=>?_)
  refine ⟨fun h => ?_, fun h => ?_⟩
  · have h : (i : Int) < (l.length : Int) := h
    obtain ⟨x, ex⟩ : ∃ x, l[i]? = some x := ⟨_, List.getElem?_eq_getElem (by omega)⟩
    have hm := part_more ex a kd
    have hml := part_len (l.take i) a kd
    rw [List.length_take] at hml
    generalize partF (l.take i) a kd = m at hv hm hml
    repeat(first|refine Sc ?_|refine fun(_:Nat)=>?_)
    refine ⟨h, ?_⟩
    repeat(first|refine Sc ?_|refine fun(_:Nat)=>?_)
    refine ⟨encX x, map_at encX ex, ?_⟩
    repeat(first|refine Sc ?_|refine fun(_:Nat)=>?_)
    refine ACallT.ok (ACall.ret (covers_spec kd a 1 x.p) ?_)
    by_cases hc : coversP kd a 1 x.p
    · rw [decide_eq_true hc]
      rw [if_pos hc] at hm
      repeat(first|refine Sc ?_|refine fun(_:Nat)=>?_)
      refine ⟨fun h2 => ?_, fun h2 => ?_⟩
      · have h2 : kd = 2 := h2
        have es : seenX kd x = ⟨x.p, eS, 0⟩ := by unfold seenX; rw [if_pos h2]
        rw [es] at hm
        repeat(first|refine Sc ?_|refine fun(_:Nat)=>?_)
        rcases hv with ⟨e0, rfl, rfl⟩ | ⟨Cp, rfl, rfl⟩
        · repeat(first|refine Sc ?_|refine fun(_:Nat)=>?_)
          refine ⟨fun h => absurd h (List.cons_ne_nil _ _), fun _ => ?_⟩
          repeat(first|refine Sc ?_|refine fun(_:Nat)=>?_)
          rename_i g' Cp'
          refine fun r hr => ?_
          obtain rfl := add1 hr (by omega)
          repeat(first|refine Sc ?_|refine fun(_:Nat)=>?_)
          refine Cont.lpW ?_
          refine ⟨l.length - (i + 1), _, _, by omega, Weak.sel ?_ [0, 1, 2, 7] (by decide) ?_, ⟨i + 1, .sl 3 g' Cp' 1, g', _, rfl, by omega, hm.symm ▸ LN.one e0, rfl, rfl⟩⟩
          · exact Ss
          · exact Sl
        · repeat(first|refine Sc ?_|refine fun(_:Nat)=>?_)
          refine ⟨by simp, ?_⟩
          repeat(first|refine Sc ?_|refine fun(_:Nat)=>?_)
          refine ⟨by simp; omega, ?_⟩
          repeat(first|refine Sc ?_|refine fun(_:Nat)=>?_)
          rename_i g' Cp'
          refine fun r hr => ?_
          obtain rfl := add1 hr (by omega)
          repeat(first|refine Sc ?_|refine fun(_:Nat)=>?_)
          refine Cont.lpW ?_
          refine ⟨l.length - (i + 1), _, _, by omega, Weak.sel ?_ [0, 1, 2, 3] (by decide) ?_, ⟨i + 1, .sl 3 g' Cp' ((m.map encN).length + 1), g', _, rfl, by omega, hm.symm ▸ LN.snoc, rfl, rfl⟩⟩
          · exact Ss
          · exact Sl
      · have h2 : ¬ kd = 2 := h2
        have es : seenX kd x = ⟨x.p, x.d, x.v⟩ := by unfold seenX; rw [if_neg h2]
        rw [es] at hm
        repeat(first|refine Sc ?_|refine fun(_:Nat)=>?_)
        rcases hv with ⟨e0, rfl, rfl⟩ | ⟨Cp, rfl, rfl⟩
        · repeat(first|refine Sc ?_|refine fun(_:Nat)=>?_)
          refine ⟨fun h => absurd h (List.cons_ne_nil _ _), fun _ => ?_⟩
          repeat(first|refine Sc ?_|refine fun(_:Nat)=>?_)
          rename_i g' Cp'
          refine fun r hr => ?_
          obtain rfl := add1 hr (by omega)
          repeat(first|refine Sc ?_|refine fun(_:Nat)=>?_)
          refine Cont.lpW ?_
          refine ⟨l.length - (i + 1), _, _, by omega, Weak.sel ?_ [0, 1, 2, 7] (by decide) ?_, ⟨i + 1, .sl 3 g' Cp' 1, g', _, rfl, by omega, hm.symm ▸ LN.one e0, rfl, rfl⟩⟩
          · exact Ss
          · exact Sl
        · repeat(first|refine Sc ?_|refine fun(_:Nat)=>?_)
          refine ⟨by simp, ?_⟩
          repeat(first|refine Sc ?_|refine fun(_:Nat)=>?_)
          refine ⟨by simp; omega, ?_⟩
          repeat(first|refine Sc ?_|refine fun(_:Nat)=>?_)
          rename_i g' Cp'
          refine fun r hr => ?_
          obtain rfl := add1 hr (by omega)
          repeat(first|refine Sc ?_|refine fun(_:Nat)=>?_)
          refine Cont.lpW ?_
          refine ⟨l.length - (i + 1), _, _, by omega, Weak.sel ?_ [0, 1, 2, 3] (by decide) ?_, ⟨i + 1, .sl 3 g' Cp' ((m.map encN).length + 1), g', _, rfl, by omega, hm.symm ▸ LN.snoc, rfl, rfl⟩⟩
          · exact Ss
          · exact Sl
    · rw [decide_eq_false hc]
      rw [if_neg hc, List.append_nil] at hm
      repeat(first|refine Sc ?_|refine fun(_:Nat)=>?_)
      refine fun r hr => ?_
      obtain rfl := add1 hr (by omega)
      repeat(first|refine Sc ?_|refine fun(_:Nat)=>?_)
      refine Cont.lpW ?_
      refine ⟨l.length - (i + 1), _, _, by omega, Weak.sel ?_ [0, 1, 2, 3] (by decide) ?_, ⟨i + 1, v, gk, o, rfl, by omega, hm.symm ▸ hv, rfl, rfl⟩⟩
      · exact Ss
      · exact Sl
  · have h : ¬ (i : Int) < (l.length : Int) := h
    have ei : l.take i = l := List.take_of_length_le (by omega)
    rw [ei] at hv
    repeat(first|refine Sc ?_|refine fun(_:Nat)=>?_)
    exact ⟨.tuple [encNs (partF l a kd), .int .i64 0], _, FinOk.keepLend (r1 := .tuple [encNs (partF l a kd), .int .i64 0]) [0, 1] (by decide) (Lend.tuples ⟨hv.lend rfl, .same _, trivial⟩) (Sub.refl _), rfl, rfl⟩
end Go.Proofs.YtcbjcmigecocgaaGreatDoor.HBT
/- The law TreePart, walked. -/
namespace Go.Proofs.YtcbjcmigecocgaaGreatDoor.HBT
open Go Go.Proofs.YtcbjcmigecocgaaGreatDoor.HB Go.RowKit
set_option maxRecDepth 8000

theorem TInv.above {l : List Fu} (h : TInv l) (w : List ByteArray) : ∀ (n : Nat) (x : Fu), x ∈ l → beginsP (namesOf x.p) w → (namesOf x.p).length = w.length + n → ∃ y ∈ l, namesOf y.p = w
  | 0, x, hx, hb, hn => ⟨x, hx, by
      refine eq_of_upto (by omega) fun j hj => hb.2 j (by omega)⟩
  | n + 1, x, hx, hb, hn => by
    have hp := (h.ok x hx).1
    have hne : namesOf x.p ≠ [] := fun e => by rw [e] at hn; simp at hn
    obtain ⟨ls, z, e1, e2, e3, e4, e5, e6⟩ := place_split hp hne
    obtain ⟨a, ha, ea, _⟩ := h.up x hx fun e => hne ((names_iff hp).2 e)
    have en : namesOf a.p = ls := by rw [ea, e4]; exact (names_placed e6).2
    rw [e1] at hb hn
    simp only [List.length_append, List.length_singleton] at hn
    refine TInv.above h w n a ha ?_ (by rw [en]; omega)
    rw [en]
    refine ⟨by omega, fun i hi => ?_⟩
    have := hb.2 i hi
    rw [List.getElem?_append_left (by omega)] at this
    exact this
theorem part_none {l : List Fu} (h : TInv l) {p : ByteArray} (hf : findF l p = none) (kd : Int) : partF l p kd = [] := by
  unfold partF
  rw [List.filter_eq_nil_iff.2, List.map_nil]
  intro x hx hc
  have hc : coversP kd p 1 x.p := of_decide_eq_true hc
  obtain ⟨c1, c2, _, _, c5, _⟩ := hc
  obtain ⟨y, hy, ey⟩ := h.above (namesOf p) ((namesOf x.p).length - (namesOf p).length) x hx c5 (by have := c5.1; omega)
  refine findF_none hf y hy ?_
  rw [(place_names (h.ok y hy).1).2, (place_names c1).2, ey]
end Go.Proofs.YtcbjcmigecocgaaGreatDoor.HBT
/- What a part shows, as the document's own part tells it, plainly. -/
namespace Go.Proofs.YtcbjcmigecocgaaGreatDoor.HBT
open Go Go.Proofs.YtcbjcmigecocgaaGreatDoor.HB Go.RowKit
set_option maxRecDepth 8000

theorem begins_take {p a : ByteArray} : beginsP (namesOf p) (namesOf a) ↔ (namesOf a).length ≤ (namesOf p).length ∧ (namesOf p).take (namesOf a).length = namesOf a := by
  unfold beginsP
  refine and_congr_right fun hl => ⟨fun h => ?_, fun h i hi => ?_⟩
  · apply List.ext_getElem?
    intro i
    rw [List.getElem?_take]
    split
    · rename_i hi; exact h i hi
    · rename_i hi; rw [List.getElem?_eq_none (by omega)]
  · rw [← h, List.getElem?_take, if_pos hi]
theorem child_begins {p a : ByteArray} (ha : parseE a = 0) (hp : parseE p = 0) : childB p a ↔ beginsP (namesOf p) (namesOf a) ∧ (namesOf p).length = (namesOf a).length + 1 := by
  obtain ⟨okw, ew⟩ := place_names ha
  obtain ⟨okc, ec⟩ := place_names hp
  unfold childB
  constructor
  · rintro ⟨h1, h2⟩
    have hn : namesOf p ≠ [] := fun e => (parentE_zero h1).2 ((names_iff hp).1 e)
    have h10 := (parent_placed okc).2 hn
    rw [← ec, h2, ew] at h10
    have h11 := placed_inj okw (okc.take _) h10
    have hl : (namesOf p).length ≠ 0 := fun e => hn (List.eq_nil_of_length_eq_zero e)
    have hlen : (namesOf a).length = (namesOf p).length - 1 := by rw [h11, List.length_take]; omega
    exact ⟨begins_take.2 ⟨by omega, by rw [hlen]; exact h11.symm⟩, by omega⟩
  · rintro ⟨hb, hl⟩
    obtain ⟨_, ht⟩ := begins_take.1 hb
    have hn : namesOf p ≠ [] := fun e => by rw [e] at hl; simp at hl
    have h10 := (parent_placed okc).2 hn
    rw [← ec] at h10
    refine ⟨parentE_of hp (fun e => hn ((names_iff hp).2 e)), ?_⟩
    rw [h10, show (namesOf p).length - 1 = (namesOf a).length by omega, ht]
    exact ew.symm
theorem same_begins {p a : ByteArray} (ha : parseE a = 0) (hp : parseE p = 0) : p = a ↔ beginsP (namesOf p) (namesOf a) ∧ (namesOf p).length = (namesOf a).length := by
  obtain ⟨okw, ew⟩ := place_names ha
  obtain ⟨okc, ec⟩ := place_names hp
  constructor
  · rintro rfl; exact ⟨⟨Nat.le_refl _, fun _ _ => rfl⟩, rfl⟩
  · rintro ⟨hb, h⟩
    obtain ⟨_, ht⟩ := begins_take.1 hb
    rw [ec, ew, ← ht, ← h, List.take_length]
theorem below_begins {p a : ByteArray} (ha : parseE a = 0) (hp : parseE p = 0) : belowR p a ↔ beginsP (namesOf p) (namesOf a) ∧ (namesOf a).length < (namesOf p).length := by
  unfold belowR namesR
  rw [if_pos ha, if_pos hp, begins_take]
  exact ⟨fun h => ⟨⟨Nat.le_of_lt h.1, h.2⟩, h.1⟩, fun h => ⟨h.2, h.1.2⟩⟩
theorem cov_iff {kd : Int} {a p : ByteArray} (ha : parseE a = 0) (hp : parseE p = 0) (hk : 1 ≤ kd ∧ kd ≤ 3) : coversP kd a 1 p ↔ (p = a ∨ (kd = 3 ∧ belowR p a) ∨ (kd = 2 ∧ childB p a)) := by
  rw [same_begins ha hp, below_begins ha hp, child_begins ha hp]
  unfold coversP
  constructor
  · rintro ⟨_, _, _, _, hb, hk2⟩
    have := hb.1
    by_cases e : (namesOf p).length = (namesOf a).length
    · exact .inl ⟨hb, e⟩
    rcases hk2 with ⟨_, h⟩ | ⟨h2, _, h⟩ | h
    · exact absurd h e
    · exact .inr (.inr ⟨h2, hb, by omega⟩)
    · exact .inr (.inl ⟨h, hb, by omega⟩)
  · rintro (⟨hb, h⟩ | ⟨h, hb, h2⟩ | ⟨h, hb, h2⟩)
    · refine ⟨ha, hp, by decide, by decide, hb, ?_⟩
      rcases (show kd = 1 ∨ kd = 2 ∨ kd = 3 by omega) with k | k | k
      · exact .inl ⟨k, h⟩
      · exact .inr (.inl ⟨k, by decide, by omega⟩)
      · exact .inr (.inr k)
    · exact ⟨ha, hp, by decide, by decide, hb, .inr (.inr h)⟩
    · exact ⟨ha, hp, by decide, by decide, hb, .inr (.inl ⟨h, by decide, by omega⟩)⟩
end Go.Proofs.YtcbjcmigecocgaaGreatDoor.HBT
