/- How many inner nodes there are. -/
import Derived.Test.YtgpbppkmmlclfaaDoorTtK5
import Derived.Test.YtgpbppkmmlclfaaDoorTtK7
set_option linter.unusedVariables false
set_option linter.unusedSimpArgs false
namespace Go.Proofs.YtgpbppkmmlclfaaDoor.HBT
open Go Go.Proofs.YtgpbppkmmlclfaaDoor.HB Go.RowKit
set_option maxRecDepth 8000

open Classical in
noncomputable def heads : NL → List ByteArray
  | [] => []
  | x :: l => match x.1 with
    | [] => heads l
    | n :: _ => if n ∈ heads l then heads l else n :: heads l
theorem heads_len : ∀ l : NL, (heads l).length ≤ l.length
  | [] => by simp [heads]
  | x :: l => by
    have := heads_len l
    unfold heads
    split
    · simp; omega
    · split <;> simp <;> omega
theorem heads_nodup : ∀ l : NL, (heads l).Nodup
  | [] => by simp [heads]
  | x :: l => by
    have := heads_nodup l
    unfold heads
    split
    · exact this
    · split
      · exact this
      · rename_i hn
        exact List.nodup_cons.2 ⟨hn, this⟩
theorem heads_mem (n : ByteArray) : ∀ l : NL, n ∈ heads l ↔ belowN l n ≠ []
  | [] => by simp [heads, belowN]
  | ([], o) :: l => by
    rw [below_0, ← heads_mem n l]; rfl
  | (m :: r, o) :: l => by
    have ih := heads_mem n l
    unfold heads
    dsimp only
    by_cases e : m = n
    · subst e
      rw [below_C]
      refine ⟨fun _ => by simp, fun _ => ?_⟩
      split
      · assumption
      · simp
    · rw [below_F e, ← ih]
      split
      · rfl
      · rw [List.mem_cons]
        exact ⟨fun h => h.resolve_left (fun h => e h.symm), .inr⟩
noncomputable def sizeD : Nat → NL → Nat
  | 0, _ => 1
  | d + 1, l => 1 + ((heads l).map fun n => sizeD d (belowN l n)).sum
theorem sum_le {α : Type} (f : α → Nat) (B : Nat) : ∀ (l : List α), (∀ x ∈ l, f x ≤ B) → (l.map f).sum ≤ l.length * B
  | [], _ => by simp
  | x :: l, h => by
    have h1 := sum_le f B l (fun y hy => h y (List.mem_cons_of_mem _ hy))
    have h2 := h x (List.mem_cons_self ..)
    rw [List.map_cons, List.sum_cons, List.length_cons, Nat.add_mul]; omega
theorem sizeD_le : ∀ (d : Nat) (l : NL), l.length ≤ 200 → sizeD d l ≤ 201 ^ d
  | 0, _, _ => by simp [sizeD]
  | d + 1, l, h => by
    have h1 := sum_le (fun n => sizeD d (belowN l n)) (201 ^ d) (heads l) (fun n _ => sizeD_le d _ (Nat.le_trans (below_len l n) h))
    have h2 := heads_len l
    have h3 : (heads l).length * 201 ^ d ≤ 200 * 201 ^ d := Nat.mul_le_mul_right _ (by omega)
    have h4 : 1 ≤ 201 ^ d := Nat.one_le_pow _ _ (by decide)
    show 1 + _ ≤ 201 ^ d * 201
    omega
theorem kids_perm {l : NL} {ks : List Kid} (hk : ∀ n, (∃ x ∈ ks, x.1 = n) ↔ belowN l n ≠ []) (hnd : (ks.map (·.1)).Nodup) : (ks.map (·.1)).Perm (heads l) :=
  (List.perm_ext_iff_of_nodup hnd (heads_nodup l)).2 fun n => by
    rw [heads_mem, ← hk n, List.mem_map]
theorem below_names {l : NL} {d : Nat} (h : ∀ x ∈ l, x.1.length < d + 1) (n : ByteArray) : ∀ x ∈ belowN l n, x.1.length < d := fun x hx => by
  obtain ⟨y, hy, e⟩ := List.mem_filterMap.1 hx
  obtain ⟨ns, o⟩ := y
  cases ns with
  | nil => cases e
  | cons m r =>
    dsimp only at e
    split at e
    · cases e
      have := h _ hy
      simpa using this
    · cases e
theorem leftOf_mem {es : Array MapEntry} {seen : Array Nat} {e : MapEntry} (h : e ∈ (leftOf es seen).toList) : e ∈ es.toList := by
  unfold leftOf at h
  simp only [Array.toList_filter, List.mem_filter] at h
  exact h.1
theorem Imp.back {E F : AHeap} {kb : Nat × AObj} (it : Nat × AObj) (h : Imp (E ++ [kb]) F) : Imp [(0, boxL E), it, kb] [(0, boxL F), it] :=
  (Imp.perm (List.Perm.cons _ (List.Perm.swap kb it []))).trans (Imp.app (L := [_, _]) (M := [it]) (((Imp.app (M := [kb]) (Imp.unbox 0 E) (.refl _)).trans h).trans (.box 0 F)) (.refl _))
theorem Imp.kid_in {ks : List Kid} {i : Nat} {x : Kid} (hx : ks[i]? = some x) : Imp ((ks.eraseIdx i).map kidB ++ [kidB x]) (ks.map kidB) := by
  refine .perm ?_
  have := (erase_perm hx).map kidB
  rw [List.map_cons] at this
  exact (this.trans (List.perm_append_comm (l₁ := [kidB x]) (l₂ := (ks.eraseIdx i).map kidB))).symm
noncomputable def sumK (d : Nat) (l : NL) (V : List Kid) : Nat := (V.map fun x => sizeD d (belowN l x.1)).sum
theorem sumK_all {l : NL} {ks V : List Kid} {d : Nat} (hk : ∀ n, (∃ x ∈ ks, x.1 = n) ↔ belowN l n ≠ []) (hnd : (ks.map (·.1)).Nodup) (hV : V.Perm ks) : 1 + sumK d l V = sizeD (d + 1) l := by
  have h1 : (V.map fun x => sizeD d (belowN l x.1)).Perm ((heads l).map fun n => sizeD d (belowN l n)) := by
    have := ((hV.map (·.1)).trans (kids_perm hk hnd)).map fun n => sizeD d (belowN l n)
    rwa [List.map_map] at this
  show 1 + _ = 1 + _
  congr 1
  exact h1.sum_nat
theorem sumK_le {l : NL} {V : List Kid} {d : Nat} (hl : l.length ≤ 200) (hV : V.length ≤ 200) (hd : d ≤ 6) : sumK d l V ≤ 200 * 65944160601201 := by
  have h1 := sum_le (fun x : Kid => sizeD d (belowN l x.1)) (201 ^ d) V (fun x _ => sizeD_le d _ (Nat.le_trans (below_len l x.1) hl))
  have h2 : 201 ^ d ≤ 201 ^ 6 := Nat.pow_le_pow_right (by decide) hd
  have h3 : V.length * 201 ^ d ≤ 200 * 201 ^ 6 := Nat.mul_le_mul hV h2
  exact Nat.le_trans h1 (Nat.le_trans h3 (by decide))
set_option maxHeartbeats 4000000 in
theorem sizeStepI (d : Nat) (hd : d ≤ 6) (ih : ∀ (l : NL) (g : Nat) (H : AHeap), IsN tI [] l g H → l ≠ [] → (∀ x ∈ l, x.1.length < d) → l.length ≤ 200 → FnSpec C 44 [.ptr 0 g 0] [(0, boxL H)] (fun r L' => r = .int .i64 (sizeD d l : Nat) ∧ L' = [(0, boxL H)]))
    (l : NL) (g : Nat) (H : AHeap) (hN : IsN tI [] l g H) (hd1 : ∀ x ∈ l, x.1.length < d + 1) (hl : l.length ≤ 200) :
    FnSpec C 44 [.ptr 0 g 0] [(0, boxL H)] (fun r L' => r = .int .i64 (sizeD (d + 1) l : Nat) ∧ L' = [(0, boxL H)]) := by
  obtain ⟨_, _, _, _, mv, wv, gm, gw, om, ow, ws, ks, hw, hws, hm, hk, hnd, hin⟩ := hN
  have hkl : ks.length ≤ 200 := by
    have h1 := (kids_perm hk hnd).length_eq
    have h2 := heads_len l
    rw [List.length_map] at h1
    omega
  refine FnSpec.imp (.unbox _ _) ?_
  refine FnSpec.start C_ok Tryd.func44 rfl rfl Tryd.ntmps44 ?_
  repeat(first|refine Sc ?_|refine fun(_:Nat)=>?_)
  rcases hm with ⟨rfl, rfl, rfl⟩ | ⟨rfl, es, cl, rfl, hm⟩
  · have hz : sizeD (d + 1) l = 1 := by rw [← sumK_all hk hnd (List.Perm.refl [])]; rfl
    intro gi
    repeat(first|refine Sc ?_|refine fun(_:Nat)=>?_)
    refine Run.loop (fun k env L => k = 0 ∧ env = [.ptr 0 g 0, .junk, .int .i64 0, .int .i64 1, .junk, .junk, .junk, .junk, .junk, .junk, .ptr 4 gi 0, .junk, .junk, .junk, .junk, .junk, .junk, .junk, .junk, .junk] ∧ L = [(g, .cells tI ([.any (.map none), wv] ++ [])), (gm, .dead), (gw, ow), (0, boxL (([] : List Kid).map kidB)), (gi, .obj (.mapIter none 0 #[] 0))]) 0
      [.ptr 0 g 0, .junk, .int .i64 0, .int .i64 1, .junk, .junk, .junk, .junk, .junk, .junk, .ptr 4 gi 0, .junk, .junk, .junk, .junk, .junk, .junk, .junk, .junk, .junk] ?_ ⟨rfl, rfl, rfl⟩ ?_
    · repeat(first|exact trivial|refine ⟨.inl rfl, ?_⟩|refine ⟨.inr rfl, ?_⟩)
    rintro k env L ⟨rfl, rfl, rfl⟩
    repeat(first|refine Sc ?_|refine fun(_:Nat)=>?_)
    exact ⟨.int .i64 1, [(0, boxL (nodeL tI [] g (.any (.map none)) wv gm gw .dead ow []))], (FinOk.keep _ [0, 1, 2, 3] (Sub.refl _) (by decide) rfl).trans (FinOk.imp _ (.box 0 _)), by rw [hz]; rfl, rfl⟩
  · refine ⟨1, es, cl, rfl, ?_⟩
    repeat(first|refine Sc ?_|refine fun(_:Nat)=>?_)
    rename_i gi
    refine Run.loopW (fun k env L => ∃ (V : List Kid) (seen : Array Nat), k = ks.length - V.length ∧ Visited ks es seen V ∧ env = [.ptr 0 g 0, .junk, .int .i64 0, .int .i64 (1 + sumK d l V : Nat), .junk, .junk, .junk, .junk, .junk, .junk, .ptr 4 gi 0, .junk, .junk, .junk, .junk, .junk, .junk, .junk, .junk, .junk] ∧ L = [(g, .cells tI ([.any (.map (some gm)), wv] ++ [])), (gm, .obj (.map es cl)), (gw, ow), (0, boxL (ks.map kidB)), (gi, .obj (.mapIter (some gm) cl seen cl))]) ks.length
      [.ptr 0 g 0, .junk, .int .i64 0, .int .i64 1, .junk, .junk, .junk, .junk, .junk, .junk, .ptr 4 gi 0, .junk, .junk, .junk, .junk, .junk, .junk, .junk, .junk, .junk] [(g, .cells tI ([.any (.map (some gm)), wv] ++ [])), (gm, .obj (.map es cl)), (gw, ow), (0, boxL (ks.map kidB)), (gi, .obj (.mapIter (some gm) cl #[] cl))] (Weak.sel ?_ [0, 1, 2, 3, 4] (by decide) ?_)
      ⟨[], #[], by simp, Visited.start, rfl, rfl⟩ ?_
    · exact Ss
    · exact Sl
    rintro k env L ⟨V, seen, rfl, hV, rfl, rfl⟩
    repeat(first|refine Sc ?_|refine fun(_:Nat)=>?_)
    refine ⟨1, es, cl, rfl, hm.old, Nat.le_refl _, fun h0 => ?_, fun e he => ?_⟩
    · have hVM := hV.stop hm h0
      repeat(first|refine Sc ?_|refine fun(_:Nat)=>?_)
      exact ⟨.int .i64 (1 + sumK d l V : Nat), [(0, boxL (nodeL tI [] g (.any (.map (some gm))) wv gm gw (.obj (.map es cl)) ow ks))], (FinOk.keep _ [0, 1, 2, 3] (Sub.refl _) (by decide) rfl).trans (FinOk.imp _ (.box 0 _)), by rw [sumK_all hk hnd hVM], rfl⟩
    · obtain ⟨x, hx, ek, ev, hV', hlt⟩ := hV.step hm he
      refine ⟨.str x.1, .ptr 3 x.2.1 0, by rw [ek]; rfl, by rw [ev]; rfl, ?_⟩
      repeat(first|refine Sc ?_|refine fun(_:Nat)=>?_)
      refine ⟨1, es, seen, e, rfl, rfl, leftOf_mem he, hm.born, .str x.1, .ptr 3 x.2.1 0, by rw [ek]; rfl, by rw [ev]; rfl, ?_⟩
      repeat(first|refine Za ?_|refine Zb ?_|refine Zy rfl ?_|refine Z2 rfl ?_|refine Z3 ?_|refine fun(_:Nat)=>?_|refine Run.goN rfl ?_|refine Zo rfl ?_)
      obtain ⟨i, hi⟩ := List.mem_iff_getElem?.1 hx
      refine Run.weak0 C_ok (Weak.imp (Subs.refl _) (Imp.pick (k := 3) rfl (Imp.kid_out hi))) ?_
      repeat(first|refine Sc ?_|refine fun(_:Nat)=>?_)
      refine ACallT.ok (ACall.sel [5] (by decide) [.ptr 0 x.2.1 0] _ ⟨Sub.ptr _ _ _ _, trivial⟩ (ih _ _ _ (hin x hx) ((hk x.1).1 ⟨x, hx, rfl⟩) (below_names hd1 x.1) (Nat.le_trans (below_len l x.1) hl)) ?_)
      rintro r L' ⟨rfl, rfl⟩
      refine ⟨_, Sub.refl _, ?_⟩
      repeat(first|refine Sc ?_|refine fun(_:Nat)=>?_)
      have hlen : (V ++ [x]).length ≤ 200 := by rw [List.length_append, List.length_singleton]; omega
      have hb := sumK_le hl hlen hd
      have hsn : sumK d l (V ++ [x]) = sumK d l V + sizeD d (belowN l x.1) := by unfold sumK; simp
      refine fun r hr => ?_
      obtain rfl : r = ((1 + sumK d l (V ++ [x]) : Nat) : Int) := by rw [hr, IntKind.wrap_i64]; omega
      repeat(first|refine Sc ?_|refine fun(_:Nat)=>?_)
      refine Cont.lpW ?_
      refine ⟨ks.length - (V ++ [x]).length, _, _, by rw [List.length_append, List.length_singleton]; omega, Weak.imp ?_ (Imp.app (L := _ :: _ :: [_]) (L' := _ :: _ :: [_]) (.refl _) (Imp.back _ (Imp.kid_in hi))), ⟨V ++ [x], _, rfl, hV', rfl, rfl⟩⟩
      exact Ss
set_option maxHeartbeats 4000000 in
theorem sizeStepR (ov : AV) (d : Nat) (hd : d ≤ 6) (ih : ∀ (l : NL) (g : Nat) (H : AHeap), IsN tI [] l g H → l ≠ [] → (∀ x ∈ l, x.1.length < d) → l.length ≤ 200 → FnSpec C 44 [.ptr 0 g 0] [(0, boxL H)] (fun r L' => r = .int .i64 (sizeD d l : Nat) ∧ L' = [(0, boxL H)]))
    (l : NL) (g : Nat) (H : AHeap) (hN : IsN tT [ov] l g H) (hd1 : ∀ x ∈ l, x.1.length < d + 1) (hl : l.length ≤ 200) :
    FnSpec C 44 [.ptr 0 g 0] [(0, boxL H)] (fun r L' => r = .int .i64 (sizeD (d + 1) l : Nat) ∧ L' = [(0, boxL H)]) := by
  obtain ⟨_, _, _, _, mv, wv, gm, gw, om, ow, ws, ks, hw, hws, hm, hk, hnd, hin⟩ := hN
  have hkl : ks.length ≤ 200 := by
    have h1 := (kids_perm hk hnd).length_eq
    have h2 := heads_len l
    rw [List.length_map] at h1
    omega
  refine FnSpec.imp (.unbox _ _) ?_
  refine FnSpec.start C_ok Tryd.func44 rfl rfl Tryd.ntmps44 ?_
  repeat(first|refine Sc ?_|refine fun(_:Nat)=>?_)
  rcases hm with ⟨rfl, rfl, rfl⟩ | ⟨rfl, es, cl, rfl, hm⟩
  · have hz : sizeD (d + 1) l = 1 := by rw [← sumK_all hk hnd (List.Perm.refl [])]; rfl
    intro gi
    repeat(first|refine Sc ?_|refine fun(_:Nat)=>?_)
    refine Run.loop (fun k env L => k = 0 ∧ env = [.ptr 0 g 0, .junk, .int .i64 0, .int .i64 1, .junk, .junk, .junk, .junk, .junk, .junk, .ptr 4 gi 0, .junk, .junk, .junk, .junk, .junk, .junk, .junk, .junk, .junk] ∧ L = [(g, .cells tT ([.any (.map none), wv] ++ [ov])), (gm, .dead), (gw, ow), (0, boxL (([] : List Kid).map kidB)), (gi, .obj (.mapIter none 0 #[] 0))]) 0
      [.ptr 0 g 0, .junk, .int .i64 0, .int .i64 1, .junk, .junk, .junk, .junk, .junk, .junk, .ptr 4 gi 0, .junk, .junk, .junk, .junk, .junk, .junk, .junk, .junk, .junk] ?_ ⟨rfl, rfl, rfl⟩ ?_
    · repeat(first|exact trivial|refine ⟨.inl rfl, ?_⟩|refine ⟨.inr rfl, ?_⟩)
    rintro k env L ⟨rfl, rfl, rfl⟩
    repeat(first|refine Sc ?_|refine fun(_:Nat)=>?_)
    exact ⟨.int .i64 1, [(0, boxL (nodeL tT [ov] g (.any (.map none)) wv gm gw .dead ow []))], (FinOk.keep _ [0, 1, 2, 3] (Sub.refl _) (by decide) rfl).trans (FinOk.imp _ (.box 0 _)), by rw [hz]; rfl, rfl⟩
  · refine ⟨1, es, cl, rfl, ?_⟩
    repeat(first|refine Sc ?_|refine fun(_:Nat)=>?_)
    rename_i gi
    refine Run.loopW (fun k env L => ∃ (V : List Kid) (seen : Array Nat), k = ks.length - V.length ∧ Visited ks es seen V ∧ env = [.ptr 0 g 0, .junk, .int .i64 0, .int .i64 (1 + sumK d l V : Nat), .junk, .junk, .junk, .junk, .junk, .junk, .ptr 4 gi 0, .junk, .junk, .junk, .junk, .junk, .junk, .junk, .junk, .junk] ∧ L = [(g, .cells tT ([.any (.map (some gm)), wv] ++ [ov])), (gm, .obj (.map es cl)), (gw, ow), (0, boxL (ks.map kidB)), (gi, .obj (.mapIter (some gm) cl seen cl))]) ks.length
      [.ptr 0 g 0, .junk, .int .i64 0, .int .i64 1, .junk, .junk, .junk, .junk, .junk, .junk, .ptr 4 gi 0, .junk, .junk, .junk, .junk, .junk, .junk, .junk, .junk, .junk] [(g, .cells tT ([.any (.map (some gm)), wv] ++ [ov])), (gm, .obj (.map es cl)), (gw, ow), (0, boxL (ks.map kidB)), (gi, .obj (.mapIter (some gm) cl #[] cl))] (Weak.sel ?_ [0, 1, 2, 3, 4] (by decide) ?_)
      ⟨[], #[], by simp, Visited.start, rfl, rfl⟩ ?_
    · exact Ss
    · exact Sl
    rintro k env L ⟨V, seen, rfl, hV, rfl, rfl⟩
    repeat(first|refine Sc ?_|refine fun(_:Nat)=>?_)
    refine ⟨1, es, cl, rfl, hm.old, Nat.le_refl _, fun h0 => ?_, fun e he => ?_⟩
    · have hVM := hV.stop hm h0
      repeat(first|refine Sc ?_|refine fun(_:Nat)=>?_)
      exact ⟨.int .i64 (1 + sumK d l V : Nat), [(0, boxL (nodeL tT [ov] g (.any (.map (some gm))) wv gm gw (.obj (.map es cl)) ow ks))], (FinOk.keep _ [0, 1, 2, 3] (Sub.refl _) (by decide) rfl).trans (FinOk.imp _ (.box 0 _)), by rw [sumK_all hk hnd hVM], rfl⟩
    · obtain ⟨x, hx, ek, ev, hV', hlt⟩ := hV.step hm he
      refine ⟨.str x.1, .ptr 3 x.2.1 0, by rw [ek]; rfl, by rw [ev]; rfl, ?_⟩
      repeat(first|refine Sc ?_|refine fun(_:Nat)=>?_)
      refine ⟨1, es, seen, e, rfl, rfl, leftOf_mem he, hm.born, .str x.1, .ptr 3 x.2.1 0, by rw [ek]; rfl, by rw [ev]; rfl, ?_⟩
      repeat(first|refine Za ?_|refine Zb ?_|refine Zy rfl ?_|refine Z2 rfl ?_|refine Z3 ?_|refine fun(_:Nat)=>?_|refine Run.goN rfl ?_|refine Zo rfl ?_)
      obtain ⟨i, hi⟩ := List.mem_iff_getElem?.1 hx
      refine Run.weak0 C_ok (Weak.imp (Subs.refl _) (Imp.pick (k := 3) rfl (Imp.kid_out hi))) ?_
      repeat(first|refine Sc ?_|refine fun(_:Nat)=>?_)
      refine ACallT.ok (ACall.sel [5] (by decide) [.ptr 0 x.2.1 0] _ ⟨Sub.ptr _ _ _ _, trivial⟩ (ih _ _ _ (hin x hx) ((hk x.1).1 ⟨x, hx, rfl⟩) (below_names hd1 x.1) (Nat.le_trans (below_len l x.1) hl)) ?_)
      rintro r L' ⟨rfl, rfl⟩
      refine ⟨_, Sub.refl _, ?_⟩
      repeat(first|refine Sc ?_|refine fun(_:Nat)=>?_)
      have hlen : (V ++ [x]).length ≤ 200 := by rw [List.length_append, List.length_singleton]; omega
      have hb := sumK_le hl hlen hd
      have hsn : sumK d l (V ++ [x]) = sumK d l V + sizeD d (belowN l x.1) := by unfold sumK; simp
      refine fun r hr => ?_
      obtain rfl : r = ((1 + sumK d l (V ++ [x]) : Nat) : Int) := by rw [hr, IntKind.wrap_i64]; omega
      repeat(first|refine Sc ?_|refine fun(_:Nat)=>?_)
      refine Cont.lpW ?_
      refine ⟨ks.length - (V ++ [x]).length, _, _, by rw [List.length_append, List.length_singleton]; omega, Weak.imp ?_ (Imp.app (L := _ :: _ :: [_]) (L' := _ :: _ :: [_]) (.refl _) (Imp.back _ (Imp.kid_in hi))), ⟨V ++ [x], _, rfl, hV', rfl, rfl⟩⟩
      exact Ss
theorem sizeI : ∀ (d : Nat), d ≤ 7 → ∀ (l : NL) (g : Nat) (H : AHeap), IsN tI [] l g H → l ≠ [] → (∀ x ∈ l, x.1.length < d) → l.length ≤ 200 → FnSpec C 44 [.ptr 0 g 0] [(0, boxL H)] (fun r L' => r = .int .i64 (sizeD d l : Nat) ∧ L' = [(0, boxL H)])
  | 0, _, l, _, _, _, hne, hd, _ => by
    obtain ⟨x, hx⟩ := List.exists_mem_of_ne_nil _ hne
    exact absurd (hd x hx) (by omega)
  | d + 1, h7, l, g, H, hN, _, hd, hl => sizeStepI d (by omega) (sizeI d (by omega)) l g H hN hd hl
theorem sizeR (ov : AV) (l : NL) (g : Nat) (H : AHeap) (hN : IsN tT [ov] l g H) (hd : ∀ x ∈ l, x.1.length < 7) (hl : l.length ≤ 200) : FnSpec C 44 [.ptr 0 g 0] [(0, boxL H)] (fun r L' => r = .int .i64 (sizeD 7 l : Nat) ∧ L' = [(0, boxL H)]) :=
  sizeStepR ov 6 (by omega) (sizeI 6 (by omega)) l g H hN hd hl
end Go.Proofs.YtgpbppkmmlclfaaDoor.HBT
/- A new trie; its size. -/
namespace Go.Proofs.YtgpbppkmmlclfaaDoor.HBT
open Go Go.Proofs.YtgpbppkmmlclfaaDoor.HB Go.RowKit
set_option maxRecDepth 8000

theorem Imp.newT (g : Nat) : Imp [(g, .cells tT [.any (.map none), .nils, .any (.map none)])] [(0, boxL (trieL (nodeL tT [.any (.map none)] g (.any (.map none)) .nils 0 0 .dead .dead []) 0 .dead []))] := by
  have a : Imp [(g, .cells tT [.any (.map none), .nils, .any (.map none)])] [(0, boxL (nodeL tT [.any (.map none)] g (.any (.map none)) .nils 0 0 .dead .dead []))] :=
    (Imp.app (L := [(g, .cells tT [.any (.map none), .nils, .any (.map none)])]) (L' := [(g, .cells tT [.any (.map none), .nils, .any (.map none)])]) (M := []) (M' := [(0, .dead), (0, .dead), (0, boxL (([] : List Kid).map kidB))]) (.refl _) (((Imp.box 0 []).trans (.dead 0 _)).trans (.dead 0 _))).trans (.box 0 _)
  exact (Imp.app (L := [(g, .cells tT [.any (.map none), .nils, .any (.map none)])]) (M := []) (M' := [(0, .dead), (0, boxL (([] : List Sess).map rowS))]) a ((Imp.box 0 []).trans (.dead 0 _))).trans (.box 0 _)
theorem isN_newT (g : Nat) : IsN tT [.any (.map none)] [] g (nodeL tT [.any (.map none)] g (.any (.map none)) .nils 0 0 .dead .dead []) :=
  IsN.mk tT _ [] g _ _ 0 0 .dead .dead [] [] (.inl ⟨rfl, rfl, rfl⟩) (List.Perm.refl _) (.inl ⟨rfl, rfl, rfl⟩) (fun n => ⟨fun ⟨_, h, _⟩ => by (cases h), fun h => absurd rfl h⟩) (by simp) (fun x hx => by cases hx)
theorem new_spec : FnSpec C 15 [] [] (fun r L' => ∃ gt H, IsT [] [] gt H ∧ r = .ptr 0 gt 0 ∧ L' = [(0, boxL H)]) := by
  refine FnSpec.start C_ok Tryd.func15 rfl rfl Tryd.ntmps15 ?_
  repeat(first|refine Sc ?_|refine fun(_:Nat)=>?_)
  rename_i gt
  exact ⟨.ptr 0 gt 0, _, (FinOk.keep _ [0] (Sub.refl _) (by decide) rfl).trans (FinOk.imp _ (Imp.newT gt)), gt, _, .mk _ _ gt _ _ _ _ (isN_newT gt) (.inl ⟨rfl, rfl, rfl⟩), rfl, rfl⟩
theorem sizeT_spec (S : List Sess) (l : NL) (gt : Nat) (H : AHeap) (hT : IsT S l gt H) (hd : ∀ x ∈ l, x.1.length < 7) (hl : l.length ≤ 200) :
    FnSpec C 23 [.ptr 0 gt 0] [(0, boxL H)] (fun r L' => r = .int .i64 (sizeD 7 l : Nat) ∧ L' = [(0, boxL H)]) := by
  obtain ⟨ofv, Hn, go, oo, hN, ho⟩ := hT
  refine FnSpec.imp (.unbox _ _) ?_
  refine FnSpec.start C_ok Tryd.func23 rfl rfl Tryd.ntmps23 ?_
  repeat(first|refine Sc ?_|refine fun(_:Nat)=>?_)
  refine ACallT.ok (ACall.sel [0] (by decide) [.ptr 0 gt 0] _ ⟨Sub.refl _, trivial⟩ (sizeR ofv l gt Hn hN hd hl) ?_)
  rintro r L' ⟨rfl, rfl⟩
  refine ⟨_, Sub.refl _, ?_⟩
  repeat(first|refine Sc ?_|refine fun(_:Nat)=>?_)
  exact ⟨_, _, (FinOk.keep _ [0, 1, 2] (Sub.refl _) (by decide) rfl).trans (FinOk.imp _ (.box 0 _)), rfl, rfl⟩
end Go.Proofs.YtgpbppkmmlclfaaDoor.HBT
/- The trie, plainly: which watches it holds. -/
namespace Go.Proofs.YtgpbppkmmlclfaaDoor.HBT
open Go Go.Proofs.YtgpbppkmmlclfaaDoor.HB Go.RowKit
set_option maxRecDepth 8000

def listO (ons : List On) (s : Int) : List Wt := (ons.filter fun o => decide (o.s = s)).map (·.w)
def nlO (ons : List On) : NL := ons.map fun o => (namesOf o.w.p, o)
structure SOk (S : List Sess) (ons : List On) : Prop where
  ok : ∀ x ∈ S, x.2.2.2 ≠ [] ∧ SortedW x.2.2.2 ∧ x.2.2.2.length ≤ 4
  nodup : (S.map (·.1)).Nodup
  of : ∀ s, (ofS S s).Perm (listO ons s)
def IsTr (ons : List On) (gt : Nat) (H : AHeap) : Prop := ∃ S l, IsT S l gt H ∧ l.Perm (nlO ons) ∧ (∀ o ∈ ons, parseE o.w.p = 0) ∧ SOk S ons

theorem addE_perm {a b : List Wt} (h : a.Perm b) (s : Int) (w : Wt) : addE a s w = addE b s w := by
  unfold addE
  rw [h.length_eq]
  have : (∃ x ∈ a, x.id = w.id) ↔ ∃ x ∈ b, x.id = w.id := ⟨fun ⟨x, hx, e⟩ => ⟨x, h.mem_iff.1 hx, e⟩, fun ⟨x, hx, e⟩ => ⟨x, h.mem_iff.2 hx, e⟩⟩
  simp only [this]
theorem addE_zero {ws : List Wt} {s : Int} {w : Wt} (h : addE ws s w = 0) : (numB s 1 && numB w.id 1 && numB w.f 0) = true ∧ parseE w.p = 0 ∧ ¬ (w.k < 1 ∨ 3 < w.k) ∧ (¬ ∃ x ∈ ws, x.id = w.id) ∧ ws.length < 4 := by
  unfold addE at h
  split at h
  · split at h
    · split at h
      · cases h
      · split at h
        · cases h
        · split at h
          · cases h
          · rename_i h1 h2 h3 h4 h5
            exact ⟨h1, h2, h3, h4, by omega⟩
    · cases h
  · cases h
theorem insW_perm (ws : List Wt) (w : Wt) : (insW ws w).Perm (w :: ws) := by
  unfold insW
  refine List.perm_middle.trans (.cons w ?_)
  rw [List.take_append_drop]
theorem insW_sorted {ws : List Wt} {w : Wt} (hs : SortedW ws) (hn : ¬ ∃ x ∈ ws, x.id = w.id) : SortedW (insW ws w) := by
  have hcut : ∀ (l : List Wt), SortedW l → (l.take (posW l w.id)).all (fun x => decide (x.id < w.id)) = true ∧ (l.drop (posW l w.id)).all (fun x => !decide (x.id < w.id)) = true := by
    intro l
    induction l with
    | nil => intro _; simp
    | cons y l ih =>
      intro hs
      have hs' := List.pairwise_cons.1 hs
      by_cases hy : y.id < w.id
      · have e : posW (y :: l) w.id = posW l w.id + 1 := by unfold posW; rw [List.filter_cons_of_pos (by simpa using hy)]; rfl
        rw [e, List.take_succ_cons, List.drop_succ_cons, List.all_cons]
        exact ⟨by rw [(ih hs'.2).1]; simp [hy], (ih hs'.2).2⟩
      · have e : posW (y :: l) w.id = 0 := by
          unfold posW
          rw [List.length_eq_zero_iff, List.filter_eq_nil_iff]
          intro z hz
          rcases List.mem_cons.1 hz with rfl | hz
          · simpa using hy
          · have := hs'.1 z hz
            simp; omega
        rw [e, List.take_zero, List.drop_zero]
        refine ⟨rfl, List.all_eq_true.2 fun z hz => ?_⟩
        rcases List.mem_cons.1 hz with rfl | hz
        · simpa using hy
        · have := hs'.1 z hz
          simp; omega
  obtain ⟨h1, h2⟩ := hcut ws hs
  have hs2 : SortedW (ws.take (posW ws w.id) ++ ws.drop (posW ws w.id)) := by rw [List.take_append_drop]; exact hs
  have hs3 := List.pairwise_append.1 hs2
  unfold insW SortedW
  rw [List.pairwise_append]
  refine ⟨hs3.1, List.pairwise_cons.2 ⟨fun z hz => ?_, hs3.2.1⟩, fun a ha b hb => ?_⟩
  · have h3 := List.all_eq_true.1 h2 z hz
    have h4 : z.id ≠ w.id := fun e => hn ⟨z, List.mem_of_mem_drop hz, e⟩
    simp at h3; omega
  · rcases List.mem_cons.1 hb with rfl | hb
    · have := List.all_eq_true.1 h1 a ha
      simpa using this
    · exact hs3.2.2 a ha b hb
theorem ofS_cons (x : Sess) (S : List Sess) (s : Int) : ofS (x :: S) s = if x.1 = s then x.2.2.2 else ofS S s := by
  unfold ofS
  by_cases h : x.1 = s
  · rw [List.find?_cons_of_pos (by simpa using h), if_pos h]; rfl
  · rw [List.find?_cons_of_neg (by simpa using h), if_neg h]
theorem ofS_set : ∀ {S : List Sess} {i : Nat} {x y : Sess}, (S.map (·.1)).Nodup → S[i]? = some x → y.1 = x.1 → ∀ s, ofS (S.set i y) s = if s = x.1 then y.2.2.2 else ofS S s
  | [], _, _, _, _, h, _, _ => by simp at h
  | z :: S, 0, x, y, _, h, e, s => by
    simp at h; subst h
    rw [List.set_cons_zero, ofS_cons, ofS_cons, e]
    by_cases h : s = z.1
    · rw [if_pos h.symm, if_pos h]
    · rw [if_neg (fun e => h e.symm), if_neg h, if_neg (fun e => h e.symm)]
  | z :: S, i + 1, x, y, hn, h, e, s => by
    rw [List.map_cons, List.nodup_cons] at hn
    have h : S[i]? = some x := by simpa using h
    have hne : z.1 ≠ x.1 := fun e => hn.1 (List.mem_map.2 ⟨x, List.mem_of_getElem? h, e.symm⟩)
    rw [List.set_cons_succ, ofS_cons, ofS_cons, ofS_set hn.2 h e s]
    by_cases h1 : z.1 = s
    · rw [if_pos h1, if_pos h1, if_neg (fun e => hne (h1.trans e))]
    · rw [if_neg h1, if_neg h1]
theorem ofS_snoc : ∀ {S : List Sess} {y : Sess}, (∀ x ∈ S, x.1 ≠ y.1) → ∀ s, ofS (S ++ [y]) s = if s = y.1 then y.2.2.2 else ofS S s
  | [], y, _, s => by
    rw [List.nil_append, ofS_cons]
    by_cases h : s = y.1
    · rw [if_pos h.symm, if_pos h]
    · rw [if_neg (fun e => h e.symm), if_neg h]
  | z :: S, y, hf, s => by
    rw [List.cons_append, ofS_cons, ofS_cons, ofS_snoc (fun x hx => hf x (List.mem_cons_of_mem _ hx)) s]
    by_cases h1 : z.1 = s
    · rw [if_pos h1, if_pos h1, if_neg (fun e => hf z (List.mem_cons_self ..) (h1.trans e))]
    · rw [if_neg h1, if_neg h1]
theorem listO_snoc (ons : List On) (o : On) (s : Int) : listO (ons ++ [o]) s = listO ons s ++ if o.s = s then [o.w] else [] := by
  unfold listO
  rw [List.filter_append, List.map_append]
  congr 1
  by_cases h : o.s = s <;> simp [h]
theorem put_ok {S S' : List Sess} {ons : List On} {s : Int} {w : Wt} {ws : List Wt} (h : SOk S ons) (hp : Put S s ws S') (hws : ws.Perm (w :: ofS S s)) (hs : SortedW ws) (hl : ws.length ≤ 4) : SOk S' (ons ++ [⟨s, w⟩]) := by
  have hne : ws ≠ [] := fun e => by rw [e] at hws; have := hws.length_eq; simp at this
  have key : (∀ s', ofS S' s' = if s' = s then ws else ofS S s') → ∀ s', (ofS S' s').Perm (listO (ons ++ [⟨s, w⟩]) s') := fun hk s' => by
    rw [hk s', listO_snoc]
    by_cases e : s' = s
    · subst e
      rw [if_pos rfl, if_pos rfl]
      exact hws.trans (((h.of s').cons w).trans (List.perm_append_comm (l₁ := [w])))
    · rw [if_neg e, if_neg (fun e2 => e e2.symm), List.append_nil]
      exact h.of s'
  rcases hp with ⟨i, x, g, Cp, hi, rfl, rfl⟩ | ⟨hf, g, Cp, rfl⟩
  · refine ⟨fun y hy => ?_, ?_, key fun s' => ofS_set (y := (x.1, g, Cp, ws)) h.nodup hi rfl s'⟩
    · rcases List.mem_or_eq_of_mem_set hy with hy | rfl
      · exact h.ok y hy
      · exact ⟨hne, hs, hl⟩
    · have e : (S.set i (x.1, g, Cp, ws)).map (·.1) = S.map (·.1) := by
        rw [List.map_set]
        apply List.ext_getElem?
        intro j
        rw [List.getElem?_set]
        split
        · rename_i e; subst e
          have hil := (List.getElem?_eq_some_iff.1 hi).1
          rw [List.getElem?_map, hi]
          simp [hil]
        · rfl
      rw [e]; exact h.nodup
  · refine ⟨fun y hy => ?_, ?_, key fun s' => ofS_snoc (y := (s, g, Cp, ws)) hf s'⟩
    · rcases List.mem_append.1 hy with hy | hy
      · exact h.ok y hy
      · rw [List.mem_singleton.1 hy]; exact ⟨hne, hs, hl⟩
    · rw [List.map_append, List.nodup_append]
      refine ⟨h.nodup, by simp, fun a ha b hb => ?_⟩
      obtain ⟨z, hz, rfl⟩ := List.mem_map.1 ha
      simp at hb
      rw [hb]; exact hf z hz
def addO (ons : List On) (s : Int) (w : Wt) : Int := addE (listO ons s) s w
def addedO (ons : List On) (s : Int) (w : Wt) : List On := if addO ons s w = 0 then ons ++ [⟨s, w⟩] else ons
theorem addT_spec (ons : List On) (gt : Nat) (H : AHeap) (hT : IsTr ons gt H) (hn : ons.length ≤ 200) (s : Int) (w : Wt) :
    FnSpec C 16 [.ptr 0 gt 0, .int .i64 s, encW w] [(0, boxL H)] (fun r L' => ∃ H', r = .int .i64 (addO ons s w) ∧ IsTr (addedO ons s w) gt H' ∧ L' = [(0, boxL H')]) := by
  obtain ⟨S, l, hS, hl, hok, hs⟩ := hT
  have hlen : l.length = ons.length := by rw [hl.length_eq]; unfold nlO; rw [List.length_map]
  have hE : addE (ofS S s) s w = addO ons s w := addE_perm (hs.of s) s w
  refine (add_spec S l gt H hS s w hs.ok (by omega)).post ?_
  rintro r L' ⟨rfl, hr⟩
  rw [hE] at hr ⊢
  rcases hr with ⟨h0, rfl⟩ | ⟨h0, S', H', hput, hT', rfl⟩
  · exact ⟨_, _, Sub.refl _, Imp.refl _, H, rfl, by unfold addedO; rw [if_neg h0]; exact ⟨S, l, hS, hl, hok, hs⟩, rfl⟩
  · obtain ⟨_, hp, _, hx, h4⟩ := addE_zero (hE.trans h0)
    refine ⟨_, _, Sub.refl _, Imp.refl _, H', rfl, ?_, rfl⟩
    unfold addedO
    rw [if_pos h0]
    refine ⟨S', _, hT', ?_, fun o ho => ?_, put_ok hs hput (insW_perm _ _) (insW_sorted (ofS_ok s hs.ok).1 hx) (by rw [insW_len]; omega)⟩
    · unfold nlO
      rw [List.map_append]
      exact hl.append_right _
    · rcases List.mem_append.1 ho with ho | ho
      · exact hok o ho
      · rw [List.mem_singleton.1 ho]; exact hp
theorem newTr_spec : FnSpec C 15 [] [] (fun r L' => ∃ gt H, IsTr [] gt H ∧ r = .ptr 0 gt 0 ∧ L' = [(0, boxL H)]) :=
  new_spec.post fun r L' ⟨gt, H, h1, h2, h3⟩ => ⟨_, _, Sub.refl _, Imp.refl _, gt, H, ⟨[], [], h1, List.Perm.refl _, fun o ho => by (cases ho), ⟨fun x hx => by (cases hx), by simp, fun s => List.Perm.refl _⟩⟩, h2, h3⟩
theorem below_perm {a b : NL} (h : a.Perm b) (n : ByteArray) : (belowN a n).Perm (belowN b n) := h.filterMap _
theorem heads_perm {a b : NL} (h : a.Perm b) : (heads a).Perm (heads b) := (List.perm_ext_iff_of_nodup (heads_nodup a) (heads_nodup b)).2 fun n => by
  rw [heads_mem, heads_mem]
  exact ⟨fun e e2 => e ((e2 ▸ below_perm h n).eq_nil), fun e e2 => e ((e2 ▸ (below_perm h n).symm).eq_nil)⟩
theorem sizeD_perm : ∀ (d : Nat) {a b : NL}, a.Perm b → sizeD d a = sizeD d b
  | 0, _, _, _ => rfl
  | d + 1, a, b, h => by
    show 1 + _ = 1 + _
    congr 1
    have e : (fun n => sizeD d (belowN a n)) = fun n => sizeD d (belowN b n) := funext fun n => sizeD_perm d (below_perm h n)
    rw [e]
    exact ((heads_perm h).map _).sum_nat
theorem names_len {p : ByteArray} (h : parseE p = 0) : (namesOf p).length ≤ 6 := by
  unfold namesOf
  by_cases e : p = slash
  · rw [if_pos e]; simp
  · rw [if_neg e]
    unfold parseE at h
    split at h
    · cases h
    · split at h
      · cases h
      · split at h
        · cases h
        · omega
theorem sizeTr_spec (ons : List On) (gt : Nat) (H : AHeap) (hT : IsTr ons gt H) (hn : ons.length ≤ 200) :
    FnSpec C 23 [.ptr 0 gt 0] [(0, boxL H)] (fun r L' => r = .int .i64 (sizeD 7 (nlO ons) : Nat) ∧ L' = [(0, boxL H)]) := by
  obtain ⟨S, l, hS, hl, hok, hs⟩ := hT
  have hlen : l.length = ons.length := by rw [hl.length_eq]; unfold nlO; rw [List.length_map]
  rw [← sizeD_perm 7 hl]
  refine sizeT_spec S l gt H hS (fun x hx => ?_) (by omega)
  obtain ⟨o, ho, rfl⟩ := List.mem_map.1 (hl.mem_iff.1 hx)
  have := names_len (hok o ho)
  show (namesOf o.w.p).length < 7
  omega
end Go.Proofs.YtgpbppkmmlclfaaDoor.HBT
