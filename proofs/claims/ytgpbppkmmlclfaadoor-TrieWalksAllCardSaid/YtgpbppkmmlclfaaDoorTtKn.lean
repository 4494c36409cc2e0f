/- Drop, plainly. -/
import Derived.Test.YtgpbppkmmlclfaaDoorTtKl
import Derived.Test.YtgpbppkmmlclfaaDoorTtKm
set_option linter.unusedVariables false
set_option linter.unusedSimpArgs false
namespace Go.Proofs.YtgpbppkmmlclfaaDoor.HBT
open Go Go.Proofs.YtgpbppkmmlclfaaDoor.HB Go.RowKit
set_option maxRecDepth 8000

theorem ofS_erase : ∀ {S : List Sess} {i : Nat} {x : Sess}, (S.map (·.1)).Nodup → S[i]? = some x → ∀ s, ofS (S.eraseIdx i) s = if s = x.1 then [] else ofS S s
  | [], _, _, _, h, _ => by simp at h
  | z :: S, 0, x, hn, h, s => by
    simp at h; subst h
    rw [List.map_cons, List.nodup_cons] at hn
    rw [List.eraseIdx_zero, List.tail_cons, ofS_cons]
    by_cases h : s = z.1
    · rw [if_pos h]
      exact ofS_none fun y hy e => hn.1 (List.mem_map.2 ⟨y, hy, e.trans h⟩)
    · rw [if_neg h, if_neg (fun e => h e.symm)]
  | z :: S, i + 1, x, hn, h, s => by
    rw [List.map_cons, List.nodup_cons] at hn
    have h : S[i]? = some x := by simpa using h
    have hne : z.1 ≠ x.1 := fun e => hn.1 (List.mem_map.2 ⟨x, List.mem_of_getElem? h, e.symm⟩)
    rw [List.eraseIdx_cons_succ, ofS_cons, ofS_cons, ofS_erase hn.2 h s]
    by_cases h1 : z.1 = s
    · rw [if_pos h1, if_pos h1, if_neg (fun e => hne (h1.trans e))]
    · rw [if_neg h1, if_neg h1]
theorem set_keys {S : List Sess} {i : Nat} {x y : Sess} (hi : S[i]? = some x) (e : y.1 = x.1) : (S.set i y).map (·.1) = S.map (·.1) := by
  rw [List.map_set]
  apply List.ext_getElem?
  intro j
  rw [List.getElem?_set]
  split
  · rename_i e2; subst e2
    have hil := (List.getElem?_eq_some_iff.1 hi).1
    rw [List.getElem?_map, hi]
    simp [hil, e]
  · rfl
theorem cut_ok {S S' : List Sess} {ons : List On} {s : Int} {k : Nat} {w : Wt} (h : SOk S ons) (hk : (ofS S s)[k]? = some w) (hc : Cut S s ((ofS S s).take k ++ (ofS S s).drop (k + 1)) S') : SOk S' (dropO ons s w.id) := by
  have hso := (ofS_ok s h.ok)
  have he := erase_id hso.1 hk
  obtain ⟨ws, hws⟩ : ∃ ws, ws = (ofS S s).take k ++ (ofS S s).drop (k + 1) := ⟨_, rfl⟩
  rw [← hws] at hc he
  have hsub : List.Sublist ws (ofS S s) := by rw [he]; exact List.filter_sublist
  have key : (∀ s', ofS S' s' = if s' = s then ws else ofS S s') → ∀ s', (ofS S' s').Perm (listO (dropO ons s w.id) s') := fun hk s' => by
    rw [hk s', listO_drop]
    by_cases e : s' = s
    · subst e
      rw [if_pos rfl, if_pos rfl, he]
      exact (h.of s').filter _
    · rw [if_neg e, if_neg e]
      exact h.of s'
  rcases hc with ⟨hne, j, x, g, Cp, hj, rfl, rfl⟩ | ⟨hnil, j, x, hj, rfl, rfl⟩
  · refine ⟨fun y hy => ?_, ?_, key fun s' => ofS_set (y := (x.1, g, Cp, ws)) h.nodup hj rfl s'⟩
    · rcases List.mem_or_eq_of_mem_set hy with hy | rfl
      · exact h.ok y hy
      · exact ⟨hne, hso.1.sublist hsub, Nat.le_trans hsub.length_le hso.2⟩
    · rw [set_keys (y := (x.1, g, Cp, ws)) hj rfl]; exact h.nodup
  · refine ⟨fun y hy => h.ok y (List.mem_of_mem_eraseIdx hy), ?_, key fun s' => ?_⟩
    · have hp := (erase_perm hj).map (·.1)
      have := hp.nodup_iff.1 h.nodup
      rw [List.map_cons, List.nodup_cons] at this
      exact this.2
    · rw [hnil]; exact ofS_erase h.nodup hj s'
theorem sorted_id {l : List Wt} (hs : SortedW l) {a b : Wt} (ha : a ∈ l) (hb : b ∈ l) (h : a.id = b.id) : a = b := by
  obtain ⟨i, hi⟩ := List.mem_iff_getElem?.1 ha
  obtain ⟨j, hj⟩ := List.mem_iff_getElem?.1 hb
  rcases Nat.lt_trichotomy i j with hlt | rfl | hlt
  · have := sortedW_at hs hi hj hlt; omega
  · rw [hi] at hj; exact Option.some.inj hj
  · have := sortedW_at hs hj hi hlt; omega
theorem listO_mem {ons : List On} {s : Int} {w : Wt} : w ∈ listO ons s ↔ (⟨s, w⟩ : On) ∈ ons := by
  unfold listO
  rw [List.mem_map]
  constructor
  · rintro ⟨o, ho, rfl⟩
    obtain ⟨h1, h2⟩ := List.mem_filter.1 ho
    have h2 : o.s = s := by simpa using h2
    subst h2
    exact h1
  · intro h
    exact ⟨⟨s, w⟩, List.mem_filter.2 ⟨h, by simp⟩, rfl⟩
def dropE (ons : List On) (s i : Int) : Int := if ∃ w ∈ listO ons s, w.id = i then 0 else 90
theorem dropO_none {ons : List On} {s i : Int} (h : ¬ ∃ w ∈ listO ons s, w.id = i) : dropO ons s i = ons := by
  unfold dropO
  refine List.filter_eq_self.2 fun o ho => ?_
  have : ¬ isT s i o = true := fun e => h (by
    have h2 : o.s = s ∧ o.w.id = i := by simpa [isT] using e
    refine ⟨o.w, listO_mem.2 ?_, h2.2⟩
    rw [← h2.1]; exact ho)
  simpa using this
theorem dropT_spec (ons : List On) (gt : Nat) (H : AHeap) (hT : IsTr ons gt H) (hn : ons.length ≤ 200) (s i : Int) :
    FnSpec C 19 [.ptr 0 gt 0, .int .i64 s, .int .i64 i] [(0, boxL H)] (fun r L' => ∃ H', r = .int .i64 (dropE ons s i) ∧ IsTr (dropO ons s i) gt H' ∧ L' = [(0, boxL H')]) := by
  obtain ⟨S, l, hS, hl, hok, hs⟩ := hT
  have hlen : l.length = ons.length := by rw [hl.length_eq]; unfold nlO; rw [List.length_map]
  have hmem : ∀ w ∈ ofS S s, (⟨s, w⟩ : On) ∈ ons := fun w hw => listO_mem.1 ((hs.of s).mem_iff.1 hw)
  refine (drop_spec S l gt H hS s i hs.ok (by omega) (fun w hw => ⟨hok _ (hmem w hw), hl.mem_iff.2 (List.mem_map.2 ⟨_, hmem w hw, rfl⟩)⟩)).post ?_
  rintro r L' (⟨hno, rfl, rfl⟩ | ⟨k, w, hk, rfl, rfl, S', H', hc, hT', rfl⟩)
  · have hno2 : ¬ ∃ w ∈ listO ons s, w.id = i := fun ⟨w, hw, e⟩ => hno ⟨w, (hs.of s).mem_iff.2 hw, e⟩
    refine ⟨_, _, Sub.refl _, Imp.refl _, H, by unfold dropE; rw [if_neg hno2], ?_, rfl⟩
    rw [dropO_none hno2]
    exact ⟨S, l, hS, hl, hok, hs⟩
  · have hwm : w ∈ ofS S s := List.mem_of_getElem? hk
    have hyes : ∃ v ∈ listO ons s, v.id = w.id := ⟨w, (hs.of s).mem_iff.1 hwm, rfl⟩
    refine ⟨_, _, Sub.refl _, Imp.refl _, H', by unfold dropE; rw [if_pos hyes], ⟨S', _, hT', ?_, fun o ho => hok o (List.mem_filter.1 ho).1, cut_ok hs hk hc⟩, rfl⟩
    rw [← nlO_drop (ns := namesOf w.p) (fun o ho hi => ?_)]
    · exact hl.filter _
    · have h2 : o.s = s ∧ o.w.id = w.id := by simpa [isT] using hi
      have ho2 : o.w ∈ ofS S s := (hs.of s).mem_iff.2 (listO_mem.2 (by rw [← h2.1]; exact ho))
      rw [sorted_id (ofS_ok s hs.ok).1 ho2 hwm h2.2]
end Go.Proofs.YtgpbppkmmlclfaaDoor.HBT
