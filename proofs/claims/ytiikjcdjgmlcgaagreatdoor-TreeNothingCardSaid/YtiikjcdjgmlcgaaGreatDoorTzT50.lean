/- The laws' helpers: texts, changes, reply, of what is alike. -/
import Derived.Test.YtiikjcdjgmlcgaaGreatDoorTzT43
import Derived.Test.YtiikjcdjgmlcgaaGreatDoorHbZe
set_option linter.unusedVariables false
set_option linter.unusedSimpArgs false
namespace Go.Proofs.YtiikjcdjgmlcgaaGreatDoor.HBT
open Go Go.Proofs.YtiikjcdjgmlcgaaGreatDoor.HB Go.RowKit
set_option maxRecDepth 8000

set_option maxHeartbeats 4000000 in
theorem texts_spec (a b : List ByteArray) (ha : a.length ≤ 1000) : FnSpec C 50 [kidsA a, kidsA b] [] (fun r L' => r = .bool (decide (a = b)) ∧ L' = []) := by
  refine FnSpec.start C_ok Tryz.func50 rfl rfl Tryz.ntmps50 ?_
  repeat(first|refine Sc ?_|refine fun(_:Nat)=>?_)
  refine ⟨fun h => ?_, fun h => ?_⟩
  · have h : ¬ (a.length : Int) = b.length := h
    repeat(first|refine Sc ?_|refine fun(_:Nat)=>?_)
    exact ⟨_, [], FinOk.drop _ _, congrArg AV.bool (decide_eq_false fun e => h (by rw [e])).symm, rfl⟩
  have hl : a.length = b.length := by have h : ¬ ¬ (a.length : Int) = b.length := h; omega
  repeat(first|refine Sc ?_|refine fun(_:Nat)=>?_)
  refine Run.loop (fun k env L => ∃ i : Nat, k = a.length - i ∧ i ≤ a.length ∧ (∀ j < i, a[j]? = b[j]?) ∧ env = [kidsA a, kidsA b, .junk, .junk, .junk, .int .i64 i, .junk, .junk, .junk, .junk, .junk, .junk, .junk, .junk, .junk, .junk, .junk, .junk, .junk, .junk, .junk, .junk, .junk, .junk, .junk, .junk] ∧ L = []) a.length [kidsA a, kidsA b, .junk, .junk, .junk, .int .i64 (0 : Nat), .junk, .junk, .junk, .junk, .junk, .junk, .junk, .junk, .junk, .junk, .junk, .junk, .junk, .junk, .junk, .junk, .junk, .junk, .junk, .junk] ?_ ⟨0, by omega, by omega, fun j hj => absurd hj (Nat.not_lt_zero j), rfl, rfl⟩ ?_
  · repeat(first|exact trivial|refine ⟨.inl rfl, ?_⟩|refine ⟨.inr rfl, ?_⟩)
  rintro k env L ⟨i, rfl, hi, hP, rfl, rfl⟩
  repeat(first|refine Sc ?_|refine fun(_:Nat)=>?_)
  refine ⟨fun h => ?_, fun h => ?_⟩
  · have h : (i : Int) < (a.length : Int) := h
    have hia : i < a.length := by omega
    obtain ⟨x, ex⟩ : ∃ x, a[i]? = some x := ⟨_, List.getElem?_eq_getElem hia⟩
    obtain ⟨y, ey⟩ : ∃ y, b[i]? = some y := ⟨_, List.getElem?_eq_getElem (by omega)⟩
    repeat(first|refine Sc ?_|refine fun(_:Nat)=>?_)
    refine Run.drawnK C_ok (aopC_sound C_ok) [] [0, 1, 2, 3, 4, 5, 6, 7, 8] (by kernel_rfl) ?_
    repeat(first|refine Sc ?_|refine fun(_:Nat)=>?_)
    refine ⟨h, .str x, map_at AV.str ex, ?_⟩
    repeat(first|refine Sc ?_|refine fun(_:Nat)=>?_)
    refine ⟨show (i : Int) < (b.length : Int) by omega, .str y, map_at AV.str ey, ?_⟩
    repeat(first|refine Sc ?_|refine fun(_:Nat)=>?_)
    refine ⟨fun hne => ?_, fun heq => ?_⟩
    · have hne : ¬ x = y := hne
      repeat(first|refine Sc ?_|refine fun(_:Nat)=>?_)
      exact ⟨_, [], FinOk.drop _ _, congrArg AV.bool (decide_eq_false fun e => hne (by rw [e] at ex; exact Option.some.inj (ex.symm.trans ey))).symm, rfl⟩
    · have heq : x = y := Classical.not_not.1 heq
      subst heq
      repeat(first|refine Sc ?_|refine fun(_:Nat)=>?_)
      refine fun r hr => ?_
      obtain rfl := add1 hr (by omega)
      repeat(first|refine Sc ?_|refine fun(_:Nat)=>?_)
      refine Cont.lp ?_
      refine ⟨a.length - (i + 1), _, 99, by omega, ?_, ⟨i + 1, rfl, by omega, fun j hj => ?_, rfl, rfl⟩⟩
      · repeat(first|exact trivial|refine ⟨.inl rfl, ?_⟩|refine ⟨.inr rfl, ?_⟩)
      · by_cases e : j = i
        · subst e; rw [ex, ey]
        · exact hP j (by omega)
  · have h : ¬ (i : Int) < (a.length : Int) := h
    repeat(first|refine Sc ?_|refine fun(_:Nat)=>?_)
    exact ⟨_, [], FinOk.drop _ _, congrArg AV.bool (decide_eq_true (eq_of_upto hl fun j hj => hP j (by omega))).symm, rfl⟩
theorem changes_same (cs : List Chg) (hc : cs.length ≤ 1000) : FnSpec C 21 [encCs cs, encCs cs] [] (fun r L' => r = .bool true ∧ L' = []) := by
  refine FnSpec.start C_ok Tryz.func21 rfl rfl Tryz.ntmps21 ?_
  repeat(first|refine Sc ?_|refine fun(_:Nat)=>?_)
  refine ⟨fun h => absurd rfl h, fun _ => ?_⟩
  repeat(first|refine Sc ?_|refine fun(_:Nat)=>?_)
  refine Run.loop (fun k env L => ∃ i : Nat, k = cs.length - i ∧ i ≤ cs.length ∧ env = [encCs cs, encCs cs, .junk, .junk, .junk, .int .i64 i, .junk, .junk, .junk, .junk, .junk, .junk, .junk, .junk, .junk, .junk, .junk, .junk, .junk, .junk, .junk, .junk, .junk, .junk, .junk, .junk] ∧ L = []) cs.length [encCs cs, encCs cs, .junk, .junk, .junk, .int .i64 (0 : Nat), .junk, .junk, .junk, .junk, .junk, .junk, .junk, .junk, .junk, .junk, .junk, .junk, .junk, .junk, .junk, .junk, .junk, .junk, .junk, .junk] ?_ ⟨0, by omega, by omega, rfl, rfl⟩ ?_
  · repeat(first|exact trivial|refine ⟨.inl rfl, ?_⟩|refine ⟨.inr rfl, ?_⟩)
  rintro k env L ⟨i, rfl, hi, rfl, rfl⟩
  repeat(first|refine Sc ?_|refine fun(_:Nat)=>?_)
  refine ⟨fun h => ?_, fun h => ?_⟩
  · have h : (i : Int) < (cs.length : Int) := h
    obtain ⟨x, ex⟩ : ∃ x, cs[i]? = some x := ⟨_, List.getElem?_eq_getElem (by omega)⟩
    repeat(first|refine Sc ?_|refine fun(_:Nat)=>?_)
    refine Run.drawnK C_ok (aopC_sound C_ok) [] [0, 1, 2, 3, 4, 5, 6, 7, 8] (by kernel_rfl) ?_
    repeat(first|refine Sc ?_|refine fun(_:Nat)=>?_)
    refine ⟨h, encC x, map_at encC ex, ?_⟩
    repeat(first|refine Sc ?_|refine fun(_:Nat)=>?_)
    refine ⟨h, encC x, map_at encC ex, ?_⟩
    repeat(first|refine Sc ?_|refine fun(_:Nat)=>?_)
    refine ⟨fun hne => absurd ((chg_eq x x).2 rfl) hne, fun _ => ?_⟩
    repeat(first|refine Sc ?_|refine fun(_:Nat)=>?_)
    refine fun r hr => ?_
    obtain rfl := add1 hr (by omega)
    repeat(first|refine Sc ?_|refine fun(_:Nat)=>?_)
    refine Cont.lp ?_
    refine ⟨cs.length - (i + 1), _, 99, by omega, ?_, ⟨i + 1, rfl, by omega, rfl, rfl⟩⟩
    · repeat(first|exact trivial|refine ⟨.inl rfl, ?_⟩|refine ⟨.inr rfl, ?_⟩)
  · repeat(first|refine Sc ?_|refine fun(_:Nat)=>?_)
    exact ⟨_, [], FinOk.drop _ _, rfl, rfl⟩
set_option maxHeartbeats 4000000 in
theorem reply_same (p : Rep) (hr : p.rs.length ≤ 1000) (hk : ∀ x ∈ p.rs, x.kids.length ≤ 1000) : FnSpec C 20 [encP p, encP p] [] (fun r L' => r = .bool true ∧ L' = []) := by
  refine FnSpec.start C_ok Tryz.func20 rfl rfl Tryz.ntmps20 ?_
  repeat(first|refine Sc ?_|refine fun(_:Nat)=>?_)
  rename_i g2 g3
  refine ⟨fun h => absurd rfl h, fun _ => ?_⟩
  repeat(first|refine Sc ?_|refine fun(_:Nat)=>?_)
  refine ⟨fun h => absurd rfl h, fun _ => ?_⟩
  repeat(first|refine Sc ?_|refine fun(_:Nat)=>?_)
  refine ⟨fun h => absurd rfl h, fun _ => ?_⟩
  repeat(first|refine Sc ?_|refine fun(_:Nat)=>?_)
  refine ⟨fun h => absurd rfl h, fun _ => ?_⟩
  repeat(first|refine Sc ?_|refine fun(_:Nat)=>?_)
  refine Run.loopW (fun k env L => ∃ i : Nat, k = p.rs.length - i ∧ i ≤ p.rs.length ∧ env = [.junk, .junk, .ptr 0 g2 0, .ptr 1 g3 0, .junk, .int .i64 i, .junk, .junk, .junk, .junk, .junk, .junk, .junk, .junk, .junk, .junk, .junk, .junk, .junk, .junk, .junk, .junk, .junk, .junk, .junk, .junk, .junk, .junk, .junk, .junk, .junk, .junk, .junk, .junk, .junk, .junk, .junk, .junk, .junk, .junk, .junk, .junk, .junk, .junk, .junk, .junk, .junk, .junk, .junk, .junk, .junk, .junk, .junk, .junk, .junk, .junk, .junk, .junk, .junk, .junk, .junk, .junk, .junk, .junk, .junk, .junk, .junk, .junk, .junk, .junk, .junk, .junk, .junk, .junk, .junk, .junk, .junk, .junk, .junk, .junk, .junk, .junk, .junk, .junk, .junk, .junk, .junk, .junk, .junk, .junk, .junk, .junk, .junk, .junk, .junk, .junk, .junk, .junk, .junk, .junk, .junk] ∧ L = [(g2, .cells tP [.int .i64 p.st, .int .i64 p.code, .int .i64 p.at_, .ro 7 (p.rs.map encR) p.rs.length]), (g3, .cells tP [.int .i64 p.st, .int .i64 p.code, .int .i64 p.at_, .ro 7 (p.rs.map encR) p.rs.length])]) p.rs.length
    [.junk, .junk, .ptr 0 g2 0, .ptr 1 g3 0, .junk, .int .i64 (0 : Nat), .junk, .junk, .junk, .junk, .junk, .junk, .junk, .junk, .junk, .junk, .junk, .junk, .junk, .junk, .junk, .junk, .junk, .junk, .junk, .junk, .junk, .junk, .junk, .junk, .junk, .junk, .junk, .junk, .junk, .junk, .junk, .junk, .junk, .junk, .junk, .junk, .junk, .junk, .junk, .junk, .junk, .junk, .junk, .junk, .junk, .junk, .junk, .junk, .junk, .junk, .junk, .junk, .junk, .junk, .junk, .junk, .junk, .junk, .junk, .junk, .junk, .junk, .junk, .junk, .junk, .junk, .junk, .junk, .junk, .junk, .junk, .junk, .junk, .junk, .junk, .junk, .junk, .junk, .junk, .junk, .junk, .junk, .junk, .junk, .junk, .junk, .junk, .junk, .junk, .junk, .junk, .junk, .junk, .junk, .junk] [(g2, .cells tP [.int .i64 p.st, .int .i64 p.code, .int .i64 p.at_, .ro 7 (p.rs.map encR) p.rs.length]), (g3, .cells tP [.int .i64 p.st, .int .i64 p.code, .int .i64 p.at_, .ro 7 (p.rs.map encR) p.rs.length])] (Weak.sel ?_ [0, 1] (by decide) ?_) ⟨0, by omega, by omega, rfl, rfl⟩ ?_
  · exact Ss
  · exact Sl
  rintro k env L ⟨i, rfl, hi, rfl, rfl⟩
  repeat(first|refine Sc ?_|refine fun(_:Nat)=>?_)
  refine ⟨fun h => ?_, fun h => ?_⟩
  · have h : (i : Int) < (p.rs.length : Int) := h
    obtain ⟨x, ex⟩ : ∃ x, p.rs[i]? = some x := ⟨_, List.getElem?_eq_getElem (by omega)⟩
    have htx := texts_spec x.kids x.kids (hk x (List.mem_of_getElem? ex))
    rw [decide_eq_true rfl] at htx
    repeat(first|refine Sc ?_|refine fun(_:Nat)=>?_)
    refine ⟨h, encR x, map_at encR ex, ?_⟩
    repeat(first|refine Sc ?_|refine fun(_:Nat)=>?_)
    refine ⟨h, encR x, map_at encR ex, ?_⟩
    repeat(first|refine Sc ?_|refine fun(_:Nat)=>?_)
    refine ⟨fun h => absurd rfl h, fun _ => ?_⟩
    repeat(first|refine Sc ?_|refine fun(_:Nat)=>?_)
    refine ⟨fun h => absurd rfl h, fun _ => ?_⟩
    repeat(first|refine Sc ?_|refine fun(_:Nat)=>?_)
    refine ⟨fun h => absurd rfl h, fun _ => ?_⟩
    repeat(first|refine Sc ?_|refine fun(_:Nat)=>?_)
    refine ⟨fun h => absurd rfl h, fun _ => ?_⟩
    repeat(first|refine Sc ?_|refine fun(_:Nat)=>?_)
    refine ⟨fun h => absurd rfl h, fun _ => ?_⟩
    repeat(first|refine Sc ?_|refine fun(_:Nat)=>?_)
    refine ⟨fun h => absurd rfl h, fun _ => ?_⟩
    repeat(first|refine Sc ?_|refine fun(_:Nat)=>?_)
    refine ACallT.ok (ACall.ret htx ?_)
    repeat(first|refine Sc ?_|refine fun(_:Nat)=>?_)
    refine fun r hr => ?_
    obtain rfl := add1 hr (by omega)
    repeat(first|refine Sc ?_|refine fun(_:Nat)=>?_)
    refine Cont.lpW ?_
    refine ⟨p.rs.length - (i + 1), _, _, by omega, Weak.sel ?_ [0, 1] (by decide) ?_, ⟨i + 1, rfl, by omega, rfl, rfl⟩⟩
    · exact Ss
    · exact Sl
  · repeat(first|refine Sc ?_|refine fun(_:Nat)=>?_)
    exact ⟨_, [], FinOk.drop _ _, rfl, rfl⟩

/-! ### How much is answered -/
theorem playF_kids {l l' : List Fu} {s st : Int} {o : Opp} {r : Res} {cs : List Chg} (h : playF l s st o = .ok (l', r, cs)) : r.kids.length ≤ l.length := by
  have hm : makeF l s st o = .ok (l', r, cs) → r.kids.length ≤ l.length := fun h => by
    unfold makeF at h
    repeat' (first | (cases h; done) | split at h)
    all_goals (cases h; simp [told])
  unfold playF at h
  by_cases c1 : o.k < 1 ∨ 7 < o.k
  · rw [if_pos c1] at h; cases h
  rw [if_neg c1] at h
  by_cases c2 : o.k = 1
  · rw [if_pos c2] at h; exact hm h
  rw [if_neg c2] at h
  repeat' (first | (cases h; done) | split at h)
  all_goals (cases h; first | (simp [told]; done) | (simp only [List.length_map]; exact List.length_filter_le _ _))
theorem goF_kids {s st : Int} (hs : 0 ≤ s ∧ s ≤ 2147483647) (ht : 1 ≤ st ∧ st ≤ 2147483647) : ∀ {os : List Opp} {l l' : List Fu} {rs rs' : List Res} {cs cs' : List Chg} {i : Nat}, TInv l → (∀ x ∈ rs, x.kids.length ≤ 64) → goF s st l rs cs i os = .ok (l', rs', cs') → (∀ x ∈ rs', x.kids.length ≤ 64) ∧ rs'.length = rs.length + os.length ∧ cs'.length ≤ cs.length + os.length
  | [], _, _, _, _, _, _, _, _, hk, h => by unfold goF at h; cases h; exact ⟨hk, by simp, by simp⟩
  | o :: os, l, l', rs, rs', cs, cs', i, hI, hk, h => by
    unfold goF at h
    split at h
    · cases h
    · rename_i l2 r c he
      obtain ⟨q1, q2, q3⟩ := goF_kids hs ht (playF_inv hI hs ht he) (fun x hx => by
        rcases List.mem_append.1 hx with hx | hx
        · exact hk x hx
        · simp only [List.mem_singleton] at hx; subst hx
          exact Nat.le_trans (playF_kids he) hI.len) h
      have := play_len he
      refine ⟨q1, by rw [q2]; simp; omega, ?_⟩
      rw [List.length_append] at q3
      simp only [List.length_cons]
      omega
theorem playR_small {l : List Fu} {s st : Int} {ops : List Opp} (hI : TInv l) : (∀ x ∈ (playR l s st ops).2.1.rs, x.kids.length ≤ 1000) ∧ (playR l s st ops).2.1.rs.length ≤ 1000 ∧ (playR l s st ops).2.2.length ≤ 1000 := by
  have no : ∀ e a, (∀ x ∈ (l, (⟨st, e, a, []⟩ : Rep), ([] : List Chg)).2.1.rs, x.kids.length ≤ 1000) ∧ (l, (⟨st, e, a, []⟩ : Rep), ([] : List Chg)).2.1.rs.length ≤ 1000 ∧ (l, (⟨st, e, a, []⟩ : Rep), ([] : List Chg)).2.2.length ≤ 1000 := fun e a => ⟨fun x hx => (by cases hx), Nat.zero_le _, Nat.zero_le _⟩
  unfold playR
  split
  · exact no _ _
  rename_i h4
  split
  · exact no _ _
  rename_i hn
  split
  · exact no _ _
  split
  · exact no _ _
  · rename_i l' rs cs hg
    obtain ⟨q1, q2, q3⟩ := goF_kids (by omega) (by omega) hI (fun x hx => (by cases hx)) hg
    simp only [List.length_nil, Nat.zero_add] at q2 q3
    exact ⟨fun x hx => Nat.le_trans (q1 x hx) (by decide), by show rs.length ≤ 1000; omega, by show cs.length ≤ 1000; omega⟩
theorem endF_small {l : List Fu} {s : Int} (hI : TInv l) : (endF l s).2.length ≤ 1000 := by
  unfold endF
  split
  · exact Nat.zero_le _
  · show (List.map goneC (l.filter _)).length ≤ 1000
    rw [List.length_map]
    exact Nat.le_trans (List.length_filter_le _ _) (Nat.le_trans hI.len (by decide))
end Go.Proofs.YtiikjcdjgmlcgaaGreatDoor.HBT
