/- One op of a request: set, drop. -/
import Derived.Test.YtcbjcmigecocgaaGreatDoorTwT4
import Derived.Test.YtcbjcmigecocgaaGreatDoorTwT5
set_option linter.unusedVariables false
set_option linter.unusedSimpArgs false
namespace Go.Proofs.YtcbjcmigecocgaaGreatDoor.HBT
open Go Go.Proofs.YtcbjcmigecocgaaGreatDoor.HB Go.RowKit
set_option maxRecDepth 8000

theorem set_upd : ∀ {M : List Fu}, (M.map (·.p)).Nodup → ∀ {i : Nat} {x y : Fu}, M[i]? = some x → y.p = x.p → M.set i y = upd M y
  | [], _, i, x, y, h, _ => by simp at h
  | z :: M, hn, 0, x, y, h, e => by
    simp at h; subst h
    rw [List.map_cons, List.nodup_cons] at hn
    unfold upd
    rw [List.set_cons_zero, List.map_cons, if_pos e.symm]
    congr 1
    refine (List.map_id M).symm.trans (List.map_congr_left fun u hu => ?_)
    rw [if_neg]; rfl
    intro e2
    exact hn.1 (List.mem_map.2 ⟨u, hu, by rw [e2, e]⟩)
  | z :: M, hn, i + 1, x, y, h, e => by
    rw [List.map_cons, List.nodup_cons] at hn
    have h : M[i]? = some x := by simpa using h
    unfold upd
    rw [List.set_cons_succ, List.map_cons, if_neg, set_upd hn.2 h e]
    · rfl
    · intro e2
      exact hn.1 (List.mem_map.2 ⟨x, List.mem_of_getElem? h, by rw [e2, e]⟩)
theorem erase_del : ∀ {M : List Fu}, (M.map (·.p)).Nodup → ∀ {i : Nat} {x : Fu}, M[i]? = some x → M.eraseIdx i = del M x.p
  | [], _, i, x, h => by simp at h
  | z :: M, hn, 0, x, h => by
    simp at h; subst h
    rw [List.map_cons, List.nodup_cons] at hn
    unfold del
    rw [List.eraseIdx_cons_zero, List.filter_cons_of_neg (by simp)]
    refine (List.filter_eq_self.2 fun u hu => ?_).symm
    have : u.p ≠ z.p := fun e => hn.1 (List.mem_map.2 ⟨u, hu, e⟩)
    simpa using this
  | z :: M, hn, i + 1, x, h => by
    rw [List.map_cons, List.nodup_cons] at hn
    have h : M[i]? = some x := by simpa using h
    unfold del
    rw [List.eraseIdx_cons_succ, List.filter_cons_of_pos, erase_del hn.2 h]
    · rfl
    · have : z.p ≠ x.p := fun e => hn.1 (List.mem_map.2 ⟨x, List.mem_of_getElem? h, e.symm⟩)
      simpa using this
theorem beq_bytes (s : ByteArray) : (s == s) = true := by
  cases s with
  | mk d => show (d == d) = true; simp
theorem keyS (x : Fu) : MapKept.IsKey .string (keyX x) := trivial
theorem u9 : C.P.underlying 9 = some .string := Tryz.underlying9
theorem keyX_inj {x y : Fu} (h : keyX x = keyX y) : x.p = y.p := by unfold keyX at h; exact Value.string.inj h
theorem TM.hit {l : List Fu} {es : Array MapEntry} {cl : Nat} (h : TM l es cl) (hs : Sorted l) {x : Fu} (hx : x ∈ l) :
    ∃ i, findAt C.P 9 (.string x.p) es.toList = some (some (i, valX x)) ∧ Instr.sameBits 10000 (((es[i]?).map (·.key)).getD (.string x.p)) (.string x.p) = true ∧
      (∀ y : Fu, y.p = x.p → TM (upd l y) (es.modify i fun e => { e with key := .string x.p, val := valX y }) cl) ∧ TM (del l x.p) (es.eraseIdxIfInBounds i) cl ∧
      ∃ e, es[i]? = some e ∧ e.key = .string x.p ∧ e.val = valX x ∧ e.born < cl ∧ es.findIdx? (fun e' => (e'.born : Int) == e.born) = some i := by
  obtain ⟨M, hp, hm⟩ := h.map
  obtain ⟨i, hi⟩ := List.mem_iff_getElem?.1 (hp.mem_iff.2 hx)
  have hn : (M.map (·.p)).Nodup := nodup_perm hp hs.nodup
  refine ⟨i, hm.hit u9 keyS hi, hm.bits hi (by simp only [keyX, Instr.sameBits]; exact beq_bytes _) _, fun y hy => ?_, ?_, ?_⟩
  · have := hm.set (y := y) hi (by unfold keyX; rw [hy])
    rw [set_upd hn hi hy] at this
    have e : keyX y = .string x.p := by unfold keyX; rw [hy]
    rw [e] at this
    exact ⟨upd M y, hp.map _, this⟩
  · have := hm.erase i
    rw [erase_del hn hi] at this
    exact ⟨del M x.p, hp.filter _, this⟩
  · obtain ⟨e, he, e1, e2⟩ := hm.get hi
    have hei : es[i]? = some e := by rwa [Array.getElem?_toList] at he
    refine ⟨e, hei, e1, e2, hm.old e (List.mem_of_getElem? he), ?_⟩
    have hil : i < es.size := (Array.getElem?_eq_some_iff.1 hei).1
    have hge : es[i] = e := (Array.getElem?_eq_some_iff.1 hei).2
    refine Array.findIdx?_eq_some_iff_getElem.2 ⟨hil, by rw [hge]; simp, fun j hj => ?_⟩
    have hjl : j < es.size := by omega
    intro hb
    have hb : es[j].born = e.born := by
      have : ((es[j].born : Nat) : Int) = (e.born : Nat) := by simpa using hb
      omega
    have : (es.toList.map (·.born))[j]? = (es.toList.map (·.born))[i]? := by
      rw [List.getElem?_map, List.getElem?_map, he, Array.getElem?_toList, Array.getElem?_eq_getElem hjl]
      simp [hb]
    have := (List.getElem?_inj (by simpa using hjl) hm.born).1 this
    omega
theorem TM.miss {l : List Fu} {es : Array MapEntry} {cl : Nat} (h : TM l es cl) {p : ByteArray} (hn : ∀ x ∈ l, x.p ≠ p) : findAt C.P 9 (.string p) es.toList = some none := by
  obtain ⟨M, hp, hm⟩ := h.map
  exact hm.miss u9 keyS (kv := .string p) trivial fun x hx e => hn x (hp.mem_iff.1 hx) (by unfold keyX at e; exact Value.string.inj e)
theorem TM.push {l l' : List Fu} {es : Array MapEntry} {cl : Nat} (h : TM l es cl) {y : Fu} (hn : ∀ x ∈ l, x.p ≠ y.p) (hl : l'.Perm (y :: l)) : TM l' (es.push { key := .string y.p, val := valX y, born := cl }) (cl + 1) := by
  obtain ⟨M, hp, hm⟩ := h.map
  refine ⟨M ++ [y], ?_, hm.push (y := y) fun x hx e => hn x (hp.mem_iff.1 hx) (keyX_inj e)⟩
  exact (List.perm_append_comm (l₁ := M) (l₂ := [y])).trans ((hp.cons y).trans hl.symm)
theorem TM.len {l : List Fu} {es : Array MapEntry} {cl : Nat} (h : TM l es cl) : es.size = l.length := by
  obtain ⟨M, hp, hm⟩ := h.map
  rw [hm.len, hp.length_eq]

abbrev WorkL (gw gm : Nat) (s st : Int) (cv : AV) (es : Array MapEntry) (cl : Nat) (gc : Nat) (co : AObj) : AHeap := [(gw, .cells tW [.any (.map (some gm)), .int .i64 s, .int .i64 st, cv]), (gm, .obj (.map es cl)), (gc, co)]
abbrev zeroR : AV := .agg [.str eS, .str eS, .int .i64 0, .int .i64 0, .int .i64 0, .int .i64 0, .nils]
def OneQ (gw gm : Nat) (s st : Int) (cs : List Chg) : One → AV → AHeap → Prop
  | .error e, r, L' => r = .tuple [zeroR, .int .i64 e] ∧ L' = []
  | .ok (l', x, c), r, L' => ∃ es cl cv gc co, TM l' es cl ∧ LC 2 (cs ++ c) cv gc co ∧ r = .tuple [encR x, .int .i64 0] ∧ L' = WorkL gw gm s st cv es cl gc co

theorem subR0 {r : Res} (h : r.kids = []) : Sub (.tuple [encRk r .nils, .int .i64 0]) (.tuple [encR r, .int .i64 0]) := by
  refine Sub.tuples ⟨Sub.aggs ⟨Sub.refl _, Sub.refl _, Sub.refl _, Sub.refl _, Sub.refl _, Sub.refl _, ?_, trivial⟩, Sub.refl _, trivial⟩
  rw [h]; exact Sub.nilsRo 1
set_option maxHeartbeats 1000000 in
theorem set_spec (gw gm gc : Nat) (s st : Int) (cs : List Chg) (cv : AV) (co : AObj) (hc : LC 2 cs cv gc co) (hcs : cs.length ≤ 100) {l : List Fu} {es : Array MapEntry} {cl : Nat} (h : TM l es cl) (hi : TInv l) {x : Fu} (hx : x ∈ l) (d : ByteArray) :
    FnSpec C 38 [.ptr 0 gw 0, encX x, .str d] (WorkL gw gm s st cv es cl gc co)
      (OneQ gw gm s st cs (if 2147483647 ≤ x.v then .error 46 else .ok (upd l { x with d := d, c := st, v := x.v + 1 }, told { x with d := d, c := st, v := x.v + 1 }, [⟨2, x.p, d, x.v + 1⟩]))) := by
  obtain ⟨M, hp, hm⟩ := h.map
  refine FnSpec.start C_ok Tryz.func38 rfl rfl Tryz.ntmps38 ?_
  repeat(first|refine Sc ?_|refine fun(_:Nat)=>?_)
  rename_i gx gr
  refine ⟨fun hv => ?_, fun hv => ?_⟩
  · have hv : 2147483647 ≤ x.v := hv
    repeat(first|refine Sc ?_|refine fun(_:Nat)=>?_)
    exact ⟨_, [], FinOk.drop _ _, by rw [if_pos hv]; exact ⟨rfl, rfl⟩⟩
  have hv : ¬ 2147483647 ≤ x.v := hv
  rw [if_neg hv]
  have hok := hi.ok x hx
  obtain ⟨i, f1, f2, f3, f4, _⟩ := h.hit hi.sorted hx
  repeat(first|refine Sc ?_|refine fun(_:Nat)=>?_)
  refine Run.drawnK C_ok (aopC_sound C_ok) [0] [0, 1, 2, 3, 4, 5, 6, 7, 8] (by kernel_rfl) ?_
  repeat(first|refine Sc ?_|refine fun(_:Nat)=>?_)
  refine fun r hr => ?_
  obtain rfl : r = x.v + 1 := by
    have := hok.2.2.1
    rw [hr, IntKind.wrap_i64]; omega
  repeat(first|refine Sc ?_|refine fun(_:Nat)=>?_)
  refine Run.drawnK C_ok (aopC_sound C_ok) [0, 3] [0, 1, 2, 3, 4, 5, 6, 7] (by kernel_rfl) ?_
  repeat(first|refine Sc ?_|refine fun(_:Nat)=>?_)
  refine ⟨1, es, cl, some (i, valX x), rfl, f1, f2, ?_⟩
  repeat(first|refine Sc ?_|refine fun(_:Nat)=>?_)
  refine Run.drawnA C_ok (aopC_sound C_ok) [0, 3] [12, 13, 14, 15] [0, 1, 2, 3, 5, 7, 8, 4, 6, 9, 10, 11] (by kernel_rfl) (by kernel_rfl) ?_
  repeat(first|refine Sc ?_|refine fun(_:Nat)=>?_)
  rcases hc with ⟨rfl, rfl, rfl⟩ | ⟨Cp, rfl, rfl⟩
  · repeat(first|refine Sc ?_|refine fun(_:Nat)=>?_)
    refine ⟨fun h => absurd h (List.cons_ne_nil _ _), fun _ => ?_⟩
    repeat(first|refine Sc ?_|refine fun(_:Nat)=>?_)
    refine ACallT.ok (ACall.ret (told_spec { x with d := d, c := st, v := x.v + 1 }) ?_)
    repeat(first|refine Sc ?_|refine fun(_:Nat)=>?_)
    rename_i g' Cp'
    refine ⟨.tuple [encR (told { x with d := d, c := st, v := x.v + 1 }), .int .i64 0], WorkL gw gm s st (.sl 2 g' Cp' 1) _ cl g' (.row tC 4 Cp' [encC ⟨2, x.p, d, x.v + 1⟩]), FinOk.keepS _ [0, 1, 6] (subR0 rfl) (by decide) rfl ⟨rfl, SubO.cells ⟨Sub.refl _, Sub.refl _, Sub.refl _, Sub.sl _ _ _ _ _, trivial⟩, rfl, SubO.refl _, rfl, SubO.refl _, trivial⟩, _, cl, _, g', _, f3 { x with d := d, c := st, v := x.v + 1 } rfl, LN.one rfl, rfl, rfl⟩
  · repeat(first|refine Sc ?_|refine fun(_:Nat)=>?_)
    refine ⟨by simp, ?_⟩
    repeat(first|refine Sc ?_|refine fun(_:Nat)=>?_)
    refine ⟨by simp; omega, ?_⟩
    repeat(first|refine Sc ?_|refine fun(_:Nat)=>?_)
    refine ACallT.ok (ACall.ret (told_spec { x with d := d, c := st, v := x.v + 1 }) ?_)
    repeat(first|refine Sc ?_|refine fun(_:Nat)=>?_)
    rename_i g' Cp'
    refine ⟨.tuple [encR (told { x with d := d, c := st, v := x.v + 1 }), .int .i64 0], WorkL gw gm s st (.sl 2 g' Cp' ((cs.map encC).length + 1)) _ cl g' (.row tC 4 Cp' (cs.map encC ++ [encC ⟨2, x.p, d, x.v + 1⟩])), FinOk.keepS _ [0, 1, 2] (subR0 rfl) (by decide) rfl ⟨rfl, SubO.cells ⟨Sub.refl _, Sub.refl _, Sub.refl _, Sub.refl _, trivial⟩, rfl, SubO.refl _, rfl, SubO.refl _, trivial⟩, _, cl, _, g', _, f3 { x with d := d, c := st, v := x.v + 1 } rfl, LN.snoc, rfl, rfl⟩
set_option maxHeartbeats 1000000 in
theorem drop_spec (gw gm gc : Nat) (s st : Int) (cs : List Chg) (cv : AV) (co : AObj) (hc : LC 2 cs cv gc co) (hcs : cs.length ≤ 100) {l : List Fu} {es : Array MapEntry} {cl : Nat} (h : TM l es cl) (hi : TInv l) {x : Fu} (hx : x ∈ l) :
    FnSpec C 39 [.ptr 0 gw 0, encX x] (WorkL gw gm s st cv es cl gc co)
      (OneQ gw gm s st cs (if kidsF l x.p ≠ [] then .error 43 else .ok (del l x.p, ⟨x.p, eS, 0, 0, 0, 0, []⟩, [goneC x]))) := by
  obtain ⟨i, f1, f2, f3, f4, _⟩ := h.hit hi.sorted hx
  refine FnSpec.start C_ok Tryz.func39 rfl rfl Tryz.ntmps39 ?_
  repeat(first|refine Sc ?_|refine fun(_:Nat)=>?_)
  refine Run.drawnK C_ok (aopC_sound C_ok) [0, 3] [0, 1, 2, 3, 4, 5, 6, 7, 8] (by kernel_rfl) ?_
  repeat(first|refine Sc ?_|refine fun(_:Nat)=>?_)
  refine ACallT.ok (ACall.sel [1] (by decide) [.any (.map (some gm)), .str x.p] _ (.two (Sub.refl _) (Sub.refl _)) (kids_spec gm h hi x.p) ?_)
  rintro r L' ⟨v, g, o, hv, rfl, rfl⟩
  rename_i gx gr
  rcases hv with ⟨e0, rfl, rfl⟩ | ⟨Cp, rfl, rfl⟩
  · rw [if_neg (by rw [e0]; exact fun h => h rfl)]
    refine ⟨_, Sub.refl _, ?_⟩
    repeat(first|refine Sc ?_|refine fun(_:Nat)=>?_)
    refine ⟨fun h => absurd h (by decide), fun _ => ?_⟩
    repeat(first|refine Sc ?_|refine fun(_:Nat)=>?_)
    refine Run.drawnK C_ok (aopC_sound C_ok) [0, 3] [0, 1, 2, 3, 4, 5, 6] (by kernel_rfl) ?_
    repeat(first|refine Sc ?_|refine fun(_:Nat)=>?_)
    refine ⟨1, es, cl, some (i, valX x), rfl, f1, ?_⟩
    repeat(first|refine Sc ?_|refine fun(_:Nat)=>?_)
    refine Run.drawnA C_ok (aopC_sound C_ok) [0, 3] [8, 9, 10, 11] [0, 1, 2, 3, 4, 5, 6, 7] (by kernel_rfl) (by kernel_rfl) ?_
    repeat(first|refine Sc ?_|refine fun(_:Nat)=>?_)
    refine ACallE.quiet (ACallQ.ret (gone_spec x) ?_)
    repeat(first|refine Sc ?_|refine fun(_:Nat)=>?_)
    rcases hc with ⟨rfl, rfl, rfl⟩ | ⟨Cp', rfl, rfl⟩
    · repeat(first|refine Sc ?_|refine fun(_:Nat)=>?_)
      refine ⟨fun h => absurd h (List.cons_ne_nil _ _), fun _ => ?_⟩
      repeat(first|refine Sc ?_|refine fun(_:Nat)=>?_)
      rename_i g' Cp'
      refine ⟨.tuple [encR ⟨x.p, eS, 0, 0, 0, 0, []⟩, .int .i64 0], WorkL gw gm s st (.sl 2 g' Cp' 1) _ cl g' (.row tC 4 Cp' [encC (goneC x)]), FinOk.keepS _ [0, 1, 7] (subR0 (r := ⟨x.p, eS, 0, 0, 0, 0, []⟩) rfl) (by decide) rfl ⟨rfl, SubO.cells ⟨Sub.refl _, Sub.refl _, Sub.refl _, Sub.sl _ _ _ _ _, trivial⟩, rfl, SubO.refl _, rfl, SubO.refl _, trivial⟩, _, cl, _, g', _, f4, LN.one rfl, rfl, rfl⟩
    · repeat(first|refine Sc ?_|refine fun(_:Nat)=>?_)
      refine ⟨by simp, ?_⟩
      repeat(first|refine Sc ?_|refine fun(_:Nat)=>?_)
      refine ⟨by simp; omega, ?_⟩
      repeat(first|refine Sc ?_|refine fun(_:Nat)=>?_)
      rename_i g' Cp'
      refine ⟨.tuple [encR ⟨x.p, eS, 0, 0, 0, 0, []⟩, .int .i64 0], WorkL gw gm s st (.sl 2 g' Cp' ((cs.map encC).length + 1)) _ cl g' (.row tC 4 Cp' (cs.map encC ++ [encC (goneC x)])), FinOk.keepS _ [0, 1, 2] (subR0 (r := ⟨x.p, eS, 0, 0, 0, 0, []⟩) rfl) (by decide) rfl ⟨rfl, SubO.cells ⟨Sub.refl _, Sub.refl _, Sub.refl _, Sub.refl _, trivial⟩, rfl, SubO.refl _, rfl, SubO.refl _, trivial⟩, _, cl, _, g', _, f4, LN.snoc, rfl, rfl⟩
  · by_cases e0 : kidsF l x.p = []
    · rw [if_neg (by rw [e0]; exact fun h => h rfl)]
      refine ⟨.sl 5 g Cp (kidsF l x.p).length, Sub.sl _ _ _ _ _, ?_⟩
      repeat(first|refine Sc ?_|refine fun(_:Nat)=>?_)
      refine ⟨fun h => absurd h (by rw [e0]; decide), fun _ => ?_⟩
      repeat(first|refine Sc ?_|refine fun(_:Nat)=>?_)
      refine Run.drawnK C_ok (aopC_sound C_ok) [0, 3] [0, 1, 2, 3, 4, 5, 6] (by kernel_rfl) ?_
      repeat(first|refine Sc ?_|refine fun(_:Nat)=>?_)
      refine ⟨1, es, cl, some (i, valX x), rfl, f1, ?_⟩
      repeat(first|refine Sc ?_|refine fun(_:Nat)=>?_)
      refine Run.drawnA C_ok (aopC_sound C_ok) [0, 3] [8, 9, 10, 11] [0, 1, 2, 3, 4, 5, 6, 7] (by kernel_rfl) (by kernel_rfl) ?_
      repeat(first|refine Sc ?_|refine fun(_:Nat)=>?_)
      refine ACallE.quiet (ACallQ.ret (gone_spec x) ?_)
      repeat(first|refine Sc ?_|refine fun(_:Nat)=>?_)
      rcases hc with ⟨rfl, rfl, rfl⟩ | ⟨Cp', rfl, rfl⟩
      · repeat(first|refine Sc ?_|refine fun(_:Nat)=>?_)
        refine ⟨fun h => absurd h (List.cons_ne_nil _ _), fun _ => ?_⟩
        repeat(first|refine Sc ?_|refine fun(_:Nat)=>?_)
        rename_i g' Cp'
        refine ⟨.tuple [encR ⟨x.p, eS, 0, 0, 0, 0, []⟩, .int .i64 0], WorkL gw gm s st (.sl 2 g' Cp' 1) _ cl g' (.row tC 4 Cp' [encC (goneC x)]), FinOk.keepS _ [0, 1, 7] (subR0 (r := ⟨x.p, eS, 0, 0, 0, 0, []⟩) rfl) (by decide) rfl ⟨rfl, SubO.cells ⟨Sub.refl _, Sub.refl _, Sub.refl _, Sub.sl _ _ _ _ _, trivial⟩, rfl, SubO.refl _, rfl, SubO.refl _, trivial⟩, _, cl, _, g', _, f4, LN.one rfl, rfl, rfl⟩
      · repeat(first|refine Sc ?_|refine fun(_:Nat)=>?_)
        refine ⟨by simp, ?_⟩
        repeat(first|refine Sc ?_|refine fun(_:Nat)=>?_)
        refine ⟨by simp; omega, ?_⟩
        repeat(first|refine Sc ?_|refine fun(_:Nat)=>?_)
        rename_i g' Cp'
        refine ⟨.tuple [encR ⟨x.p, eS, 0, 0, 0, 0, []⟩, .int .i64 0], WorkL gw gm s st (.sl 2 g' Cp' ((cs.map encC).length + 1)) _ cl g' (.row tC 4 Cp' (cs.map encC ++ [encC (goneC x)])), FinOk.keepS _ [0, 1, 2] (subR0 (r := ⟨x.p, eS, 0, 0, 0, 0, []⟩) rfl) (by decide) rfl ⟨rfl, SubO.cells ⟨Sub.refl _, Sub.refl _, Sub.refl _, Sub.refl _, trivial⟩, rfl, SubO.refl _, rfl, SubO.refl _, trivial⟩, _, cl, _, g', _, f4, LN.snoc, rfl, rfl⟩
    · rw [if_pos e0]
      refine ⟨.sl 5 g Cp (kidsF l x.p).length, Sub.sl _ _ _ _ _, ?_⟩
      repeat(first|refine Sc ?_|refine fun(_:Nat)=>?_)
      refine ⟨fun _ => ?_, fun h => absurd (show (0 : Int) < ((kidsF l x.p).length : Int) from by have := List.length_pos_iff.2 e0; omega) h⟩
      repeat(first|refine Sc ?_|refine fun(_:Nat)=>?_)
      exact ⟨_, [], FinOk.drop _ _, rfl, rfl⟩
end Go.Proofs.YtcbjcmigecocgaaGreatDoor.HBT
/- Entries of a map that are written in two steps; flags. -/
namespace Go.Proofs.YtcbjcmigecocgaaGreatDoor.HBT
open Go Go.Proofs.YtcbjcmigecocgaaGreatDoor.HB Go.RowKit
set_option maxRecDepth 8000

theorem modify2 (es : Array MapEntry) (i : Nat) (k v : Value) : (es.modify i fun e => { e with key := k }).modify i (fun e => { e with val := v }) = es.modify i fun e => { e with key := k, val := v } := by
  apply Array.ext_getElem?
  intro j
  simp only [Array.getElem?_modify]
  by_cases e : i = j
  · simp only [if_pos e]; cases es[j]? <;> rfl
  · simp only [if_neg e]
theorem TM.hit2 {l : List Fu} {es : Array MapEntry} {cl : Nat} (h : TM l es cl) (hs : Sorted l) {x : Fu} (hx : x ∈ l) :
    ∃ i, findAt C.P 9 (.string x.p) es.toList = some (some (i, valX x)) ∧ Instr.sameBits 10000 (((es[i]?).map (·.key)).getD (.string x.p)) (.string x.p) = true ∧
      (es.modify i fun e => { e with key := .string x.p }).findIdx? (fun e => (e.born : Int) == ((((es[i]?).map (·.born)).getD 0 : Nat) : Int)) = some i ∧
      ∀ y : Fu, y.p = x.p → TM (upd l y) ((es.modify i fun e => { e with key := .string x.p }).modify i fun e => { e with val := valX y }) cl := by
  obtain ⟨i, f1, f2, f3, _, e, he, ek, ev, _, hf⟩ := h.hit hs hx
  refine ⟨i, f1, f2, ?_, fun y hy => by rw [modify2]; exact f3 y hy⟩
  have e1 : (es.modify i fun e => { e with key := Value.string x.p }).findIdx? (fun e' => (e'.born : Int) == ((((es[i]?).map (·.born)).getD 0 : Nat) : Int)) = es.findIdx? (fun e' => (e'.born : Int) == ((((es[i]?).map (·.born)).getD 0 : Nat) : Int)) := by
    congr 1
    apply Array.ext_getElem?
    intro j
    rw [Array.getElem?_modify]
    by_cases hj : i = j
    · subst hj
      rw [if_pos rfl, he]
      simp only [Option.map_some, ← ek]
    · rw [if_neg hj]
  rw [e1, he]
  exact hf
theorem TM.push2 {l l' : List Fu} {es : Array MapEntry} {cl : Nat} (h : TM l es cl) {y : Fu} (hn : ∀ x ∈ l, x.p ≠ y.p) (hl : l'.Perm (y :: l)) (u : Value) :
    (es.push { key := .string y.p, val := u, born := cl }).findIdx? (fun e => (e.born : Int) == ((cl : Nat) : Int)) = some es.size ∧
      TM l' ((es.push { key := .string y.p, val := u, born := cl }).modify es.size fun e => { e with val := valX y }) (cl + 1) := by
  constructor
  · obtain ⟨M, hp, hm⟩ := h.map
    refine Array.findIdx?_eq_some_iff_getElem.2 ⟨by simp, by simp, fun j hj => ?_⟩
    have hjl : j < es.size := hj
    rw [Array.getElem_push_lt hjl]
    have := hm.old es[j] (Array.getElem_mem_toList hjl)
    simp
    omega
  · have := h.push hn hl
    have e : (es.push { key := .string y.p, val := u, born := cl }).modify es.size (fun e => { e with val := valX y }) = es.push { key := .string y.p, val := valX y, born := cl } := by
      apply Array.ext_getElem?
      intro j
      rw [Array.getElem?_modify, Array.getElem?_push, Array.getElem?_push]
      by_cases hj : es.size = j
      · subst hj; simp
      · rw [if_neg hj, if_neg (fun e => hj e.symm), if_neg (fun e => hj e.symm)]
    rw [e]; exact this
theorem upd_ins_perm (l : List Fu) {x a : Fu} (h : x.p ≠ a.p) : (upd (ins x l) a).Perm (x :: upd l a) := by
  have h1 : (upd (ins x l) a).Perm (upd (x :: l) a) := (ins_perm x l).map _
  have h2 : upd (x :: l) a = x :: upd l a := by unfold upd; rw [List.map_cons, if_neg h]
  rw [h2] at h1
  exact h1
theorem upd_far {l : List Fu} {a : Fu} {p : ByteArray} (h : ∀ x ∈ l, x.p ≠ p) : ∀ x ∈ upd l a, x.p ≠ p := fun x hx => by
  have : x.p ∈ (upd l a).map (·.p) := List.mem_map.2 ⟨x, hx, rfl⟩
  rw [upd_places] at this
  obtain ⟨y, hy, e⟩ := List.mem_map.1 this
  rw [← e]; exact h y hy
theorem flag1 {f : Int} (h0 : ¬ f < 0) (h3 : ¬ 3 < f) : decide (bitsV .and .i64 f 1 ≠ 0) = isBrf f := by
  have : f = 0 ∨ f = 1 ∨ f = 2 ∨ f = 3 := by omega
  rcases this with rfl | rfl | rfl | rfl <;> decide
theorem flag2 {f : Int} (h0 : ¬ f < 0) (h3 : ¬ 3 < f) : decide (bitsV .and .i64 f 2 ≠ 0) = isCnt f := by
  have : f = 0 ∨ f = 1 ∨ f = 2 ∨ f = 3 := by omega
  rcases this with rfl | rfl | rfl | rfl <;> decide
end Go.Proofs.YtcbjcmigecocgaaGreatDoor.HBT
/- What one op makes of the nodes, kind by kind; contracts told more shortly. -/
namespace Go.Proofs.YtcbjcmigecocgaaGreatDoor.HBT
open Go Go.Proofs.YtcbjcmigecocgaaGreatDoor.HB Go.RowKit
set_option maxRecDepth 8000

theorem play_2 (l : List Fu) (s st : Int) (p d : ByteArray) (v f : Int) : playF l s st ⟨2, p, d, v, f⟩ = if parseE p ≠ 0 then .error 10 else if 64 < d.size then .error 45 else match findF l p with
    | none => .error 40
    | some x => if v ≠ -1 ∧ v ≠ x.v then .error 42 else if 2147483647 ≤ x.v then .error 46 else .ok (upd l { x with d := d, c := st, v := x.v + 1 }, told { x with d := d, c := st, v := x.v + 1 }, [⟨2, x.p, d, x.v + 1⟩]) := by
  unfold playF
  simp only [show ¬ ((2 : Int) = 1) by decide, show ¬ ((2 : Int) = 3) by decide, show ((2 : Int) ≤ 4) by decide, if_false, if_true, false_and, true_and]
  exact if_neg (by decide)
theorem play_3 (l : List Fu) (s st : Int) (p d : ByteArray) (v f : Int) : playF l s st ⟨3, p, d, v, f⟩ = if parseE p ≠ 0 then .error 10 else if p = slash then .error 47 else match findF l p with
    | none => .error 40
    | some x => if v ≠ -1 ∧ v ≠ x.v then .error 42 else if kidsF l x.p ≠ [] then .error 43 else .ok (del l x.p, ⟨x.p, eS, 0, 0, 0, 0, []⟩, [goneC x]) := by
  unfold playF
  simp only [show ¬ ((3 : Int) = 1) by decide, show ¬ ((3 : Int) = 2) by decide, show ((3 : Int) ≤ 4) by decide, if_false, if_true, false_and, true_and]
  exact if_neg (by decide)
theorem play_4 (l : List Fu) (s st : Int) (p d : ByteArray) (v f : Int) : playF l s st ⟨4, p, d, v, f⟩ = if parseE p ≠ 0 then .error 10 else match findF l p with
    | none => .error 40
    | some x => if v ≠ -1 ∧ v ≠ x.v then .error 42 else .ok (l, told x, []) := by
  unfold playF
  simp only [show ¬ ((4 : Int) = 1) by decide, show ¬ ((4 : Int) = 2) by decide, show ¬ ((4 : Int) = 3) by decide, show ¬ ((4 : Int) = 5) by decide, show ¬ ((4 : Int) = 7) by decide, show ((4 : Int) ≤ 4) by decide, if_false, false_and, true_and]
  exact if_neg (by decide)
theorem play_5 (l : List Fu) (s st : Int) (p d : ByteArray) (v f : Int) : playF l s st ⟨5, p, d, v, f⟩ = if parseE p ≠ 0 then .error 10 else match findF l p with
    | none => .error 40
    | some x => .ok (l, { told x with d := x.d }, []) := by
  unfold playF
  simp only [show ¬ ((5 : Int) = 1) by decide, show ¬ ((5 : Int) = 2) by decide, show ¬ ((5 : Int) = 3) by decide, show ¬ ((5 : Int) ≤ 4) by decide, if_false, if_true, false_and]
  exact if_neg (by decide)
theorem play_6 (l : List Fu) (s st : Int) (p d : ByteArray) (v f : Int) : playF l s st ⟨6, p, d, v, f⟩ = if parseE p ≠ 0 then .error 10 else match findF l p with
    | none => .error 40
    | some x => .ok (l, told x, []) := by
  unfold playF
  simp only [show ¬ ((6 : Int) = 1) by decide, show ¬ ((6 : Int) = 2) by decide, show ¬ ((6 : Int) = 3) by decide, show ¬ ((6 : Int) ≤ 4) by decide, show ¬ ((6 : Int) = 5) by decide, show ¬ ((6 : Int) = 7) by decide, if_false, false_and]
  exact if_neg (by decide)
theorem play_7 (l : List Fu) (s st : Int) (p d : ByteArray) (v f : Int) : playF l s st ⟨7, p, d, v, f⟩ = if parseE p ≠ 0 then .error 10 else match findF l p with
    | none => .error 40
    | some x => .ok (l, { told x with kids := (kidsF l x.p).map fun y => nameB y.p }, []) := by
  unfold playF
  simp only [show ¬ ((7 : Int) = 1) by decide, show ¬ ((7 : Int) = 2) by decide, show ¬ ((7 : Int) = 3) by decide, show ¬ ((7 : Int) ≤ 4) by decide, show ¬ ((7 : Int) = 5) by decide, if_false, if_true, false_and]
  exact if_neg (by decide)

theorem LN.move {α : Type} {e : α → AV} {t : TypeId} {sz k : Nat} {l : List α} {v : AV} {g : Nat} {o : AObj} (h : LN e t sz k l v g o) (k' : Nat) : ∃ v', Sub v v' ∧ LN e t sz k' l v' g o := by
  rcases h with ⟨a, rfl, b⟩ | ⟨Cp, rfl, b⟩
  · exact ⟨_, Sub.refl _, .inl ⟨a, rfl, b⟩⟩
  · exact ⟨_, Sub.sl _ k' _ _ _, .inr ⟨Cp, rfl, b⟩⟩
theorem LN.lend {α : Type} {e : α → AV} {t : TypeId} {sz k : Nat} {l : List α} {v : AV} {g : Nat} {o : AObj} {L : AHeap} (h : LN e t sz k l v g o) (hk : L[k]? = some (g, o)) : Lend L v (.ro sz (l.map e) l.length) := by
  rcases h with ⟨rfl, rfl, rfl⟩ | ⟨Cp, rfl, rfl⟩
  · exact .nils sz
  · exact .row k g Cp _ t sz _ hk (by rw [List.length_map]; exact Nat.le_refl _)
theorem map_at {α : Type} (e : α → AV) {l : List α} {i : Nat} {x : α} (h : l[i]? = some x) : (l.map e)[i]? = some (e x) := by rw [List.getElem?_map, h]; rfl
theorem Lend.tuples {L : AHeap} {xs ys : List AV} (h : Lends L xs ys) : Lend L (.tuple xs) (.tuple ys) := .tuple xs ys h.at_.1 h.at_.2
abbrev zeroRs : List AV := [.str eS, .str eS, .int .i64 0, .int .i64 0, .int .i64 0, .int .i64 0, .nils]
abbrev LS := LN AV.str 9 1
theorem FnSpec.fin {C : Cx} {f : FuncId} {args : List AV} {L : AHeap} {Q Q' : AV → AHeap → Prop} (h : FnSpec C f args L Q) (hq : ∀ r L', Q r L' → ∃ r' L'', FinOk r L' r' L'' ∧ Q' r' L'') : FnSpec C f args L Q' :=
  ⟨h.1, fun imm w vs hG hs hl hv => (h.2 imm w vs hG hs hl hv).mono fun _ _ ⟨v, r, L', imm', a, b, c, d, q⟩ => by
    obtain ⟨r', L'', hf, hq'⟩ := hq r L' q
    obtain ⟨imm2, h1, h2, h3⟩ := hf _ _ _ _ _ _ _ c b d
    exact ⟨v, r', L'', imm2, a, h2, h1, h3, hq'⟩⟩
theorem parse_code (s : ByteArray) : FnSpec C 28 [.str s] [] (fun r L' => r = .tuple [.junk, .int .i64 (parseE s)] ∧ L' = []) :=
  FnSpec.fin (parse_spec s) fun r L' h => by
    refine ⟨.tuple [.junk, .int .i64 (parseE s)], [], FinOk.keep _ [] ?_ (by simp) rfl, rfl, rfl⟩
    rcases h with ⟨h, rfl, rfl⟩ | ⟨h, hn, rfl, rfl⟩ | ⟨h, hn, g, rfl, rfl⟩
    · exact Sub.tuples ⟨Sub.junk _, Sub.refl _, trivial⟩
    · exact Sub.tuples ⟨Sub.junk _, by rw [h]; exact Sub.refl _, trivial⟩
    · exact Sub.tuples ⟨Sub.junk _, by rw [h]; exact Sub.refl _, trivial⟩
theorem name_one (s : ByteArray) : FnSpec C 42 [.str s] [] (fun r L' => r = .tuple [.str (nameB s), .junk] ∧ L' = []) :=
  FnSpec.fin (name_spec s) fun r L' h => by
    obtain ⟨rfl, rfl⟩ := h
    exact ⟨.tuple [.str (nameB s), .junk], [], FinOk.keep _ [] (Sub.tuples ⟨Sub.refl _, Sub.junk _, trivial⟩) (by simp) rfl, rfl, rfl⟩
end Go.Proofs.YtcbjcmigecocgaaGreatDoor.HBT
/- What the tree's texts and the document's share. -/
namespace Go.Proofs.YtcbjcmigecocgaaGreatDoor.HBT
open Go Go.Proofs.YtcbjcmigecocgaaGreatDoor.HB Go.RowKit
set_option maxRecDepth 8000

abbrev rdX (l : List Fu) : AV := .ro 7 (l.map encX) l.length
abbrev encCs (cs : List Chg) : AV := .ro 4 (cs.map encC) cs.length
theorem drop_at {l : List Fu} {i : Nat} {x : Fu} (h : l[i]? = some x) : l.drop i = x :: l.drop (i + 1) := by
  obtain ⟨h1, h2⟩ := List.getElem?_eq_some_iff.1 h
  rw [List.drop_eq_getElem_cons h1, h2]
theorem eq_of_upto {α : Type} {a b : List α} (hl : a.length = b.length) (h : ∀ j < a.length, a[j]? = b[j]?) : a = b := by
  apply List.ext_getElem?
  intro j
  by_cases hj : j < a.length
  · exact h j hj
  · rw [List.getElem?_eq_none (by omega), List.getElem?_eq_none (by omega)]
theorem findF_cons (y : Fu) (l : List Fu) (p : ByteArray) : findF (y :: l) p = if y.p = p then some y else findF l p := by
  unfold findF
  by_cases h : y.p = p
  · rw [List.find?_cons_of_pos (by simpa using h), if_pos h]
  · rw [List.find?_cons_of_neg (by simpa using h), if_neg h]
theorem findF_ins_ne {x : Fu} {p : ByteArray} (h : p ≠ x.p) : ∀ l : List Fu, findF (ins x l) p = findF l p
  | [] => by
    have e : ins x [] = [x] := rfl
    rw [e, findF_cons, if_neg (fun e => h e.symm)]
  | y :: l => by
    have e : ins x (y :: l) = if orderB x.p y.p < 0 then x :: y :: l else y :: ins x l := rfl
    rw [e]
    split
    · rw [findF_cons, if_neg (fun e => h e.symm)]
    · rw [findF_cons, findF_cons, findF_ins_ne h l]
end Go.Proofs.YtcbjcmigecocgaaGreatDoor.HBT
/- One op, as the document tells it, plainly. -/
namespace Go.Proofs.YtcbjcmigecocgaaGreatDoor.HBT
open Go Go.Proofs.YtcbjcmigecocgaaGreatDoor.HB Go.RowKit
set_option maxRecDepth 8000

def staticF (s : Int) (o : Opp) : Int :=
  if o.k < 1 ∨ 7 < o.k then 48
  else if o.k = 1 ∧ (o.f < 0 ∨ 3 < o.f) then 48
  else if parseE o.p ≠ 0 then 10
  else if o.k = 1 ∧ 2 ≤ o.f ∧ longB o.p = true then 10
  else if namesOf o.p = [] ∧ (o.k = 1 ∨ o.k = 3) then 47
  else if o.k = 1 ∧ o.f % 2 = 1 ∧ s = 0 then 44
  else if (o.k = 1 ∨ o.k = 2) ∧ 64 < o.d.size then 45
  else 0
def madeF (l : List Fu) (s st : Int) (o : Opp) : One := match findF l (parentB o.p) with
    | none => .error 40
    | some a =>
      if a.o ≠ 0 then .error 44
      else if isCnt o.f = true ∧ 99999 < a.k then .error 46
      else if (findF l (madeX s st a o).p).isSome then .error 41
      else if 64 ≤ l.length then .error 46
      else .ok (upd (ins (madeX s st a o) l) (madeA a o), told (madeX s st a o), [⟨1, (madeX s st a o).p, o.d, 0⟩])
def restF (l : List Fu) (st : Int) (o : Opp) : One := match findF l o.p with
    | none => .error 40
    | some x =>
      if o.k ≤ 4 ∧ o.v ≠ -1 ∧ o.v ≠ x.v then .error 42
      else if o.k = 2 then
        if 2147483647 ≤ x.v then .error 46
        else .ok (upd l { x with d := o.d, c := st, v := x.v + 1 }, told { x with d := o.d, c := st, v := x.v + 1 }, [⟨2, x.p, o.d, x.v + 1⟩])
      else if o.k = 3 then
        if kidsF l x.p ≠ [] then .error 43
        else .ok (del l x.p, ⟨x.p, eS, 0, 0, 0, 0, []⟩, [goneC x])
      else if o.k = 5 then .ok (l, { told x with d := x.d }, [])
      else if o.k = 7 then .ok (l, { told x with kids := (kidsF l x.p).map fun y => nameB y.p }, [])
      else .ok (l, told x, [])

theorem longB_slash : longB slash = false := by kernel_rfl
theorem play_static (l : List Fu) (s st : Int) (o : Opp) : playF l s st o = if staticF s o ≠ 0 then .error (staticF s o) else if o.k = 1 then madeF l s st o else restF l st o := by
  unfold playF
  by_cases h1 : o.k < 1 ∨ 7 < o.k
  · have e : staticF s o = 48 := by unfold staticF; rw [if_pos h1]
    rw [if_pos h1, e, if_pos (by decide)]
  rw [if_neg h1]
  by_cases hk : o.k = 1
  · rw [if_pos hk, if_pos hk]
    unfold makeF
    by_cases h2 : o.f < 0 ∨ 3 < o.f
    · have e : staticF s o = 48 := by unfold staticF; rw [if_neg h1, if_pos ⟨hk, h2⟩]
      rw [if_pos h2, e, if_pos (by decide)]
    rw [if_neg h2]
    by_cases hr : o.p = slash
    · have e : staticF s o = 47 := by
        unfold staticF
        rw [if_neg h1, if_neg (fun e => h2 e.2), if_neg (fun e => e (by rw [hr]; exact parse_slash)), if_neg (fun e => by rw [hr, longB_slash] at e; cases e.2.2), if_pos ⟨by rw [hr]; exact names_slash, .inl hk⟩]
      rw [if_pos (parentE_47.2 hr), e, if_pos (by decide)]
    rw [if_neg (fun e => hr (parentE_47.1 e))]
    by_cases hp : parseE o.p ≠ 0
    · have e : staticF s o = 10 := by unfold staticF; rw [if_neg h1, if_neg (fun e => h2 e.2), if_pos hp]
      rw [if_pos (.inl (by rw [parent_bad hp]; exact hp)), e, if_pos (by decide)]
    have hp0 : parseE o.p = 0 := Classical.not_not.1 hp
    have hpe := parentE_of hp0 hr
    have hn : namesOf o.p ≠ [] := fun e => hr ((names_iff hp0).1 e)
    have hc : isCnt o.f = true ↔ 2 ≤ o.f := by
      unfold isCnt
      rw [decide_eq_true_eq]
      omega
    by_cases hl : isCnt o.f = true ∧ longB o.p = true
    · have e : staticF s o = 10 := by unfold staticF; rw [if_neg h1, if_neg (fun e => h2 e.2), if_neg hp, if_pos ⟨hk, hc.1 hl.1, hl.2⟩]
      rw [if_pos (.inr hl), e, if_pos (by decide)]
    rw [if_neg (by rintro (e | e); exact e hpe; exact hl e)]
    have hbf : isBrf o.f = true ↔ o.f % 2 = 1 := by
      unfold isBrf
      rw [decide_eq_true_eq]
      omega
    by_cases hb : isBrf o.f = true ∧ s = 0
    · have e : staticF s o = 44 := by unfold staticF; rw [if_neg h1, if_neg (fun e => h2 e.2), if_neg hp, if_neg (fun e => hl ⟨hc.2 e.2.1, e.2.2⟩), if_neg (fun e => hn e.1), if_pos ⟨hk, hbf.1 hb.1, hb.2⟩]
      rw [if_pos hb, e, if_pos (by decide)]
    rw [if_neg hb]
    by_cases hd : 64 < o.d.size
    · have e : staticF s o = 45 := by unfold staticF; rw [if_neg h1, if_neg (fun e => h2 e.2), if_neg hp, if_neg (fun e => hl ⟨hc.2 e.2.1, e.2.2⟩), if_neg (fun e => hn e.1), if_neg (fun e => hb ⟨hbf.2 e.2.1, e.2.2⟩), if_pos ⟨.inl hk, hd⟩]
      rw [if_pos hd, e, if_pos (by decide)]
    rw [if_neg hd]
    have e : staticF s o = 0 := by unfold staticF; rw [if_neg h1, if_neg (fun e => h2 e.2), if_neg hp, if_neg (fun e => hl ⟨hc.2 e.2.1, e.2.2⟩), if_neg (fun e => hn e.1), if_neg (fun e => hb ⟨hbf.2 e.2.1, e.2.2⟩), if_neg (fun e => hd e.2)]
    rw [e, if_neg (by decide)]
    rfl
  · rw [if_neg hk, if_neg hk]
    by_cases hp : parseE o.p ≠ 0
    · have e : staticF s o = 10 := by unfold staticF; rw [if_neg h1, if_neg (fun e => hk e.1), if_pos hp]
      rw [if_pos hp, e, if_pos (by decide)]
    rw [if_neg hp]
    have hp0 : parseE o.p = 0 := Classical.not_not.1 hp
    by_cases hr : o.k = 3 ∧ o.p = slash
    · have e : staticF s o = 47 := by unfold staticF; rw [if_neg h1, if_neg (fun e => hk e.1), if_neg hp, if_neg (fun e => hk e.1), if_pos ⟨by rw [hr.2]; exact names_slash, .inr hr.1⟩]
      rw [if_pos hr, e, if_pos (by decide)]
    rw [if_neg hr]
    have hr2 : ¬ (namesOf o.p = [] ∧ (o.k = 1 ∨ o.k = 3)) := fun e => hr ⟨e.2.resolve_left hk, (names_iff hp0).1 e.1⟩
    by_cases hd : o.k = 2 ∧ 64 < o.d.size
    · have e : staticF s o = 45 := by unfold staticF; rw [if_neg h1, if_neg (fun e => hk e.1), if_neg hp, if_neg (fun e => hk e.1), if_neg hr2, if_neg (fun e => hk e.1), if_pos ⟨.inr hd.1, hd.2⟩]
      rw [if_pos hd, e, if_pos (by decide)]
    rw [if_neg hd]
    have e : staticF s o = 0 := by unfold staticF; rw [if_neg h1, if_neg (fun e => hk e.1), if_neg hp, if_neg (fun e => hk e.1), if_neg hr2, if_neg (fun e => hk e.1), if_neg (fun e => hd ⟨e.1.resolve_left hk, e.2⟩)]
    rw [e, if_neg (by decide)]
    rfl
theorem ins_del {l : List Fu} (h : Sorted l) {x n : Fu} (hx : x ∈ l) (hp : n.p = x.p) : ins n (del l x.p) = upd l n := by
  have hd := h.nodup
  have hfar : ∀ y ∈ del l x.p, y.p ≠ n.p := fun y hy => by
    rw [hp]; simpa using (List.mem_filter.1 hy).2
  refine Sorted.uniq (ins_sorted (del_sorted h) hfar) (upd_sorted h) ((ins_perm _ _).trans ?_)
  obtain ⟨i, hi⟩ := List.mem_iff_getElem?.1 hx
  rw [← erase_del hd hi, ← set_upd hd hi hp]
  obtain ⟨h1, e1⟩ := List.getElem?_eq_some_iff.1 hi
  rw [List.eraseIdx_eq_take_drop_succ, List.set_eq_take_append_cons_drop, if_pos h1]
  exact List.perm_middle.symm
end Go.Proofs.YtcbjcmigecocgaaGreatDoor.HBT
