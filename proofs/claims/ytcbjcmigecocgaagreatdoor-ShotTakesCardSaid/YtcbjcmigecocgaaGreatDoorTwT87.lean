/- One op of a request, of kind 7. -/
import Derived.Test.YtcbjcmigecocgaaGreatDoorTwT6
set_option linter.unusedVariables false
set_option linter.unusedSimpArgs false
namespace Go.Proofs.YtcbjcmigecocgaaGreatDoor.HBT
open Go Go.Proofs.YtcbjcmigecocgaaGreatDoor.HB Go.RowKit
set_option maxRecDepth 8000

set_option maxHeartbeats 8000000 in
theorem op_7 (gw gm gc : Nat) (s st : Int) (cs : List Chg) (cv : AV) (co : AObj) (hc : LC 2 cs cv gc co) (_hcs : cs.length ≤ 100) {l : List Fu} {es : Array MapEntry} {cl : Nat} (hT : TM l es cl) (hi : TInv l) (p d : ByteArray) (v f : Int) :
    FnSpec C 26 [.ptr 0 gw 0, .agg [.int .i64 7, .str p, .str d, .int .i64 v, .int .i64 f]] (WorkL gw gm s st cv es cl gc co) (OneQ gw gm s st cs (playF l s st ⟨7, p, d, v, f⟩)) := by
  have err : ∀ e, playF l s st ⟨7, p, d, v, f⟩ = .error e → OneQ gw gm s st cs (playF l s st ⟨7, p, d, v, f⟩) (.tuple [zeroR, .int .i64 e]) [] := fun e he => by rw [he]; exact ⟨rfl, rfl⟩
  rw [play_7] at err ⊢
  refine FnSpec.start C_ok Tryz.func26 rfl rfl Tryz.ntmps26 ?_
  repeat(first|refine Sc ?_|refine fun(_:Nat)=>?_)
  rename_i go gr
  refine ⟨fun h => absurd h (by decide), fun _ => ?_⟩
  repeat(first|refine Sc ?_|refine fun(_:Nat)=>?_)
  refine ⟨fun h => absurd h (by decide), fun _ => ?_⟩
  repeat(first|refine Sc ?_|refine fun(_:Nat)=>?_)
  refine ⟨fun h => absurd h (by decide), fun _ => ?_⟩
  repeat(first|refine Sc ?_|refine fun(_:Nat)=>?_)
  refine ACallT.ok (ACall.ret (r0 := .agg [.bool false, .bool false, .bool false]) (needs_spec 7) ?_)
  repeat(first|refine Sc ?_|refine fun(_:Nat)=>?_)
  refine Run.drawnK C_ok (aopC_sound C_ok) [0, 1, 3] [0, 1, 2, 3, 4, 5, 6, 7, 8, 9, 10, 11, 12] (by kernel_rfl) ?_
  repeat(first|refine Sc ?_|refine fun(_:Nat)=>?_)
  cases hf : findF l p with
  | none =>
    rw [hf] at err
    refine ⟨1, es, cl, none, by decide, rfl, hT.miss (findF_none hf), ?_⟩
    repeat(first|refine Sc ?_|refine fun(_:Nat)=>?_)
    refine ACallT.ok (ACall.ret (parse_code p) ?_)
    repeat(first|refine Sc ?_|refine fun(_:Nat)=>?_)
    refine ⟨fun h => ?_, fun h => ?_⟩
    · have h : parseE p ≠ 0 := h
      repeat(first|refine Sc ?_|refine fun(_:Nat)=>?_)
      exact ⟨_, [], FinOk.drop _ _, err 10 (by rw [if_pos h])⟩
    have hpp : parseE p = 0 := Classical.not_not.1 h
    have nc : ¬ parseE p ≠ 0 := fun h => h hpp
    repeat(first|refine Sc ?_|refine fun(_:Nat)=>?_)
    exact ⟨_, [], FinOk.drop _ _, err 40 (by rw [if_neg nc])⟩
  | some x =>
    rw [hf] at err
    dsimp only at err ⊢
    obtain ⟨hxm, hxp⟩ := findF_some hf
    obtain ⟨i, g1, _⟩ := hT.hit hi.sorted hxm
    rw [hxp] at g1
    refine ⟨1, es, cl, some (i, valX x), by decide, rfl, g1, encX x, rfl, ?_⟩
    repeat(first|refine Sc ?_|refine fun(_:Nat)=>?_)
    refine ACallT.ok (ACall.ret (parse_code p) ?_)
    repeat(first|refine Sc ?_|refine fun(_:Nat)=>?_)
    refine ⟨fun h => ?_, fun h => ?_⟩
    · have h : parseE p ≠ 0 := h
      repeat(first|refine Sc ?_|refine fun(_:Nat)=>?_)
      exact ⟨_, [], FinOk.drop _ _, err 10 (by rw [if_pos h])⟩
    have hpp : parseE p = 0 := Classical.not_not.1 h
    have nc : ¬ parseE p ≠ 0 := fun h => h hpp
    repeat(first|refine Sc ?_|refine fun(_:Nat)=>?_)
    refine ⟨fun h => absurd h (by decide), fun _ => ?_⟩
    repeat(first|refine Sc ?_|refine fun(_:Nat)=>?_)
    refine ⟨fun h => absurd h (by decide), fun _ => ?_⟩
    repeat(first|refine Sc ?_|refine fun(_:Nat)=>?_)
    refine ACallT.ok (ACall.ret (told_spec x) ?_)
    repeat(first|refine Sc ?_|refine fun(_:Nat)=>?_)
    refine ⟨fun h => absurd h (by decide), fun _ => ?_⟩
    repeat(first|refine Sc ?_|refine fun(_:Nat)=>?_)
    refine ⟨fun _ => ?_, fun h => absurd (by decide) h⟩
    repeat(first|refine Sc ?_|refine fun(_:Nat)=>?_)
    refine Run.drawnK C_ok (aopC_sound C_ok) [0, 6] [0, 1, 2, 3, 4, 5, 8, 6, 7] (by kernel_rfl) ?_
    repeat(first|refine Sc ?_|refine fun(_:Nat)=>?_)
    rename_i gn gx g2
    refine ACallT.ok (ACall.sel [1] (by decide) [.any (.map (some gm)), .str x.p] _ (.two (Sub.refl _) (Sub.refl _)) (kids_spec gm hT hi x.p) ?_)
    rintro r L' ⟨v0, g, o, hv, rfl, rfl⟩
    have hlen1 : (kidsF l x.p).length ≤ 64 := Nat.le_trans (List.length_filter_le _ _) hi.len
    rw [if_neg nc]
    rcases hv with ⟨e0, rfl, rfl⟩ | ⟨Cp, rfl, rfl⟩
    · refine ⟨.nils, Sub.refl _, ?_⟩
      repeat(first|refine Sc ?_|refine fun(_:Nat)=>?_)
      refine Run.loopW (fun k env L => k = 0 ∧ env = [.junk, .junk, .junk, .junk, .ptr 3 gr 0, .int .i64 0, .junk, .junk, .junk, .junk, .junk, .ptr 4 gn 0, .junk, .junk, .junk, .junk, .junk, .junk, .junk, .junk, .junk, .junk, .junk, .junk, .junk, .junk, .junk, .junk, .junk, .junk, .junk, .junk, .junk, .junk, .junk, .junk, .junk, .junk, .junk, .junk, .junk, .junk, .junk, .junk, .junk, .junk, .junk, .junk, .junk, .junk, .junk, .junk, .junk, .junk, .junk, .junk, .junk, .junk, .junk, .junk, .junk, .junk, .junk, .junk, .junk, .junk, .junk, .junk, .junk, .junk, .junk, .junk, .junk, .junk, .junk, .junk, .junk, .junk, .junk, .junk, .junk, .junk, .junk, .junk, .junk, .junk, .junk, .junk, .junk, .junk, .junk, .junk, .junk, .junk, .junk, .junk, .junk, .junk, .junk, .junk, .junk, .junk, .junk, .junk, .junk, .junk, .junk, .junk, .junk, .junk, .junk, .junk, .junk, .junk, .junk, .junk, .junk, .junk, .junk, .junk, .junk, .junk, .junk, .junk, .junk, .junk, .junk, .junk, .junk, .junk, .nils, .int .i64 0, .int .i64 0, .junk, .junk, .junk, .junk, .junk, .junk, .junk, .junk, .junk, .junk, .junk, .junk, .junk, .junk, .junk, .junk, .junk] ∧ L = [(gw, .cells tW [.any (.map (some gm)), .int .i64 s, .int .i64 st, cv]), (gm, .obj (.map es cl)), (gc, co), (gr, .cells tR zeroRs), (gn, .cells tR [.str x.p, .str eS, .int .i64 x.v, .int .i64 x.m, .int .i64 x.c, .int .i64 x.o, .nils])]) 0
        [.junk, .junk, .junk, .junk, .ptr 3 gr 0, .int .i64 0, .junk, .junk, .junk, .junk, .junk, .ptr 4 gn 0, .junk, .junk, .junk, .junk, .junk, .junk, .junk, .junk, .junk, .junk, .junk, .junk, .junk, .junk, .junk, .junk, .junk, .junk, .junk, .junk, .junk, .junk, .junk, .junk, .junk, .junk, .junk, .junk, .junk, .junk, .junk, .junk, .junk, .junk, .junk, .junk, .junk, .junk, .junk, .junk, .junk, .junk, .junk, .junk, .junk, .junk, .junk, .junk, .junk, .junk, .junk, .junk, .junk, .junk, .junk, .junk, .junk, .junk, .junk, .junk, .junk, .junk, .junk, .junk, .junk, .junk, .junk, .junk, .junk, .junk, .junk, .junk, .junk, .junk, .junk, .junk, .junk, .junk, .junk, .junk, .junk, .junk, .junk, .junk, .junk, .junk, .junk, .junk, .junk, .junk, .junk, .junk, .junk, .junk, .junk, .junk, .junk, .junk, .junk, .junk, .junk, .junk, .junk, .junk, .junk, .junk, .junk, .junk, .junk, .junk, .junk, .junk, .junk, .junk, .junk, .junk, .junk, .junk, .nils, .int .i64 0, .int .i64 0, .junk, .junk, .junk, .junk, .junk, .junk, .junk, .junk, .junk, .junk, .junk, .junk, .junk, .junk, .junk, .junk, .junk]
        [(gw, .cells tW [.any (.map (some gm)), .int .i64 s, .int .i64 st, cv]), (gm, .obj (.map es cl)), (gc, co), (gr, .cells tR zeroRs), (gn, .cells tR [.str x.p, .str eS, .int .i64 x.v, .int .i64 x.m, .int .i64 x.c, .int .i64 x.o, .nils])]
        (Weak.sel ?_ [0, 1, 2, 4, 7] (by decide) ?_) ⟨rfl, rfl, rfl⟩ ?_
      · exact Ss
      · exact Sl
      rintro k env L ⟨rfl, rfl, rfl⟩
      repeat(first|refine Sc ?_|refine fun(_:Nat)=>?_)
      refine ⟨fun h => absurd h (by decide), fun _ => ?_⟩
      repeat(first|refine Sc ?_|refine fun(_:Nat)=>?_)
      exact ⟨.tuple [encR { told x with kids := (kidsF l x.p).map fun y => nameB y.p }, .int .i64 0], _, FinOk.keep _ [0, 1, 2] (subR0 (r := { told x with kids := (kidsF l x.p).map fun y => nameB y.p }) (by rw [e0]; rfl)) (by decide) rfl, es, cl, cv, gc, co, hT, by rw [List.append_nil]; exact hc, rfl, rfl⟩
    · refine ⟨.sl 8 g Cp (kidsF l x.p).length, Sub.sl _ _ _ _ _, ?_⟩
      repeat(first|refine Sc ?_|refine fun(_:Nat)=>?_)
      refine Run.loopW (fun k env L => ∃ (i : Nat) (kv : AV) (gk : Nat) (ok : AObj), k = (kidsF l x.p).length - i ∧ i ≤ (kidsF l x.p).length ∧ LS 6 (((kidsF l x.p).take i).map fun y => nameB y.p) kv gk ok ∧ env = [.junk, .junk, .junk, .junk, .ptr 3 gr 0, .int .i64 0, .junk, .junk, .junk, .junk, .junk, .ptr 4 gn 0, .junk, .junk, .junk, .junk, .junk, .junk, .junk, .junk, .junk, .junk, .junk, .junk, .junk, .junk, .junk, .junk, .junk, .junk, .junk, .junk, .junk, .junk, .junk, .junk, .junk, .junk, .junk, .junk, .junk, .junk, .junk, .junk, .junk, .junk, .junk, .junk, .junk, .junk, .junk, .junk, .junk, .junk, .junk, .junk, .junk, .junk, .junk, .junk, .junk, .junk, .junk, .junk, .junk, .junk, .junk, .junk, .junk, .junk, .junk, .junk, .junk, .junk, .junk, .junk, .junk, .junk, .junk, .junk, .junk, .junk, .junk, .junk, .junk, .junk, .junk, .junk, .junk, .junk, .junk, .junk, .junk, .junk, .junk, .junk, .junk, .junk, .junk, .junk, .junk, .junk, .junk, .junk, .junk, .junk, .junk, .junk, .junk, .junk, .junk, .junk, .junk, .junk, .junk, .junk, .junk, .junk, .junk, .junk, .junk, .junk, .junk, .junk, .junk, .junk, .junk, .junk, .junk, .junk, .sl 5 g Cp (kidsF l x.p).length, .int .i64 (kidsF l x.p).length, .int .i64 i, .junk, .junk, .junk, .junk, .junk, .junk, .junk, .junk, .junk, .junk, .junk, .junk, .junk, .junk, .junk, .junk, .junk] ∧ L = [(gw, .cells tW [.any (.map (some gm)), .int .i64 s, .int .i64 st, cv]), (gm, .obj (.map es cl)), (gc, co), (gr, .cells tR zeroRs), (gn, .cells tR [.str x.p, .str eS, .int .i64 x.v, .int .i64 x.m, .int .i64 x.c, .int .i64 x.o, kv]), (g, .row tX 7 Cp ((kidsF l x.p).map encX)), (gk, ok)]) (kidsF l x.p).length
        [.junk, .junk, .junk, .junk, .ptr 3 gr 0, .int .i64 0, .junk, .junk, .junk, .junk, .junk, .ptr 4 gn 0, .junk, .junk, .junk, .junk, .junk, .junk, .junk, .junk, .junk, .junk, .junk, .junk, .junk, .junk, .junk, .junk, .junk, .junk, .junk, .junk, .junk, .junk, .junk, .junk, .junk, .junk, .junk, .junk, .junk, .junk, .junk, .junk, .junk, .junk, .junk, .junk, .junk, .junk, .junk, .junk, .junk, .junk, .junk, .junk, .junk, .junk, .junk, .junk, .junk, .junk, .junk, .junk, .junk, .junk, .junk, .junk, .junk, .junk, .junk, .junk, .junk, .junk, .junk, .junk, .junk, .junk, .junk, .junk, .junk, .junk, .junk, .junk, .junk, .junk, .junk, .junk, .junk, .junk, .junk, .junk, .junk, .junk, .junk, .junk, .junk, .junk, .junk, .junk, .junk, .junk, .junk, .junk, .junk, .junk, .junk, .junk, .junk, .junk, .junk, .junk, .junk, .junk, .junk, .junk, .junk, .junk, .junk, .junk, .junk, .junk, .junk, .junk, .junk, .junk, .junk, .junk, .junk, .junk, .sl 5 g Cp (kidsF l x.p).length, .int .i64 (kidsF l x.p).length, .int .i64 (0 : Nat), .junk, .junk, .junk, .junk, .junk, .junk, .junk, .junk, .junk, .junk, .junk, .junk, .junk, .junk, .junk, .junk, .junk]
        [(gw, .cells tW [.any (.map (some gm)), .int .i64 s, .int .i64 st, cv]), (gm, .obj (.map es cl)), (gc, co), (gr, .cells tR zeroRs), (gn, .cells tR [.str x.p, .str eS, .int .i64 x.v, .int .i64 x.m, .int .i64 x.c, .int .i64 x.o, .nils]), (g, .row tX 7 Cp ((kidsF l x.p).map encX)), (0, .dead)]
        (Weak.sel ?_ [0, 1, 2, 4, 7, 8, 19] (by decide) ?_) ⟨0, .nils, 0, .dead, by omega, by omega, .inl ⟨rfl, rfl, rfl⟩, rfl, rfl⟩ ?_
      · exact Ss
      · exact Sl
      rintro k env L ⟨i, kv, gk, ok, rfl, hi', hkv, rfl, rfl⟩
      repeat(first|refine Sc ?_|refine fun(_:Nat)=>?_)
      refine ⟨fun h => ?_, fun h => ?_⟩
      · have h : (i : Int) < ((kidsF l x.p).length : Int) := h
        have hil : i < (kidsF l x.p).length := by omega
        obtain ⟨y, ey⟩ : ∃ y, (kidsF l x.p)[i]? = some y := ⟨_, List.getElem?_eq_getElem hil⟩
        have etk : ((kidsF l x.p).take (i + 1)).map (fun y => nameB y.p) = ((kidsF l x.p).take i).map (fun y => nameB y.p) ++ [nameB y.p] := by
          rw [List.take_add_one, ey]; simp
        repeat(first|refine Sc ?_|refine fun(_:Nat)=>?_)
        refine ⟨h, ?_⟩
        repeat(first|refine Sc ?_|refine fun(_:Nat)=>?_)
        refine ⟨encX y, map_at encX ey, ?_⟩
        repeat(first|refine Sc ?_|refine fun(_:Nat)=>?_)
        refine ACallT.ok (ACall.ret (name_one y.p) ?_)
        repeat(first|refine Sc ?_|refine fun(_:Nat)=>?_)
        rcases hkv with ⟨e1, rfl, rfl⟩ | ⟨Ck, rfl, rfl⟩
        · repeat(first|refine Sc ?_|refine fun(_:Nat)=>?_)
          refine ⟨fun h => absurd h (List.cons_ne_nil _ _), fun _ => ?_⟩
          repeat(first|refine Sc ?_|refine fun(_:Nat)=>?_)
          rename_i g' C'
          refine fun r hr => ?_
          obtain rfl := add1 hr (by omega)
          repeat(first|refine Sc ?_|refine fun(_:Nat)=>?_)
          refine Cont.lpW ?_
          refine ⟨(kidsF l x.p).length - (i + 1), _, _, by omega, Weak.sel ?_ [0, 1, 2, 3, 4, 5, 9] (by decide) ?_, ⟨i + 1, .sl 6 g' C' 1, g', _, rfl, by omega, etk.symm ▸ LN.one e1, rfl, rfl⟩⟩
          · exact Ss
          · exact Sl
        · repeat(first|refine Sc ?_|refine fun(_:Nat)=>?_)
          refine ⟨by simp, ?_⟩
          repeat(first|refine Sc ?_|refine fun(_:Nat)=>?_)
          refine ⟨by simp; omega, ?_⟩
          repeat(first|refine Sc ?_|refine fun(_:Nat)=>?_)
          rename_i g' C'
          refine fun r hr => ?_
          obtain rfl := add1 hr (by omega)
          repeat(first|refine Sc ?_|refine fun(_:Nat)=>?_)
          refine Cont.lpW ?_
          refine ⟨(kidsF l x.p).length - (i + 1), _, _, by omega, Weak.sel ?_ [0, 1, 2, 3, 4, 5, 6] (by decide) ?_, ⟨i + 1, .sl 6 g' C' (((((kidsF l x.p).take i).map fun y => nameB y.p).map AV.str).length + 1), g', .row 9 1 C' ((((kidsF l x.p).take i).map fun y => nameB y.p).map AV.str ++ [.str (nameB y.p)]), rfl, by omega, etk.symm ▸ LN.snoc, rfl, rfl⟩⟩
          · exact Ss
          · exact Sl
      · have h : ¬ (i : Int) < ((kidsF l x.p).length : Int) := h
        have hil : i = (kidsF l x.p).length := by omega
        subst hil
        rw [List.take_length] at hkv
        rcases hkv with ⟨e1, rfl, rfl⟩ | ⟨Ck, rfl, rfl⟩
        · repeat(first|refine Sc ?_|refine fun(_:Nat)=>?_)
          exact ⟨.tuple [encR { told x with kids := (kidsF l x.p).map fun y => nameB y.p }, .int .i64 0], _, FinOk.keep _ [0, 1, 2] (subR0 (r := { told x with kids := (kidsF l x.p).map fun y => nameB y.p }) e1) (by decide) rfl, es, cl, cv, gc, co, hT, by rw [List.append_nil]; exact hc, rfl, rfl⟩
        · repeat(first|refine Sc ?_|refine fun(_:Nat)=>?_)
          exact ⟨.tuple [encR { told x with kids := (kidsF l x.p).map fun y => nameB y.p }, .int .i64 0], _, FinOk.keepLend (r1 := .tuple [encR { told x with kids := (kidsF l x.p).map fun y => nameB y.p }, .int .i64 0]) [0, 1, 2] (by decide) (Lend.tuples ⟨Lend.aggs ⟨.same _, .same _, .same _, .same _, .same _, .same _, .row 6 gk Ck _ 9 1 _ rfl (by simp), trivial⟩, .same _, trivial⟩) (Sub.refl _), es, cl, cv, gc, co, hT, by rw [List.append_nil]; exact hc, rfl, rfl⟩
end Go.Proofs.YtcbjcmigecocgaaGreatDoor.HBT
