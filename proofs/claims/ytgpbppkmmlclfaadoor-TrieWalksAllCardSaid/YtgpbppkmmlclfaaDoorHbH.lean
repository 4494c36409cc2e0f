/- The abstract machine's operations, all of them in one, and that the model's own do what they say. -/
import Derived.Test.YtgpbppkmmlclfaaDoorHbA
import Derived.Lib.AppendZeros
import Derived.Lib.AppendZerosOnto
namespace Go.Proofs.YtgpbppkmmlclfaaDoor.HB
open Go

def aint (env : List AV) (d : Int) (x : Option Operand) (K : Int → Prop) : Prop :=
  match x with
  | none => K d
  | some x => match aeval env x with
    | .int _ n => K n
    | _ => False

def aslice (C : Cx) (t : TypeId) (x : AV) (L : AHeap) (env : List AV) (lo hi : Option Operand) (K : AV → Prop) : Prop :=
  match C.T t, x with
  | some (.one .string _), .str s => aint env 0 lo fun l => aint env s.size hi fun h => 0 ≤ l ∧ l ≤ h ∧ h ≤ s.size ∧ K (.str (s.extract l.toNat h.toNat))
  | some (.slice ..), .sl k g Cp n => match L[k]? with
    | some (g', .row _ _ C' xs) => g' = g ∧ C' = Cp ∧ aint env 0 lo fun l => aint env n hi fun h => l = 0 ∧ 0 ≤ h ∧ h ≤ xs.length ∧ K (.sl k g Cp h.toNat)
    | _ => False
  | some (.slice _ sz' ..), .ro sz xs n => if sz' = sz then aint env 0 lo fun l => aint env n hi fun h => 0 ≤ l ∧ l ≤ h ∧ h ≤ xs.length ∧ K (.ro sz (xs.drop l.toNat) (h - l).toNat) else False
  | some (.slice ..), .nils => aint env 0 lo fun l => aint env 0 hi fun h => l = 0 ∧ h = 0 ∧ K .nils
  | some (.slice _ sz' ..), .sb k g Cp sz lo0 n => if sz' = sz then aint env 0 lo fun l => aint env n hi fun h => 0 ≤ l ∧ l ≤ h ∧ h ≤ (Cp - lo0 : Nat) ∧ K (.sb k g Cp sz (lo0 + l.toNat) (h - l).toNat) else False
  | _, _ => False

def aslice3 (C : Cx) (t : TypeId) (x : AV) (env : List AV) (lo : Option Operand) (hi m : Operand) (K : AV → Prop) : Prop :=
  match C.T t, x with
  | some (.slice ..), .sb _ _ Cp _ lo0 _ => aint env 0 lo fun l => aint env 0 (some hi) fun h => aint env 0 (some m) fun m => 0 ≤ l ∧ l ≤ h ∧ h ≤ m ∧ m ≤ (Cp - lo0 : Nat) ∧ K .junk
  | _, _ => False

def asrc (L : AHeap) (x : AV) (sz : Nat) (K : List AV → Prop) : Prop :=
  match x with
  | .nils => K []
  | .ro sz' xs n => if sz' = sz then K (xs.take n) else False
  | .sl k g Cp n => match L[k]? with
    | some (g', .row _ sz' C' xs) => g' = g ∧ C' = Cp ∧ n ≤ xs.length ∧ if sz' = sz then K (xs.take n) else False
    | _ => False
  | .sb k g Cp sz0 lo n => match L[k]? with
    | some (g', .row _ sz' C' xs) => g' = g ∧ C' = Cp ∧ lo + n ≤ xs.length ∧ if sz' = sz ∧ sz0 = sz then K ((xs.drop lo).take n) else False
    | _ => False
  | _ => False

def aappend (L : AHeap) (e sz bytes : Nat) (s : AV) (ys : List AV) (K : AV → AHeap → Prop) : Prop :=
  match s with
  | .nils => ys.length * bytes ≤ 140737488355328 ∧ (ys = [] → K .nils L) ∧ (ys ≠ [] → ∀ g Cp, K (.sl L.length g Cp ys.length) (L ++ [(g, .row e sz Cp ys)]))
  | .sl k g Cp n => match L[k]? with
    | some (g', .row e' sz' C' xs) => if e' = e ∧ sz' = sz then g' = g ∧ C' = Cp ∧ n = xs.length ∧ (xs.length + ys.length) * bytes ≤ 140737488355328 ∧
        ∀ g2 C2, K (.sl k g2 C2 (xs.length + ys.length)) (L.set k (g2, .row e sz C2 (xs ++ ys))) else False
    | _ => False
  | .sb k g Cp sz0 lo n => match L[k]? with
    | some (g', .row e' sz' C' xs) => if e' = e ∧ sz' = sz ∧ sz0 = sz then g' = g ∧ C' = Cp ∧ lo = 0 ∧ n ≤ xs.length ∧ (n + ys.length) * bytes ≤ 140737488355328 ∧
        (n + ys.length ≤ Cp → K (.sb k g Cp sz 0 (n + ys.length)) (L.set k (g, .row e sz Cp (xs.take n ++ ys)))) ∧
        (Cp < n + ys.length → ∀ g2 C2, n + ys.length ≤ C2 → K (.sb k g2 C2 sz 0 (n + ys.length)) (L.set k (g2, .row e sz C2 (xs.take n ++ ys)))) else False
    | _ => False
  | _ => False

def bytesA (s : ByteArray) : List AV := s.data.toList.map fun b => .int .u8 b.toNat

def partsOk (sz : Nat) : List (Nat × AV) → Nat → Bool
  | [], _ => true
  | (i, x) :: rest, j => i == j && (match cellsA x with | some c => c.length == sz | none => false) && partsOk sz rest (j + 1)

def aloadT (ti : TI) (cs : List AV) (K : AV → Prop) : Prop :=
  if ti.size ≤ cs.length then (if ti.isAgg then K (.agg (cs.take ti.size)) else match cs with
    | c :: _ => K c
    | [] => False) else False

def abuiltin (C : Cx) (b : Builtin) (ts : Array TypeId) (args : List AV) (L : AHeap) (K : AV → AHeap → Prop) : Prop :=
  match b, ts.toList, args with
  | .len, [t], [x] => match C.T t, x with
    | some (.one .string _), .str s => K (.int .i64 s.size) L
    | some (.slice ..), .sl _ _ _ n => K (.int .i64 n) L
    | some (.slice ..), .ro _ _ n => K (.int .i64 n) L
    | some (.slice ..), .sb _ _ _ _ _ n => K (.int .i64 n) L
    | some (.slice ..), .nils => K (.int .i64 0) L
    | _, _ => False
  | .append, [t, t'], [s, x] => match C.T t with
    | some (.slice e sz bytes _ _) => if bytes = 0 then False else
      if t = t' then asrc L x sz fun ys => aappend L e sz bytes s ys K
      else match C.T t, C.T t', x with
        | some (.slice e' 1 1 false [.int .u8 0]), some (.one .string _), .str u => aappend L e' 1 1 s (bytesA u) K
        | some (.slice ..), some (.one (.int .i64) _), .int .i64 n => match s with
          | .nils => 0 < n ∧ n * bytes ≤ 140737488355328 ∧ ∀ g Cp, K (.sl L.length g Cp n.toNat) (L ++ [(g, .row e sz Cp [])])
          | .sb k g Cp sz0 lo m => match L[k]? with
            | some (g', .row e' sz' C' xs) => if e' = e ∧ sz' = sz ∧ sz0 = sz then g' = g ∧ C' = Cp ∧ lo = 0 ∧ m ≤ xs.length ∧ 0 < n ∧ (Cp : Int) < m + n ∧ (m + n) * bytes ≤ 140737488355328 ∧
                ∀ g2 C2, m + n.toNat ≤ C2 → K (.sb L.length g2 C2 sz 0 (m + n.toNat)) (L ++ [(g2, .row e sz C2 (xs.take m))]) else False
            | _ => False
          | _ => False
        | _, _, _ => False
    | _ => False
  | .min, [_, _], [.int k x, .int k' y] => if k = k' then ∀ r, r = (if y < x then y else x) → K (.int k r) L else False
  | .max, [_, _], [.int k x, .int k' y] => if k = k' then ∀ r, r = (if x < y then y else x) → K (.int k r) L else False
  | .cap, [t], [x] => match C.T t, x with
    | some (.slice ..), .sl _ _ Cp _ => K (.int .i64 Cp) L
    | some (.slice ..), .nils => K (.int .i64 0) L
    | some (.slice ..), .sb _ _ Cp _ lo _ => K (.int .i64 (Cp - lo : Nat)) L
    | _, _ => False
  | .copy, [t, _], [d, x] => match C.T t, d, x with
    | some (.slice e sz _ _ _), .sb k g Cp sz0 lo n, .sb k' g' Cp' sz0' lo' n' => match L[k]?, L[k']? with
      | some (h, .row e1 sz1 C1 xs), some (h', .row _ sz2 C2 xs') => if e1 = e ∧ sz1 = sz ∧ sz0 = sz ∧ sz2 = sz ∧ sz0' = sz then ∀ m, m = min n' n →
          h = g ∧ C1 = Cp ∧ h' = g' ∧ C2 = Cp' ∧ lo ≤ xs.length ∧ lo + m ≤ Cp ∧ lo' + m ≤ xs'.length ∧ K (.int .i64 m) (L.set k (g, .row e sz Cp (xs.take lo ++ (xs'.drop lo').take m ++ xs.drop (lo + m)))) else False
      | _, _ => False
    | _, _, _ => False
  | .clear, [t], [x] => match C.T t, x with
    | some (.slice e sz _ _ _), .sb k g Cp sz0 lo n => match L[k]? with
      | some (h, .row e1 sz1 C1 xs) => if e1 = e ∧ sz1 = sz ∧ sz0 = sz then h = g ∧ C1 = Cp ∧ lo ≤ xs.length ∧ lo + n ≤ Cp ∧ K .junk (L.set k (g, .row e sz Cp (xs.take lo))) else False
      | _ => False
    | _, _ => False
  | _, _, _ => False

def afun : AV → Option FuncId
  | .any (.func (.func f) ⟨[]⟩ ⟨[]⟩) => some f
  | _ => none
theorem afun_VR {imm : Nat → Prop} {w : World} {x : AV} {v : Value} {f : FuncId} (h : VR imm w x v) (hf : afun x = some f) : v = .func (.func f) #[] #[] := by
  unfold afun at hf
  split at hf
  · cases hf; cases h; rfl
  · cases hf

def aop (C : Cx) (o : Oper) (env : List AV) (L : AHeap) (K : AV → AHeap → Prop) : Prop :=
  match o.op with
  | .move x | .assign x => K (aeval env x) L
  | .pick c a b => match aeval env c with
    | .bool true => K (aeval env a) L
    | .bool false => K (aeval env b) L
    | _ => False
  | .box t x => match cellsA (aeval env x) with
    | some cs => ∀ g, K (.ptr L.length g 0) (L ++ [(g, .cells t cs)])
    | none => False
  | .alloc t => match C.T t with
    | some ti => ∀ g, K (.ptr L.length g 0) (L ++ [(g, .cells t ti.zero)])
    | none => False
  | .load t x => match C.T t with
    | some ti => aptr L (aeval env x) fun cs => aloadT ti cs fun v => K v L
    | none => False
  | .store t x y => match C.T t, cellsA (aeval env y) with
    | some ti, some new => if new.length = ti.size then astore L (aeval env x) new (K .junk) else False
    | _, _ => False
  | .nilCheck x => match aeval env x with
    | .ptr k g off => K (.ptr k g off) L
    | .el k g Cp sz i off => K (.el k g Cp sz i off) L
    | .rel cs => K (.rel cs) L
    | _ => False
  | .binOp op t x y _ => abin C op t (aeval env x) (aeval env y) fun v => K v L
  | .unOp .not _ x => match aeval env x with
    | .bool b => K (.bool !b) L
    | _ => False
  | .fieldAddr t x f => match C.T t with
    | some (.agg fs _) => match fs[f]? with
      | some (off, sz, _) => if sz = 0 then False else match aeval env x with
        | .ptr k g off' => K (.ptr k g (off' + off)) L
        | .el k g Cp sz' i off' => K (.el k g Cp sz' i (off' + off)) L
        | .rel cs => K (.rel (cs.drop off)) L
        | _ => False
      | none => False
    | _ => False
  | .field t x f => match C.T t, aeval env x with
    | some (.agg fs _), .agg cs => match fs[f]? with
      | some (off, sz, true) => if off + sz ≤ cs.length then K (.agg ((cs.drop off).take sz)) L else False
      | some (off, _, false) => match cs[off]? with
        | some c => K c L
        | none => False
      | none => False
    | _, _ => False
  | .build t parts => match C.T t with
    | some (.agg fs zs) => if fs.all (fun f => f.2.1 != 0) then match afill fs zs (parts.toList.map fun p => (p.1, aeval env p.2)) with
      | some cs => K (.agg cs) L
      | none => False else False
    | _ => False
  | .buildSlice t len parts => match C.T t with
    | some (.slice e sz _ _ _) => if len == 0 && parts.toList.isEmpty then ∀ g, K (.sl L.length g 0 0) (L ++ [(g, .row e sz 0 [])]) else if partsOk sz (parts.toList.map fun p => (p.1, aeval env p.2)) 0 && (parts.toList.length == len) && decide (0 < len * sz) && decide (len * sz ≤ 16777216) && decide (len ≤ 9223372036854775807) then
        ∀ g, K (.sl L.length g len len) (L ++ [(g, .row e sz len (parts.toList.map fun p => aeval env p.2))]) else False
    | _ => False
  | .index t x i => match C.T t, aeval env x, aeval env i with
    | some (.one .string _), .str s, .int _ i => 0 ≤ i ∧ ∃ h : i.toNat < s.size, K (.int .u8 (s[i.toNat]'h).toNat) L
    | _, _, _ => False
  | .indexAddr t x i => match C.T t, aeval env x, aeval env i with
    | some (.slice _ sz _ _ _), .sl k g Cp n, .int _ i => 0 ≤ i ∧ i < n ∧ K (.el k g Cp sz i.toNat 0) L
    | some (.slice _ sz _ _ _), .ro sz' xs n, .int _ i => if sz' = sz then 0 ≤ i ∧ i < n ∧ ∃ x, xs[i.toNat]? = some x ∧ K (.rel (flat x)) L else False
    | some (.arr n 1 _ _), .any (.pointer (some ⟨g, 0, none⟩)), .int _ i => match C.GT g with
      | some cs => 0 ≤ i ∧ i < n ∧ ∃ c, cs[i.toNat]? = some c ∧ K (.rel [c]) L
      | none => False
    | _, _, _ => False
  | .slice t x lo hi none => aslice C t (aeval env x) L env lo hi fun v => K v L
  | .slice t x lo (some hi) (some m) => aslice3 C t (aeval env x) env lo hi m fun v => K v L
  | .extract x i => match aeval env x with
    | .tuple xs => match xs[i]? with
      | some c => K c L
      | none => False
    | _ => False
  | .convert src dst x => match C.T src, C.T dst, aeval env x with
    | some (.one (.int _) _), some (.one (.int k) _), .int _ n => ∀ r, r = k.wrap n → K (.int k r) L
    | some (.one .string _), some (.one .string _), .str s => K (.str s) L
    | _, _, _ => False
  | .call { callee := .value x, args, .. } => match afun (aeval env x) with
    | some f => ACall C f (args.toList.map (aeval env)) L K
    | none => False
  | .call { callee := .builtin b, args, argTypes } => abuiltin C b argTypes (args.toList.map (aeval env)) L K
  | _ => False

end Go.Proofs.YtgpbppkmmlclfaaDoor.HB
/- The model's own operations do what the abstract ones say. -/
namespace Go.Proofs.YtgpbppkmmlclfaaDoor.HB
open Go

section
variable {P : Program} {o : Oper} {a : Act} {w w' : World} {next : Act → World → Prop} {Q : Exit → Act → World → Prop}

theorem addr_add0 (g i : Nat) : (⟨g, 0, none⟩ : Addr).add i = ⟨g, i, none⟩ := by unfold Addr.add; split <;> simp_all
theorem addr_addn (g j i : Nat) : (⟨g, j, none⟩ : Addr).add i = ⟨g, j + i, none⟩ := by unfold Addr.add; split <;> simp_all
theorem addr_add_add (a : Addr) (i j : Nat) : (a.add i).add j = a.add (i + j) := by
  unfold Addr.add
  by_cases h : i = 0
  · subst h; simp
  · by_cases k : j = 0
    · subst k; simp [h]
    · simp [h, k]
      omega

theorem aint_run {env : List AV} {a : Act} {imm : Nat → Prop} {w : World} (he : EnvR imm w env a.tmps) {d : Int} {x : Option Operand} {K : Int → Prop} (h : aint env d x K) :
    ∃ l, K l ∧ ((x.map a.eval = none ∧ l = d) ∨ ∃ k, x.map a.eval = some (.int k l)) := by
  cases x with
  | none => exact ⟨d, h, .inl ⟨rfl, rfl⟩⟩
  | some x =>
    have hx := aeval_VR he x
    simp only [aint] at h
    split at h
    · rename_i k n e
      rw [e] at hx
      generalize hv : a.eval x = v at hx
      cases hx
      exact ⟨n, h, .inr ⟨k, by simp [hv]⟩⟩
    · exact h.elim
end

theorem aslice_sound {C : Cx} (hC : C.Ok) {t : TypeId} {x : AV} {L : AHeap} {env : List AV} {lo hi : Option Operand} {K : AV → Prop} (h : aslice C t x L env lo hi K) {imm : Nat → Prop} {w : World} {a : Act} (hs : Sat imm w L) (he : EnvR imm w env a.tmps) {v : Value} (hx : VR imm w x v) :
    ∃ r u, (∀ w', (Instr.sliceAt t v (lo.map a.eval) (hi.map a.eval) none).run C.P w' = .ok u w') ∧ VR imm w r u ∧ K r := by
  unfold aslice at h
  split at h
  · rename_i z s ht
    cases hx
    have hu := tiOf_one (hC.types _ _ ht)
    obtain ⟨l, h, hl⟩ := aint_run he h
    obtain ⟨hh, h, hhi⟩ := aint_run he h
    obtain ⟨h0, h1, h2, hK⟩ := h
    refine ⟨_, .string (s.extract l.toNat hh.toNat), fun w' => ?_, .str _, hK⟩
    have hb := fun w' => run_bounds (P := C.P) w' false s.size s.size (lo.map a.eval) (hi.map a.eval) l hh hl hhi h0 h1 h2
    simp [Instr.sliceAt, Instr.slice, run_underlying hu, hb]
  · rename_i e sz by_ ea zs k g Cp n ht
    cases hx
    split at h
    · rename_i g' e' sz' C' xs hk
      obtain ⟨rfl, rfl, h⟩ := h
      obtain ⟨l, h, hl⟩ := aint_run he h
      obtain ⟨hh, h, hhi⟩ := aint_run he h
      obtain ⟨rfl, h1, h2, hK⟩ := h
      obtain ⟨hu, j, ze, hj, hsz, _⟩ := tiOf_slice (hC.types _ _ ht)
      cases hs.holds k g' _ hk trivial with
      | row _ _ _ _ vs spare hg hs0 hszz hCC hm hxl hv =>
        have hb := fun w' => run_bounds (P := C.P) w' true n C' (lo.map a.eval) (hi.map a.eval) 0 hh hl hhi (Int.le_refl 0) h1 (by omega)
        refine ⟨_, .slice (some ⟨g', 0, none⟩) hh.toNat C', fun w' => ?_, .sl _ _ _ _, hK⟩
        simp [Instr.sliceAt, Instr.slice, run_underlying hu, hb, run_sizeOf w' hj, Addr.add]
    · exact h.elim
  · rename_i e sz' by_ ea zs sz xs n ht
    split at h
    case isFalse => exact h.elim
    rename_i esz
    subst esz
    obtain ⟨hu, j, ze, hj, hsz, _⟩ := tiOf_slice (hC.types _ _ ht)
    obtain ⟨l, h, hl⟩ := aint_run he h
    obtain ⟨hh, h, hhi⟩ := aint_run he h
    obtain ⟨h0, h1, h2, hK⟩ := h
    cases hx with
    | ro _ _ _ A cap vs hn hcap hszz hvl ha h1c hv =>
      have hb := fun w' => run_bounds (P := C.P) w' true n cap (lo.map a.eval) (hi.map a.eval) l hh hl hhi h0 h1 (by omega)
      refine ⟨_, .slice (if cap = l.toNat then A else A.map (·.add (l.toNat * sz'))) (hh.toNat - l.toNat) (cap - l.toNat), fun w' => ?_, ?_, hK⟩
      · simp [Instr.sliceAt, Instr.slice, run_underlying hu, hb, run_sizeOf w' hj, hsz]
      · have hfl := flats_length hszz
        have hdrop : flats (xs.drop l.toNat) = (flats xs).drop (l.toNat * sz') := by
          have h3 : l.toNat ≤ xs.length := by omega
          have h4 : flats (xs.take l.toNat) ++ flats (xs.drop l.toNat) = flats xs := by rw [← flats_append, List.take_append_drop]
          have h5 : (flats (xs.take l.toNat)).length = l.toNat * sz' := by
            rw [flats_length (fun x hx => hszz x (List.mem_of_mem_take hx)), List.length_take, Nat.min_eq_left h3]
          rw [← h4, ← h5, List.drop_left]
        have hVRs : VRs imm w (flats xs) vs := ⟨hvl, h1c, hv⟩
        have hd := hVRs.drop (l.toNat * sz')
        rw [← hdrop] at hd
        have hnn : (hh - l).toNat = hh.toNat - l.toNat := by omega
        rw [hnn]
        refine .ro sz' (xs.drop l.toNat) _ _ _ (vs.drop (l.toNat * sz')) (by simp; omega) (by simp; omega) (fun x hx => hszz x (List.mem_of_mem_drop hx)) hd.len (fun hp => ?_) hd.one hd.at_
        simp only [List.length_drop] at hp
        obtain ⟨ad, rfl, him, hc⟩ := ha (by omega)
        rw [if_neg (by omega)]
        refine ⟨ad.add (l.toNat * sz'), rfl, ?_, fun j u hj => ?_⟩
        · rw [show (ad.add (l.toNat * sz')).block = ad.block by unfold Addr.add; split <;> rfl]; exact him
        · rw [addr_add_add]
          rw [List.getElem?_drop] at hj
          exact hc _ u hj
  · rename_i e sz by_ ea zs ht
    cases hx
    obtain ⟨hu, j, ze, hj, hsz, _⟩ := tiOf_slice (hC.types _ _ ht)
    obtain ⟨l, h, hl⟩ := aint_run he h
    obtain ⟨hh, h, hhi⟩ := aint_run he h
    obtain ⟨rfl, rfl, hK⟩ := h
    have hb := fun w' => run_bounds (P := C.P) w' true 0 0 (lo.map a.eval) (hi.map a.eval) 0 0 hl hhi (Int.le_refl 0) (Int.le_refl 0) (by omega)
    refine ⟨_, .slice none 0 0, fun w' => ?_, .nils, hK⟩
    simp [Instr.sliceAt, Instr.slice, run_underlying hu, hb, run_sizeOf w' hj]
  · rename_i e sz' by_ ea zs k g Cp sz lo0 n ht
    split at h
    case isFalse => exact h.elim
    rename_i esz
    subst esz
    obtain ⟨hu, j, ze, hj, hsz, _⟩ := tiOf_slice (hC.types _ _ ht)
    obtain ⟨l, h, hl⟩ := aint_run he h
    obtain ⟨hh, h, hhi⟩ := aint_run he h
    obtain ⟨h0, h1, h2, hK⟩ := h
    cases hx with
    | sb _ _ _ _ _ _ off e1 e0 =>
      have hb := fun w' => run_bounds (P := C.P) w' true n (Cp - lo0) (lo.map a.eval) (hi.map a.eval) l hh hl hhi h0 h1 (by omega)
      have hnn : (hh - l).toNat = hh.toNat - l.toNat := by omega
      rw [hnn] at hK
      refine ⟨_, .slice (some ⟨g, if Cp - lo0 = l.toNat then off else off + l.toNat * sz', none⟩) (hh.toNat - l.toNat) (Cp - lo0 - l.toNat), fun w' => ?_, ?_, hK⟩
      · simp only [Instr.sliceAt, Instr.slice, run_underlying hu, hb, run_sizeOf w' hj, hsz, Sem.run_bind, Sem.run_pure, Result.andThen_ok]
        by_cases hc : Cp - lo0 = l.toNat
        · simp [hc]
        · simp [hc, addr_addn]
      · rw [Nat.sub_sub]
        refine .sb _ _ _ _ _ _ _ (fun hlt => ?_) (fun hz => ?_)
        · rw [if_neg (by omega), e1 (by omega), Nat.add_mul]
        · have := e0 (by omega)
          have hl0 : l.toNat = 0 := by omega
          rw [this, hl0]
          simp
  · exact h.elim

theorem run_bounds3 {P : Program} (w : World) (len cap : Nat) (low : Option Value) (k1 k2 : IntKind) (l h m : Int) (hlow : (low = none ∧ l = 0) ∨ ∃ k, low = some (.int k l))
    (h0 : 0 ≤ l) (h1 : l ≤ h) (h2 : h ≤ m) (h3 : m ≤ cap) : (Instr.sliceBounds true len cap low (some (.int k1 h)) (some (.int k2 m))).run P w = .ok (l.toNat, h.toNat, m.toNat) w := by
  have hb : ∀ (k : IntKind) (i : Int) (y : Nat) (c : BoundsCode), 0 ≤ i → i ≤ y → (Instr.sliceBound (.int k i) y c).run P w = .ok i.toNat w := by
    intro k i y c a b
    simp only [Instr.sliceBound, asIntOf, Sem.run_bind, Sem.run_pure, Result.andThen_ok]
    rw [if_pos ⟨a, b⟩]
    rfl
  have e1 := hb k2 m cap .slice3Acap (by omega) (by omega)
  have e2 := hb k1 h m.toNat .slice3B (by omega) (by omega)
  rcases hlow with ⟨rfl, rfl⟩ | ⟨k, rfl⟩
  · simp [Instr.sliceBounds, e1, e2]
  · have e3 := hb k l h.toNat .slice3C h0 (by omega)
    simp [Instr.sliceBounds, e1, e2, e3]

theorem aslice3_sound {C : Cx} (hC : C.Ok) {t : TypeId} {x : AV} {env : List AV} {lo : Option Operand} {hi m : Operand} {K : AV → Prop} (h : aslice3 C t x env lo hi m K) {imm : Nat → Prop} {w : World} {a : Act} (he : EnvR imm w env a.tmps) {v : Value} (hx : VR imm w x v) :
    ∃ u, (∀ w', (Instr.sliceAt t v (lo.map a.eval) (some (a.eval hi)) (some (a.eval m))).run C.P w' = .ok u w') ∧ K .junk := by
  unfold aslice3 at h
  split at h
  · rename_i e sz' by_ ea zs k g Cp sz lo0 n ht
    obtain ⟨hu, j, ze, hj, hsz, _⟩ := tiOf_slice (hC.types _ _ ht)
    obtain ⟨l, h, hl⟩ := aint_run he h
    obtain ⟨hh, h, hhi⟩ := aint_run he h
    obtain ⟨mm, h, hmm⟩ := aint_run he h
    obtain ⟨h0, h1, h2, h3, hK⟩ := h
    obtain ⟨k1, hk1⟩ : ∃ k, a.eval hi = .int k hh := by
      rcases hhi with ⟨e, _⟩ | ⟨k, e⟩
      · cases e
      · exact ⟨k, by simpa using e⟩
    obtain ⟨k2, hk2⟩ : ∃ k, a.eval m = .int k mm := by
      rcases hmm with ⟨e, _⟩ | ⟨k, e⟩
      · cases e
      · exact ⟨k, by simpa using e⟩
    rw [hk1, hk2]
    cases hx with
    | sb _ _ _ _ _ _ off e1 e0 =>
      have hb := fun w' => run_bounds3 (P := C.P) w' n (Cp - lo0) (lo.map a.eval) k1 k2 l hh mm hl h0 h1 h2 (by omega)
      refine ⟨.slice (if mm.toNat = l.toNat then some ⟨g, off, none⟩ else (some (⟨g, off, none⟩ : Addr)).map (·.add (l.toNat * j.size))) (hh.toNat - l.toNat) (mm.toNat - l.toNat), fun w' => ?_, hK⟩
      simp only [Instr.sliceAt, Instr.slice, run_underlying hu, hb, run_sizeOf w' hj, Sem.run_bind, Sem.run_pure, Result.andThen_ok]
  · exact h.elim

theorem flats_drop {sz : Nat} {xs : List AV} (h : ∀ x ∈ xs, (flat x).length = sz) {l : Nat} (hl : l ≤ xs.length) : flats (xs.drop l) = (flats xs).drop (l * sz) := by
  have h4 : flats (xs.take l) ++ flats (xs.drop l) = flats xs := by rw [← flats_append, List.take_append_drop]
  have h5 : (flats (xs.take l)).length = l * sz := by
    rw [flats_length (fun x hx => h x (List.mem_of_mem_take hx)), List.length_take, Nat.min_eq_left hl]
  rw [← h4, ← h5, List.drop_left]
theorem flats_take {sz : Nat} {xs : List AV} (h : ∀ x ∈ xs, (flat x).length = sz) {l : Nat} (hl : l ≤ xs.length) : flats (xs.take l) = (flats xs).take (l * sz) := by
  have h4 : flats (xs.take l) ++ flats (xs.drop l) = flats xs := by rw [← flats_append, List.take_append_drop]
  have h5 : (flats (xs.take l)).length = l * sz := by
    rw [flats_length (fun x hx => h x (List.mem_of_mem_take hx)), List.length_take, Nat.min_eq_left hl]
  rw [← h4, ← h5, List.take_left]

theorem row_part {imm : Nat → Prop} {w : World} {g e sz Cp : Nat} {xs : List AV} (h : Holds imm w g (.row e sz Cp xs)) {lo n : Nat} (hn : lo + n ≤ xs.length) :
    ∃ news, VRs imm w (flats ((xs.drop lo).take n)) news ∧ news.length = n * sz ∧ (∀ y ∈ (xs.drop lo).take n, (flat y).length = sz) ∧ ∀ (j : Nat) (u : Value), news[j]? = some u → w.cell? ((⟨g, lo * sz, none⟩ : Addr).add j) = some u := by
  cases h with
  | row _ _ _ _ vs spare hg hs0 hsz hCC hm hxl hv =>
    have h1 := flats_drop hsz (l := lo) (by omega)
    have hsz' : ∀ y ∈ xs.drop lo, (flat y).length = sz := fun y hy => hsz y (List.mem_of_mem_drop hy)
    have h2 := flats_take hsz' (l := n) (by simp; omega)
    have hsz2 : ∀ y ∈ (xs.drop lo).take n, (flat y).length = sz := fun y hy => hsz' y (List.mem_of_mem_take hy)
    have hd := (hv.drop (lo * sz)).take (n * sz)
    rw [← h1, ← h2] at hd
    refine ⟨(vs.drop (lo * sz)).take (n * sz), hd, ?_, hsz2, fun j u hj => ?_⟩
    · rw [hd.len, flats_length hsz2, List.length_take, List.length_drop]
      congr 1
      omega
    · rw [List.getElem?_take] at hj
      split at hj
      · rw [List.getElem?_drop] at hj
        have hlt := (List.getElem?_eq_some_iff.1 hj).1
        exact cell_at hg (lo * sz) j u (by rw [List.getElem?_drop, List.getElem?_append_left hlt]; exact hj)
      · cases hj

theorem asrc_sound {imm : Nat → Prop} {w : World} {L : AHeap} (hs : Sat imm w L) {x : AV} {v : Value} (hx : VR imm w x v) {sz : Nat} {K : List AV → Prop} (h : asrc L x sz K) :
    ∃ A m c ys news, v = .slice A m c ∧ m = ys.length ∧ K ys ∧ VRs imm w (flats ys) news ∧ (∀ y ∈ ys, (flat y).length = sz) ∧ (0 < m → ∃ ad, A = some ad ∧ ∀ (j : Nat) (u : Value), news[j]? = some u → w.cell? (ad.add j) = some u) ∧ (A = none → m = 0) := by
  have tk : ∀ {xs : List AV} {vs : List Value} {n : Nat}, (∀ x ∈ xs, (flat x).length = sz) → n ≤ xs.length → VRs imm w (flats xs) vs → VRs imm w (flats (xs.take n)) (vs.take (n * sz)) := by
    intro xs vs n h1 h2 h3
    have h4 : flats (xs.take n) ++ flats (xs.drop n) = flats xs := by rw [← flats_append, List.take_append_drop]
    have h5 : (flats (xs.take n)).length = n * sz := by
      rw [flats_length (fun x hx => h1 x (List.mem_of_mem_take hx)), List.length_take, Nat.min_eq_left h2]
    have := h3.take (n * sz)
    rw [← h4, ← h5, List.take_left] at this
    rwa [h5] at this
  cases hx with
  | nils => exact ⟨none, 0, 0, [], [], rfl, rfl, h, .nil _ _, by simp, by simp, fun _ => rfl⟩
  | ro sz' xs n A cap vs hn hcap hsz hvl ha h1c hv =>
    simp only [asrc] at h
    split at h
    case isFalse => exact h.elim
    rename_i e
    subst e
    refine ⟨A, n, cap, xs.take n, vs.take (n * sz'), rfl, by simp; omega, h, tk hsz hn ⟨hvl, h1c, hv⟩, fun y hy => hsz y (List.mem_of_mem_take hy), fun hp => ?_, fun e => ?_⟩
    · obtain ⟨ad, e, _, hc⟩ := ha (by omega)
      refine ⟨ad, e, fun j u hj => hc j u ?_⟩
      rw [List.getElem?_take] at hj
      split at hj
      · exact hj
      · cases hj
    · rcases Nat.eq_zero_or_pos n with h0 | h0
      · exact h0
      · obtain ⟨ad, e', _⟩ := ha (by omega)
        rw [e] at e'; cases e'
  | sl k g Cp n =>
    simp only [asrc] at h
    split at h
    · rename_i g' e sz' C' xs hk
      obtain ⟨rfl, rfl, hn, h⟩ := h
      split at h
      case isFalse => exact h.elim
      rename_i e1
      subst e1
      cases hs.holds k g' _ hk trivial with
      | row _ _ _ _ vs spare hg hs0 hsz hCC hm hxl hv =>
        refine ⟨_, n, C', xs.take n, vs.take (n * sz'), rfl, by simp; omega, h, tk hsz hn hv, fun y hy => hsz y (List.mem_of_mem_take hy), fun _ => ⟨_, rfl, fun j u hj => ?_⟩, fun e => by cases e⟩
        have hlt : j < vs.length := by
          have := (List.getElem?_eq_some_iff.1 hj).1
          simp at this
          omega
        rw [List.getElem?_take] at hj
        split at hj
        · exact cell_at hg 0 j u (by rw [List.drop_zero, List.getElem?_append_left hlt]; exact hj)
        · cases hj
    · exact h.elim
  | sb k g Cp sz0 lo n off e1 e0 =>
    simp only [asrc] at h
    split at h
    · rename_i g' e sz' C' xs hk
      obtain ⟨rfl, rfl, hn, h⟩ := h
      split at h
      case isFalse => exact h.elim
      rename_i e2
      obtain ⟨rfl, rfl⟩ := e2
      have hh := hs.holds k g' _ hk trivial
      obtain ⟨news, a1, a2, a3, a4⟩ := row_part hh hn
      have hCx : xs.length ≤ C' := by cases hh; assumption
      refine ⟨_, n, _, (xs.drop lo).take n, news, rfl, by simp; omega, h, a1, a3, fun hp => ⟨_, rfl, fun j u hj => ?_⟩, fun e => by cases e⟩
      rw [e1 (by omega)]
      exact a4 j u hj
    · exact h.elim
  | _ => exact h.elim

theorem run_append_none {P : Program} (w : World) (t ty e : TypeId) (i : TypeInfo) (ht : P.underlying t = some (.slice e)) (hi : P.info? e = some i) (A : Option Addr) (n cap c : Nat) (hn : n ≤ cap) :
    (Builtin.append_ #[t, t] ty #[.slice A n cap, .slice none 0 c]).run P w = .ok (.slice A n cap) w := by
  cases A <;> simp [Builtin.append_, run_underlying ht, sizeOf, typeInfo, hi, Builtin.lenOf, Builtin.firstCells, hn, storeCells]

theorem owns_row {imm : Nat → Prop} {w : World} {g : Nat} {e sz Cp : Nat} {xs : List AV} (h : Holds imm w g (.row e sz Cp xs)) :
    ∃ vs, VRs imm w (flats xs) vs ∧ w.ownsRow 0 e sz (.slice (some ⟨g, 0, none⟩) xs.length Cp) xs.length vs ∧ (∀ x ∈ xs, (flat x).length = sz) := by
  cases h with
  | row _ _ _ _ vs spare hg hs0 hsz hCC hm hxl hv =>
    have hl : vs.length = xs.length * sz := by rw [hv.len, flats_length hsz]
    refine ⟨vs, hv, ⟨hl, .inr ⟨g, Cp, _, rfl, Nat.zero_le _, hg, hxl, hm, by simpa using hCC, ?_⟩⟩, hsz⟩
    rw [← hl]
    simp
theorem row_owns {imm : Nat → Prop} {w : World} {g : Nat} {e sz Cp n : Nat} {xs : List AV} {vs : List Value} (hn : n = xs.length) (h : w.ownsRow 0 e sz (.slice (some ⟨g, 0, none⟩) n Cp) n vs) (hs0 : 0 < sz) (hsz : ∀ x ∈ xs, (flat x).length = sz) (hv : VRs imm w (flats xs) vs) :
    Holds imm w g (.row e sz Cp xs) ∧ g < w.heap.size := by
  subst hn
  obtain ⟨hl, h | ⟨g', cap, cur, hv', _, hg, hnc, hcm, hcs, htake⟩⟩ := h
  · cases h.1
  · cases hv'
    have e1 : vs ++ cur.toList.drop vs.length = cur.toList := by
      conv => rhs; rw [← List.take_append_drop (xs.length * sz) cur.toList]
      rw [htake, ← hl]
    refine ⟨.row e sz Cp xs vs (cur.toList.drop vs.length) ?_ hs0 hsz ?_ hcm hnc hv, (Array.getElem?_eq_some_iff.1 hg).1⟩
    · rw [e1, Array.toArray_toList]; exact hg
    · rw [e1]; simpa using hcs

theorem VRs.grown {imm : Nat → Prop} {w w' : World} {L : AHeap} (hs : Sat imm w L) {xs : List AV} {vs : List Value} (h : VRs imm w xs vs) {row : Option Nat} (hg : w.grownBy w' row) (hrow : ∀ g, row = some g → Own L g) : VRs imm w' xs vs :=
  h.mono (fun _ x => x) (fun a ha => World.cell?_of_block (hg.block a.block (hs.immlt _ ha) (fun e => hs.far _ (hrow _ e.symm) ha)))

theorem aappend_sound {D : Prop} {P : Program} {imm : Nat → Prop} {w : World} {L : AHeap} (hs : Sat imm w L) {t ty e sz bytes : Nat} (hs0 : 0 < sz) (hb0 : 0 < bytes)
    {s : AV} {v : Value} (hv : VR imm w s v) {ys : List AV} {K : AV → AHeap → Prop} (h : aappend L e sz bytes s ys K) (hys : ∀ y ∈ ys, (flat y).length = sz)
    {news : List Value} (hnews : VRs imm w (flats ys) news) (x : Value) (t' : TypeId)
    (hrun : ∀ (v0 : Value) (n : Nat) (xs0 : List Value), w.ownsRow 0 e sz v0 n xs0 → n + ys.length ≤ maxLen → (n + ys.length) * bytes ≤ 140737488355328 →
      ∃ v' w', (Builtin.append_ #[t, t'] ty #[v0, x]).run P w = .ok v' w' ∧ w'.ownsRow 0 e sz v' (n + ys.length) (xs0 ++ news) ∧ w.grownBy w' v0.ownBlock ∧
        (v' = .slice none 0 0 ↔ v0 = .slice none 0 0 ∧ ys.length = 0) ∧ (v'.ownBlock = v0.ownBlock ∨ v'.ownBlock = some w.heap.size))
    (hroom : ∀ (g n Cp : Nat) (cur : Array Value), w.heap[g]? = some (.cells cur e (0, 0)) → cur.size = Cp * sz → n + ys.length ≤ Cp → (n + ys.length) * bytes ≤ 140737488355328 →
      ∃ w', (Builtin.append_ #[t, t'] ty #[.slice (some ⟨g, 0, none⟩) n Cp, x]).run P w = .ok (.slice (some ⟨g, 0, none⟩) (n + ys.length) Cp) w') :
    ∃ v' w' r L' , (Builtin.append_ #[t, t'] ty #[v, x]).run P w = .ok v' w' ∧ VR imm w' r v' ∧ Sat imm w' L' ∧ Tr D (Own L) imm w (Own L') imm w' ∧ K r L' := by
  have hbound : ∀ n : Nat, n * bytes ≤ 140737488355328 → n ≤ maxLen := fun n hn => by
    have := Nat.le_trans (Nat.le_mul_of_pos_right n hb0) hn
    simp only [maxLen]
    omega
  cases hv with
  | nils =>
    simp only [aappend] at h
    obtain ⟨hle, hnil, hcons⟩ := h
    obtain ⟨v', w', hr, hown, hg, hiff, hat⟩ := hrun (.slice none 0 0) 0 [] (World.ownsRow_nil w 0 e sz) (by rw [Nat.zero_add]; exact hbound _ hle) (by rw [Nat.zero_add]; exact hle)
    simp only [Nat.zero_add, List.nil_append] at hown
    have hg' : w.grownBy w' none := by simpa [Value.ownBlock] using hg
    by_cases hy : ys = []
    · have e0 : v' = .slice none 0 0 := hiff.2 ⟨rfl, by simp [hy]⟩
      subst e0
      refine ⟨_, w', _, L, hr, .nils, ?_, ?_, hnil hy⟩
      · exact ⟨fun k g o hk hl => (hs.holds k g o hk hl).mono (fun _ x => x) (fun i hi => hg'.block i (hs.immlt i hi) (by simp)) (fun i hi => hg'.block i (hs.lt i ⟨k, g, o, hk, hi⟩) (by simp)), hs.apart, hs.far, fun g h => Nat.lt_of_lt_of_le (hs.lt g h) hg'.size, fun g h => Nat.lt_of_lt_of_le (hs.immlt g h) hg'.size⟩
      · exact ⟨fun _ => run_drawn _ _ hr, hg'.os, hg'.tape, hg'.output, hg'.size, fun i hi _ => hg'.block i hi (by simp), fun _ h => h, fun _ h => .inl h, fun _ h => .inl h⟩
    · have hpos : 0 < ys.length := List.length_pos_iff.2 hy
      have hform : ∃ g cap, v' = .slice (some ⟨g, 0, none⟩) ys.length cap := by
        rcases hown.2 with ⟨_, e⟩ | ⟨g2, C2, cur, e, _⟩
        · omega
        · exact ⟨g2, C2, e⟩
      obtain ⟨g, cap, rfl⟩ := hform
      have hgg : g = w.heap.size := by
        rcases hat with h | h
        · simp [Value.ownBlock] at h
        · simpa [Value.ownBlock] using h
      subst hgg
      have hnews' := hnews.grown (w' := w') hs hg' (by simp)
      obtain ⟨hh, hlt⟩ := row_owns rfl hown hs0 hys hnews'
      exact ⟨_, w', _, _, hr, .sl _ _ _ _, hs.new hlt (fun i hi => hg'.block i hi (by simp)) hh, Tr.new (fun _ => run_drawn _ _ hr) hg' _, hcons hy _ _⟩
  | sl k g Cp n =>
    simp only [aappend] at h
    split at h
    · rename_i g' e' sz' C' xs hk
      split at h
      case isFalse => exact h.elim
      rename_i hee
      obtain ⟨rfl, rfl⟩ := hee
      obtain ⟨rfl, rfl, rfl, hle, h⟩ := h
      obtain ⟨vs, hvs, hown0, hxs⟩ := owns_row (hs.holds k g' _ hk trivial)
      obtain ⟨v', w', hr, hown, hg, hiff, hat⟩ := hrun _ _ _ hown0 (hbound _ hle) hle
      simp only [Value.ownBlock] at hg hat
      have hrow : ∀ g, some g' = some g → Own L g := fun g e => by cases e; exact ⟨k, _, _, hk, rfl⟩
      have h1 := hvs.grown (w' := w') hs hg hrow
      have h2 := hnews.grown (w' := w') hs hg hrow
      have h3 := h1.append h2
      rw [← flats_append] at h3
      have hform : ∃ g2 C2, v' = .slice (some ⟨g2, 0, none⟩) (xs.length + ys.length) C2 := by
        rcases hown.2 with ⟨e, _⟩ | ⟨g2, C2, cur, e, _⟩
        · exact absurd (hiff.1 e).1 (by simp)
        · exact ⟨g2, C2, e⟩
      obtain ⟨g2, C2, rfl⟩ := hform
      obtain ⟨hh, hlt⟩ := row_owns (xs := xs ++ ys) (by simp) hown hs0 (fun y hy => (List.mem_append.1 hy).elim (hxs y) (hys y)) h3
      have hgg : g2 = g' ∨ w.heap.size ≤ g2 ∧ g2 < w'.heap.size := by
        rcases hat with h | h
        · left; simpa [Value.ownBlock] using h
        · right
          have : g2 = w.heap.size := by simpa [Value.ownBlock] using h
          omega
      exact ⟨_, w', _, _, hr, .sl _ _ _ _, hs.turn hk trivial hg.size (fun i hi hne => hg.block i hi (by simpa using hne)) hgg hh, Tr.turn hk trivial (fun _ => run_drawn _ _ hr) hg (hgg.imp id (·.1)), h g2 C2⟩
    · exact h.elim
  | sb k g Cp sz0 lo n off e1 e0 =>
    simp only [aappend] at h
    split at h
    · rename_i g' e' sz' C' xs hk
      split at h
      case isFalse => exact h.elim
      rename_i hee
      obtain ⟨rfl, rfl, rfl⟩ := hee
      obtain ⟨rfl, rfl, rfl, hn, hle, hin, hout⟩ := h
      have hoff := e0 rfl
      subst hoff
      have hhold := hs.holds k g' _ hk trivial
      cases hhold with
      | row _ _ _ _ vs spare hg0 hs0' hsz hCC hm hxl hv =>
      have hvt := hv.take (n * sz0)
      rw [← flats_take hsz hn] at hvt
      have hvtl : (vs.take (n * sz0)).length = n * sz0 := by
        rw [hvt.len, flats_length (fun x hx => hsz x (List.mem_of_mem_take hx)), List.length_take, Nat.min_eq_left hn]
      have hvl : n * sz0 ≤ vs.length := by rw [List.length_take] at hvtl; omega
      have hown0 : w.ownsRow 0 e' sz0 (.slice (some ⟨g', 0, none⟩) n C') n (vs.take (n * sz0)) := by
        refine ⟨hvtl, .inr ⟨g', C', _, rfl, Nat.zero_le _, hg0, by omega, hm, by simpa using hCC, ?_⟩⟩
        simp [List.take_append_of_le_length hvl]
      obtain ⟨v', w', hr, hown, hg, hiff, hat⟩ := hrun _ _ _ hown0 (hbound _ hle) hle
      simp only [Value.ownBlock] at hg hat
      have hrow : ∀ g, some g' = some g → Own L g := fun g e => by cases e; exact ⟨k, _, _, hk, rfl⟩
      have h1 := hvt.grown (w' := w') hs hg hrow
      have h2 := hnews.grown (w' := w') hs hg hrow
      have h3 := h1.append h2
      rw [← flats_append] at h3
      have hform : ∃ g2 C2, v' = .slice (some ⟨g2, 0, none⟩) (n + ys.length) C2 := by
        rcases hown.2 with ⟨e, _⟩ | ⟨g2, C2, cur, e, _⟩
        · exact absurd (hiff.1 e).1 (by simp)
        · exact ⟨g2, C2, e⟩
      obtain ⟨g2, C2, rfl⟩ := hform
      have hlen : n + ys.length = (xs.take n ++ ys).length := by simp; omega
      obtain ⟨hh, hlt⟩ := row_owns (xs := xs.take n ++ ys) hlen hown hs0 (fun y hy => (List.mem_append.1 hy).elim (fun hy => hsz y (List.mem_of_mem_take hy)) (hys y)) h3
      have hgg : g2 = g' ∨ w.heap.size ≤ g2 ∧ g2 < w'.heap.size := by
        rcases hat with h | h
        · left; simpa [Value.ownBlock] using h
        · right
          have : g2 = w.heap.size := by simpa [Value.ownBlock] using h
          omega
      have hC2 : n + ys.length ≤ C2 := by cases hh; omega
      have fin : K (.sb k g2 C2 sz0 0 (n + ys.length)) (L.set k (g2, .row e' sz0 C2 (xs.take n ++ ys))) → ∃ v' w' r L', (Builtin.append_ #[t, t'] ty #[.slice (some ⟨g', 0, none⟩) n (C' - 0), x]).run P w = .ok v' w' ∧ VR imm w' r v' ∧ Sat imm w' L' ∧ Tr D (Own L) imm w (Own L') imm w' ∧ K r L' := fun hK =>
        ⟨_, w', _, _, hr, .sb k g2 C2 sz0 0 (n + ys.length) 0 (fun _ => by simp) (fun _ => rfl), hs.turn hk trivial hg.size (fun i hi hne => hg.block i hi (by simpa using hne)) hgg hh, Tr.turn hk trivial (fun _ => run_drawn _ _ hr) hg (hgg.imp id (·.1)), hK⟩
      by_cases hr0 : n + ys.length ≤ C'
      · obtain ⟨w2, hr2⟩ := hroom g' n C' _ hg0 (by simpa using hCC) hr0 hle
        rw [hr] at hr2
        simp only [Result.ok.injEq, Value.slice.injEq, Option.some.injEq, Addr.mk.injEq] at hr2
        obtain ⟨⟨⟨rfl, _⟩, _, rfl⟩, _⟩ := hr2
        exact fin (hin hr0)
      · exact fin (hout (by omega) g2 C2 hC2)
    · exact h.elim
  | _ => exact h.elim

end Go.Proofs.YtgpbppkmmlclfaaDoor.HB
/- Each of the model's operations does what the abstract one says. -/
namespace Go.Proofs.YtgpbppkmmlclfaaDoor.HB
open Go

theorem args_VR {imm : Nat → Prop} {w : World} {env : List AV} {a : Act} (he : EnvR imm w env a.tmps) (args : Array Operand) :
    (args.map a.eval).toList.length = (args.toList.map (aeval env)).length ∧ ∀ (j : Nat) (x : AV) (v : Value), (args.toList.map (aeval env))[j]? = some x → (args.map a.eval).toList[j]? = some v → VR imm w x v := by
  refine ⟨by simp, fun j x v hx hv => ?_⟩
  rw [List.getElem?_map] at hx
  rw [Array.toList_map, List.getElem?_map] at hv
  cases ho : args.toList[j]? with
  | none => simp [ho] at hx
  | some y =>
    simp [ho] at hx hv
    subst hx; subst hv
    exact aeval_VR he y

theorem Sat.fresh {imm : Nat → Prop} {w w' : World} {L : AHeap} (h : Sat imm w L) (hg : w.grownBy w' none) : Sat imm w' L :=
  ⟨fun k g o hk hl => (h.holds k g o hk hl).mono (fun _ x => x) (fun i hi => hg.block i (h.immlt i hi) (by simp)) (fun i hi => hg.block i (h.lt i ⟨k, g, o, hk, hi⟩) (by simp)), h.apart, h.far, fun g hg' => Nat.lt_of_lt_of_le (h.lt g hg') hg.size, fun g hg' => Nat.lt_of_lt_of_le (h.immlt g hg') hg.size⟩

theorem flats_drop' {sz : Nat} {xs : List AV} (h : ∀ x ∈ xs, (flat x).length = sz) (l : Nat) : flats (xs.drop l) = (flats xs).drop (l * sz) := by
  by_cases hl : l ≤ xs.length
  · exact flats_drop h hl
  · rw [List.drop_eq_nil_of_le (by omega), List.drop_eq_nil_of_le]
    · rfl
    · rw [flats_length h]
      exact Nat.mul_le_mul_right _ (by omega)

theorem flats_junk (n sz : Nat) : flats (List.replicate n (AV.agg (List.replicate sz .junk))) = List.replicate (n * sz) .junk := by
  induction n with
  | zero => simp [flats]
  | succ n ih => rw [List.replicate_succ, flats_cons, ih, Nat.succ_mul, Nat.add_comm, ← List.replicate_append_replicate]; rfl

theorem row_write {D : Prop} {imm : Nat → Prop} {w : World} {L : AHeap} (hs : Sat imm w L) {k g e sz Cp : Nat} {xs : List AV} (hk : L[k]? = some (g, .row e sz Cp xs)) {lo : Nat} (hlo : lo ≤ xs.length)
    {ys : List AV} {news : List Value} (hnv : VRs imm w (flats ys) news) (hys : ∀ y ∈ ys, (flat y).length = sz) (hfit : lo + ys.length ≤ Cp) {o' : AObj} (ho : SubO (.row e sz Cp (xs.take lo ++ ys ++ xs.drop (lo + ys.length))) o') :
    ∃ cur : Array Value, w.heap[g]? = some (.cells cur e (0, 0)) ∧ lo * sz + news.length ≤ cur.size ∧ news.length = ys.length * sz ∧
      Sat imm (w.setRow g (cur.toList.take (lo * sz) ++ news ++ cur.toList.drop (lo * sz + news.length)).toArray) (L.set k (g, o')) ∧
      Tr D (Own L) imm w (Own (L.set k (g, o'))) imm (w.setRow g (cur.toList.take (lo * sz) ++ news ++ cur.toList.drop (lo * sz + news.length)).toArray) := by
  have hfar := hs.far g ⟨k, _, _, hk, rfl⟩
  have hso : o'.solo := ho.solo trivial
  cases hs.holds k g _ hk trivial with
  | row _ _ _ _ vs spare hg hs0 hsz hCC hm hxl hv =>
    have hvl : vs.length = xs.length * sz := by rw [hv.len, flats_length hsz]
    have hnl : news.length = ys.length * sz := by rw [hnv.len, flats_length hys]
    have hm1 : lo * sz ≤ vs.length := by rw [hvl]; exact Nat.mul_le_mul_right _ hlo
    have hm2 : lo * sz + ys.length * sz ≤ Cp * sz := by rw [← Nat.add_mul]; exact Nat.mul_le_mul_right _ hfit
    have hlist : (vs ++ spare).take (lo * sz) ++ news ++ (vs ++ spare).drop (lo * sz + news.length) = (vs.take (lo * sz) ++ news ++ vs.drop ((lo + ys.length) * sz)) ++ spare.drop ((lo + ys.length) * sz - vs.length) := by
      rw [List.take_append_of_le_length hm1, hnl, ← Nat.add_mul, List.drop_append]
      simp
    have h1 := ((hv.take (lo * sz)).append hnv).append (hv.drop ((lo + ys.length) * sz))
    rw [← flats_take hsz hlo, ← flats_drop' hsz, ← flats_append, ← flats_append] at h1
    have h2 := h1.setRow hfar ((vs ++ spare).take (lo * sz) ++ news ++ (vs ++ spare).drop (lo * sz + news.length)).toArray
    have hgn : (w.setRow g ((vs ++ spare).take (lo * sz) ++ news ++ (vs ++ spare).drop (lo * sz + news.length)).toArray).heap[g]? = _ := setRow_heap w g _ _ e _ hg
    refine ⟨_, hg, by simp only [List.size_toArray]; omega, hnl, ?_, ?_⟩
    · refine hs.turn hk trivial (by simp) (fun i _ hi => setRow_other w g i _ hi) (.inl rfl) (ho.holds ?_)
      simp only at hgn ⊢
      refine .row e sz Cp _ _ (spare.drop ((lo + ys.length) * sz - vs.length)) ?_ hs0 (fun y hy => ?_) ?_ hm ?_ h2
      · rw [← hlist]; exact hgn
      · rcases List.mem_append.1 hy with hy | hy
        · rcases List.mem_append.1 hy with hy | hy
          · exact hsz y (List.mem_of_mem_take hy)
          · exact hys y hy
        · exact hsz y (List.mem_of_mem_drop hy)
      · rw [← hlist, ← hCC]
        simp only [List.length_append, List.length_take, List.length_drop]
        simp only [List.length_append] at hCC
        omega
      · simp only [List.length_append, List.length_take, List.length_drop]
        omega
    · exact Tr.turn hk trivial (fun _ => Nat.le_refl _) (grownBy_setRow w g _) (.inl rfl)

theorem run_copy_sz {P : Program} (w : World) (dT sT ty elem : TypeId) (g o dLen dCap : Nat) (a : Addr) (sLen sCap m : Nat) (cur : Array Value) (t : TypeId) (cs : List Value) (i : TypeInfo)
    (hu : P.underlying dT = some (.slice elem)) (hi : P.info? elem = some i)
    (hg : w.heap[g]? = some (.cells cur t (0, 0))) (hm : m = Nat.min sLen dLen) (hn : cs.length = m * i.size)
    (hsrc : ∀ j v, cs[j]? = some v → w.cell? (a.add j) = some v) (hfit : o + cs.length ≤ cur.size) (h1 : ∀ v ∈ cs, v.oneCell' = true) :
    (Builtin.copy_ #[dT, sT] ty #[.slice (some ⟨g, o, none⟩) dLen dCap, .slice (some a) sLen sCap]).run P w =
      .ok (goInt m) (w.setRow g (cur.toList.take o ++ cs ++ cur.toList.drop (o + cs.length)).toArray) := by
  have hl := run_firstCells_some (P := P) w i.size m a sLen sCap cs hn hsrc
  have hst := run_storeCells_at P g o t cs 0 cur w hg (by simpa using hfit) h1
  simp only [Nat.add_zero] at hst
  simp [Builtin.copy_, run_underlying hu, Builtin.lenOf, sizeOf, typeInfo, hi, ← hm, hl, hst]

theorem run_copy_zero {P : Program} (w : World) (dT sT ty elem : TypeId) (d a : Addr) (dLen dCap sLen sCap : Nat) (i : TypeInfo)
    (hu : P.underlying dT = some (.slice elem)) (hi : P.info? elem = some i) (hm : 0 = Nat.min sLen dLen) :
    (Builtin.copy_ #[dT, sT] ty #[.slice (some d) dLen dCap, .slice (some a) sLen sCap]).run P w = .ok (goInt 0) w := by
  have hl := run_firstCells_some (P := P) w i.size 0 a sLen sCap [] (by simp) (by simp)
  simp [Builtin.copy_, run_underlying hu, Builtin.lenOf, sizeOf, typeInfo, hi, ← hm, hl, storeCells]

open Go.Lib in
theorem run_append_str_at {P : Program} (w : World) (base : Nat) (t u ty e : TypeId) (i : TypeInfo) (ht : P.underlying t = some (.slice e)) (hu : P.underlying u = some .string) (hi : P.info? e = some i) (hz : i.zero = some (.int .u8 0))
    (hsize : i.size = 1) (hby : i.bytes = 1)
    (v : Value) (n : Nat) (xs : List Value) (hown : w.ownsRow base e 1 v n xs) (s : ByteArray)
    (h63 : n + s.size ≤ maxLen) (hbytes : n + s.size ≤ 140737488355328) (hbase : base ≤ w.heap.size) :
    ∃ v' w', (Builtin.append_ #[t, u] ty #[v, .string s]).run P w = .ok v' w' ∧ w'.ownsRow base e 1 v' (n + s.size) (xs ++ strCells s) ∧ w.grownBy w' v.ownBlock ∧
      (v' = .slice none 0 0 ↔ v = .slice none 0 0 ∧ s.size = 0) ∧ (v'.ownBlock = v.ownBlock ∨ v'.ownBlock = some w.heap.size) := by
  obtain ⟨v', w', hr, h1, h2, h3⟩ := run_append_own_string (P := P) w base t u ty e i ht hu hi hz hsize hby v n xs hown s h63 hbytes hbase
  refine ⟨v', w', hr, h1, h2, h3, ?_⟩
  have hsmall : n + s.size ≤ 9223372036854775807 := by simp only [maxLen] at h63; omega
  have hxl : xs.length = n := by simpa using hown.1
  rcases hown.2 with ⟨rfl, rfl⟩ | ⟨g, cap, cur, rfl, hbg, hg, hnc, hcm, hcs, htake⟩
  · by_cases hm : s.size = 0
    · exact .inl (by rw [h3.2 ⟨rfl, hm⟩])
    · have hr2 := run_append_nil_string (P := P) w t u ty e i (.int .u8 0) ht hu hi hz s (by omega) (by omega) (by rw [hby]; omega)
      rw [hr] at hr2
      simp only [Result.ok.injEq] at hr2
      exact .inr (by rw [hr2.1]; rfl)
  · by_cases hroom : n + s.size ≤ cap
    · have hcs' : cur.size = cap := by simpa using hcs
      have hr2 := run_append_room_string (P := P) w t u ty e i ht hu hi hsize g n cap cur hg s hroom (by omega)
      rw [hr] at hr2
      simp only [Result.ok.injEq] at hr2
      exact .inl (by rw [hr2.1]; rfl)
    · have holds : ∀ j u, xs[j]? = some u → w.cell? ((⟨g, 0, none⟩ : Addr).add j) = some u := hown.cells (g := g) rfl
      have hr2 := run_append_grow_string (P := P) w t u ty e i (.int .u8 0) ht hu hi hz ⟨g, 0, none⟩ n cap xs (by rw [hsize]; simpa using hxl) holds s (by omega) (by omega) (by rw [hby]; exact growslice_fits (by omega) (by omega))
      rw [hr] at hr2
      simp only [Result.ok.injEq] at hr2
      exact .inr (by rw [hr2.1]; rfl)

open Go.Lib in
theorem abuiltin_sound {C : Cx} (hC : C.Ok) {b : Builtin} {ts : Array TypeId} {args : Array Operand} {L : AHeap} {env : List AV} {K : AV → AHeap → Prop} (h : abuiltin C b ts (args.toList.map (aeval env)) L K) {imm : Nat → Prop} {w : World} {a : Act} (hs : Sat imm w L) (he : EnvR imm w env a.tmps) (ty : TypeId) (cs : Array Bool) :
    ∃ v w' r L', (builtin b ts ty cs (args.map a.eval)).run C.P w = .ok (.value v) w' ∧ VR imm w' r v ∧ Sat imm w' L' ∧ Tr C.D (Own L) imm w (Own L') imm w' ∧ K r L' := by
  unfold abuiltin at h
  split at h
  · rename_i t x hts hargs
    have hts' : ts = #[t] := by rw [← Array.toArray_toList (xs := ts), hts]
    obtain ⟨ox, hox, rfl⟩ : ∃ ox, args.toList = [ox] ∧ aeval env ox = x := by
      cases hl : args.toList with
      | nil => simp [hl] at hargs
      | cons o1 r => cases r with
        | nil => simp [hl] at hargs; exact ⟨o1, rfl, hargs⟩
        | cons => simp [hl] at hargs
    have hargs' : args.map a.eval = #[a.eval ox] := by rw [← Array.toArray_toList (xs := args.map a.eval), Array.toList_map, hox]; rfl
    have hx := aeval_VR he ox
    have fin : ∀ (n : Nat), (Builtin.len_ #[t] ty #[a.eval ox]).run C.P w = .ok (goInt n) w → K (.int .i64 n) L →
        ∃ v w' r L', (builtin .len ts ty cs (args.map a.eval)).run C.P w = .ok (.value v) w' ∧ VR imm w' r v ∧ Sat imm w' L' ∧ Tr C.D (Own L) imm w (Own L') imm w' ∧ K r L' := fun n hr hk =>
      ⟨_, w, _, L, by rw [hts', hargs']; simp [builtin, hr]; rfl, .int .i64 n, hs, Tr.refl _ _ _, hk⟩
    split at h
    · rename_i z s ht e
      rw [e] at hx
      have hu := tiOf_one (hC.types _ _ ht)
      generalize a.eval ox = v at *
      cases hx
      exact fin _ (by simp [Builtin.len_, run_underlying hu]) h
    · rename_i e' sz by_ ea zs k g Cp n ht e
      rw [e] at hx
      have hu := (tiOf_slice (hC.types _ _ ht)).1
      generalize a.eval ox = v at *
      cases hx
      exact fin _ (by simp [Builtin.len_, run_underlying hu]) h
    · rename_i e' sz by_ ea zs sz' xs n ht e
      rw [e] at hx
      have hu := (tiOf_slice (hC.types _ _ ht)).1
      generalize a.eval ox = v at *
      cases hx
      exact fin _ (by simp [Builtin.len_, run_underlying hu]) h
    · rename_i e' sz by_ ea zs k g Cp sz0 lo n ht e
      rw [e] at hx
      have hu := (tiOf_slice (hC.types _ _ ht)).1
      generalize a.eval ox = v at *
      cases hx
      exact fin _ (by simp [Builtin.len_, run_underlying hu]) h
    · rename_i e' sz by_ ea zs ht e
      rw [e] at hx
      have hu := (tiOf_slice (hC.types _ _ ht)).1
      generalize a.eval ox = v at *
      cases hx
      exact fin 0 (by simp [Builtin.len_, run_underlying hu]) h
    · exact h.elim
  · rename_i t t' s x hts hargs
    have hts' : ts = #[t, t'] := by rw [← Array.toArray_toList (xs := ts), hts]
    obtain ⟨os, ox, hox, rfl, rfl⟩ : ∃ os ox, args.toList = [os, ox] ∧ aeval env os = s ∧ aeval env ox = x := by
      cases hl : args.toList with
      | nil => simp [hl] at hargs
      | cons o1 r => cases r with
        | nil => simp [hl] at hargs
        | cons o2 r => cases r with
          | nil => simp [hl] at hargs; exact ⟨o1, o2, rfl, hargs.1, hargs.2⟩
          | cons => simp [hl] at hargs
    have hargs' : args.map a.eval = #[a.eval os, a.eval ox] := by rw [← Array.toArray_toList (xs := args.map a.eval), Array.toList_map, hox]; rfl
    have hvs := aeval_VR he os
    have hvx := aeval_VR he ox
    split at h
    case h_2 => exact h.elim
    rename_i e sz by_ ea zs ht
    obtain ⟨hu, j, ze, hj, hsz, hby, hze, hzs, hs0, _, _⟩ := tiOf_slice (hC.types _ _ ht)
    split at h
    · exact h.elim
    rename_i hb0
    split at h
    · rename_i e2
      subst e2
      obtain ⟨A, m, c, ys, news, ex, hm, h, hnv, hys, hA, hAn⟩ := asrc_sound hs hvx h
      subst hm
      obtain ⟨v', w', r, L', hr, hrest⟩ := aappend_sound (P := C.P) (t := t) (ty := ty) hs hs0 (by omega) hvs h hys hnv (a.eval ox) t (fun v0 n xs0 hown h63 hbytes => by
        rw [ex]
        rcases Nat.eq_zero_or_pos ys.length with h0 | h0
        · have hy0 : ys = [] := List.eq_nil_of_length_eq_zero h0
          subst hy0
          have hn0 : news = [] := by
            have := hnv.len
            simpa [flats] using this
          subst hn0
          cases A with
          | none =>
            obtain ⟨A0, c0, hv0, hle0⟩ : ∃ A0 c0, v0 = .slice A0 n c0 ∧ n ≤ c0 := by
              rcases hown.2 with ⟨e, e'⟩ | ⟨g, cap, cur, e, _, _, hnc, _⟩
              · subst e'; exact ⟨_, _, e, Nat.le_refl _⟩
              · exact ⟨_, _, e, hnc⟩
            subst hv0
            exact ⟨_, w, run_append_none w t ty e j hu hj _ _ _ _ hle0, by simpa using hown, ⟨rfl, rfl, rfl, Nat.le_refl _, fun _ _ _ => rfl⟩, by simp, .inl rfl⟩
          | some ad =>
            exact run_append_own_at (P := C.P) w 0 t ty e j ze sz by_ hu hj hze hsz hby hzs hs0 v0 n xs0 hown ad [].length c [] (by simp) (by simp) (by simp) h63 hbytes (Nat.zero_le _)
        · obtain ⟨ad, rfl, hc⟩ := hA h0
          exact run_append_own_at (P := C.P) w 0 t ty e j ze sz by_ hu hj hze hsz hby hzs hs0 v0 n xs0 hown ad ys.length c news (by rw [hnv.len, flats_length hys]) hc hnv.one h63 hbytes (Nat.zero_le _))
        (fun g n Cp cur hg hcs hroom _ => by
          rw [ex]
          have hnl : news.length = ys.length * j.size := by rw [hnv.len, flats_length hys, hsz]
          have hfit : n * j.size + news.length ≤ cur.size := by rw [hnl, hcs, hsz, ← Nat.add_mul]; exact Nat.mul_le_mul_right _ hroom
          cases A with
          | none =>
            have h0 := hAn rfl
            rw [h0] at hroom ⊢
            exact ⟨w, by rw [Nat.add_zero]; exact run_append_none w t ty e j hu hj _ _ _ _ (by omega)⟩
          | some ad =>
            have hc : ∀ (q : Nat) (u : Value), news[q]? = some u → w.cell? (ad.add q) = some u := by
              rcases Nat.eq_zero_or_pos ys.length with h0 | h0
              · intro q u hq
                have : news = [] := List.eq_nil_of_length_eq_zero (by rw [hnl, h0]; simp)
                simp [this] at hq
              · obtain ⟨ad', e', hc⟩ := hA h0
                cases e'
                exact hc
            exact ⟨_, run_append_room (P := C.P) w t ty e j hu hj g n Cp cur hg ad ys.length c news hnl hc hnv.one hroom hfit⟩)
      exact ⟨v', w', r, L', by rw [hts', hargs']; simp [builtin, hr], hrest⟩
    · split at h
      case h_3 => exact h.elim
      case h_2 =>
        rename_i e1 s1 b1 a1 z1 z2 n ht1 ht2 e2
        split at h
        case h_3 => exact h.elim
        case h_2 =>
          rename_i k g Cp sz0 lo m e3
          split at h
          case h_2 => exact h.elim
          rename_i g' e' sz' C' xs hk
          split at h
          case isFalse => exact h.elim
          rename_i hee
          obtain ⟨rfl, rfl, rfl⟩ := hee
          obtain ⟨rfl, rfl, rfl, hm, h0, hlt, hle, hK⟩ := h
          rw [e2] at hvx
          rw [e3] at hvs
          generalize a.eval ox = vx at *
          generalize a.eval os = vs at *
          cases hvx
          cases hvs with
          | sb _ _ _ _ _ _ off e1' e0' =>
          have hoff := e0' rfl
          subst hoff
          obtain ⟨q, rfl⟩ : ∃ q : Nat, n = (q : Int) := ⟨n.toNat, by omega⟩
          have hq0 : 0 < q := by omega
          have hle' : (m + q) * by_ ≤ 140737488355328 := by
            have h5 := hle
            rw [← Int.natCast_add, ← Int.natCast_mul] at h5
            omega
          have hmm : m + q ≤ 140737488355328 := Nat.le_trans (Nat.le_mul_of_pos_right _ (by omega)) hle'
          have hqb : q * by_ ≤ 140737488355328 := Nat.le_trans (Nat.mul_le_mul_right _ (by omega)) hle'
          obtain ⟨olds, b1, b2, b3, b4⟩ := row_part (hs.holds k g' _ hk trivial) (lo := 0) (n := m) (by omega)
          rw [List.drop_zero] at b1 b3
          have hold : (Builtin.firstCells j.size m (.slice (some ⟨g', 0, none⟩) m C')).run C.P w.drew = .ok olds.toArray w.drew :=
            run_firstCells_some (P := C.P) w.drew j.size m ⟨g', 0, none⟩ m C' olds (by rw [b2, hsz]) (fun q u hq => by have := b4 q u hq; simpa using this)
          have hr := Lib.run_append_grow_zeros (P := C.P) w t t' ty e' j ze .i64 .i64 hu (tiOf_one (hC.types _ _ ht2)) hj hze (some ⟨g', 0, none⟩) m C' olds hold q hq0 (by omega) (by omega) (by omega) (by rw [hby]; omega) (by rw [hby]; exact growslice_fits (by omega) (by omega))
          have hg : w.grownBy (w.drew.alloc (.cells (olds.toArray ++ Builtin.zeroCells ze.cells q ++ Builtin.zeroCells ze.cells (grownCap w (m + q) C' e' - (m + q))) e')) none := by
            have := World.grownBy_alloc w.drew (.cells (olds.toArray ++ Builtin.zeroCells ze.cells q ++ Builtin.zeroCells ze.cells (grownCap w (m + q) C' e' - (m + q))) e') none
            exact ⟨this.os, this.tape, this.output, this.size, this.block⟩
          have hge := grownCap_ge w (m + q) C' e'
          refine ⟨_, _, .sb L.length w.heap.size (grownCap w (m + q) C' e') sz0 0 (m + q), _, by rw [hts', hargs']; simp only [builtin, hr, Sem.run_bind, Result.andThen_ok, Nat.sub_zero]; rfl, .sb _ _ _ _ _ _ 0 (fun _ => by simp) (fun _ => rfl), Sat.new (o := .row e' sz0 (grownCap w (m + q) C' e') (xs.take m)) hs ?_ (fun i hi => hg.block i hi (by simp)) ?_, Tr.new (fun _ => Nat.le_succ _) hg _, by simpa using hK _ _ hge⟩
          · show w.heap.size < (w.drew.heap.push _).size
            rw [Array.size_push]
            exact Nat.lt_succ_self _
          · refine .row e' sz0 _ _ olds ((Builtin.zeroCells ze.cells q).toList ++ (Builtin.zeroCells ze.cells (grownCap w (m + q) C' e' - (m + q))).toList) ?_ (by omega) b3 ?_ (grownCap_le_maxLen _ _ _ _ (by simp only [maxLen]; omega)) (by rw [List.length_take]; omega) (b1.grown hs hg (by simp))
            · have e5 : olds ++ ((Builtin.zeroCells ze.cells q).toList ++ (Builtin.zeroCells ze.cells (grownCap w (m + q) C' e' - (m + q))).toList) = (olds.toArray ++ Builtin.zeroCells ze.cells q ++ Builtin.zeroCells ze.cells (grownCap w (m + q) C' e' - (m + q))).toList := by simp
              rw [e5, Array.toArray_toList]
              exact heap_alloc_new w.drew _
            · simp only [List.length_append, Array.length_toList, size_zeroCells, hzs, b2, ← Nat.add_mul]
              congr 1
              omega
        rename_i e3
        obtain ⟨h0, hle, hk⟩ := h
        rw [e2] at hvx
        rw [e3] at hvs
        generalize a.eval ox = vx at *
        generalize a.eval os = vs at *
        cases hvx
        cases hvs
        obtain ⟨m, rfl⟩ : ∃ m : Nat, n = (m : Int) := ⟨n.toNat, by omega⟩
        have hm0 : 0 < m := by omega
        have hle' : m * by_ ≤ 140737488355328 := by have := hle; rw [← Int.natCast_mul] at this; omega
        have hmm : m ≤ 140737488355328 := Nat.le_trans (Nat.le_mul_of_pos_right m (by omega)) hle'
        have hr := run_append_nil_zeros (P := C.P) w t t' ty e j ze .i64 .i64 hu (tiOf_one (hC.types _ _ ht2)) hj hze m hm0 (by omega) (by omega) (by rw [hby]; omega)
        have hg : w.grownBy (w.drew.alloc (.cells (Builtin.zeroCells ze.cells m ++ Builtin.zeroCells ze.cells (grownCap w m 0 e - m)) e)) none := by
          have := World.grownBy_alloc w.drew (.cells (Builtin.zeroCells ze.cells m ++ Builtin.zeroCells ze.cells (grownCap w m 0 e - m)) e) none
          exact ⟨this.os, this.tape, this.output, this.size, this.block⟩
        refine ⟨_, _, .sl L.length w.heap.size (grownCap w m 0 e) m, _, by rw [hts', hargs']; simp only [builtin, hr, Sem.run_bind, Result.andThen_ok]; rfl, .sl _ _ _ _, Sat.new (o := .row e sz (grownCap w m 0 e) []) hs ?_ (fun i hi => hg.block i hi (by simp)) ?_, Tr.new (fun _ => Nat.le_succ _) hg _, hk _ _⟩
        · show w.heap.size < (w.drew.heap.push _).size
          rw [Array.size_push]
          exact Nat.lt_succ_self _
        · refine .row e sz _ [] [] ((Builtin.zeroCells ze.cells m).toList ++ (Builtin.zeroCells ze.cells (grownCap w m 0 e - m)).toList) ?_ (by omega) (by simp) ?_ (grownCap_le_maxLen _ _ _ _ (by simp only [maxLen]; omega)) (by simp) (.nil _ _)
          · rw [List.nil_append, ← Array.toList_append, Array.toArray_toList]
            exact heap_alloc_new w.drew _
          · simp only [List.nil_append, List.length_append, Array.length_toList, size_zeroCells, hzs, ← Nat.add_mul]
            have := grownCap_ge w m 0 e
            congr 1
            omega
      rename_i t1 e1 z1 u ht1 ht2 e2
      rw [ht] at ht1
      simp only [Option.some.injEq, TI.slice.injEq] at ht1
      obtain ⟨rfl, rfl, rfl, rfl, hz1⟩ := ht1
      obtain ⟨_, j', ze', hj', hsz', hby', hze', hzs', _, hzz, _, _, hone⟩ := tiOf_slice (hC.types _ _ ht)
      have hu2 := tiOf_one (hC.types _ _ ht2)
      rw [e2] at hvx
      generalize hvv : a.eval ox = v at *
      cases hvx
      have hz8 : ze' = .int .u8 0 := by
        have h1 := hone rfl
        rw [hz1] at hzz
        have h2 : ze'.cells = #[ze'] := by cases ze' <;> first | rfl | cases h1
        rw [h2] at hzz
        simp at hzz
        unfold ofV at hzz
        split at hzz <;> simp_all
      subst hz8
      have hnews : VRs imm w (flats (bytesA u)) (strCells u) := by
        have : flats (bytesA u) = (strCells u).map ofV := by
          unfold bytesA flats strCells
          generalize u.data.toList = l
          induction l with
          | nil => rfl
          | cons b l ih => simpa [flat, ofV] using ih
        rw [this]
        exact map_ofV_VRs imm w _ (strCells_oneCell u)
      have hlenb : (bytesA u).length = u.size := by rw [bytesA, List.length_map, Array.length_toList]; rfl
      obtain ⟨v', w', r, L', hr, hrest⟩ := aappend_sound (P := C.P) (t := t) (ty := ty) hs (by omega) (by omega) hvs h (fun y hy => by simp [bytesA] at hy; obtain ⟨b, _, rfl⟩ := hy; rfl) hnews (.string u) t' (fun v0 n xs0 hown h63 hbytes => by
        rw [hlenb] at h63 hbytes ⊢
        exact run_append_str_at (P := C.P) w 0 t t' ty e j' hu hu2 hj' hze' hsz' hby' v0 n xs0 hown u h63 (by omega) (Nat.zero_le _))
        (fun g n Cp cur hg hcs hroom _ => by
          rw [hlenb] at hroom ⊢
          exact ⟨_, Lib.run_append_room_string (P := C.P) w t t' ty e j' hu hu2 hj' hsz' g n Cp cur hg u hroom (by omega)⟩)
      exact ⟨v', w', r, L', by rw [hts', hargs']; simp [builtin, hr], hrest⟩
  · rename_i t1 t2 k x k' y hts hargs
    obtain ⟨o1, o2, hox, e1, e2⟩ : ∃ o1 o2, args.toList = [o1, o2] ∧ aeval env o1 = .int k x ∧ aeval env o2 = .int k' y := by
      cases hl : args.toList with
      | nil => simp [hl] at hargs
      | cons o1 r => cases r with
        | nil => simp [hl] at hargs
        | cons o2 r => cases r with
          | nil => simp [hl] at hargs; exact ⟨o1, o2, rfl, hargs.1, hargs.2⟩
          | cons => simp [hl] at hargs
    have hargs' : args.map a.eval = #[a.eval o1, a.eval o2] := by rw [← Array.toArray_toList (xs := args.map a.eval), Array.toList_map, hox]; rfl
    have h1 := aeval_VR he o1
    have h2 := aeval_VR he o2
    rw [e1] at h1
    rw [e2] at h2
    generalize a.eval o1 = u at *
    generalize a.eval o2 = v at *
    cases h1
    cases h2
    split at h
    case isFalse => exact h.elim
    rename_i hkk
    subst hkk
    exact ⟨_, w, _, L, by rw [hargs']; simp only [builtin, Sem.run_bind, run_min_int2 w ts ty k k x y, Result.andThen_ok]; rfl, .int k _, hs, Tr.refl _ _ _, h _ rfl⟩
  · rename_i t1 t2 k x k' y hts hargs
    obtain ⟨o1, o2, hox, e1, e2⟩ : ∃ o1 o2, args.toList = [o1, o2] ∧ aeval env o1 = .int k x ∧ aeval env o2 = .int k' y := by
      cases hl : args.toList with
      | nil => simp [hl] at hargs
      | cons o1 r => cases r with
        | nil => simp [hl] at hargs
        | cons o2 r => cases r with
          | nil => simp [hl] at hargs; exact ⟨o1, o2, rfl, hargs.1, hargs.2⟩
          | cons => simp [hl] at hargs
    have hargs' : args.map a.eval = #[a.eval o1, a.eval o2] := by rw [← Array.toArray_toList (xs := args.map a.eval), Array.toList_map, hox]; rfl
    have h1 := aeval_VR he o1
    have h2 := aeval_VR he o2
    rw [e1] at h1
    rw [e2] at h2
    generalize a.eval o1 = u at *
    generalize a.eval o2 = v at *
    cases h1
    cases h2
    split at h
    case isFalse => exact h.elim
    rename_i hkk
    subst hkk
    exact ⟨_, w, _, L, by rw [hargs']; simp only [builtin, Sem.run_bind, run_max_int2 w ts ty k k x y, Result.andThen_ok]; rfl, .int k _, hs, Tr.refl _ _ _, h _ rfl⟩
  · rename_i t x hts hargs
    have hts' : ts = #[t] := by rw [← Array.toArray_toList (xs := ts), hts]
    obtain ⟨ox, hox, rfl⟩ : ∃ ox, args.toList = [ox] ∧ aeval env ox = x := by
      cases hl : args.toList with
      | nil => simp [hl] at hargs
      | cons o1 r => cases r with
        | nil => simp [hl] at hargs; exact ⟨o1, rfl, hargs⟩
        | cons => simp [hl] at hargs
    have hargs' : args.map a.eval = #[a.eval ox] := by rw [← Array.toArray_toList (xs := args.map a.eval), Array.toList_map, hox]; rfl
    have hx := aeval_VR he ox
    have fin : ∀ (n : Nat), (Builtin.cap_ #[t] ty #[a.eval ox]).run C.P w = .ok (goInt n) w → K (.int .i64 n) L →
        ∃ v w' r L', (builtin .cap ts ty cs (args.map a.eval)).run C.P w = .ok (.value v) w' ∧ VR imm w' r v ∧ Sat imm w' L' ∧ Tr C.D (Own L) imm w (Own L') imm w' ∧ K r L' := fun n hr hk =>
      ⟨_, w, _, L, by rw [hts', hargs']; simp [builtin, hr]; rfl, .int .i64 n, hs, Tr.refl _ _ _, hk⟩
    split at h
    · rename_i e' sz by_ ea zs k g Cp n ht e
      rw [e] at hx
      have hu := (tiOf_slice (hC.types _ _ ht)).1
      generalize a.eval ox = v at *
      cases hx
      exact fin _ (by simp [Builtin.cap_, run_underlying hu]) h
    · rename_i e' sz by_ ea zs ht e
      rw [e] at hx
      have hu := (tiOf_slice (hC.types _ _ ht)).1
      generalize a.eval ox = v at *
      cases hx
      exact fin 0 (by simp [Builtin.cap_, run_underlying hu]) h
    · rename_i e' sz by_ ea zs k g Cp sz0 lo n ht e
      rw [e] at hx
      have hu := (tiOf_slice (hC.types _ _ ht)).1
      generalize a.eval ox = v at *
      cases hx
      exact fin _ (by simp [Builtin.cap_, run_underlying hu]) h
    · exact h.elim
  · -- copy
    rename_i t t' d x hts hargs
    have hts' : ts = #[t, t'] := by rw [← Array.toArray_toList (xs := ts), hts]
    obtain ⟨od, ox, hox, rfl, rfl⟩ : ∃ od ox, args.toList = [od, ox] ∧ aeval env od = d ∧ aeval env ox = x := by
      cases hl : args.toList with
      | nil => simp [hl] at hargs
      | cons o1 r => cases r with
        | nil => simp [hl] at hargs
        | cons o2 r => cases r with
          | nil => simp [hl] at hargs; exact ⟨o1, o2, rfl, hargs.1, hargs.2⟩
          | cons => simp [hl] at hargs
    have hargs' : args.map a.eval = #[a.eval od, a.eval ox] := by rw [← Array.toArray_toList (xs := args.map a.eval), Array.toList_map, hox]; rfl
    have hvd := aeval_VR he od
    have hvx := aeval_VR he ox
    split at h
    case h_2 => exact h.elim
    rename_i e sz by_ ea zs k g Cp sz0 lo n k' g' Cp' sz0' lo' n' ht e1 e2
    split at h
    case h_2 => exact h.elim
    rename_i hg1 e3 sz1 C1 xs hg2 e4 sz2 C2 xs' hk hk'
    split at h
    case isFalse => exact h.elim
    rename_i hee
    obtain ⟨rfl, rfl, rfl, rfl, rfl⟩ := hee
    obtain ⟨rfl, rfl, rfl, rfl, hlo, hfit, hsrc, hK⟩ := h _ rfl
    rw [e1] at hvd
    rw [e2] at hvx
    generalize a.eval od = vd at *
    generalize a.eval ox = vx at *
    obtain ⟨hu, j, ze, hj, hsz, hby, hze, hzs, hs0, _, _⟩ := tiOf_slice (hC.types _ _ ht)
    cases hvd with
    | sb _ _ _ _ _ _ off f1 f0 =>
    cases hvx with
    | sb _ _ _ _ _ _ off' f1' f0' =>
    generalize hm : min n' n = m at *
    have hlt' : xs'.length ≤ C2 := by cases hs.holds k' _ _ hk' trivial; assumption
    obtain ⟨news, b1, b2, b3, b4⟩ := row_part (hs.holds k' _ _ hk' trivial) hsrc
    have hml : ((xs'.drop lo').take m).length = m := by simp; omega
    rcases Nat.eq_zero_or_pos m with h0 | h0
    · subst h0
      refine ⟨_, w, _, L, by rw [hts', hargs']; simp only [builtin, run_copy_zero w t t' ty e3 _ _ n _ n' _ j hu hj hm.symm, Sem.run_bind, Result.andThen_ok]; rfl, .int .i64 0, hs, Tr.refl _ _ _, ?_⟩
      have e5 : xs.take lo ++ (xs'.drop lo').take 0 ++ xs.drop (lo + 0) = xs := by simp
      rw [e5] at hK
      have e6 : L.set k (hg1, .row e3 sz0' C1 xs) = L := by
        apply List.ext_getElem?
        intro i
        rw [List.getElem?_set]
        split
        · rename_i hi
          subst hi
          rw [hk]
          split
          · rfl
          · rename_i hi2
            exact absurd (List.getElem?_eq_some_iff.1 hk).1 hi2
        · rfl
      rw [e6] at hK
      exact hK
    · obtain ⟨cur, c1, c2, c3, c4, c5⟩ := row_write hs hk hlo b1 b3 (by rw [hml]; exact hfit) (SubO.rowR _ _ _ _)
      rw [hml] at c3 c4 c5
      have hr := run_copy_sz (P := C.P) w t t' ty e3 hg1 (lo * sz0') n (C1 - lo) ⟨hg2, lo' * sz0', none⟩ n' (C2 - lo') m cur e3 news j hu hj c1 hm.symm (by rw [b2, hsz]) b4 c2 b1.one
      have g1 : off = lo * sz0' := f1 (by omega)
      have g2 : off' = lo' * sz0' := f1' (by omega)
      subst g1
      subst g2
      exact ⟨_, _, _, _, by rw [hts', hargs']; simp only [builtin, hr, Sem.run_bind, Result.andThen_ok]; rfl, .int .i64 m, c4, c5, hK⟩
  · -- clear
    rename_i t x hts hargs
    have hts' : ts = #[t] := by rw [← Array.toArray_toList (xs := ts), hts]
    obtain ⟨ox, hox, rfl⟩ : ∃ ox, args.toList = [ox] ∧ aeval env ox = x := by
      cases hl : args.toList with
      | nil => simp [hl] at hargs
      | cons o1 r => cases r with
        | nil => simp [hl] at hargs; exact ⟨o1, rfl, hargs⟩
        | cons => simp [hl] at hargs
    have hargs' : args.map a.eval = #[a.eval ox] := by rw [← Array.toArray_toList (xs := args.map a.eval), Array.toList_map, hox]; rfl
    have hvx := aeval_VR he ox
    split at h
    case h_2 => exact h.elim
    rename_i e sz by_ ea zs k g Cp sz0 lo n ht e1
    split at h
    case h_2 => exact h.elim
    rename_i hg1 e3 sz1 C1 xs hk
    split at h
    case isFalse => exact h.elim
    rename_i hee
    obtain ⟨rfl, rfl, rfl⟩ := hee
    obtain ⟨rfl, rfl, hlo, hfit, hK⟩ := h
    rw [e1] at hvx
    generalize a.eval ox = vx at *
    obtain ⟨hu, j, ze, hj, hsz, hby, hze, hzs, hs0, hzo, hz1, _⟩ := tiOf_slice (hC.types _ _ ht)
    cases hvx with
    | sb _ _ _ _ _ _ off f1 f0 =>
    rcases Nat.eq_zero_or_pos n with h0 | h0
    · subst h0
      refine ⟨.tuple #[], w, .junk, _, by rw [hts', hargs']; simp [builtin, Builtin.clear_, run_underlying hu], .junk _, ?_, ?_, hK⟩
      · exact hs.turn hk trivial (Nat.le_refl _) (fun _ _ _ => rfl) (.inl rfl) ((SubO.rowT _ _ _ _ lo).holds (hs.holds k _ _ hk trivial))
      · exact Tr.turn hk trivial (fun _ => Nat.le_refl _) ⟨rfl, rfl, rfl, Nat.le_refl _, fun _ _ _ => rfl⟩ (.inl rfl)
    · have hzc1 : ∀ u ∈ (Builtin.zeroCells ze.cells n).toList, u.oneCell' = true := by
        intro u hu'
        simp only [Builtin.zeroCells, Array.toList_map, List.mem_map] at hu'
        obtain ⟨i, _, rfl⟩ := hu'
        have hlt : i % ze.cells.size < ze.cells.size := Nat.mod_lt _ (by omega)
        rw [getElem!_pos ze.cells _ hlt]
        exact hz1 _ (by simp)
      have hflat := flats_junk n sz0
      have hVRs : VRs imm w (flats (List.replicate n (AV.agg (List.replicate sz0 .junk)))) (Builtin.zeroCells ze.cells n).toList := by
        rw [hflat]
        refine ⟨by simp [size_zeroCells, hzs], hzc1, fun i y u hy hu' => ?_⟩
        rw [List.getElem?_replicate] at hy
        split at hy
        · cases hy; exact .junk _
        · cases hy
      have htk : (xs.take lo ++ List.replicate n (AV.agg (List.replicate sz0 .junk)) ++ xs.drop (lo + (List.replicate n (AV.agg (List.replicate sz0 .junk))).length)).take lo = xs.take lo := by
        have e9 : (xs.take lo).length = lo := by rw [List.length_take]; omega
        rw [List.append_assoc, List.take_append_of_le_length (by omega), List.take_take, Nat.min_self]
      have hsub := SubO.rowT e3 sz0 C1 (xs.take lo ++ List.replicate n (AV.agg (List.replicate sz0 .junk)) ++ xs.drop (lo + (List.replicate n (AV.agg (List.replicate sz0 .junk))).length)) lo
      rw [htk] at hsub
      obtain ⟨cur, c1, c2, c3, c4, c5⟩ := row_write hs hk hlo hVRs (fun y hy => by rw [List.eq_of_mem_replicate hy]; simp [flat]) (by simpa using hfit) hsub
      have g1 : off = lo * sz0 := f1 (by omega)
      subst g1
      have hst := run_storeCells_at C.P hg1 (lo * sz0) e3 _ 0 cur w c1 (by simpa using c2) hzc1
      obtain ⟨n1, rfl⟩ : ∃ n1, n = n1 + 1 := ⟨n - 1, by omega⟩
      have hzv : ∀ w', (zeroValue e3).run C.P w' = .ok ze w' := fun w' => by simp [zeroValue, typeInfo, hj, hze]
      exact ⟨.tuple #[], _, .junk, _, by rw [hts', hargs']; simp [builtin, Builtin.clear_, run_underlying hu, hzv, hst], .junk _, c4, c5, hK⟩
  · exact h.elim

end Go.Proofs.YtgpbppkmmlclfaaDoor.HB
/- Every operation of the model does what the abstract one says. -/
namespace Go.Proofs.YtgpbppkmmlclfaaDoor.HB
open Go

theorem run_field_part {P : Program} (w : World) {t : TypeId} {i : TypeInfo} {d : TypeDesc} (hi : P.info? t = some i) (hd : P.underlying t = some d) (cs : Array Value) (off : Nat) :
    (part t cs off).run P w = if aggD d then .ok (.agg (cs.extract off (off + i.size))) w else (match cs[off]? with
      | some v => .ok v w
      | none => (stuck "part: no such cell" : Sem Value).run P w) := by
  unfold part
  rw [Sem.run_bind, run_isAgg w hd, Result.andThen_ok]
  split
  · rw [Sem.run_bind, run_sizeOf w hi]; rfl
  · cases hc : cs[off]? <;> rfl

theorem partsOk_spec {sz : Nat} {imm : Nat → Prop} {w : World} : ∀ (ps : List (Nat × AV)) (vs : List Value) (j : Nat), partsOk sz ps j = true → vs.length = ps.length →
    (∀ (k : Nat) (p : Nat × AV) (v : Value), ps[k]? = some p → vs[k]? = some v → VR imm w p.2 v) →
    (ps.map (·.1) = List.range' j ps.length) ∧ (∀ p ∈ ps, (flat p.2).length = sz) ∧ (∀ v ∈ vs, v.cells.size = sz) ∧ VRs imm w (flats (ps.map (·.2))) (vs.flatMap fun v => v.cells.toList)
  | [], vs, j, _, hl, _ => by
    have : vs = [] := List.eq_nil_of_length_eq_zero (by simpa using hl)
    subst this
    exact ⟨rfl, by simp, by simp, .nil _ _⟩
  | (i, x) :: ps, [], j, _, hl, _ => by simp at hl
  | (i, x) :: ps, v :: vs, j, h, hl, hv => by
    simp only [partsOk, Bool.and_eq_true, beq_iff_eq] at h
    obtain ⟨⟨rfl, hc⟩, h⟩ := h
    split at hc
    case h_2 => cases hc
    rename_i c hcc
    have hx := hv 0 _ _ rfl rfl
    have hf := cellsA_flat hcc
    have h1 := cellsA_VRs hx hcc
    have hcl : c.length = sz := by simpa using hc
    obtain ⟨a1, a2, a3, a4⟩ := partsOk_spec ps vs (i + 1) h (by simpa using hl) (fun k p u hp hu => hv (k + 1) p u (by simpa using hp) (by simpa using hu))
    refine ⟨by simp [a1, List.range'_succ], fun p hp => ?_, fun u hu => ?_, ?_⟩
    · rcases List.mem_cons.1 hp with rfl | hp
      · rw [hf]; exact hcl
      · exact a2 p hp
    · rcases List.mem_cons.1 hu with rfl | hu
      · have := h1.len; rw [Array.length_toList] at this; omega
      · exact a3 u hu
    · rw [List.map_cons, flats_cons, List.flatMap_cons, hf]
      exact h1.append a4

def Same (imm : Nat → Prop) (L : AHeap) (w w' : World) : Prop := ∀ g, imm g ∨ Own L g → w'.heap[g]? = w.heap[g]?
def isLoad : Op → Bool
  | .load .. | .lookup .. => true
  | _ => false
def movA : Op → Bool
  | .move _ | .assign _ | .pick .. | .load .. | .nilCheck _ | .binOp .. | .unOp .. | .fieldAddr .. | .field .. | .build .. | .index .. | .indexAddr .. | .slice .. | .extract .. | .convert .. => true
  | .lookup .. => true
  | .call { callee := .builtin .len, .. } => true
  | _ => false

theorem alen_sound {C : Cx} (hC : C.Ok) {ts : Array TypeId} {args : Array Operand} {L : AHeap} {env : List AV} {K : AV → AHeap → Prop} (h : abuiltin C .len ts (args.toList.map (aeval env)) L K) {imm : Nat → Prop} {w : World} {a : Act} (he : EnvR imm w env a.tmps) :
    ∃ v r, (∀ w' (ty : TypeId) (cs : Array Bool), (builtin .len ts ty cs (args.map a.eval)).run C.P w' = .ok (.value v) w') ∧ VR imm w r v ∧ K r L := by
  unfold abuiltin at h
  split at h
  · rename_i t x hb hts hargs
    have hts' : ts = #[t] := by rw [← Array.toArray_toList (xs := ts), hts]
    obtain ⟨ox, hox, rfl⟩ : ∃ ox, args.toList = [ox] ∧ aeval env ox = x := by
      cases hl : args.toList with
      | nil => simp [hl] at hargs
      | cons o1 r => cases r with
        | nil => simp [hl] at hargs; exact ⟨o1, rfl, hargs⟩
        | cons => simp [hl] at hargs
    have hargs' : args.map a.eval = #[a.eval ox] := by rw [← Array.toArray_toList (xs := args.map a.eval), Array.toList_map, hox]; rfl
    have hx := aeval_VR he ox
    have fin : ∀ (n : Nat), (∀ w' ty, (Builtin.len_ #[t] ty #[a.eval ox]).run C.P w' = .ok (goInt n) w') → K (.int .i64 n) L →
        ∃ v r, (∀ w' (ty : TypeId) (cs : Array Bool), (builtin .len ts ty cs (args.map a.eval)).run C.P w' = .ok (.value v) w') ∧ VR imm w r v ∧ K r L := fun n hr hk =>
      ⟨_, _, fun w' ty cs => by rw [hts', hargs']; simp [builtin, hr]; rfl, .int .i64 n, hk⟩
    split at h
    · rename_i z s ht e
      rw [e] at hx
      have hu := tiOf_one (hC.types _ _ ht)
      generalize a.eval ox = v at *
      cases hx
      exact fin _ (fun w' ty => by simp [Builtin.len_, run_underlying hu]) h
    · rename_i e' sz by_ ea zs k g Cp n ht e
      rw [e] at hx
      have hu := (tiOf_slice (hC.types _ _ ht)).1
      generalize a.eval ox = v at *
      cases hx
      exact fin _ (fun w' ty => by simp [Builtin.len_, run_underlying hu]) h
    · rename_i e' sz by_ ea zs sz' xs n ht e
      rw [e] at hx
      have hu := (tiOf_slice (hC.types _ _ ht)).1
      generalize a.eval ox = v at *
      cases hx
      exact fin _ (fun w' ty => by simp [Builtin.len_, run_underlying hu]) h
    · rename_i e' sz by_ ea zs k g Cp sz0 lo n ht e
      rw [e] at hx
      have hu := (tiOf_slice (hC.types _ _ ht)).1
      generalize a.eval ox = v at *
      cases hx
      exact fin _ (fun w' ty => by simp [Builtin.len_, run_underlying hu]) h
    · rename_i e' sz by_ ea zs ht e
      rw [e] at hx
      have hu := (tiOf_slice (hC.types _ _ ht)).1
      generalize a.eval ox = v at *
      cases hx
      exact fin 0 (fun w' ty => by simp [Builtin.len_, run_underlying hu]) h
    · exact h.elim
  · rename_i hb _ _; cases hb
  · rename_i hb _ _; cases hb
  · rename_i hb _ _; cases hb
  · rename_i hb _ _; cases hb
  · rename_i hb _ _; cases hb
  · rename_i hb _ _; cases hb
  · exact h.elim

theorem aop_move {C : Cx} (hC : C.Ok) {o : Oper} (hm : movA o.op = true) {env : List AV} {L : AHeap} {K : AV → AHeap → Prop} (h : aop C o env L K) {imm : Nat → Prop} {w : World} {a : Act} (hG : C.G imm w) (hs : Sat imm w L) (he : EnvR imm w env a.tmps) :
    ∃ v x, (∀ w', (isLoad o.op = true → Same imm L w w') → (execOp a.eval o).run C.P w' = .ok (.value v) w') ∧ VR imm w x v ∧ K x L := by
  have pureOp : ∀ {v : Value} {x : AV}, (∀ w', (isLoad o.op = true → Same imm L w w') → (execOp a.eval o).run C.P w' = .ok (.value v) w') → VR imm w x v → K x L →
      ∃ v x, (∀ w', (isLoad o.op = true → Same imm L w w') → (execOp a.eval o).run C.P w' = .ok (.value v) w') ∧ VR imm w x v ∧ K x L := fun hr hx hk => ⟨_, _, hr, hx, hk⟩
  unfold aop at h
  split at h
  · rename_i x ho; exact pureOp (v := a.eval x) (fun w' _ => by simp [execOp, ho]) (aeval_VR he x) h
  · rename_i x ho; exact pureOp (v := a.eval x) (fun w' _ => by simp [execOp, ho]) (aeval_VR he x) h
  · -- pick
    rename_i c x y ho
    have hc := aeval_VR he c
    split at h
    · rename_i e; rw [e] at hc; generalize hv : a.eval c = v at hc; cases hc
      exact pureOp (v := a.eval x) (fun w' _ => by simp [execOp, ho, hv, asBool]) (aeval_VR he x) h
    · rename_i e; rw [e] at hc; generalize hv : a.eval c = v at hc; cases hc
      exact pureOp (v := a.eval y) (fun w' _ => by simp [execOp, ho, hv, asBool]) (aeval_VR he y) h
    · exact h.elim
  · rename_i ho; rw [ho] at hm; cases hm
  · rename_i ho; rw [ho] at hm; cases hm
  · -- load
    rename_i t x ho
    split at h
    case h_2 => exact h.elim
    rename_i ti ht
    have hti := tiOf_spec (hC.types _ _ ht)
    obtain ⟨ad, cs, vs, hv, h, hvs, him, hc⟩ := aptr_sound hs (aeval_VR he x) h
    unfold aloadT at h
    split at h
    case isFalse => exact h.elim
    rename_i hle
    obtain ⟨v, hr, hag, hone⟩ := run_loadVar_any (a := ad) hti hvs hle
    have hrun : ∀ w', (isLoad o.op = true → Same imm L w w') → (execOp a.eval o).run C.P w' = .ok (.value v) w' := fun w' hsm => by
      have hsame := hsm (by rw [ho]; rfl)
      have := hr w' (fun j u hj => by
        rw [World.cell?_of_block (w := w)]
        · exact hc j u hj
        · rw [show (ad.add j).block = ad.block by unfold Addr.add; split <;> rfl]; exact hsame _ him)
      simp [execOp, ho, Instr.loadAt, hv, Instr.sureAddr, this]
    split at h
    · rename_i hagg
      refine pureOp hrun ?_ h
      rw [hag hagg]
      have := hvs.take ti.size
      exact .agg _ _ this.len this.one this.at_
    · rename_i hagg
      obtain ⟨u, hu, rfl⟩ := hone (by simpa using hagg)
      split at h
      · rename_i c rest
        exact pureOp hrun (hvs.at_ 0 c v rfl hu) h
      · exact h.elim
  · rename_i ho; rw [ho] at hm; cases hm
  · -- nilCheck
    rename_i x ho
    have hx := aeval_VR he x
    split at h
    · rename_i e; rw [e] at hx; generalize hv : a.eval x = v at hx; cases hx
      exact pureOp (v := .pointer (some _)) (fun w' _ => by simp [execOp, ho, hv]) (.ptr _ _ _) h
    · rename_i e; rw [e] at hx; generalize hv : a.eval x = v at hx; cases hx
      exact pureOp (v := .pointer (some _)) (fun w' _ => by simp [execOp, ho, hv]) (.el _ _ _ _ _ _) h
    · rename_i e; rw [e] at hx; generalize hv : a.eval x = v at hx
      have hx' := hx
      cases hx
      exact pureOp (v := .pointer (some _)) (fun w' _ => by simp [execOp, ho, hv]) hx' h
    · exact h.elim
  · -- binOp
    rename_i op t x y ty ho
    obtain ⟨r, z, h1, h2, h3⟩ := abin_run hC (t := t) (aeval_VR he x) (aeval_VR he y) h x y
    refine pureOp (v := r) (fun w' _ => ?_) h2 h3
    simp only [execOp, ho]
    rw [Sem.run_bind, h1 w']
    rfl
  · -- not
    rename_i t x ho
    have hx := aeval_VR he x
    split at h
    · rename_i b e; rw [e] at hx; generalize hv : a.eval x = v at hx; cases hx
      exact pureOp (v := .bool !b) (fun w' _ => by simp [execOp, ho, hv, Op.unary]) (.bool _) h
    · exact h.elim
  · -- fieldAddr
    rename_i t x f ho
    split at h
    case h_2 => exact h.elim
    rename_i fs zs ht
    split at h
    case h_2 => exact h.elim
    rename_i off sz bb hf
    split at h
    · exact h.elim
    rename_i hsz
    obtain ⟨fields, hu, hfs, hall⟩ := tiOf_agg (hC.types _ _ ht)
    subst hfs
    rw [List.getElem?_map] at hf
    cases hfd : fields.toList[f]? with
    | none => simp [hfd] at hf
    | some fd =>
      simp only [hfd, Option.map_some, Option.some.injEq, Prod.mk.injEq] at hf
      obtain ⟨rfl, rfl, _⟩ := hf
      have hfd' : fields[f]? = some fd := by simpa using hfd
      have hinfo : ∃ q, C.P.info? fd.type = some q ∧ q.size ≠ 0 := by
        cases hq : C.P.info? fd.type with
        | none => exact absurd (by simp [Program.cellsOf, hq]) hsz
        | some q => exact ⟨q, rfl, by simpa [Program.cellsOf, hq] using hsz⟩
      obtain ⟨q, hq, hq0⟩ := hinfo
      have hrun : ∀ ad : Addr, a.eval x = .pointer (some ad) → ∀ w', (isLoad o.op = true → Same imm L w w') → (execOp a.eval o).run C.P w' = .ok (.value (.pointer (some (ad.add fd.offset)))) w' := fun ad hv w' _ => by
        simp [execOp, ho, Instr.fieldAt, run_underlying hu, hfd', hv, Instr.sureAddr, fieldPlace, run_sizeOf w' hq, hq0]
      have hx := aeval_VR he x
      split at h
      · rename_i e; rw [e] at hx; generalize hv : a.eval x = v at hx; cases hx
        exact pureOp (hrun _ hv) (by rw [addr_addn]; exact .ptr _ _ _) h
      · rename_i e; rw [e] at hx; generalize hv : a.eval x = v at hx; cases hx
        exact pureOp (hrun _ hv) (by rw [addr_addn, Nat.add_assoc]; exact .el _ _ _ _ _ _) h
      · rename_i e; rw [e] at hx; generalize hv : a.eval x = v at hx
        cases hx with
        | rel cs ad vs hi hl hc h1 hvv =>
          have hd := (VRs.mk hl h1 hvv).drop fd.offset
          refine pureOp (hrun _ hv) (.rel _ _ (vs.drop fd.offset) ?_ hd.len (fun j u hj => ?_) hd.one hd.at_) h
          · rw [show (ad.add fd.offset).block = ad.block by unfold Addr.add; split <;> rfl]; exact hi
          · rw [addr_add_add]; rw [List.getElem?_drop] at hj; exact hc _ u hj
      · exact h.elim
  · -- field
    rename_i t x f ho
    split at h
    case h_2 => exact h.elim
    rename_i fs zs cs ht e
    have hx := aeval_VR he x
    rw [e] at hx
    generalize hv : a.eval x = v at hx
    obtain ⟨fields, hu, hfs, hall⟩ := tiOf_agg (hC.types _ _ ht)
    subst hfs
    cases hx with
    | agg _ vs hvl h1 hvv =>
      have hVRs : VRs imm w cs vs := ⟨hvl, h1, hvv⟩
      have hget : ∀ {off sz : Nat} {bb : Bool}, (fields.toList.map fun f => (f.offset, C.P.cellsOf f.type, aggT C.P f.type))[f]? = some (off, sz, bb) → ∃ fd, fields[f]? = some fd ∧ fd.offset = off ∧ C.P.cellsOf fd.type = sz ∧ aggT C.P fd.type = bb := by
        intro off sz bb hf
        rw [List.getElem?_map] at hf
        cases hfd : fields.toList[f]? with
        | none => simp [hfd] at hf
        | some fd =>
          simp only [hfd, Option.map_some, Option.some.injEq, Prod.mk.injEq] at hf
          exact ⟨fd, by simpa using hfd, hf.1, hf.2.1, hf.2.2⟩
      split at h
      · rename_i off sz hf
        obtain ⟨fd, hfd, rfl, rfl, hag⟩ := hget hf
        split at h
        case isFalse => exact h.elim
        rename_i hle
        have hd : ∃ d, C.P.underlying fd.type = some d ∧ aggD d = true := by
          cases hq : C.P.underlying fd.type with
          | none => simp [aggT, hq] at hag
          | some d => exact ⟨d, rfl, by simpa [aggT, hq] using hag⟩
        obtain ⟨d, hd, hdd⟩ := hd
        have hinfo : ∃ q, C.P.info? fd.type = some q := by
          cases hq : C.P.info? fd.type with
          | none => simp [Program.underlying, hq] at hd
          | some q => exact ⟨q, rfl⟩
        obtain ⟨q, hq⟩ := hinfo
        have hqs : q.size = C.P.cellsOf fd.type := by simp [Program.cellsOf, hq]
        have hp := fun w' => run_field_part (P := C.P) w' hq hd vs.toArray fd.offset
        simp only [hdd, if_true] at hp
        have hext : (vs.toArray.extract fd.offset (fd.offset + q.size)) = ((vs.drop fd.offset).take q.size).toArray := by
          apply Array.ext'
          simp [List.take_drop]
        simp only [hext] at hp
        have hdt := (hVRs.drop fd.offset).take q.size
        refine pureOp (v := .agg ((vs.drop fd.offset).take q.size).toArray) (fun w' _ => by simp [execOp, ho, hv, Instr.field, run_underlying hu, hfd, asAgg, hp]) ?_ h
        rw [← hqs]
        exact .agg _ _ hdt.len hdt.one hdt.at_
      · rename_i off sz hf
        obtain ⟨fd, hfd, rfl, rfl, hag⟩ := hget hf
        split at h
        case h_2 => exact h.elim
        rename_i c hc
        obtain ⟨u, hu1, hu2, hu3⟩ := hVRs.get hc
        have hadd : ∃ q d, C.P.info? fd.type = some q ∧ C.P.underlying fd.type = some d ∧ aggD d = false := by
          obtain ⟨i1, i2⟩ := hall fd (by simpa using Array.mem_of_getElem? hfd)
          obtain ⟨q, hq⟩ := Option.isSome_iff_exists.1 i1
          obtain ⟨d, hd⟩ := Option.isSome_iff_exists.1 i2
          exact ⟨q, d, hq, hd, by simpa [aggT, hd] using hag⟩
        obtain ⟨q, d, hq, hd, hdd⟩ := hadd
        have hp := fun w' => run_field_part (P := C.P) w' hq hd vs.toArray fd.offset
        simp only [hdd, Bool.false_eq_true, if_false, List.getElem?_toArray, hu1] at hp
        exact pureOp (v := u) (fun w' _ => by simp [execOp, ho, hv, Instr.field, run_underlying hu, hfd, asAgg, hp]) hu3 h
      · exact h.elim
  · -- build
    rename_i t parts ho
    split at h
    case h_2 => exact h.elim
    rename_i fs zs ht
    split at h
    case isFalse => exact h.elim
    rename_i hne
    split at h
    case h_2 => exact h.elim
    rename_i cs hf
    obtain ⟨us, hb, hus⟩ := built_sound (pv := (parts.map fun (i, x) => (i, a.eval x)).toList) (hC.types _ _ ht) hne (by simp) (fun j p q hp hq => by
      rw [List.getElem?_map] at hp
      rw [Array.toList_map, List.getElem?_map] at hq
      cases hj : parts.toList[j]? with
      | none => simp [hj] at hp
      | some y =>
        simp [hj] at hp hq
        subst hp; subst hq
        exact ⟨rfl, aeval_VR he y.2⟩) hf
    have hr := fun w' => run_build (P := C.P) w' t (parts.map fun (i, x) => (i, a.eval x)) us.toArray hb
    exact pureOp (v := .agg us.toArray) (fun w' _ => by simp only [execOp, ho]; rw [Sem.run_bind, hr w']; rfl) (.agg _ _ hus.len hus.one hus.at_) h
  · rename_i ho; rw [ho] at hm; cases hm
  · -- index
    rename_i t x i ho
    split at h
    case h_2 => exact h.elim
    rename_i z s k n ht e1 e2
    have hx := aeval_VR he x
    have hi := aeval_VR he i
    rw [e1] at hx
    rw [e2] at hi
    generalize hv : a.eval x = v at hx
    generalize hv2 : a.eval i = v2 at hi
    cases hx
    cases hi
    have hu := tiOf_one (hC.types _ _ ht)
    obtain ⟨h0, hlt, hk⟩ := h
    refine pureOp (v := .int .u8 (s[n.toNat]'hlt).toNat) (fun w' _ => ?_) (.int _ _) hk
    have hget : s[n.toNat]? = some (s[n.toNat]'hlt) := getElem?_pos s n.toNat hlt
    simp [execOp, ho, hv, hv2, Instr.index, asIntOf, run_underlying hu, h0, hget]
  · -- indexAddr
    rename_i t x i ho
    have hx := aeval_VR he x
    have hi := aeval_VR he i
    split at h
    · rename_i e sz by_ ea zs k g Cp n kk m ht e1 e2
      rw [e1] at hx
      rw [e2] at hi
      generalize hv : a.eval x = v at hx
      generalize hv2 : a.eval i = v2 at hi
      cases hx
      cases hi
      obtain ⟨hu, j, ze, hj, hsz, _⟩ := tiOf_slice (hC.types _ _ ht)
      obtain ⟨h0, h1, hk⟩ := h
      refine pureOp (v := .pointer (some ⟨g, m.toNat * sz + 0, none⟩)) (fun w' _ => ?_) (.el _ _ _ _ _ _) hk
      have hb : ((match C.P.underlying t with | some (.array ..) => true | _ => false) = false) := by rw [hu]
      simp [execOp, ho, hv, hv2, Instr.indexAt, asIntOf, run_underlying hu, h0, h1, run_sizeOf w' hj, hsz, addr_add0]
    · rename_i e sz by_ ea zs sz' xs n kk m ht e1 e2
      split at h
      case isFalse => exact h.elim
      rename_i esz
      subst esz
      rw [e1] at hx
      rw [e2] at hi
      generalize hv : a.eval x = v at hx
      generalize hv2 : a.eval i = v2 at hi
      cases hi
      obtain ⟨hu, j, ze, hj, hsz, _⟩ := tiOf_slice (hC.types _ _ ht)
      obtain ⟨h0, h1, y, hy, hk⟩ := h
      cases hx with
      | ro _ _ _ A cap vs hnn hcap hszz hvl ha h1c hvv =>
        obtain ⟨ad, rfl, him, hc⟩ := ha (by omega)
        have hVRs : VRs imm w (flats xs) vs := ⟨hvl, h1c, hvv⟩
        have hat := flats_at hszz hy
        have hd := (hVRs.drop (m.toNat * sz')).take sz'
        rw [hat] at hd
        refine pureOp (v := .pointer (some (ad.add (m.toNat * sz')))) (fun w' _ => ?_) (.rel _ _ ((vs.drop (m.toNat * sz')).take sz') ?_ hd.len (fun q u hj => ?_) hd.one hd.at_) hk
        · simp [execOp, ho, hv, hv2, Instr.indexAt, asIntOf, run_underlying hu, h0, h1, run_sizeOf w' hj, hsz]
        · rw [show (ad.add (m.toNat * sz')).block = ad.block by unfold Addr.add; split <;> rfl]; exact him
        · rw [addr_add_add]
          rw [List.getElem?_take] at hj
          split at hj
          · rw [List.getElem?_drop] at hj
            exact hc _ u hj
          · cases hj
    · rename_i n ea zs g kk m ht e1 e2
      rw [e1] at hx
      rw [e2] at hi
      generalize hv : a.eval x = v at hx
      generalize hv2 : a.eval i = v2 at hi
      cases hx
      cases hi
      obtain ⟨e, hu, hce, hae⟩ := tiOf_arr (hC.types _ _ ht)
      split at h
      case h_2 => exact h.elim
      rename_i cs hcs
      obtain ⟨h0, h1, c, hcc, hk⟩ := h
      obtain ⟨him, vs, t', fr, hg, hvs⟩ := hC.globs imm w g cs hG hcs
      have hinfo : ∃ q, C.P.info? e = some q ∧ q.size = 1 := by
        cases hq : C.P.info? e with
        | none => simp [Program.cellsOf, hq] at hce
        | some q => exact ⟨q, rfl, by simpa [Program.cellsOf, hq] using hce⟩
      obtain ⟨q, hq, hq1⟩ := hinfo
      obtain ⟨u, hu1, hu2, hu3⟩ := hvs.get hcc
      have htiny : ¬ n ≤ 1 ∨ True := .inr trivial
      refine pureOp (v := .pointer (some ((⟨g, 0, none⟩ : Addr).add (m.toNat * 1)))) (fun w' _ => ?_) (.rel _ _ [u] ?_ rfl (fun j v hj => ?_) (by simpa using hu2) (fun j y v hy hj => ?_)) hk
      · simp [execOp, ho, hv, hv2, Instr.indexAt, asIntOf, run_underlying hu, h0, h1, run_sizeOf w' hq, hq1, Instr.sureAddr]
      · rw [addr_add0]; exact him
      · rw [addr_add_add, addr_add0]
        cases j with
        | zero =>
          simp at hj
          subst hj
          rw [cell_of_row w g _ vs t' fr hg]
          simpa using hu1
        | succ j => simp at hj
      · cases j with
        | zero => simp at hy hj; subst hy; subst hj; exact hu3
        | succ j => simp at hy
    · exact h.elim
  · -- slice
    rename_i t x lo hi ho
    obtain ⟨r, u, h1, h2, h3⟩ := aslice_sound hC h hs he (aeval_VR he x)
    exact pureOp (v := u) (fun w' _ => by simp [execOp, ho, h1]) h2 h3
  · -- slice with three bounds
    rename_i t x lo hi m ho
    obtain ⟨u, h1, h3⟩ := aslice3_sound hC h he (aeval_VR he x)
    exact pureOp (v := u) (fun w' _ => by simp [execOp, ho, h1]) (.junk _) h3
  · -- extract
    rename_i x i ho
    have hx := aeval_VR he x
    split at h
    case h_2 => exact h.elim
    rename_i xs e
    rw [e] at hx
    generalize hv : a.eval x = v at hx
    split at h
    case h_2 => exact h.elim
    rename_i c hc
    cases hx with
    | tuple _ vs hl hvv =>
      have hlt : i < vs.length := by rw [hl]; exact (List.getElem?_eq_some_iff.1 hc).1
      refine pureOp (v := vs[i]) (fun w' _ => ?_) (hvv i c _ hc (List.getElem?_eq_getElem hlt)) h
      simp [execOp, ho, hv, Instr.extract, hlt]
  · -- convert
    rename_i src dst x ho
    have hx := aeval_VR he x
    split at h
    · rename_i k0 z0 k z k1 n hs0 hd0 e
      rw [e] at hx
      generalize hv : a.eval x = v at hx
      cases hx
      have hu := tiOf_one (hC.types _ _ hs0)
      have hu' := tiOf_one (hC.types _ _ hd0)
      have hk : C.P.intKind dst = k := by unfold Program.intKind; rw [hu']
      refine pureOp (v := .int k (k.wrap n)) (fun w' _ => ?_) (.int k _) (h _ rfl)
      have := run_convert_int (P := C.P) w' src dst k1 n (by rw [hu]; rfl) (by rw [hk]; exact hu')
      rw [hk] at this
      simp [execOp, ho, hv, this]
    · rename_i z0 z s hs0 hd0 e
      rw [e] at hx
      generalize hv : a.eval x = v at hx
      cases hx
      have hu := tiOf_one (hC.types _ _ hs0)
      have hu' := tiOf_one (hC.types _ _ hd0)
      refine pureOp (v := .string s) (fun w' _ => ?_) (.str s) h
      simp [execOp, ho, hv, convert, run_underlying hu, run_underlying hu']
    · exact h.elim
  · rename_i ho; rw [ho] at hm; cases hm
  · -- len
    rename_i b args ts ho
    have hb : b = .len := by
      rw [ho] at hm
      cases b <;> first | rfl | cases hm
    subst hb
    obtain ⟨v, r, hr, a1, a2⟩ := alen_sound hC h he
    refine pureOp (v := v) (fun w' _ => ?_) a1 a2
    unfold execOp
    simp only [ho, resolve, invoke, Sem.run_bind, Sem.run_pure, Result.andThen_ok]
    exact hr w' _ _
  · exact h.elim

theorem aop_sound {C : Cx} (hC : C.Ok) {o : Oper} {env : List AV} {L : AHeap} {K : AV → AHeap → Prop} (h : aop C o env L K) {imm : Nat → Prop} {w : World} {a : Act} (hG : C.G imm w) (hs : Sat imm w L) (he : EnvR imm w env a.tmps)
    {next : Act → World → Prop} {Q : Exit → Act → World → Prop}
    (hn : ∀ x L' imm' v w', K x L' → Sat imm' w' L' → VR imm' w' x v → Tr C.D (Own L) imm w (Own L') imm' w' → next (a.put o.dst v) w') : o.wp C.P a w next Q := by
  by_cases hm : movA o.op = true
  · obtain ⟨v, x, hr, hx, hk⟩ := aop_move hC hm h hG hs he
    exact wp_value (hr w (fun _ _ _ => rfl)) (hn _ _ _ _ _ hk hs hx (Tr.refl _ _ _))
  have newOp : ∀ {ob : Obj} {x : AV} {ao : AObj} {v : Value}, (execOp a.eval o).run C.P w = .ok (.value v) (w.alloc ob) → VR imm (w.alloc ob) x v → Holds imm (w.alloc ob) w.heap.size ao → K x (L ++ [(w.heap.size, ao)]) → ao.solo → o.wp C.P a w next Q := fun {ob x ao v} hr hx hh hk hso =>
    wp_value hr (hn _ _ _ _ _ hk (hs.new (by simp) (fun i hi => (World.grownBy_alloc w ob none).block i hi (by simp)) hh (fun _ => hso.owns)) hx (Tr.alloc _ _ (fun _ => hso.owns)))
  have keepA : ∀ {ob : Obj} {xs : List AV} {vs : List Value}, VRs imm w xs vs → VRs imm (w.alloc ob) xs vs := fun {ob xs vs} h => h.grown hs (World.grownBy_alloc w ob none) (by simp)
  unfold aop at h
  split at h
  · rename_i ho; rw [ho] at hm; exact absurd rfl hm
  · rename_i ho; rw [ho] at hm; exact absurd rfl hm
  · rename_i ho; rw [ho] at hm; exact absurd rfl hm
  · -- box
    rename_i t x ho
    split at h
    case h_2 => exact h.elim
    rename_i cs hcs
    have hx := cellsA_VRs (aeval_VR he x) hcs
    refine newOp (ob := .cells (a.eval x).cells t) (v := .pointer (some ⟨w.heap.size, 0, none⟩)) (by simp [execOp, ho, Instr.box, newVar, newRow]) (.ptr _ _ _) (.cells t cs (a.eval x).cells.toList ?_ (keepA hx)) (h w.heap.size) trivial
    rw [Array.toArray_toList]
    exact heap_alloc_new w _
  · -- alloc
    rename_i t ho
    split at h
    case h_2 => exact h.elim
    rename_i ti ht
    obtain ⟨i, d, z, hi, hd, hz, hsz, hag, hzs, h1, hzo, _, _⟩ := (tiOf_spec (hC.types _ _ ht)).ok
    have hx := map_ofV_VRs imm w z.cells.toList h1
    rw [hzo] at hx
    refine newOp (ob := .cells z.cells t) (v := .pointer (some ⟨w.heap.size, 0, none⟩)) (by simp [execOp, ho, Instr.alloc, zeroValue, typeInfo, hi, hz, newVar, newRow]) (.ptr _ _ _) (.cells t ti.zero z.cells.toList ?_ (keepA hx)) (h w.heap.size) trivial
    rw [Array.toArray_toList]
    exact heap_alloc_new w _
  · rename_i ho; rw [ho] at hm; exact absurd rfl hm
  · -- store
    rename_i t x y ho
    split at h
    case h_2 => exact h.elim
    rename_i ti new ht hnew
    split at h
    case isFalse => exact h.elim
    rename_i hlen
    obtain ⟨i, d, z, hi, hd, hz, hsz, _⟩ := (tiOf_spec (hC.types _ _ ht)).ok
    have hy := cellsA_VRs (aeval_VR he y) hnew
    obtain ⟨ad, L', w', hv, hk, hr, hs', ht'⟩ := astore_sound (P := C.P) hs (aeval_VR he x) hy h
    have hcs : (a.eval y).cells.size = i.size := by
      have := hy.len
      rw [Array.length_toList] at this
      omega
    refine wp_skip (w' := w') ?_ (hn _ _ _ _ _ hk hs' (.junk _) ht')
    simp [execOp, ho, Instr.storeAt, hv, Instr.sureAddr, storeVar, run_sizeOf w hi, hcs, hr]
  · rename_i ho; rw [ho] at hm; exact absurd rfl hm
  · rename_i ho; rw [ho] at hm; exact absurd rfl hm
  · rename_i ho; rw [ho] at hm; exact absurd rfl hm
  · rename_i ho; rw [ho] at hm; exact absurd rfl hm
  · rename_i ho; rw [ho] at hm; exact absurd rfl hm
  · rename_i ho; rw [ho] at hm; exact absurd rfl hm
  · -- buildSlice
    rename_i t len parts ho
    split at h
    case h_2 => exact h.elim
    rename_i e sz by_ ea zs ht
    split at h
    case isTrue =>
      rename_i hemp
      simp only [Bool.and_eq_true, beq_iff_eq, List.isEmpty_iff] at hemp
      obtain ⟨rfl, hpe⟩ := hemp
      have hpe' : parts = #[] := by rw [← Array.toArray_toList (xs := parts), hpe]
      subst hpe'
      obtain ⟨hu, j, ze, hj, hsz, hby, hze, hzs, hs0, _, _⟩ := tiOf_slice (hC.types _ _ ht)
      refine newOp (ob := .cells #[] e) (v := .slice (some ⟨w.heap.size, 0, none⟩) 0 0) (ao := .row e sz 0 []) (by simp [execOp, ho, Instr.buildSlice, run_underlying hu, sizeOf, typeInfo, hj, Instr.fill, newRow]; congr 2; exact Array.eq_empty_of_size_eq_zero (by simp)) (.sl _ _ _ _) ?_ (h w.heap.size) trivial
      exact .row e sz 0 [] [] [] (heap_alloc_new w _) hs0 (by simp) (by simp) (Nat.zero_le _) (Nat.le_refl _) (.nil _ _)
    split at h
    case isFalse => exact h.elim
    rename_i hcond
    simp only [Bool.and_eq_true, beq_iff_eq, decide_eq_true_eq] at hcond
    obtain ⟨⟨⟨⟨hp, hlen⟩, hpos⟩, hsmall⟩, hlenm⟩ := hcond
    obtain ⟨hu, j, ze, hj, hsz, hby, hze, hzs, hs0, _, _⟩ := tiOf_slice (hC.types _ _ ht)
    obtain ⟨a1, a2, a3, a4⟩ := partsOk_spec (imm := imm) (w := w) (parts.toList.map fun p => (p.1, aeval env p.2)) (parts.toList.map fun p => a.eval p.2) 0 hp (by simp) (fun k p v hp hv => by
      rw [List.getElem?_map] at hp hv
      cases hj : parts.toList[k]? with
      | none => simp [hj] at hp
      | some y =>
        simp [hj] at hp hv
        subst hp; subst hv
        exact aeval_VR he y.2)
    simp only [List.map_map, Function.comp_def] at a1 a4
    simp only [List.length_map] at a1
    have hzip : (parts.map fun (i, x) => (i, a.eval x)).toList = ((parts.toList.map fun p => a.eval p.2).zipIdx 0).map fun x => (x.2, x.1) := by
      apply List.ext_getElem?
      intro k
      rw [Array.toList_map, List.getElem?_map, List.getElem?_map, List.getElem?_zipIdx, List.getElem?_map]
      cases hj : parts.toList[k]? with
      | none => simp
      | some y =>
        have : (parts.toList.map fun p => p.1)[k]? = some y.1 := by simp [hj]
        rw [a1] at this
        have hk : k < parts.toList.length := (List.getElem?_eq_some_iff.1 hj).1
        rw [List.getElem?_range' hk] at this
        simp at this
        simp [← this]
    have hfill := Great.fill_whole (s := sz) hs0 (parts.toList.map fun p => a.eval p.2) ((Array.range (len * sz)).map (ze.cells[· % ze.cells.size]!)) a3 (by simp [← hlen])
    rw [← hzip] at hfill
    have hr := run_buildSlice (P := C.P) w t e len (parts.map fun (i, x) => (i, a.eval x)) _ j ze hu hj hze (by rw [hsz]; omega) (by rw [hsz]; omega) (by rw [hsz]; exact hfill)
    refine newOp (v := .slice (some ⟨w.heap.size, 0, none⟩) len len) (ao := .row e sz len (parts.toList.map fun p => aeval env p.2)) (by simp only [execOp, ho]; rw [Sem.run_bind, hr]; rfl) (.sl _ _ _ _) ?_ (h w.heap.size) trivial
    refine .row e sz len _ ((parts.toList.map fun p => a.eval p.2).flatMap fun v => v.cells.toList) [] ?_ hs0 (fun x hx => ?_) ?_ (by simp only [maxLen]; omega) (by simp [← hlen]) (keepA a4)
    · rw [List.append_nil]; exact heap_alloc_new w _
    · obtain ⟨p, hp, rfl⟩ := List.mem_map.1 hx
      exact a2 _ (List.mem_map.2 ⟨p, hp, rfl⟩)
    · rw [List.append_nil, a4.len, flats_length (sz := sz) (fun x hx => by
        obtain ⟨p, hp, rfl⟩ := List.mem_map.1 hx
        exact a2 _ (List.mem_map.2 ⟨p, hp, rfl⟩))]
      simp [← hlen]
  · rename_i ho; rw [ho] at hm; exact absurd rfl hm
  · rename_i ho; rw [ho] at hm; exact absurd rfl hm
  · rename_i ho; rw [ho] at hm; exact absurd rfl hm
  · rename_i ho; rw [ho] at hm; exact absurd rfl hm
  · rename_i ho; rw [ho] at hm; exact absurd rfl hm
  · rename_i ho; rw [ho] at hm; exact absurd rfl hm
  · -- call of a function
    rename_i x args ts ho
    have hx := aeval_VR he x
    split at h
    case h_2 => exact h.elim
    rename_i f hfx
    have hxv := afun_VR hx hfx
    obtain ⟨hl, hv⟩ := args_VR he args
    rcases ACall.sound hC h hG hs hl hv with ⟨⟨fn, hf, hname, hb⟩, hc⟩ | ⟨v, r, hr, hvr, hk⟩
    case inr =>
      rw [Array.toArray_toList] at hr
      refine wp_value (v := v) (w' := w) ?_ (hn r L imm v w hk hs hvr (Tr.refl _ _ _))
      unfold execOp
      simp only [ho, hxv, resolve, Deferred.ofValue, invoke, Sem.run_bind, Sem.run_pure, Result.andThen_ok]
      simpa using hr
    rw [Array.toArray_toList] at hc
    have h1 : fn.name ≠ "runtime.NumGoroutine" := by simpa using hname
    obtain ⟨cc, hcc⟩ := Option.isSome_iff_exists.1 hb
    have hrun : (execOp a.eval o).run C.P w = .ok (.enter f (args.map a.eval)) w := by
      unfold execOp
      simp [ho, hxv, resolve, Deferred.ofValue, invoke, callFunc, hf, h1, hcc]
    unfold Oper.wp
    rw [hrun, Oper.upon_enter]
    refine hc.mono fun e w'' hh => ?_
    obtain ⟨v, r, L', imm', rfl, a1, a2, a3, a4⟩ := hh
    exact hn r L' imm' v w'' a4 a2 a1 a3
  · -- call of a builtin
    rename_i b args ts ho
    obtain ⟨v, w', r, L', hr, a1, a2, a3, a4⟩ := abuiltin_sound hC h hs he o.type (args.map fun | .const _ => true | _ => false)
    refine wp_value (v := v) (w' := w') ?_ (hn r L' imm v w' a4 a2 a1 a3)
    unfold execOp
    simp only [ho, resolve, invoke, Sem.run_bind, Sem.run_pure, Result.andThen_ok]
    exact hr
  · exact h.elim

end Go.Proofs.YtgpbppkmmlclfaaDoor.HB
