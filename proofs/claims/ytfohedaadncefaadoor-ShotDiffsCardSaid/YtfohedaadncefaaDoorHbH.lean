/- The abstract machine's operations, all of them in one, and that the model's own do what they say. -/
import Derived.Test.YtfohedaadncefaaDoorHbG
namespace Go.Proofs.YtfohedaadncefaaDoor.HB
open Go

def alen : AV → Option Nat
  | .str s => some s.size
  | .sl _ _ _ n => some n
  | .ro _ _ n => some n
  | .nils => some 0
  | _ => none

def aint (env : List AV) (d : Int) (x : Option Operand) (K : Int → Prop) : Prop :=
  match x with
  | none => K d
  | some x => match aeval env x with
    | .int _ n => K n
    | _ => False

def aslice (C : Cx) (t : TypeId) (x : AV) (L : AHeap) (env : List AV) (lo hi : Option Operand) (K : AV → Prop) : Prop :=
  match C.T t, x with
  | some (.one .string _), .str s => aint env 0 lo fun l => aint env s.size hi fun h => 0 ≤ l ∧ l ≤ h ∧ h ≤ s.size ∧ K (.str (s.extract l.toNat h.toNat))
  | some (.slice ..), .sl k g Cp n => match L[k]? with
    | some (g', .row _ _ C' xs) => g' = g ∧ C' = Cp ∧ aint env 0 lo fun l => aint env n hi fun h => l = 0 ∧ 0 ≤ h ∧ h ≤ xs.length ∧ K (.sl k g Cp h.toNat)
    | _ => False
  | some (.slice _ sz' ..), .ro sz xs n => if sz' = sz then aint env 0 lo fun l => aint env n hi fun h => 0 ≤ l ∧ l ≤ h ∧ h ≤ xs.length ∧ K (.ro sz (xs.drop l.toNat) (h - l).toNat) else False
  | some (.slice ..), .nils => aint env 0 lo fun l => aint env 0 hi fun h => l = 0 ∧ h = 0 ∧ K .nils
  | _, _ => False

def asrc (L : AHeap) (x : AV) (sz : Nat) (K : List AV → Prop) : Prop :=
  match x with
  | .nils => K []
  | .ro sz' xs n => if sz' = sz then K (xs.take n) else False
  | .sl k g Cp n => match L[k]? with
    | some (g', .row _ sz' C' xs) => g' = g ∧ C' = Cp ∧ n ≤ xs.length ∧ if sz' = sz then K (xs.take n) else False
    | _ => False
  | _ => False

def aappend (L : AHeap) (e sz bytes : Nat) (s : AV) (ys : List AV) (K : AV → AHeap → Prop) : Prop :=
  match s with
  | .nils => ys.length * bytes ≤ 140737488355328 ∧ (ys = [] → K .nils L) ∧ (ys ≠ [] → ∀ g Cp, K (.sl L.length g Cp ys.length) (L ++ [(g, .row e sz Cp ys)]))
  | .sl k g Cp n => match L[k]? with
    | some (g', .row e' sz' C' xs) => if e' = e ∧ sz' = sz then g' = g ∧ C' = Cp ∧ n = xs.length ∧ (xs.length + ys.length) * bytes ≤ 140737488355328 ∧
        ∀ g2 C2, K (.sl k g2 C2 (xs.length + ys.length)) (L.set k (g2, .row e sz C2 (xs ++ ys))) else False
    | _ => False
  | _ => False

def bytesA (s : ByteArray) : List AV := s.data.toList.map fun b => .int .u8 b.toNat

/-- A row's new elements: each of the right size. -/
def partsOk (sz : Nat) : List (Nat × AV) → Nat → Bool
  | [], _ => true
  | (i, x) :: rest, j => i == j && (match cellsA x with | some c => c.length == sz | none => false) && partsOk sz rest (j + 1)

def aloadT (ti : TI) (cs : List AV) (K : AV → Prop) : Prop :=
  if ti.size ≤ cs.length then (if ti.isAgg then K (.agg (cs.take ti.size)) else match cs with
    | c :: _ => K c
    | [] => False) else False

def abuiltin (C : Cx) (b : Builtin) (ts : Array TypeId) (args : List AV) (L : AHeap) (K : AV → AHeap → Prop) : Prop :=
  match b, ts.toList, args with
  | .len, [t], [x] => match C.T t, x with
    | some (.one .string _), .str s => K (.int .i64 s.size) L
    | some (.slice ..), .sl _ _ _ n => K (.int .i64 n) L
    | some (.slice ..), .ro _ _ n => K (.int .i64 n) L
    | some (.slice ..), .nils => K (.int .i64 0) L
    | _, _ => False
  | .append, [t, t'], [s, x] => match C.T t with
    | some (.slice e sz bytes _ _) => if bytes = 0 then False else
      if t = t' then asrc L x sz fun ys => aappend L e sz bytes s ys K
      else match C.T t, C.T t', x with
        | some (.slice e' 1 1 false [.int .u8 0]), some (.one .string _), .str u => aappend L e' 1 1 s (bytesA u) K
        | some (.slice ..), some (.one (.int .i64) _), .int .i64 n => match s with
          | .nils => 0 < n ∧ n * bytes ≤ 140737488355328 ∧ ∀ g Cp, K (.sl L.length g Cp n.toNat) (L ++ [(g, .row e sz Cp [])])
          | _ => False
        | _, _, _ => False
    | _ => False
  | .min, [_, _], [.int k x, .int k' y] => if k = k' then ∀ r, r = (if y < x then y else x) → K (.int k r) L else False
  | .max, [_, _], [.int k x, .int k' y] => if k = k' then ∀ r, r = (if x < y then y else x) → K (.int k r) L else False
  | .cap, [t], [x] => match C.T t, x with
    | some (.slice ..), .sl _ _ Cp _ => K (.int .i64 Cp) L
    | some (.slice ..), .nils => K (.int .i64 0) L
    | _, _ => False
  | _, _, _ => False

/-- A function without captured values. -/
def afun : AV → Option FuncId
  | .any (.func (.func f) ⟨[]⟩ ⟨[]⟩) => some f
  | _ => none
theorem afun_VR {imm : Nat → Prop} {w : World} {x : AV} {v : Value} {f : FuncId} (h : VR imm w x v) (hf : afun x = some f) : v = .func (.func f) #[] #[] := by
  unfold afun at hf
  split at hf
  · cases hf; cases h; rfl
  · cases hf

def aop (C : Cx) (o : Oper) (env : List AV) (L : AHeap) (K : AV → AHeap → Prop) : Prop :=
  match o.op with
  | .move x | .assign x => K (aeval env x) L
  | .pick c a b => match aeval env c with
    | .bool true => K (aeval env a) L
    | .bool false => K (aeval env b) L
    | _ => False
  | .box t x => match cellsA (aeval env x) with
    | some cs => ∀ g, K (.ptr L.length g 0) (L ++ [(g, .cells t cs)])
    | none => False
  | .alloc t => match C.T t with
    | some ti => ∀ g, K (.ptr L.length g 0) (L ++ [(g, .cells t ti.zero)])
    | none => False
  | .load t x => match C.T t with
    | some ti => aptr L (aeval env x) fun cs => aloadT ti cs fun v => K v L
    | none => False
  | .store t x y => match C.T t, cellsA (aeval env y) with
    | some ti, some new => if new.length = ti.size then astore L (aeval env x) new (K .junk) else False
    | _, _ => False
  | .nilCheck x => match aeval env x with
    | .ptr k g off => K (.ptr k g off) L
    | .el k g Cp sz i off => K (.el k g Cp sz i off) L
    | .rel cs => K (.rel cs) L
    | _ => False
  | .binOp op t x y _ => abin C op t (aeval env x) (aeval env y) fun v => K v L
  | .unOp .not _ x => match aeval env x with
    | .bool b => K (.bool !b) L
    | _ => False
  | .fieldAddr t x f => match C.T t with
    | some (.agg fs _) => match fs[f]? with
      | some (off, sz, _) => if sz = 0 then False else match aeval env x with
        | .ptr k g off' => K (.ptr k g (off' + off)) L
        | .el k g Cp sz' i off' => K (.el k g Cp sz' i (off' + off)) L
        | .rel cs => K (.rel (cs.drop off)) L
        | _ => False
      | none => False
    | _ => False
  | .field t x f => match C.T t, aeval env x with
    | some (.agg fs _), .agg cs => match fs[f]? with
      | some (off, sz, true) => if off + sz ≤ cs.length then K (.agg ((cs.drop off).take sz)) L else False
      | some (off, _, false) => match cs[off]? with
        | some c => K c L
        | none => False
      | none => False
    | _, _ => False
  | .build t parts => match C.T t with
    | some (.agg fs zs) => if fs.all (fun f => f.2.1 != 0) then match afill fs zs (parts.toList.map fun p => (p.1, aeval env p.2)) with
      | some cs => K (.agg cs) L
      | none => False else False
    | _ => False
  | .buildSlice t len parts => match C.T t with
    | some (.slice e sz _ _ _) => if partsOk sz (parts.toList.map fun p => (p.1, aeval env p.2)) 0 && (parts.toList.length == len) && decide (0 < len * sz) && decide (len * sz ≤ 16777216) && decide (len ≤ 9223372036854775807) then
        ∀ g, K (.sl L.length g len len) (L ++ [(g, .row e sz len (parts.toList.map fun p => aeval env p.2))]) else False
    | _ => False
  | .index t x i => match C.T t, aeval env x, aeval env i with
    | some (.one .string _), .str s, .int _ i => 0 ≤ i ∧ ∃ h : i.toNat < s.size, K (.int .u8 (s[i.toNat]'h).toNat) L
    | _, _, _ => False
  | .indexAddr t x i => match C.T t, aeval env x, aeval env i with
    | some (.slice _ sz _ _ _), .sl k g Cp n, .int _ i => 0 ≤ i ∧ i < n ∧ K (.el k g Cp sz i.toNat 0) L
    | some (.slice _ sz _ _ _), .ro sz' xs n, .int _ i => if sz' = sz then 0 ≤ i ∧ i < n ∧ ∃ x, xs[i.toNat]? = some x ∧ K (.rel (flat x)) L else False
    | some (.arr n 1 _ _), .any (.pointer (some ⟨g, 0, none⟩)), .int _ i => match C.GT g with
      | some cs => 0 ≤ i ∧ i < n ∧ ∃ c, cs[i.toNat]? = some c ∧ K (.rel [c]) L
      | none => False
    | _, _, _ => False
  | .slice t x lo hi none => aslice C t (aeval env x) L env lo hi fun v => K v L
  | .extract x i => match aeval env x with
    | .tuple xs => match xs[i]? with
      | some c => K c L
      | none => False
    | _ => False
  | .convert src dst x => match C.T src, C.T dst, aeval env x with
    | some (.one (.int _) _), some (.one (.int k) _), .int _ n => ∀ r, r = k.wrap n → K (.int k r) L
    | some (.one .string _), some (.one .string _), .str s => K (.str s) L
    | _, _, _ => False
  | .call { callee := .value x, args, .. } => match afun (aeval env x) with
    | some f => ACall C f (args.toList.map (aeval env)) L K
    | none => False
  | .call { callee := .builtin b, args, argTypes } => abuiltin C b argTypes (args.toList.map (aeval env)) L K
  | _ => False

end Go.Proofs.YtfohedaadncefaaDoor.HB
