/- Texts laid one behind the other: V3, G.
   No condition. -/
import Derived.CheckFast
import Derived.Carry
import Derived.ProofKit
import Derived.SizedLaws
import Derived.JoinedCond
import Derived.Test.YtjndkdmkecpllaaGreatProg
import Derived.KernelRfl
import Derived.Test.YtjndkdmkecpllaaGreatQW2
set_option linter.unusedVariables false
set_option linter.unusedSimpArgs false
set_option linter.unusedVariables false
set_option linter.unusedSimpArgs false
noncomputable section
namespace Go.Proofs.YtjndkdmkecpllaaGreat
namespace V
abbrev Env := Nat → Value
def Env.put (e : Env) (d : Nat) (v : Value) : Env := fun i => match Nat.beq i d with
  | true => v
  | false => e i
def bindP {α : Type} (o : Option α) (K : α → Prop) : Prop := match o with
  | some a => K a
  | none => False
abbrev bindQ {α : Type} (o : Option α) (K : α → Prop) : Prop := match o with
  | some a => K a
  | none => False
abbrev evE (e : Env) : Operand → Option Value
  | .tmp i => some (e i)
  | .const v => match flat v with
    | true => some v
    | false => none
  | .global _ => none
  | .func f => some (.func (.func f) #[] #[])
abbrev evsE (e : Env) : List Operand → Option (List Value)
  | [] => some []
  | x :: r => (evE e x).bind fun v => (evsE e r).bind fun vs => some (v :: vs)
abbrev evoE (e : Env) : Option Operand → Option (Option Value)
  | none => some none
  | some x => (evE e x).bind fun v => some (some v)
abbrev evpE (e : Env) : List (Nat × Operand) → Option (List (Nat × Value))
  | [] => some []
  | x :: r => (evE e x.2).bind fun v => (evpE e r).bind fun vs => some ((x.1, v) :: vs)
def asP : Value → Option Addr
  | .pointer (some a) => some a
  | _ => none
def asAgg : Value → Option (Array Value)
  | .agg cs => some cs
  | _ => none
def load1 (ro : Ro) (h : T Obj) (v : Value) : Option Value := (asP v).bind fun a => match cellsAt ro h a 1 with
  | some [x] => some x
  | _ => none
def loadA (ro : Ro) (h : T Obj) (n : Nat) (v : Value) : Option Value := (asP v).bind fun a => (cellsAt ro h a n).bind fun l => some (.agg l.toArray)
def fwdP (k : Nat) (v : Value) : Option Value := (asP v).bind fun a => some (.pointer (some (fwd a k)))
def part1 (off : Nat) (v : Value) : Option Value := (asAgg v).bind fun cs => cs[off]?
def partA (n off : Nat) (v : Value) : Option Value := (asAgg v).bind fun cs => match Nat.ble (off + n) cs.size with
  | true => some (.agg ((cs.toList.drop off).take n).toArray)
  | false => none
def ixArr (n z : Nat) (x i : Value) : Option Value := (natV i).bind fun i => (asP x).bind fun a => match Nat.blt i n with
  | true => some (.pointer (some (fwd a (i * z))))
  | false => none
def ixSl (z : Nat) (x i : Value) : Option Value := (natV i).bind fun i => match x with
  | .slice (some a) len _ => match Nat.blt i len with
    | true => match a.spot with
      | none => some (.pointer (some (fwd a (i * z))))
      | some z' => match Nat.beq z z' with
        | true => some (.pointer (some (elt a (i * z))))
        | false => none
    | false => none
  | _ => none
def ixStr (x i : Value) : Option Value := (natV i).bind fun i => match x with
  | .string s => match s.data.toList[i]? with
    | some b => some (.int .u8 b.toNat)
    | none => none
  | _ => none
def ixA1 (n z : Nat) (x i : Value) : Option Value := (natV i).bind fun i => (asAgg x).bind fun cs => match Nat.blt i n with
  | true => cs[i * z]?
  | false => none
def ixAA (n z : Nat) (x i : Value) : Option Value := (natV i).bind fun i => (asAgg x).bind fun cs => match Nat.blt i n, Nat.ble (i * z + z) cs.size with
  | true, true => some (.agg ((cs.toList.drop (i * z)).take z).toArray)
  | _, _ => none
def intB (op : BinOp) (a b : Value) : Option Value := match a, b with
  | .int k x, .int k' y => match op with
    | .shl | .shr => shiftV op k x y
    | _ => match decide (k = k') with
      | true => intV op k x y
      | false => none
  | _, _ => none
def strB (op : BinOp) (a b : Value) : Option Value := match a, b with
  | .string x, .string y => strV op x y
  | _, _ => none
def boolB (op : BinOp) (a b : Value) : Option Value := match op, a, b with
  | .eql, .bool x, .bool y => some (.bool (x == y))
  | .neq, .bool x, .bool y => some (.bool (!(x == y)))
  | _, _, _ => none
def aggB (ks : List Nat) (op : BinOp) (a b : Value) : Option Value := match a, b with
  | .agg xs, .agg ys => match op with
    | .eql => (eqCells ks xs.toList ys.toList).bind fun b => some (.bool b)
    | .neq => (eqCells ks xs.toList ys.toList).bind fun b => some (.bool (!b))
    | _ => none
  | _, _ => none
def ptrB (op : BinOp) (a b : Value) : Option Value := match op, a, b with
  | .eql, .pointer none, .pointer y => some (.bool y.isNone)
  | .eql, .pointer x, .pointer none => some (.bool x.isNone)
  | .neq, .pointer none, .pointer y => some (.bool (!y.isNone))
  | .neq, .pointer x, .pointer none => some (.bool (!x.isNone))
  | _, _, _ => none
def slB (op : BinOp) (a b : Value) : Option Value := match op, a, b with
  | .eql, .slice none _ _, .slice y _ _ => some (.bool y.isNone)
  | .eql, .slice x _ _, .slice none _ _ => some (.bool x.isNone)
  | .neq, .slice none _ _, .slice y _ _ => some (.bool (!y.isNone))
  | .neq, .slice x _ _, .slice none _ _ => some (.bool (!x.isNone))
  | _, _, _ => none
def pickV (c a b : Value) : Option Value := match c with
  | .bool true => some a
  | .bool false => some b
  | _ => none
def nilCk : Value → Option Value
  | .pointer (some a) => some (.pointer (some a))
  | .func (.func f) a b => some (.func (.func f) a b)
  | _ => none
def convI (k : IntKind) : Value → Option Value
  | .int _ n => some (.int k (wr k n))
  | _ => none
def nth (i : Nat) : Value → Option Value
  | .tuple vs => vs[i]?
  | _ => none
def lenSl : Value → Option Value
  | .slice _ n _ => some (.int .i64 n)
  | _ => none
def lenStr : Value → Option Value
  | .string s => some (.int .i64 s.size)
  | _ => none
def ptr (id : Nat) : Value := .pointer (some (own id 0))
def storeN (n : Nat) (h : T Obj) (a v : Value) : Option (T Obj) := (asP a).bind fun a => match Nat.beq v.cells.size n with
  | true => storeAtV h a v.cells.toList
  | false => none
abbrev KV := Value → T Obj → Nat → Prop
abbrev CallP := FuncId → List Value → T Obj → Nat → KV → Prop
abbrev ptQ (P : Program) (ro : Ro) (e : Env) (h : T Obj) (aid : Nat) (op : Op) (K : Value → Option Obj → Prop) : Prop :=
  match op with
  | .move x | .assign x => bindQ (evE e x) fun v => K v none
  | .pick c a b => bindQ (evE e c) fun c => bindQ (evE e a) fun a => bindQ (evE e b) fun b => bindP (pickV c a b) fun v => K v none
  | .alloc ty => bindP (zer P ty) fun z => K (ptr aid) (some (.cells z.cells ty))
  | .box ty x => bindQ (evE e x) fun v => K (ptr aid) (some (.cells v.cells ty))
  | .build ty ps => bindQ (evpE e ps.toList) fun vs => bindP (buildV P ty vs) fun v => K v none
  | .buildSlice ty n ps => bindQ (evpE e ps.toList) fun vs => bindP (sliceLitV P ty aid n vs) fun r => K r.1 r.2
  | .load ty x => bindQ (evE e x) fun v => match isAgg P ty with
    | some true => bindQ (siz P ty) fun n => bindP (loadA ro h n v) fun u => K u none
    | some false => bindP (load1 ro h v) fun u => K u none
    | none => False
  | .nilCheck x => bindQ (evE e x) fun v => bindP (nilCk v) fun v => K v none
  | .binOp op ty x y _ => bindQ (evE e x) fun a => bindQ (evE e y) fun b => match und P ty with
    | some (.int _) => bindP (intB op a b) fun v => K v none
    | some .string => bindP (strB op a b) fun v => K v none
    | some .bool => bindP (boolB op a b) fun v => K v none
    | some (.pointer _) => bindP (ptrB op a b) fun v => K v none
    | some (.slice _) => bindP (slB op a b) fun v => K v none
    | some (.struct _) | some (.array _ _) => bindP (plainTy P 20 ty) fun ks => bindP (aggB ks op a b) fun v => K v none
    | _ => False
  | .unOp op _ x => bindQ (evE e x) fun a => bindP (unV op a) fun v => K v none
  | .convert s d x => bindQ (evE e x) fun v => match und P s, und P d with
    | some (.int _), some (.int k) => bindP (convI k v) fun v => K v none
    | _, _ => bindP (convV P ro h aid s d v) fun r => K r.1 r.2
  | .makeFunc (.func f) a b => bindQ (evsE e a.toList) fun a => bindQ (evsE e b.toList) fun b => K (.func (.func f) a.toArray b.toArray) none
  | .makeMap _ none => K (.map (some aid)) (some (.map #[] 0))
  | .makeSlice ty l c => bindQ (evE e l) fun l => bindQ (evE e c) fun c => bindP (makeV P ty aid l c) fun r => K r.1 r.2
  | .slice ty x lo hi mx => bindQ (evE e x) fun x => bindQ (evoE e lo) fun lo => bindQ (evoE e hi) fun hi => bindQ (evoE e mx) fun mx => bindP (sliceV P ty x lo hi mx) fun v => K v none
  | .fieldAddr s x f => bindQ (evE e x) fun v => bindQ (fldV P s f) fun f => bindQ (siz P f.type) fun n => match n with
    | 0 => False
    | _ + 1 => bindP (fwdP f.offset v) fun v => K v none
  | .field ty x f => bindQ (evE e x) fun v => bindQ (fldV P ty f) fun f => match isAgg P f.type with
    | some true => bindQ (siz P f.type) fun n => bindP (partA n f.offset v) fun v => K v none
    | some false => bindP (part1 f.offset v) fun v => K v none
    | none => False
  | .indexAddr ty x i => bindQ (evE e x) fun x => bindQ (evE e i) fun i => match und P ty with
    | some (.array n el) => bindQ (siz P el) fun z => bindP (ixArr n z x i) fun v => K v none
    | some (.slice el) => bindQ (siz P el) fun z => bindP (ixSl z x i) fun v => K v none
    | _ => False
  | .index ty x i => bindQ (evE e x) fun x => bindQ (evE e i) fun i => match und P ty with
    | some (.array n el) => bindQ (siz P el) fun z => match isAgg P el with
      | some true => bindP (ixAA n z x i) fun v => K v none
      | some false => bindP (ixA1 n z x i) fun v => K v none
      | none => False
    | some .string => bindP (ixStr x i) fun v => K v none
    | _ => False
  | .lookup ty x k ok => bindQ (evE e x) fun x => bindQ (evE e k) fun k => bindP (lookV P h ty x k ok) fun v => K v none
  | .extract x i => bindQ (evE e x) fun v => bindP (nth i v) fun v => K v none
  | .call { callee := .builtin b, args, argTypes } => bindQ (evsE e args.toList) fun vs => match b, vs, argTypes[0]? with
    | .len, [x], some ty => match und P ty with
      | some .string => bindP (lenStr x) fun v => K v none
      | some (.slice _) => bindP (lenSl x) fun v => K v none
      | _ => bindP (lenV P h ty x) fun v => K v none
    | _, _, _ => bindP (builtinQ P h b argTypes vs) fun v => K v none
  | _ => False
def callF (C : CallP) (f : Value) (vs : List Value) (h : T Obj) (nx : Nat) (K : KV) : Prop := match f with
  | .func (.func k) a b => C k (a.toList ++ vs ++ b.toList) h nx K
  | _ => False
abbrev ptL (P : Program) (ro : Ro) (C : CallP) (e : Env) (h : T Obj) (nx : Nat) (op : Op) (K : KV) : Prop :=
  match op with
  | .store ty a x => bindQ (evE e a) fun a => bindQ (evE e x) fun x => bindQ (siz P ty) fun n => bindP (storeN n h a x) fun h => K undef h nx
  | .mapUpdate ty m k x | .insert ty m k x => bindQ (evE e m) fun m => bindQ (evE e k) fun k => bindQ (evE e x) fun x => bindP (mapPutV P h ty m k x) fun h => K undef h nx
  | .call { callee := .builtin b, args, argTypes } => bindQ (evsE e args.toList) fun vs => match b with
    | .append => bindP (appendV P ro h nx argTypes vs) fun r => K r.1 r.2.1 r.2.2
    | .copy => bindP (copyV P ro h nx argTypes vs) fun r => K r.1 r.2.1 r.2.2
    | .clear => match vs, argTypes[0]? with
      | [m], some ty => bindP (und P ty) fun _ => bindP (clearV h m) fun h => K (.tuple #[]) h nx
      | _, _ => False
    | _ => False
  | .call { callee := .value f, args, .. } => bindQ (evE e f) fun f => bindQ (evsE e args.toList) fun vs => callF C f vs h nx K
  | .convert s d x => bindQ (evE e x) fun v => bindP (convSame P h s d v) fun r => K r.1 r.2 nx
  | _ => False
abbrev ptO (P : Program) (ro : Ro) (C : CallP) (e : Env) (h : T Obj) (nx aid : Nat) (op : Op) (K : KV) : Prop :=
  match loud op with
  | true => ptL P ro C e h nx op K
  | false => ptQ P ro e h aid op fun v ob => K v (addO h aid ob) nx
def ifP (v : Value) (w : Bool) (h : T Obj) (nx : Nat) (A : KV → Prop) (K : KV) : Prop := match v with
  | .bool b => match b == w with
    | true => A K
    | false => K undef h nx
  | _ => K undef h nx
abbrev Gd := Option (Value × Bool)
abbrev wrapG (g : Gd) (h : T Obj) (nx : Nat) (A : KV → Prop) (K : KV) : Prop := match g with
  | none => A K
  | some vw => ifP vw.1 vw.2 h nx A K
abbrev gdP (ops : Array Oper) (e : Env) (g : Option (Nat × Bool)) (K : Gd → Prop) : Prop := match g with
  | none => K none
  | some (j, w) => match (ops[j]?).bind (·.dst) with
    | some d => K (some (e d, w))
    | none => False
abbrev putP (n : Nat) (e : Env) (d : Option Tmp) (v : Value) (K : Env → Prop) : Prop := match d with
  | none => K e
  | some d => match Nat.blt d n with
    | true => K (e.put d v)
    | false => False
abbrev ptOps (P : Program) (ro : Ro) (C : CallP) (n : Nat) (ops : Array Oper) : List Oper → Env → T Obj → Nat → (Env → T Obj → Nat → Prop) → Prop
  | [], e, h, nx, Q => Q e h nx
  | o :: l, e, h, nx, Q => gdP ops e o.guard fun g => wrapG g h nx (fun K => ptO P ro C e h (nx + 1) nx o.op K) fun v h nx => putP n e o.dst v fun e => ptOps P ro C n ops l e h nx Q
def rdE (P : Program) (e : Env) : Op → Option Value
  | .load _ x => evE e x
  | .lookup _ x _ _ => evE e x
  | .convert s _ x => match und P s with
    | some (.slice _) => evE e x
    | _ => none
  | .call { callee := .builtin _, args, argTypes } => match (argTypes[0]?).bind (und P) with
    | some (.map _ _) => match evsE e args.toList with
      | some [v] => some v
      | _ => none
    | _ => none
  | _ => none
def sameV (v : Value) (h h' : T Obj) : Prop := match blk v with
  | some b => same b h h'
  | none => True
def onP (g : Gd) (X : Prop) : Prop := match g with
  | none => X
  | some vw => vw.1 = .bool vw.2 → X
def nthN : List Nat → Nat → Nat
  | [], _ => 0
  | x :: _, 0 => x
  | _ :: r, n + 1 => nthN r n
def freeL (b : List Nat) (i j : Nat) : Bool := !(nthN b j).testBit i
abbrev revK {α : Type} (K : List Nat → α) : List Nat → List Nat → α
  | [], o => K o
  | x :: r, o => revK K r (x :: o)
abbrev befK {α : Type} (K : List Nat → α) : List Oper → Nat → List Nat → α
  | [], _, acc => revK K acc []
  | o :: l, j, acc => CheckFast.force (CheckFast.one (fun i => if i < j then acc.getD (j - 1 - i) 0 else 0) o) fun v => befK K l (j + 1) (v :: acc)
def drawOkL (P : Program) (ops : Array Oper) (b : List Nat) : Bool :=
  (List.range ops.size).all fun j => match ops[j]? with
    | none => false
    | some oj => (oj.after.toList.all fun e => !Region.binds .any e || decide (e.on < j)) && (List.range j).all fun i => match ops[i]? with
      | none => false
      | some oi => match freeL b i j with
        | false => true
        | true => pairOk P ops oi oj
abbrev sameL (b : List Nat) (i : Nat) (h h' : T Obj) : List (Nat × Gd × Value) → Prop → Prop
  | [], K => K
  | q :: ls, K => match freeL b q.1 i with
    | true => onP q.2.1 (sameV q.2.2 h h') ∧ sameL b i h h' ls K
    | false => sameL b i h h' ls K
abbrev sameM (b : List Nat) (i : Nat) (v : Value) : List (Nat × Gd × T Obj × T Obj) → Prop → Prop
  | [], K => K
  | q :: ms, K => match freeL b q.1 i with
    | true => onP q.2.1 (sameV v q.2.2.1 q.2.2.2) ∧ sameM b i v ms K
    | false => sameM b i v ms K
abbrev ptD (P : Program) (ro : Ro) (C : CallP) (n : Nat) (ops : Array Oper) (b : List Nat) (n0 : Nat) : List Oper → Nat → List (Nat × Gd × Value) → List (Nat × Gd × T Obj × T Obj) → Env → T Obj → Nat → (Env → T Obj → Nat → Prop) → Prop
  | [], _, _, _, e, h, nx, Q => Q e h nx
  | o :: l, i, ls, ms, e, h, nx, Q => gdP ops e o.guard fun g => match loud o.op with
    | true => wrapG g h nx (fun K => ptO P ro C e h nx (n0 + i) o.op fun v h' nx' => sameL b i h h' ls (K v h' nx')) fun v h' nx' => putP n e o.dst v fun e => ptD P ro C n ops b n0 l (i + 1) ls ((i, g, h, h') :: ms) e h' nx' Q
    | false => match rdE P e o.op with
      | some a => wrapG g h nx (fun K => ptO P ro C e h nx (n0 + i) o.op fun v h' nx' => sameM b i a ms (K v h' nx')) fun v h' nx' => putP n e o.dst v fun e => ptD P ro C n ops b n0 l (i + 1) ((i, g, a) :: ls) ms e h' nx' Q
      | none => wrapG g h nx (fun K => ptO P ro C e h nx (n0 + i) o.op K) fun v h' nx' => putP n e o.dst v fun e => ptD P ro C n ops b n0 l (i + 1) ls ms e h' nx' Q
def exP (x : Ex) (A : Prop) (B : Nat → Prop) (D : Prop) : Prop := match x with
  | .normal => A
  | .exit i => B i
  | .ret => D
def beqP (b : Bool) (A B : Prop) : Prop := match b with
  | true => A
  | false => B
abbrev exQ (x : Ex) (A : Prop) (B : Nat → Prop) (D : Prop) : Prop := match x with
  | .normal => A
  | .exit i => B i
  | .ret => D
abbrev beqQ (b : Bool) (A B : Prop) : Prop := match b with
  | true => A
  | false => B
abbrev KE := Ex → Env → T Obj → Nat → Prop
abbrev PT := Env → T Obj → Nat → KE → Prop
def iterP (B : PT) : Nat → PT
  | 0 => fun _ _ _ _ => False
  | k + 1 => fun e h nx Q => B e h nx fun x e h nx => exP x (∃ h', Sub h' h ∧ iterP B k e h' nx Q) (fun i => Q (.exit i) e h nx) (Q .ret e h nx)
def loopP (B : PT) : PT := fun e h nx Q => ∃ k, iterP B k e h nx Q
def condP (v : Value) (A B : Prop) : Prop := match v with
  | .bool true => A
  | .bool false => B
  | _ => False
abbrev pt (P : Program) (ro : Ro) (C : CallP) (n : Nat) : Code → PT
  | .skip | .label _ => fun e h nx Q => Q .normal e h nx
  | .ret => fun e h nx Q => Q .ret e h nx
  | .exit id => fun e h nx Q => Q (.exit id) e h nx
  | .seq a b => fun e h nx Q => pt P ro C n a e h nx fun x e h nx => exQ x (pt P ro C n b e h nx Q) (fun i => Q (.exit i) e h nx) (Q .ret e h nx)
  | .cond c a b => fun e h nx Q => bindQ (evE e c) fun v => condP v (pt P ro C n a e h nx Q) (pt P ro C n b e h nx Q)
  | .block id b => fun e h nx Q => pt P ro C n b e h nx fun x e h nx => exQ x (Q .normal e h nx) (fun i => beqQ (Nat.beq i id) (Q .normal e h nx) (Q (.exit i) e h nx)) (Q .ret e h nx)
  | .loop b => loopP (pt P ro C n b)
  | .scope b => pt P ro C n b
  | .region _ ops draw => fun e h nx Q => match draw with
    | false => ptOps P ro C n ops ops.toList e h nx (Q .normal)
    | true => befK (fun b => match drawOkL P ops b with
      | true => ptD P ro C n ops b nx ops.toList 0 [] [] e h (nx + ops.size) (Q .normal)
      | false => False) ops.toList 0 []
  | _ => fun _ _ _ _ => False
abbrev resE (P : Program) (ro : Ro) (e : Env) (h : T Obj) : List ResultVar → (List Value → Prop) → Prop
  | [], K => K []
  | .tmp i :: r, K => resE P ro e h r fun vs => K (e i :: vs)
  | .cell a ty :: r, K => match isAgg P ty with
    | some true => bindQ (siz P ty) fun n => bindP (loadA ro h n (e a)) fun v => resE P ro e h r fun vs => K (v :: vs)
    | some false => bindP (load1 ro h (e a)) fun v => resE P ro e h r fun vs => K (v :: vs)
    | none => False
def entE (vs : List Value) : Env := fun i => (vs[i]?).getD undef
abbrev endP (P : Program) (ro : Ro) (rs : List ResultVar) (K : KV) : KE := fun x e h nx => exQ x (resE P ro e h rs fun vs => ∃ h', Sub h' h ∧ K (resOf vs) h' nx) (fun _ => False) (resE P ro e h rs fun vs => ∃ h', Sub h' h ∧ K (resOf vs) h' nx)
def newP (h : T Obj) (aid : Nat) (o : Obj) (K : T Obj → Prop) : Prop := K (h.upd aid (some o))
def optP (h : T Obj) (aid : Nat) (o : Option Obj) (K : T Obj → Prop) : Prop := K (addO h aid o)
def puts : Env → List (Nat × Value) → Env
  | e, [] => e
  | e, p :: l => puts (e.put p.1 p.2) l
def bodyOf (f : Func) : Code := f.body.getD .skip
def callPre (P : Program) (ro : Ro) (C : CallP) (f : Func) (vs : List Value) (h : T Obj) (nx : Nat) (K : KV) : Prop := pt P ro C f.ntmps (bodyOf f) (entE vs) h nx (endP P ro f.results.toList K)
def callP (P : Program) (ro : Ro) : CallP := fun f vs h nx K => ∃ k v h' nx', call P ro k f vs h nx v h' nx' ∧ K v h' nx'
end V
end Go.Proofs.YtjndkdmkecpllaaGreat
set_option linter.unusedVariables false
set_option linter.unusedSimpArgs false
noncomputable section
namespace Go.Proofs.YtjndkdmkecpllaaGreat
namespace V
theorem bindP_some {α : Type} {o : Option α} {K : α → Prop} (h : bindP o K) : ∃ a, o = some a ∧ K a := by
  cases o with
  | none => exact h.elim
  | some a => exact ⟨a, rfl, h⟩
def envOf (t : T Value) : Env := fun i => (t.get i).getD undef
section
variable {P : Program} {ro : Ro} {t : T Value} {hp : T Obj}
theorem evl_env (x : Operand) : evl t x = evE (envOf t) x := by cases x <;> rfl
theorem evlL_env : ∀ xs : List Operand, evlL t xs = evsE (envOf t) xs := by
  intro xs
  induction xs with
  | nil => rfl
  | cons x xs ih => simp only [evlL, evsE]; rw [evl_env, ih]
theorem evlO_env (x : Option Operand) : evlO t x = evoE (envOf t) x := by
  cases x with
  | none => rfl
  | some x => simp only [evlO, evoE]; rw [evl_env]
theorem evlP_env : ∀ xs : List (Nat × Operand), evlP t xs = evpE (envOf t) xs := by
  intro xs
  induction xs with
  | nil => rfl
  | cons x xs ih => simp only [evlP, evpE]; rw [evl_env, ih]
theorem envOf_upd (d : Nat) (v : Value) : envOf (t.upd d (some v)) = (envOf t).put d v := by
  funext i
  unfold envOf Env.put
  rw [T.get_upd]
  by_cases e : i = d
  · subst e; simp
  · rw [if_neg e]
    cases hb : Nat.beq i d with
    | true => exact absurd (Nat.eq_of_beq_eq_true hb) e
    | false => rfl
theorem asP_some {v : Value} {a : Addr} (h : asP v = some a) : v = .pointer (some a) := by
  unfold asP at h
  split at h
  · cases h; rfl
  · cases h
theorem asAgg_some {v : Value} {a : Array Value} (h : asAgg v = some a) : v = .agg a := by
  unfold asAgg at h
  split at h
  · cases h; rfl
  · cases h
theorem ptQ_sound {aid : Nat} {op : Op} {K : Value → Option Obj → Prop} (h : ptQ P ro (envOf t) hp aid op K) : ∃ v ob, opQ P ro t hp aid op = some (v, ob) ∧ K v ob := by
  cases op with
  | move x | assign x =>
    obtain ⟨v, h1, h2⟩ := bindP_some h
    exact ⟨v, none, by simp only [opQ]; rw [evl_env, h1]; rfl, h2⟩
  | pick c a b =>
    obtain ⟨c', h1, h⟩ := bindP_some h
    obtain ⟨a', h2, h⟩ := bindP_some h
    obtain ⟨b', h3, h⟩ := bindP_some h
    obtain ⟨v, h4, h⟩ := bindP_some h
    refine ⟨v, none, ?_, h⟩
    simp only [opQ]; rw [evl_env, evl_env, evl_env, h1, h2, h3]
    unfold pickV at h4
    split at h4 <;> cases h4 <;> rfl
  | alloc ty =>
    obtain ⟨z, h1, h⟩ := bindP_some h
    exact ⟨_, _, by simp only [opQ]; rw [h1]; rfl, h⟩
  | box ty x =>
    obtain ⟨v, h1, h⟩ := bindP_some h
    exact ⟨_, _, by simp only [opQ]; rw [evl_env, h1]; rfl, h⟩
  | build ty ps =>
    obtain ⟨vs, h1, h⟩ := bindP_some h
    obtain ⟨v, h2, h⟩ := bindP_some h
    exact ⟨_, _, by simp only [opQ]; rw [evlP_env, h1]; show (buildV P ty vs).bind _ = _; rw [h2]; rfl, h⟩
  | buildSlice ty n ps =>
    obtain ⟨vs, h1, h⟩ := bindP_some h
    obtain ⟨r, h2, h⟩ := bindP_some h
    exact ⟨r.1, r.2, by simp only [opQ]; rw [evlP_env, h1]; exact h2, h⟩
  | load ty x =>
    obtain ⟨v, h1, h⟩ := bindP_some h
    split at h
    · rename_i hagg
      obtain ⟨n, h2, h⟩ := bindP_some h
      obtain ⟨u, h3, h⟩ := bindP_some h
      obtain ⟨a, h4, h5⟩ := bind_some' h3
      refine ⟨u, none, ?_, h⟩
      simp only [opQ]; rw [evl_env, h1, asP_some h4]
      show (loadV P ro hp ty a).bind _ = _
      unfold loadV
      rw [hagg]
      show ((siz P ty).bind _).bind _ = _
      rw [h2]
      show ((cellsAt ro hp a n).bind _).bind _ = _
      rw [h5]; rfl
    · rename_i hagg
      obtain ⟨u, h3, h⟩ := bindP_some h
      obtain ⟨a, h4, h5⟩ := bind_some' h3
      refine ⟨u, none, ?_, h⟩
      simp only [opQ]; rw [evl_env, h1, asP_some h4]
      show (loadV P ro hp ty a).bind _ = _
      have : loadV P ro hp ty a = some u := by unfold loadV; rw [hagg]; exact h5
      rw [this]; rfl
    · exact h.elim
  | nilCheck x =>
    obtain ⟨v, h1, h⟩ := bindP_some h
    obtain ⟨u, h2, h⟩ := bindP_some h
    refine ⟨u, none, ?_, h⟩
    simp only [opQ]; rw [evl_env, h1]
    unfold nilCk at h2
    split at h2 <;> cases h2 <;> rfl
  | binOp op ty x y yt =>
    obtain ⟨a, h1, h⟩ := bindP_some h
    obtain ⟨b, h2, h⟩ := bindP_some h
    have key : ∃ v, binV P op ty a b = some v ∧ K v none := by
      split at h
      · obtain ⟨v, h3, h⟩ := bindP_some h
        refine ⟨v, ?_, h⟩
        unfold intB at h3
        split at h3
        · exact h3
        · cases h3
      · obtain ⟨v, h3, h⟩ := bindP_some h
        refine ⟨v, ?_, h⟩
        unfold strB at h3
        split at h3
        · exact h3
        · cases h3
      · rename_i hu
        obtain ⟨v, h3, h⟩ := bindP_some h
        refine ⟨v, ?_, h⟩
        unfold boolB at h3
        split at h3 <;> cases h3 <;> simp [binV, eqOpV, eqlV, hu, nilEq]
      · rename_i hu
        obtain ⟨v, h3, h⟩ := bindP_some h
        refine ⟨v, ?_, h⟩
        unfold ptrB at h3
        split at h3 <;> cases h3 <;> simp only [binV, eqOpV, eqlV, hu, nilEq, Option.bind] <;> (try rfl) <;> (cases ‹Option Addr› <;> rfl)
      · rename_i hu
        obtain ⟨v, h3, h⟩ := bindP_some h
        refine ⟨v, ?_, h⟩
        unfold slB at h3
        split at h3 <;> cases h3 <;> simp only [binV, eqOpV, eqlV, hu, nilEq, Option.bind] <;> (try rfl) <;> (cases ‹Option Addr› <;> rfl)
      · rename_i hu
        obtain ⟨ks, h3, h⟩ := bindP_some h
        obtain ⟨v, h4, h⟩ := bindP_some h
        refine ⟨v, ?_, h⟩
        have hagg : isAgg P ty = some true := by unfold isAgg; rw [hu]
        unfold aggB at h4
        split at h4
        · split at h4
          · simp only [binV, eqOpV, eqlV, hagg, h3]; exact h4
          · simp only [binV, eqOpV, eqlV, hagg, h3]; exact h4
          · cases h4
        · cases h4
      · rename_i hu
        obtain ⟨ks, h3, h⟩ := bindP_some h
        obtain ⟨v, h4, h⟩ := bindP_some h
        refine ⟨v, ?_, h⟩
        have hagg : isAgg P ty = some true := by unfold isAgg; rw [hu]
        unfold aggB at h4
        split at h4
        · split at h4
          · simp only [binV, eqOpV, eqlV, hagg, h3]; exact h4
          · simp only [binV, eqOpV, eqlV, hagg, h3]; exact h4
          · cases h4
        · cases h4
      · exact h.elim
    obtain ⟨v, h3, h⟩ := key
    exact ⟨v, none, by simp only [opQ]; rw [evl_env, evl_env, h1, h2]; show (binV P op ty a b).bind _ = _; rw [h3]; rfl, h⟩
  | unOp op ty x =>
    obtain ⟨a, h1, h⟩ := bindP_some h
    obtain ⟨v, h2, h⟩ := bindP_some h
    exact ⟨v, none, by simp only [opQ]; rw [evl_env, h1]; show (unV op a).bind _ = _; rw [h2]; rfl, h⟩
  | convert s d x =>
    obtain ⟨a, h1, h⟩ := bindP_some h
    have key : ∃ r, convV P ro hp aid s d a = some r ∧ K r.1 r.2 := by
      split at h
      · rename_i k1 k2 e1 e2
        obtain ⟨v, h2, h⟩ := bindP_some h
        refine ⟨(v, none), ?_, h⟩
        unfold convI at h2
        split at h2
        · cases h2; simp only [convV, e1, e2]
        · cases h2
      · exact bindP_some h
    obtain ⟨r, h2, h⟩ := key
    exact ⟨r.1, r.2, by simp only [opQ]; rw [evl_env, h1]; exact h2, h⟩
  | makeFunc fn a b =>
    cases fn with
    | func f =>
      obtain ⟨a', h1, h⟩ := bindP_some h
      obtain ⟨b', h2, h⟩ := bindP_some h
      exact ⟨_, _, by simp only [opQ]; rw [evlL_env, evlL_env, h1, h2]; rfl, h⟩
    | _ => exact h.elim
  | makeMap mt r =>
    cases r with
    | none => exact ⟨_, _, rfl, h⟩
    | some r => exact h.elim
  | makeSlice ty l c =>
    obtain ⟨l', h1, h⟩ := bindP_some h
    obtain ⟨c', h2, h⟩ := bindP_some h
    obtain ⟨r, h3, h⟩ := bindP_some h
    exact ⟨r.1, r.2, by simp only [opQ]; rw [evl_env, evl_env, h1, h2]; exact h3, h⟩
  | slice ty x lo hi mx =>
    obtain ⟨x', h1, h⟩ := bindP_some h
    obtain ⟨lo', h2, h⟩ := bindP_some h
    obtain ⟨hi', h3, h⟩ := bindP_some h
    obtain ⟨mx', h4, h⟩ := bindP_some h
    obtain ⟨v, h5, h⟩ := bindP_some h
    exact ⟨v, none, by simp only [opQ]; rw [evl_env, evlO_env, evlO_env, evlO_env, h1, h2, h3, h4]; show (sliceV P ty x' lo' hi' mx').bind _ = _; rw [h5]; rfl, h⟩
  | fieldAddr s x f =>
    obtain ⟨v, h1, h⟩ := bindP_some h
    obtain ⟨fd, h2, h⟩ := bindP_some h
    obtain ⟨n, h3, h⟩ := bindP_some h
    split at h
    · exact h.elim
    · obtain ⟨u, h4, h⟩ := bindP_some h
      obtain ⟨a, h5, h6⟩ := bind_some' h4
      cases h6
      refine ⟨_, none, ?_, h⟩
      simp only [opQ]; rw [evl_env, h1, asP_some h5]
      show (fldV P s f).bind _ = _
      rw [h2]
      show (siz P fd.type).bind _ = _
      rw [h3]; rfl
  | field ty x f =>
    obtain ⟨v, h1, h⟩ := bindP_some h
    obtain ⟨fd, h2, h⟩ := bindP_some h
    have key : ∃ cs u, v = .agg cs ∧ partV P fd.type cs fd.offset = some u ∧ K u none := by
      split at h
      · rename_i hagg
        obtain ⟨n, h3, h⟩ := bindP_some h
        obtain ⟨u, h4, h⟩ := bindP_some h
        obtain ⟨cs, h5, h6⟩ := bind_some' h4
        refine ⟨cs, u, asAgg_some h5, ?_, h⟩
        unfold partV; rw [hagg]; show (siz P fd.type).bind _ = _; rw [h3]; exact h6
      · rename_i hagg
        obtain ⟨u, h4, h⟩ := bindP_some h
        obtain ⟨cs, h5, h6⟩ := bind_some' h4
        refine ⟨cs, u, asAgg_some h5, ?_, h⟩
        unfold partV; rw [hagg]; exact h6
      · exact h.elim
    obtain ⟨cs, u, rfl, h3, h⟩ := key
    refine ⟨u, none, ?_, h⟩
    simp only [opQ]; rw [evl_env, h1]
    show (fldV P ty f).bind _ = _
    rw [h2]
    show (partV P fd.type cs fd.offset).bind _ = _
    rw [h3]; rfl
  | indexAddr ty x i =>
    obtain ⟨x', h1, h⟩ := bindP_some h
    obtain ⟨i', h2, h⟩ := bindP_some h
    have key : ∃ v, indexAddrV P ty x' i' = some v ∧ K v none := by
      split at h
      · rename_i hu
        obtain ⟨z, h3, h⟩ := bindP_some h
        obtain ⟨v, h4, h⟩ := bindP_some h
        refine ⟨v, ?_, h⟩
        obtain ⟨j, h5, h6⟩ := bind_some' h4
        obtain ⟨a, h7, h8⟩ := bind_some' h6
        cases asP_some h7
        unfold indexAddrV
        rw [h5]
        show (match und P ty, Value.pointer (some a) with | _, _ => _) = _
        simp only [hu]; rw [h3]; exact h8
      · rename_i hu
        obtain ⟨z, h3, h⟩ := bindP_some h
        obtain ⟨v, h4, h⟩ := bindP_some h
        refine ⟨v, ?_, h⟩
        obtain ⟨j, h5, h6⟩ := bind_some' h4
        unfold indexAddrV
        rw [h5]
        simp only [Option.bind, hu]
        split at h6
        · simp only [h3]; exact h6
        · cases h6
      · exact h.elim
    obtain ⟨v, h3, h⟩ := key
    exact ⟨v, none, by simp only [opQ]; rw [evl_env, evl_env, h1, h2]; show (indexAddrV P ty x' i').bind _ = _; rw [h3]; rfl, h⟩
  | index ty x i =>
    obtain ⟨x', h1, h⟩ := bindP_some h
    obtain ⟨i', h2, h⟩ := bindP_some h
    have key : ∃ v, indexV P ty x' i' = some v ∧ K v none := by
      split at h
      · rename_i el hu
        obtain ⟨z, h3, h⟩ := bindP_some h
        split at h
        · rename_i hagg
          obtain ⟨v, h4, h⟩ := bindP_some h
          refine ⟨v, ?_, h⟩
          obtain ⟨j, h5, h6⟩ := bind_some' h4
          obtain ⟨a, h7, h8⟩ := bind_some' h6
          cases asAgg_some h7
          unfold indexV
          rw [h5]
          simp only [Option.bind, hu, h3]
          split at h8
          · rename_i g1 g2
            rw [g1]; simp only [partV, hagg]; rw [h3]; simp only [Option.bind]; rw [g2]; exact h8
          · cases h8
        · rename_i hagg
          obtain ⟨v, h4, h⟩ := bindP_some h
          refine ⟨v, ?_, h⟩
          obtain ⟨j, h5, h6⟩ := bind_some' h4
          obtain ⟨a, h7, h8⟩ := bind_some' h6
          cases asAgg_some h7
          unfold indexV
          rw [h5]
          simp only [Option.bind, hu, h3]
          split at h8
          · rename_i g1
            rw [g1]; simp only [partV, hagg]; exact h8
          · cases h8
        · exact h.elim
      · rename_i hu
        obtain ⟨v, h4, h⟩ := bindP_some h
        refine ⟨v, ?_, h⟩
        obtain ⟨j, h5, h6⟩ := bind_some' h4
        unfold indexV
        rw [h5]
        simp only [Option.bind, hu]
        split at h6
        · exact h6
        · cases h6
      · exact h.elim
    obtain ⟨v, h3, h⟩ := key
    exact ⟨v, none, by simp only [opQ]; rw [evl_env, evl_env, h1, h2]; show (indexV P ty x' i').bind _ = _; rw [h3]; rfl, h⟩
  | lookup ty x k ok =>
    obtain ⟨x', h1, h⟩ := bindP_some h
    obtain ⟨k', h2, h⟩ := bindP_some h
    obtain ⟨v, h3, h⟩ := bindP_some h
    exact ⟨v, none, by simp only [opQ]; rw [evl_env, evl_env, h1, h2]; show (lookV P hp ty x' k' ok).bind _ = _; rw [h3]; rfl, h⟩
  | extract x i =>
    obtain ⟨v, h1, h⟩ := bindP_some h
    obtain ⟨u, h2, h⟩ := bindP_some h
    refine ⟨u, none, ?_, h⟩
    simp only [opQ]; rw [evl_env, h1]
    unfold nth at h2
    split at h2
    · simp only [Option.bind]; rw [h2]
    · cases h2
  | call c =>
    obtain ⟨callee, args, ts⟩ := c
    cases callee with
    | builtin b =>
      obtain ⟨vs, h1, h⟩ := bindP_some h
      have key : ∃ v, builtinQ P hp b ts vs = some v ∧ K v none := by
        split at h
        · rename_i x ty hty hzz
          have hb : ∀ v, lenV P hp ty x = some v → builtinQ P hp .len ts [x] = some v := by
            intro v hv
            unfold builtinQ
            simp only
            rw [hty]; exact hv
          split at h
          · rename_i hu
            obtain ⟨v, h2, h⟩ := bindP_some h
            refine ⟨v, hb v ?_, h⟩
            unfold lenStr at h2
            split at h2
            · cases h2; simp only [lenV, hu]
            · cases h2
          · rename_i hu
            obtain ⟨v, h2, h⟩ := bindP_some h
            refine ⟨v, hb v ?_, h⟩
            unfold lenSl at h2
            split at h2
            · cases h2; simp only [lenV, hu]
            · cases h2
          · obtain ⟨v, h2, h⟩ := bindP_some h
            exact ⟨v, hb v h2, h⟩
        · exact bindP_some h
      obtain ⟨v, h2, h⟩ := key
      exact ⟨v, none, by simp only [opQ]; rw [evlL_env, h1]; show (builtinQ P hp b ts vs).bind _ = _; rw [h2]; rfl, h⟩
    | _ => exact h.elim
  | _ => exact h.elim
end
end V
end Go.Proofs.YtjndkdmkecpllaaGreat
set_option linter.unusedVariables false
set_option linter.unusedSimpArgs false
noncomputable section
namespace Go.Proofs.YtjndkdmkecpllaaGreat
namespace V
def LeC (C C' : CallR) : Prop := ∀ f args h nx v h' nx', C f args h nx v h' nx' → C' f args h nx v h' nx'
section
variable {P : Program} {ro : Ro}
theorem opL_le {C C' : CallR} (hC : LeC C C') {t : T Value} {h h' : T Obj} {nx nx' : Nat} {op : Op} {v : Value} (hl : opL P ro C t h nx op v h' nx') : opL P ro C' t h nx op v h' nx' := by
  cases op with
  | call c =>
    obtain ⟨callee, args, ts⟩ := c
    cases callee with
    | value f =>
      obtain ⟨k, a, b, vs, h1, h2, h3⟩ := hl
      exact ⟨k, a, b, vs, h1, h2, hC _ _ _ _ _ _ _ h3⟩
    | builtin b => exact hl
    | invoke r m => exact hl
  | _ => exact hl
theorem opR_le {C C' : CallR} (hC : LeC C C') {t : T Value} {h h' : T Obj} {nx aid nx' : Nat} {op : Op} {v : Value} (hl : opR P ro C t h nx aid op v h' nx') : opR P ro C' t h nx aid op v h' nx' := by
  unfold opR at hl ⊢
  cases hq : loud op with
  | true => rw [hq] at hl; exact opL_le hC hl
  | false => rw [hq] at hl; exact hl
theorem opsR_le {C C' : CallR} (hC : LeC C C') {n : Nat} {ops : Array Oper} : ∀ (l : List Oper) (s s' : St), opsR P ro C n ops l s s' → opsR P ro C' n ops l s s' := by
  intro l
  induction l with
  | nil => intro s s' h; exact h
  | cons o l ih =>
    intro s s' h
    simp only [opsR] at h ⊢
    cases hw : wanted ops s.t o with
    | true => rw [hw] at h; obtain ⟨v, h', nx', t', h1, h2, h3⟩ := h; exact ⟨v, h', nx', t', opR_le hC h1, h2, ih _ _ h3⟩
    | false => rw [hw] at h; obtain ⟨t', h1, h2⟩ := h; exact ⟨t', h1, ih _ _ h2⟩
theorem opsD_le {C C' : CallR} (hC : LeC C C') {n n0 : Nat} {ops : Array Oper} : ∀ (l : List Oper) (i : Nat) (ls : List (Nat × Nat)) (ms : List (Nat × T Obj × T Obj)) (s s' : St), opsD P ro C n ops n0 l i ls ms s s' → opsD P ro C' n ops n0 l i ls ms s s' := by
  intro l
  induction l with
  | nil => intro i ls ms s s' h; exact h
  | cons o l ih =>
    intro i ls ms s s' h
    simp only [opsD] at h ⊢
    cases hw : wanted ops s.t o with
    | true =>
      rw [hw] at h; obtain ⟨v, h', nx', t', h1, h2, h3⟩ := h
      refine ⟨v, h', nx', t', opR_le hC h1, h2, ?_⟩
      cases hq : loud o.op with
      | true => rw [hq] at h3; exact ⟨h3.1, ih _ _ _ _ _ h3.2⟩
      | false =>
        rw [hq] at h3
        simp only at h3 ⊢
        cases hla : rdB P s.t o.op with
        | none => rw [hla] at h3; exact ih _ _ _ _ _ h3
        | some a => rw [hla] at h3; exact ⟨h3.1, ih _ _ _ _ _ h3.2⟩
    | false => rw [hw] at h; obtain ⟨t', h1, h2⟩ := h; exact ⟨t', h1, ih _ _ _ _ _ h2⟩
def LeX (X X' : CodeR) : Prop := ∀ n c s e s', X n c s e s' → X' n c s e s'
theorem callR_le {X X' : CodeR} (hX : LeX X X') : LeC (callR P ro X) (callR P ro X') := by
  rintro f args h nx v h' nx' (⟨fn, body, e, s, vs, h1, h2, h3, h4, h5⟩ | ho)
  · exact .inl ⟨fn, body, e, s, vs, h1, h2, h3, hX _ _ _ _ _ h4, h5⟩
  · exact .inr ho
theorem codeB_le {X X' : CodeR} (hX : LeX X X') : LeX (codeB P ro X) (codeB P ro X') := by
  intro n c s e s' h
  cases c with
  | seq a b =>
    rcases h with ⟨s1, h1, h2⟩ | ⟨h1, h2⟩
    · exact .inl ⟨s1, hX _ _ _ _ _ h1, hX _ _ _ _ _ h2⟩
    · exact .inr ⟨h1, hX _ _ _ _ _ h2⟩
  | cond c a b => obtain ⟨v, h1, h2⟩ := h; exact ⟨v, h1, hX _ _ _ _ _ h2⟩
  | block id b => obtain ⟨e1, h1, h2⟩ := h; exact ⟨e1, hX _ _ _ _ _ h1, h2⟩
  | loop b =>
    rcases h with ⟨s1, hh, h1, h3, h2⟩ | ⟨h1, h2⟩
    · exact .inl ⟨s1, hh, hX _ _ _ _ _ h1, h3, hX _ _ _ _ _ h2⟩
    · exact .inr ⟨h1, hX _ _ _ _ _ h2⟩
  | scope b => exact hX _ _ _ _ _ h
  | region id ops draw =>
    obtain ⟨h1, h2⟩ := h
    refine ⟨h1, ?_⟩
    cases draw with
    | false => exact opsR_le (callR_le hX) _ _ _ h2
    | true => exact ⟨h2.1, opsD_le (callR_le hX) _ _ _ _ _ _ h2.2⟩
  | _ => exact h
theorem code_step : ∀ k, LeX (code P ro k) (code P ro (k + 1)) := by
  intro k
  induction k with
  | zero => intro n c s e s' h; exact h.elim
  | succ k ih => exact codeB_le ih
theorem code_le {k k' : Nat} (h : k ≤ k') : LeX (code P ro k) (code P ro k') := by
  induction h with
  | refl => intro n c s e s' h; exact h
  | step _ ih => intro n c s e s' h; exact code_step _ _ _ _ _ _ (ih _ _ _ _ _ h)
theorem call_le {k k' : Nat} (h : k ≤ k') : LeC (call P ro k) (call P ro k') := callR_le (code_le h)
variable {t : T Value} {h : T Obj} {nx : Nat}
theorem ptL_sound {op : Op} {K : KV} (hl : ptL P ro (callP P ro) (envOf t) h nx op K) : ∃ k v h' nx', opL P ro (call P ro k) t h nx op v h' nx' ∧ K v h' nx' := by
  cases op with
  | store ty a x =>
    obtain ⟨a', h1, hl⟩ := bindP_some hl
    obtain ⟨x', h2, hl⟩ := bindP_some hl
    obtain ⟨n, h3, hl⟩ := bindP_some hl
    obtain ⟨h', h4, hl⟩ := bindP_some hl
    obtain ⟨ad, h5, h6⟩ := bind_some' h4
    refine ⟨0, _, _, _, ⟨a', x', by rw [evl_env]; exact h1, by rw [evl_env]; exact h2, ?_, rfl, rfl⟩, hl⟩
    rw [asP_some h5]
    simp only [storeV]
    rw [h3]; exact h6
  | mapUpdate ty m k x | insert ty m k x =>
    obtain ⟨m', h1, hl⟩ := bindP_some hl
    obtain ⟨k', h2, hl⟩ := bindP_some hl
    obtain ⟨x', h3, hl⟩ := bindP_some hl
    obtain ⟨h', h4, hl⟩ := bindP_some hl
    exact ⟨0, _, _, _, ⟨m', k', x', by rw [evl_env]; exact h1, by rw [evl_env]; exact h2, by rw [evl_env]; exact h3, h4, rfl, rfl⟩, hl⟩
  | call c =>
    obtain ⟨callee, args, ts⟩ := c
    cases callee with
    | builtin b =>
      obtain ⟨vs, h1, hl⟩ := bindP_some hl
      cases b <;> try (exact hl.elim)
      case append =>
        obtain ⟨r, h2, hl⟩ := bindP_some hl
        exact ⟨0, r.1, r.2.1, r.2.2, ⟨vs, by rw [evlL_env]; exact h1, h2⟩, hl⟩
      case clear =>
        simp only at hl
        split at hl
        · rename_i m ty hty
          obtain ⟨u, h2, hl⟩ := bindP_some hl
          obtain ⟨h', h3, hl⟩ := bindP_some hl
          exact ⟨0, _, _, _, ⟨_, by rw [evlL_env]; exact h1, _, _, rfl, hty, by rw [h2]; rfl, h3, rfl, rfl⟩, hl⟩
        · exact hl.elim
      case copy =>
        obtain ⟨r, h2, hl⟩ := bindP_some hl
        exact ⟨0, r.1, r.2.1, r.2.2, ⟨vs, by rw [evlL_env]; exact h1, h2⟩, hl⟩
    | value f =>
      obtain ⟨fv, h1, hl⟩ := bindP_some hl
      obtain ⟨vs, h2, hl⟩ := bindP_some hl
      unfold callF at hl
      split at hl
      · rename_i k a b _
        obtain ⟨fu, v, h', nx', h3, h4⟩ := hl
        exact ⟨fu, v, h', nx', ⟨k, a, b, vs, by rw [evl_env]; exact h1, by rw [evlL_env]; exact h2, h3⟩, h4⟩
      · exact hl.elim
    | invoke r m => exact hl.elim
  | convert sx dx x =>
    obtain ⟨x', h1, hl⟩ := bindP_some hl
    obtain ⟨r, h2, hl⟩ := bindP_some hl
    exact ⟨0, r.1, r.2, nx, ⟨x', by rw [evl_env]; exact h1, h2, rfl⟩, hl⟩
  | _ => exact hl.elim
theorem ptO_sound {aid : Nat} {op : Op} {K : KV} (hl : ptO P ro (callP P ro) (envOf t) h nx aid op K) : ∃ k v h' nx', opR P ro (call P ro k) t h nx aid op v h' nx' ∧ K v h' nx' := by
  unfold ptO at hl
  unfold opR
  cases hq : loud op with
  | true => rw [hq] at hl; exact ptL_sound hl
  | false =>
    rw [hq] at hl
    obtain ⟨v, ob, h1, h2⟩ := ptQ_sound hl
    exact ⟨0, v, _, nx, ⟨ob, h1, rfl, rfl⟩, h2⟩
def gTrue (g : Gd) : Prop := match g with
  | none => True
  | some vw => vw.1 = .bool vw.2
theorem onP_true {g : Gd} {X : Prop} (h : onP g X) (hg : gTrue g) : X := by
  cases g with
  | none => exact h
  | some vw => exact h hg
theorem gdP_sound {ops : Array Oper} {o : Oper} {F : Gd → Prop} (hg : gdP ops (envOf t) o.guard F) :
    ∃ g, F g ∧ (∀ h nx A K, wrapG g h nx A K → (wanted ops t o = true ∧ A K) ∨ (wanted ops t o = false ∧ K undef h nx)) ∧ (wanted ops t o = true → gTrue g) := by
  unfold gdP at hg
  unfold wanted
  cases hgd : o.guard with
  | none => rw [hgd] at hg; exact ⟨none, hg, fun h nx A K hA => .inl ⟨rfl, hA⟩, fun _ => trivial⟩
  | some jw =>
    obtain ⟨j, w⟩ := jw
    rw [hgd] at hg
    simp only at hg ⊢
    cases hd : (ops[j]?).bind (·.dst) with
    | none => rw [hd] at hg; exact hg.elim
    | some d =>
      rw [hd] at hg
      simp only at hg ⊢
      refine ⟨_, hg, ?_, ?_⟩
      · intro h nx A K hA
        unfold wrapG ifP at hA
        simp only at hA
        split at hA
        · rename_i b hb
          have hb' : t.get d = some (.bool b) := by
            unfold envOf at hb
            cases ht : t.get d with
            | none => rw [ht] at hb; cases hb
            | some v => rw [ht] at hb; exact congrArg some hb
          rw [hb']
          simp only
          cases hbw : b == w with
          | true => rw [hbw] at hA; exact .inl ⟨rfl, hA⟩
          | false => rw [hbw] at hA; exact .inr ⟨rfl, hA⟩
        · rename_i hnb
          right
          refine ⟨?_, hA⟩
          cases ht : t.get d with
          | none => rfl
          | some v =>
            cases v with
            | bool b => exact absurd (show envOf t d = .bool b by unfold envOf; rw [ht]; rfl) (hnb b)
            | _ => rfl
      · intro hw
        unfold gTrue
        simp only
        split at hw
        · rename_i b hb
          have : b = w := by simpa using hw
          subst this
          unfold envOf; rw [hb]; rfl
        · cases hw
theorem putP_sound {n : Nat} {d : Option Tmp} {v : Value} {K : Env → Prop} (hp : putP n (envOf t) d v K) : ∃ t', put n t d v = some t' ∧ K (envOf t') := by
  cases d with
  | none => exact ⟨t, rfl, hp⟩
  | some d =>
    unfold putP at hp
    simp only at hp
    cases hb : Nat.blt d n with
    | true => rw [hb] at hp; exact ⟨t.upd d (some v), by simp only [put]; rw [hb], by rw [envOf_upd]; exact hp⟩
    | false => rw [hb] at hp; exact hp.elim
theorem ptOps_sound {n : Nat} {ops : Array Oper} : ∀ (l : List Oper) (t : T Value) (h : T Obj) (nx : Nat) (Q : Env → T Obj → Nat → Prop), ptOps P ro (callP P ro) n ops l (envOf t) h nx Q →
    ∃ k s', opsR P ro (call P ro k) n ops l ⟨t, h, nx⟩ s' ∧ Q (envOf s'.t) s'.h s'.nx := by
  intro l
  induction l with
  | nil => intro t h nx Q hl; exact ⟨0, _, rfl, hl⟩
  | cons o l ih =>
    intro t h nx Q hl
    obtain ⟨g, h1, h2, _⟩ := gdP_sound hl
    simp only [opsR]
    rcases h2 _ _ _ _ h1 with ⟨hw, hA⟩ | ⟨hw, hK⟩
    · obtain ⟨k1, v, h', nx', h3, h4⟩ := ptO_sound hA
      obtain ⟨t', h5, h6⟩ := putP_sound h4
      obtain ⟨k2, s', h7, h8⟩ := ih t' h' nx' Q h6
      refine ⟨max k1 k2, s', ?_, h8⟩
      rw [hw]
      exact ⟨v, h', nx', t', opR_le (call_le (Nat.le_max_left _ _)) h3, h5, opsR_le (call_le (Nat.le_max_right _ _)) _ _ _ h7⟩
    · obtain ⟨t', h5, h6⟩ := putP_sound hK
      obtain ⟨k2, s', h7, h8⟩ := ih t' h nx Q h6
      refine ⟨k2, s', ?_, h8⟩
      rw [hw]
      exact ⟨t', h5, h7⟩
theorem nthN_getD : ∀ (l : List Nat) (i : Nat), nthN l i = l.getD i 0
  | [], _ => by simp [nthN]
  | _ :: _, 0 => rfl
  | _ :: r, n + 1 => by simp [nthN, nthN_getD r n]
theorem freeL_eq (ops : Array Oper) (i j : Nat) : freeL (bef ops).toList i j = free (bef ops) i j := by
  unfold freeL free
  rw [nthN_getD]; simp
theorem drawOkL_eq (ops : Array Oper) : drawOkL P ops (bef ops).toList = drawOk P ops := by
  unfold drawOkL drawOk
  simp only [freeL_eq]
  rfl
theorem revK_eq {α : Type} (K : List Nat → α) : ∀ (l o : List Nat), revK K l o = K (l.reverse ++ o)
  | [], o => rfl
  | x :: r, o => by rw [revK, revK_eq K r]; simp
theorem befK_eq' {α : Type} (K : List Nat → α) : ∀ (l : List Oper) (j : Nat) (acc : List Nat), befK K l j acc = K (CheckFast.beforeL l j acc)
  | [], j, acc => by rw [befK, revK_eq, CheckFast.beforeL]; simp
  | o :: r, j, acc => by rw [befK, CheckFast.force_eq, befK_eq' K r, CheckFast.beforeL, CheckFast.force_eq]
theorem befK_eq {α : Type} (K : List Nat → α) (ops : Array Oper) : befK K ops.toList 0 [] = K (bef ops).toList := by
  rw [befK_eq']
  have := CheckFast.beforeF_eq ops
  unfold bef
  rw [← this]
  rfl
theorem sameL_spec {b : List Nat} {i : Nat} {h h' : T Obj} {K : Prop} : ∀ {lp : List (Nat × Gd × Value)}, sameL b i h h' lp K → K ∧ ∀ q ∈ lp, freeL b q.1 i = true → onP q.2.1 (sameV q.2.2 h h') := by
  intro lp
  induction lp with
  | nil => intro h; exact ⟨h, fun q hq => by cases hq⟩
  | cons q lp ih =>
    intro hs
    simp only [sameL] at hs
    cases hf : freeL b q.1 i with
    | true =>
      rw [hf] at hs
      obtain ⟨h1, h2⟩ := ih hs.2
      refine ⟨h1, fun x hx hfx => ?_⟩
      rcases List.mem_cons.1 hx with rfl | hx
      · exact hs.1
      · exact h2 x hx hfx
    | false =>
      rw [hf] at hs
      obtain ⟨h1, h2⟩ := ih hs
      refine ⟨h1, fun x hx hfx => ?_⟩
      rcases List.mem_cons.1 hx with rfl | hx
      · rw [hf] at hfx; cases hfx
      · exact h2 x hx hfx
theorem sameM_spec {b : List Nat} {i : Nat} {v : Value} {K : Prop} : ∀ {mp : List (Nat × Gd × T Obj × T Obj)}, sameM b i v mp K → K ∧ ∀ q ∈ mp, freeL b q.1 i = true → onP q.2.1 (sameV v q.2.2.1 q.2.2.2) := by
  intro mp
  induction mp with
  | nil => intro h; exact ⟨h, fun q hq => by cases hq⟩
  | cons q mp ih =>
    intro hs
    simp only [sameM] at hs
    cases hf : freeL b q.1 i with
    | true =>
      rw [hf] at hs
      obtain ⟨h1, h2⟩ := ih hs.2
      refine ⟨h1, fun x hx hfx => ?_⟩
      rcases List.mem_cons.1 hx with rfl | hx
      · exact hs.1
      · exact h2 x hx hfx
    | false =>
      rw [hf] at hs
      obtain ⟨h1, h2⟩ := ih hs
      refine ⟨h1, fun x hx hfx => ?_⟩
      rcases List.mem_cons.1 hx with rfl | hx
      · rw [hf] at hfx; cases hfx
      · exact h2 x hx hfx
theorem rdVal_env {t : T Value} (op : Op) : rdVal P t op = rdE P (envOf t) op := by
  cases op with
  | load ty x => exact evl_env x
  | lookup ty x k ok => exact evl_env x
  | convert sx dx x =>
    simp only [rdVal, rdE]; rw [evl_env]
    cases und P sx with
    | none => rfl
    | some d => cases d <;> rfl
  | call c =>
    obtain ⟨callee, args, ts⟩ := c
    cases callee with
    | builtin b =>
      simp only [rdVal, rdE]; rw [evlL_env]
      cases (ts[0]?).bind (und P) with
      | none => rfl
      | some d => cases d <;> try rfl
                  all_goals (simp only; cases evsE (envOf t) args.toList with
                    | none => rfl
                    | some l => cases l with
                      | nil => rfl
                      | cons a r => cases r <;> rfl)
    | _ => rfl
  | _ => rfl
def RL (ls : List (Nat × Nat)) (lp : List (Nat × Gd × Value)) : Prop := ∀ q ∈ ls, ∃ g v, (q.1, g, v) ∈ lp ∧ gTrue g ∧ blk v = some q.2
def RM (ms : List (Nat × T Obj × T Obj)) (mp : List (Nat × Gd × T Obj × T Obj)) : Prop := ∀ q ∈ ms, ∃ g, (q.1, g, q.2) ∈ mp ∧ gTrue g
theorem RL.more {ls : List (Nat × Nat)} {lp : List (Nat × Gd × Value)} (h : RL ls lp) (x : Nat × Gd × Value) : RL ls (x :: lp) := fun q hq => by
  obtain ⟨g, v, h1, h2⟩ := h q hq
  exact ⟨g, v, List.mem_cons_of_mem _ h1, h2⟩
theorem RM.more {ms : List (Nat × T Obj × T Obj)} {mp : List (Nat × Gd × T Obj × T Obj)} (h : RM ms mp) (x : Nat × Gd × T Obj × T Obj) : RM ms (x :: mp) := fun q hq => by
  obtain ⟨g, h1, h2⟩ := h q hq
  exact ⟨g, List.mem_cons_of_mem _ h1, h2⟩
theorem ptD_sound {n n0 : Nat} {ops : Array Oper} : ∀ (l : List Oper) (i : Nat) (ls : List (Nat × Nat)) (ms : List (Nat × T Obj × T Obj)) (lp : List (Nat × Gd × Value)) (mp : List (Nat × Gd × T Obj × T Obj)) (t : T Value) (h : T Obj) (nx : Nat) (Q : Env → T Obj → Nat → Prop),
    RL ls lp → RM ms mp → ptD P ro (callP P ro) n ops (bef ops).toList n0 l i lp mp (envOf t) h nx Q → ∃ k s', opsD P ro (call P ro k) n ops n0 l i ls ms ⟨t, h, nx⟩ s' ∧ Q (envOf s'.t) s'.h s'.nx := by
  intro l
  induction l with
  | nil => intro i ls ms lp mp t h nx Q _ _ hl; exact ⟨0, _, rfl, hl⟩
  | cons o l ih =>
    intro i ls ms lp mp t h nx Q hrl hrm hl
    obtain ⟨g, h1, h2, hgt⟩ := gdP_sound hl
    simp only [opsD]
    cases hq : loud o.op with
    | true =>
      rw [hq] at h1
      simp only at h1
      rcases h2 _ _ _ _ h1 with ⟨hw, hA⟩ | ⟨hw, hK⟩
      · obtain ⟨k1, v, h', nx', h3, h4⟩ := ptO_sound hA
        obtain ⟨h4, hsame⟩ := sameL_spec h4
        obtain ⟨t', h5, h6⟩ := putP_sound h4
        obtain ⟨k2, s', h7, h8⟩ := ih (i + 1) ls ((i, h, h') :: ms) lp ((i, g, h, h') :: mp) t' h' nx' Q hrl (fun q hq => by
          rcases List.mem_cons.1 hq with rfl | hq
          · exact ⟨g, by simp, hgt hw⟩
          · obtain ⟨g', e1, e2⟩ := hrm q hq
            exact ⟨g', List.mem_cons_of_mem _ e1, e2⟩) h6
        refine ⟨max k1 k2, s', ?_, h8⟩
        rw [hw]
        refine ⟨v, h', nx', t', opR_le (call_le (Nat.le_max_left _ _)) h3, h5, ?_, opsD_le (call_le (Nat.le_max_right _ _)) _ _ _ _ _ _ h7⟩
        intro q hqm hf
        obtain ⟨g', v', e1, e2, e3⟩ := hrl q hqm
        have := onP_true (hsame _ e1 (by rw [freeL_eq]; exact hf)) e2
        unfold sameV at this
        simp only [e3] at this
        exact this
      · obtain ⟨t', h5, h6⟩ := putP_sound hK
        obtain ⟨k2, s', h7, h8⟩ := ih (i + 1) ls ms lp ((i, g, h, h) :: mp) t' h nx Q hrl (hrm.more _) h6
        refine ⟨k2, s', ?_, h8⟩
        rw [hw]
        exact ⟨t', h5, h7⟩
    | false =>
      rw [hq] at h1
      simp only at h1
      cases hloc : rdE P (envOf t) o.op with
      | some a =>
        rw [hloc] at h1
        simp only at h1
        rcases h2 _ _ _ _ h1 with ⟨hw, hA⟩ | ⟨hw, hK⟩
        · obtain ⟨k1, v, h', nx', h3, h4⟩ := ptO_sound hA
          obtain ⟨h4, hsame⟩ := sameM_spec h4
          obtain ⟨t', h5, h6⟩ := putP_sound h4
          cases hla : rdB P t o.op with
          | none =>
            obtain ⟨k2, s', h7, h8⟩ := ih (i + 1) ls ms ((i, g, a) :: lp) mp t' h' nx' Q (hrl.more _) hrm h6
            refine ⟨max k1 k2, s', ?_, h8⟩
            rw [hw]
            exact ⟨v, h', nx', t', opR_le (call_le (Nat.le_max_left _ _)) h3, h5, opsD_le (call_le (Nat.le_max_right _ _)) _ _ _ _ _ _ h7⟩
          | some ad =>
            have ha : blk a = some ad := by
              unfold rdB at hla
              rw [rdVal_env, hloc] at hla
              exact hla
            obtain ⟨k2, s', h7, h8⟩ := ih (i + 1) ((i, ad) :: ls) ms ((i, g, a) :: lp) mp t' h' nx' Q (fun q hq => by
              rcases List.mem_cons.1 hq with rfl | hq
              · exact ⟨g, a, by simp, hgt hw, ha⟩
              · obtain ⟨g', v', e1, e2⟩ := hrl q hq
                exact ⟨g', v', List.mem_cons_of_mem _ e1, e2⟩) hrm h6
            refine ⟨max k1 k2, s', ?_, h8⟩
            rw [hw]
            refine ⟨v, h', nx', t', opR_le (call_le (Nat.le_max_left _ _)) h3, h5, ?_, opsD_le (call_le (Nat.le_max_right _ _)) _ _ _ _ _ _ h7⟩
            intro q hqm hf
            obtain ⟨g', e1, e2⟩ := hrm q hqm
            have := onP_true (hsame _ e1 (by rw [freeL_eq]; exact hf)) e2
            unfold sameV at this
            simp only [ha] at this
            exact this
        · obtain ⟨t', h5, h6⟩ := putP_sound hK
          obtain ⟨k2, s', h7, h8⟩ := ih (i + 1) ls ms ((i, g, a) :: lp) mp t' h nx Q (hrl.more _) hrm h6
          refine ⟨k2, s', ?_, h8⟩
          rw [hw]
          exact ⟨t', h5, h7⟩
      | none =>
        rw [hloc] at h1
        simp only at h1
        have hla : rdB P t o.op = none := by
          unfold rdB
          rw [rdVal_env, hloc]; rfl
        rcases h2 _ _ _ _ h1 with ⟨hw, hA⟩ | ⟨hw, hK⟩
        · obtain ⟨k1, v, h', nx', h3, h4⟩ := ptO_sound hA
          obtain ⟨t', h5, h6⟩ := putP_sound h4
          obtain ⟨k2, s', h7, h8⟩ := ih (i + 1) ls ms lp mp t' h' nx' Q hrl hrm h6
          refine ⟨max k1 k2, s', ?_, h8⟩
          rw [hw, hla]
          exact ⟨v, h', nx', t', opR_le (call_le (Nat.le_max_left _ _)) h3, h5, opsD_le (call_le (Nat.le_max_right _ _)) _ _ _ _ _ _ h7⟩
        · obtain ⟨t', h5, h6⟩ := putP_sound hK
          obtain ⟨k2, s', h7, h8⟩ := ih (i + 1) ls ms lp mp t' h nx Q hrl hrm h6
          refine ⟨k2, s', ?_, h8⟩
          rw [hw]
          exact ⟨t', h5, h7⟩
def CodeP (P : Program) (ro : Ro) (n : Nat) (c : Code) (t : T Value) (h : T Obj) (nx : Nat) (Q : KE) : Prop := ∃ k x s', code P ro k n c ⟨t, h, nx⟩ x s' ∧ Q x (envOf s'.t) s'.h s'.nx
theorem iterP_sound {n : Nat} {b : Code} (ihb : ∀ (t : T Value) (h : T Obj) (nx : Nat) (Q : KE), pt P ro (callP P ro) n b (envOf t) h nx Q → CodeP P ro n b t h nx Q) :
    ∀ (j : Nat) (t : T Value) (h : T Obj) (nx : Nat) (Q : KE), iterP (pt P ro (callP P ro) n b) j (envOf t) h nx Q → CodeP P ro n (.loop b) t h nx Q := by
  intro j
  induction j with
  | zero => intro t h nx Q hi; exact hi.elim
  | succ j ih =>
    intro t h nx Q hi
    obtain ⟨k1, x, s1, h1, h2⟩ := ihb _ _ _ _ hi
    cases x with
    | normal =>
      obtain ⟨hh, h3, h4⟩ := h2
      obtain ⟨k2, x, s2, h5, h6⟩ := ih s1.t hh s1.nx Q h4
      exact ⟨max k1 k2 + 1, x, s2, .inl ⟨s1, hh, code_le (Nat.le_max_left _ _) _ _ _ _ _ h1, h3, code_le (Nat.le_max_right _ _) _ _ _ _ _ h5⟩, h6⟩
    | exit id => exact ⟨k1 + 1, _, s1, .inr ⟨by simp, h1⟩, h2⟩
    | ret => exact ⟨k1 + 1, _, s1, .inr ⟨by simp, h1⟩, h2⟩
theorem pt_sound {n : Nat} : ∀ (c : Code) (t : T Value) (h : T Obj) (nx : Nat) (Q : KE), pt P ro (callP P ro) n c (envOf t) h nx Q → CodeP P ro n c t h nx Q := by
  intro c
  induction c with
  | skip | label => intro t h nx Q hp; exact ⟨1, .normal, _, ⟨rfl, rfl⟩, hp⟩
  | ret => intro t h nx Q hp; exact ⟨1, .ret, _, ⟨rfl, rfl⟩, hp⟩
  | exit id => intro t h nx Q hp; exact ⟨1, .exit id, _, ⟨rfl, rfl⟩, hp⟩
  | seq a b iha ihb =>
    intro t h nx Q hp
    obtain ⟨k1, x, s1, h1, h2⟩ := iha _ _ _ _ hp
    cases x with
    | normal =>
      obtain ⟨k2, x, s2, h5, h6⟩ := ihb _ _ _ _ h2
      exact ⟨max k1 k2 + 1, x, s2, .inl ⟨s1, code_le (Nat.le_max_left _ _) _ _ _ _ _ h1, code_le (Nat.le_max_right _ _) _ _ _ _ _ h5⟩, h6⟩
    | exit id => exact ⟨k1 + 1, _, s1, .inr ⟨by simp, h1⟩, h2⟩
    | ret => exact ⟨k1 + 1, _, s1, .inr ⟨by simp, h1⟩, h2⟩
  | cond c a b iha ihb =>
    intro t h nx Q hp
    obtain ⟨v, h1, h2⟩ := bindP_some hp
    rw [← evl_env] at h1
    unfold condP at h2
    split at h2
    · obtain ⟨k, x, s1, h3, h4⟩ := iha _ _ _ _ h2
      exact ⟨k + 1, x, s1, ⟨true, h1, h3⟩, h4⟩
    · obtain ⟨k, x, s1, h3, h4⟩ := ihb _ _ _ _ h2
      exact ⟨k + 1, x, s1, ⟨false, h1, h3⟩, h4⟩
    · exact h2.elim
  | block id b ihb =>
    intro t h nx Q hp
    obtain ⟨k, x, s1, h1, h2⟩ := ihb _ _ _ _ hp
    cases x with
    | normal => exact ⟨k + 1, _, s1, ⟨_, h1, rfl⟩, h2⟩
    | ret => exact ⟨k + 1, _, s1, ⟨_, h1, rfl⟩, h2⟩
    | exit i =>
      refine ⟨k + 1, _, s1, ⟨_, h1, rfl⟩, ?_⟩
      have h2 : beqP (Nat.beq i id) (Q .normal (envOf s1.t) s1.h s1.nx) (Q (.exit i) (envOf s1.t) s1.h s1.nx) := h2
      simp only at ⊢
      cases hb : Nat.beq i id with
      | true => rw [hb] at h2; exact h2
      | false => rw [hb] at h2; exact h2
  | loop b ihb =>
    rintro t h nx Q ⟨j, hp⟩
    exact iterP_sound ihb j t h nx Q hp
  | scope b ihb =>
    intro t h nx Q hp
    obtain ⟨k, x, s1, h1, h2⟩ := ihb _ _ _ _ hp
    exact ⟨k + 1, x, s1, h1, h2⟩
  | region id ops draw =>
    intro t h nx Q hp
    cases draw with
    | false =>
      obtain ⟨k, s', h1, h2⟩ := ptOps_sound _ _ _ _ _ hp
      exact ⟨k + 1, .normal, s', ⟨rfl, h1⟩, h2⟩
    | true =>
      simp only [pt] at hp
      rw [befK_eq, drawOkL_eq] at hp
      cases hd : drawOk P ops with
      | false => rw [hd] at hp; exact hp.elim
      | true =>
        rw [hd] at hp
        obtain ⟨k, s', h1, h2⟩ := ptD_sound (P := P) (ro := ro) ops.toList 0 [] [] [] [] t h (nx + ops.size) (Q .normal) (fun q hq => by cases hq) (fun q hq => by cases hq) hp
        exact ⟨k + 1, .normal, s', ⟨rfl, hd, h1⟩, h2⟩
  | _ => intro t h nx Q hp; exact hp.elim
theorem resE_sound {t : T Value} {h : T Obj} : ∀ (rs : List ResultVar) (K : List Value → Prop), resE P ro (envOf t) h rs K → ∃ vs, resV P ro h t rs = some vs ∧ K vs := by
  intro rs
  induction rs with
  | nil => intro K hr; exact ⟨[], rfl, hr⟩
  | cons r rs ih =>
    intro K hr
    cases r with
    | tmp i =>
      obtain ⟨vs, h1, h2⟩ := ih _ hr
      exact ⟨_, by simp only [resV]; rw [h1]; rfl, h2⟩
    | cell a ty =>
      have key : ∃ ad v, envOf t a = .pointer (some ad) ∧ loadV P ro h ty ad = some v ∧ resE P ro (envOf t) h rs fun vs => K (v :: vs) := by
        simp only [resE] at hr
        split at hr
        · rename_i hagg
          obtain ⟨n, h1, hr⟩ := bindP_some hr
          obtain ⟨v, h2, hr⟩ := bindP_some hr
          obtain ⟨ad, h3, h4⟩ := bind_some' h2
          exact ⟨ad, v, asP_some h3, by unfold loadV; rw [hagg]; show (siz P ty).bind _ = _; rw [h1]; exact h4, hr⟩
        · rename_i hagg
          obtain ⟨v, h2, hr⟩ := bindP_some hr
          obtain ⟨ad, h3, h4⟩ := bind_some' h2
          exact ⟨ad, v, asP_some h3, by unfold loadV; rw [hagg]; exact h4, hr⟩
        · exact hr.elim
      obtain ⟨ad, v, h1, h2, h3⟩ := key
      obtain ⟨vs, h4, h5⟩ := ih _ h3
      refine ⟨_, ?_, h5⟩
      simp only [resV]
      have : (t.get a).getD undef = .pointer (some ad) := h1
      rw [this]
      simp only
      rw [h2, h4]; rfl
theorem envOf_entry {vs : List Value} : envOf (entryT vs 0 .e) = entE vs := by
  funext i
  unfold envOf entE
  rw [entryT_get]
  by_cases hi : i < vs.length
  · rw [if_pos (by omega), Nat.sub_zero]
  · rw [if_neg (by omega), T.get_e, List.getElem?_eq_none (by omega)]
theorem callP_of {f : FuncId} {fn : Func} {body : Code} {vs : List Value} {K : KV} (h1 : P.funcs[f]? = some fn) (h2 : fn.body = some body) (h3 : Nat.ble vs.length fn.ntmps = true)
    (hp : pt P ro (callP P ro) fn.ntmps body (entE vs) h nx (endP P ro fn.results.toList K)) : callP P ro f vs h nx K := by
  rw [← envOf_entry] at hp
  obtain ⟨k, x, s', h4, h5⟩ := pt_sound _ _ _ _ _ hp
  have key : (x = .normal ∨ x = .ret) ∧ resE P ro (envOf s'.t) s'.h fn.results.toList fun vs => ∃ h', Sub h' s'.h ∧ K (resOf vs) h' s'.nx := by
    cases x with
    | exit id => exact h5.elim
    | normal => exact ⟨.inl rfl, h5⟩
    | ret => exact ⟨.inr rfl, h5⟩
  obtain ⟨hx, hr⟩ := key
  obtain ⟨ws, h6, h', h7, h8⟩ := resE_sound _ _ hr
  exact ⟨k, resOf ws, h', s'.nx, .inl ⟨fn, body, x, s', ws, h1, h2, Nat.le_of_ble_eq_true h3, h4, hx, h6, rfl, h7, rfl⟩, h8⟩
theorem callP_orc {f : FuncId} {v : Value} {K : KV} (ho : Orc P f v) (hK : K v h nx) : callP P ro f [] h nx K := ⟨0, v, h, nx, .inr (.inl ⟨rfl, ho, fun _ _ e => e, rfl⟩), hK⟩
theorem callP_by {f : FuncId} {fn : Func} {vs : List Value} {K : KV} (h1 : P.funcs[f]? = some fn) (h2 : fn.body.isSome = true) (h3 : Nat.ble vs.length fn.ntmps = true)
    (hp : callPre P ro (callP P ro) fn vs h nx K) : callP P ro f vs h nx K := by
  cases hb : fn.body with
  | none => rw [hb] at h2; cases h2
  | some b =>
    refine callP_of h1 hb h3 ?_
    unfold callPre bodyOf at hp
    rw [hb] at hp
    exact hp
end
end V
end Go.Proofs.YtjndkdmkecpllaaGreat
set_option linter.unusedVariables false
set_option linter.unusedSimpArgs false
noncomputable section
namespace Go.Proofs.YtjndkdmkecpllaaGreat
namespace V
open Go.RowKit
def noAddr : Addr := ⟨0, 0, none⟩
def norm (N : Nat) : Value → Option Value
  | .slice (some a) 0 0 => some (.slice (some noAddr) 0 0)
  | .slice (some a) l c => match a.spot, Nat.blt a.block N with
    | none, true => some (.slice (some a) l c)
    | _, _ => none
  | .pointer (some a) => match a.spot, Nat.blt a.block N with
    | none, true => some (.pointer (some a))
    | _, _ => none
  | v => match flat v with
    | true => some v
    | false => none
theorem norm_vr {N : Nat} {φ : Phi} {v v' : Value} (h : norm N v = some v') : VR N φ v' v := by
  unfold norm at h
  split at h
  · cases h; exact .sliceNo rfl
  · split at h
    · rename_i h1 h2
      cases h; exact .sliceRo h1 (by have := h2; simp [Nat.blt] at this; omega)
    · cases h
  · split at h
    · rename_i h1 h2
      cases h; exact .ptrRo h1 (by have := h2; simp [Nat.blt] at this; omega)
    · cases h
  · split at h
    · rename_i hf; cases h; exact .flat hf
    · cases h
def roOf (W : World) : Ro := fun a => match a.spot, Nat.blt a.block W.heap.size with
  | none, true => (W.cell? a).bind (norm W.heap.size)
  | _, _ => none
theorem roOf_sim (W : World) : Sim (roOf W) W.heap.size (fun _ => none) W (T.e : T Obj).get W where
  n := rfl
  le := Nat.le_refl _
  old := fun _ _ => rfl
  dom := fun k B o r h => by cases h
  inj := fun k k' B o r B' o' r' h => by rw [T.get_e] at h; exact absurd rfl h
  own := fun k o h => by rw [T.get_e] at h; cases h
  ro := fun a v h => by
    unfold roOf at h
    split at h
    · rename_i h1 h2
      obtain ⟨v', h3, h4⟩ := bind_some' h
      exact ⟨h1, by have := h2; simp [Nat.blt] at this; omega, v', h3, norm_vr h4⟩
    · cases h
def normL (N : Nat) : List Value → Option (List Value)
  | [] => some []
  | v :: l => (norm N v).bind fun v => (normL N l).bind fun l => some (v :: l)
inductive Arg (N : Nat) : Value → Value → Prop where
  | one {v v' : Value} (h : norm N v = some v') : Arg N v' v
  | agg {cs : Array Value} {l : List Value} (h : normL N cs.toList = some l) : Arg N (.agg l.toArray) (.agg cs)
theorem normL_lr {N : Nat} {φ : Phi} : ∀ {l l' : List Value}, normL N l = some l' → LR N φ l' l
  | [], l', h => by cases h; exact .nil
  | v :: l, l', h => by
    obtain ⟨v', h1, h⟩ := bind_some' h
    obtain ⟨r, h2, h⟩ := bind_some' h
    cases h
    exact .cons (norm_vr h1) (normL_lr h2)
theorem Arg.vr {N : Nat} {φ : Phi} {v v' : Value} (h : Arg N v v') : VR N φ v v' := by
  cases h with
  | one h => exact norm_vr h
  | agg h => exact .agg (by have := (normL_lr (φ := φ) h).length; simpa using this) fun i x y hx hy => (normL_lr h).get i x y (by simpa using hx) (by simpa using hy)
inductive Args (N : Nat) : List Value → List Value → Prop where
  | nil : Args N [] []
  | cons {v v' : Value} {l l' : List Value} (h : Arg N v v') (t : Args N l l') : Args N (v :: l) (v' :: l')
theorem Args.lr {N : Nat} {φ : Phi} {l l' : List Value} (h : Args N l l') : LR N φ l l' := by
  induction h with
  | nil => exact .nil
  | cons h _ ih => exact .cons h.vr ih
def Says (P : Program) (W : World) (f : FuncId) (vs : List Value) : Prop := callP P (roOf W) f vs .e 0 fun v _ _ => v = .bool true
theorem says_calls {P : Program} (hz : zerosOk P = true) (hn : namesOk P = true) (hm : P.follows .mixedOrders = true) {W : World} {f : FuncId} {vs : List Value} {args : Array Value}
    (ha : Args W.heap.size vs args.toList) (h : Says P W f vs) : Calls P f args W fun e W' => e = .returned (.bool true) ∧ Below W.heap.size W W' := by
  obtain ⟨k, v, h', nx', hc, rfl⟩ := h
  have hs : SS (roOf W) W.heap.size W (fun _ => none) .e 0 W := ⟨roOf_sim W, fun _ _ => rfl⟩
  refine ((call_sound (ro := roOf W) (N := W.heap.size) (w0 := W) hz hn hm _ _ _ _ _ _ _ hc).2 _ W args hs ha.lr).mono fun e W' ⟨v', φ', he, hst, hv⟩ => ?_
  subst he
  refine ⟨by rw [hv.of_flat rfl], ⟨hst.os, hst.tape, hst.output, hst.size, fun b hb => hst.frame b hb fun k B o r hk _ => absurd (T.get_e k) hk⟩⟩
section
open Go.ChangeShapes Go.WideShapes Go.ChangeAt
variable {H : Type} {enc : TypeId × Value → H} {P : Program}
theorem trodAll_below {W W' : World} (hl : laidOutB P = true) (hb : Below W.heap.size W W') : ∀ (ts : List TypeId) (vs : List Value) (ds : List (DataW H)) (ps : List MemPlace),
    (∀ t ∈ ts, P.readableRec t = true ∧ t < P.types.size) → (∀ x ∈ ps, x.block < W.heap.size) →
    DataW.TrodAll enc P W 0 (fun _ => true) true ts vs ds ps → DataW.TrodAll enc P W' 0 (fun b => decide (b < W.heap.size)) true ts vs ds ps := by
  intro ts
  induction ts with
  | nil =>
    intro vs ds ps _ _ h
    cases vs with
    | nil => cases ds with
      | nil => exact h
      | cons _ _ => exact h.elim
    | cons _ _ => exact h.elim
  | cons t ts ih =>
    intro vs ds ps hr hp h
    cases vs with
    | nil => exact h.elim
    | cons v vs =>
      cases ds with
      | nil => exact h.elim
      | cons d ds =>
        obtain ⟨p, q, h1, h2, rfl⟩ := h
        exact ⟨p, q, Below.trod hl (hr t (by simp)).1 (hr t (by simp)).2 h1 hb (fun x hx => hp x (by simp [hx])), ih _ _ _ (fun t ht => hr t (by simp [ht])) (fun x hx => hp x (by simp [hx])) h2, rfl⟩
theorem law_post {fn : Func} {s : ChangeSpec} {tb : TypeId} {W W' : World} {args : Array Value} {ds gs : List (DataW H)} {before : List MemPlace}
    (hl : laidOutB P = true) (hrow0 : (fn.params.toList.all fun t => P.readableRec t && decide (t < P.types.size)) = true) (hres : fn.resultTypes = #[tb]) (htb : P.underlying tb = some .bool) (hvars : s.vars = [])
    (hW : DataW.Whole enc P fn.params.toList s.vars false W args.toList ds gs before) (hb : Below W.heap.size W W')
    (hfn : s.fn H (ds ++ gs) = { results := [.lit (.bool true)], args := ds, vars := [] }) :
    s.post enc P fn false true false false W args (.bool true) W' := by
  have hrow : ∀ t ∈ fn.params.toList, P.readableRec t = true ∧ t < P.types.size := fun t ht => by
    have := List.all_eq_true.1 hrow0 t ht
    simpa using this
  have hW' := hW
  obtain ⟨p, q, hA, hV, rfl, hfz, hnd⟩ := hW
  refine ⟨ds, gs, p ++ q, [], p, [], hW', ?_, ?_, ?_, hb.frame _, fun h => by cases h⟩
  · rw [hfn, hres]
    exact trodAll_mk1 (shut_bool htb _)
  · rw [hfn]
    exact trodAll_below hl hb _ _ _ _ hrow (fun x hx => by have := hW'.lt x (by simp [hx]); simpa using this) hA
  · rw [hfn, hvars]; exact rfl
end
end V
end Go.Proofs.YtjndkdmkecpllaaGreat
set_option linter.unusedVariables false
set_option linter.unusedSimpArgs false
noncomputable section
namespace Go.Proofs.YtjndkdmkecpllaaGreat
namespace V
theorem bindP_some' {α : Type} (a : α) (K : α → Prop) : bindP (some a) K = K a := rfl
theorem condP_true (A B : Prop) : condP (.bool true) A B = A := rfl
theorem condP_false (A B : Prop) : condP (.bool false) A B = B := rfl
theorem ifP_tt (h : T Obj) (nx : Nat) (A : KV → Prop) (K : KV) : ifP (.bool true) true h nx A K = A K := rfl
theorem ifP_ff (h : T Obj) (nx : Nat) (A : KV → Prop) (K : KV) : ifP (.bool false) false h nx A K = A K := rfl
theorem ifP_tf (h : T Obj) (nx : Nat) (A : KV → Prop) (K : KV) : ifP (.bool true) false h nx A K = K undef h nx := rfl
theorem ifP_ft (h : T Obj) (nx : Nat) (A : KV → Prop) (K : KV) : ifP (.bool false) true h nx A K = K undef h nx := rfl
theorem newP_eq (h : T Obj) (i : Nat) (o : Obj) (K : T Obj → Prop) : newP h i o K = K (h.upd i (some o)) := rfl
theorem optP_some (h : T Obj) (i : Nat) (o : Obj) (K : T Obj → Prop) : optP h i (some o) K = K (h.upd i (some o)) := rfl
theorem optP_none (h : T Obj) (i : Nat) (K : T Obj → Prop) : optP h i none K = K h := rfl
theorem exP_normal (A : Prop) (B : Nat → Prop) (D : Prop) : exP .normal A B D = A := rfl
theorem exP_exit (i : Nat) (A : Prop) (B : Nat → Prop) (D : Prop) : exP (.exit i) A B D = B i := rfl
theorem exP_ret (A : Prop) (B : Nat → Prop) (D : Prop) : exP .ret A B D = D := rfl
theorem beqP_true (A B : Prop) : beqP true A B = A := rfl
theorem beqP_false (A B : Prop) : beqP false A B = B := rfl
theorem bindP_mk {α : Type} {o : Option α} {a : α} {K : α → Prop} (h : o = some a) (k : K a) : bindP o K := by rw [h]; exact k
theorem newP_mk {h : T Obj} {i : Nat} {o : Obj} {K : T Obj → Prop} (k : K (h.upd i (some o))) : newP h i o K := k
theorem optP_mk {h : T Obj} {i : Nat} {o : Obj} {K : T Obj → Prop} (k : K (h.upd i (some o))) : optP h i (some o) K := k
theorem optP_mk0 {h : T Obj} {i : Nat} {K : T Obj → Prop} (k : K h) : optP h i none K := k
theorem condP_t {A B : Prop} (k : A) : condP (.bool true) A B := k
theorem condP_f {A B : Prop} (k : B) : condP (.bool false) A B := k
theorem condP_tr {b : Bool} {A B : Prop} (h : b = true) (k : A) : condP (.bool b) A B := by subst h; exact k
theorem condP_fa {b : Bool} {A B : Prop} (h : b = false) (k : B) : condP (.bool b) A B := by subst h; exact k
theorem ifP_tt' {h : T Obj} {nx : Nat} {A : KV → Prop} {K : KV} (k : A K) : ifP (.bool true) true h nx A K := k
theorem ifP_ff' {h : T Obj} {nx : Nat} {A : KV → Prop} {K : KV} (k : A K) : ifP (.bool false) false h nx A K := k
theorem ifP_tf' {h : T Obj} {nx : Nat} {A : KV → Prop} {K : KV} (k : K undef h nx) : ifP (.bool true) false h nx A K := k
theorem ifP_ft' {h : T Obj} {nx : Nat} {A : KV → Prop} {K : KV} (k : K undef h nx) : ifP (.bool false) true h nx A K := k
theorem ifP_u' {w : Bool} {h : T Obj} {nx : Nat} {A : KV → Prop} {K : KV} (k : K undef h nx) : ifP undef w h nx A K := k
theorem wr_i64 {n : Int} (h1 : -9223372036854775808 ≤ n) (h2 : n ≤ 9223372036854775807) : wr .i64 n = n := by simp [wr, h1, h2]
theorem wr_u8 {n : Int} (h1 : 0 ≤ n) (h2 : n ≤ 255) : wr .u8 n = n := by simp [wr, h1, h2]
theorem wr_u64 {n : Int} (h1 : 0 ≤ n) (h2 : n ≤ 18446744073709551615) : wr .u64 n = n := by simp [wr, h1, h2]
theorem intB_add (k : IntKind) (a b : Int) : intB .add (.int k a) (.int k b) = some (.int k (wr k (a + b))) := by simp [intB, intV]
theorem intB_sub (k : IntKind) (a b : Int) : intB .sub (.int k a) (.int k b) = some (.int k (wr k (a - b))) := by simp [intB, intV]
theorem intB_mul (k : IntKind) (a b : Int) : intB .mul (.int k a) (.int k b) = some (.int k (wr k (a * b))) := by simp [intB, intV]
theorem intB_quo (k : IntKind) {a b : Int} (ha : 0 ≤ a) (hb : 0 < b) : intB .quo (.int k a) (.int k b) = some (.int k (wr k (a / b))) := by
  have : b ≠ 0 := by omega
  simp [intB, intV, this, Int.tdiv_eq_ediv_of_nonneg ha]
theorem intB_rem (k : IntKind) {a b : Int} (ha : 0 ≤ a) (hb : 0 < b) : intB .rem (.int k a) (.int k b) = some (.int k (a % b)) := by
  have : b ≠ 0 := by omega
  simp [intB, intV, this, Int.tmod_eq_emod_of_nonneg ha]
theorem intB_eql (k : IntKind) (a b : Int) : intB .eql (.int k a) (.int k b) = some (.bool (decide (a = b))) := by simp [intB, intV]
theorem intB_neq (k : IntKind) (a b : Int) : intB .neq (.int k a) (.int k b) = some (.bool (!decide (a = b))) := by simp [intB, intV]
theorem intB_lss (k : IntKind) (a b : Int) : intB .lss (.int k a) (.int k b) = some (.bool (decide (a < b))) := by simp [intB, intV]
theorem intB_leq (k : IntKind) (a b : Int) : intB .leq (.int k a) (.int k b) = some (.bool (decide (a ≤ b))) := by simp [intB, intV]
theorem intB_gtr (k : IntKind) (a b : Int) : intB .gtr (.int k a) (.int k b) = some (.bool (decide (b < a))) := by simp [intB, intV]
theorem intB_geq (k : IntKind) (a b : Int) : intB .geq (.int k a) (.int k b) = some (.bool (decide (b ≤ a))) := by simp [intB, intV]
theorem intB_shr (k k' : IntKind) {a b : Int} (hb : 0 ≤ b) : intB .shr (.int k a) (.int k' b) = some (.int k (a.fdiv ((2 ^ (min b.toNat k.bits) : Nat) : Int))) := by simp [intB, shiftV, hb]
theorem intB_shl (k k' : IntKind) {a b : Int} (hb : 0 ≤ b) : intB .shl (.int k a) (.int k' b) = some (.int k (wr k (a * ((2 ^ (min b.toNat k.bits) : Nat) : Int)))) := by simp [intB, shiftV, hb]
theorem intB_and64 {a b : Int} (ha : 0 ≤ a) (hb : 0 ≤ b) (ha' : a ≤ 18446744073709551615) (hb' : b ≤ 18446744073709551615) : intB .and (.int .u64 a) (.int .u64 b) = some (.int .u64 (Nat.land a.toNat b.toNat : Nat)) := by simp [intB, intV, bitsV, ha, hb, ha', hb']
theorem intB_or64 {a b : Int} (ha : 0 ≤ a) (hb : 0 ≤ b) (ha' : a ≤ 18446744073709551615) (hb' : b ≤ 18446744073709551615) : intB .or (.int .u64 a) (.int .u64 b) = some (.int .u64 (Nat.lor a.toNat b.toNat : Nat)) := by simp [intB, intV, bitsV, ha, hb, ha', hb']
theorem intB_xor64 {a b : Int} (ha : 0 ≤ a) (hb : 0 ≤ b) (ha' : a ≤ 18446744073709551615) (hb' : b ≤ 18446744073709551615) : intB .xor (.int .u64 a) (.int .u64 b) = some (.int .u64 (Nat.xor a.toNat b.toNat : Nat)) := by simp [intB, intV, bitsV, ha, hb, ha', hb']
theorem convI_int (k k' : IntKind) (n : Int) : convI k (.int k' n) = some (.int k (wr k n)) := rfl
theorem unV_not (b : Bool) : unV .not (.bool b) = some (.bool (!b)) := rfl
theorem boolB_eql (a b : Bool) : boolB .eql (.bool a) (.bool b) = some (.bool (a == b)) := rfl
theorem boolB_neq (a b : Bool) : boolB .neq (.bool a) (.bool b) = some (.bool (!(a == b))) := rfl
theorem pickV_true (a b : Value) : pickV (.bool true) a b = some a := rfl
theorem pickV_false (a b : Value) : pickV (.bool false) a b = some b := rfl
theorem lenSl_slice (a : Option Addr) (n c : Nat) : lenSl (.slice a n c) = some (.int .i64 n) := rfl
abbrev at_ (id off z : Nat) : Value := .pointer (some ⟨id, off, some z⟩)
theorem ptr_at (id : Nat) : ptr id = at_ id 0 0 := rfl
theorem fwdP_at (k id off z : Nat) : fwdP k (at_ id off z) = some (at_ id (off + k) z) := rfl
def cellsIn : Option Obj → Option (List Value)
  | some (.cells c _ _) => some c.toList
  | _ => none
theorem cellsIn_some (c : Array Value) (e : TypeId) (f : Nat × Nat) : cellsIn (some (.cells c e f)) = some c.toList := rfl
theorem take_drop_one {l : List Value} {off : Nat} {v : Value} (h : l[off]? = some v) : (l.drop off).take 1 = [v] := by
  have hl := (List.getElem?_eq_some_iff.1 h).1
  rw [List.drop_eq_getElem_cons hl]
  have := (List.getElem?_eq_some_iff.1 h).2
  simp [this]
theorem cellsAt_own (ro : Ro) (h : T Obj) (id off z n : Nat) : cellsAt ro h ⟨id, off, some z⟩ n = (cellsIn (h.get id)).bind fun c => if off + n ≤ c.length then some ((c.drop off).take n) else none := by
  unfold cellsAt cellsIn
  simp only
  cases h.get id with
  | none => rfl
  | some o =>
    cases o <;> try rfl
    rename_i c e f
    simp only [Option.bind, Array.length_toList]
    by_cases hle : off + n ≤ c.size
    · rw [if_pos hle, Nat.ble_eq_true_of_le hle]
    · rw [if_neg hle]
      cases hb : Nat.ble (off + n) c.size with
      | true => exact absurd (Nat.le_of_ble_eq_true hb) hle
      | false => rfl
theorem load1_own (ro : Ro) (h : T Obj) (id off z : Nat) : load1 ro h (at_ id off z) = (cellsIn (h.get id)).bind fun c => c[off]? := by
  unfold load1
  simp only [asP, Option.bind, cellsAt_own]
  cases hc : cellsIn (h.get id) with
  | none => rfl
  | some c =>
    simp only
    by_cases hle : off + 1 ≤ c.length
    · rw [if_pos hle]
      have hg : c[off]? = some c[off] := List.getElem?_eq_getElem (by omega)
      rw [take_drop_one hg, hg]
    · rw [if_neg hle, List.getElem?_eq_none (by omega)]
theorem loadA_own (ro : Ro) (h : T Obj) (n id off z : Nat) : loadA ro h n (at_ id off z) = (cellsIn (h.get id)).bind fun c => if off + n ≤ c.length then some (.agg ((c.drop off).take n).toArray) else none := by
  unfold loadA
  simp only [asP, Option.bind, cellsAt_own]
  cases cellsIn (h.get id) with
  | none => rfl
  | some c => by_cases hle : off + n ≤ c.length <;> simp [hle]
theorem ixArr_at (n z id off y : Nat) (k : IntKind) {i : Int} (h0 : 0 ≤ i) (h1 : i < n) : ixArr n z (at_ id off y) (.int k i) = some (at_ id (off + i.toNat * z) y) := by
  have hn : natV (.int k i) = some i.toNat := by simp [natV, h0]
  have : Nat.blt i.toNat n = true := by simp [Nat.blt]; omega
  simp [ixArr, hn, asP, this, fwd]
theorem Value.cells_agg (cs : Array Value) : Value.cells (.agg cs) = cs := rfl
theorem cells_int (k : IntKind) (n : Int) : Value.cells (.int k n) = #[.int k n] := rfl
theorem cells_bool (b : Bool) : Value.cells (.bool b) = #[.bool b] := rfl
theorem intB_shr_nat (k k' : IntKind) (a : Nat) {b : Int} (hb : 0 ≤ b) (hk : b ≤ k.bits) : intB .shr (.int k (a : Int)) (.int k' b) = some (.int k ((a / 2 ^ b.toNat : Nat) : Int)) := by
  rw [intB_shr _ _ hb]
  have : min b.toNat k.bits = b.toNat := Nat.min_eq_left (by omega)
  rw [this, Int.ofNat_fdiv]
theorem intB_shr_u64 (k' : IntKind) (a : Nat) {b : Int} (hb : 0 ≤ b) (hk : b ≤ 64) : intB .shr (.int .u64 (a : Int)) (.int k' b) = some (.int .u64 ((a / 2 ^ b.toNat : Nat) : Int)) := intB_shr_nat _ _ a hb hk
theorem intB_shl_u64 (k' : IntKind) (a : Nat) {b : Int} (hb : 0 ≤ b) (hk : b ≤ 64) : intB .shl (.int .u64 (a : Int)) (.int k' b) = some (.int .u64 (wr .u64 ((a * 2 ^ b.toNat : Nat) : Int))) := by
  rw [intB_shl _ _ hb]
  have : min b.toNat IntKind.u64.bits = b.toNat := Nat.min_eq_left (by have : IntKind.u64.bits = 64 := rfl; omega)
  rw [this]; simp
theorem intB_shl1_u64 (k' : IntKind) {b : Int} (hb : 0 ≤ b) (hk : b < 64) : intB .shl (.int .u64 1) (.int k' b) = some (.int .u64 ((2 ^ b.toNat : Nat) : Int)) := by
  have h := intB_shl_u64 k' 1 hb (by omega)
  have h2 : 2 ^ b.toNat < 2 ^ 64 := Nat.pow_lt_pow_right (by decide) (by omega)
  have h3 : (((1 * 2 ^ b.toNat : Nat)) : Int) ≤ 18446744073709551615 := by omega
  rw [wr_u64 (by omega) h3, Nat.one_mul] at h
  exact h
def Fr (h : T Obj) (nx : Nat) : Prop := ∀ i, nx ≤ i → h.get i = none
theorem Fr.e : Fr .e 0 := fun _ _ => rfl
theorem Fr.mono {h : T Obj} {n m : Nat} (hf : Fr h n) (hn : n ≤ m) : Fr h m := fun i hi => hf i (Nat.le_trans hn hi)
theorem Fr.upd {h : T Obj} {n m i : Nat} {o : Option Obj} (hf : Fr h n) (hn : n ≤ m) (hi : i < m) : Fr (h.upd i o) m := fun j hj => by
  rw [T.get_upd_ne _ _ (by omega)]; exact hf j (by omega)
theorem Fr.sub {h h' : T Obj} {n : Nat} (hf : Fr h n) (hs : Sub h' h) : Fr h' n := fun i hi => by
  cases e : h'.get i with
  | none => rfl
  | some o => have := hs i o e; rw [hf i hi] at this; cases this
theorem Sub.refl (h : T Obj) : Sub h h := fun _ _ e => e
theorem Sub.trans {a b c : T Obj} (h1 : Sub a b) (h2 : Sub b c) : Sub a c := fun k o e => h2 k o (h1 k o e)
theorem Sub.upd {h0 h : T Obj} {i : Nat} {o : Option Obj} (hs : Sub h0 h) (hi : h0.get i = none) : Sub h0 (h.upd i o) := fun k x e => by
  by_cases hk : k = i
  · subst hk; rw [hi] at e; cases e
  · rw [T.get_upd_ne _ _ hk]; exact hs k x e
theorem Sub.new {h0 h : T Obj} {n i : Nat} {o : Option Obj} (hf : Fr h0 n) (hi : n ≤ i) (hs : Sub h0 h) : Sub h0 (h.upd i o) := hs.upd (hf i hi)
theorem loopP_rule {B : PT} {Q : KE} (Inv : Nat → Env → T Obj → Nat → Prop)
    (step : ∀ n e h nx, Inv n e h nx → ∀ Q' : KE, (∀ m e' h' h1 nx', m < n → Inv m e' h' nx' → Sub h' h1 → Q' .normal e' h1 nx') → (∀ x e' h' nx', x ≠ .normal → Q x e' h' nx' → Q' x e' h' nx') → B e h nx Q')
    {n : Nat} {e : Env} {h : T Obj} {nx : Nat} (h0 : Inv n e h nx) : loopP B e h nx Q := by
  refine ⟨n + 1, ?_⟩
  have key : ∀ n, (∀ m, m < n → ∀ k, m + 1 ≤ k → ∀ e h nx, Inv m e h nx → iterP B k e h nx Q) → ∀ k, n + 1 ≤ k → ∀ e h nx, Inv n e h nx → iterP B k e h nx Q := by
    intro n ih k hk e h nx hi
    cases k with
    | zero => omega
    | succ k =>
      refine step n e h nx hi _ ?_ ?_
      · intro m e' h' h1 nx' hm hi' hs
        exact ⟨h', hs, ih m hm k (by omega) _ _ _ hi'⟩
      · intro x e' h' nx' hx hq
        cases x with
        | normal => exact absurd rfl hx
        | exit i => exact hq
        | ret => exact hq
  have all : ∀ n, ∀ k, n + 1 ≤ k → ∀ e h nx, Inv n e h nx → iterP B k e h nx Q := by
    intro n
    induction n using Nat.strongRecOn with
    | _ n ih => exact key n ih
  exact all n _ (Nat.le_refl _) _ _ _ h0
def putIn (o : Option Obj) (off : Nat) (vs : List Value) : Option Obj := match o with
  | some (.cells c e f) => if off + vs.length ≤ c.size then (if vs.all cellOk = true then some (.cells (over c.toList off vs).toArray e f) else none) else none
  | _ => none
theorem putIn_cells {c : Array Value} {e : TypeId} {f : Nat × Nat} {off : Nat} {vs : List Value} (h1 : off + vs.length ≤ c.size) (h2 : vs.all cellOk = true) : putIn (some (.cells c e f)) off vs = some (.cells (over c.toList off vs).toArray e f) := by
  simp [putIn, h1, h2]
theorem storeN_own (n : Nat) (h : T Obj) (id off z : Nat) (v : Value) : storeN n h (at_ id off z) v = if v.cells.size = n then (putIn (h.get id) off v.cells.toList).bind (fun o => some (h.upd id (some o))) else none := by
  unfold storeN putIn
  simp only [asP, Option.bind]
  by_cases hn : v.cells.size = n
  · rw [if_pos hn, hn, Nat.beq_refl]
    simp only [storeAtV]
    cases h.get id with
    | none => rfl
    | some o =>
      cases o <;> try rfl
      rename_i c e f
      simp only [Array.length_toList]
      by_cases hle : off + v.cells.size ≤ c.size
      · rw [if_pos hle, Nat.ble_eq_true_of_le hle]
        cases v.cells.toList.all cellOk <;> rfl
      · rw [if_neg hle]
        cases hb : Nat.ble (off + v.cells.size) c.size with
        | true => exact absurd (Nat.le_of_ble_eq_true hb) hle
        | false => rfl
  · rw [if_neg hn]
    cases hb : Nat.beq v.cells.size n with
    | true => exact absurd (Nat.eq_of_beq_eq_true hb) hn
    | false => rfl
theorem over_one {l : List Value} {off : Nat} (v : Value) (h : off < l.length) : over l off [v] = l.set off v := by
  unfold over
  rw [List.set_eq_take_append_cons_drop, if_pos h]
  simp
theorem over_all {l vs : List Value} (h : vs.length = l.length) : over l 0 vs = vs := by
  unfold over
  rw [List.drop_eq_nil_of_le (by omega)]; simp
theorem tl (l : List Value) : l.toArray.toList = l := rfl
theorem ts (l : List Value) : l.toArray.size = l.length := rfl
theorem store1_own {h : T Obj} {id off z : Nat} {v : Value} {l : List Value} {e : TypeId} {f : Nat × Nat} (hg : h.get id = some (.cells l.toArray e f)) (hi : off < l.length) (hv : cellOk v = true) (hc : v.cells = #[v]) :
    storeN 1 h (at_ id off z) v = some (h.upd id (some (.cells (l.set off v).toArray e f))) := by
  rw [storeN_own, hc, hg, if_pos (show #[v].size = 1 from rfl), putIn_cells (by simp; omega) (by simp [hv])]
  simp [over_one v hi]
theorem storeA_own {h : T Obj} {id z n : Nat} {v : Value} {l vs : List Value} {e : TypeId} {f : Nat × Nat} (hg : h.get id = some (.cells l.toArray e f)) (hc : v.cells = vs.toArray) (hn : vs.length = n) (hl : l.length = n) (hv : vs.all cellOk = true) :
    storeN n h (at_ id 0 z) v = some (h.upd id (some (.cells vs.toArray e f))) := by
  rw [storeN_own, hc, hg, if_pos (by simpa using hn), putIn_cells (by simp; omega) (by simpa using hv)]
  simp [over_all (l := l) (vs := vs) (by omega)]
theorem loadA_all {ro : Ro} {h : T Obj} {id z n : Nat} {l : List Value} {e : TypeId} {f : Nat × Nat} (hg : h.get id = some (.cells l.toArray e f)) (hl : l.length = n) : loadA ro h n (at_ id 0 z) = some (.agg l.toArray) := by
  rw [loadA_own, hg]
  subst hl
  simp [cellsIn]
theorem load1_get {ro : Ro} {h : T Obj} {id off z : Nat} {l : List Value} {e : TypeId} {f : Nat × Nat} {v : Value} (hg : h.get id = some (.cells l.toArray e f)) (hv : l[off]? = some v) : load1 ro h (at_ id off z) = some v := by
  rw [load1_own, hg]; exact hv
end V
end Go.Proofs.YtjndkdmkecpllaaGreat
set_option linter.unusedVariables false
set_option linter.unusedSimpArgs false
noncomputable section
namespace Go.Proofs.YtjndkdmkecpllaaGreat
namespace V
section
variable {α : Type}
def fcN (n : Nat) (k : Nat → α) : α := match n with
  | 0 => k 0
  | m + 1 => k (Nat.succ m)
theorem fcN_eq (n : Nat) (k : Nat → α) : fcN n k = k n := by cases n <;> rfl
def fcI (n : Int) (k : Int → α) : α := match n with
  | .ofNat m => fcN m fun m => k (.ofNat m)
  | .negSucc m => fcN m fun m => k (.negSucc m)
theorem fcI_eq (n : Int) (k : Int → α) : fcI n k = k n := by cases n <;> simp [fcI, fcN_eq]
def fcA (a : Option Addr) (k : Option Addr → α) : α := match a with
  | none => k none
  | some a => fcN a.block fun b => fcN a.off fun o => match a.spot with
    | none => k (some ⟨b, o, none⟩)
    | some z => fcN z fun z => k (some ⟨b, o, some z⟩)
theorem fcA_eq (a : Option Addr) (k : Option Addr → α) : fcA a k = k a := by
  cases a with
  | none => rfl
  | some a => obtain ⟨b, o, s⟩ := a; cases s <;> simp [fcA, fcN_eq]
def fcB : List UInt8 → (List UInt8 → α) → α
  | [], k => k []
  | b :: r, k => fcN b.toNat fun n => fcB r fun r => k (UInt8.ofNat n :: r)
theorem fcB_eq : ∀ (l : List UInt8) (k : List UInt8 → α), fcB l k = k l
  | [], k => rfl
  | b :: r, k => by rw [fcB, fcN_eq, fcB_eq r]; simp
def fcC (v : Value) (k : Value → α) : α := match v with
  | .bool b => match b with
    | true => k (.bool true)
    | false => k (.bool false)
  | .int kd n => fcI n fun n => k (.int kd n)
  | .string s => fcB s.data.toList fun l => k (.string ⟨⟨l⟩⟩)
  | .pointer a => fcA a fun a => k (.pointer a)
  | .slice a l c => fcA a fun a => fcN l fun l => fcN c fun c => k (.slice a l c)
  | .map r => match r with
    | none => k (.map none)
    | some r => fcN r fun r => k (.map (some r))
  | v => k v
theorem fcC_eq (v : Value) (k : Value → α) : fcC v k = k v := by
  cases v with
  | bool b => cases b <;> rfl
  | int kd n => simp [fcC, fcI_eq]
  | string s => simp [fcC, fcB_eq]
  | pointer a => simp [fcC, fcA_eq]
  | slice a l c => simp [fcC, fcA_eq, fcN_eq]
  | map r => cases r <;> simp [fcC, fcN_eq]
  | _ => rfl
def fcL : List Value → (List Value → α) → α
  | [], k => k []
  | v :: r, k => fcC v fun v => fcL r fun r => k (v :: r)
theorem fcL_eq : ∀ (l : List Value) (k : List Value → α), fcL l k = k l
  | [], k => rfl
  | v :: r, k => by rw [fcL, fcC_eq, fcL_eq r]
def fcS : List Value → (List Value → α) → α
  | [], k => k []
  | v :: r, k => fcS r fun r => k (v :: r)
theorem fcS_eq : ∀ (l : List Value) (k : List Value → α), fcS l k = k l
  | [], k => rfl
  | v :: r, k => by rw [fcS, fcS_eq r]
def fcV1 (v : Value) (k : Value → α) : α := match v with
  | .agg cs => fcS cs.toList fun l => k (.agg ⟨l⟩)
  | v => fcC v k
theorem fcV1_eq (v : Value) (k : Value → α) : fcV1 v k = k v := by
  cases v with
  | agg cs => simp [fcV1, fcS_eq]
  | _ => simp only [fcV1, fcC_eq]
def fcVs : List Value → (List Value → α) → α
  | [], k => k []
  | v :: r, k => fcV1 v fun v => fcVs r fun r => k (v :: r)
theorem fcVs_eq : ∀ (l : List Value) (k : List Value → α), fcVs l k = k l
  | [], k => rfl
  | v :: r, k => by rw [fcVs, fcV1_eq, fcVs_eq r]
def fcV (v : Value) (k : Value → α) : α := match v with
  | .tuple cs => fcVs cs.toList fun l => k (.tuple ⟨l⟩)
  | v => fcV1 v k
theorem fcV_eq (v : Value) (k : Value → α) : fcV v k = k v := by
  cases v with
  | tuple cs => simp [fcV, fcVs_eq]
  | _ => simp only [fcV, fcV1_eq]
def fcE : List MapEntry → (List MapEntry → α) → α
  | [], k => k []
  | e :: r, k => fcV1 e.key fun a => fcV1 e.val fun b => fcN e.born fun n => fcE r fun r => k (⟨a, b, n⟩ :: r)
theorem fcE_eq : ∀ (l : List MapEntry) (k : List MapEntry → α), fcE l k = k l
  | [], k => rfl
  | v :: r, k => by rw [fcE, fcV1_eq, fcV1_eq, fcN_eq, fcE_eq r]
def fcO (o : Obj) (k : Obj → α) : α := match o with
  | .cells c e f => fcS c.toList fun l => k (.cells ⟨l⟩ e f)
  | .map es n => fcE es.toList fun l => fcN n fun n => k (.map ⟨l⟩ n)
  | o => k o
theorem fcO_eq (o : Obj) (k : Obj → α) : fcO o k = k o := by
  cases o with
  | cells c e f => simp [fcO, fcS_eq]
  | map es n => simp [fcO, fcE_eq, fcN_eq]
  | _ => rfl
def newK {β : Type} (o : Option β) (f : Nat) : Nat → (T β → α) → α := Nat.rec (motive := fun _ => Nat → (T β → α) → α) (fun _ K => K .e)
  (fun _ ih k K => Nat.rec (motive := fun _ => α) (K (.n .e o .e)) (fun k' _ => Bool.rec (motive := fun _ => α) (ih (Nat.div k' 2) fun r => K (.n .e none r)) (ih (Nat.div k' 2) fun l => K (.n l none .e)) (Nat.beq (Nat.mod k' 2) 0)) k) f
theorem newK_eq {β : Type} (o : Option β) : ∀ (f g k : Nat) (K : T β → α), k < f → k < g → newK o f k K = K (T.updF o g .e k) := by
  intro f
  induction f with
  | zero => intro g k K h; omega
  | succ f ih =>
    intro g k K h1 h2
    cases g with
    | zero => omega
    | succ g =>
      cases k with
      | zero => rfl
      | succ k =>
        show Bool.rec (motive := fun _ => α) (newK o f (k / 2) fun r => K (.n .e none r)) (newK o f (k / 2) fun l => K (.n l none .e)) (Nat.beq (k % 2) 0) = _
        simp only [T.updF]
        rw [ih g _ _ (by omega) (by omega), ih g _ _ (by omega) (by omega)]
        cases Nat.beq (k % 2) 0 <;> rfl
def updT {β : Type} (o : Option β) (t : T β) : Nat → (T β → α) → α := T.rec (motive := fun _ => Nat → (T β → α) → α) (fun k K => newK o (Nat.succ k) k K)
  (fun l v r gl gr k K => Nat.rec (motive := fun _ => α) (K (.n l o r)) (fun k' _ => Bool.rec (motive := fun _ => α) (gr (Nat.div k' 2) fun r => K (.n l v r)) (gl (Nat.div k' 2) fun l => K (.n l v r)) (Nat.beq (Nat.mod k' 2) 0)) k) t
theorem updT_eq {β : Type} (o : Option β) (t : T β) : ∀ (g k : Nat) (K : T β → α), k < g → updT o t k K = K (T.updF o g t k) := by
  induction t with
  | e => intro g k K h; exact newK_eq o _ g k K (Nat.lt_succ_self _) h
  | n l v r ihl ihr =>
    intro g k K h
    cases g with
    | zero => omega
    | succ g =>
      cases k with
      | zero => rfl
      | succ k =>
        show Bool.rec (motive := fun _ => α) (updT o r (k / 2) fun r => K (.n l v r)) (updT o l (k / 2) fun l => K (.n l v r)) (Nat.beq (k % 2) 0) = _
        simp only [T.updF]
        rw [ihl g _ _ (by omega), ihr g _ _ (by omega)]
        cases Nat.beq (k % 2) 0 <;> rfl
def upK {β : Type} (t : T β) (k : Nat) (o : Option β) (K : T β → α) : α := updT o t k K
theorem upK_eq {β : Type} (t : T β) (k : Nat) (o : Option β) (K : T β → α) : upK t k o K = K (t.upd k o) := updT_eq o t _ k K (Nat.lt_succ_self _)
end
def bB {α : Type} (o : Option α) (K : α → Bool) : Bool := match o with
  | some a => K a
  | none => false
theorem bB_some {α : Type} {o : Option α} {K : α → Bool} (h : bB o K = true) : ∃ a, o = some a ∧ K a = true := by
  cases o with
  | none => cases h
  | some a => exact ⟨a, rfl, h⟩
abbrev KB := Value → T Obj → Nat → Bool
abbrev CallB := FuncId → List Value → T Obj → Nat → KB → Bool
def minB (less : Bool) : Value → List Value → Option Value
  | .int k x, [] => some (.int k x)
  | .int k x, .int k' y :: r => minB less (.int k (match less, decide (y < x), decide (x < y) with
    | true, true, _ => y
    | true, false, _ => x
    | false, _, true => y
    | false, _, false => x)) r
  | _, _ => none
termination_by structural _ l => l
theorem minB_eq (less : Bool) : ∀ (l : List Value) (v : Value), minV less (v :: l) = minB less v l := by
  intro l
  induction l with
  | nil => intro v; cases v <;> simp [minV, minB]
  | cons y r ih =>
    intro v
    cases v <;> cases y <;> (conv => lhs; unfold minV) <;> simp only [minB, ih]
    rename_i k1 n1 k2 n2
    cases less <;> cases decide (n2 < n1) <;> cases decide (n1 < n2) <;> rfl
def minL (less : Bool) : List Value → Option Value
  | [] => none
  | v :: l => minB less v l
theorem minL_eq (less : Bool) (l : List Value) : minV less l = minL less l := by
  cases l with
  | nil => simp [minV, minL]
  | cons v l => exact minB_eq less l v
def opQB (P : Program) (ro : Ro) (t : T Value) (h : T Obj) (aid : Nat) (op : Op) : Option (Value × Option Obj) := match op with
  | .call { callee := .builtin .min, args, .. } => (evlL t args.toList).bind fun vs => (minL true vs).bind fun v => some (v, none)
  | .call { callee := .builtin .max, args, .. } => (evlL t args.toList).bind fun vs => (minL false vs).bind fun v => some (v, none)
  | op => opQ P ro t h aid op
theorem opQB_eq (P : Program) (ro : Ro) (t : T Value) (h : T Obj) (aid : Nat) (op : Op) : opQB P ro t h aid op = opQ P ro t h aid op := by
  unfold opQB
  split
  · simp only [opQ, builtinQ, minL_eq]
  · simp only [opQ, builtinQ, minL_eq]
  · rfl
def putK : List Value → Nat → List Value → (List Value → Bool) → Bool
  | l, 0, [], k => k l
  | _ :: r, 0, v :: vs, k => putK r 0 vs fun r => k (v :: r)
  | [], 0, _ :: _, _ => false
  | x :: r, n + 1, vs, k => fcN n fun n => putK r n vs fun r => k (x :: r)
  | [], _ + 1, _, _ => false
theorem putK_eq : ∀ (l : List Value) (n : Nat) (vs : List Value) (k : List Value → Bool), putK l n vs k = if n + vs.length ≤ l.length then k (over l n vs) else false
  | [], 0, [], k => by simp [putK, over]
  | x :: r, 0, [], k => by simp [putK, over]
  | x :: r, 0, v :: vs, k => by
    rw [putK, putK_eq r 0 vs]
    simp [over]
  | [], 0, _ :: _, k => by simp [putK]
  | x :: r, n + 1, vs, k => by
    rw [putK, fcN_eq, putK_eq r n vs]
    have e : n + 1 + vs.length ≤ (x :: r).length ↔ n + vs.length ≤ r.length := by simp; omega
    by_cases h : n + vs.length ≤ r.length
    · rw [if_pos h, if_pos (e.2 h)]
      have : n + 1 + vs.length = (n + vs.length) + 1 := by omega
      simp [over, this]
    · rw [if_neg h, if_neg (fun h2 => h (e.1 h2))]
  | [], n + 1, vs, k => by simp [putK]
def storeAtB (h : T Obj) (a : Addr) (vs : List Value) (K : T Obj → Bool) : Bool :=
  match a.spot with
  | none => false
  | some _ => match h.get a.block with
    | some (.cells c e f) => match vs.all cellOk with
      | true => putK c.toList a.off vs fun l => upK h a.block (some (.cells ⟨l⟩ e f)) K
      | false => false
    | _ => false
theorem storeAtB_eq {h : T Obj} {a : Addr} {vs : List Value} {K : T Obj → Bool} : storeAtB h a vs K = bB (storeAtV h a vs) K := by
  unfold storeAtB storeAtV
  cases a.spot with
  | none => rfl
  | some z =>
    cases h.get a.block with
    | none => rfl
    | some o =>
      cases o <;> try rfl
      simp only [putK_eq, upK_eq, Array.length_toList]
      rename_i c e f
      by_cases hb : a.off + vs.length ≤ c.size
      · rw [if_pos hb, Nat.ble_eq_true_of_le hb]
        cases vs.all cellOk <;> rfl
      · rw [if_neg hb]
        have : Nat.ble (a.off + vs.length) c.size = false := by
          cases hq : Nat.ble (a.off + vs.length) c.size with
          | false => rfl
          | true => exact absurd (Nat.le_of_ble_eq_true hq) hb
        rw [this]
        cases vs.all cellOk <;> rfl
def nthK : List Value → Nat → (Value → Bool) → Bool
  | x :: _, 0, k => k x
  | _ :: r, n + 1, k => nthK r n k
  | [], _, _ => false
theorem nthK_eq : ∀ (l : List Value) (n : Nat) (k : Value → Bool), nthK l n k = bB l[n]? k
  | x :: _, 0, k => rfl
  | _ :: r, n + 1, k => by rw [nthK, nthK_eq r n]; rfl
  | [], n, k => by cases n <;> rfl
def nthR (l : List Value) : Nat → (Value → Bool) → Bool := List.rec (motive := fun _ => Nat → (Value → Bool) → Bool) (fun _ _ => false) (fun x _ ih n k => Nat.rec (motive := fun _ => Bool) (k x) (fun m _ => ih m k) n) l
theorem nthR_eq : ∀ (l : List Value) (n : Nat) (k : Value → Bool), nthR l n k = nthK l n k
  | [], n, k => rfl
  | x :: _, 0, k => rfl
  | _ :: r, n + 1, k => nthR_eq r n k
def takeK : List Value → Nat → (List Value → Bool) → Bool
  | _, 0, k => k []
  | x :: r, n + 1, k => takeK r n fun r => k (x :: r)
  | [], _ + 1, _ => false
theorem takeK_eq : ∀ (l : List Value) (n : Nat) (k : List Value → Bool), takeK l n k = if n ≤ l.length then k (l.take n) else false
  | l, 0, k => by cases l <;> simp [takeK]
  | x :: r, n + 1, k => by
    rw [takeK, takeK_eq r n]
    by_cases h : n ≤ r.length
    · rw [if_pos h, if_pos (by simp; omega)]; simp
    · rw [if_neg h, if_neg (by simp; omega)]
  | [], n + 1, k => by simp [takeK]
def isLen : List Value → Nat → Bool
  | [], 0 => true
  | _ :: r, n + 1 => isLen r n
  | _, _ => false
theorem isLen_eq : ∀ {l : List Value} {n : Nat}, isLen l n = true → l.length = n
  | [], 0, _ => rfl
  | _ :: r, n + 1, h => by rw [List.length_cons, isLen_eq (l := r) h]
  | [], _ + 1, h => by cases h
  | _ :: _, 0, h => by cases h
def dropK : List Value → Nat → (List Value → Bool) → Bool
  | l, 0, k => k l
  | _ :: r, n + 1, k => dropK r n k
  | [], _ + 1, _ => false
theorem dropK_eq : ∀ (l : List Value) (n : Nat) (k : List Value → Bool), dropK l n k = if n ≤ l.length then k (l.drop n) else false
  | l, 0, k => by cases l <;> simp [dropK]
  | _ :: r, n + 1, k => by
    rw [dropK, dropK_eq r n]
    by_cases h : n ≤ r.length
    · rw [if_pos h, if_pos (by simp; omega)]; rfl
    · rw [if_neg h, if_neg (by simp; omega)]
  | [], n + 1, k => by simp [dropK]
def cellsK (ro : Ro) (h : T Obj) (a : Addr) (n : Nat) (K : List Value → Bool) : Bool :=
  match a.spot with
  | none => bB (cellsAt ro h a n) K
  | some _ => match h.get a.block with
    | some (.cells c _ _) => match a.off with
      | 0 => match isLen c.toList n with
        | true => K c.toList
        | false => takeK c.toList n K
      | off + 1 => dropK c.toList (Nat.succ off) fun l => takeK l n K
    | _ => false
theorem cellsK_eq {ro : Ro} {h : T Obj} {a : Addr} {n : Nat} {K : List Value → Bool} : cellsK ro h a n K = bB (cellsAt ro h a n) K := by
  unfold cellsK cellsAt
  cases a.spot with
  | none => rfl
  | some z =>
    cases h.get a.block with
    | none => rfl
    | some o =>
      cases o <;> try rfl
      rename_i c e f
      have key : (if a.off + n ≤ c.size then K ((c.toList.drop a.off).take n) else false) = bB (match Nat.ble (a.off + n) c.size with | true => some ((c.toList.drop a.off).take n) | false => none) K := by
        by_cases hb : a.off + n ≤ c.size
        · rw [if_pos hb, Nat.ble_eq_true_of_le hb]; rfl
        · rw [if_neg hb]
          have : Nat.ble (a.off + n) c.size = false := by
            cases hq : Nat.ble (a.off + n) c.size with
            | false => rfl
            | true => exact absurd (Nat.le_of_ble_eq_true hq) hb
          rw [this]; rfl
      refine Eq.trans ?_ key
      simp only
      cases ho : a.off with
      | zero =>
        simp only [Nat.zero_add, List.drop_zero]
        cases hl : isLen c.toList n with
        | true =>
          have := isLen_eq hl
          rw [if_pos (by simpa using Nat.le_of_eq this.symm), List.take_of_length_le (by omega)]
        | false => simp only [takeK_eq, Array.length_toList]
      | succ off =>
        simp only [dropK_eq, takeK_eq, List.length_drop, Array.length_toList]
        by_cases h1 : off + 1 ≤ c.size
        · rw [if_pos h1]
          by_cases h2 : n ≤ c.size - (off + 1)
          · rw [if_pos h2, if_pos (by omega)]
          · rw [if_neg h2, if_neg (by omega)]
        · rw [if_neg h1, if_neg (by omega)]
def loadK (P : Program) (ro : Ro) (h : T Obj) (t : TypeId) (a : Addr) (K : Value → Bool) : Bool :=
  match isAgg P t with
  | some true => bB (siz P t) fun n => cellsK ro h a n fun l => K (.agg ⟨l⟩)
  | some false => match a.spot with
    | none => bB (loadV P ro h t a) K
    | some _ => match h.get a.block with
      | some (.cells c _ _) => nthR c.toList a.off K
      | _ => false
  | none => false
theorem loadK_eq {P : Program} {ro : Ro} {h : T Obj} {t : TypeId} {a : Addr} {K : Value → Bool} : loadK P ro h t a K = bB (loadV P ro h t a) K := by
  obtain ⟨b, o, s⟩ := a
  unfold loadK
  cases hi : isAgg P t with
  | none => simp only [loadV, hi]; rfl
  | some x =>
    cases x with
    | true =>
      simp only [loadV, hi]
      cases siz P t with
      | none => rfl
      | some n =>
        simp only [bB, Option.bind_some]
        rw [cellsK_eq]
        cases cellsAt ro h ⟨b, o, s⟩ n <;> rfl
    | false =>
      cases s with
      | none => rfl
      | some z =>
        simp only
        have e : loadV P ro h t ⟨b, o, some z⟩ = load1 ro h (at_ b o z) := by
          simp only [loadV, hi]; rfl
        rw [e, load1_own]
        cases h.get b with
        | none => rfl
        | some x =>
          cases x <;> try rfl
          simp only [nthR_eq, nthK_eq]; rfl
def storeB (P : Program) (h : T Obj) (t : TypeId) (a v : Value) (K : T Obj → Bool) : Bool :=
  match a with
  | .pointer (some a) => bB (siz P t) fun n => match Nat.beq v.cells.size n with
    | true => storeAtB h a v.cells.toList K
    | false => false
  | _ => false
theorem storeB_eq {P : Program} {h : T Obj} {t : TypeId} {a v : Value} {K : T Obj → Bool} : storeB P h t a v K = bB (storeV P h t a v) K := by
  unfold storeB storeV
  cases a <;> try rfl
  rename_i a
  cases a with
  | none => rfl
  | some a =>
    cases siz P t with
    | none => rfl
    | some n =>
      simp only [bB, Option.bind]
      cases Nat.beq v.cells.size n with
      | true => exact storeAtB_eq
      | false => rfl
def apB (r : Value × T Obj × Nat) (K : KB) : Bool := fcV r.1 fun v => fcN r.2.2 fun n => K v r.2.1 n
theorem apB_eq (r : Value × T Obj × Nat) (K : KB) : apB r K = K r.1 r.2.1 r.2.2 := by simp [apB, fcV_eq, fcN_eq]
def appendB (P : Program) (ro : Ro) (h : T Obj) (nx : Nat) (ts : Array TypeId) (vs : List Value) (K : KB) : Bool :=
  match ts[0]?, ts[1]?, vs with
  | some t0, some t1, [.slice base len cap, x] => match und P t0 with
    | some (.slice e) => bB (tin P e) fun i => bB (srcV P ro h e i.size i.bytes t1 x) fun s =>
      match Nat.ble (len + s.1) cap with
      | true => match s.1 with
        | 0 => K (.slice base len cap) h nx
        | _ + 1 => match base with
          | none => false
          | some a => match a.spot with
            | none => false
            | some z => match Nat.beq z i.size with
              | true => storeAtB h (fwd a (len * i.size)) s.2 fun h => fcN (len + s.1) fun n => K (.slice base n cap) h nx
              | false => false
      | false => bB (zer P e) fun zv => match Nat.ble ((len + s.1) * i.bytes) big, Nat.ble (len + s.1) big, Nat.blt 0 i.size, Nat.beq zv.cells.size i.size && s.2.all cellOk with
        | true, true, true, true => bB (oldV ro h i.size base len) fun p =>
            fcS (p.1 ++ s.2) fun l => fcN (len + s.1) fun n => upK p.2 nx (some (.cells ⟨l⟩ e)) fun h => fcN (nx + 1) fun nx' => K (.slice (some (own nx i.size)) n n) h nx'
        | _, _, _, _ => false
    | _ => false
  | _, _, _ => false
theorem appendB_eq {P : Program} {ro : Ro} {h : T Obj} {nx : Nat} {ts : Array TypeId} {vs : List Value} {K : KB} : appendB P ro h nx ts vs K = bB (appendV P ro h nx ts vs) fun r => K r.1 r.2.1 r.2.2 := by
  unfold appendB appendV
  cases ts[0]? with
  | none => rfl
  | some t0 =>
    cases ts[1]? with
    | none => rfl
    | some t1 =>
      match vs with
      | [.slice base len cap, x] =>
        simp only
        cases und P t0 with
        | none => rfl
        | some d =>
          cases d <;> try rfl
          rename_i e
          simp only
          cases tin P e with
          | none => rfl
          | some i =>
            simp only [bB, Option.bind_some]
            cases srcV P ro h e i.size i.bytes t1 x with
            | none => rfl
            | some s =>
              simp only [Option.bind_some]
              cases Nat.ble (len + s.1) cap with
              | true =>
                simp only
                cases s.1 with
                | zero => rfl
                | succ q =>
                  cases base with
                  | none => rfl
                  | some a =>
                    simp only
                    cases a.spot with
                    | none => rfl
                    | some z =>
                      simp only
                      cases Nat.beq z i.size with
                      | true =>
                        simp only [storeAtB_eq, fcN_eq]
                        cases storeAtV h (fwd a (len * i.size)) s.2 <;> rfl
                      | false => rfl
              | false =>
                simp only
                cases zer P e with
                | none => rfl
                | some zv =>
                  simp only [Option.bind_some]
                  cases Nat.ble ((len + s.1) * i.bytes) big <;> cases Nat.ble (len + s.1) big <;> cases Nat.blt 0 i.size <;> cases Nat.beq zv.cells.size i.size && s.2.all cellOk <;> try rfl
                  simp only
                  cases oldV ro h i.size base len with
                  | none => rfl
                  | some p => simp only [fcS_eq, fcN_eq, upK_eq]; rfl
      | [] => rfl
      | [v] => cases v <;> rfl
      | .bool _ :: _ :: _ | .int _ _ :: _ :: _ | .float _ _ :: _ :: _ | .complex _ _ _ :: _ :: _ | .string _ :: _ :: _ | .pointer _ :: _ :: _ | .map _ :: _ :: _ | .chan _ :: _ :: _ | .func _ _ _ :: _ :: _ | .nilFunc :: _ :: _ | .iface _ _ :: _ :: _ | .nilIface :: _ :: _ | .agg _ :: _ :: _ | .tuple _ :: _ :: _ => rfl
      | .slice _ _ _ :: _ :: _ :: _ => rfl
def opLB (P : Program) (ro : Ro) (C : CallB) (t : T Value) (h : T Obj) (nx : Nat) (op : Op) (K : KB) : Bool :=
  match op with
  | .store ty a x => bB (evl t a) fun av => bB (evl t x) fun xv => storeB P h ty av xv fun h' => K undef h' nx
  | .mapUpdate ty m k x | .insert ty m k x => bB (evl t m) fun mv => bB (evl t k) fun kv => bB (evl t x) fun xv => bB (mapPutV P h ty mv kv xv) fun h' => K undef h' nx
  | .call { callee := .builtin b, args, argTypes } => bB (evlL t args.toList) fun vs => match b with
    | .append => appendB P ro h nx argTypes vs K
    | .copy => bB (copyV P ro h nx argTypes vs) fun r => apB r K
    | .clear => match vs, argTypes[0]? with
      | [m], some ty => bB (und P ty) fun _ => bB (clearV h m) fun h => K (.tuple #[]) h nx
      | _, _ => false
    | _ => false
  | .call { callee := .value f, args, .. } => bB (evl t f) fun f => bB (evlL t args.toList) fun vs => match f with
    | .func (.func k) a b => C k (a.toList ++ vs ++ b.toList) h nx K
    | _ => false
  | .convert s d x => bB (evl t x) fun v => bB (convSame P h s d v) fun r => K r.1 r.2 nx
  | _ => false
def addK (h : T Obj) (id : Nat) (o : Option Obj) (K : T Obj → Bool) : Bool := match o with
  | none => K h
  | some o => fcO o fun o => upK h id (some o) K
theorem addK_eq (h : T Obj) (id : Nat) (o : Option Obj) (K : T Obj → Bool) : addK h id o K = K (addO h id o) := by
  cases o with
  | none => rfl
  | some o => simp [addK, addO, fcO_eq, upK_eq]
def opRB (P : Program) (ro : Ro) (C : CallB) (t : T Value) (h : T Obj) (nx aid : Nat) (op : Op) (K : KB) : Bool :=
  match loud op with
  | true => opLB P ro C t h nx op K
  | false => match op with
    | .load ty x => bB (evl t x) fun v => match v with
      | .pointer (some a) => loadK P ro h ty a fun v => K v h nx
      | _ => false
    | .move x => bB (evl t x) fun v => K v h nx
    | .assign x => bB (evl t x) fun v => K v h nx
    | op => bB (opQB P ro t h aid op) fun r => fcV r.1 fun v => addK h aid r.2 fun h' => K v h' nx
def putT (n : Nat) (t : T Value) (dst : Option Tmp) (v : Value) (K : T Value → Bool) : Bool :=
  match dst with
  | none => K t
  | some d => match Nat.blt d n with
    | true => upK t d (some v) K
    | false => false
theorem putT_some {n : Nat} {t : T Value} {dst : Option Tmp} {v : Value} {K : T Value → Bool} (h : putT n t dst v K = true) : ∃ t', put n t dst v = some t' ∧ K t' = true := by
  unfold putT at h
  cases dst with
  | none => exact ⟨t, rfl, h⟩
  | some d =>
    simp only at h
    split at h
    · rename_i hb
      rw [upK_eq] at h
      exact ⟨_, by simp only [put]; rw [hb], h⟩
    · cases h
def opsB (P : Program) (ro : Ro) (C : CallB) (n : Nat) (ops : Array Oper) : List Oper → T Value → T Obj → Nat → (T Value → T Obj → Nat → Bool) → Bool
  | [], t, h, nx, Q => Q t h nx
  | o :: r, t, h, nx, Q => match wanted ops t o with
    | true => fcN (nx + 1) fun nx1 => opRB P ro C t h nx1 nx o.op fun v h' nx' => putT n t o.dst v fun t' => opsB P ro C n ops r t' h' nx' Q
    | false => putT n t o.dst undef fun t' => opsB P ro C n ops r t' h nx Q
def opsX (P : Program) (ro : Ro) (C : CallB) (n : Nat) (ops : Array Oper) (l : List Oper) : T Value → T Obj → Nat → (T Value → T Obj → Nat → Bool) → Bool := List.rec (motive := fun _ => T Value → T Obj → Nat → (T Value → T Obj → Nat → Bool) → Bool) (fun t h nx Q => Q t h nx)
  (fun o _ ih t h nx Q => Bool.rec (motive := fun _ => Bool) (putT n t o.dst undef fun t' => ih t' h nx Q) (fcN (nx + 1) fun nx1 => opRB P ro C t h nx1 nx o.op fun v h' nx' => putT n t o.dst v fun t' => ih t' h' nx' Q) (wanted ops t o)) l
theorem opsX_eq (P : Program) (ro : Ro) (C : CallB) (n : Nat) (ops : Array Oper) : ∀ l : List Oper, opsX P ro C n ops l = opsB P ro C n ops l
  | [] => rfl
  | o :: r => by
    funext t h nx Q
    have ih := opsX_eq P ro C n ops r
    simp only [opsB]
    rw [← ih]
    show Bool.rec (motive := fun _ => Bool) _ _ (wanted ops t o) = _
    cases wanted ops t o <;> rfl
def adEq (a b : Option Addr) : Bool := match a, b with
  | none, none => true
  | some a, some b => Nat.beq a.block b.block && Nat.beq a.off b.off && (match a.spot, b.spot with
    | none, none => true
    | some x, some y => Nat.beq x y
    | _, _ => false)
  | _, _ => false
theorem adEq_eq {a b : Option Addr} (h : adEq a b = true) : a = b := by
  unfold adEq at h
  split at h
  · rfl
  · rename_i a b
    obtain ⟨b1, o1, s1⟩ := a
    obtain ⟨b2, o2, s2⟩ := b
    simp only [Bool.and_eq_true] at h
    obtain ⟨⟨h1, h2⟩, h3⟩ := h
    have := Nat.eq_of_beq_eq_true h1
    have := Nat.eq_of_beq_eq_true h2
    subst_vars
    split at h3
    · simp_all
    · have := Nat.eq_of_beq_eq_true h3; simp_all
    · cases h3
  · cases h
def cellEq (a b : Value) : Bool := match a, b with
  | .bool x, .bool y => x == y
  | .int k x, .int k' y => decide (k = k') && decide (x = y)
  | .string x, .string y => x.data.toList == y.data.toList
  | .pointer x, .pointer y => adEq x y
  | .slice x l c, .slice y l' c' => adEq x y && Nat.beq l l' && Nat.beq c c'
  | .map none, .map none => true
  | .map (some x), .map (some y) => Nat.beq x y
  | .nilFunc, .nilFunc => true
  | .nilIface, .nilIface => true
  | _, _ => false
theorem cellEq_eq {a b : Value} (h : cellEq a b = true) : a = b := by
  unfold cellEq at h
  split at h
  · simp_all
  · simp_all
  · rename_i x y
    obtain ⟨⟨x⟩⟩ := x
    obtain ⟨⟨y⟩⟩ := y
    simp_all
  · rw [adEq_eq h]
  · simp only [Bool.and_eq_true] at h
    obtain ⟨⟨h1, h2⟩, h3⟩ := h
    rw [adEq_eq h1, Nat.eq_of_beq_eq_true h2, Nat.eq_of_beq_eq_true h3]
  · rfl
  · rw [Nat.eq_of_beq_eq_true h]
  · rfl
  · rfl
  · cases h
def cellsEq : List Value → List Value → Bool
  | [], [] => true
  | a :: r, b :: s => cellEq a b && cellsEq r s
  | _, _ => false
theorem cellsEq_eq : ∀ {l m : List Value}, cellsEq l m = true → l = m
  | [], [], _ => rfl
  | a :: r, b :: s, h => by
    simp only [cellsEq, Bool.and_eq_true] at h
    rw [cellEq_eq h.1, cellsEq_eq h.2]
  | [], _ :: _, h => by cases h
  | _ :: _, [], h => by cases h
def val1Eq (a b : Value) : Bool := match a, b with
  | .agg x, .agg y => cellsEq x.toList y.toList
  | a, b => cellEq a b
theorem val1Eq_eq {a b : Value} (h : val1Eq a b = true) : a = b := by
  unfold val1Eq at h
  split at h
  · rename_i x y
    obtain ⟨x⟩ := x
    obtain ⟨y⟩ := y
    have := cellsEq_eq h
    simp_all
  · exact cellEq_eq h
def entEq : List MapEntry → List MapEntry → Bool
  | [], [] => true
  | a :: r, b :: s => val1Eq a.key b.key && val1Eq a.val b.val && Nat.beq a.born b.born && entEq r s
  | _, _ => false
theorem entEq_eq : ∀ {l m : List MapEntry}, entEq l m = true → l = m
  | [], [], _ => rfl
  | a :: r, b :: s, h => by
    simp only [entEq, Bool.and_eq_true] at h
    obtain ⟨a1, a2, a3⟩ := a
    obtain ⟨b1, b2, b3⟩ := b
    have h1 := val1Eq_eq h.1.1.1
    have h2 := val1Eq_eq h.1.1.2
    have h3 := Nat.eq_of_beq_eq_true h.1.2
    have h4 := entEq_eq h.2
    simp only at h1 h2 h3
    subst h1; subst h2; subst h3; rw [h4]
  | [], _ :: _, h => by cases h
  | _ :: _, [], h => by cases h
def objEq (a b : Option Obj) : Bool := match a, b with
  | some (.cells x e f), some (.cells y e' f') => Nat.beq e e' && (Nat.beq f.1 f'.1 && Nat.beq f.2 f'.2) && cellsEq x.toList y.toList
  | some (.map x n), some (.map y n') => Nat.beq n n' && entEq x.toList y.toList
  | _, _ => false
theorem objEq_eq {a b : Option Obj} (h : objEq a b = true) : a = b ∧ a.isSome = true := by
  unfold objEq at h
  split at h
  · rename_i x e f y e' f'
    obtain ⟨x⟩ := x
    obtain ⟨y⟩ := y
    obtain ⟨f1, f2⟩ := f
    obtain ⟨f1', f2'⟩ := f'
    simp only [Bool.and_eq_true] at h
    have h1 : e = e' := Nat.eq_of_beq_eq_true h.1.1
    have h2 : f1 = f1' := Nat.eq_of_beq_eq_true h.1.2.1
    have h3 : f2 = f2' := Nat.eq_of_beq_eq_true h.1.2.2
    have h4 : x = y := cellsEq_eq h.2
    subst h1; subst h2; subst h3; subst h4; exact ⟨rfl, rfl⟩
  · rename_i x n y n'
    obtain ⟨x⟩ := x
    obtain ⟨y⟩ := y
    simp only [Bool.and_eq_true] at h
    have h1 : n = n' := Nat.eq_of_beq_eq_true h.1
    have h2 : x = y := entEq_eq h.2
    subst h1; subst h2; exact ⟨rfl, rfl⟩
  · cases h
def sameB (b : Nat) (h h' : T Obj) : Bool := objEq (h.get b) (h'.get b)
theorem sameB_same {b : Nat} {h h' : T Obj} (e : sameB b h h' = true) : same b h h' := objEq_eq e
def allL (b : List Nat) (i : Nat) (h h' : T Obj) : List (Nat × Nat) → Bool
  | [] => true
  | l :: r => match freeL b l.1 i with
    | true => sameB l.2 h h' && allL b i h h' r
    | false => allL b i h h' r
theorem allL_all {b : List Nat} {i : Nat} {h h' : T Obj} : ∀ {ls : List (Nat × Nat)}, allL b i h h' ls = true → ∀ l ∈ ls, freeL b l.1 i = true → same l.2 h h'
  | [], _, l, hl, _ => by cases hl
  | a :: r, e, l, hl, hf => by
    unfold allL at e
    rcases List.mem_cons.1 hl with rfl | hl
    · rw [hf] at e
      simp only [Bool.and_eq_true] at e
      exact sameB_same e.1
    · split at e
      · simp only [Bool.and_eq_true] at e
        exact allL_all e.2 l hl hf
      · exact allL_all e l hl hf
def allM (b : List Nat) (i a : Nat) : List (Nat × T Obj × T Obj) → Bool
  | [] => true
  | m :: r => match freeL b m.1 i with
    | true => sameB a m.2.1 m.2.2 && allM b i a r
    | false => allM b i a r
theorem allM_all {b : List Nat} {i a : Nat} : ∀ {ms : List (Nat × T Obj × T Obj)}, allM b i a ms = true → ∀ m ∈ ms, freeL b m.1 i = true → same a m.2.1 m.2.2
  | [], _, l, hl, _ => by cases hl
  | x :: r, e, l, hl, hf => by
    unfold allM at e
    rcases List.mem_cons.1 hl with rfl | hl
    · rw [hf] at e
      simp only [Bool.and_eq_true] at e
      exact sameB_same e.1
    · split at e
      · simp only [Bool.and_eq_true] at e
        exact allM_all e.2 l hl hf
      · exact allM_all e l hl hf
def opsDB (P : Program) (ro : Ro) (C : CallB) (n : Nat) (ops : Array Oper) (b : List Nat) (n0 : Nat) : List Oper → Nat → List (Nat × Nat) → List (Nat × T Obj × T Obj) → T Value → T Obj → Nat → (T Value → T Obj → Nat → Bool) → Bool
  | [], _, _, _, t, h, nx, Q => Q t h nx
  | o :: r, i, ls, ms, t, h, nx, Q => match wanted ops t o with
    | true => fcN (n0 + i) fun aid => opRB P ro C t h nx aid o.op fun v h' nx' => putT n t o.dst v fun t' => match loud o.op with
      | true => allL b i h h' ls && opsDB P ro C n ops b n0 r (i + 1) ls ((i, h, h') :: ms) t' h' nx' Q
      | false => match rdB P t o.op with
        | some a => allM b i a ms && opsDB P ro C n ops b n0 r (i + 1) ((i, a) :: ls) ms t' h' nx' Q
        | none => opsDB P ro C n ops b n0 r (i + 1) ls ms t' h' nx' Q
    | false => putT n t o.dst undef fun t' => opsDB P ro C n ops b n0 r (i + 1) ls ms t' h nx Q
def befF (ops : Array Oper) : List Nat := CheckFast.beforeL ops.toList 0 []
theorem befF_eq (ops : Array Oper) : befF ops = (bef ops).toList := by
  have := CheckFast.beforeF_eq ops
  unfold befF bef
  rw [← this]; rfl
abbrev QB := Ex → T Value → T Obj → Nat → Bool
def loopB (B : T Value → T Obj → Nat → QB → Bool) : Nat → T Value → T Obj → Nat → QB → Bool
  | 0, _, _, _, _ => false
  | k + 1, t, h, nx, Q => B t h nx fun x t h nx => match x with
    | .normal => loopB B k t h nx Q
    | .exit i => Q (.exit i) t h nx
    | .ret => Q .ret t h nx
def codeE (P : Program) (ro : Ro) (C : CallB) (n : Nat) : Code → T Value → T Obj → Nat → QB → Bool
  | .skip, t, h, nx, Q => Q .normal t h nx
  | .label _, t, h, nx, Q => Q .normal t h nx
  | .ret, t, h, nx, Q => Q .ret t h nx
  | .exit id, t, h, nx, Q => Q (.exit id) t h nx
  | .seq a b, t, h, nx, Q => codeE P ro C n a t h nx fun x t h nx => match x with
    | .normal => codeE P ro C n b t h nx Q
    | .exit i => Q (.exit i) t h nx
    | .ret => Q .ret t h nx
  | .cond c a b, t, h, nx, Q => bB (evl t c) fun v => match v with
    | .bool true => codeE P ro C n a t h nx Q
    | .bool false => codeE P ro C n b t h nx Q
    | _ => false
  | .block id b, t, h, nx, Q => codeE P ro C n b t h nx fun x t h nx => match x with
    | .normal => Q .normal t h nx
    | .exit i => match Nat.beq i id with
      | true => Q .normal t h nx
      | false => Q (.exit i) t h nx
    | .ret => Q .ret t h nx
  | .loop b, t, h, nx, Q => loopB (codeE P ro C n b) 100000 t h nx Q
  | .scope b, t, h, nx, Q => codeE P ro C n b t h nx Q
  | .region _ ops draw, t, h, nx, Q => match draw with
    | false => opsB P ro C n ops ops.toList t h nx (Q .normal)
    | true => match drawOkL P ops (befF ops) with
      | true => fcN (nx + ops.size) fun nx' => opsDB P ro C n ops (befF ops) nx ops.toList 0 [] [] t h nx' (Q .normal)
      | false => false
  | _, _, _, _, _ => false
def codeX (P : Program) (ro : Ro) (C : CallB) (n : Nat) (c : Code) : T Value → T Obj → Nat → QB → Bool := Code.rec (motive := fun _ => T Value → T Obj → Nat → QB → Bool)
  (fun t h nx Q => Q .normal t h nx)
  (fun _ ops draw t h nx Q => Bool.rec (motive := fun _ => Bool) (opsX P ro C n ops ops.toList t h nx (Q .normal))
    (Bool.rec (motive := fun _ => Bool) false (fcN (nx + ops.size) fun nx' => opsDB P ro C n ops (befF ops) nx ops.toList 0 [] [] t h nx' (Q .normal)) (drawOkL P ops (befF ops))) draw)
  (fun _ _ ia ib t h nx Q => ia t h nx fun x t h nx => Ex.rec (motive := fun _ => Bool) (ib t h nx Q) (fun i => Q (.exit i) t h nx) (Q .ret t h nx) x)
  (fun c _ _ ia ib t h nx Q => bB (evl t c) fun v => match v with
    | .bool true => ia t h nx Q
    | .bool false => ib t h nx Q
    | _ => false)
  (fun id _ ib t h nx Q => ib t h nx fun x t h nx => Ex.rec (motive := fun _ => Bool) (Q .normal t h nx) (fun i => Bool.rec (motive := fun _ => Bool) (Q (.exit i) t h nx) (Q .normal t h nx) (Nat.beq i id)) (Q .ret t h nx) x)
  (fun _ ib t h nx Q => loopB ib 100000 t h nx Q)
  (fun _ _ _ _ _ _ _ _ _ _ => false)
  (fun id t h nx Q => Q (.exit id) t h nx)
  (fun _ ib t h nx Q => ib t h nx Q)
  (fun _ t h nx Q => Q .normal t h nx)
  (fun _ _ _ _ _ => false)
  (fun t h nx Q => Q .ret t h nx) (fun _ _ _ _ _ => false) c
theorem codeX_eq (P : Program) (ro : Ro) (C : CallB) (n : Nat) (c : Code) : codeX P ro C n c = codeE P ro C n c := by
  induction c with
  | skip => rfl
  | region id ops draw =>
    funext t h nx Q
    show Bool.rec (motive := fun _ => Bool) (opsX P ro C n ops ops.toList t h nx (Q .normal)) (Bool.rec (motive := fun _ => Bool) false (fcN (nx + ops.size) fun nx' => opsDB P ro C n ops (befF ops) nx ops.toList 0 [] [] t h nx' (Q .normal)) (drawOkL P ops (befF ops))) draw = _
    rw [opsX_eq]
    simp only [codeE]
    cases draw with
    | false => rfl
    | true => cases drawOkL P ops (befF ops) <;> rfl
  | seq a b iha ihb =>
    funext t h nx Q
    show (codeX P ro C n a t h nx fun x t h nx => Ex.rec (motive := fun _ => Bool) (codeX P ro C n b t h nx Q) (fun i => Q (.exit i) t h nx) (Q .ret t h nx) x) = _
    rw [iha, ihb]
    simp only [codeE]
    congr 1
    funext x t h nx
    cases x <;> rfl
  | cond c a b iha ihb =>
    funext t h nx Q
    show (bB (evl t c) fun v => match v with
      | .bool true => codeX P ro C n a t h nx Q
      | .bool false => codeX P ro C n b t h nx Q
      | _ => false) = _
    rw [iha, ihb]
    simp only [codeE]
  | block id b ihb =>
    funext t h nx Q
    show (codeX P ro C n b t h nx fun x t h nx => Ex.rec (motive := fun _ => Bool) (Q .normal t h nx) (fun i => Bool.rec (motive := fun _ => Bool) (Q (.exit i) t h nx) (Q .normal t h nx) (Nat.beq i id)) (Q .ret t h nx) x) = _
    rw [ihb]
    simp only [codeE]
    congr 1
    funext x t h nx
    cases x with
    | normal => rfl
    | ret => rfl
    | exit i => simp only; cases Nat.beq i id <;> rfl
  | loop b ihb =>
    funext t h nx Q
    show loopB (codeX P ro C n b) 100000 t h nx Q = _
    rw [ihb]
    simp only [codeE]
  | rangeFunc => rfl
  | exit id => rfl
  | scope b ihb =>
    funext t h nx Q
    show codeX P ro C n b t h nx Q = _
    rw [ihb]
    simp only [codeE]
  | label l => rfl
  | goto l => rfl
  | ret => rfl
  | refuse => rfl
def entryK : List Value → Nat → T Value → (T Value → Bool) → Bool
  | [], _, t, K => K t
  | v :: vs, i, t, K => upK t i (some v) fun t => entryK vs (Nat.succ i) t K
theorem entryK_eq : ∀ (l : List Value) (i : Nat) (t : T Value) (K : T Value → Bool), entryK l i t K = K (entryT l i t)
  | [], i, t, K => rfl
  | v :: vs, i, t, K => by rw [entryK, upK_eq, entryK_eq vs]; rfl
abbrev OrcT := FuncId → List Value → Option (Nat × Nat × Nat × TypeId × List Value)
def callE (P : Program) (ro : Ro) (O : OrcT) : Nat → CallB
  | 0, _, _, _, _, _ => false
  | k + 1, f, args, h, nx, K => match O f args with
   | some (z, l, c, e, cs) => fcN z fun z => fcN l fun l => fcN c fun c => fcL cs fun cs => upK h nx (some (.cells cs.toArray e)) fun h' => K (.slice (some ⟨nx, 0, some z⟩) l c) h' (Nat.succ nx)
   | none => bB P.funcs[f]? fun fn => bB fn.body fun body => match Nat.ble args.length fn.ntmps with
    | true => entryK args 0 .e fun t => codeX P ro (callE P ro O k) fn.ntmps body t h nx fun x t h nx => match x with
      | .exit _ => false
      | .normal => bB (resV P ro h t fn.results.toList) fun vs => fcV (resOf vs) fun v => K v h nx
      | .ret => bB (resV P ro h t fn.results.toList) fun vs => fcV (resOf vs) fun v => K v h nx
    | false => false
section
variable {P : Program} {ro : Ro}
def CallS (P : Program) (ro : Ro) (C : CallB) : Prop := ∀ f args h nx K, C f args h nx K = true → ∃ k v h' nx', call P ro k f args h nx v h' nx' ∧ K v h' nx' = true
theorem opLB_sound {C : CallB} (hC : CallS P ro C) {t : T Value} {h : T Obj} {nx : Nat} {op : Op} {K : KB} (hl : opLB P ro C t h nx op K = true) :
    ∃ k v h' nx', opL P ro (call P ro k) t h nx op v h' nx' ∧ K v h' nx' = true := by
  cases op with
  | store ty a x =>
    obtain ⟨a', h1, hl⟩ := bB_some hl
    obtain ⟨x', h2, hl⟩ := bB_some hl
    rw [storeB_eq] at hl
    obtain ⟨h', h4, hl⟩ := bB_some hl
    exact ⟨0, _, _, _, ⟨a', x', h1, h2, h4, rfl, rfl⟩, hl⟩
  | mapUpdate ty m k x | insert ty m k x =>
    obtain ⟨m', h1, hl⟩ := bB_some hl
    obtain ⟨k', h2, hl⟩ := bB_some hl
    obtain ⟨x', h3, hl⟩ := bB_some hl
    obtain ⟨h', h4, hl⟩ := bB_some hl
    exact ⟨0, _, _, _, ⟨m', k', x', h1, h2, h3, h4, rfl, rfl⟩, hl⟩
  | call c =>
    obtain ⟨callee, args, ts⟩ := c
    cases callee with
    | builtin b =>
      obtain ⟨vs, h1, hl⟩ := bB_some hl
      cases b <;> try (exact Bool.noConfusion hl)
      case append =>
        simp only [appendB_eq] at hl
        obtain ⟨r, h2, hl⟩ := bB_some hl
        exact ⟨0, _, _, _, ⟨vs, h1, h2⟩, hl⟩
      case copy =>
        obtain ⟨r, h2, hl⟩ := bB_some hl
        rw [apB_eq] at hl
        exact ⟨0, _, _, _, ⟨vs, h1, h2⟩, hl⟩
      case clear =>
        simp only at hl
        split at hl
        · rename_i m ty hty
          obtain ⟨d, h2, hl⟩ := bB_some hl
          obtain ⟨h', h3, hl⟩ := bB_some hl
          exact ⟨0, _, _, _, ⟨_, h1, m, ty, rfl, hty, by rw [h2]; rfl, h3, rfl, rfl⟩, hl⟩
        · cases hl
    | value f =>
      obtain ⟨fv, h1, hl⟩ := bB_some hl
      obtain ⟨vs, h2, hl⟩ := bB_some hl
      split at hl
      · rename_i k a b _
        obtain ⟨k', v, h', nx', h3, h4⟩ := hC _ _ _ _ _ hl
        exact ⟨k', v, h', nx', ⟨k, a, b, vs, h1, h2, h3⟩, h4⟩
      · cases hl
    | invoke r m => cases hl
  | convert s d x =>
    obtain ⟨v, h1, hl⟩ := bB_some hl
    obtain ⟨r, h2, hl⟩ := bB_some hl
    exact ⟨0, _, _, _, ⟨v, h1, h2, rfl⟩, hl⟩
  | _ => cases hl
theorem opRB_sound {C : CallB} (hC : CallS P ro C) {t : T Value} {h : T Obj} {nx aid : Nat} {op : Op} {K : KB} (hl : opRB P ro C t h nx aid op K = true) :
    ∃ k v h' nx', opR P ro (call P ro k) t h nx aid op v h' nx' ∧ K v h' nx' = true := by
  unfold opRB at hl
  unfold opR
  cases hq : loud op with
  | true => rw [hq] at hl; exact opLB_sound hC hl
  | false =>
    rw [hq] at hl
    have gen : ∀ op, bB (opQB P ro t h aid op) (fun r => fcV r.1 fun v => addK h aid r.2 fun h' => K v h' nx) = true → ∃ (v : Value) (h' : T Obj) (nx' : Nat), (∃ ob, opQ P ro t h aid op = some (v, ob) ∧ h' = addO h aid ob ∧ nx' = nx) ∧ K v h' nx' = true := by
      intro op hl
      simp only [fcV_eq, addK_eq, opQB_eq] at hl
      obtain ⟨r, h1, h2⟩ := bB_some hl
      exact ⟨r.1, _, _, ⟨r.2, h1, rfl, rfl⟩, h2⟩
    simp only at hl ⊢
    have key : ∃ v h' nx', (∃ ob, opQ P ro t h aid op = some (v, ob) ∧ h' = addO h aid ob ∧ nx' = nx) ∧ K v h' nx' = true := by
      split at hl
      · rename_i ty x
        obtain ⟨v, h1, hl⟩ := bB_some hl
        split at hl
        · rename_i a
          rw [loadK_eq] at hl
          obtain ⟨u, h2, h3⟩ := bB_some hl
          exact ⟨u, h, nx, ⟨none, by simp only [opQ]; rw [h1]; show (loadV P ro h ty a).bind _ = _; rw [h2]; rfl, rfl, rfl⟩, h3⟩
        · cases hl
      · obtain ⟨v, h1, hl⟩ := bB_some hl
        exact ⟨v, h, nx, ⟨none, by simp only [opQ]; rw [h1]; rfl, rfl, rfl⟩, hl⟩
      · obtain ⟨v, h1, hl⟩ := bB_some hl
        exact ⟨v, h, nx, ⟨none, by simp only [opQ]; rw [h1]; rfl, rfl, rfl⟩, hl⟩
      · exact gen _ hl
    obtain ⟨v, h', nx', q1, q2⟩ := key
    exact ⟨0, v, h', nx', q1, q2⟩
theorem opsB_sound {C : CallB} (hC : CallS P ro C) {n : Nat} {ops : Array Oper} : ∀ (l : List Oper) (t : T Value) (h : T Obj) (nx : Nat) (Q : T Value → T Obj → Nat → Bool), opsB P ro C n ops l t h nx Q = true →
    ∃ k s', opsR P ro (call P ro k) n ops l ⟨t, h, nx⟩ s' ∧ Q s'.t s'.h s'.nx = true := by
  intro l
  induction l with
  | nil => intro t h nx Q hq; exact ⟨0, _, rfl, hq⟩
  | cons o r ih =>
    intro t h nx Q hq
    simp only [opsB, fcN_eq] at hq
    simp only [opsR]
    cases hw : wanted ops t o with
    | true =>
      rw [hw] at hq
      obtain ⟨k1, v, h', nx', h1, h2⟩ := opRB_sound hC hq
      obtain ⟨t', h3, h4⟩ := putT_some h2
      obtain ⟨k2, s', h5, h6⟩ := ih _ _ _ _ h4
      exact ⟨max k1 k2, s', ⟨v, h', nx', t', opR_le (call_le (Nat.le_max_left _ _)) h1, h3, opsR_le (call_le (Nat.le_max_right _ _)) _ _ _ h5⟩, h6⟩
    | false =>
      rw [hw] at hq
      obtain ⟨t', h3, h4⟩ := putT_some hq
      obtain ⟨k2, s', h5, h6⟩ := ih _ _ _ _ h4
      exact ⟨k2, s', ⟨t', h3, h5⟩, h6⟩
theorem opsDB_sound {C : CallB} (hC : CallS P ro C) {n n0 : Nat} {ops : Array Oper} : ∀ (l : List Oper) (i : Nat) (ls : List (Nat × Nat)) (ms : List (Nat × T Obj × T Obj)) (t : T Value) (h : T Obj) (nx : Nat) (Q : T Value → T Obj → Nat → Bool),
    opsDB P ro C n ops (bef ops).toList n0 l i ls ms t h nx Q = true → ∃ k s', opsD P ro (call P ro k) n ops n0 l i ls ms ⟨t, h, nx⟩ s' ∧ Q s'.t s'.h s'.nx = true := by
  intro l
  induction l with
  | nil => intro i ls ms t h nx Q hq; exact ⟨0, _, rfl, hq⟩
  | cons o r ih =>
    intro i ls ms t h nx Q hq
    simp only [opsDB, fcN_eq] at hq
    simp only [opsD]
    cases hw : wanted ops t o with
    | true =>
      rw [hw] at hq
      obtain ⟨k1, v, h', nx', h1, h2⟩ := opRB_sound hC hq
      obtain ⟨t', h3, h4⟩ := putT_some h2
      cases hl : loud o.op with
      | true =>
        rw [hl] at h4
        simp only [Bool.and_eq_true] at h4
        obtain ⟨k2, s', h5, h6⟩ := ih _ _ _ _ _ _ _ h4.2
        refine ⟨max k1 k2, s', ⟨v, h', nx', t', opR_le (call_le (Nat.le_max_left _ _)) h1, h3, ?_, opsD_le (call_le (Nat.le_max_right _ _)) _ _ _ _ _ _ h5⟩, h6⟩
        intro q hq hf
        exact allL_all h4.1 q hq (by rw [← freeL_eq] at hf; exact hf)
      | false =>
        rw [hl] at h4
        simp only at h4
        cases hr : rdB P t o.op with
        | none =>
          rw [hr] at h4
          obtain ⟨k2, s', h5, h6⟩ := ih _ _ _ _ _ _ _ h4
          exact ⟨max k1 k2, s', ⟨v, h', nx', t', opR_le (call_le (Nat.le_max_left _ _)) h1, h3, opsD_le (call_le (Nat.le_max_right _ _)) _ _ _ _ _ _ h5⟩, h6⟩
        | some a =>
          rw [hr] at h4
          simp only [Bool.and_eq_true] at h4
          obtain ⟨k2, s', h5, h6⟩ := ih _ _ _ _ _ _ _ h4.2
          refine ⟨max k1 k2, s', ⟨v, h', nx', t', opR_le (call_le (Nat.le_max_left _ _)) h1, h3, ?_, opsD_le (call_le (Nat.le_max_right _ _)) _ _ _ _ _ _ h5⟩, h6⟩
          intro q hq hf
          exact allM_all h4.1 q hq (by rw [← freeL_eq] at hf; exact hf)
    | false =>
      rw [hw] at hq
      obtain ⟨t', h3, h4⟩ := putT_some hq
      obtain ⟨k2, s', h5, h6⟩ := ih _ _ _ _ _ _ _ h4
      exact ⟨k2, s', ⟨t', h3, h5⟩, h6⟩
def CodeS (P : Program) (ro : Ro) (n : Nat) (c : Code) (B : T Value → T Obj → Nat → QB → Bool) : Prop :=
  ∀ t h nx Q, B t h nx Q = true → ∃ k x s', code P ro k n c ⟨t, h, nx⟩ x s' ∧ Q x s'.t s'.h s'.nx = true
theorem loopB_sound {n : Nat} {b : Code} {B : T Value → T Obj → Nat → QB → Bool} (hB : CodeS P ro n b B) : ∀ (j : Nat) (t : T Value) (h : T Obj) (nx : Nat) (Q : QB), loopB B j t h nx Q = true →
    ∃ k x s', code P ro k n (.loop b) ⟨t, h, nx⟩ x s' ∧ Q x s'.t s'.h s'.nx = true := by
  intro j
  induction j with
  | zero => intro t h nx Q hq; cases hq
  | succ j ih =>
    intro t h nx Q hq
    obtain ⟨k1, x, s1, h1, h2⟩ := hB _ _ _ _ hq
    cases x with
    | normal =>
      obtain ⟨k2, x, s2, h5, h6⟩ := ih _ _ _ _ h2
      exact ⟨max k1 k2 + 1, x, s2, .inl ⟨s1, s1.h, code_le (Nat.le_max_left _ _) _ _ _ _ _ h1, fun _ _ e => e, code_le (Nat.le_max_right _ _) _ _ _ _ _ h5⟩, h6⟩
    | exit id => exact ⟨k1 + 1, _, s1, .inr ⟨by simp, h1⟩, h2⟩
    | ret => exact ⟨k1 + 1, _, s1, .inr ⟨by simp, h1⟩, h2⟩
theorem codeE_sound {C : CallB} (hC : CallS P ro C) {n : Nat} : ∀ c : Code, CodeS P ro n c (codeE P ro C n c) := by
  intro c
  induction c with
  | skip | label => intro t h nx Q hp; exact ⟨1, .normal, _, ⟨rfl, rfl⟩, hp⟩
  | ret => intro t h nx Q hp; exact ⟨1, .ret, _, ⟨rfl, rfl⟩, hp⟩
  | exit id => intro t h nx Q hp; exact ⟨1, .exit id, _, ⟨rfl, rfl⟩, hp⟩
  | seq a b iha ihb =>
    intro t h nx Q hp
    obtain ⟨k1, x, s1, h1, h2⟩ := iha _ _ _ _ hp
    cases x with
    | normal =>
      obtain ⟨k2, x, s2, h5, h6⟩ := ihb _ _ _ _ h2
      exact ⟨max k1 k2 + 1, x, s2, .inl ⟨s1, code_le (Nat.le_max_left _ _) _ _ _ _ _ h1, code_le (Nat.le_max_right _ _) _ _ _ _ _ h5⟩, h6⟩
    | exit id => exact ⟨k1 + 1, _, s1, .inr ⟨by simp, h1⟩, h2⟩
    | ret => exact ⟨k1 + 1, _, s1, .inr ⟨by simp, h1⟩, h2⟩
  | cond c a b iha ihb =>
    intro t h nx Q hp
    obtain ⟨v, h1, h2⟩ := bB_some hp
    split at h2
    · obtain ⟨k, x, s1, h3, h4⟩ := iha _ _ _ _ h2
      exact ⟨k + 1, x, s1, ⟨true, h1, h3⟩, h4⟩
    · obtain ⟨k, x, s1, h3, h4⟩ := ihb _ _ _ _ h2
      exact ⟨k + 1, x, s1, ⟨false, h1, h3⟩, h4⟩
    · cases h2
  | block id b ihb =>
    intro t h nx Q hp
    obtain ⟨k, x, s1, h1, h2⟩ := ihb _ _ _ _ hp
    cases x with
    | normal => exact ⟨k + 1, _, s1, ⟨_, h1, rfl⟩, h2⟩
    | ret => exact ⟨k + 1, _, s1, ⟨_, h1, rfl⟩, h2⟩
    | exit i =>
      refine ⟨k + 1, _, s1, ⟨_, h1, rfl⟩, ?_⟩
      simp only at h2 ⊢
      cases hb : Nat.beq i id with
      | true => rw [hb] at h2; exact h2
      | false => rw [hb] at h2; exact h2
  | loop b ihb => intro t h nx Q hp; exact loopB_sound ihb _ _ _ _ _ hp
  | scope b ihb =>
    intro t h nx Q hp
    obtain ⟨k, x, s1, h1, h2⟩ := ihb _ _ _ _ hp
    exact ⟨k + 1, x, s1, h1, h2⟩
  | region id ops draw =>
    intro t h nx Q hp
    cases draw with
    | false =>
      obtain ⟨k, s', h1, h2⟩ := opsB_sound hC _ _ _ _ _ hp
      exact ⟨k + 1, .normal, s', ⟨rfl, h1⟩, h2⟩
    | true =>
      simp only [codeE] at hp
      rw [befF_eq, drawOkL_eq] at hp
      cases hd : drawOk P ops with
      | false => rw [hd] at hp; cases hp
      | true =>
        rw [hd] at hp
        simp only [fcN_eq] at hp
        obtain ⟨k, s', h1, h2⟩ := opsDB_sound hC _ _ _ _ _ _ _ _ hp
        exact ⟨k + 1, .normal, s', ⟨rfl, hd, h1⟩, h2⟩
  | _ => intro t h nx Q hp; cases hp
theorem callE_sound {O : OrcT} (hO : ∀ f args z l c e cs, O f args = some (z, l, c, e, cs) → OrcS P f args z l c cs) : ∀ k, CallS P ro (callE P ro O k) := by
  intro k
  induction k with
  | zero => intro f args h nx K hc; cases hc
  | succ k ih =>
    intro f args h nx K hc
    simp only [callE] at hc
    cases hq : O f args with
    | some r =>
      obtain ⟨z, l, c, e, cs⟩ := r
      rw [hq] at hc
      simp only [fcN_eq, fcL_eq, upK_eq] at hc
      exact ⟨0, _, _, _, .inr (.inr ⟨z, l, c, cs, e, hO _ _ _ _ _ _ _ hq, rfl, fun _ _ e => e, rfl⟩), hc⟩
    | none =>
    rw [hq] at hc
    simp only at hc
    obtain ⟨fn, h1, hc⟩ := bB_some hc
    obtain ⟨body, h2, hc⟩ := bB_some hc
    split at hc
    · rename_i hb
      rw [entryK_eq, codeX_eq] at hc
      obtain ⟨j, x, s, h3, h4⟩ := codeE_sound ih body _ _ _ _ hc
      cases x with
      | exit i => cases h4
      | normal =>
        obtain ⟨vs, h5, h6⟩ := bB_some h4
        rw [fcV_eq] at h6
        exact ⟨j, _, _, _, .inl ⟨fn, body, .normal, s, vs, h1, h2, Nat.le_of_ble_eq_true hb, h3, .inl rfl, h5, rfl, fun _ _ e => e, rfl⟩, h6⟩
      | ret =>
        obtain ⟨vs, h5, h6⟩ := bB_some h4
        rw [fcV_eq] at h6
        exact ⟨j, _, _, _, .inl ⟨fn, body, .ret, s, vs, h1, h2, Nat.le_of_ble_eq_true hb, h3, .inr rfl, h5, rfl, fun _ _ e => e, rfl⟩, h6⟩
    · cases hc
def endB (want : Value) : KB := fun v _ _ => val1Eq v want
theorem call_sub {k : Nat} {f : FuncId} {args : List Value} {h h' h1 : T Obj} {nx nx' : Nat} {v : Value} (hc : call P ro k f args h nx v h' nx') (hs : Sub h1 h') : call P ro k f args h nx v h1 nx' := by
  rcases hc with ⟨fn, body, e, s, vs, g1, g2, g3, g4, g5, g6, g7, g8, g9⟩ | ⟨g1, g2, g3, g4⟩ | ⟨z, l, c, cs, e, g1, g2, g3, g4⟩
  · exact .inl ⟨fn, body, e, s, vs, g1, g2, g3, g4, g5, g6, g7, fun k o hk => g8 k o (hs k o hk), g9⟩
  · exact .inr (.inl ⟨g1, g2, fun k o hk => g3 k o (hs k o hk), g4⟩)
  · exact .inr (.inr ⟨z, l, c, cs, e, g1, g2, fun k o hk => g3 k o (hs k o hk), g4⟩)
theorem callP_evK {O : OrcT} (hO : ∀ f args z l c e cs, O f args = some (z, l, c, e, cs) → OrcS P f args z l c cs) {k : Nat} {f : FuncId} {args : List Value} {h : T Obj} {nx : Nat} {T : KB} {K : KV} (hc : callE P ro O k f args h nx T = true) (hK : ∀ v h' nx', T v h' nx' = true → ∃ h1, Sub h1 h' ∧ K v h1 nx') : callP P ro f args h nx K := by
  obtain ⟨j, v, h', nx', h1, h2⟩ := callE_sound hO k _ _ _ _ _ hc
  obtain ⟨h3, h4, h5⟩ := hK _ _ _ h2
  exact ⟨j, v, h3, nx', call_sub h1 h4, h5⟩
theorem callP_ev {O : OrcT} (hO : ∀ f args z l c e cs, O f args = some (z, l, c, e, cs) → OrcS P f args z l c cs) {k : Nat} {f : FuncId} {args : List Value} {nx : Nat} {want : Value} {K : KV} (h : callE P ro O k f args .e nx (endB want) = true) (hK : ∀ n, K want .e n) : callP P ro f args .e nx K :=
  callP_evK hO h fun v h' nx' hv => ⟨.e, (fun k o hk => by rw [T.get_e] at hk; cases hk), by rw [val1Eq_eq hv]; exact hK _⟩
end
end V
end Go.Proofs.YtjndkdmkecpllaaGreat
set_option linter.unusedVariables false
set_option linter.unusedSimpArgs false
noncomputable section
namespace Go.Proofs.YtjndkdmkecpllaaGreat
namespace V
theorem orc_of {P : Program} (hz : zerosOk P = true) (hn : namesOk P = true) (hm : P.follows .mixedOrders = true) {f : FuncId} {want : Value} (hf : flat want = true) (hb : ((P.funcs[f]?).bind (·.body)).isSome = true)
    (he : ∀ ro : Ro, callP P ro f [] .e 0 fun v _ _ => v = want) : Orc P f want := by
  refine ⟨hf, ?_, fun W => ?_⟩
  · cases hq : P.funcs[f]? with
    | none => rw [hq] at hb; cases hb
    | some fn =>
      rw [hq] at hb
      refine ⟨fn, rfl, ?_⟩
      simp only [Option.bind_some] at hb
      cases hc : fn.body with
      | none => rw [hc] at hb; cases hb
      | some b => rfl
  · obtain ⟨j, v, h', nx', hc, hv⟩ := he (roOf W)
    subst hv
    have hs : SS (roOf W) W.heap.size W (fun _ => none) .e 0 W := ⟨roOf_sim W, fun _ _ => rfl⟩
    refine ((call_sound (ro := roOf W) (N := W.heap.size) (w0 := W) hz hn hm _ _ _ _ _ _ _ hc).2 _ W #[] hs .nil).mono fun e W' ⟨v', φ', he, hst, hv⟩ => ?_
    subst he
    exact ⟨by rw [hv.of_flat hf], hst.size, fun b hb => hst.frame b hb fun k B o r hk _ => absurd (T.get_e k) hk, hst.os, hst.tape, hst.output⟩
theorem orc_ev {P : Program} (hz : zerosOk P = true) (hn : namesOk P = true) (hm : P.follows .mixedOrders = true) {O : OrcT} (hO : ∀ f args z l c e cs, O f args = some (z, l, c, e, cs) → OrcS P f args z l c cs) {f : FuncId} {want : Value} {k : Nat} (hf : flat want = true) (hb : ((P.funcs[f]?).bind (·.body)).isSome = true)
    (he : ∀ ro : Ro, callE P ro O k f [] .e 0 (endB want) = true) : Orc P f want := orc_of hz hn hm hf hb fun ro => callP_ev hO (he ro) fun _ => rfl
theorem LR.rigid {N : Nat} {φ : Phi} : ∀ {l : List Value}, l.all V.rigid = true → LR N φ l l
  | [], _ => .nil
  | x :: l, h => by
    simp only [List.all_cons, Bool.and_eq_true] at h
    refine .cons ?_ (LR.rigid h.2)
    have hx := h.1
    cases x with
    | agg cs => exact VR.aggL (LR.flat fun x hx' => List.all_eq_true.1 (show cs.toList.all V.flat = true from hx) x hx')
    | _ => exact .flat hx
theorem orcS_of {P : Program} (hz : zerosOk P = true) (hn : namesOk P = true) (hm : P.follows .mixedOrders = true) {f : FuncId} {args : List Value} {z l c : Nat} {cs : List Value} (hr : args.all rigid = true) (hf : cs.all flat = true) (hb : ((P.funcs[f]?).bind (·.body)).isSome = true)
    (hc0 : l ≤ c) (hc1 : c * z = cs.length) (hc2 : 0 < c) (he : ∀ ro : Ro, callP P ro f args .e 0 fun v h _ => ∃ id e, v = .slice (some ⟨id, 0, some z⟩) l c ∧ h.get id = some (.cells cs.toArray e)) : OrcS P f args z l c cs := by
  refine ⟨hr, hf, ?_, fun W => ?_⟩
  · cases hq : P.funcs[f]? with
    | none => rw [hq] at hb; cases hb
    | some fn =>
      rw [hq] at hb
      refine ⟨fn, rfl, ?_⟩
      simp only [Option.bind_some] at hb
      cases hc : fn.body with
      | none => rw [hc] at hb; cases hb
      | some b => rfl
  · obtain ⟨j, v, h', nx', hc, id, e, rfl, hg⟩ := he (roOf W)
    have hs : SS (roOf W) W.heap.size W (fun _ => none) .e 0 W := ⟨roOf_sim W, fun _ _ => rfl⟩
    refine ((call_sound (ro := roOf W) (N := W.heap.size) (w0 := W) hz hn hm _ _ _ _ _ _ _ hc).2 _ W args.toArray hs (by simpa using LR.rigid hr)).mono fun en W' ⟨v', φ', he, hst, hv⟩ => ?_
    subst he
    refine ⟨?_, hst.size, fun b hb => hst.frame b hb fun k B o r hk _ => absurd (T.get_e k) hk, hst.os, hst.tape, hst.output⟩
    obtain ⟨B, b, r, o', p1, p2, p3⟩ := hst.ss.sim.own id _ hg
    have hB : W.heap.size ≤ B := by
      rcases hst.img id B b r (by rw [hg]; simp) p1 with h1 | ⟨k0, o0, r0, h1, _⟩
      · exact h1
      · exact absurd (T.get_e k0) h1
    cases o' <;> first
      | exact p3.elim
      | skip
    rename_i C E F
    obtain ⟨r1, r2, r3, r4⟩ := p3
    have hflat : ∀ (i : Nat) (x : Value), cs[i]? = some x → C[b + i]? = some x := fun i x hx => by
      obtain ⟨y, hy, hxy⟩ := r3 i x (by simpa using hx)
      rw [hy, hxy.of_flat (List.all_eq_true.1 hf x (List.mem_of_getElem? hx))]
    cases hv with
    | flat h => cases h
    | sliceRo h _ => cases h
    | sliceOwn h1 h2 h3 h4 =>
      cases h2
      simp only at h1
      rw [p1] at h1
      cases h1
      exact ⟨B, _, r, _, C, E, F, rfl, h3, by simpa using h4, hB, (hst.ss.sim.dom id B b r p1).2, p2, r1, by simpa using r2, hflat, r4⟩
    | sliceEnd h1 h2 => omega
    | sliceNo h => cases h
end V
end Go.Proofs.YtjndkdmkecpllaaGreat
set_option linter.unusedVariables false
set_option linter.unusedSimpArgs false
namespace Go.Proofs.YtjndkdmkecpllaaGreat
namespace V
attribute [local irreducible] callPre callP bindP
abbrev i_law13_ExecWork : FuncId := 7
abbrev i_law13_shown : FuncId := 11
abbrev i_exec_New : FuncId := 15
abbrev i_ref11_Right : FuncId := 32
abbrev i_ref11_Codes : FuncId := 45
abbrev i_auto_Right : FuncId := 48
abbrev i_exec_copied : FuncId := 49
abbrev i_ring_New : FuncId := 50
abbrev i_slices_Contains_int_int : FuncId := 53
abbrev i_exec_change : FuncId := 55
abbrev i_ref02_Right : FuncId := 67
abbrev i_ref11_state : FuncId := 68
abbrev i_ref02_First : FuncId := 86
abbrev i_ref01_Has : FuncId := 87
abbrev i_split_Right : FuncId := 91
abbrev i_slices_ContainsFunc_api_State_api_State : FuncId := 92
abbrev i_auto_Right_1 : FuncId := 93
abbrev i_auto_checker_state : FuncId := 94
abbrev i_slices_Clone_2_int_2_int : FuncId := 95
abbrev i_slices_Clone_int_int : FuncId := 96
abbrev i_slices_Clone_api_Move_api_Move : FuncId := 97
abbrev i_slices_Clone_uint8_uint8 : FuncId := 98
abbrev i_slices_Index_int_int : FuncId := 102
abbrev i_ref11_rises : FuncId := 110
abbrev i_ref11_move : FuncId := 111
abbrev i_ref01_List : FuncId := 119
abbrev i_ref02_Set : FuncId := 120
abbrev i_ref11_in : FuncId := 121
abbrev i_slices_IndexFunc_api_State_api_State : FuncId := 122
abbrev i_auto_Codes : FuncId := 123
abbrev i_auto_rises : FuncId := 124
abbrev i_slices_ContainsFunc_api_Move_api_Move : FuncId := 125
abbrev i_auto_checker_state_1 : FuncId := 126
abbrev i_auto_checker_move : FuncId := 127
abbrev i_ref01_Of : FuncId := 140
abbrev i_slices_IndexFunc_api_Move_api_Move : FuncId := 141
abbrev i_ref01_with : FuncId := 147
abbrev y_int : TypeId := 3
abbrev y_bool : TypeId := 4
abbrev y_uint8 : TypeId := 5
abbrev y_string : TypeId := 9
abbrev y_s_int : TypeId := 26
abbrev y_a256_uint8 : TypeId := 33
abbrev y_api_Split : TypeId := 35
abbrev y_s_a2_int : TypeId := 36
abbrev y_s_api_State : TypeId := 37
abbrev y_api_Auto : TypeId := 39
abbrev y_api_Set : TypeId := 64
abbrev y_raddleref13_Machine : TypeId := 77
abbrev y_a2_int : TypeId := 105
abbrev y_s_s_api_Move : TypeId := 107
abbrev y_api_State : TypeId := 109
abbrev y_s_api_Move : TypeId := 112
abbrev y_s_uint8 : TypeId := 113
abbrev y_api_Move : TypeId := 115
abbrev y_s_p_ring_Ring : TypeId := 117
abbrev y_exec_Machine : TypeId := 119
abbrev y_p_ring_Ring : TypeId := 120
abbrev y_raddleref03_Ring : TypeId := 135
abbrev y_auto_checker : TypeId := 156
abbrev y_ring_Ring : TypeId := 164
@[irreducible] def ref11_Right_j2 (ro : Ro) (K : KV) : Env → T Obj → Nat → Prop := fun e h nx => ∃ h144, Sub h144 h ∧ K (Value.bool true) h144 (nx + 1)
@[irreducible] def ref11_Right_L1 (ro : Ro) : PT := fun e h nx Q => bindP (fwdP 258 (e 1)) fun t79_145 => bindP (load1 ro h t79_145) fun t80_146 => bindP (lenSl t80_146) fun t81_147 => bindP (intB .lss (e 5) t81_147) fun t82_148 => condP t82_148 (bindP (loadA ro h 259 (e 1)) fun t85_149 => bindP (fwdP 258 (e 1)) fun t86_150 => bindP (load1 ro h t86_150) fun t87_151 => bindP (ixSl 4 t87_151 (e 5)) fun t89_152 => bindP (loadA ro h 4 t89_152) fun t90_153 => callP Tryz.prog ro i_ref11_state [t85_149, t90_153] h (nx + 13) fun t91_154 h155 n156 => bindP (unV .not t91_154) fun t92_157 => condP t92_157 (Q .ret (puts e [(78, (e 5)), (79, t79_145), (80, t80_146), (81, t81_147), (82, t82_148), (85, t85_149), (86, t86_150), (87, t87_151), (88, (e 5)), (89, t89_152), (90, t90_153), (91, t91_154), (92, t92_157), (2, (Value.bool false))]) h155 (n156 + 1)) (bindP (intB .add (e 5) (Value.int IntKind.i64 1)) fun t84_158 => Q .normal (puts e [(78, (e 5)), (79, t79_145), (80, t80_146), (81, t81_147), (82, t82_148), (85, t85_149), (86, t86_150), (87, t87_151), (88, (e 5)), (89, t89_152), (90, t90_153), (91, t91_154), (92, t92_157), (83, (e 5)), (84, t84_158), (5, t84_158)]) h155 (n156 + 3))) (Q (.exit 2) (puts e [(78, (e 5)), (79, t79_145), (80, t80_146), (81, t81_147), (82, t82_148)]) h (nx + 5))
@[irreducible] def ref11_Right_j1 (ro : Ro) (K : KV) : Env → T Obj → Nat → Prop := fun e h nx => loopP (ref11_Right_L1 ro) (puts e [(5, (Value.int IntKind.i64 0))]) h (nx + 1) fun x162 e159 h160 n161 => exP x162 (ref11_Right_j2 ro K e159 h160 n161) (fun i163 => beqP (Nat.beq i163 2) (ref11_Right_j2 ro K e159 h160 n161) (False)) (∃ h164, Sub h164 h160 ∧ K (e159 2) h164 n161)
@[irreducible] def ref11_Right_L2 (ro : Ro) : PT := fun e h nx Q => bindP (fwdP 257 (e 1)) fun t47_165 => bindP (load1 ro h t47_165) fun t48_166 => bindP (lenSl t48_166) fun t49_167 => bindP (intB .lss (e 3) t49_167) fun t50_168 => condP t50_168 (bindP (fwdP 257 (e 1)) fun t53_169 => bindP (load1 ro h t53_169) fun t54_170 => bindP (ixSl 2 t54_170 (e 3)) fun t56_171 => bindP (loadA ro h 2 t56_171) fun t57_172 => bindP (zer Tryz.prog y_a2_int) fun z173 => newP h (nx + 10) (.cells z173.cells y_a2_int) fun h174 => bindP (storeN 2 h174 (ptr (nx + 10)) t57_172) fun h175 => bindP (ixArr 2 1 (ptr (nx + 10)) (Value.int IntKind.i64 0)) fun t58_176 => bindP (load1 ro h175 t58_176) fun t59_177 => bindP (intB .lss t59_177 (Value.int IntKind.i64 1)) fun t60_178 => ifP t60_178 false h175 (nx + 16) (fun k179 => bindP (ixArr 2 1 (ptr (nx + 10)) (Value.int IntKind.i64 0)) fun t62_183 => k179 t62_183 h175 (nx + 17)) fun t62_180 h181 n182 => ifP t60_178 false h181 n182 (fun k184 => bindP (load1 ro h181 t62_180) fun t63_188 => k184 t63_188 h181 (n182 + 1)) fun t63_185 h186 n187 => ifP t60_178 false h186 n187 (fun k189 => bindP (ixArr 2 1 (ptr (nx + 10)) (Value.int IntKind.i64 1)) fun t64_193 => k189 t64_193 h186 (n187 + 1)) fun t64_190 h191 n192 => ifP t60_178 false h191 n192 (fun k194 => bindP (load1 ro h191 t64_190) fun t65_198 => k194 t65_198 h191 (n192 + 1)) fun t65_195 h196 n197 => ifP t60_178 false h196 n197 (fun k199 => bindP (intB .gtr t63_185 t65_195) fun t66_203 => k199 t66_203 h196 (n197 + 1)) fun t66_200 h201 n202 => bindP (pickV t60_178 (Value.bool true) t66_200) fun t67_204 => ifP t67_204 false h201 (n202 + 2) (fun k205 => bindP (ixArr 2 1 (ptr (nx + 10)) (Value.int IntKind.i64 1)) fun t69_209 => k205 t69_209 h201 (n202 + 3)) fun t69_206 h207 n208 => ifP t67_204 false h207 n208 (fun k210 => bindP (load1 ro h207 t69_206) fun t70_214 => k210 t70_214 h207 (n208 + 1)) fun t70_211 h212 n213 => ifP t67_204 false h212 n213 (fun k215 => bindP (intB .lss t70_211 (Value.int IntKind.i64 2)) fun t71_219 => k215 t71_219 h212 (n213 + 1)) fun t71_216 h217 n218 => bindP (pickV t67_204 (Value.bool true) t71_216) fun t72_220 => ifP t72_220 false h217 (n218 + 2) (fun k221 => bindP (ixArr 2 1 (ptr (nx + 10)) (Value.int IntKind.i64 1)) fun t74_225 => k221 t74_225 h217 (n218 + 3)) fun t74_222 h223 n224 => ifP t72_220 false h223 n224 (fun k226 => bindP (load1 ro h223 t74_222) fun t75_230 => k226 t75_230 h223 (n224 + 1)) fun t75_227 h228 n229 => ifP t72_220 false h228 n229 (fun k231 => bindP (intB .gtr t75_227 (Value.int IntKind.i64 4096)) fun t76_235 => k231 t76_235 h228 (n229 + 1)) fun t76_232 h233 n234 => bindP (pickV t72_220 (Value.bool true) t76_232) fun t77_236 => condP t77_236 (Q .ret (puts e [(46, (e 3)), (47, t47_165), (48, t48_166), (49, t49_167), (50, t50_168), (53, t53_169), (54, t54_170), (55, (e 3)), (56, t56_171), (57, t57_172), (4, (ptr (nx + 10))), (58, t58_176), (59, t59_177), (60, t60_178), (61, t60_178), (62, t62_180), (63, t63_185), (64, t64_190), (65, t65_195), (66, t66_200), (67, t67_204), (68, t67_204), (69, t69_206), (70, t70_211), (71, t71_216), (72, t72_220), (73, t72_220), (74, t74_222), (75, t75_227), (76, t76_232), (77, t77_236), (2, (Value.bool false))]) h233 (n234 + 2)) (bindP (intB .add (e 3) (Value.int IntKind.i64 1)) fun t52_237 => Q .normal (puts e [(46, (e 3)), (47, t47_165), (48, t48_166), (49, t49_167), (50, t50_168), (53, t53_169), (54, t54_170), (55, (e 3)), (56, t56_171), (57, t57_172), (4, (ptr (nx + 10))), (58, t58_176), (59, t59_177), (60, t60_178), (61, t60_178), (62, t62_180), (63, t63_185), (64, t64_190), (65, t65_195), (66, t66_200), (67, t67_204), (68, t67_204), (69, t69_206), (70, t70_211), (71, t71_216), (72, t72_220), (73, t72_220), (74, t74_222), (75, t75_227), (76, t76_232), (77, t77_236), (51, (e 3)), (52, t52_237), (3, t52_237)]) h233 (n234 + 4))) (Q (.exit 0) (puts e [(46, (e 3)), (47, t47_165), (48, t48_166), (49, t49_167), (50, t50_168)]) h (nx + 5))
@[irreducible] def ref11_Right (ro : Ro) (v0 : Value) (h : T Obj) (nx : Nat) (K : KV) : Prop := newP h nx (.cells (Value.cells v0) y_api_Auto) fun h1 => bindP (fwdP 0 (ptr nx)) fun t6_2 => bindP (loadA ro h1 257 t6_2) fun t7_3 => callP Tryz.prog ro i_ref02_Right [t7_3] h1 (nx + 5) fun t8_4 h5 n6 => bindP (unV .not t8_4) fun t9_7 => ifP t9_7 false h5 (n6 + 2) (fun k8 => bindP (fwdP 257 (ptr nx)) fun t11_12 => k8 t11_12 h5 (n6 + 3)) fun t11_9 h10 n11 => ifP t9_7 false h10 n11 (fun k13 => bindP (load1 ro h10 t11_9) fun t12_17 => k13 t12_17 h10 (n11 + 1)) fun t12_14 h15 n16 => ifP t9_7 false h15 n16 (fun k18 => bindP (lenSl t12_14) fun t13_22 => k18 t13_22 h15 (n16 + 1)) fun t13_19 h20 n21 => ifP t9_7 false h20 n21 (fun k23 => bindP (intB .gtr t13_19 (Value.int IntKind.i64 512)) fun t14_27 => k23 t14_27 h20 (n21 + 1)) fun t14_24 h25 n26 => bindP (pickV t9_7 (Value.bool true) t14_24) fun t15_28 => ifP t15_28 false h25 (n26 + 2) (fun k29 => bindP (fwdP 258 (ptr nx)) fun t17_33 => k29 t17_33 h25 (n26 + 3)) fun t17_30 h31 n32 => ifP t15_28 false h31 n32 (fun k34 => bindP (load1 ro h31 t17_30) fun t18_38 => k34 t18_38 h31 (n32 + 1)) fun t18_35 h36 n37 => ifP t15_28 false h36 n37 (fun k39 => bindP (lenSl t18_35) fun t19_43 => k39 t19_43 h36 (n37 + 1)) fun t19_40 h41 n42 => ifP t15_28 false h41 n42 (fun k44 => bindP (intB .lss t19_40 (Value.int IntKind.i64 1)) fun t20_48 => k44 t20_48 h41 (n42 + 1)) fun t20_45 h46 n47 => bindP (pickV t15_28 (Value.bool true) t20_45) fun t21_49 => ifP t21_49 false h46 (n47 + 2) (fun k50 => bindP (fwdP 258 (ptr nx)) fun t23_54 => k50 t23_54 h46 (n47 + 3)) fun t23_51 h52 n53 => ifP t21_49 false h52 n53 (fun k55 => bindP (load1 ro h52 t23_51) fun t24_59 => k55 t24_59 h52 (n53 + 1)) fun t24_56 h57 n58 => ifP t21_49 false h57 n58 (fun k60 => bindP (lenSl t24_56) fun t25_64 => k60 t25_64 h57 (n58 + 1)) fun t25_61 h62 n63 => ifP t21_49 false h62 n63 (fun k65 => bindP (intB .gtr t25_61 (Value.int IntKind.i64 256)) fun t26_69 => k65 t26_69 h62 (n63 + 1)) fun t26_66 h67 n68 => bindP (pickV t21_49 (Value.bool true) t26_66) fun t27_70 => ifP t27_70 false h67 (n68 + 2) (fun k71 => bindP (fwdP 258 (ptr nx)) fun t29_75 => k71 t29_75 h67 (n68 + 3)) fun t29_72 h73 n74 => ifP t27_70 false h73 n74 (fun k76 => bindP (load1 ro h73 t29_72) fun t30_80 => k76 t30_80 h73 (n74 + 1)) fun t30_77 h78 n79 => ifP t27_70 false h78 n79 (fun k81 => bindP (ixSl 4 t30_77 (Value.int IntKind.i64 0)) fun t31_85 => k81 t31_85 h78 (n79 + 1)) fun t31_82 h83 n84 => ifP t27_70 false h83 n84 (fun k86 => bindP (fwdP 0 t31_82) fun t32_90 => k86 t32_90 h83 (n84 + 1)) fun t32_87 h88 n89 => ifP t27_70 false h88 n89 (fun k91 => bindP (load1 ro h88 t32_87) fun t33_95 => k91 t33_95 h88 (n89 + 1)) fun t33_92 h93 n94 => ifP t27_70 false h93 n94 (fun k96 => bindP (lenSl t33_92) fun t34_100 => k96 t34_100 h93 (n94 + 1)) fun t34_97 h98 n99 => ifP t27_70 false h98 n99 (fun k101 => bindP (intB .gtr t34_97 (Value.int IntKind.i64 0)) fun t35_105 => k101 t35_105 h98 (n99 + 1)) fun t35_102 h103 n104 => bindP (pickV t27_70 (Value.bool true) t35_102) fun t36_106 => ifP t36_106 false h103 (n104 + 2) (fun k107 => bindP (fwdP 258 (ptr nx)) fun t38_111 => k107 t38_111 h103 (n104 + 3)) fun t38_108 h109 n110 => ifP t36_106 false h109 n110 (fun k112 => bindP (load1 ro h109 t38_108) fun t39_116 => k112 t39_116 h109 (n110 + 1)) fun t39_113 h114 n115 => ifP t36_106 false h114 n115 (fun k117 => bindP (ixSl 4 t39_113 (Value.int IntKind.i64 0)) fun t40_121 => k117 t40_121 h114 (n115 + 1)) fun t40_118 h119 n120 => ifP t36_106 false h119 n120 (fun k122 => bindP (fwdP 1 t40_118) fun t41_126 => k122 t41_126 h119 (n120 + 1)) fun t41_123 h124 n125 => ifP t36_106 false h124 n125 (fun k127 => bindP (load1 ro h124 t41_123) fun t42_131 => k127 t42_131 h124 (n125 + 1)) fun t42_128 h129 n130 => ifP t36_106 false h129 n130 (fun k132 => bindP (lenSl t42_128) fun t43_136 => k132 t43_136 h129 (n130 + 1)) fun t43_133 h134 n135 => ifP t36_106 false h134 n135 (fun k137 => bindP (intB .gtr t43_133 (Value.int IntKind.i64 0)) fun t44_141 => k137 t44_141 h134 (n135 + 1)) fun t44_138 h139 n140 => bindP (pickV t36_106 (Value.bool true) t44_138) fun t45_142 => condP t45_142 (∃ h143, Sub h143 h139 ∧ K (Value.bool false) h143 (n140 + 2)) (loopP (ref11_Right_L2 ro) (puts (entE [v0]) [(1, (ptr nx)), (2, (Value.bool false)), (6, t6_2), (7, t7_3), (8, t8_4), (9, t9_7), (10, t9_7), (11, t11_9), (12, t12_14), (13, t13_19), (14, t14_24), (15, t15_28), (16, t15_28), (17, t17_30), (18, t18_35), (19, t19_40), (20, t20_45), (21, t21_49), (22, t21_49), (23, t23_51), (24, t24_56), (25, t25_61), (26, t26_66), (27, t27_70), (28, t27_70), (29, t29_72), (30, t30_77), (31, t31_82), (32, t32_87), (33, t33_92), (34, t34_97), (35, t35_102), (36, t36_106), (37, t36_106), (38, t38_108), (39, t39_113), (40, t40_118), (41, t41_123), (42, t42_128), (43, t43_133), (44, t44_138), (45, t45_142), (3, (Value.int IntKind.i64 0))]) h139 (n140 + 2) fun x241 e238 h239 n240 => exP x241 (ref11_Right_j1 ro K e238 h239 n240) (fun i242 => beqP (Nat.beq i242 0) (ref11_Right_j1 ro K e238 h239 n240) (False)) (∃ h243, Sub h243 h239 ∧ K (e238 2) h243 n240))
theorem ref11_Right_eq (ro : Ro) (v0 : Value) (h : T Obj) (nx : Nat) (K : KV) : callPre Tryz.prog ro (callP Tryz.prog ro) Tryz.f32 [v0] h nx K = ref11_Right ro v0 h nx K := by kernel_rfl
theorem ref11_Right_of {ro : Ro} {v0 : Value} {h : T Obj} {nx : Nat} {K : KV} (hw : ref11_Right ro v0 h nx K) : callP Tryz.prog ro i_ref11_Right [v0] h nx K := callP_by (P := Tryz.prog) (fn := Tryz.f32) (by kernel_rfl) (by kernel_rfl) (by kernel_rfl) (Eq.mpr (ref11_Right_eq ro v0 h nx K) hw)
@[irreducible] def ref11_Codes_j1 (ro : Ro) (K : KV) : Env → T Obj → Nat → Prop := fun e h nx => ∃ h13, Sub h13 h ∧ K (e 3) h13 (nx + 2)
@[irreducible] def ref11_Codes_L1 (ro : Ro) : PT := fun e h nx Q => bindP (intB .lss (e 4) (e 0)) fun t13_14 => condP t13_14 (bindP (intB .mul (e 3) (Value.int IntKind.i64 3)) fun t17_15 => bindP (intB .add (e 4) (Value.int IntKind.i64 1)) fun t15_16 => Q .normal (puts e [(11, (e 4)), (12, (e 0)), (13, t13_14), (16, (e 3)), (17, t17_15), (3, t17_15), (14, (e 4)), (15, t15_16), (4, t15_16)]) h (nx + 9)) (Q (.exit 0) (puts e [(11, (e 4)), (12, (e 0)), (13, t13_14)]) h (nx + 3))
@[irreducible] def ref11_Codes (ro : Ro) (v0 : Value) (h : T Obj) (nx : Nat) (K : KV) : Prop := bindP (intB .lss v0 (Value.int IntKind.i64 0)) fun t6_1 => ifP t6_1 false h (nx + 4) (fun k2 => k2 v0 h (nx + 5)) fun t8_3 h4 n5 => ifP t6_1 false h4 n5 (fun k6 => bindP (intB .gtr t8_3 (Value.int IntKind.i64 3)) fun t9_10 => k6 t9_10 h4 (n5 + 1)) fun t9_7 h8 n9 => bindP (pickV t6_1 (Value.bool true) t9_7) fun t10_11 => condP t10_11 (∃ h12, Sub h12 h8 ∧ K (Value.int IntKind.i64 0) h12 (n9 + 2)) (loopP (ref11_Codes_L1 ro) (puts (entE [v0]) [(2, (Value.int IntKind.i64 0)), (5, v0), (6, t6_1), (7, t6_1), (8, t8_3), (9, t9_7), (10, t10_11), (3, (Value.int IntKind.i64 1)), (4, (Value.int IntKind.i64 0))]) h8 (n9 + 3) fun x20 e17 h18 n19 => exP x20 (ref11_Codes_j1 ro K e17 h18 n19) (fun i21 => beqP (Nat.beq i21 0) (ref11_Codes_j1 ro K e17 h18 n19) (False)) (∃ h22, Sub h22 h18 ∧ K (e17 2) h22 n19))
theorem ref11_Codes_eq (ro : Ro) (v0 : Value) (h : T Obj) (nx : Nat) (K : KV) : callPre Tryz.prog ro (callP Tryz.prog ro) Tryz.f45 [v0] h nx K = ref11_Codes ro v0 h nx K := by kernel_rfl
theorem ref11_Codes_of {ro : Ro} {v0 : Value} {h : T Obj} {nx : Nat} {K : KV} (hw : ref11_Codes ro v0 h nx K) : callP Tryz.prog ro i_ref11_Codes [v0] h nx K := callP_by (P := Tryz.prog) (fn := Tryz.f45) (by kernel_rfl) (by kernel_rfl) (by kernel_rfl) (Eq.mpr (ref11_Codes_eq ro v0 h nx K) hw)
@[irreducible] def auto_Right_j1 (ro : Ro) (K : KV) : Env → T Obj → Nat → Prop := fun e h nx => bindP (loadA ro h 259 (e 1)) fun t72_143 => bindP (buildV Tryz.prog y_auto_checker [(0, t72_143)]) fun t73_144 => bindP (zer Tryz.prog y_auto_checker) fun z145 => newP h (nx + 2) (.cells z145.cells y_auto_checker) fun h146 => bindP (storeN 259 h146 (ptr (nx + 2)) t73_144) fun h147 => bindP (fwdP 258 (e 1)) fun t74_148 => bindP (load1 ro h147 t74_148) fun t75_149 => callP Tryz.prog ro i_slices_ContainsFunc_api_State_api_State [t75_149, (.func (.func i_auto_Right_1) #[] #[(ptr (nx + 2))])] h147 (nx + 8) fun t77_150 h151 n152 => bindP (unV .not t77_150) fun t78_153 => ∃ h154, Sub h154 h151 ∧ K t78_153 h154 (n152 + 2)
@[irreducible] def auto_Right_L1 (ro : Ro) : PT := fun e h nx Q => bindP (intB .lss (e 47) (e 46)) fun t48_158 => condP t48_158 (bindP (ixSl 2 (e 45) (e 47)) fun t49_159 => bindP (loadA ro h 2 t49_159) fun t50_160 => bindP (zer Tryz.prog y_a2_int) fun z161 => newP h (nx + 3) (.cells z161.cells y_a2_int) fun h162 => bindP (storeN 2 h162 (ptr (nx + 3)) t50_160) fun h163 => bindP (ixArr 2 1 (ptr (nx + 3)) (Value.int IntKind.i64 0)) fun t51_164 => bindP (load1 ro h163 t51_164) fun t52_165 => bindP (intB .lss t52_165 (Value.int IntKind.i64 1)) fun t53_166 => ifP t53_166 false h163 (nx + 9) (fun k167 => bindP (ixArr 2 1 (ptr (nx + 3)) (Value.int IntKind.i64 0)) fun t55_171 => k167 t55_171 h163 (nx + 10)) fun t55_168 h169 n170 => ifP t53_166 false h169 n170 (fun k172 => bindP (load1 ro h169 t55_168) fun t56_176 => k172 t56_176 h169 (n170 + 1)) fun t56_173 h174 n175 => ifP t53_166 false h174 n175 (fun k177 => bindP (ixArr 2 1 (ptr (nx + 3)) (Value.int IntKind.i64 1)) fun t57_181 => k177 t57_181 h174 (n175 + 1)) fun t57_178 h179 n180 => ifP t53_166 false h179 n180 (fun k182 => bindP (load1 ro h179 t57_178) fun t58_186 => k182 t58_186 h179 (n180 + 1)) fun t58_183 h184 n185 => ifP t53_166 false h184 n185 (fun k187 => bindP (intB .gtr t56_173 t58_183) fun t59_191 => k187 t59_191 h184 (n185 + 1)) fun t59_188 h189 n190 => bindP (pickV t53_166 (Value.bool true) t59_188) fun t60_192 => ifP t60_192 false h189 (n190 + 2) (fun k193 => bindP (ixArr 2 1 (ptr (nx + 3)) (Value.int IntKind.i64 1)) fun t62_197 => k193 t62_197 h189 (n190 + 3)) fun t62_194 h195 n196 => ifP t60_192 false h195 n196 (fun k198 => bindP (load1 ro h195 t62_194) fun t63_202 => k198 t63_202 h195 (n196 + 1)) fun t63_199 h200 n201 => ifP t60_192 false h200 n201 (fun k203 => bindP (intB .lss t63_199 (Value.int IntKind.i64 2)) fun t64_207 => k203 t64_207 h200 (n201 + 1)) fun t64_204 h205 n206 => bindP (pickV t60_192 (Value.bool true) t64_204) fun t65_208 => ifP t65_208 false h205 (n206 + 2) (fun k209 => bindP (ixArr 2 1 (ptr (nx + 3)) (Value.int IntKind.i64 1)) fun t67_213 => k209 t67_213 h205 (n206 + 3)) fun t67_210 h211 n212 => ifP t65_208 false h211 n212 (fun k214 => bindP (load1 ro h211 t67_210) fun t68_218 => k214 t68_218 h211 (n212 + 1)) fun t68_215 h216 n217 => ifP t65_208 false h216 n217 (fun k219 => bindP (intB .gtr t68_215 (Value.int IntKind.i64 4096)) fun t69_223 => k219 t69_223 h216 (n217 + 1)) fun t69_220 h221 n222 => bindP (pickV t65_208 (Value.bool true) t69_220) fun t70_224 => condP t70_224 (Q .ret (puts e [(48, t48_158), (49, t49_159), (50, t50_160), (4, (ptr (nx + 3))), (51, t51_164), (52, t52_165), (53, t53_166), (54, t53_166), (55, t55_168), (56, t56_173), (57, t57_178), (58, t58_183), (59, t59_188), (60, t60_192), (61, t60_192), (62, t62_194), (63, t63_199), (64, t64_204), (65, t65_208), (66, t65_208), (67, t67_210), (68, t68_215), (69, t69_220), (70, t70_224), (2, (Value.bool false))]) h221 (n222 + 2)) (bindP (intB .add (e 47) (Value.int IntKind.i64 1)) fun t71_225 => Q .normal (puts e [(48, t48_158), (49, t49_159), (50, t50_160), (4, (ptr (nx + 3))), (51, t51_164), (52, t52_165), (53, t53_166), (54, t53_166), (55, t55_168), (56, t56_173), (57, t57_178), (58, t58_183), (59, t59_188), (60, t60_192), (61, t60_192), (62, t62_194), (63, t63_199), (64, t64_204), (65, t65_208), (66, t65_208), (67, t67_210), (68, t68_215), (69, t69_220), (70, t70_224), (71, t71_225), (47, t71_225)]) h221 (n222 + 3))) (Q (.exit 0) (puts e [(48, t48_158)]) h (nx + 1))
@[irreducible] def auto_Right (ro : Ro) (v0 : Value) (h : T Obj) (nx : Nat) (K : KV) : Prop := newP h nx (.cells (Value.cells v0) y_api_Auto) fun h1 => bindP (fwdP 0 (ptr nx)) fun t6_2 => bindP (loadA ro h1 257 t6_2) fun t7_3 => callP Tryz.prog ro i_split_Right [t7_3] h1 (nx + 40) fun t8_4 h5 n6 => bindP (unV .not t8_4) fun t9_7 => ifP t9_7 false h5 n6 (fun k8 => bindP (fwdP 257 (ptr nx)) fun t11_12 => k8 t11_12 h5 n6) fun t11_9 h10 n11 => ifP t9_7 false h10 n11 (fun k13 => bindP (load1 ro h10 t11_9) fun t12_17 => k13 t12_17 h10 n11) fun t12_14 h15 n16 => ifP t9_7 false h15 n16 (fun k18 => bindP (lenSl t12_14) fun t13_22 => k18 t13_22 h15 n16) fun t13_19 h20 n21 => ifP t9_7 false h20 n21 (fun k23 => bindP (intB .gtr t13_19 (Value.int IntKind.i64 512)) fun t14_27 => k23 t14_27 h20 n21) fun t14_24 h25 n26 => bindP (pickV t9_7 (Value.bool true) t14_24) fun t15_28 => ifP t15_28 false h25 n26 (fun k29 => bindP (fwdP 258 (ptr nx)) fun t17_33 => k29 t17_33 h25 n26) fun t17_30 h31 n32 => ifP t15_28 false h31 n32 (fun k34 => bindP (load1 ro h31 t17_30) fun t18_38 => k34 t18_38 h31 n32) fun t18_35 h36 n37 => ifP t15_28 false h36 n37 (fun k39 => bindP (lenSl t18_35) fun t19_43 => k39 t19_43 h36 n37) fun t19_40 h41 n42 => ifP t15_28 false h41 n42 (fun k44 => bindP (intB .lss t19_40 (Value.int IntKind.i64 1)) fun t20_48 => k44 t20_48 h41 n42) fun t20_45 h46 n47 => bindP (pickV t15_28 (Value.bool true) t20_45) fun t21_49 => ifP t21_49 false h46 n47 (fun k50 => bindP (fwdP 258 (ptr nx)) fun t23_54 => k50 t23_54 h46 n47) fun t23_51 h52 n53 => ifP t21_49 false h52 n53 (fun k55 => bindP (load1 ro h52 t23_51) fun t24_59 => k55 t24_59 h52 n53) fun t24_56 h57 n58 => ifP t21_49 false h57 n58 (fun k60 => bindP (lenSl t24_56) fun t25_64 => k60 t25_64 h57 n58) fun t25_61 h62 n63 => ifP t21_49 false h62 n63 (fun k65 => bindP (intB .gtr t25_61 (Value.int IntKind.i64 256)) fun t26_69 => k65 t26_69 h62 n63) fun t26_66 h67 n68 => bindP (pickV t21_49 (Value.bool true) t26_66) fun t27_70 => ifP t27_70 false h67 n68 (fun k71 => bindP (fwdP 258 (ptr nx)) fun t29_75 => k71 t29_75 h67 n68) fun t29_72 h73 n74 => ifP t27_70 false h73 n74 (fun k76 => bindP (load1 ro h73 t29_72) fun t30_80 => k76 t30_80 h73 n74) fun t30_77 h78 n79 => ifP t27_70 false h78 n79 (fun k81 => bindP (ixSl 4 t30_77 (Value.int IntKind.i64 0)) fun t31_85 => k81 t31_85 h78 n79) fun t31_82 h83 n84 => ifP t27_70 false h83 n84 (fun k86 => bindP (fwdP 0 t31_82) fun t32_90 => k86 t32_90 h83 n84) fun t32_87 h88 n89 => ifP t27_70 false h88 n89 (fun k91 => bindP (load1 ro h88 t32_87) fun t33_95 => k91 t33_95 h88 n89) fun t33_92 h93 n94 => ifP t27_70 false h93 n94 (fun k96 => bindP (lenSl t33_92) fun t34_100 => k96 t34_100 h93 n94) fun t34_97 h98 n99 => ifP t27_70 false h98 n99 (fun k101 => bindP (fwdP 258 (ptr nx)) fun t35_105 => k101 t35_105 h98 n99) fun t35_102 h103 n104 => ifP t27_70 false h103 n104 (fun k106 => bindP (load1 ro h103 t35_102) fun t36_110 => k106 t36_110 h103 n104) fun t36_107 h108 n109 => ifP t27_70 false h108 n109 (fun k111 => bindP (ixSl 4 t36_107 (Value.int IntKind.i64 0)) fun t37_115 => k111 t37_115 h108 n109) fun t37_112 h113 n114 => ifP t27_70 false h113 n114 (fun k116 => bindP (fwdP 1 t37_112) fun t38_120 => k116 t38_120 h113 n114) fun t38_117 h118 n119 => ifP t27_70 false h118 n119 (fun k121 => bindP (load1 ro h118 t38_117) fun t39_125 => k121 t39_125 h118 n119) fun t39_122 h123 n124 => ifP t27_70 false h123 n124 (fun k126 => bindP (lenSl t39_122) fun t40_130 => k126 t40_130 h123 n124) fun t40_127 h128 n129 => ifP t27_70 false h128 n129 (fun k131 => bindP (intB .add t34_97 t40_127) fun t41_135 => k131 t41_135 h128 n129) fun t41_132 h133 n134 => ifP t27_70 false h133 n134 (fun k136 => bindP (intB .gtr t41_132 (Value.int IntKind.i64 0)) fun t42_140 => k136 t42_140 h133 n134) fun t42_137 h138 n139 => bindP (pickV t27_70 (Value.bool true) t42_137) fun t43_141 => condP t43_141 (∃ h142, Sub h142 h138 ∧ K (Value.bool false) h142 (n139 + 1)) (bindP (fwdP 257 (ptr nx)) fun t44_155 => bindP (load1 ro h138 t44_155) fun t45_156 => bindP (lenSl t45_156) fun t46_157 => loopP (auto_Right_L1 ro) (puts (entE [v0]) [(1, (ptr nx)), (2, (Value.bool false)), (6, t6_2), (7, t7_3), (8, t8_4), (9, t9_7), (10, t9_7), (11, t11_9), (12, t12_14), (13, t13_19), (14, t14_24), (15, t15_28), (16, t15_28), (17, t17_30), (18, t18_35), (19, t19_40), (20, t20_45), (21, t21_49), (22, t21_49), (23, t23_51), (24, t24_56), (25, t25_61), (26, t26_66), (27, t27_70), (28, t27_70), (29, t29_72), (30, t30_77), (31, t31_82), (32, t32_87), (33, t33_92), (34, t34_97), (35, t35_102), (36, t36_107), (37, t37_112), (38, t38_117), (39, t39_122), (40, t40_127), (41, t41_132), (42, t42_137), (43, t43_141), (44, t44_155), (45, t45_156), (46, t46_157), (47, (Value.int IntKind.i64 0))]) h138 (n139 + 4) fun x229 e226 h227 n228 => exP x229 (auto_Right_j1 ro K e226 h227 n228) (fun i230 => beqP (Nat.beq i230 0) (auto_Right_j1 ro K e226 h227 n228) (False)) (∃ h231, Sub h231 h227 ∧ K (e226 2) h231 n228))
theorem auto_Right_eq (ro : Ro) (v0 : Value) (h : T Obj) (nx : Nat) (K : KV) : callPre Tryz.prog ro (callP Tryz.prog ro) Tryz.f48 [v0] h nx K = auto_Right ro v0 h nx K := by kernel_rfl
theorem auto_Right_of {ro : Ro} {v0 : Value} {h : T Obj} {nx : Nat} {K : KV} (hw : auto_Right ro v0 h nx K) : callP Tryz.prog ro i_auto_Right [v0] h nx K := callP_by (P := Tryz.prog) (fn := Tryz.f48) (by kernel_rfl) (by kernel_rfl) (by kernel_rfl) (Eq.mpr (auto_Right_eq ro v0 h nx K) hw)
@[irreducible] def slices_Contains_int_int (ro : Ro) (v0 v1 : Value) (h : T Obj) (nx : Nat) (K : KV) : Prop := callP Tryz.prog ro i_slices_Index_int_int [v0, v1] h (nx + 4) fun t7_1 h2 n3 => bindP (intB .geq t7_1 (Value.int IntKind.i64 0)) fun t8_4 => ∃ h5, Sub h5 h2 ∧ K t8_4 h5 (n3 + 2)
theorem slices_Contains_int_int_eq (ro : Ro) (v0 v1 : Value) (h : T Obj) (nx : Nat) (K : KV) : callPre Tryz.prog ro (callP Tryz.prog ro) Tryz.f53 [v0, v1] h nx K = slices_Contains_int_int ro v0 v1 h nx K := by kernel_rfl
theorem slices_Contains_int_int_of {ro : Ro} {v0 v1 : Value} {h : T Obj} {nx : Nat} {K : KV} (hw : slices_Contains_int_int ro v0 v1 h nx K) : callP Tryz.prog ro i_slices_Contains_int_int [v0, v1] h nx K := callP_by (P := Tryz.prog) (fn := Tryz.f53) (by kernel_rfl) (by kernel_rfl) (by kernel_rfl) (Eq.mpr (slices_Contains_int_int_eq ro v0 v1 h nx K) hw)
@[irreducible] def ref02_Right_j1 (ro : Ro) (K : KV) : Env → T Obj → Nat → Prop := fun e h nx => bindP (fwdP 256 (e 1)) fun t26_2 => bindP (load1 ro h t26_2) fun t27_3 => bindP (intB .eql (e 3) t27_3) fun t28_4 => ∃ h5, Sub h5 h ∧ K t28_4 h5 (nx + 5)
@[irreducible] def ref02_Right_j2 (ro : Ro) (Q : KE) : Env → T Obj → Nat → Prop := fun e h nx => bindP (intB .add (e 4) (Value.int IntKind.i64 1)) fun t8_7 => Q .normal (puts e [(7, (e 4)), (8, t8_7), (4, t8_7)]) h (nx + 3)
@[irreducible] def ref02_Right_L1 (ro : Ro) : PT := fun e h nx Q => bindP (intB .lss (e 4) (Value.int IntKind.i64 256)) fun t6_6 => condP t6_6 (bindP (fwdP 0 (e 1)) fun t10_8 => bindP (ixArr 256 1 t10_8 (e 4)) fun t11_9 => bindP (load1 ro h t11_9) fun t12_10 => bindP (convI .i64 t12_10) fun t13_11 => bindP (intB .gtr t13_11 (e 3)) fun t15_12 => condP t15_12 (Q .ret (puts e [(5, (e 4)), (6, t6_6), (9, (e 4)), (10, t10_8), (11, t11_9), (12, t12_10), (13, t13_11), (14, (e 3)), (15, t15_12), (2, (Value.bool false))]) h (nx + 10)) (bindP (fwdP 0 (e 1)) fun t17_13 => bindP (ixArr 256 1 t17_13 (e 4)) fun t18_14 => bindP (load1 ro h t18_14) fun t19_15 => bindP (convI .i64 t19_15) fun t20_16 => bindP (intB .eql t20_16 (e 3)) fun t22_17 => condP t22_17 (bindP (intB .add (e 3) (Value.int IntKind.i64 1)) fun t24_18 => ref02_Right_j2 ro Q (puts e [(5, (e 4)), (6, t6_6), (9, (e 4)), (10, t10_8), (11, t11_9), (12, t12_10), (13, t13_11), (14, (e 3)), (15, t15_12), (16, (e 4)), (17, t17_13), (18, t18_14), (19, t19_15), (20, t20_16), (21, (e 3)), (22, t22_17), (23, (e 3)), (24, t24_18), (3, t24_18)]) h (nx + 19)) (ref02_Right_j2 ro Q (puts e [(5, (e 4)), (6, t6_6), (9, (e 4)), (10, t10_8), (11, t11_9), (12, t12_10), (13, t13_11), (14, (e 3)), (15, t15_12), (16, (e 4)), (17, t17_13), (18, t18_14), (19, t19_15), (20, t20_16), (21, (e 3)), (22, t22_17)]) h (nx + 16)))) (Q (.exit 0) (puts e [(5, (e 4)), (6, t6_6)]) h (nx + 2))
@[irreducible] def ref02_Right (ro : Ro) (v0 : Value) (h : T Obj) (nx : Nat) (K : KV) : Prop := newP h nx (.cells (Value.cells v0) y_api_Split) fun h1 => loopP (ref02_Right_L1 ro) (puts (entE [v0]) [(1, (ptr nx)), (2, (Value.bool false)), (3, (Value.int IntKind.i64 0)), (4, (Value.int IntKind.i64 0))]) h1 (nx + 4) fun x22 e19 h20 n21 => exP x22 (ref02_Right_j1 ro K e19 h20 n21) (fun i23 => beqP (Nat.beq i23 0) (ref02_Right_j1 ro K e19 h20 n21) (False)) (∃ h24, Sub h24 h20 ∧ K (e19 2) h24 n21)
theorem ref02_Right_eq (ro : Ro) (v0 : Value) (h : T Obj) (nx : Nat) (K : KV) : callPre Tryz.prog ro (callP Tryz.prog ro) Tryz.f67 [v0] h nx K = ref02_Right ro v0 h nx K := by kernel_rfl
theorem ref02_Right_of {ro : Ro} {v0 : Value} {h : T Obj} {nx : Nat} {K : KV} (hw : ref02_Right ro v0 h nx K) : callP Tryz.prog ro i_ref02_Right [v0] h nx K := callP_by (P := Tryz.prog) (fn := Tryz.f67) (by kernel_rfl) (by kernel_rfl) (by kernel_rfl) (Eq.mpr (ref02_Right_eq ro v0 h nx K) hw)
@[irreducible] def ref11_state_j1 (ro : Ro) (K : KV) : Env → T Obj → Nat → Prop := fun e h nx => ∃ h122, Sub h122 h ∧ K (Value.bool true) h122 (nx + 1)
@[irreducible] def ref11_state_j2 (ro : Ro) (Q : KE) : Env → T Obj → Nat → Prop := fun e h nx => bindP (intB .add (e 6) (Value.int IntKind.i64 1)) fun t47_124 => Q .normal (puts e [(46, (e 6)), (47, t47_124), (6, t47_124)]) h (nx + 3)
@[irreducible] def ref11_state_L2 (ro : Ro) : PT := fun e h nx Q => bindP (fwdP 3 (e 3)) fun t75_210 => bindP (load1 ro h t75_210) fun t76_211 => bindP (ixSl 1 t76_211 (e 6)) fun t78_212 => bindP (load1 ro h t78_212) fun t79_213 => bindP (lenSl t79_213) fun t80_214 => bindP (intB .lss (e 7) t80_214) fun t81_215 => condP t81_215 (bindP (loadA ro h 259 (e 2)) fun t84_216 => bindP (loadA ro h 4 (e 3)) fun t85_217 => bindP (fwdP 3 (e 3)) fun t86_218 => bindP (load1 ro h t86_218) fun t87_219 => bindP (ixSl 1 t87_219 (e 6)) fun t89_220 => bindP (load1 ro h t89_220) fun t90_221 => bindP (ixSl 2 t90_221 (e 7)) fun t92_222 => bindP (loadA ro h 2 t92_222) fun t93_223 => callP Tryz.prog ro i_ref11_move [t84_216, t85_217, t93_223] h (nx + 20) fun t94_224 h225 n226 => bindP (unV .not t94_224) fun t95_227 => condP t95_227 (Q .ret (puts e [(74, (e 7)), (75, t75_210), (76, t76_211), (77, (e 6)), (78, t78_212), (79, t79_213), (80, t80_214), (81, t81_215), (84, t84_216), (85, t85_217), (86, t86_218), (87, t87_219), (88, (e 6)), (89, t89_220), (90, t90_221), (91, (e 7)), (92, t92_222), (93, t93_223), (94, t94_224), (95, t95_227), (4, (Value.bool false))]) h225 (n226 + 1)) (bindP (intB .add (e 7) (Value.int IntKind.i64 1)) fun t83_228 => Q .normal (puts e [(74, (e 7)), (75, t75_210), (76, t76_211), (77, (e 6)), (78, t78_212), (79, t79_213), (80, t80_214), (81, t81_215), (84, t84_216), (85, t85_217), (86, t86_218), (87, t87_219), (88, (e 6)), (89, t89_220), (90, t90_221), (91, (e 7)), (92, t92_222), (93, t93_223), (94, t94_224), (95, t95_227), (82, (e 7)), (83, t83_228), (7, t83_228)]) h225 (n226 + 3))) (Q (.exit 2) (puts e [(74, (e 7)), (75, t75_210), (76, t76_211), (77, (e 6)), (78, t78_212), (79, t79_213), (80, t80_214), (81, t81_215)]) h (nx + 8))
@[irreducible] def ref11_state_L1 (ro : Ro) : PT := fun e h nx Q => bindP (intB .lss (e 6) (e 5)) fun t45_123 => condP t45_123 (bindP (fwdP 2 (e 3)) fun t48_125 => bindP (load1 ro h t48_125) fun t49_126 => bindP (ixSl 1 t49_126 (e 6)) fun t51_127 => bindP (load1 ro h t51_127) fun t52_128 => bindP (intB .lss t52_128 (Value.int IntKind.i64 (-1))) fun t53_129 => ifP t53_129 false h (nx + 29) (fun k130 => bindP (fwdP 2 (e 3)) fun t55_134 => k130 t55_134 h (nx + 29)) fun t55_131 h132 n133 => ifP t53_129 false h132 n133 (fun k135 => bindP (load1 ro h132 t55_131) fun t56_139 => k135 t56_139 h132 n133) fun t56_136 h137 n138 => ifP t53_129 false h137 n138 (fun k140 => k140 (e 6) h137 n138) fun t57_141 h142 n143 => ifP t53_129 false h142 n143 (fun k144 => bindP (ixSl 1 t56_136 t57_141) fun t58_148 => k144 t58_148 h142 n143) fun t58_145 h146 n147 => ifP t53_129 false h146 n147 (fun k149 => bindP (load1 ro h146 t58_145) fun t59_153 => k149 t59_153 h146 n147) fun t59_150 h151 n152 => ifP t53_129 false h151 n152 (fun k154 => bindP (intB .geq t59_150 (Value.int IntKind.i64 512)) fun t60_158 => k154 t60_158 h151 n152) fun t60_155 h156 n157 => bindP (pickV t53_129 (Value.bool true) t60_155) fun t61_159 => ifP t61_159 false h156 n157 (fun k160 => bindP (fwdP 3 (e 3)) fun t63_164 => k160 t63_164 h156 n157) fun t63_161 h162 n163 => ifP t61_159 false h162 n163 (fun k165 => bindP (load1 ro h162 t63_161) fun t64_169 => k165 t64_169 h162 n163) fun t64_166 h167 n168 => ifP t61_159 false h167 n168 (fun k170 => k170 (e 6) h167 n168) fun t65_171 h172 n173 => ifP t61_159 false h172 n173 (fun k174 => bindP (ixSl 1 t64_166 t65_171) fun t66_178 => k174 t66_178 h172 n173) fun t66_175 h176 n177 => ifP t61_159 false h176 n177 (fun k179 => bindP (load1 ro h176 t66_175) fun t67_183 => k179 t67_183 h176 n177) fun t67_180 h181 n182 => ifP t61_159 false h181 n182 (fun k184 => bindP (lenSl t67_180) fun t68_188 => k184 t68_188 h181 n182) fun t68_185 h186 n187 => ifP t61_159 false h186 n187 (fun k189 => bindP (fwdP 0 (e 2)) fun t69_193 => k189 t69_193 h186 n187) fun t69_190 h191 n192 => ifP t61_159 false h191 n192 (fun k194 => bindP (fwdP 256 t69_190) fun t70_198 => k194 t70_198 h191 n192) fun t70_195 h196 n197 => ifP t61_159 false h196 n197 (fun k199 => bindP (load1 ro h196 t70_195) fun t71_203 => k199 t71_203 h196 n197) fun t71_200 h201 n202 => ifP t61_159 false h201 n202 (fun k204 => bindP (intB .neq t68_185 t71_200) fun t72_208 => k204 t72_208 h201 n202) fun t72_205 h206 n207 => bindP (pickV t61_159 (Value.bool true) t72_205) fun t73_209 => condP t73_209 (Q .ret (puts e [(43, (e 6)), (44, (e 5)), (45, t45_123), (48, t48_125), (49, t49_126), (50, (e 6)), (51, t51_127), (52, t52_128), (53, t53_129), (54, t53_129), (55, t55_131), (56, t56_136), (57, t57_141), (58, t58_145), (59, t59_150), (60, t60_155), (61, t61_159), (62, t61_159), (63, t63_161), (64, t64_166), (65, t65_171), (66, t66_175), (67, t67_180), (68, t68_185), (69, t69_190), (70, t70_195), (71, t71_200), (72, t72_205), (73, t73_209), (4, (Value.bool false))]) h206 (n207 + 1)) (loopP (ref11_state_L2 ro) (puts e [(43, (e 6)), (44, (e 5)), (45, t45_123), (48, t48_125), (49, t49_126), (50, (e 6)), (51, t51_127), (52, t52_128), (53, t53_129), (54, t53_129), (55, t55_131), (56, t56_136), (57, t57_141), (58, t58_145), (59, t59_150), (60, t60_155), (61, t61_159), (62, t61_159), (63, t63_161), (64, t64_166), (65, t65_171), (66, t66_175), (67, t67_180), (68, t68_185), (69, t69_190), (70, t70_195), (71, t71_200), (72, t72_205), (73, t73_209), (7, (Value.int IntKind.i64 0))]) h206 (n207 + 1) fun x232 e229 h230 n231 => exP x232 (ref11_state_j2 ro Q e229 h230 n231) (fun i233 => beqP (Nat.beq i233 2) (ref11_state_j2 ro Q e229 h230 n231) (beqP (Nat.beq i233 1) (ref11_state_j2 ro Q e229 h230 n231) (Q (.exit i233) e229 h230 n231))) (Q .ret e229 h230 n231))) (Q (.exit 0) (puts e [(43, (e 6)), (44, (e 5)), (45, t45_123)]) h (nx + 3))
@[irreducible] def ref11_state (ro : Ro) (v0 v1 : Value) (h : T Obj) (nx : Nat) (K : KV) : Prop := newP h nx (.cells (Value.cells v0) y_api_Auto) fun h1 => newP h1 (nx + 1) (.cells (Value.cells v1) y_api_State) fun h2 => bindP (fwdP 1 (ptr (nx + 1))) fun t8_3 => bindP (load1 ro h2 t8_3) fun t9_4 => bindP (lenSl t9_4) fun t10_5 => callP Tryz.prog ro i_ref11_Codes [t10_5] h2 (nx + 7) fun t11_6 h7 n8 => bindP (intB .eql t11_6 (Value.int IntKind.i64 0)) fun t13_9 => ifP t13_9 false h7 (n8 + 4) (fun k10 => bindP (fwdP 0 (ptr (nx + 1))) fun t15_14 => k10 t15_14 h7 (n8 + 5)) fun t15_11 h12 n13 => ifP t13_9 false h12 n13 (fun k15 => bindP (load1 ro h12 t15_11) fun t16_19 => k15 t16_19 h12 (n13 + 1)) fun t16_16 h17 n18 => ifP t13_9 false h17 n18 (fun k20 => callP Tryz.prog ro i_ref11_rises [t16_16, (Value.int IntKind.i64 512)] h17 (n18 + 1) fun t17_24 h25 n26 => k20 t17_24 h25 n26) fun t17_21 h22 n23 => ifP t13_9 false h22 n23 (fun k27 => bindP (unV .not t17_21) fun t18_31 => k27 t18_31 h22 (n23 + 1)) fun t18_28 h29 n30 => bindP (pickV t13_9 (Value.bool true) t18_28) fun t19_32 => ifP t19_32 false h29 (n30 + 2) (fun k33 => bindP (fwdP 1 (ptr (nx + 1))) fun t21_37 => k33 t21_37 h29 (n30 + 3)) fun t21_34 h35 n36 => ifP t19_32 false h35 n36 (fun k38 => bindP (load1 ro h35 t21_34) fun t22_42 => k38 t22_42 h35 (n36 + 1)) fun t22_39 h40 n41 => ifP t19_32 false h40 n41 (fun k43 => bindP (fwdP 257 (ptr nx)) fun t23_47 => k43 t23_47 h40 (n41 + 1)) fun t23_44 h45 n46 => ifP t19_32 false h45 n46 (fun k48 => bindP (load1 ro h45 t23_44) fun t24_52 => k48 t24_52 h45 (n46 + 1)) fun t24_49 h50 n51 => ifP t19_32 false h50 n51 (fun k53 => bindP (lenSl t24_49) fun t25_57 => k53 t25_57 h50 (n51 + 1)) fun t25_54 h55 n56 => ifP t19_32 false h55 n56 (fun k58 => callP Tryz.prog ro i_ref11_rises [t22_39, t25_54] h55 (n56 + 1) fun t26_62 h63 n64 => k58 t26_62 h63 n64) fun t26_59 h60 n61 => ifP t19_32 false h60 n61 (fun k65 => bindP (unV .not t26_59) fun t27_69 => k65 t27_69 h60 (n61 + 1)) fun t27_66 h67 n68 => bindP (pickV t19_32 (Value.bool true) t27_66) fun t28_70 => ifP t28_70 false h67 (n68 + 2) (fun k71 => bindP (fwdP 2 (ptr (nx + 1))) fun t30_75 => k71 t30_75 h67 (n68 + 3)) fun t30_72 h73 n74 => ifP t28_70 false h73 n74 (fun k76 => bindP (load1 ro h73 t30_72) fun t31_80 => k76 t31_80 h73 (n74 + 1)) fun t31_77 h78 n79 => ifP t28_70 false h78 n79 (fun k81 => bindP (lenSl t31_77) fun t32_85 => k81 t32_85 h78 (n79 + 1)) fun t32_82 h83 n84 => ifP t28_70 false h83 n84 (fun k86 => k86 t11_6 h83 (n84 + 1)) fun t33_87 h88 n89 => ifP t28_70 false h88 n89 (fun k90 => bindP (intB .neq t32_82 t33_87) fun t34_94 => k90 t34_94 h88 (n89 + 1)) fun t34_91 h92 n93 => bindP (pickV t28_70 (Value.bool true) t34_91) fun t35_95 => ifP t35_95 false h92 (n93 + 2) (fun k96 => bindP (fwdP 3 (ptr (nx + 1))) fun t37_100 => k96 t37_100 h92 (n93 + 3)) fun t37_97 h98 n99 => ifP t35_95 false h98 n99 (fun k101 => bindP (load1 ro h98 t37_97) fun t38_105 => k101 t38_105 h98 (n99 + 1)) fun t38_102 h103 n104 => ifP t35_95 false h103 n104 (fun k106 => bindP (lenSl t38_102) fun t39_110 => k106 t39_110 h103 (n104 + 1)) fun t39_107 h108 n109 => ifP t35_95 false h108 n109 (fun k111 => k111 t11_6 h108 (n109 + 1)) fun t40_112 h113 n114 => ifP t35_95 false h113 n114 (fun k115 => bindP (intB .neq t39_107 t40_112) fun t41_119 => k115 t41_119 h113 (n114 + 1)) fun t41_116 h117 n118 => bindP (pickV t35_95 (Value.bool true) t41_116) fun t42_120 => condP t42_120 (∃ h121, Sub h121 h117 ∧ K (Value.bool false) h121 (n118 + 2)) (loopP (ref11_state_L1 ro) (puts (entE [v0, v1]) [(2, (ptr nx)), (3, (ptr (nx + 1))), (4, (Value.bool false)), (8, t8_3), (9, t9_4), (10, t10_5), (11, t11_6), (5, t11_6), (12, t11_6), (13, t13_9), (14, t13_9), (15, t15_11), (16, t16_16), (17, t17_21), (18, t18_28), (19, t19_32), (20, t19_32), (21, t21_34), (22, t22_39), (23, t23_44), (24, t24_49), (25, t25_54), (26, t26_59), (27, t27_66), (28, t28_70), (29, t28_70), (30, t30_72), (31, t31_77), (32, t32_82), (33, t33_87), (34, t34_91), (35, t35_95), (36, t35_95), (37, t37_97), (38, t38_102), (39, t39_107), (40, t40_112), (41, t41_116), (42, t42_120), (6, (Value.int IntKind.i64 0))]) h117 (n118 + 2) fun x237 e234 h235 n236 => exP x237 (ref11_state_j1 ro K e234 h235 n236) (fun i238 => beqP (Nat.beq i238 0) (ref11_state_j1 ro K e234 h235 n236) (False)) (∃ h239, Sub h239 h235 ∧ K (e234 4) h239 n236))
theorem ref11_state_eq (ro : Ro) (v0 v1 : Value) (h : T Obj) (nx : Nat) (K : KV) : callPre Tryz.prog ro (callP Tryz.prog ro) Tryz.f68 [v0, v1] h nx K = ref11_state ro v0 v1 h nx K := by kernel_rfl
theorem ref11_state_of {ro : Ro} {v0 v1 : Value} {h : T Obj} {nx : Nat} {K : KV} (hw : ref11_state ro v0 v1 h nx K) : callP Tryz.prog ro i_ref11_state [v0, v1] h nx K := callP_by (P := Tryz.prog) (fn := Tryz.f68) (by kernel_rfl) (by kernel_rfl) (by kernel_rfl) (Eq.mpr (ref11_state_eq ro v0 v1 h nx K) hw)
@[irreducible] def ref02_First_j1 (ro : Ro) (K : KV) : Env → T Obj → Nat → Prop := fun e h nx => ∃ h22, Sub h22 h ∧ K (e 3) h22 (nx + 2)
@[irreducible] def ref02_First_j2 (ro : Ro) (Q : KE) : Env → T Obj → Nat → Prop := fun e h nx => bindP (intB .add (e 4) (Value.int IntKind.i64 1)) fun t19_26 => Q .normal (puts e [(18, (e 4)), (19, t19_26), (4, t19_26)]) h (nx + 3)
@[irreducible] def ref02_First_L1 (ro : Ro) : PT := fun e h nx Q => bindP (fwdP 256 (e 1)) fun t15_23 => bindP (load1 ro h t15_23) fun t16_24 => bindP (intB .lss (e 4) t16_24) fun t17_25 => condP t17_25 (bindP (loadA ro h 257 (e 1)) fun t20_27 => callP Tryz.prog ro i_ref02_Set [t20_27, (e 4)] h (nx + 7) fun t22_28 h29 n30 => callP Tryz.prog ro i_ref01_List [t22_28] h29 (n30 + 1) fun t23_31 h32 n33 => bindP (lenSl t23_31) fun t25_34 => bindP (intB .eql t25_34 (Value.int IntKind.i64 0)) fun t26_35 => condP t26_35 (bindP (sliceLitV Tryz.prog y_s_uint8 (n33 + 5) 1 [(0, (Value.int IntKind.u8 0))]) fun r36 => optP h32 (n33 + 5) r36.2 fun h37 => bindP (appendV Tryz.prog ro h37 (n33 + 7) #[y_s_uint8, y_s_uint8] [(e 3), r36.1]) fun r38 => ref02_First_j2 ro Q (puts e [(14, (e 4)), (15, t15_23), (16, t16_24), (17, t17_25), (20, t20_27), (21, (e 4)), (22, t22_28), (23, t23_31), (5, t23_31), (24, t23_31), (25, t25_34), (26, t26_35), (27, (e 3)), (28, r36.1), (29, r38.1), (3, r38.1)]) r38.2.1 (r38.2.2 + 1)) (bindP (ixSl 1 t23_31 (Value.int IntKind.i64 0)) fun t32_39 => bindP (load1 ro h32 t32_39) fun t33_40 => bindP (sliceLitV Tryz.prog y_s_uint8 (n33 + 8) 1 [(0, t33_40)]) fun r41 => optP h32 (n33 + 8) r41.2 fun h42 => bindP (appendV Tryz.prog ro h42 (n33 + 10) #[y_s_uint8, y_s_uint8] [(e 3), r41.1]) fun r43 => ref02_First_j2 ro Q (puts e [(14, (e 4)), (15, t15_23), (16, t16_24), (17, t17_25), (20, t20_27), (21, (e 4)), (22, t22_28), (23, t23_31), (5, t23_31), (24, t23_31), (25, t25_34), (26, t26_35), (30, (e 3)), (31, t23_31), (32, t32_39), (33, t33_40), (34, r41.1), (35, r43.1), (3, r43.1)]) r43.2.1 (r43.2.2 + 1))) (Q (.exit 0) (puts e [(14, (e 4)), (15, t15_23), (16, t16_24), (17, t17_25)]) h (nx + 4))
@[irreducible] def ref02_First (ro : Ro) (v0 : Value) (h : T Obj) (nx : Nat) (K : KV) : Prop := newP h nx (.cells (Value.cells v0) y_api_Split) fun h1 => bindP (fwdP 256 (ptr nx)) fun t6_2 => bindP (load1 ro h1 t6_2) fun t7_3 => bindP (intB .lss t7_3 (Value.int IntKind.i64 1)) fun t8_4 => ifP t8_4 false h1 (nx + 6) (fun k5 => bindP (fwdP 256 (ptr nx)) fun t10_9 => k5 t10_9 h1 (nx + 7)) fun t10_6 h7 n8 => ifP t8_4 false h7 n8 (fun k10 => bindP (load1 ro h7 t10_6) fun t11_14 => k10 t11_14 h7 (n8 + 1)) fun t11_11 h12 n13 => ifP t8_4 false h12 n13 (fun k15 => bindP (intB .gtr t11_11 (Value.int IntKind.i64 256)) fun t12_19 => k15 t12_19 h12 (n13 + 1)) fun t12_16 h17 n18 => bindP (pickV t8_4 (Value.bool true) t12_16) fun t13_20 => condP t13_20 (∃ h21, Sub h21 h17 ∧ K (Value.slice none 0 0) h21 (n18 + 2)) (loopP (ref02_First_L1 ro) (puts (entE [v0]) [(1, (ptr nx)), (2, (Value.slice none 0 0)), (6, t6_2), (7, t7_3), (8, t8_4), (9, t8_4), (10, t10_6), (11, t11_11), (12, t12_16), (13, t13_20), (3, (Value.slice none 0 0)), (4, (Value.int IntKind.i64 0))]) h17 (n18 + 3) fun x47 e44 h45 n46 => exP x47 (ref02_First_j1 ro K e44 h45 n46) (fun i48 => beqP (Nat.beq i48 0) (ref02_First_j1 ro K e44 h45 n46) (False)) (∃ h49, Sub h49 h45 ∧ K (e44 2) h49 n46))
theorem ref02_First_eq (ro : Ro) (v0 : Value) (h : T Obj) (nx : Nat) (K : KV) : callPre Tryz.prog ro (callP Tryz.prog ro) Tryz.f86 [v0] h nx K = ref02_First ro v0 h nx K := by kernel_rfl
theorem ref02_First_of {ro : Ro} {v0 : Value} {h : T Obj} {nx : Nat} {K : KV} (hw : ref02_First ro v0 h nx K) : callP Tryz.prog ro i_ref02_First [v0] h nx K := callP_by (P := Tryz.prog) (fn := Tryz.f86) (by kernel_rfl) (by kernel_rfl) (by kernel_rfl) (Eq.mpr (ref02_First_eq ro v0 h nx K) hw)
@[irreducible] def ref01_Has (ro : Ro) (v0 v1 : Value) (h : T Obj) (nx : Nat) (K : KV) : Prop := newP h nx (.cells (Value.cells v0) y_api_Set) fun h1 => bindP (intB .quo v1 (Value.int IntKind.u8 64)) fun t6_2 => bindP (ixArr 4 1 (ptr nx) t6_2) fun t7_3 => bindP (load1 ro h1 t7_3) fun t8_4 => bindP (intB .rem v1 (Value.int IntKind.u8 64)) fun t10_5 => bindP (intB .shr t8_4 t10_5) fun t11_6 => bindP (intB .rem t11_6 (Value.int IntKind.u64 2)) fun t12_7 => bindP (intB .eql t12_7 (Value.int IntKind.u64 1)) fun t13_8 => ∃ h9, Sub h9 h1 ∧ K t13_8 h9 (nx + 12)
theorem ref01_Has_eq (ro : Ro) (v0 v1 : Value) (h : T Obj) (nx : Nat) (K : KV) : callPre Tryz.prog ro (callP Tryz.prog ro) Tryz.f87 [v0, v1] h nx K = ref01_Has ro v0 v1 h nx K := by kernel_rfl
theorem ref01_Has_of {ro : Ro} {v0 v1 : Value} {h : T Obj} {nx : Nat} {K : KV} (hw : ref01_Has ro v0 v1 h nx K) : callP Tryz.prog ro i_ref01_Has [v0, v1] h nx K := callP_by (P := Tryz.prog) (fn := Tryz.f87) (by kernel_rfl) (by kernel_rfl) (by kernel_rfl) (Eq.mpr (ref01_Has_eq ro v0 v1 h nx K) hw)
@[irreducible] def split_Right_j1 (ro : Ro) (K : KV) : Env → T Obj → Nat → Prop := fun e h nx => bindP (fwdP 256 (e 1)) fun t25_2 => bindP (load1 ro h t25_2) fun t26_3 => bindP (intB .eql (e 3) t26_3) fun t27_4 => ∃ h5, Sub h5 h ∧ K t27_4 h5 (nx + 5)
@[irreducible] def split_Right_j2 (ro : Ro) (Q : KE) : Env → T Obj → Nat → Prop := fun e h nx => bindP (intB .add (e 8) (Value.int IntKind.i64 1)) fun t23_9 => Q .normal (puts e [(23, t23_9), (8, t23_9)]) h (nx + 2)
@[irreducible] def split_Right_L1 (ro : Ro) : PT := fun e h nx Q => bindP (intB .lss (e 8) (Value.int IntKind.i64 256)) fun t9_8 => condP t9_8 (bindP (ixA1 256 1 (e 7) (e 8)) fun t10_10 => bindP (convI .i64 t10_10) fun t13_11 => bindP (intB .gtr t13_11 (e 3)) fun t15_12 => condP t15_12 (Q .ret (puts e [(9, t9_8), (10, t10_10), (5, t10_10), (12, t10_10), (13, t13_11), (14, (e 3)), (15, t15_12), (11, t15_12), (2, (Value.bool false))]) h (nx + 9)) (bindP (convI .i64 t10_10) fun t18_13 => bindP (intB .eql t18_13 (e 3)) fun t20_14 => condP t20_14 (bindP (intB .add (e 3) (Value.int IntKind.i64 1)) fun t22_15 => split_Right_j2 ro Q (puts e [(9, t9_8), (10, t10_10), (5, t10_10), (12, t10_10), (13, t13_11), (14, (e 3)), (15, t15_12), (11, t15_12), (17, t10_10), (18, t18_13), (19, (e 3)), (20, t20_14), (16, t20_14), (21, (e 3)), (22, t22_15), (3, t22_15)]) h (nx + 16)) (split_Right_j2 ro Q (puts e [(9, t9_8), (10, t10_10), (5, t10_10), (12, t10_10), (13, t13_11), (14, (e 3)), (15, t15_12), (11, t15_12), (17, t10_10), (18, t18_13), (19, (e 3)), (20, t20_14), (16, t20_14)]) h (nx + 13)))) (Q (.exit 0) (puts e [(9, t9_8)]) h (nx + 1))
@[irreducible] def split_Right (ro : Ro) (v0 : Value) (h : T Obj) (nx : Nat) (K : KV) : Prop := newP h nx (.cells (Value.cells v0) y_api_Split) fun h1 => bindP (fwdP 0 (ptr nx)) fun t6_6 => bindP (loadA ro h1 256 t6_6) fun t7_7 => loopP (split_Right_L1 ro) (puts (entE [v0]) [(1, (ptr nx)), (2, (Value.bool false)), (3, (Value.int IntKind.i64 0)), (6, t6_6), (7, t7_7), (8, (Value.int IntKind.i64 0))]) h1 (nx + 6) fun x19 e16 h17 n18 => exP x19 (split_Right_j1 ro K e16 h17 n18) (fun i20 => beqP (Nat.beq i20 0) (split_Right_j1 ro K e16 h17 n18) (False)) (∃ h21, Sub h21 h17 ∧ K (e16 2) h21 n18)
theorem split_Right_eq (ro : Ro) (v0 : Value) (h : T Obj) (nx : Nat) (K : KV) : callPre Tryz.prog ro (callP Tryz.prog ro) Tryz.f91 [v0] h nx K = split_Right ro v0 h nx K := by kernel_rfl
theorem split_Right_of {ro : Ro} {v0 : Value} {h : T Obj} {nx : Nat} {K : KV} (hw : split_Right ro v0 h nx K) : callP Tryz.prog ro i_split_Right [v0] h nx K := callP_by (P := Tryz.prog) (fn := Tryz.f91) (by kernel_rfl) (by kernel_rfl) (by kernel_rfl) (Eq.mpr (split_Right_eq ro v0 h nx K) hw)
@[irreducible] def slices_ContainsFunc_api_State_api_State (ro : Ro) (v0 v1 : Value) (h : T Obj) (nx : Nat) (K : KV) : Prop := callP Tryz.prog ro i_slices_IndexFunc_api_State_api_State [v0, v1] h (nx + 4) fun t7_1 h2 n3 => bindP (intB .geq t7_1 (Value.int IntKind.i64 0)) fun t8_4 => ∃ h5, Sub h5 h2 ∧ K t8_4 h5 (n3 + 2)
theorem slices_ContainsFunc_api_State_api_State_eq (ro : Ro) (v0 v1 : Value) (h : T Obj) (nx : Nat) (K : KV) : callPre Tryz.prog ro (callP Tryz.prog ro) Tryz.f92 [v0, v1] h nx K = slices_ContainsFunc_api_State_api_State ro v0 v1 h nx K := by kernel_rfl
theorem slices_ContainsFunc_api_State_api_State_of {ro : Ro} {v0 v1 : Value} {h : T Obj} {nx : Nat} {K : KV} (hw : slices_ContainsFunc_api_State_api_State ro v0 v1 h nx K) : callP Tryz.prog ro i_slices_ContainsFunc_api_State_api_State [v0, v1] h nx K := callP_by (P := Tryz.prog) (fn := Tryz.f92) (by kernel_rfl) (by kernel_rfl) (by kernel_rfl) (Eq.mpr (slices_ContainsFunc_api_State_api_State_eq ro v0 v1 h nx K) hw)
@[irreducible] def auto_Right_1 (ro : Ro) (v0 v1 : Value) (h : T Obj) (nx : Nat) (K : KV) : Prop := newP h nx (.cells (Value.cells v0) y_api_State) fun h1 => bindP (loadA ro h1 259 v1) fun t4_2 => bindP (loadA ro h1 4 (ptr nx)) fun t5_3 => callP Tryz.prog ro i_auto_checker_state [t4_2, t5_3] h1 (nx + 5) fun t6_4 h5 n6 => bindP (unV .not t6_4) fun t7_7 => ∃ h8, Sub h8 h5 ∧ K t7_7 h8 (n6 + 2)
theorem auto_Right_1_eq (ro : Ro) (v0 v1 : Value) (h : T Obj) (nx : Nat) (K : KV) : callPre Tryz.prog ro (callP Tryz.prog ro) Tryz.f93 [v0, v1] h nx K = auto_Right_1 ro v0 v1 h nx K := by kernel_rfl
theorem auto_Right_1_of {ro : Ro} {v0 v1 : Value} {h : T Obj} {nx : Nat} {K : KV} (hw : auto_Right_1 ro v0 v1 h nx K) : callP Tryz.prog ro i_auto_Right_1 [v0, v1] h nx K := callP_by (P := Tryz.prog) (fn := Tryz.f93) (by kernel_rfl) (by kernel_rfl) (by kernel_rfl) (Eq.mpr (auto_Right_1_eq ro v0 v1 h nx K) hw)
@[irreducible] def auto_checker_state_j1 (ro : Ro) (K : KV) : Env → T Obj → Nat → Prop := fun e h nx => ∃ h127, Sub h127 h ∧ K (Value.bool true) h127 (nx + 1)
@[irreducible] def auto_checker_state_L1 (ro : Ro) : PT := fun e h nx Q => bindP (intB .lss (e 47) (e 46)) fun t48_131 => condP t48_131 (bindP (ixSl 1 (e 45) (e 47)) fun t50_132 => bindP (load1 ro h t50_132) fun t51_133 => bindP (fwdP 2 (e 3)) fun t52_134 => bindP (load1 ro h t52_134) fun t53_135 => bindP (ixSl 1 t53_135 (e 47)) fun t55_136 => bindP (load1 ro h t55_136) fun t56_137 => bindP (intB .lss t56_137 (Value.int IntKind.i64 (-1))) fun t57_138 => ifP t57_138 false h (nx + 13) (fun k139 => bindP (fwdP 2 (e 3)) fun t59_143 => k139 t59_143 h (nx + 14)) fun t59_140 h141 n142 => ifP t57_138 false h141 n142 (fun k144 => bindP (load1 ro h141 t59_140) fun t60_148 => k144 t60_148 h141 (n142 + 1)) fun t60_145 h146 n147 => ifP t57_138 false h146 n147 (fun k149 => k149 (e 47) h146 (n147 + 1)) fun t61_150 h151 n152 => ifP t57_138 false h151 n152 (fun k153 => bindP (ixSl 1 t60_145 t61_150) fun t62_157 => k153 t62_157 h151 (n152 + 1)) fun t62_154 h155 n156 => ifP t57_138 false h155 n156 (fun k158 => bindP (load1 ro h155 t62_154) fun t63_162 => k158 t63_162 h155 (n156 + 1)) fun t63_159 h160 n161 => ifP t57_138 false h160 n161 (fun k163 => bindP (intB .geq t63_159 (Value.int IntKind.i64 512)) fun t64_167 => k163 t64_167 h160 (n161 + 1)) fun t64_164 h165 n166 => bindP (pickV t57_138 (Value.bool true) t64_164) fun t65_168 => ifP t65_168 false h165 (n166 + 2) (fun k169 => k169 t51_133 h165 (n166 + 3)) fun t67_170 h171 n172 => ifP t65_168 false h171 n172 (fun k173 => bindP (lenSl t67_170) fun t68_177 => k173 t68_177 h171 (n172 + 1)) fun t68_174 h175 n176 => ifP t65_168 false h175 n176 (fun k178 => bindP (fwdP 0 (e 2)) fun t69_182 => k178 t69_182 h175 (n176 + 1)) fun t69_179 h180 n181 => ifP t65_168 false h180 n181 (fun k183 => bindP (fwdP 0 t69_179) fun t70_187 => k183 t70_187 h180 (n181 + 1)) fun t70_184 h185 n186 => ifP t65_168 false h185 n186 (fun k188 => bindP (fwdP 256 t70_184) fun t71_192 => k188 t71_192 h185 (n186 + 1)) fun t71_189 h190 n191 => ifP t65_168 false h190 n191 (fun k193 => bindP (load1 ro h190 t71_189) fun t72_197 => k193 t72_197 h190 (n191 + 1)) fun t72_194 h195 n196 => ifP t65_168 false h195 n196 (fun k198 => bindP (intB .neq t68_174 t72_194) fun t73_202 => k198 t73_202 h195 (n196 + 1)) fun t73_199 h200 n201 => bindP (pickV t65_168 (Value.bool true) t73_199) fun t74_203 => condP t74_203 (Q .ret (puts e [(48, t48_131), (49, (e 47)), (50, t50_132), (51, t51_133), (6, (e 47)), (7, t51_133), (52, t52_134), (53, t53_135), (54, (e 47)), (55, t55_136), (56, t56_137), (57, t57_138), (58, t57_138), (59, t59_140), (60, t60_145), (61, t61_150), (62, t62_154), (63, t63_159), (64, t64_164), (65, t65_168), (66, t65_168), (67, t67_170), (68, t68_174), (69, t69_179), (70, t70_184), (71, t71_189), (72, t72_194), (73, t73_199), (74, t74_203), (4, (Value.bool false))]) h200 (n201 + 2)) (callP Tryz.prog ro i_slices_ContainsFunc_api_Move_api_Move [t51_133, (.func (.func i_auto_checker_state_1) #[] #[(e 2), (e 3)])] h200 (n201 + 4) fun t77_204 h205 n206 => condP t77_204 (Q .ret (puts e [(48, t48_131), (49, (e 47)), (50, t50_132), (51, t51_133), (6, (e 47)), (7, t51_133), (52, t52_134), (53, t53_135), (54, (e 47)), (55, t55_136), (56, t56_137), (57, t57_138), (58, t57_138), (59, t59_140), (60, t60_145), (61, t61_150), (62, t62_154), (63, t63_159), (64, t64_164), (65, t65_168), (66, t65_168), (67, t67_170), (68, t68_174), (69, t69_179), (70, t70_184), (71, t71_189), (72, t72_194), (73, t73_199), (74, t74_203), (75, t51_133), (76, (.func (.func i_auto_checker_state_1) #[] #[(e 2), (e 3)])), (77, t77_204), (4, (Value.bool false))]) h205 (n206 + 1)) (bindP (intB .add (e 47) (Value.int IntKind.i64 1)) fun t78_207 => Q .normal (puts e [(48, t48_131), (49, (e 47)), (50, t50_132), (51, t51_133), (6, (e 47)), (7, t51_133), (52, t52_134), (53, t53_135), (54, (e 47)), (55, t55_136), (56, t56_137), (57, t57_138), (58, t57_138), (59, t59_140), (60, t60_145), (61, t61_150), (62, t62_154), (63, t63_159), (64, t64_164), (65, t65_168), (66, t65_168), (67, t67_170), (68, t68_174), (69, t69_179), (70, t70_184), (71, t71_189), (72, t72_194), (73, t73_199), (74, t74_203), (75, t51_133), (76, (.func (.func i_auto_checker_state_1) #[] #[(e 2), (e 3)])), (77, t77_204), (78, t78_207), (47, t78_207)]) h205 (n206 + 2)))) (Q (.exit 0) (puts e [(48, t48_131)]) h (nx + 1))
@[irreducible] def auto_checker_state (ro : Ro) (v0 v1 : Value) (h : T Obj) (nx : Nat) (K : KV) : Prop := newP h nx (.cells (Value.cells v0) y_auto_checker) fun h1 => newP h1 (nx + 1) (.cells (Value.cells v1) y_api_State) fun h2 => bindP (fwdP 1 (ptr (nx + 1))) fun t8_3 => bindP (load1 ro h2 t8_3) fun t9_4 => bindP (lenSl t9_4) fun t10_5 => callP Tryz.prog ro i_auto_Codes [t10_5] h2 (nx + 7) fun t11_6 h7 n8 => bindP (intB .eql t11_6 (Value.int IntKind.i64 0)) fun t13_9 => ifP t13_9 false h7 (n8 + 4) (fun k10 => bindP (fwdP 2 (ptr (nx + 1))) fun t15_14 => k10 t15_14 h7 (n8 + 5)) fun t15_11 h12 n13 => ifP t13_9 false h12 n13 (fun k15 => bindP (load1 ro h12 t15_11) fun t16_19 => k15 t16_19 h12 (n13 + 1)) fun t16_16 h17 n18 => ifP t13_9 false h17 n18 (fun k20 => bindP (lenSl t16_16) fun t17_24 => k20 t17_24 h17 (n18 + 1)) fun t17_21 h22 n23 => ifP t13_9 false h22 n23 (fun k25 => k25 t11_6 h22 (n23 + 1)) fun t18_26 h27 n28 => ifP t13_9 false h27 n28 (fun k29 => bindP (intB .neq t17_21 t18_26) fun t19_33 => k29 t19_33 h27 (n28 + 1)) fun t19_30 h31 n32 => bindP (pickV t13_9 (Value.bool true) t19_30) fun t20_34 => ifP t20_34 false h31 (n32 + 2) (fun k35 => bindP (fwdP 3 (ptr (nx + 1))) fun t22_39 => k35 t22_39 h31 (n32 + 3)) fun t22_36 h37 n38 => ifP t20_34 false h37 n38 (fun k40 => bindP (load1 ro h37 t22_36) fun t23_44 => k40 t23_44 h37 (n38 + 1)) fun t23_41 h42 n43 => ifP t20_34 false h42 n43 (fun k45 => bindP (lenSl t23_41) fun t24_49 => k45 t24_49 h42 (n43 + 1)) fun t24_46 h47 n48 => ifP t20_34 false h47 n48 (fun k50 => k50 t11_6 h47 (n48 + 1)) fun t25_51 h52 n53 => ifP t20_34 false h52 n53 (fun k54 => bindP (intB .neq t24_46 t25_51) fun t26_58 => k54 t26_58 h52 (n53 + 1)) fun t26_55 h56 n57 => bindP (pickV t20_34 (Value.bool true) t26_55) fun t27_59 => ifP t27_59 false h56 (n57 + 2) (fun k60 => bindP (fwdP 0 (ptr (nx + 1))) fun t29_64 => k60 t29_64 h56 (n57 + 3)) fun t29_61 h62 n63 => ifP t27_59 false h62 n63 (fun k65 => bindP (load1 ro h62 t29_61) fun t30_69 => k65 t30_69 h62 (n63 + 1)) fun t30_66 h67 n68 => ifP t27_59 false h67 n68 (fun k70 => callP Tryz.prog ro i_auto_rises [t30_66, (Value.int IntKind.i64 512)] h67 (n68 + 1) fun t31_74 h75 n76 => k70 t31_74 h75 n76) fun t31_71 h72 n73 => ifP t27_59 false h72 n73 (fun k77 => bindP (unV .not t31_71) fun t32_81 => k77 t32_81 h72 (n73 + 1)) fun t32_78 h79 n80 => bindP (pickV t27_59 (Value.bool true) t32_78) fun t33_82 => ifP t33_82 false h79 (n80 + 2) (fun k83 => bindP (fwdP 1 (ptr (nx + 1))) fun t35_87 => k83 t35_87 h79 (n80 + 3)) fun t35_84 h85 n86 => ifP t33_82 false h85 n86 (fun k88 => bindP (load1 ro h85 t35_84) fun t36_92 => k88 t36_92 h85 (n86 + 1)) fun t36_89 h90 n91 => ifP t33_82 false h90 n91 (fun k93 => bindP (fwdP 0 (ptr nx)) fun t37_97 => k93 t37_97 h90 (n91 + 1)) fun t37_94 h95 n96 => ifP t33_82 false h95 n96 (fun k98 => bindP (fwdP 257 t37_94) fun t38_102 => k98 t38_102 h95 (n96 + 1)) fun t38_99 h100 n101 => ifP t33_82 false h100 n101 (fun k103 => bindP (load1 ro h100 t38_99) fun t39_107 => k103 t39_107 h100 (n101 + 1)) fun t39_104 h105 n106 => ifP t33_82 false h105 n106 (fun k108 => bindP (lenSl t39_104) fun t40_112 => k108 t40_112 h105 (n106 + 1)) fun t40_109 h110 n111 => ifP t33_82 false h110 n111 (fun k113 => callP Tryz.prog ro i_auto_rises [t36_89, t40_109] h110 (n111 + 1) fun t41_117 h118 n119 => k113 t41_117 h118 n119) fun t41_114 h115 n116 => ifP t33_82 false h115 n116 (fun k120 => bindP (unV .not t41_114) fun t42_124 => k120 t42_124 h115 (n116 + 1)) fun t42_121 h122 n123 => bindP (pickV t33_82 (Value.bool true) t42_121) fun t43_125 => condP t43_125 (∃ h126, Sub h126 h122 ∧ K (Value.bool false) h126 (n123 + 2)) (bindP (fwdP 3 (ptr (nx + 1))) fun t44_128 => bindP (load1 ro h122 t44_128) fun t45_129 => bindP (lenSl t45_129) fun t46_130 => loopP (auto_checker_state_L1 ro) (puts (entE [v0, v1]) [(2, (ptr nx)), (3, (ptr (nx + 1))), (4, (Value.bool false)), (8, t8_3), (9, t9_4), (10, t10_5), (11, t11_6), (5, t11_6), (12, t11_6), (13, t13_9), (14, t13_9), (15, t15_11), (16, t16_16), (17, t17_21), (18, t18_26), (19, t19_30), (20, t20_34), (21, t20_34), (22, t22_36), (23, t23_41), (24, t24_46), (25, t25_51), (26, t26_55), (27, t27_59), (28, t27_59), (29, t29_61), (30, t30_66), (31, t31_71), (32, t32_78), (33, t33_82), (34, t33_82), (35, t35_84), (36, t36_89), (37, t37_94), (38, t38_99), (39, t39_104), (40, t40_109), (41, t41_114), (42, t42_121), (43, t43_125), (44, t44_128), (45, t45_129), (46, t46_130), (47, (Value.int IntKind.i64 0))]) h122 (n123 + 5) fun x211 e208 h209 n210 => exP x211 (auto_checker_state_j1 ro K e208 h209 n210) (fun i212 => beqP (Nat.beq i212 0) (auto_checker_state_j1 ro K e208 h209 n210) (False)) (∃ h213, Sub h213 h209 ∧ K (e208 4) h213 n210))
theorem auto_checker_state_eq (ro : Ro) (v0 v1 : Value) (h : T Obj) (nx : Nat) (K : KV) : callPre Tryz.prog ro (callP Tryz.prog ro) Tryz.f94 [v0, v1] h nx K = auto_checker_state ro v0 v1 h nx K := by kernel_rfl
theorem auto_checker_state_of {ro : Ro} {v0 v1 : Value} {h : T Obj} {nx : Nat} {K : KV} (hw : auto_checker_state ro v0 v1 h nx K) : callP Tryz.prog ro i_auto_checker_state [v0, v1] h nx K := callP_by (P := Tryz.prog) (fn := Tryz.f94) (by kernel_rfl) (by kernel_rfl) (by kernel_rfl) (Eq.mpr (auto_checker_state_eq ro v0 v1 h nx K) hw)
@[irreducible] def slices_Clone_2_int_2_int (ro : Ro) (v0 : Value) (h : T Obj) (nx : Nat) (K : KV) : Prop := bindP (slB .eql v0 (Value.slice none 0 0)) fun t4_1 => condP t4_1 (∃ h2, Sub h2 h ∧ K (Value.slice none 0 0) h2 (nx + 4)) (bindP (sliceLitV Tryz.prog y_s_a2_int (nx + 3) 0 []) fun r3 => optP h (nx + 3) r3.2 fun h4 => bindP (appendV Tryz.prog ro h4 (nx + 6) #[y_s_a2_int, y_s_a2_int] [r3.1, v0]) fun r5 => ∃ h6, Sub h6 r5.2.1 ∧ K r5.1 h6 (r5.2.2 + 1))
theorem slices_Clone_2_int_2_int_eq (ro : Ro) (v0 : Value) (h : T Obj) (nx : Nat) (K : KV) : callPre Tryz.prog ro (callP Tryz.prog ro) Tryz.f95 [v0] h nx K = slices_Clone_2_int_2_int ro v0 h nx K := by kernel_rfl
theorem slices_Clone_2_int_2_int_of {ro : Ro} {v0 : Value} {h : T Obj} {nx : Nat} {K : KV} (hw : slices_Clone_2_int_2_int ro v0 h nx K) : callP Tryz.prog ro i_slices_Clone_2_int_2_int [v0] h nx K := callP_by (P := Tryz.prog) (fn := Tryz.f95) (by kernel_rfl) (by kernel_rfl) (by kernel_rfl) (Eq.mpr (slices_Clone_2_int_2_int_eq ro v0 h nx K) hw)
@[irreducible] def slices_Clone_int_int (ro : Ro) (v0 : Value) (h : T Obj) (nx : Nat) (K : KV) : Prop := bindP (slB .eql v0 (Value.slice none 0 0)) fun t4_1 => condP t4_1 (∃ h2, Sub h2 h ∧ K (Value.slice none 0 0) h2 (nx + 4)) (bindP (sliceLitV Tryz.prog y_s_int (nx + 3) 0 []) fun r3 => optP h (nx + 3) r3.2 fun h4 => bindP (appendV Tryz.prog ro h4 (nx + 6) #[y_s_int, y_s_int] [r3.1, v0]) fun r5 => ∃ h6, Sub h6 r5.2.1 ∧ K r5.1 h6 (r5.2.2 + 1))
theorem slices_Clone_int_int_eq (ro : Ro) (v0 : Value) (h : T Obj) (nx : Nat) (K : KV) : callPre Tryz.prog ro (callP Tryz.prog ro) Tryz.f96 [v0] h nx K = slices_Clone_int_int ro v0 h nx K := by kernel_rfl
theorem slices_Clone_int_int_of {ro : Ro} {v0 : Value} {h : T Obj} {nx : Nat} {K : KV} (hw : slices_Clone_int_int ro v0 h nx K) : callP Tryz.prog ro i_slices_Clone_int_int [v0] h nx K := callP_by (P := Tryz.prog) (fn := Tryz.f96) (by kernel_rfl) (by kernel_rfl) (by kernel_rfl) (Eq.mpr (slices_Clone_int_int_eq ro v0 h nx K) hw)
@[irreducible] def slices_Clone_api_Move_api_Move (ro : Ro) (v0 : Value) (h : T Obj) (nx : Nat) (K : KV) : Prop := bindP (slB .eql v0 (Value.slice none 0 0)) fun t4_1 => condP t4_1 (∃ h2, Sub h2 h ∧ K (Value.slice none 0 0) h2 (nx + 4)) (bindP (sliceLitV Tryz.prog y_s_api_Move (nx + 3) 0 []) fun r3 => optP h (nx + 3) r3.2 fun h4 => bindP (appendV Tryz.prog ro h4 (nx + 6) #[y_s_api_Move, y_s_api_Move] [r3.1, v0]) fun r5 => ∃ h6, Sub h6 r5.2.1 ∧ K r5.1 h6 (r5.2.2 + 1))
theorem slices_Clone_api_Move_api_Move_eq (ro : Ro) (v0 : Value) (h : T Obj) (nx : Nat) (K : KV) : callPre Tryz.prog ro (callP Tryz.prog ro) Tryz.f97 [v0] h nx K = slices_Clone_api_Move_api_Move ro v0 h nx K := by kernel_rfl
theorem slices_Clone_api_Move_api_Move_of {ro : Ro} {v0 : Value} {h : T Obj} {nx : Nat} {K : KV} (hw : slices_Clone_api_Move_api_Move ro v0 h nx K) : callP Tryz.prog ro i_slices_Clone_api_Move_api_Move [v0] h nx K := callP_by (P := Tryz.prog) (fn := Tryz.f97) (by kernel_rfl) (by kernel_rfl) (by kernel_rfl) (Eq.mpr (slices_Clone_api_Move_api_Move_eq ro v0 h nx K) hw)
@[irreducible] def slices_Clone_uint8_uint8 (ro : Ro) (v0 : Value) (h : T Obj) (nx : Nat) (K : KV) : Prop := bindP (slB .eql v0 (Value.slice none 0 0)) fun t4_1 => condP t4_1 (∃ h2, Sub h2 h ∧ K (Value.slice none 0 0) h2 (nx + 4)) (bindP (sliceLitV Tryz.prog y_s_uint8 (nx + 3) 0 []) fun r3 => optP h (nx + 3) r3.2 fun h4 => bindP (appendV Tryz.prog ro h4 (nx + 6) #[y_s_uint8, y_s_uint8] [r3.1, v0]) fun r5 => ∃ h6, Sub h6 r5.2.1 ∧ K r5.1 h6 (r5.2.2 + 1))
theorem slices_Clone_uint8_uint8_eq (ro : Ro) (v0 : Value) (h : T Obj) (nx : Nat) (K : KV) : callPre Tryz.prog ro (callP Tryz.prog ro) Tryz.f98 [v0] h nx K = slices_Clone_uint8_uint8 ro v0 h nx K := by kernel_rfl
theorem slices_Clone_uint8_uint8_of {ro : Ro} {v0 : Value} {h : T Obj} {nx : Nat} {K : KV} (hw : slices_Clone_uint8_uint8 ro v0 h nx K) : callP Tryz.prog ro i_slices_Clone_uint8_uint8 [v0] h nx K := callP_by (P := Tryz.prog) (fn := Tryz.f98) (by kernel_rfl) (by kernel_rfl) (by kernel_rfl) (Eq.mpr (slices_Clone_uint8_uint8_eq ro v0 h nx K) hw)
@[irreducible] def slices_Index_int_int_j1 (ro : Ro) (K : KV) : Env → T Obj → Nat → Prop := fun e h nx => ∃ h1, Sub h1 h ∧ K (Value.int IntKind.i64 (-1)) h1 (nx + 1)
@[irreducible] def slices_Index_int_int_L1 (ro : Ro) : PT := fun e h nx Q => bindP (intB .lss (e 8) (e 7)) fun t9_3 => condP t9_3 (bindP (ixSl 1 (e 0) (e 8)) fun t14_4 => bindP (load1 ro h t14_4) fun t15_5 => bindP (intB .eql (e 1) t15_5) fun t16_6 => condP t16_6 (Q .ret (puts e [(9, t9_3), (10, (e 8)), (5, (e 8)), (11, (e 1)), (12, (e 0)), (13, (e 8)), (14, t14_4), (15, t15_5), (16, t16_6), (17, (e 8)), (4, (e 8))]) h (nx + 11)) (bindP (intB .add (e 8) (Value.int IntKind.i64 1)) fun t18_7 => Q .normal (puts e [(9, t9_3), (10, (e 8)), (5, (e 8)), (11, (e 1)), (12, (e 0)), (13, (e 8)), (14, t14_4), (15, t15_5), (16, t16_6), (18, t18_7), (8, t18_7)]) h (nx + 11))) (Q (.exit 0) (puts e [(9, t9_3)]) h (nx + 1))
@[irreducible] def slices_Index_int_int (ro : Ro) (v0 v1 : Value) (h : T Obj) (nx : Nat) (K : KV) : Prop := bindP (lenSl v0) fun t7_2 => loopP (slices_Index_int_int_L1 ro) (puts (entE [v0, v1]) [(4, (Value.int IntKind.i64 0)), (6, v0), (7, t7_2), (8, (Value.int IntKind.i64 0))]) h (nx + 4) fun x11 e8 h9 n10 => exP x11 (slices_Index_int_int_j1 ro K e8 h9 n10) (fun i12 => beqP (Nat.beq i12 0) (slices_Index_int_int_j1 ro K e8 h9 n10) (False)) (∃ h13, Sub h13 h9 ∧ K (e8 4) h13 n10)
theorem slices_Index_int_int_eq (ro : Ro) (v0 v1 : Value) (h : T Obj) (nx : Nat) (K : KV) : callPre Tryz.prog ro (callP Tryz.prog ro) Tryz.f102 [v0, v1] h nx K = slices_Index_int_int ro v0 v1 h nx K := by kernel_rfl
theorem slices_Index_int_int_of {ro : Ro} {v0 v1 : Value} {h : T Obj} {nx : Nat} {K : KV} (hw : slices_Index_int_int ro v0 v1 h nx K) : callP Tryz.prog ro i_slices_Index_int_int [v0, v1] h nx K := callP_by (P := Tryz.prog) (fn := Tryz.f102) (by kernel_rfl) (by kernel_rfl) (by kernel_rfl) (Eq.mpr (slices_Index_int_int_eq ro v0 v1 h nx K) hw)
@[irreducible] def ref11_rises_j1 (ro : Ro) (K : KV) : Env → T Obj → Nat → Prop := fun e h nx => ∃ h1, Sub h1 h ∧ K (Value.bool true) h1 (nx + 1)
@[irreducible] def ref11_rises_L1 (ro : Ro) : PT := fun e h nx Q => bindP (lenSl (e 0)) fun t8_2 => bindP (intB .lss (e 5) t8_2) fun t9_3 => condP t9_3 (bindP (ixSl 1 (e 0) (e 5)) fun t14_4 => bindP (load1 ro h t14_4) fun t15_5 => bindP (intB .lss t15_5 (Value.int IntKind.i64 0)) fun t16_6 => ifP t16_6 false h (nx + 33) (fun k7 => k7 (e 0) h (nx + 33)) fun t18_8 h9 n10 => ifP t16_6 false h9 n10 (fun k11 => k11 (e 5) h9 n10) fun t19_12 h13 n14 => ifP t16_6 false h13 n14 (fun k15 => bindP (ixSl 1 t18_8 t19_12) fun t20_19 => k15 t20_19 h13 n14) fun t20_16 h17 n18 => ifP t16_6 false h17 n18 (fun k20 => bindP (load1 ro h17 t20_16) fun t21_24 => k20 t21_24 h17 n18) fun t21_21 h22 n23 => ifP t16_6 false h22 n23 (fun k25 => k25 (e 1) h22 n23) fun t22_26 h27 n28 => ifP t16_6 false h27 n28 (fun k29 => bindP (intB .geq t21_21 t22_26) fun t23_33 => k29 t23_33 h27 n28) fun t23_30 h31 n32 => bindP (pickV t16_6 (Value.bool true) t23_30) fun t24_34 => ifP t24_34 false h31 n32 (fun k35 => k35 (e 5) h31 n32) fun t26_36 h37 n38 => ifP t24_34 false h37 n38 (fun k39 => bindP (intB .gtr t26_36 (Value.int IntKind.i64 0)) fun t27_43 => k39 t27_43 h37 n38) fun t27_40 h41 n42 => ifP t24_34 false h41 n42 (fun k44 => k44 t27_40 h41 n42) fun t28_45 h46 n47 => ifP t28_45 true h46 n47 (fun k48 => k48 (e 0) h46 n47) fun t29_49 h50 n51 => ifP t28_45 true h50 n51 (fun k52 => k52 (e 5) h50 n51) fun t30_53 h54 n55 => ifP t28_45 true h54 n55 (fun k56 => bindP (intB .sub t30_53 (Value.int IntKind.i64 1)) fun t31_60 => k56 t31_60 h54 n55) fun t31_57 h58 n59 => ifP t28_45 true h58 n59 (fun k61 => bindP (ixSl 1 t29_49 t31_57) fun t32_65 => k61 t32_65 h58 n59) fun t32_62 h63 n64 => ifP t28_45 true h63 n64 (fun k66 => bindP (load1 ro h63 t32_62) fun t33_70 => k66 t33_70 h63 n64) fun t33_67 h68 n69 => ifP t28_45 true h68 n69 (fun k71 => k71 (e 0) h68 n69) fun t34_72 h73 n74 => ifP t28_45 true h73 n74 (fun k75 => k75 (e 5) h73 n74) fun t35_76 h77 n78 => ifP t28_45 true h77 n78 (fun k79 => bindP (ixSl 1 t34_72 t35_76) fun t36_83 => k79 t36_83 h77 n78) fun t36_80 h81 n82 => ifP t28_45 true h81 n82 (fun k84 => bindP (load1 ro h81 t36_80) fun t37_88 => k84 t37_88 h81 n82) fun t37_85 h86 n87 => ifP t28_45 true h86 n87 (fun k89 => bindP (intB .geq t33_67 t37_85) fun t38_93 => k89 t38_93 h86 n87) fun t38_90 h91 n92 => ifP t24_34 false h91 n92 (fun k94 => bindP (pickV t28_45 t38_90 (Value.bool false)) fun t39_98 => k94 t39_98 h91 n92) fun t39_95 h96 n97 => bindP (pickV t24_34 (Value.bool true) t39_95) fun t40_99 => condP t40_99 (Q .ret (puts e [(6, (e 5)), (7, (e 0)), (8, t8_2), (9, t9_3), (12, (e 0)), (13, (e 5)), (14, t14_4), (15, t15_5), (16, t16_6), (17, t16_6), (18, t18_8), (19, t19_12), (20, t20_16), (21, t21_21), (22, t22_26), (23, t23_30), (24, t24_34), (25, t24_34), (26, t26_36), (27, t27_40), (28, t28_45), (29, t29_49), (30, t30_53), (31, t31_57), (32, t32_62), (33, t33_67), (34, t34_72), (35, t35_76), (36, t36_80), (37, t37_85), (38, t38_90), (39, t39_95), (40, t40_99), (4, (Value.bool false))]) h96 (n97 + 1)) (bindP (intB .add (e 5) (Value.int IntKind.i64 1)) fun t11_100 => Q .normal (puts e [(6, (e 5)), (7, (e 0)), (8, t8_2), (9, t9_3), (12, (e 0)), (13, (e 5)), (14, t14_4), (15, t15_5), (16, t16_6), (17, t16_6), (18, t18_8), (19, t19_12), (20, t20_16), (21, t21_21), (22, t22_26), (23, t23_30), (24, t24_34), (25, t24_34), (26, t26_36), (27, t27_40), (28, t28_45), (29, t29_49), (30, t30_53), (31, t31_57), (32, t32_62), (33, t33_67), (34, t34_72), (35, t35_76), (36, t36_80), (37, t37_85), (38, t38_90), (39, t39_95), (40, t40_99), (10, (e 5)), (11, t11_100), (5, t11_100)]) h96 (n97 + 3))) (Q (.exit 0) (puts e [(6, (e 5)), (7, (e 0)), (8, t8_2), (9, t9_3)]) h (nx + 4))
@[irreducible] def ref11_rises (ro : Ro) (v0 v1 : Value) (h : T Obj) (nx : Nat) (K : KV) : Prop := loopP (ref11_rises_L1 ro) (puts (entE [v0, v1]) [(4, (Value.bool false)), (5, (Value.int IntKind.i64 0))]) h (nx + 2) fun x104 e101 h102 n103 => exP x104 (ref11_rises_j1 ro K e101 h102 n103) (fun i105 => beqP (Nat.beq i105 0) (ref11_rises_j1 ro K e101 h102 n103) (False)) (∃ h106, Sub h106 h102 ∧ K (e101 4) h106 n103)
theorem ref11_rises_eq (ro : Ro) (v0 v1 : Value) (h : T Obj) (nx : Nat) (K : KV) : callPre Tryz.prog ro (callP Tryz.prog ro) Tryz.f110 [v0, v1] h nx K = ref11_rises ro v0 v1 h nx K := by kernel_rfl
theorem ref11_rises_of {ro : Ro} {v0 v1 : Value} {h : T Obj} {nx : Nat} {K : KV} (hw : ref11_rises ro v0 v1 h nx K) : callP Tryz.prog ro i_ref11_rises [v0, v1] h nx K := callP_by (P := Tryz.prog) (fn := Tryz.f110) (by kernel_rfl) (by kernel_rfl) (by kernel_rfl) (Eq.mpr (ref11_rises_eq ro v0 v1 h nx K) hw)
@[irreducible] def ref11_move_j1 (ro : Ro) (K : KV) : Env → T Obj → Nat → Prop := fun e h nx => ∃ h108, Sub h108 h ∧ K (Value.bool true) h108 (nx + 1)
@[irreducible] def ref11_move_L1 (ro : Ro) : PT := fun e h nx Q => bindP (fwdP 1 (e 5)) fun t41_109 => bindP (load1 ro h t41_109) fun t42_110 => bindP (lenSl t42_110) fun t43_111 => bindP (intB .lss (e 7) t43_111) fun t44_112 => condP t44_112 (bindP (fwdP 1 (e 5)) fun t47_113 => bindP (load1 ro h t47_113) fun t48_114 => bindP (ixSl 1 t48_114 (e 7)) fun t50_115 => bindP (load1 ro h t50_115) fun t51_116 => bindP (intB .lss t51_116 (Value.int IntKind.u8 1)) fun t52_117 => ifP t52_117 false h (nx + 43) (fun k118 => bindP (fwdP 1 (e 5)) fun t54_122 => k118 t54_122 h (nx + 43)) fun t54_119 h120 n121 => ifP t52_117 false h120 n121 (fun k123 => bindP (load1 ro h120 t54_119) fun t55_127 => k123 t55_127 h120 n121) fun t55_124 h125 n126 => ifP t52_117 false h125 n126 (fun k128 => k128 (e 7) h125 n126) fun t56_129 h130 n131 => ifP t52_117 false h130 n131 (fun k132 => bindP (ixSl 1 t55_124 t56_129) fun t57_136 => k132 t57_136 h130 n131) fun t57_133 h134 n135 => ifP t52_117 false h134 n135 (fun k137 => bindP (load1 ro h134 t57_133) fun t58_141 => k137 t58_141 h134 n135) fun t58_138 h139 n140 => ifP t52_117 false h139 n140 (fun k142 => bindP (intB .gtr t58_138 (Value.int IntKind.u8 3)) fun t59_146 => k142 t59_146 h139 n140) fun t59_143 h144 n145 => bindP (pickV t52_117 (Value.bool true) t59_143) fun t60_147 => ifP t60_147 false h144 n145 (fun k148 => bindP (fwdP 1 (e 5)) fun t62_152 => k148 t62_152 h144 n145) fun t62_149 h150 n151 => ifP t60_147 false h150 n151 (fun k153 => bindP (load1 ro h150 t62_149) fun t63_157 => k153 t63_157 h150 n151) fun t63_154 h155 n156 => ifP t60_147 false h155 n156 (fun k158 => k158 (e 7) h155 n156) fun t64_159 h160 n161 => ifP t60_147 false h160 n161 (fun k162 => bindP (ixSl 1 t63_154 t64_159) fun t65_166 => k162 t65_166 h160 n161) fun t65_163 h164 n165 => ifP t60_147 false h164 n165 (fun k167 => bindP (load1 ro h164 t65_163) fun t66_171 => k167 t66_171 h164 n165) fun t66_168 h169 n170 => ifP t60_147 false h169 n170 (fun k172 => bindP (intB .neq t66_168 (Value.int IntKind.u8 3)) fun t67_176 => k172 t67_176 h169 n170) fun t67_173 h174 n175 => ifP t60_147 false h174 n175 (fun k177 => k177 t67_173 h174 n175) fun t68_178 h179 n180 => ifP t68_178 true h179 n180 (fun k181 => bindP (fwdP 1 (e 4)) fun t69_185 => k181 t69_185 h179 n180) fun t69_182 h183 n184 => ifP t68_178 true h183 n184 (fun k186 => bindP (load1 ro h183 t69_182) fun t70_190 => k186 t70_190 h183 n184) fun t70_187 h188 n189 => ifP t68_178 true h188 n189 (fun k191 => bindP (fwdP 258 (e 3)) fun t71_195 => k191 t71_195 h188 n189) fun t71_192 h193 n194 => ifP t68_178 true h193 n194 (fun k196 => bindP (load1 ro h193 t71_192) fun t72_200 => k196 t72_200 h193 n194) fun t72_197 h198 n199 => ifP t68_178 true h198 n199 (fun k201 => bindP (fwdP 0 (e 5)) fun t73_205 => k201 t73_205 h198 n199) fun t73_202 h203 n204 => ifP t68_178 true h203 n204 (fun k206 => bindP (load1 ro h203 t73_202) fun t74_210 => k206 t74_210 h203 n204) fun t74_207 h208 n209 => ifP t68_178 true h208 n209 (fun k211 => bindP (ixSl 4 t72_197 t74_207) fun t75_215 => k211 t75_215 h208 n209) fun t75_212 h213 n214 => ifP t68_178 true h213 n214 (fun k216 => bindP (fwdP 1 t75_212) fun t76_220 => k216 t76_220 h213 n214) fun t76_217 h218 n219 => ifP t68_178 true h218 n219 (fun k221 => bindP (load1 ro h218 t76_217) fun t77_225 => k221 t77_225 h218 n219) fun t77_222 h223 n224 => ifP t68_178 true h223 n224 (fun k226 => k226 (e 7) h223 n224) fun t78_227 h228 n229 => ifP t68_178 true h228 n229 (fun k230 => bindP (ixSl 1 t77_222 t78_227) fun t79_234 => k230 t79_234 h228 n229) fun t79_231 h232 n233 => ifP t68_178 true h232 n233 (fun k235 => bindP (load1 ro h232 t79_231) fun t80_239 => k235 t80_239 h232 n233) fun t80_236 h237 n238 => ifP t68_178 true h237 n238 (fun k240 => callP Tryz.prog ro i_ref11_in [t70_187, t80_236] h237 n238 fun t81_244 h245 n246 => k240 t81_244 h245 n246) fun t81_241 h242 n243 => ifP t68_178 true h242 n243 (fun k247 => bindP (unV .not t81_241) fun t82_251 => k247 t82_251 h242 n243) fun t82_248 h249 n250 => ifP t60_147 false h249 n250 (fun k252 => bindP (pickV t68_178 t82_248 (Value.bool false)) fun t83_256 => k252 t83_256 h249 n250) fun t83_253 h254 n255 => bindP (pickV t60_147 (Value.bool true) t83_253) fun t84_257 => condP t84_257 (Q .ret (puts e [(40, (e 7)), (41, t41_109), (42, t42_110), (43, t43_111), (44, t44_112), (47, t47_113), (48, t48_114), (49, (e 7)), (50, t50_115), (51, t51_116), (52, t52_117), (53, t52_117), (54, t54_119), (55, t55_124), (56, t56_129), (57, t57_133), (58, t58_138), (59, t59_143), (60, t60_147), (61, t60_147), (62, t62_149), (63, t63_154), (64, t64_159), (65, t65_163), (66, t66_168), (67, t67_173), (68, t68_178), (69, t69_182), (70, t70_187), (71, t71_192), (72, t72_197), (73, t73_202), (74, t74_207), (75, t75_212), (76, t76_217), (77, t77_222), (78, t78_227), (79, t79_231), (80, t80_236), (81, t81_241), (82, t82_248), (83, t83_253), (84, t84_257), (6, (Value.bool false))]) h254 (n255 + 1)) (bindP (intB .add (e 7) (Value.int IntKind.i64 1)) fun t46_258 => Q .normal (puts e [(40, (e 7)), (41, t41_109), (42, t42_110), (43, t43_111), (44, t44_112), (47, t47_113), (48, t48_114), (49, (e 7)), (50, t50_115), (51, t51_116), (52, t52_117), (53, t52_117), (54, t54_119), (55, t55_124), (56, t56_129), (57, t57_133), (58, t58_138), (59, t59_143), (60, t60_147), (61, t60_147), (62, t62_149), (63, t63_154), (64, t64_159), (65, t65_163), (66, t66_168), (67, t67_173), (68, t68_178), (69, t69_182), (70, t70_187), (71, t71_192), (72, t72_197), (73, t73_202), (74, t74_207), (75, t75_212), (76, t76_217), (77, t77_222), (78, t78_227), (79, t79_231), (80, t80_236), (81, t81_241), (82, t82_248), (83, t83_253), (84, t84_257), (45, (e 7)), (46, t46_258), (7, t46_258)]) h254 (n255 + 3))) (Q (.exit 0) (puts e [(40, (e 7)), (41, t41_109), (42, t42_110), (43, t43_111), (44, t44_112)]) h (nx + 5))
@[irreducible] def ref11_move (ro : Ro) (v0 v1 v2 : Value) (h : T Obj) (nx : Nat) (K : KV) : Prop := newP h nx (.cells (Value.cells v0) y_api_Auto) fun h1 => newP h1 (nx + 1) (.cells (Value.cells v1) y_api_State) fun h2 => newP h2 (nx + 2) (.cells (Value.cells v2) y_api_Move) fun h3 => bindP (fwdP 0 (ptr (nx + 2))) fun t8_4 => bindP (load1 ro h3 t8_4) fun t9_5 => bindP (intB .eql t9_5 (Value.int IntKind.i64 (-1))) fun t10_6 => condP t10_6 (bindP (fwdP 1 (ptr (nx + 2))) fun t11_7 => bindP (load1 ro h3 t11_7) fun t12_8 => bindP (lenSl t12_8) fun t13_9 => bindP (intB .eql t13_9 (Value.int IntKind.i64 0)) fun t14_10 => ∃ h11, Sub h11 h3 ∧ K t14_10 h11 (nx + 12)) (bindP (fwdP 0 (ptr (nx + 2))) fun t15_12 => bindP (load1 ro h3 t15_12) fun t16_13 => bindP (intB .lss t16_13 (Value.int IntKind.i64 1)) fun t17_14 => ifP t17_14 false h3 (nx + 32) (fun k15 => bindP (fwdP 0 (ptr (nx + 2))) fun t19_19 => k15 t19_19 h3 (nx + 32)) fun t19_16 h17 n18 => ifP t17_14 false h17 n18 (fun k20 => bindP (load1 ro h17 t19_16) fun t20_24 => k20 t20_24 h17 n18) fun t20_21 h22 n23 => ifP t17_14 false h22 n23 (fun k25 => bindP (fwdP 258 (ptr nx)) fun t21_29 => k25 t21_29 h22 n23) fun t21_26 h27 n28 => ifP t17_14 false h27 n28 (fun k30 => bindP (load1 ro h27 t21_26) fun t22_34 => k30 t22_34 h27 n28) fun t22_31 h32 n33 => ifP t17_14 false h32 n33 (fun k35 => bindP (lenSl t22_31) fun t23_39 => k35 t23_39 h32 n33) fun t23_36 h37 n38 => ifP t17_14 false h37 n38 (fun k40 => bindP (intB .geq t20_21 t23_36) fun t24_44 => k40 t24_44 h37 n38) fun t24_41 h42 n43 => bindP (pickV t17_14 (Value.bool true) t24_41) fun t25_45 => ifP t25_45 false h42 n43 (fun k46 => bindP (fwdP 1 (ptr (nx + 2))) fun t27_50 => k46 t27_50 h42 n43) fun t27_47 h48 n49 => ifP t25_45 false h48 n49 (fun k51 => bindP (load1 ro h48 t27_47) fun t28_55 => k51 t28_55 h48 n49) fun t28_52 h53 n54 => ifP t25_45 false h53 n54 (fun k56 => bindP (lenSl t28_52) fun t29_60 => k56 t29_60 h53 n54) fun t29_57 h58 n59 => ifP t25_45 false h58 n59 (fun k61 => bindP (fwdP 258 (ptr nx)) fun t30_65 => k61 t30_65 h58 n59) fun t30_62 h63 n64 => ifP t25_45 false h63 n64 (fun k66 => bindP (load1 ro h63 t30_62) fun t31_70 => k66 t31_70 h63 n64) fun t31_67 h68 n69 => ifP t25_45 false h68 n69 (fun k71 => bindP (fwdP 0 (ptr (nx + 2))) fun t32_75 => k71 t32_75 h68 n69) fun t32_72 h73 n74 => ifP t25_45 false h73 n74 (fun k76 => bindP (load1 ro h73 t32_72) fun t33_80 => k76 t33_80 h73 n74) fun t33_77 h78 n79 => ifP t25_45 false h78 n79 (fun k81 => bindP (ixSl 4 t31_67 t33_77) fun t34_85 => k81 t34_85 h78 n79) fun t34_82 h83 n84 => ifP t25_45 false h83 n84 (fun k86 => bindP (fwdP 1 t34_82) fun t35_90 => k86 t35_90 h83 n84) fun t35_87 h88 n89 => ifP t25_45 false h88 n89 (fun k91 => bindP (load1 ro h88 t35_87) fun t36_95 => k91 t36_95 h88 n89) fun t36_92 h93 n94 => ifP t25_45 false h93 n94 (fun k96 => bindP (lenSl t36_92) fun t37_100 => k96 t37_100 h93 n94) fun t37_97 h98 n99 => ifP t25_45 false h98 n99 (fun k101 => bindP (intB .neq t29_57 t37_97) fun t38_105 => k101 t38_105 h98 n99) fun t38_102 h103 n104 => bindP (pickV t25_45 (Value.bool true) t38_102) fun t39_106 => condP t39_106 (∃ h107, Sub h107 h103 ∧ K (Value.bool false) h107 (n104 + 1)) (loopP (ref11_move_L1 ro) (puts (entE [v0, v1, v2]) [(3, (ptr nx)), (4, (ptr (nx + 1))), (5, (ptr (nx + 2))), (6, (Value.bool false)), (8, t8_4), (9, t9_5), (10, t10_6), (15, t15_12), (16, t16_13), (17, t17_14), (18, t17_14), (19, t19_16), (20, t20_21), (21, t21_26), (22, t22_31), (23, t23_36), (24, t24_41), (25, t25_45), (26, t25_45), (27, t27_47), (28, t28_52), (29, t29_57), (30, t30_62), (31, t31_67), (32, t32_72), (33, t33_77), (34, t34_82), (35, t35_87), (36, t36_92), (37, t37_97), (38, t38_102), (39, t39_106), (7, (Value.int IntKind.i64 0))]) h103 (n104 + 1) fun x262 e259 h260 n261 => exP x262 (ref11_move_j1 ro K e259 h260 n261) (fun i263 => beqP (Nat.beq i263 0) (ref11_move_j1 ro K e259 h260 n261) (False)) (∃ h264, Sub h264 h260 ∧ K (e259 6) h264 n261)))
theorem ref11_move_eq (ro : Ro) (v0 v1 v2 : Value) (h : T Obj) (nx : Nat) (K : KV) : callPre Tryz.prog ro (callP Tryz.prog ro) Tryz.f111 [v0, v1, v2] h nx K = ref11_move ro v0 v1 v2 h nx K := by kernel_rfl
theorem ref11_move_of {ro : Ro} {v0 v1 v2 : Value} {h : T Obj} {nx : Nat} {K : KV} (hw : ref11_move ro v0 v1 v2 h nx K) : callP Tryz.prog ro i_ref11_move [v0, v1, v2] h nx K := callP_by (P := Tryz.prog) (fn := Tryz.f111) (by kernel_rfl) (by kernel_rfl) (by kernel_rfl) (Eq.mpr (ref11_move_eq ro v0 v1 v2 h nx K) hw)
@[irreducible] def ref01_List_j1 (ro : Ro) (K : KV) : Env → T Obj → Nat → Prop := fun e h nx => ∃ h2, Sub h2 h ∧ K (e 3) h2 (nx + 2)
@[irreducible] def ref01_List_j2 (ro : Ro) (Q : KE) : Env → T Obj → Nat → Prop := fun e h nx => bindP (intB .add (e 4) (Value.int IntKind.i64 1)) fun t8_4 => Q .normal (puts e [(7, (e 4)), (8, t8_4), (4, t8_4)]) h (nx + 3)
@[irreducible] def ref01_List_L1 (ro : Ro) : PT := fun e h nx Q => bindP (intB .lss (e 4) (Value.int IntKind.i64 256)) fun t6_3 => condP t6_3 (bindP (loadA ro h 4 (e 1)) fun t9_5 => bindP (convI .u8 (e 4)) fun t11_6 => callP Tryz.prog ro i_ref01_Has [t9_5, t11_6] h (nx + 6) fun t12_7 h8 n9 => condP t12_7 (bindP (convI .u8 (e 4)) fun t15_10 => bindP (sliceLitV Tryz.prog y_s_uint8 (n9 + 3) 1 [(0, t15_10)]) fun r11 => optP h8 (n9 + 3) r11.2 fun h12 => bindP (appendV Tryz.prog ro h12 (n9 + 5) #[y_s_uint8, y_s_uint8] [(e 3), r11.1]) fun r13 => ref01_List_j2 ro Q (puts e [(5, (e 4)), (6, t6_3), (9, t9_5), (10, (e 4)), (11, t11_6), (12, t12_7), (13, (e 3)), (14, (e 4)), (15, t15_10), (16, r11.1), (17, r13.1), (3, r13.1)]) r13.2.1 (r13.2.2 + 1)) (ref01_List_j2 ro Q (puts e [(5, (e 4)), (6, t6_3), (9, t9_5), (10, (e 4)), (11, t11_6), (12, t12_7)]) h8 n9)) (Q (.exit 0) (puts e [(5, (e 4)), (6, t6_3)]) h (nx + 2))
@[irreducible] def ref01_List (ro : Ro) (v0 : Value) (h : T Obj) (nx : Nat) (K : KV) : Prop := newP h nx (.cells (Value.cells v0) y_api_Set) fun h1 => loopP (ref01_List_L1 ro) (puts (entE [v0]) [(1, (ptr nx)), (2, (Value.slice none 0 0)), (3, (Value.slice none 0 0)), (4, (Value.int IntKind.i64 0))]) h1 (nx + 4) fun x17 e14 h15 n16 => exP x17 (ref01_List_j1 ro K e14 h15 n16) (fun i18 => beqP (Nat.beq i18 0) (ref01_List_j1 ro K e14 h15 n16) (False)) (∃ h19, Sub h19 h15 ∧ K (e14 2) h19 n16)
theorem ref01_List_eq (ro : Ro) (v0 : Value) (h : T Obj) (nx : Nat) (K : KV) : callPre Tryz.prog ro (callP Tryz.prog ro) Tryz.f119 [v0] h nx K = ref01_List ro v0 h nx K := by kernel_rfl
theorem ref01_List_of {ro : Ro} {v0 : Value} {h : T Obj} {nx : Nat} {K : KV} (hw : ref01_List ro v0 h nx K) : callP Tryz.prog ro i_ref01_List [v0] h nx K := callP_by (P := Tryz.prog) (fn := Tryz.f119) (by kernel_rfl) (by kernel_rfl) (by kernel_rfl) (Eq.mpr (ref01_List_eq ro v0 h nx K) hw)
@[irreducible] def ref02_Set_j1 (ro : Ro) (K : KV) : Env → T Obj → Nat → Prop := fun e h nx => callP Tryz.prog ro i_ref01_Of [(e 5)] h (nx + 2) fun t24_4 h5 n6 => bindP (storeN 4 h5 (e 4) t24_4) fun h7 => bindP (loadA ro h7 4 (e 4)) fun r8 => ∃ h9, Sub h9 h7 ∧ K r8 h9 (n6 + 1)
@[irreducible] def ref02_Set_j2 (ro : Ro) (Q : KE) : Env → T Obj → Nat → Prop := fun e h nx => bindP (intB .add (e 6) (Value.int IntKind.i64 1)) fun t10_11 => Q .normal (puts e [(9, (e 6)), (10, t10_11), (6, t10_11)]) h (nx + 3)
@[irreducible] def ref02_Set_L1 (ro : Ro) : PT := fun e h nx Q => bindP (intB .lss (e 6) (Value.int IntKind.i64 256)) fun t8_10 => condP t8_10 (bindP (fwdP 0 (e 2)) fun t12_12 => bindP (ixArr 256 1 t12_12 (e 6)) fun t13_13 => bindP (load1 ro h t13_13) fun t14_14 => bindP (convI .i64 t14_14) fun t15_15 => bindP (intB .eql t15_15 (e 1)) fun t17_16 => condP t17_16 (bindP (convI .u8 (e 6)) fun t20_17 => bindP (sliceLitV Tryz.prog y_s_uint8 (nx + 12) 1 [(0, t20_17)]) fun r18 => optP h (nx + 12) r18.2 fun h19 => bindP (appendV Tryz.prog ro h19 (nx + 14) #[y_s_uint8, y_s_uint8] [(e 5), r18.1]) fun r20 => ref02_Set_j2 ro Q (puts e [(7, (e 6)), (8, t8_10), (11, (e 6)), (12, t12_12), (13, t13_13), (14, t14_14), (15, t15_15), (16, (e 1)), (17, t17_16), (18, (e 5)), (19, (e 6)), (20, t20_17), (21, r18.1), (22, r20.1), (5, r20.1)]) r20.2.1 (r20.2.2 + 1)) (ref02_Set_j2 ro Q (puts e [(7, (e 6)), (8, t8_10), (11, (e 6)), (12, t12_12), (13, t13_13), (14, t14_14), (15, t15_15), (16, (e 1)), (17, t17_16)]) h (nx + 9))) (Q (.exit 0) (puts e [(7, (e 6)), (8, t8_10)]) h (nx + 2))
@[irreducible] def ref02_Set (ro : Ro) (v0 v1 : Value) (h : T Obj) (nx : Nat) (K : KV) : Prop := newP h nx (.cells (Value.cells v0) y_api_Split) fun h1 => bindP (zer Tryz.prog y_api_Set) fun z2 => newP h1 (nx + 1) (.cells z2.cells y_api_Set) fun h3 => loopP (ref02_Set_L1 ro) (puts (entE [v0, v1]) [(2, (ptr nx)), (4, (ptr (nx + 1))), (5, (Value.slice none 0 0)), (6, (Value.int IntKind.i64 0))]) h3 (nx + 4) fun x24 e21 h22 n23 => exP x24 (ref02_Set_j1 ro K e21 h22 n23) (fun i25 => beqP (Nat.beq i25 0) (ref02_Set_j1 ro K e21 h22 n23) (False)) (bindP (loadA ro h22 4 (e21 4)) fun r26 => ∃ h27, Sub h27 h22 ∧ K r26 h27 n23)
theorem ref02_Set_eq (ro : Ro) (v0 v1 : Value) (h : T Obj) (nx : Nat) (K : KV) : callPre Tryz.prog ro (callP Tryz.prog ro) Tryz.f120 [v0, v1] h nx K = ref02_Set ro v0 v1 h nx K := by kernel_rfl
theorem ref02_Set_of {ro : Ro} {v0 v1 : Value} {h : T Obj} {nx : Nat} {K : KV} (hw : ref02_Set ro v0 v1 h nx K) : callP Tryz.prog ro i_ref02_Set [v0, v1] h nx K := callP_by (P := Tryz.prog) (fn := Tryz.f120) (by kernel_rfl) (by kernel_rfl) (by kernel_rfl) (Eq.mpr (ref02_Set_eq ro v0 v1 h nx K) hw)
@[irreducible] def ref11_in_j1 (ro : Ro) (K : KV) : Env → T Obj → Nat → Prop := fun e h nx => ∃ h1, Sub h1 h ∧ K (Value.bool false) h1 (nx + 1)
@[irreducible] def ref11_in_L1 (ro : Ro) : PT := fun e h nx Q => bindP (lenSl (e 0)) fun t8_2 => bindP (intB .lss (e 5) t8_2) fun t9_3 => condP t9_3 (bindP (ixSl 1 (e 0) (e 5)) fun t14_4 => bindP (load1 ro h t14_4) fun t15_5 => bindP (intB .eql t15_5 (e 1)) fun t17_6 => condP t17_6 (Q .ret (puts e [(6, (e 5)), (7, (e 0)), (8, t8_2), (9, t9_3), (12, (e 0)), (13, (e 5)), (14, t14_4), (15, t15_5), (16, (e 1)), (17, t17_6), (4, (Value.bool true))]) h (nx + 11)) (bindP (intB .add (e 5) (Value.int IntKind.i64 1)) fun t11_7 => Q .normal (puts e [(6, (e 5)), (7, (e 0)), (8, t8_2), (9, t9_3), (12, (e 0)), (13, (e 5)), (14, t14_4), (15, t15_5), (16, (e 1)), (17, t17_6), (10, (e 5)), (11, t11_7), (5, t11_7)]) h (nx + 13))) (Q (.exit 0) (puts e [(6, (e 5)), (7, (e 0)), (8, t8_2), (9, t9_3)]) h (nx + 4))
@[irreducible] def ref11_in (ro : Ro) (v0 v1 : Value) (h : T Obj) (nx : Nat) (K : KV) : Prop := loopP (ref11_in_L1 ro) (puts (entE [v0, v1]) [(4, (Value.bool false)), (5, (Value.int IntKind.i64 0))]) h (nx + 2) fun x11 e8 h9 n10 => exP x11 (ref11_in_j1 ro K e8 h9 n10) (fun i12 => beqP (Nat.beq i12 0) (ref11_in_j1 ro K e8 h9 n10) (False)) (∃ h13, Sub h13 h9 ∧ K (e8 4) h13 n10)
theorem ref11_in_eq (ro : Ro) (v0 v1 : Value) (h : T Obj) (nx : Nat) (K : KV) : callPre Tryz.prog ro (callP Tryz.prog ro) Tryz.f121 [v0, v1] h nx K = ref11_in ro v0 v1 h nx K := by kernel_rfl
theorem ref11_in_of {ro : Ro} {v0 v1 : Value} {h : T Obj} {nx : Nat} {K : KV} (hw : ref11_in ro v0 v1 h nx K) : callP Tryz.prog ro i_ref11_in [v0, v1] h nx K := callP_by (P := Tryz.prog) (fn := Tryz.f121) (by kernel_rfl) (by kernel_rfl) (by kernel_rfl) (Eq.mpr (ref11_in_eq ro v0 v1 h nx K) hw)
@[irreducible] def slices_IndexFunc_api_State_api_State_j1 (ro : Ro) (K : KV) : Env → T Obj → Nat → Prop := fun e h nx => ∃ h1, Sub h1 h ∧ K (Value.int IntKind.i64 (-1)) h1 (nx + 1)
@[irreducible] def slices_IndexFunc_api_State_api_State_L1 (ro : Ro) : PT := fun e h nx Q => bindP (intB .lss (e 8) (e 7)) fun t9_3 => condP t9_3 (bindP (ixSl 4 (e 0) (e 8)) fun t14_4 => bindP (loadA ro h 4 t14_4) fun t15_5 => callF (callP Tryz.prog ro) (e 1) [t15_5] h (nx + 9) fun t16_6 h7 n8 => condP t16_6 (Q .ret (puts e [(9, t9_3), (10, (e 8)), (5, (e 8)), (11, (e 1)), (12, (e 0)), (13, (e 8)), (14, t14_4), (15, t15_5), (16, t16_6), (17, (e 8)), (4, (e 8))]) h7 (n8 + 2)) (bindP (intB .add (e 8) (Value.int IntKind.i64 1)) fun t18_9 => Q .normal (puts e [(9, t9_3), (10, (e 8)), (5, (e 8)), (11, (e 1)), (12, (e 0)), (13, (e 8)), (14, t14_4), (15, t15_5), (16, t16_6), (18, t18_9), (8, t18_9)]) h7 (n8 + 2))) (Q (.exit 0) (puts e [(9, t9_3)]) h (nx + 1))
@[irreducible] def slices_IndexFunc_api_State_api_State (ro : Ro) (v0 v1 : Value) (h : T Obj) (nx : Nat) (K : KV) : Prop := bindP (lenSl v0) fun t7_2 => loopP (slices_IndexFunc_api_State_api_State_L1 ro) (puts (entE [v0, v1]) [(4, (Value.int IntKind.i64 0)), (6, v0), (7, t7_2), (8, (Value.int IntKind.i64 0))]) h (nx + 4) fun x13 e10 h11 n12 => exP x13 (slices_IndexFunc_api_State_api_State_j1 ro K e10 h11 n12) (fun i14 => beqP (Nat.beq i14 0) (slices_IndexFunc_api_State_api_State_j1 ro K e10 h11 n12) (False)) (∃ h15, Sub h15 h11 ∧ K (e10 4) h15 n12)
theorem slices_IndexFunc_api_State_api_State_eq (ro : Ro) (v0 v1 : Value) (h : T Obj) (nx : Nat) (K : KV) : callPre Tryz.prog ro (callP Tryz.prog ro) Tryz.f122 [v0, v1] h nx K = slices_IndexFunc_api_State_api_State ro v0 v1 h nx K := by kernel_rfl
theorem slices_IndexFunc_api_State_api_State_of {ro : Ro} {v0 v1 : Value} {h : T Obj} {nx : Nat} {K : KV} (hw : slices_IndexFunc_api_State_api_State ro v0 v1 h nx K) : callP Tryz.prog ro i_slices_IndexFunc_api_State_api_State [v0, v1] h nx K := callP_by (P := Tryz.prog) (fn := Tryz.f122) (by kernel_rfl) (by kernel_rfl) (by kernel_rfl) (Eq.mpr (slices_IndexFunc_api_State_api_State_eq ro v0 v1 h nx K) hw)
@[irreducible] def auto_Codes_j1 (ro : Ro) (K : KV) : Env → T Obj → Nat → Prop := fun e h nx => ∃ h13, Sub h13 h ∧ K (e 3) h13 (nx + 2)
@[irreducible] def auto_Codes_L1 (ro : Ro) : PT := fun e h nx Q => bindP (intB .lss (e 11) (e 10)) fun t12_14 => condP t12_14 (bindP (intB .mul (e 3) (Value.int IntKind.i64 3)) fun t14_15 => bindP (intB .add (e 11) (Value.int IntKind.i64 1)) fun t15_16 => Q .normal (puts e [(12, t12_14), (13, (e 3)), (14, t14_15), (3, t14_15), (15, t15_16), (11, t15_16)]) h (nx + 6)) (Q (.exit 0) (puts e [(12, t12_14)]) h (nx + 1))
@[irreducible] def auto_Codes (ro : Ro) (v0 : Value) (h : T Obj) (nx : Nat) (K : KV) : Prop := bindP (intB .lss v0 (Value.int IntKind.i64 0)) fun t5_1 => ifP t5_1 false h (nx + 4) (fun k2 => k2 v0 h (nx + 5)) fun t7_3 h4 n5 => ifP t5_1 false h4 n5 (fun k6 => bindP (intB .gtr t7_3 (Value.int IntKind.i64 3)) fun t8_10 => k6 t8_10 h4 (n5 + 1)) fun t8_7 h8 n9 => bindP (pickV t5_1 (Value.bool true) t8_7) fun t9_11 => condP t9_11 (∃ h12, Sub h12 h8 ∧ K (Value.int IntKind.i64 0) h12 (n9 + 2)) (loopP (auto_Codes_L1 ro) (puts (entE [v0]) [(2, (Value.int IntKind.i64 0)), (4, v0), (5, t5_1), (6, t5_1), (7, t7_3), (8, t8_7), (9, t9_11), (3, (Value.int IntKind.i64 1)), (10, v0), (11, (Value.int IntKind.i64 0))]) h8 (n9 + 4) fun x20 e17 h18 n19 => exP x20 (auto_Codes_j1 ro K e17 h18 n19) (fun i21 => beqP (Nat.beq i21 0) (auto_Codes_j1 ro K e17 h18 n19) (False)) (∃ h22, Sub h22 h18 ∧ K (e17 2) h22 n19))
theorem auto_Codes_eq (ro : Ro) (v0 : Value) (h : T Obj) (nx : Nat) (K : KV) : callPre Tryz.prog ro (callP Tryz.prog ro) Tryz.f123 [v0] h nx K = auto_Codes ro v0 h nx K := by kernel_rfl
theorem auto_Codes_of {ro : Ro} {v0 : Value} {h : T Obj} {nx : Nat} {K : KV} (hw : auto_Codes ro v0 h nx K) : callP Tryz.prog ro i_auto_Codes [v0] h nx K := callP_by (P := Tryz.prog) (fn := Tryz.f123) (by kernel_rfl) (by kernel_rfl) (by kernel_rfl) (Eq.mpr (auto_Codes_eq ro v0 h nx K) hw)
@[irreducible] def auto_rises_j1 (ro : Ro) (K : KV) : Env → T Obj → Nat → Prop := fun e h nx => ∃ h1, Sub h1 h ∧ K (Value.bool true) h1 (nx + 1)
@[irreducible] def auto_rises_L1 (ro : Ro) : PT := fun e h nx Q => bindP (intB .lss (e 10) (e 9)) fun t11_3 => condP t11_3 (bindP (ixSl 1 (e 8) (e 10)) fun t12_4 => bindP (load1 ro h t12_4) fun t13_5 => bindP (intB .leq t13_5 (e 5)) fun t16_6 => ifP t16_6 false h (nx + 8) (fun k7 => k7 t13_5 h (nx + 9)) fun t18_8 h9 n10 => ifP t16_6 false h9 n10 (fun k11 => k11 (e 1) h9 (n10 + 1)) fun t19_12 h13 n14 => ifP t16_6 false h13 n14 (fun k15 => bindP (intB .geq t18_8 t19_12) fun t20_19 => k15 t20_19 h13 (n14 + 1)) fun t20_16 h17 n18 => bindP (pickV t16_6 (Value.bool true) t20_16) fun t21_20 => condP t21_20 (Q .ret (puts e [(11, t11_3), (12, t12_4), (13, t13_5), (7, t13_5), (14, t13_5), (15, (e 5)), (16, t16_6), (17, t16_6), (18, t18_8), (19, t19_12), (20, t20_16), (21, t21_20), (4, (Value.bool false))]) h17 (n18 + 2)) (bindP (intB .add (e 10) (Value.int IntKind.i64 1)) fun t23_21 => Q .normal (puts e [(11, t11_3), (12, t12_4), (13, t13_5), (7, t13_5), (14, t13_5), (15, (e 5)), (16, t16_6), (17, t16_6), (18, t18_8), (19, t19_12), (20, t20_16), (21, t21_20), (22, t13_5), (5, t13_5), (23, t23_21), (10, t23_21)]) h17 (n18 + 5))) (Q (.exit 0) (puts e [(11, t11_3)]) h (nx + 1))
@[irreducible] def auto_rises (ro : Ro) (v0 v1 : Value) (h : T Obj) (nx : Nat) (K : KV) : Prop := bindP (lenSl v0) fun t9_2 => loopP (auto_rises_L1 ro) (puts (entE [v0, v1]) [(4, (Value.bool false)), (5, (Value.int IntKind.i64 (-1))), (8, v0), (9, t9_2), (10, (Value.int IntKind.i64 0))]) h (nx + 5) fun x25 e22 h23 n24 => exP x25 (auto_rises_j1 ro K e22 h23 n24) (fun i26 => beqP (Nat.beq i26 0) (auto_rises_j1 ro K e22 h23 n24) (False)) (∃ h27, Sub h27 h23 ∧ K (e22 4) h27 n24)
theorem auto_rises_eq (ro : Ro) (v0 v1 : Value) (h : T Obj) (nx : Nat) (K : KV) : callPre Tryz.prog ro (callP Tryz.prog ro) Tryz.f124 [v0, v1] h nx K = auto_rises ro v0 v1 h nx K := by kernel_rfl
theorem auto_rises_of {ro : Ro} {v0 v1 : Value} {h : T Obj} {nx : Nat} {K : KV} (hw : auto_rises ro v0 v1 h nx K) : callP Tryz.prog ro i_auto_rises [v0, v1] h nx K := callP_by (P := Tryz.prog) (fn := Tryz.f124) (by kernel_rfl) (by kernel_rfl) (by kernel_rfl) (Eq.mpr (auto_rises_eq ro v0 v1 h nx K) hw)
@[irreducible] def slices_ContainsFunc_api_Move_api_Move (ro : Ro) (v0 v1 : Value) (h : T Obj) (nx : Nat) (K : KV) : Prop := callP Tryz.prog ro i_slices_IndexFunc_api_Move_api_Move [v0, v1] h (nx + 4) fun t7_1 h2 n3 => bindP (intB .geq t7_1 (Value.int IntKind.i64 0)) fun t8_4 => ∃ h5, Sub h5 h2 ∧ K t8_4 h5 (n3 + 2)
theorem slices_ContainsFunc_api_Move_api_Move_eq (ro : Ro) (v0 v1 : Value) (h : T Obj) (nx : Nat) (K : KV) : callPre Tryz.prog ro (callP Tryz.prog ro) Tryz.f125 [v0, v1] h nx K = slices_ContainsFunc_api_Move_api_Move ro v0 v1 h nx K := by kernel_rfl
theorem slices_ContainsFunc_api_Move_api_Move_of {ro : Ro} {v0 v1 : Value} {h : T Obj} {nx : Nat} {K : KV} (hw : slices_ContainsFunc_api_Move_api_Move ro v0 v1 h nx K) : callP Tryz.prog ro i_slices_ContainsFunc_api_Move_api_Move [v0, v1] h nx K := callP_by (P := Tryz.prog) (fn := Tryz.f125) (by kernel_rfl) (by kernel_rfl) (by kernel_rfl) (Eq.mpr (slices_ContainsFunc_api_Move_api_Move_eq ro v0 v1 h nx K) hw)
@[irreducible] def auto_checker_state_1 (ro : Ro) (v0 v1 v2 : Value) (h : T Obj) (nx : Nat) (K : KV) : Prop := newP h nx (.cells (Value.cells v0) y_api_Move) fun h1 => bindP (loadA ro h1 259 v1) fun t5_2 => bindP (loadA ro h1 4 v2) fun t6_3 => bindP (loadA ro h1 2 (ptr nx)) fun t7_4 => callP Tryz.prog ro i_auto_checker_move [t5_2, t6_3, t7_4] h1 (nx + 6) fun t8_5 h6 n7 => bindP (unV .not t8_5) fun t9_8 => ∃ h9, Sub h9 h6 ∧ K t9_8 h9 (n7 + 2)
theorem auto_checker_state_1_eq (ro : Ro) (v0 v1 v2 : Value) (h : T Obj) (nx : Nat) (K : KV) : callPre Tryz.prog ro (callP Tryz.prog ro) Tryz.f126 [v0, v1, v2] h nx K = auto_checker_state_1 ro v0 v1 v2 h nx K := by kernel_rfl
theorem auto_checker_state_1_of {ro : Ro} {v0 v1 v2 : Value} {h : T Obj} {nx : Nat} {K : KV} (hw : auto_checker_state_1 ro v0 v1 v2 h nx K) : callP Tryz.prog ro i_auto_checker_state_1 [v0, v1, v2] h nx K := callP_by (P := Tryz.prog) (fn := Tryz.f126) (by kernel_rfl) (by kernel_rfl) (by kernel_rfl) (Eq.mpr (auto_checker_state_1_eq ro v0 v1 v2 h nx K) hw)
@[irreducible] def auto_checker_move_j1 (ro : Ro) (K : KV) : Env → T Obj → Nat → Prop := fun e h nx => ∃ h118, Sub h118 h ∧ K (Value.bool true) h118 (nx + 1)
@[irreducible] def auto_checker_move_L1 (ro : Ro) : PT := fun e h nx Q => bindP (intB .lss (e 46) (e 45)) fun t47_122 => condP t47_122 (bindP (ixSl 1 (e 44) (e 46)) fun t49_123 => bindP (load1 ro h t49_123) fun t50_124 => bindP (intB .lss t50_124 (Value.int IntKind.u8 1)) fun t52_125 => ifP t52_125 false h (nx + 33) (fun k126 => k126 t50_124 h (nx + 33)) fun t54_127 h128 n129 => ifP t52_125 false h128 n129 (fun k130 => bindP (intB .gtr t54_127 (Value.int IntKind.u8 3)) fun t55_134 => k130 t55_134 h128 n129) fun t55_131 h132 n133 => bindP (pickV t52_125 (Value.bool true) t55_131) fun t56_135 => ifP t56_135 false h132 n133 (fun k136 => k136 t50_124 h132 n133) fun t58_137 h138 n139 => ifP t56_135 false h138 n139 (fun k140 => bindP (intB .neq t58_137 (Value.int IntKind.u8 3)) fun t59_144 => k140 t59_144 h138 n139) fun t59_141 h142 n143 => ifP t56_135 false h142 n143 (fun k145 => k145 t59_141 h142 n143) fun t60_146 h147 n148 => ifP t60_146 true h147 n148 (fun k149 => bindP (fwdP 1 (e 4)) fun t61_153 => k149 t61_153 h147 n148) fun t61_150 h151 n152 => ifP t60_146 true h151 n152 (fun k154 => bindP (load1 ro h151 t61_150) fun t62_158 => k154 t62_158 h151 n152) fun t62_155 h156 n157 => ifP t60_146 true h156 n157 (fun k159 => bindP (fwdP 0 (e 3)) fun t63_163 => k159 t63_163 h156 n157) fun t63_160 h161 n162 => ifP t60_146 true h161 n162 (fun k164 => bindP (fwdP 258 t63_160) fun t64_168 => k164 t64_168 h161 n162) fun t64_165 h166 n167 => ifP t60_146 true h166 n167 (fun k169 => bindP (load1 ro h166 t64_165) fun t65_173 => k169 t65_173 h166 n167) fun t65_170 h171 n172 => ifP t60_146 true h171 n172 (fun k174 => bindP (fwdP 0 (e 5)) fun t66_178 => k174 t66_178 h171 n172) fun t66_175 h176 n177 => ifP t60_146 true h176 n177 (fun k179 => bindP (load1 ro h176 t66_175) fun t67_183 => k179 t67_183 h176 n177) fun t67_180 h181 n182 => ifP t60_146 true h181 n182 (fun k184 => bindP (ixSl 4 t65_170 t67_180) fun t68_188 => k184 t68_188 h181 n182) fun t68_185 h186 n187 => ifP t60_146 true h186 n187 (fun k189 => bindP (fwdP 1 t68_185) fun t69_193 => k189 t69_193 h186 n187) fun t69_190 h191 n192 => ifP t60_146 true h191 n192 (fun k194 => bindP (load1 ro h191 t69_190) fun t70_198 => k194 t70_198 h191 n192) fun t70_195 h196 n197 => ifP t60_146 true h196 n197 (fun k199 => k199 (e 46) h196 n197) fun t71_200 h201 n202 => ifP t60_146 true h201 n202 (fun k203 => bindP (ixSl 1 t70_195 t71_200) fun t72_207 => k203 t72_207 h201 n202) fun t72_204 h205 n206 => ifP t60_146 true h205 n206 (fun k208 => bindP (load1 ro h205 t72_204) fun t73_212 => k208 t73_212 h205 n206) fun t73_209 h210 n211 => ifP t60_146 true h210 n211 (fun k213 => callP Tryz.prog ro i_slices_Contains_int_int [t62_155, t73_209] h210 n211 fun t74_217 h218 n219 => k213 t74_217 h218 n219) fun t74_214 h215 n216 => ifP t60_146 true h215 n216 (fun k220 => bindP (unV .not t74_214) fun t75_224 => k220 t75_224 h215 n216) fun t75_221 h222 n223 => ifP t56_135 false h222 n223 (fun k225 => bindP (pickV t60_146 t75_221 (Value.bool false)) fun t76_229 => k225 t76_229 h222 n223) fun t76_226 h227 n228 => bindP (pickV t56_135 (Value.bool true) t76_226) fun t77_230 => condP t77_230 (Q .ret (puts e [(47, t47_122), (48, (e 46)), (49, t49_123), (50, t50_124), (7, (e 46)), (8, t50_124), (51, t50_124), (52, t52_125), (53, t52_125), (54, t54_127), (55, t55_131), (56, t56_135), (57, t56_135), (58, t58_137), (59, t59_141), (60, t60_146), (61, t61_150), (62, t62_155), (63, t63_160), (64, t64_165), (65, t65_170), (66, t66_175), (67, t67_180), (68, t68_185), (69, t69_190), (70, t70_195), (71, t71_200), (72, t72_204), (73, t73_209), (74, t74_214), (75, t75_221), (76, t76_226), (77, t77_230), (6, (Value.bool false))]) h227 (n228 + 1)) (bindP (intB .add (e 46) (Value.int IntKind.i64 1)) fun t78_231 => Q .normal (puts e [(47, t47_122), (48, (e 46)), (49, t49_123), (50, t50_124), (7, (e 46)), (8, t50_124), (51, t50_124), (52, t52_125), (53, t52_125), (54, t54_127), (55, t55_131), (56, t56_135), (57, t56_135), (58, t58_137), (59, t59_141), (60, t60_146), (61, t61_150), (62, t62_155), (63, t63_160), (64, t64_165), (65, t65_170), (66, t66_175), (67, t67_180), (68, t68_185), (69, t69_190), (70, t70_195), (71, t71_200), (72, t72_204), (73, t73_209), (74, t74_214), (75, t75_221), (76, t76_226), (77, t77_230), (78, t78_231), (46, t78_231)]) h227 (n228 + 2))) (Q (.exit 0) (puts e [(47, t47_122)]) h (nx + 1))
@[irreducible] def auto_checker_move (ro : Ro) (v0 v1 v2 : Value) (h : T Obj) (nx : Nat) (K : KV) : Prop := newP h nx (.cells (Value.cells v0) y_auto_checker) fun h1 => newP h1 (nx + 1) (.cells (Value.cells v1) y_api_State) fun h2 => newP h2 (nx + 2) (.cells (Value.cells v2) y_api_Move) fun h3 => bindP (fwdP 0 (ptr (nx + 2))) fun t9_4 => bindP (load1 ro h3 t9_4) fun t10_5 => bindP (intB .eql t10_5 (Value.int IntKind.i64 (-1))) fun t11_6 => condP t11_6 (bindP (fwdP 1 (ptr (nx + 2))) fun t12_7 => bindP (load1 ro h3 t12_7) fun t13_8 => bindP (lenSl t13_8) fun t14_9 => bindP (intB .eql t14_9 (Value.int IntKind.i64 0)) fun t15_10 => ∃ h11, Sub h11 h3 ∧ K t15_10 h11 (nx + 12)) (bindP (fwdP 0 (ptr (nx + 2))) fun t16_12 => bindP (load1 ro h3 t16_12) fun t17_13 => bindP (intB .lss t17_13 (Value.int IntKind.i64 1)) fun t18_14 => ifP t18_14 false h3 (nx + 34) (fun k15 => bindP (fwdP 0 (ptr (nx + 2))) fun t20_19 => k15 t20_19 h3 (nx + 34)) fun t20_16 h17 n18 => ifP t18_14 false h17 n18 (fun k20 => bindP (load1 ro h17 t20_16) fun t21_24 => k20 t21_24 h17 n18) fun t21_21 h22 n23 => ifP t18_14 false h22 n23 (fun k25 => bindP (fwdP 0 (ptr nx)) fun t22_29 => k25 t22_29 h22 n23) fun t22_26 h27 n28 => ifP t18_14 false h27 n28 (fun k30 => bindP (fwdP 258 t22_26) fun t23_34 => k30 t23_34 h27 n28) fun t23_31 h32 n33 => ifP t18_14 false h32 n33 (fun k35 => bindP (load1 ro h32 t23_31) fun t24_39 => k35 t24_39 h32 n33) fun t24_36 h37 n38 => ifP t18_14 false h37 n38 (fun k40 => bindP (lenSl t24_36) fun t25_44 => k40 t25_44 h37 n38) fun t25_41 h42 n43 => ifP t18_14 false h42 n43 (fun k45 => bindP (intB .geq t21_21 t25_41) fun t26_49 => k45 t26_49 h42 n43) fun t26_46 h47 n48 => bindP (pickV t18_14 (Value.bool true) t26_46) fun t27_50 => ifP t27_50 false h47 n48 (fun k51 => bindP (fwdP 1 (ptr (nx + 2))) fun t29_55 => k51 t29_55 h47 n48) fun t29_52 h53 n54 => ifP t27_50 false h53 n54 (fun k56 => bindP (load1 ro h53 t29_52) fun t30_60 => k56 t30_60 h53 n54) fun t30_57 h58 n59 => ifP t27_50 false h58 n59 (fun k61 => bindP (lenSl t30_57) fun t31_65 => k61 t31_65 h58 n59) fun t31_62 h63 n64 => ifP t27_50 false h63 n64 (fun k66 => bindP (fwdP 0 (ptr nx)) fun t32_70 => k66 t32_70 h63 n64) fun t32_67 h68 n69 => ifP t27_50 false h68 n69 (fun k71 => bindP (fwdP 258 t32_67) fun t33_75 => k71 t33_75 h68 n69) fun t33_72 h73 n74 => ifP t27_50 false h73 n74 (fun k76 => bindP (load1 ro h73 t33_72) fun t34_80 => k76 t34_80 h73 n74) fun t34_77 h78 n79 => ifP t27_50 false h78 n79 (fun k81 => bindP (fwdP 0 (ptr (nx + 2))) fun t35_85 => k81 t35_85 h78 n79) fun t35_82 h83 n84 => ifP t27_50 false h83 n84 (fun k86 => bindP (load1 ro h83 t35_82) fun t36_90 => k86 t36_90 h83 n84) fun t36_87 h88 n89 => ifP t27_50 false h88 n89 (fun k91 => bindP (ixSl 4 t34_77 t36_87) fun t37_95 => k91 t37_95 h88 n89) fun t37_92 h93 n94 => ifP t27_50 false h93 n94 (fun k96 => bindP (fwdP 1 t37_92) fun t38_100 => k96 t38_100 h93 n94) fun t38_97 h98 n99 => ifP t27_50 false h98 n99 (fun k101 => bindP (load1 ro h98 t38_97) fun t39_105 => k101 t39_105 h98 n99) fun t39_102 h103 n104 => ifP t27_50 false h103 n104 (fun k106 => bindP (lenSl t39_102) fun t40_110 => k106 t40_110 h103 n104) fun t40_107 h108 n109 => ifP t27_50 false h108 n109 (fun k111 => bindP (intB .neq t31_62 t40_107) fun t41_115 => k111 t41_115 h108 n109) fun t41_112 h113 n114 => bindP (pickV t27_50 (Value.bool true) t41_112) fun t42_116 => condP t42_116 (∃ h117, Sub h117 h113 ∧ K (Value.bool false) h117 (n114 + 1)) (bindP (fwdP 1 (ptr (nx + 2))) fun t43_119 => bindP (load1 ro h113 t43_119) fun t44_120 => bindP (lenSl t44_120) fun t45_121 => loopP (auto_checker_move_L1 ro) (puts (entE [v0, v1, v2]) [(3, (ptr nx)), (4, (ptr (nx + 1))), (5, (ptr (nx + 2))), (6, (Value.bool false)), (9, t9_4), (10, t10_5), (11, t11_6), (16, t16_12), (17, t17_13), (18, t18_14), (19, t18_14), (20, t20_16), (21, t21_21), (22, t22_26), (23, t23_31), (24, t24_36), (25, t25_41), (26, t26_46), (27, t27_50), (28, t27_50), (29, t29_52), (30, t30_57), (31, t31_62), (32, t32_67), (33, t33_72), (34, t34_77), (35, t35_82), (36, t36_87), (37, t37_92), (38, t38_97), (39, t39_102), (40, t40_107), (41, t41_112), (42, t42_116), (43, t43_119), (44, t44_120), (45, t45_121), (46, (Value.int IntKind.i64 0))]) h113 (n114 + 4) fun x235 e232 h233 n234 => exP x235 (auto_checker_move_j1 ro K e232 h233 n234) (fun i236 => beqP (Nat.beq i236 0) (auto_checker_move_j1 ro K e232 h233 n234) (False)) (∃ h237, Sub h237 h233 ∧ K (e232 6) h237 n234)))
theorem auto_checker_move_eq (ro : Ro) (v0 v1 v2 : Value) (h : T Obj) (nx : Nat) (K : KV) : callPre Tryz.prog ro (callP Tryz.prog ro) Tryz.f127 [v0, v1, v2] h nx K = auto_checker_move ro v0 v1 v2 h nx K := by kernel_rfl
theorem auto_checker_move_of {ro : Ro} {v0 v1 v2 : Value} {h : T Obj} {nx : Nat} {K : KV} (hw : auto_checker_move ro v0 v1 v2 h nx K) : callP Tryz.prog ro i_auto_checker_move [v0, v1, v2] h nx K := callP_by (P := Tryz.prog) (fn := Tryz.f127) (by kernel_rfl) (by kernel_rfl) (by kernel_rfl) (Eq.mpr (auto_checker_move_eq ro v0 v1 v2 h nx K) hw)
@[irreducible] def ref01_Of_j1 (ro : Ro) (K : KV) : Env → T Obj → Nat → Prop := fun e h nx => bindP (loadA ro h 4 (e 3)) fun t18_7 => bindP (storeN 4 h (e 2) t18_7) fun h8 => bindP (loadA ro h8 4 (e 2)) fun r9 => ∃ h10, Sub h10 h8 ∧ K r9 h10 (nx + 2)
@[irreducible] def ref01_Of_L1 (ro : Ro) : PT := fun e h nx Q => bindP (lenSl (e 0)) fun t8_11 => bindP (intB .lss (e 4) t8_11) fun t9_12 => condP t9_12 (bindP (loadA ro h 4 (e 3)) fun t12_13 => bindP (ixSl 1 (e 0) (e 4)) fun t15_14 => bindP (load1 ro h t15_14) fun t16_15 => callP Tryz.prog ro i_ref01_with [t12_13, t16_15] h (nx + 11) fun t17_16 h17 n18 => bindP (storeN 4 h17 (e 3) t17_16) fun h19 => bindP (intB .add (e 4) (Value.int IntKind.i64 1)) fun t11_20 => Q .normal (puts e [(6, (e 4)), (7, (e 0)), (8, t8_11), (9, t9_12), (12, t12_13), (13, (e 0)), (14, (e 4)), (15, t15_14), (16, t16_15), (17, t17_16), (10, (e 4)), (11, t11_20), (4, t11_20)]) h19 (n18 + 3)) (Q (.exit 0) (puts e [(6, (e 4)), (7, (e 0)), (8, t8_11), (9, t9_12)]) h (nx + 4))
@[irreducible] def ref01_Of (ro : Ro) (v0 : Value) (h : T Obj) (nx : Nat) (K : KV) : Prop := bindP (zer Tryz.prog y_api_Set) fun z1 => newP h nx (.cells z1.cells y_api_Set) fun h2 => bindP (buildV Tryz.prog y_api_Set []) fun t5_3 => bindP (zer Tryz.prog y_api_Set) fun z4 => newP h2 (nx + 2) (.cells z4.cells y_api_Set) fun h5 => bindP (storeN 4 h5 (ptr (nx + 2)) t5_3) fun h6 => loopP (ref01_Of_L1 ro) (puts (entE [v0]) [(2, (ptr nx)), (5, t5_3), (3, (ptr (nx + 2))), (4, (Value.int IntKind.i64 0))]) h6 (nx + 5) fun x24 e21 h22 n23 => exP x24 (ref01_Of_j1 ro K e21 h22 n23) (fun i25 => beqP (Nat.beq i25 0) (ref01_Of_j1 ro K e21 h22 n23) (False)) (bindP (loadA ro h22 4 (e21 2)) fun r26 => ∃ h27, Sub h27 h22 ∧ K r26 h27 n23)
theorem ref01_Of_eq (ro : Ro) (v0 : Value) (h : T Obj) (nx : Nat) (K : KV) : callPre Tryz.prog ro (callP Tryz.prog ro) Tryz.f140 [v0] h nx K = ref01_Of ro v0 h nx K := by kernel_rfl
theorem ref01_Of_of {ro : Ro} {v0 : Value} {h : T Obj} {nx : Nat} {K : KV} (hw : ref01_Of ro v0 h nx K) : callP Tryz.prog ro i_ref01_Of [v0] h nx K := callP_by (P := Tryz.prog) (fn := Tryz.f140) (by kernel_rfl) (by kernel_rfl) (by kernel_rfl) (Eq.mpr (ref01_Of_eq ro v0 h nx K) hw)
@[irreducible] def slices_IndexFunc_api_Move_api_Move_j1 (ro : Ro) (K : KV) : Env → T Obj → Nat → Prop := fun e h nx => ∃ h1, Sub h1 h ∧ K (Value.int IntKind.i64 (-1)) h1 (nx + 1)
@[irreducible] def slices_IndexFunc_api_Move_api_Move_L1 (ro : Ro) : PT := fun e h nx Q => bindP (intB .lss (e 8) (e 7)) fun t9_3 => condP t9_3 (bindP (ixSl 2 (e 0) (e 8)) fun t14_4 => bindP (loadA ro h 2 t14_4) fun t15_5 => callF (callP Tryz.prog ro) (e 1) [t15_5] h (nx + 9) fun t16_6 h7 n8 => condP t16_6 (Q .ret (puts e [(9, t9_3), (10, (e 8)), (5, (e 8)), (11, (e 1)), (12, (e 0)), (13, (e 8)), (14, t14_4), (15, t15_5), (16, t16_6), (17, (e 8)), (4, (e 8))]) h7 (n8 + 2)) (bindP (intB .add (e 8) (Value.int IntKind.i64 1)) fun t18_9 => Q .normal (puts e [(9, t9_3), (10, (e 8)), (5, (e 8)), (11, (e 1)), (12, (e 0)), (13, (e 8)), (14, t14_4), (15, t15_5), (16, t16_6), (18, t18_9), (8, t18_9)]) h7 (n8 + 2))) (Q (.exit 0) (puts e [(9, t9_3)]) h (nx + 1))
@[irreducible] def slices_IndexFunc_api_Move_api_Move (ro : Ro) (v0 v1 : Value) (h : T Obj) (nx : Nat) (K : KV) : Prop := bindP (lenSl v0) fun t7_2 => loopP (slices_IndexFunc_api_Move_api_Move_L1 ro) (puts (entE [v0, v1]) [(4, (Value.int IntKind.i64 0)), (6, v0), (7, t7_2), (8, (Value.int IntKind.i64 0))]) h (nx + 4) fun x13 e10 h11 n12 => exP x13 (slices_IndexFunc_api_Move_api_Move_j1 ro K e10 h11 n12) (fun i14 => beqP (Nat.beq i14 0) (slices_IndexFunc_api_Move_api_Move_j1 ro K e10 h11 n12) (False)) (∃ h15, Sub h15 h11 ∧ K (e10 4) h15 n12)
theorem slices_IndexFunc_api_Move_api_Move_eq (ro : Ro) (v0 v1 : Value) (h : T Obj) (nx : Nat) (K : KV) : callPre Tryz.prog ro (callP Tryz.prog ro) Tryz.f141 [v0, v1] h nx K = slices_IndexFunc_api_Move_api_Move ro v0 v1 h nx K := by kernel_rfl
theorem slices_IndexFunc_api_Move_api_Move_of {ro : Ro} {v0 v1 : Value} {h : T Obj} {nx : Nat} {K : KV} (hw : slices_IndexFunc_api_Move_api_Move ro v0 v1 h nx K) : callP Tryz.prog ro i_slices_IndexFunc_api_Move_api_Move [v0, v1] h nx K := callP_by (P := Tryz.prog) (fn := Tryz.f141) (by kernel_rfl) (by kernel_rfl) (by kernel_rfl) (Eq.mpr (slices_IndexFunc_api_Move_api_Move_eq ro v0 v1 h nx K) hw)
@[irreducible] def ref01_with_j1 (ro : Ro) (K : KV) : Env → T Obj → Nat → Prop := fun e h nx => bindP (loadA ro h 4 (e 2)) fun t20_4 => bindP (storeN 4 h (e 4) t20_4) fun h5 => bindP (loadA ro h5 4 (e 4)) fun r6 => ∃ h7, Sub h7 h5 ∧ K r6 h7 (nx + 2)
@[irreducible] def ref01_with (ro : Ro) (v0 v1 : Value) (h : T Obj) (nx : Nat) (K : KV) : Prop := newP h nx (.cells (Value.cells v0) y_api_Set) fun h1 => bindP (zer Tryz.prog y_api_Set) fun z2 => newP h1 (nx + 1) (.cells z2.cells y_api_Set) fun h3 => bindP (loadA ro h3 4 (ptr nx)) fun t5_8 => callP Tryz.prog ro i_ref01_Has [t5_8, v1] h3 (nx + 5) fun t7_9 h10 n11 => bindP (unV .not t7_9) fun t8_12 => condP t8_12 (bindP (intB .quo v1 (Value.int IntKind.u8 64)) fun t10_13 => bindP (intB .quo v1 (Value.int IntKind.u8 64)) fun t12_14 => bindP (ixArr 4 1 (ptr nx) t12_14) fun t13_15 => bindP (load1 ro h10 t13_15) fun t14_16 => bindP (intB .rem v1 (Value.int IntKind.u8 64)) fun t16_17 => bindP (intB .shl (Value.int IntKind.u64 1) t16_17) fun t17_18 => bindP (intB .add t14_16 t17_18) fun t18_19 => bindP (ixArr 4 1 (ptr nx) t10_13) fun t19_20 => bindP (storeN 1 h10 t19_20 t18_19) fun h21 => ref01_with_j1 ro K (puts (entE [v0, v1]) [(2, (ptr nx)), (4, (ptr (nx + 1))), (5, t5_8), (6, v1), (7, t7_9), (8, t8_12), (9, v1), (10, t10_13), (11, v1), (12, t12_14), (13, t13_15), (14, t14_16), (15, v1), (16, t16_17), (17, t17_18), (18, t18_19), (19, t19_20)]) h21 (n11 + 13)) (ref01_with_j1 ro K (puts (entE [v0, v1]) [(2, (ptr nx)), (4, (ptr (nx + 1))), (5, t5_8), (6, v1), (7, t7_9), (8, t8_12)]) h10 (n11 + 1))
theorem ref01_with_eq (ro : Ro) (v0 v1 : Value) (h : T Obj) (nx : Nat) (K : KV) : callPre Tryz.prog ro (callP Tryz.prog ro) Tryz.f147 [v0, v1] h nx K = ref01_with ro v0 v1 h nx K := by kernel_rfl
theorem ref01_with_of {ro : Ro} {v0 v1 : Value} {h : T Obj} {nx : Nat} {K : KV} (hw : ref01_with ro v0 v1 h nx K) : callP Tryz.prog ro i_ref01_with [v0, v1] h nx K := callP_by (P := Tryz.prog) (fn := Tryz.f147) (by kernel_rfl) (by kernel_rfl) (by kernel_rfl) (Eq.mpr (ref01_with_eq ro v0 v1 h nx K) hw)
end V
end Go.Proofs.YtjndkdmkecpllaaGreat