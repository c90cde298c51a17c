/- Texts laid one behind the other: V3, W1, G.
   No condition. -/
import Derived.CheckFast
import Derived.Carry
import Derived.ProofKit
import Derived.SizedLaws
import Derived.JoinedCond
import Derived.Deep.Slices
import Derived.Test.YtepbdkfkfcckoaaProg
import Derived.KernelRfl
import Derived.Test.YtepbdkfkfcckoaaQO2
set_option linter.unusedVariables false
set_option linter.unusedSimpArgs false
set_option linter.unusedVariables false
set_option linter.unusedSimpArgs false
noncomputable section
namespace Go.Proofs.Ytepbdkfkfcckoaa
namespace V
abbrev Env := Nat → Value
def Env.put (e : Env) (d : Nat) (v : Value) : Env := fun i => match Nat.beq i d with
  | true => v
  | false => e i
def bindP {α : Type} (o : Option α) (K : α → Prop) : Prop := match o with
  | some a => K a
  | none => False
abbrev bindQ {α : Type} (o : Option α) (K : α → Prop) : Prop := match o with
  | some a => K a
  | none => False
abbrev evE (e : Env) : Operand → Option Value
  | .tmp i => some (e i)
  | .const v => match flat v with
    | true => some v
    | false => none
  | .global _ => none
  | .func f => some (.func (.func f) #[] #[])
abbrev evsE (e : Env) : List Operand → Option (List Value)
  | [] => some []
  | x :: r => (evE e x).bind fun v => (evsE e r).bind fun vs => some (v :: vs)
abbrev evoE (e : Env) : Option Operand → Option (Option Value)
  | none => some none
  | some x => (evE e x).bind fun v => some (some v)
abbrev evpE (e : Env) : List (Nat × Operand) → Option (List (Nat × Value))
  | [] => some []
  | x :: r => (evE e x.2).bind fun v => (evpE e r).bind fun vs => some ((x.1, v) :: vs)
def asP : Value → Option Addr
  | .pointer (some a) => some a
  | _ => none
def asAgg : Value → Option (Array Value)
  | .agg cs => some cs
  | _ => none
def load1 (ro : Ro) (h : T Obj) (v : Value) : Option Value := (asP v).bind fun a => match cellsAt ro h a 1 with
  | some [x] => some x
  | _ => none
def loadA (ro : Ro) (h : T Obj) (n : Nat) (v : Value) : Option Value := (asP v).bind fun a => (cellsAt ro h a n).bind fun l => some (.agg l.toArray)
def fwdP (k : Nat) (v : Value) : Option Value := (asP v).bind fun a => some (.pointer (some (fwd a k)))
def part1 (off : Nat) (v : Value) : Option Value := (asAgg v).bind fun cs => cs[off]?
def partA (n off : Nat) (v : Value) : Option Value := (asAgg v).bind fun cs => match Nat.ble (off + n) cs.size with
  | true => some (.agg ((cs.toList.drop off).take n).toArray)
  | false => none
def ixArr (n z : Nat) (x i : Value) : Option Value := (natV i).bind fun i => (asP x).bind fun a => match Nat.blt i n with
  | true => some (.pointer (some (fwd a (i * z))))
  | false => none
def ixSl (z : Nat) (x i : Value) : Option Value := (natV i).bind fun i => match x with
  | .slice (some a) len _ => match Nat.blt i len with
    | true => match a.spot with
      | none => some (.pointer (some (fwd a (i * z))))
      | some z' => match Nat.beq z z' with
        | true => some (.pointer (some (elt a (i * z))))
        | false => none
    | false => none
  | _ => none
def ixStr (x i : Value) : Option Value := (natV i).bind fun i => match x with
  | .string s => match s.data.toList[i]? with
    | some b => some (.int .u8 b.toNat)
    | none => none
  | _ => none
def ixA1 (n z : Nat) (x i : Value) : Option Value := (natV i).bind fun i => (asAgg x).bind fun cs => match Nat.blt i n with
  | true => cs[i * z]?
  | false => none
def ixAA (n z : Nat) (x i : Value) : Option Value := (natV i).bind fun i => (asAgg x).bind fun cs => match Nat.blt i n, Nat.ble (i * z + z) cs.size with
  | true, true => some (.agg ((cs.toList.drop (i * z)).take z).toArray)
  | _, _ => none
def intB (op : BinOp) (a b : Value) : Option Value := match a, b with
  | .int k x, .int k' y => match op with
    | .shl | .shr => shiftV op k x y
    | _ => match decide (k = k') with
      | true => intV op k x y
      | false => none
  | _, _ => none
def strB (op : BinOp) (a b : Value) : Option Value := match a, b with
  | .string x, .string y => strV op x y
  | _, _ => none
def boolB (op : BinOp) (a b : Value) : Option Value := match op, a, b with
  | .eql, .bool x, .bool y => some (.bool (x == y))
  | .neq, .bool x, .bool y => some (.bool (!(x == y)))
  | _, _, _ => none
def aggB (ks : List Nat) (op : BinOp) (a b : Value) : Option Value := match a, b with
  | .agg xs, .agg ys => match op with
    | .eql => (eqCells ks xs.toList ys.toList).bind fun b => some (.bool b)
    | .neq => (eqCells ks xs.toList ys.toList).bind fun b => some (.bool (!b))
    | _ => none
  | _, _ => none
def ptrB (op : BinOp) (a b : Value) : Option Value := match op, a, b with
  | .eql, .pointer none, .pointer y => some (.bool y.isNone)
  | .eql, .pointer x, .pointer none => some (.bool x.isNone)
  | .neq, .pointer none, .pointer y => some (.bool (!y.isNone))
  | .neq, .pointer x, .pointer none => some (.bool (!x.isNone))
  | _, _, _ => none
def slB (op : BinOp) (a b : Value) : Option Value := match op, a, b with
  | .eql, .slice none _ _, .slice y _ _ => some (.bool y.isNone)
  | .eql, .slice x _ _, .slice none _ _ => some (.bool x.isNone)
  | .neq, .slice none _ _, .slice y _ _ => some (.bool (!y.isNone))
  | .neq, .slice x _ _, .slice none _ _ => some (.bool (!x.isNone))
  | _, _, _ => none
def pickV (c a b : Value) : Option Value := match c with
  | .bool true => some a
  | .bool false => some b
  | _ => none
def nilCk : Value → Option Value
  | .pointer (some a) => some (.pointer (some a))
  | .func (.func f) a b => some (.func (.func f) a b)
  | _ => none
def convI (k : IntKind) : Value → Option Value
  | .int _ n => some (.int k (wr k n))
  | _ => none
def nth (i : Nat) : Value → Option Value
  | .tuple vs => vs[i]?
  | _ => none
def lenSl : Value → Option Value
  | .slice _ n _ => some (.int .i64 n)
  | _ => none
def lenStr : Value → Option Value
  | .string s => some (.int .i64 s.size)
  | _ => none
def ptr (id : Nat) : Value := .pointer (some (own id 0))
def storeN (n : Nat) (h : T Obj) (a v : Value) : Option (T Obj) := (asP a).bind fun a => match Nat.beq v.cells.size n with
  | true => storeAtV h a v.cells.toList
  | false => none
abbrev KV := Value → T Obj → Nat → Prop
abbrev CallP := FuncId → List Value → T Obj → Nat → KV → Prop
abbrev ptQ (P : Program) (ro : Ro) (e : Env) (h : T Obj) (aid : Nat) (op : Op) (K : Value → Option Obj → Prop) : Prop :=
  match op with
  | .move x | .assign x => bindQ (evE e x) fun v => K v none
  | .pick c a b => bindQ (evE e c) fun c => bindQ (evE e a) fun a => bindQ (evE e b) fun b => bindP (pickV c a b) fun v => K v none
  | .alloc ty => bindP (zer P ty) fun z => K (ptr aid) (some (.cells z.cells ty))
  | .box ty x => bindQ (evE e x) fun v => K (ptr aid) (some (.cells v.cells ty))
  | .build ty ps => bindQ (evpE e ps.toList) fun vs => bindP (buildV P ty vs) fun v => K v none
  | .buildSlice ty n ps => bindQ (evpE e ps.toList) fun vs => bindP (sliceLitV P ty aid n vs) fun r => K r.1 r.2
  | .load ty x => bindQ (evE e x) fun v => match isAgg P ty with
    | some true => bindQ (siz P ty) fun n => bindP (loadA ro h n v) fun u => K u none
    | some false => bindP (load1 ro h v) fun u => K u none
    | none => False
  | .nilCheck x => bindQ (evE e x) fun v => bindP (nilCk v) fun v => K v none
  | .binOp op ty x y _ => bindQ (evE e x) fun a => bindQ (evE e y) fun b => match und P ty with
    | some (.int _) => bindP (intB op a b) fun v => K v none
    | some .string => bindP (strB op a b) fun v => K v none
    | some .bool => bindP (boolB op a b) fun v => K v none
    | some (.pointer _) => bindP (ptrB op a b) fun v => K v none
    | some (.slice _) => bindP (slB op a b) fun v => K v none
    | some (.struct _) | some (.array _ _) => bindP (plainTy P 20 ty) fun ks => bindP (aggB ks op a b) fun v => K v none
    | _ => False
  | .unOp op _ x => bindQ (evE e x) fun a => bindP (unV op a) fun v => K v none
  | .convert s d x => bindQ (evE e x) fun v => match und P s, und P d with
    | some (.int _), some (.int k) => bindP (convI k v) fun v => K v none
    | _, _ => bindP (convV P ro h aid s d v) fun r => K r.1 r.2
  | .makeFunc (.func f) a b => bindQ (evsE e a.toList) fun a => bindQ (evsE e b.toList) fun b => K (.func (.func f) a.toArray b.toArray) none
  | .makeMap _ none => K (.map (some aid)) (some (.map #[] 0))
  | .makeSlice ty l c => bindQ (evE e l) fun l => bindQ (evE e c) fun c => bindP (makeV P ty aid l c) fun r => K r.1 r.2
  | .slice ty x lo hi mx => bindQ (evE e x) fun x => bindQ (evoE e lo) fun lo => bindQ (evoE e hi) fun hi => bindQ (evoE e mx) fun mx => bindP (sliceV P ty x lo hi mx) fun v => K v none
  | .fieldAddr s x f => bindQ (evE e x) fun v => bindQ (fldV P s f) fun f => bindQ (siz P f.type) fun n => match n with
    | 0 => False
    | _ + 1 => bindP (fwdP f.offset v) fun v => K v none
  | .field ty x f => bindQ (evE e x) fun v => bindQ (fldV P ty f) fun f => match isAgg P f.type with
    | some true => bindQ (siz P f.type) fun n => bindP (partA n f.offset v) fun v => K v none
    | some false => bindP (part1 f.offset v) fun v => K v none
    | none => False
  | .indexAddr ty x i => bindQ (evE e x) fun x => bindQ (evE e i) fun i => match und P ty with
    | some (.array n el) => bindQ (siz P el) fun z => bindP (ixArr n z x i) fun v => K v none
    | some (.slice el) => bindQ (siz P el) fun z => bindP (ixSl z x i) fun v => K v none
    | _ => False
  | .index ty x i => bindQ (evE e x) fun x => bindQ (evE e i) fun i => match und P ty with
    | some (.array n el) => bindQ (siz P el) fun z => match isAgg P el with
      | some true => bindP (ixAA n z x i) fun v => K v none
      | some false => bindP (ixA1 n z x i) fun v => K v none
      | none => False
    | some .string => bindP (ixStr x i) fun v => K v none
    | _ => False
  | .lookup ty x k ok => bindQ (evE e x) fun x => bindQ (evE e k) fun k => bindP (lookV P h ty x k ok) fun v => K v none
  | .extract x i => bindQ (evE e x) fun v => bindP (nth i v) fun v => K v none
  | .call { callee := .builtin b, args, argTypes } => bindQ (evsE e args.toList) fun vs => match b, vs, argTypes[0]? with
    | .len, [x], some ty => match und P ty with
      | some .string => bindP (lenStr x) fun v => K v none
      | some (.slice _) => bindP (lenSl x) fun v => K v none
      | _ => bindP (lenV P h ty x) fun v => K v none
    | _, _, _ => bindP (builtinQ P h b argTypes vs) fun v => K v none
  | _ => False
def callF (C : CallP) (f : Value) (vs : List Value) (h : T Obj) (nx : Nat) (K : KV) : Prop := match f with
  | .func (.func k) a b => C k (a.toList ++ vs ++ b.toList) h nx K
  | _ => False
abbrev ptL (P : Program) (ro : Ro) (C : CallP) (e : Env) (h : T Obj) (nx : Nat) (op : Op) (K : KV) : Prop :=
  match op with
  | .store ty a x => bindQ (evE e a) fun a => bindQ (evE e x) fun x => bindQ (siz P ty) fun n => bindP (storeN n h a x) fun h => K undef h nx
  | .mapUpdate ty m k x | .insert ty m k x => bindQ (evE e m) fun m => bindQ (evE e k) fun k => bindQ (evE e x) fun x => bindP (mapPutV P h ty m k x) fun h => K undef h nx
  | .call { callee := .builtin b, args, argTypes } => bindQ (evsE e args.toList) fun vs => match b with
    | .append => bindP (appendV P ro h nx argTypes vs) fun r => K r.1 r.2.1 r.2.2
    | .copy => bindP (copyV P ro h nx argTypes vs) fun r => K r.1 r.2.1 r.2.2
    | .clear => match vs, argTypes[0]? with
      | [m], some ty => bindP (und P ty) fun _ => bindP (clearV h m) fun h => K (.tuple #[]) h nx
      | _, _ => False
    | _ => False
  | .call { callee := .value f, args, .. } => bindQ (evE e f) fun f => bindQ (evsE e args.toList) fun vs => callF C f vs h nx K
  | .convert s d x => bindQ (evE e x) fun v => bindP (convSame P h s d v) fun r => K r.1 r.2 nx
  | _ => False
abbrev ptO (P : Program) (ro : Ro) (C : CallP) (e : Env) (h : T Obj) (nx aid : Nat) (op : Op) (K : KV) : Prop :=
  match loud op with
  | true => ptL P ro C e h nx op K
  | false => ptQ P ro e h aid op fun v ob => K v (addO h aid ob) nx
def ifP (v : Value) (w : Bool) (h : T Obj) (nx : Nat) (A : KV → Prop) (K : KV) : Prop := match v with
  | .bool b => match b == w with
    | true => A K
    | false => K undef h nx
  | _ => K undef h nx
abbrev Gd := Option (Value × Bool)
abbrev wrapG (g : Gd) (h : T Obj) (nx : Nat) (A : KV → Prop) (K : KV) : Prop := match g with
  | none => A K
  | some vw => ifP vw.1 vw.2 h nx A K
abbrev gdP (ops : Array Oper) (e : Env) (g : Option (Nat × Bool)) (K : Gd → Prop) : Prop := match g with
  | none => K none
  | some (j, w) => match (ops[j]?).bind (·.dst) with
    | some d => K (some (e d, w))
    | none => False
abbrev putP (n : Nat) (e : Env) (d : Option Tmp) (v : Value) (K : Env → Prop) : Prop := match d with
  | none => K e
  | some d => match Nat.blt d n with
    | true => K (e.put d v)
    | false => False
abbrev ptOps (P : Program) (ro : Ro) (C : CallP) (n : Nat) (ops : Array Oper) : List Oper → Env → T Obj → Nat → (Env → T Obj → Nat → Prop) → Prop
  | [], e, h, nx, Q => Q e h nx
  | o :: l, e, h, nx, Q => gdP ops e o.guard fun g => wrapG g h nx (fun K => ptO P ro C e h (nx + 1) nx o.op K) fun v h nx => putP n e o.dst v fun e => ptOps P ro C n ops l e h nx Q
def rdE (P : Program) (e : Env) : Op → Option Value
  | .load _ x => evE e x
  | .lookup _ x _ _ => evE e x
  | .convert s _ x => match und P s with
    | some (.slice _) => evE e x
    | _ => none
  | .call { callee := .builtin _, args, argTypes } => match (argTypes[0]?).bind (und P) with
    | some (.map _ _) => match evsE e args.toList with
      | some [v] => some v
      | _ => none
    | _ => none
  | _ => none
def sameV (v : Value) (h h' : T Obj) : Prop := match blk v with
  | some b => same b h h'
  | none => True
def onP (g : Gd) (X : Prop) : Prop := match g with
  | none => X
  | some vw => vw.1 = .bool vw.2 → X
def nthN : List Nat → Nat → Nat
  | [], _ => 0
  | x :: _, 0 => x
  | _ :: r, n + 1 => nthN r n
def freeL (b : List Nat) (i j : Nat) : Bool := !(nthN b j).testBit i
abbrev revK {α : Type} (K : List Nat → α) : List Nat → List Nat → α
  | [], o => K o
  | x :: r, o => revK K r (x :: o)
abbrev befK {α : Type} (K : List Nat → α) : List Oper → Nat → List Nat → α
  | [], _, acc => revK K acc []
  | o :: l, j, acc => CheckFast.force (CheckFast.one (fun i => if i < j then acc.getD (j - 1 - i) 0 else 0) o) fun v => befK K l (j + 1) (v :: acc)
def drawOkL (P : Program) (ops : Array Oper) (b : List Nat) : Bool :=
  (List.range ops.size).all fun j => match ops[j]? with
    | none => false
    | some oj => (oj.after.toList.all fun e => !Region.binds .any e || decide (e.on < j)) && (List.range j).all fun i => match ops[i]? with
      | none => false
      | some oi => match freeL b i j with
        | false => true
        | true => pairOk P ops oi oj
abbrev sameL (b : List Nat) (i : Nat) (h h' : T Obj) : List (Nat × Gd × Value) → Prop → Prop
  | [], K => K
  | q :: ls, K => match freeL b q.1 i with
    | true => onP q.2.1 (sameV q.2.2 h h') ∧ sameL b i h h' ls K
    | false => sameL b i h h' ls K
abbrev sameM (b : List Nat) (i : Nat) (v : Value) : List (Nat × Gd × T Obj × T Obj) → Prop → Prop
  | [], K => K
  | q :: ms, K => match freeL b q.1 i with
    | true => onP q.2.1 (sameV v q.2.2.1 q.2.2.2) ∧ sameM b i v ms K
    | false => sameM b i v ms K
abbrev ptD (P : Program) (ro : Ro) (C : CallP) (n : Nat) (ops : Array Oper) (b : List Nat) (n0 : Nat) : List Oper → Nat → List (Nat × Gd × Value) → List (Nat × Gd × T Obj × T Obj) → Env → T Obj → Nat → (Env → T Obj → Nat → Prop) → Prop
  | [], _, _, _, e, h, nx, Q => Q e h nx
  | o :: l, i, ls, ms, e, h, nx, Q => gdP ops e o.guard fun g => match loud o.op with
    | true => wrapG g h nx (fun K => ptO P ro C e h nx (n0 + i) o.op fun v h' nx' => sameL b i h h' ls (K v h' nx')) fun v h' nx' => putP n e o.dst v fun e => ptD P ro C n ops b n0 l (i + 1) ls ((i, g, h, h') :: ms) e h' nx' Q
    | false => match rdE P e o.op with
      | some a => wrapG g h nx (fun K => ptO P ro C e h nx (n0 + i) o.op fun v h' nx' => sameM b i a ms (K v h' nx')) fun v h' nx' => putP n e o.dst v fun e => ptD P ro C n ops b n0 l (i + 1) ((i, g, a) :: ls) ms e h' nx' Q
      | none => wrapG g h nx (fun K => ptO P ro C e h nx (n0 + i) o.op K) fun v h' nx' => putP n e o.dst v fun e => ptD P ro C n ops b n0 l (i + 1) ls ms e h' nx' Q
def exP (x : Ex) (A : Prop) (B : Nat → Prop) (D : Prop) : Prop := match x with
  | .normal => A
  | .exit i => B i
  | .ret => D
def beqP (b : Bool) (A B : Prop) : Prop := match b with
  | true => A
  | false => B
abbrev exQ (x : Ex) (A : Prop) (B : Nat → Prop) (D : Prop) : Prop := match x with
  | .normal => A
  | .exit i => B i
  | .ret => D
abbrev beqQ (b : Bool) (A B : Prop) : Prop := match b with
  | true => A
  | false => B
abbrev KE := Ex → Env → T Obj → Nat → Prop
abbrev PT := Env → T Obj → Nat → KE → Prop
def iterP (B : PT) : Nat → PT
  | 0 => fun _ _ _ _ => False
  | k + 1 => fun e h nx Q => B e h nx fun x e h nx => exP x (∃ h', Sub h' h ∧ iterP B k e h' nx Q) (fun i => Q (.exit i) e h nx) (Q .ret e h nx)
def loopP (B : PT) : PT := fun e h nx Q => ∃ k, iterP B k e h nx Q
def condP (v : Value) (A B : Prop) : Prop := match v with
  | .bool true => A
  | .bool false => B
  | _ => False
abbrev pt (P : Program) (ro : Ro) (C : CallP) (n : Nat) : Code → PT
  | .skip | .label _ => fun e h nx Q => Q .normal e h nx
  | .ret => fun e h nx Q => Q .ret e h nx
  | .exit id => fun e h nx Q => Q (.exit id) e h nx
  | .seq a b => fun e h nx Q => pt P ro C n a e h nx fun x e h nx => exQ x (pt P ro C n b e h nx Q) (fun i => Q (.exit i) e h nx) (Q .ret e h nx)
  | .cond c a b => fun e h nx Q => bindQ (evE e c) fun v => condP v (pt P ro C n a e h nx Q) (pt P ro C n b e h nx Q)
  | .block id b => fun e h nx Q => pt P ro C n b e h nx fun x e h nx => exQ x (Q .normal e h nx) (fun i => beqQ (Nat.beq i id) (Q .normal e h nx) (Q (.exit i) e h nx)) (Q .ret e h nx)
  | .loop b => loopP (pt P ro C n b)
  | .scope b => pt P ro C n b
  | .region _ ops draw => fun e h nx Q => match draw with
    | false => ptOps P ro C n ops ops.toList e h nx (Q .normal)
    | true => befK (fun b => match drawOkL P ops b with
      | true => ptD P ro C n ops b nx ops.toList 0 [] [] e h (nx + ops.size) (Q .normal)
      | false => False) ops.toList 0 []
  | _ => fun _ _ _ _ => False
abbrev resE (P : Program) (ro : Ro) (e : Env) (h : T Obj) : List ResultVar → (List Value → Prop) → Prop
  | [], K => K []
  | .tmp i :: r, K => resE P ro e h r fun vs => K (e i :: vs)
  | .cell a ty :: r, K => match isAgg P ty with
    | some true => bindQ (siz P ty) fun n => bindP (loadA ro h n (e a)) fun v => resE P ro e h r fun vs => K (v :: vs)
    | some false => bindP (load1 ro h (e a)) fun v => resE P ro e h r fun vs => K (v :: vs)
    | none => False
def entE (vs : List Value) : Env := fun i => (vs[i]?).getD undef
abbrev endP (P : Program) (ro : Ro) (rs : List ResultVar) (K : KV) : KE := fun x e h nx => exQ x (resE P ro e h rs fun vs => ∃ h', Sub h' h ∧ K (resOf vs) h' nx) (fun _ => False) (resE P ro e h rs fun vs => ∃ h', Sub h' h ∧ K (resOf vs) h' nx)
def newP (h : T Obj) (aid : Nat) (o : Obj) (K : T Obj → Prop) : Prop := K (h.upd aid (some o))
def optP (h : T Obj) (aid : Nat) (o : Option Obj) (K : T Obj → Prop) : Prop := K (addO h aid o)
def puts : Env → List (Nat × Value) → Env
  | e, [] => e
  | e, p :: l => puts (e.put p.1 p.2) l
def bodyOf (f : Func) : Code := f.body.getD .skip
def callPre (P : Program) (ro : Ro) (C : CallP) (f : Func) (vs : List Value) (h : T Obj) (nx : Nat) (K : KV) : Prop := pt P ro C f.ntmps (bodyOf f) (entE vs) h nx (endP P ro f.results.toList K)
def callP (P : Program) (ro : Ro) : CallP := fun f vs h nx K => ∃ k v h' nx', call P ro k f vs h nx v h' nx' ∧ K v h' nx'
end V
end Go.Proofs.Ytepbdkfkfcckoaa
set_option linter.unusedVariables false
set_option linter.unusedSimpArgs false
noncomputable section
namespace Go.Proofs.Ytepbdkfkfcckoaa
namespace V
theorem bindP_some {α : Type} {o : Option α} {K : α → Prop} (h : bindP o K) : ∃ a, o = some a ∧ K a := by
  cases o with
  | none => exact h.elim
  | some a => exact ⟨a, rfl, h⟩
def envOf (t : T Value) : Env := fun i => (t.get i).getD undef
section
variable {P : Program} {ro : Ro} {t : T Value} {hp : T Obj}
theorem evl_env (x : Operand) : evl t x = evE (envOf t) x := by cases x <;> rfl
theorem evlL_env : ∀ xs : List Operand, evlL t xs = evsE (envOf t) xs := by
  intro xs
  induction xs with
  | nil => rfl
  | cons x xs ih => simp only [evlL, evsE]; rw [evl_env, ih]
theorem evlO_env (x : Option Operand) : evlO t x = evoE (envOf t) x := by
  cases x with
  | none => rfl
  | some x => simp only [evlO, evoE]; rw [evl_env]
theorem evlP_env : ∀ xs : List (Nat × Operand), evlP t xs = evpE (envOf t) xs := by
  intro xs
  induction xs with
  | nil => rfl
  | cons x xs ih => simp only [evlP, evpE]; rw [evl_env, ih]
theorem envOf_upd (d : Nat) (v : Value) : envOf (t.upd d (some v)) = (envOf t).put d v := by
  funext i
  unfold envOf Env.put
  rw [T.get_upd]
  by_cases e : i = d
  · subst e; simp
  · rw [if_neg e]
    cases hb : Nat.beq i d with
    | true => exact absurd (Nat.eq_of_beq_eq_true hb) e
    | false => rfl
theorem asP_some {v : Value} {a : Addr} (h : asP v = some a) : v = .pointer (some a) := by
  unfold asP at h
  split at h
  · cases h; rfl
  · cases h
theorem asAgg_some {v : Value} {a : Array Value} (h : asAgg v = some a) : v = .agg a := by
  unfold asAgg at h
  split at h
  · cases h; rfl
  · cases h
theorem ptQ_sound {aid : Nat} {op : Op} {K : Value → Option Obj → Prop} (h : ptQ P ro (envOf t) hp aid op K) : ∃ v ob, opQ P ro t hp aid op = some (v, ob) ∧ K v ob := by
  cases op with
  | move x | assign x =>
    obtain ⟨v, h1, h2⟩ := bindP_some h
    exact ⟨v, none, by simp only [opQ]; rw [evl_env, h1]; rfl, h2⟩
  | pick c a b =>
    obtain ⟨c', h1, h⟩ := bindP_some h
    obtain ⟨a', h2, h⟩ := bindP_some h
    obtain ⟨b', h3, h⟩ := bindP_some h
    obtain ⟨v, h4, h⟩ := bindP_some h
    refine ⟨v, none, ?_, h⟩
    simp only [opQ]; rw [evl_env, evl_env, evl_env, h1, h2, h3]
    unfold pickV at h4
    split at h4 <;> cases h4 <;> rfl
  | alloc ty =>
    obtain ⟨z, h1, h⟩ := bindP_some h
    exact ⟨_, _, by simp only [opQ]; rw [h1]; rfl, h⟩
  | box ty x =>
    obtain ⟨v, h1, h⟩ := bindP_some h
    exact ⟨_, _, by simp only [opQ]; rw [evl_env, h1]; rfl, h⟩
  | build ty ps =>
    obtain ⟨vs, h1, h⟩ := bindP_some h
    obtain ⟨v, h2, h⟩ := bindP_some h
    exact ⟨_, _, by simp only [opQ]; rw [evlP_env, h1]; show (buildV P ty vs).bind _ = _; rw [h2]; rfl, h⟩
  | buildSlice ty n ps =>
    obtain ⟨vs, h1, h⟩ := bindP_some h
    obtain ⟨r, h2, h⟩ := bindP_some h
    exact ⟨r.1, r.2, by simp only [opQ]; rw [evlP_env, h1]; exact h2, h⟩
  | load ty x =>
    obtain ⟨v, h1, h⟩ := bindP_some h
    split at h
    · rename_i hagg
      obtain ⟨n, h2, h⟩ := bindP_some h
      obtain ⟨u, h3, h⟩ := bindP_some h
      obtain ⟨a, h4, h5⟩ := bind_some' h3
      refine ⟨u, none, ?_, h⟩
      simp only [opQ]; rw [evl_env, h1, asP_some h4]
      show (loadV P ro hp ty a).bind _ = _
      unfold loadV
      rw [hagg]
      show ((siz P ty).bind _).bind _ = _
      rw [h2]
      show ((cellsAt ro hp a n).bind _).bind _ = _
      rw [h5]; rfl
    · rename_i hagg
      obtain ⟨u, h3, h⟩ := bindP_some h
      obtain ⟨a, h4, h5⟩ := bind_some' h3
      refine ⟨u, none, ?_, h⟩
      simp only [opQ]; rw [evl_env, h1, asP_some h4]
      show (loadV P ro hp ty a).bind _ = _
      have : loadV P ro hp ty a = some u := by unfold loadV; rw [hagg]; exact h5
      rw [this]; rfl
    · exact h.elim
  | nilCheck x =>
    obtain ⟨v, h1, h⟩ := bindP_some h
    obtain ⟨u, h2, h⟩ := bindP_some h
    refine ⟨u, none, ?_, h⟩
    simp only [opQ]; rw [evl_env, h1]
    unfold nilCk at h2
    split at h2 <;> cases h2 <;> rfl
  | binOp op ty x y yt =>
    obtain ⟨a, h1, h⟩ := bindP_some h
    obtain ⟨b, h2, h⟩ := bindP_some h
    have key : ∃ v, binV P op ty a b = some v ∧ K v none := by
      split at h
      · obtain ⟨v, h3, h⟩ := bindP_some h
        refine ⟨v, ?_, h⟩
        unfold intB at h3
        split at h3
        · exact h3
        · cases h3
      · obtain ⟨v, h3, h⟩ := bindP_some h
        refine ⟨v, ?_, h⟩
        unfold strB at h3
        split at h3
        · exact h3
        · cases h3
      · rename_i hu
        obtain ⟨v, h3, h⟩ := bindP_some h
        refine ⟨v, ?_, h⟩
        unfold boolB at h3
        split at h3 <;> cases h3 <;> simp [binV, eqOpV, eqlV, hu, nilEq]
      · rename_i hu
        obtain ⟨v, h3, h⟩ := bindP_some h
        refine ⟨v, ?_, h⟩
        unfold ptrB at h3
        split at h3 <;> cases h3 <;> simp only [binV, eqOpV, eqlV, hu, nilEq, Option.bind] <;> (try rfl) <;> (cases ‹Option Addr› <;> rfl)
      · rename_i hu
        obtain ⟨v, h3, h⟩ := bindP_some h
        refine ⟨v, ?_, h⟩
        unfold slB at h3
        split at h3 <;> cases h3 <;> simp only [binV, eqOpV, eqlV, hu, nilEq, Option.bind] <;> (try rfl) <;> (cases ‹Option Addr› <;> rfl)
      · rename_i hu
        obtain ⟨ks, h3, h⟩ := bindP_some h
        obtain ⟨v, h4, h⟩ := bindP_some h
        refine ⟨v, ?_, h⟩
        have hagg : isAgg P ty = some true := by unfold isAgg; rw [hu]
        unfold aggB at h4
        split at h4
        · split at h4
          · simp only [binV, eqOpV, eqlV, hagg, h3]; exact h4
          · simp only [binV, eqOpV, eqlV, hagg, h3]; exact h4
          · cases h4
        · cases h4
      · rename_i hu
        obtain ⟨ks, h3, h⟩ := bindP_some h
        obtain ⟨v, h4, h⟩ := bindP_some h
        refine ⟨v, ?_, h⟩
        have hagg : isAgg P ty = some true := by unfold isAgg; rw [hu]
        unfold aggB at h4
        split at h4
        · split at h4
          · simp only [binV, eqOpV, eqlV, hagg, h3]; exact h4
          · simp only [binV, eqOpV, eqlV, hagg, h3]; exact h4
          · cases h4
        · cases h4
      · exact h.elim
    obtain ⟨v, h3, h⟩ := key
    exact ⟨v, none, by simp only [opQ]; rw [evl_env, evl_env, h1, h2]; show (binV P op ty a b).bind _ = _; rw [h3]; rfl, h⟩
  | unOp op ty x =>
    obtain ⟨a, h1, h⟩ := bindP_some h
    obtain ⟨v, h2, h⟩ := bindP_some h
    exact ⟨v, none, by simp only [opQ]; rw [evl_env, h1]; show (unV op a).bind _ = _; rw [h2]; rfl, h⟩
  | convert s d x =>
    obtain ⟨a, h1, h⟩ := bindP_some h
    have key : ∃ r, convV P ro hp aid s d a = some r ∧ K r.1 r.2 := by
      split at h
      · rename_i k1 k2 e1 e2
        obtain ⟨v, h2, h⟩ := bindP_some h
        refine ⟨(v, none), ?_, h⟩
        unfold convI at h2
        split at h2
        · cases h2; simp only [convV, e1, e2]
        · cases h2
      · exact bindP_some h
    obtain ⟨r, h2, h⟩ := key
    exact ⟨r.1, r.2, by simp only [opQ]; rw [evl_env, h1]; exact h2, h⟩
  | makeFunc fn a b =>
    cases fn with
    | func f =>
      obtain ⟨a', h1, h⟩ := bindP_some h
      obtain ⟨b', h2, h⟩ := bindP_some h
      exact ⟨_, _, by simp only [opQ]; rw [evlL_env, evlL_env, h1, h2]; rfl, h⟩
    | _ => exact h.elim
  | makeMap mt r =>
    cases r with
    | none => exact ⟨_, _, rfl, h⟩
    | some r => exact h.elim
  | makeSlice ty l c =>
    obtain ⟨l', h1, h⟩ := bindP_some h
    obtain ⟨c', h2, h⟩ := bindP_some h
    obtain ⟨r, h3, h⟩ := bindP_some h
    exact ⟨r.1, r.2, by simp only [opQ]; rw [evl_env, evl_env, h1, h2]; exact h3, h⟩
  | slice ty x lo hi mx =>
    obtain ⟨x', h1, h⟩ := bindP_some h
    obtain ⟨lo', h2, h⟩ := bindP_some h
    obtain ⟨hi', h3, h⟩ := bindP_some h
    obtain ⟨mx', h4, h⟩ := bindP_some h
    obtain ⟨v, h5, h⟩ := bindP_some h
    exact ⟨v, none, by simp only [opQ]; rw [evl_env, evlO_env, evlO_env, evlO_env, h1, h2, h3, h4]; show (sliceV P ty x' lo' hi' mx').bind _ = _; rw [h5]; rfl, h⟩
  | fieldAddr s x f =>
    obtain ⟨v, h1, h⟩ := bindP_some h
    obtain ⟨fd, h2, h⟩ := bindP_some h
    obtain ⟨n, h3, h⟩ := bindP_some h
    split at h
    · exact h.elim
    · obtain ⟨u, h4, h⟩ := bindP_some h
      obtain ⟨a, h5, h6⟩ := bind_some' h4
      cases h6
      refine ⟨_, none, ?_, h⟩
      simp only [opQ]; rw [evl_env, h1, asP_some h5]
      show (fldV P s f).bind _ = _
      rw [h2]
      show (siz P fd.type).bind _ = _
      rw [h3]; rfl
  | field ty x f =>
    obtain ⟨v, h1, h⟩ := bindP_some h
    obtain ⟨fd, h2, h⟩ := bindP_some h
    have key : ∃ cs u, v = .agg cs ∧ partV P fd.type cs fd.offset = some u ∧ K u none := by
      split at h
      · rename_i hagg
        obtain ⟨n, h3, h⟩ := bindP_some h
        obtain ⟨u, h4, h⟩ := bindP_some h
        obtain ⟨cs, h5, h6⟩ := bind_some' h4
        refine ⟨cs, u, asAgg_some h5, ?_, h⟩
        unfold partV; rw [hagg]; show (siz P fd.type).bind _ = _; rw [h3]; exact h6
      · rename_i hagg
        obtain ⟨u, h4, h⟩ := bindP_some h
        obtain ⟨cs, h5, h6⟩ := bind_some' h4
        refine ⟨cs, u, asAgg_some h5, ?_, h⟩
        unfold partV; rw [hagg]; exact h6
      · exact h.elim
    obtain ⟨cs, u, rfl, h3, h⟩ := key
    refine ⟨u, none, ?_, h⟩
    simp only [opQ]; rw [evl_env, h1]
    show (fldV P ty f).bind _ = _
    rw [h2]
    show (partV P fd.type cs fd.offset).bind _ = _
    rw [h3]; rfl
  | indexAddr ty x i =>
    obtain ⟨x', h1, h⟩ := bindP_some h
    obtain ⟨i', h2, h⟩ := bindP_some h
    have key : ∃ v, indexAddrV P ty x' i' = some v ∧ K v none := by
      split at h
      · rename_i hu
        obtain ⟨z, h3, h⟩ := bindP_some h
        obtain ⟨v, h4, h⟩ := bindP_some h
        refine ⟨v, ?_, h⟩
        obtain ⟨j, h5, h6⟩ := bind_some' h4
        obtain ⟨a, h7, h8⟩ := bind_some' h6
        cases asP_some h7
        unfold indexAddrV
        rw [h5]
        show (match und P ty, Value.pointer (some a) with | _, _ => _) = _
        simp only [hu]; rw [h3]; exact h8
      · rename_i hu
        obtain ⟨z, h3, h⟩ := bindP_some h
        obtain ⟨v, h4, h⟩ := bindP_some h
        refine ⟨v, ?_, h⟩
        obtain ⟨j, h5, h6⟩ := bind_some' h4
        unfold indexAddrV
        rw [h5]
        simp only [Option.bind, hu]
        split at h6
        · simp only [h3]; exact h6
        · cases h6
      · exact h.elim
    obtain ⟨v, h3, h⟩ := key
    exact ⟨v, none, by simp only [opQ]; rw [evl_env, evl_env, h1, h2]; show (indexAddrV P ty x' i').bind _ = _; rw [h3]; rfl, h⟩
  | index ty x i =>
    obtain ⟨x', h1, h⟩ := bindP_some h
    obtain ⟨i', h2, h⟩ := bindP_some h
    have key : ∃ v, indexV P ty x' i' = some v ∧ K v none := by
      split at h
      · rename_i el hu
        obtain ⟨z, h3, h⟩ := bindP_some h
        split at h
        · rename_i hagg
          obtain ⟨v, h4, h⟩ := bindP_some h
          refine ⟨v, ?_, h⟩
          obtain ⟨j, h5, h6⟩ := bind_some' h4
          obtain ⟨a, h7, h8⟩ := bind_some' h6
          cases asAgg_some h7
          unfold indexV
          rw [h5]
          simp only [Option.bind, hu, h3]
          split at h8
          · rename_i g1 g2
            rw [g1]; simp only [partV, hagg]; rw [h3]; simp only [Option.bind]; rw [g2]; exact h8
          · cases h8
        · rename_i hagg
          obtain ⟨v, h4, h⟩ := bindP_some h
          refine ⟨v, ?_, h⟩
          obtain ⟨j, h5, h6⟩ := bind_some' h4
          obtain ⟨a, h7, h8⟩ := bind_some' h6
          cases asAgg_some h7
          unfold indexV
          rw [h5]
          simp only [Option.bind, hu, h3]
          split at h8
          · rename_i g1
            rw [g1]; simp only [partV, hagg]; exact h8
          · cases h8
        · exact h.elim
      · rename_i hu
        obtain ⟨v, h4, h⟩ := bindP_some h
        refine ⟨v, ?_, h⟩
        obtain ⟨j, h5, h6⟩ := bind_some' h4
        unfold indexV
        rw [h5]
        simp only [Option.bind, hu]
        split at h6
        · exact h6
        · cases h6
      · exact h.elim
    obtain ⟨v, h3, h⟩ := key
    exact ⟨v, none, by simp only [opQ]; rw [evl_env, evl_env, h1, h2]; show (indexV P ty x' i').bind _ = _; rw [h3]; rfl, h⟩
  | lookup ty x k ok =>
    obtain ⟨x', h1, h⟩ := bindP_some h
    obtain ⟨k', h2, h⟩ := bindP_some h
    obtain ⟨v, h3, h⟩ := bindP_some h
    exact ⟨v, none, by simp only [opQ]; rw [evl_env, evl_env, h1, h2]; show (lookV P hp ty x' k' ok).bind _ = _; rw [h3]; rfl, h⟩
  | extract x i =>
    obtain ⟨v, h1, h⟩ := bindP_some h
    obtain ⟨u, h2, h⟩ := bindP_some h
    refine ⟨u, none, ?_, h⟩
    simp only [opQ]; rw [evl_env, h1]
    unfold nth at h2
    split at h2
    · simp only [Option.bind]; rw [h2]
    · cases h2
  | call c =>
    obtain ⟨callee, args, ts⟩ := c
    cases callee with
    | builtin b =>
      obtain ⟨vs, h1, h⟩ := bindP_some h
      have key : ∃ v, builtinQ P hp b ts vs = some v ∧ K v none := by
        split at h
        · rename_i x ty hty hzz
          have hb : ∀ v, lenV P hp ty x = some v → builtinQ P hp .len ts [x] = some v := by
            intro v hv
            unfold builtinQ
            simp only
            rw [hty]; exact hv
          split at h
          · rename_i hu
            obtain ⟨v, h2, h⟩ := bindP_some h
            refine ⟨v, hb v ?_, h⟩
            unfold lenStr at h2
            split at h2
            · cases h2; simp only [lenV, hu]
            · cases h2
          · rename_i hu
            obtain ⟨v, h2, h⟩ := bindP_some h
            refine ⟨v, hb v ?_, h⟩
            unfold lenSl at h2
            split at h2
            · cases h2; simp only [lenV, hu]
            · cases h2
          · obtain ⟨v, h2, h⟩ := bindP_some h
            exact ⟨v, hb v h2, h⟩
        · exact bindP_some h
      obtain ⟨v, h2, h⟩ := key
      exact ⟨v, none, by simp only [opQ]; rw [evlL_env, h1]; show (builtinQ P hp b ts vs).bind _ = _; rw [h2]; rfl, h⟩
    | _ => exact h.elim
  | _ => exact h.elim
end
end V
end Go.Proofs.Ytepbdkfkfcckoaa
set_option linter.unusedVariables false
set_option linter.unusedSimpArgs false
noncomputable section
namespace Go.Proofs.Ytepbdkfkfcckoaa
namespace V
def LeC (C C' : CallR) : Prop := ∀ f args h nx v h' nx', C f args h nx v h' nx' → C' f args h nx v h' nx'
section
variable {P : Program} {ro : Ro}
theorem opL_le {C C' : CallR} (hC : LeC C C') {t : T Value} {h h' : T Obj} {nx nx' : Nat} {op : Op} {v : Value} (hl : opL P ro C t h nx op v h' nx') : opL P ro C' t h nx op v h' nx' := by
  cases op with
  | call c =>
    obtain ⟨callee, args, ts⟩ := c
    cases callee with
    | value f =>
      obtain ⟨k, a, b, vs, h1, h2, h3⟩ := hl
      exact ⟨k, a, b, vs, h1, h2, hC _ _ _ _ _ _ _ h3⟩
    | builtin b => exact hl
    | invoke r m => exact hl
  | _ => exact hl
theorem opR_le {C C' : CallR} (hC : LeC C C') {t : T Value} {h h' : T Obj} {nx aid nx' : Nat} {op : Op} {v : Value} (hl : opR P ro C t h nx aid op v h' nx') : opR P ro C' t h nx aid op v h' nx' := by
  unfold opR at hl ⊢
  cases hq : loud op with
  | true => rw [hq] at hl; exact opL_le hC hl
  | false => rw [hq] at hl; exact hl
theorem opsR_le {C C' : CallR} (hC : LeC C C') {n : Nat} {ops : Array Oper} : ∀ (l : List Oper) (s s' : St), opsR P ro C n ops l s s' → opsR P ro C' n ops l s s' := by
  intro l
  induction l with
  | nil => intro s s' h; exact h
  | cons o l ih =>
    intro s s' h
    simp only [opsR] at h ⊢
    cases hw : wanted ops s.t o with
    | true => rw [hw] at h; obtain ⟨v, h', nx', t', h1, h2, h3⟩ := h; exact ⟨v, h', nx', t', opR_le hC h1, h2, ih _ _ h3⟩
    | false => rw [hw] at h; obtain ⟨t', h1, h2⟩ := h; exact ⟨t', h1, ih _ _ h2⟩
theorem opsD_le {C C' : CallR} (hC : LeC C C') {n n0 : Nat} {ops : Array Oper} : ∀ (l : List Oper) (i : Nat) (ls : List (Nat × Nat)) (ms : List (Nat × T Obj × T Obj)) (s s' : St), opsD P ro C n ops n0 l i ls ms s s' → opsD P ro C' n ops n0 l i ls ms s s' := by
  intro l
  induction l with
  | nil => intro i ls ms s s' h; exact h
  | cons o l ih =>
    intro i ls ms s s' h
    simp only [opsD] at h ⊢
    cases hw : wanted ops s.t o with
    | true =>
      rw [hw] at h; obtain ⟨v, h', nx', t', h1, h2, h3⟩ := h
      refine ⟨v, h', nx', t', opR_le hC h1, h2, ?_⟩
      cases hq : loud o.op with
      | true => rw [hq] at h3; exact ⟨h3.1, ih _ _ _ _ _ h3.2⟩
      | false =>
        rw [hq] at h3
        simp only at h3 ⊢
        cases hla : rdB P s.t o.op with
        | none => rw [hla] at h3; exact ih _ _ _ _ _ h3
        | some a => rw [hla] at h3; exact ⟨h3.1, ih _ _ _ _ _ h3.2⟩
    | false => rw [hw] at h; obtain ⟨t', h1, h2⟩ := h; exact ⟨t', h1, ih _ _ _ _ _ h2⟩
def LeX (X X' : CodeR) : Prop := ∀ n c s e s', X n c s e s' → X' n c s e s'
theorem callR_le {X X' : CodeR} (hX : LeX X X') : LeC (callR P ro X) (callR P ro X') := by
  rintro f args h nx v h' nx' (⟨fn, body, e, s, vs, h1, h2, h3, h4, h5⟩ | ho)
  · exact .inl ⟨fn, body, e, s, vs, h1, h2, h3, hX _ _ _ _ _ h4, h5⟩
  · exact .inr ho
theorem codeB_le {X X' : CodeR} (hX : LeX X X') : LeX (codeB P ro X) (codeB P ro X') := by
  intro n c s e s' h
  cases c with
  | seq a b =>
    rcases h with ⟨s1, h1, h2⟩ | ⟨h1, h2⟩
    · exact .inl ⟨s1, hX _ _ _ _ _ h1, hX _ _ _ _ _ h2⟩
    · exact .inr ⟨h1, hX _ _ _ _ _ h2⟩
  | cond c a b => obtain ⟨v, h1, h2⟩ := h; exact ⟨v, h1, hX _ _ _ _ _ h2⟩
  | block id b => obtain ⟨e1, h1, h2⟩ := h; exact ⟨e1, hX _ _ _ _ _ h1, h2⟩
  | loop b =>
    rcases h with ⟨s1, hh, h1, h3, h2⟩ | ⟨h1, h2⟩
    · exact .inl ⟨s1, hh, hX _ _ _ _ _ h1, h3, hX _ _ _ _ _ h2⟩
    · exact .inr ⟨h1, hX _ _ _ _ _ h2⟩
  | scope b => exact hX _ _ _ _ _ h
  | region id ops draw =>
    obtain ⟨h1, h2⟩ := h
    refine ⟨h1, ?_⟩
    cases draw with
    | false => exact opsR_le (callR_le hX) _ _ _ h2
    | true => exact ⟨h2.1, opsD_le (callR_le hX) _ _ _ _ _ _ h2.2⟩
  | _ => exact h
theorem code_step : ∀ k, LeX (code P ro k) (code P ro (k + 1)) := by
  intro k
  induction k with
  | zero => intro n c s e s' h; exact h.elim
  | succ k ih => exact codeB_le ih
theorem code_le {k k' : Nat} (h : k ≤ k') : LeX (code P ro k) (code P ro k') := by
  induction h with
  | refl => intro n c s e s' h; exact h
  | step _ ih => intro n c s e s' h; exact code_step _ _ _ _ _ _ (ih _ _ _ _ _ h)
theorem call_le {k k' : Nat} (h : k ≤ k') : LeC (call P ro k) (call P ro k') := callR_le (code_le h)
variable {t : T Value} {h : T Obj} {nx : Nat}
theorem ptL_sound {op : Op} {K : KV} (hl : ptL P ro (callP P ro) (envOf t) h nx op K) : ∃ k v h' nx', opL P ro (call P ro k) t h nx op v h' nx' ∧ K v h' nx' := by
  cases op with
  | store ty a x =>
    obtain ⟨a', h1, hl⟩ := bindP_some hl
    obtain ⟨x', h2, hl⟩ := bindP_some hl
    obtain ⟨n, h3, hl⟩ := bindP_some hl
    obtain ⟨h', h4, hl⟩ := bindP_some hl
    obtain ⟨ad, h5, h6⟩ := bind_some' h4
    refine ⟨0, _, _, _, ⟨a', x', by rw [evl_env]; exact h1, by rw [evl_env]; exact h2, ?_, rfl, rfl⟩, hl⟩
    rw [asP_some h5]
    simp only [storeV]
    rw [h3]; exact h6
  | mapUpdate ty m k x | insert ty m k x =>
    obtain ⟨m', h1, hl⟩ := bindP_some hl
    obtain ⟨k', h2, hl⟩ := bindP_some hl
    obtain ⟨x', h3, hl⟩ := bindP_some hl
    obtain ⟨h', h4, hl⟩ := bindP_some hl
    exact ⟨0, _, _, _, ⟨m', k', x', by rw [evl_env]; exact h1, by rw [evl_env]; exact h2, by rw [evl_env]; exact h3, h4, rfl, rfl⟩, hl⟩
  | call c =>
    obtain ⟨callee, args, ts⟩ := c
    cases callee with
    | builtin b =>
      obtain ⟨vs, h1, hl⟩ := bindP_some hl
      cases b <;> try (exact hl.elim)
      case append =>
        obtain ⟨r, h2, hl⟩ := bindP_some hl
        exact ⟨0, r.1, r.2.1, r.2.2, ⟨vs, by rw [evlL_env]; exact h1, h2⟩, hl⟩
      case clear =>
        simp only at hl
        split at hl
        · rename_i m ty hty
          obtain ⟨u, h2, hl⟩ := bindP_some hl
          obtain ⟨h', h3, hl⟩ := bindP_some hl
          exact ⟨0, _, _, _, ⟨_, by rw [evlL_env]; exact h1, _, _, rfl, hty, by rw [h2]; rfl, h3, rfl, rfl⟩, hl⟩
        · exact hl.elim
      case copy =>
        obtain ⟨r, h2, hl⟩ := bindP_some hl
        exact ⟨0, r.1, r.2.1, r.2.2, ⟨vs, by rw [evlL_env]; exact h1, h2⟩, hl⟩
    | value f =>
      obtain ⟨fv, h1, hl⟩ := bindP_some hl
      obtain ⟨vs, h2, hl⟩ := bindP_some hl
      unfold callF at hl
      split at hl
      · rename_i k a b _
        obtain ⟨fu, v, h', nx', h3, h4⟩ := hl
        exact ⟨fu, v, h', nx', ⟨k, a, b, vs, by rw [evl_env]; exact h1, by rw [evlL_env]; exact h2, h3⟩, h4⟩
      · exact hl.elim
    | invoke r m => exact hl.elim
  | convert sx dx x =>
    obtain ⟨x', h1, hl⟩ := bindP_some hl
    obtain ⟨r, h2, hl⟩ := bindP_some hl
    exact ⟨0, r.1, r.2, nx, ⟨x', by rw [evl_env]; exact h1, h2, rfl⟩, hl⟩
  | _ => exact hl.elim
theorem ptO_sound {aid : Nat} {op : Op} {K : KV} (hl : ptO P ro (callP P ro) (envOf t) h nx aid op K) : ∃ k v h' nx', opR P ro (call P ro k) t h nx aid op v h' nx' ∧ K v h' nx' := by
  unfold ptO at hl
  unfold opR
  cases hq : loud op with
  | true => rw [hq] at hl; exact ptL_sound hl
  | false =>
    rw [hq] at hl
    obtain ⟨v, ob, h1, h2⟩ := ptQ_sound hl
    exact ⟨0, v, _, nx, ⟨ob, h1, rfl, rfl⟩, h2⟩
def gTrue (g : Gd) : Prop := match g with
  | none => True
  | some vw => vw.1 = .bool vw.2
theorem onP_true {g : Gd} {X : Prop} (h : onP g X) (hg : gTrue g) : X := by
  cases g with
  | none => exact h
  | some vw => exact h hg
theorem gdP_sound {ops : Array Oper} {o : Oper} {F : Gd → Prop} (hg : gdP ops (envOf t) o.guard F) :
    ∃ g, F g ∧ (∀ h nx A K, wrapG g h nx A K → (wanted ops t o = true ∧ A K) ∨ (wanted ops t o = false ∧ K undef h nx)) ∧ (wanted ops t o = true → gTrue g) := by
  unfold gdP at hg
  unfold wanted
  cases hgd : o.guard with
  | none => rw [hgd] at hg; exact ⟨none, hg, fun h nx A K hA => .inl ⟨rfl, hA⟩, fun _ => trivial⟩
  | some jw =>
    obtain ⟨j, w⟩ := jw
    rw [hgd] at hg
    simp only at hg ⊢
    cases hd : (ops[j]?).bind (·.dst) with
    | none => rw [hd] at hg; exact hg.elim
    | some d =>
      rw [hd] at hg
      simp only at hg ⊢
      refine ⟨_, hg, ?_, ?_⟩
      · intro h nx A K hA
        unfold wrapG ifP at hA
        simp only at hA
        split at hA
        · rename_i b hb
          have hb' : t.get d = some (.bool b) := by
            unfold envOf at hb
            cases ht : t.get d with
            | none => rw [ht] at hb; cases hb
            | some v => rw [ht] at hb; exact congrArg some hb
          rw [hb']
          simp only
          cases hbw : b == w with
          | true => rw [hbw] at hA; exact .inl ⟨rfl, hA⟩
          | false => rw [hbw] at hA; exact .inr ⟨rfl, hA⟩
        · rename_i hnb
          right
          refine ⟨?_, hA⟩
          cases ht : t.get d with
          | none => rfl
          | some v =>
            cases v with
            | bool b => exact absurd (show envOf t d = .bool b by unfold envOf; rw [ht]; rfl) (hnb b)
            | _ => rfl
      · intro hw
        unfold gTrue
        simp only
        split at hw
        · rename_i b hb
          have : b = w := by simpa using hw
          subst this
          unfold envOf; rw [hb]; rfl
        · cases hw
theorem putP_sound {n : Nat} {d : Option Tmp} {v : Value} {K : Env → Prop} (hp : putP n (envOf t) d v K) : ∃ t', put n t d v = some t' ∧ K (envOf t') := by
  cases d with
  | none => exact ⟨t, rfl, hp⟩
  | some d =>
    unfold putP at hp
    simp only at hp
    cases hb : Nat.blt d n with
    | true => rw [hb] at hp; exact ⟨t.upd d (some v), by simp only [put]; rw [hb], by rw [envOf_upd]; exact hp⟩
    | false => rw [hb] at hp; exact hp.elim
theorem ptOps_sound {n : Nat} {ops : Array Oper} : ∀ (l : List Oper) (t : T Value) (h : T Obj) (nx : Nat) (Q : Env → T Obj → Nat → Prop), ptOps P ro (callP P ro) n ops l (envOf t) h nx Q →
    ∃ k s', opsR P ro (call P ro k) n ops l ⟨t, h, nx⟩ s' ∧ Q (envOf s'.t) s'.h s'.nx := by
  intro l
  induction l with
  | nil => intro t h nx Q hl; exact ⟨0, _, rfl, hl⟩
  | cons o l ih =>
    intro t h nx Q hl
    obtain ⟨g, h1, h2, _⟩ := gdP_sound hl
    simp only [opsR]
    rcases h2 _ _ _ _ h1 with ⟨hw, hA⟩ | ⟨hw, hK⟩
    · obtain ⟨k1, v, h', nx', h3, h4⟩ := ptO_sound hA
      obtain ⟨t', h5, h6⟩ := putP_sound h4
      obtain ⟨k2, s', h7, h8⟩ := ih t' h' nx' Q h6
      refine ⟨max k1 k2, s', ?_, h8⟩
      rw [hw]
      exact ⟨v, h', nx', t', opR_le (call_le (Nat.le_max_left _ _)) h3, h5, opsR_le (call_le (Nat.le_max_right _ _)) _ _ _ h7⟩
    · obtain ⟨t', h5, h6⟩ := putP_sound hK
      obtain ⟨k2, s', h7, h8⟩ := ih t' h nx Q h6
      refine ⟨k2, s', ?_, h8⟩
      rw [hw]
      exact ⟨t', h5, h7⟩
theorem nthN_getD : ∀ (l : List Nat) (i : Nat), nthN l i = l.getD i 0
  | [], _ => by simp [nthN]
  | _ :: _, 0 => rfl
  | _ :: r, n + 1 => by simp [nthN, nthN_getD r n]
theorem freeL_eq (ops : Array Oper) (i j : Nat) : freeL (bef ops).toList i j = free (bef ops) i j := by
  unfold freeL free
  rw [nthN_getD]; simp
theorem drawOkL_eq (ops : Array Oper) : drawOkL P ops (bef ops).toList = drawOk P ops := by
  unfold drawOkL drawOk
  simp only [freeL_eq]
  rfl
theorem revK_eq {α : Type} (K : List Nat → α) : ∀ (l o : List Nat), revK K l o = K (l.reverse ++ o)
  | [], o => rfl
  | x :: r, o => by rw [revK, revK_eq K r]; simp
theorem befK_eq' {α : Type} (K : List Nat → α) : ∀ (l : List Oper) (j : Nat) (acc : List Nat), befK K l j acc = K (CheckFast.beforeL l j acc)
  | [], j, acc => by rw [befK, revK_eq, CheckFast.beforeL]; simp
  | o :: r, j, acc => by rw [befK, CheckFast.force_eq, befK_eq' K r, CheckFast.beforeL, CheckFast.force_eq]
theorem befK_eq {α : Type} (K : List Nat → α) (ops : Array Oper) : befK K ops.toList 0 [] = K (bef ops).toList := by
  rw [befK_eq']
  have := CheckFast.beforeF_eq ops
  unfold bef
  rw [← this]
  rfl
theorem sameL_spec {b : List Nat} {i : Nat} {h h' : T Obj} {K : Prop} : ∀ {lp : List (Nat × Gd × Value)}, sameL b i h h' lp K → K ∧ ∀ q ∈ lp, freeL b q.1 i = true → onP q.2.1 (sameV q.2.2 h h') := by
  intro lp
  induction lp with
  | nil => intro h; exact ⟨h, fun q hq => by cases hq⟩
  | cons q lp ih =>
    intro hs
    simp only [sameL] at hs
    cases hf : freeL b q.1 i with
    | true =>
      rw [hf] at hs
      obtain ⟨h1, h2⟩ := ih hs.2
      refine ⟨h1, fun x hx hfx => ?_⟩
      rcases List.mem_cons.1 hx with rfl | hx
      · exact hs.1
      · exact h2 x hx hfx
    | false =>
      rw [hf] at hs
      obtain ⟨h1, h2⟩ := ih hs
      refine ⟨h1, fun x hx hfx => ?_⟩
      rcases List.mem_cons.1 hx with rfl | hx
      · rw [hf] at hfx; cases hfx
      · exact h2 x hx hfx
theorem sameM_spec {b : List Nat} {i : Nat} {v : Value} {K : Prop} : ∀ {mp : List (Nat × Gd × T Obj × T Obj)}, sameM b i v mp K → K ∧ ∀ q ∈ mp, freeL b q.1 i = true → onP q.2.1 (sameV v q.2.2.1 q.2.2.2) := by
  intro mp
  induction mp with
  | nil => intro h; exact ⟨h, fun q hq => by cases hq⟩
  | cons q mp ih =>
    intro hs
    simp only [sameM] at hs
    cases hf : freeL b q.1 i with
    | true =>
      rw [hf] at hs
      obtain ⟨h1, h2⟩ := ih hs.2
      refine ⟨h1, fun x hx hfx => ?_⟩
      rcases List.mem_cons.1 hx with rfl | hx
      · exact hs.1
      · exact h2 x hx hfx
    | false =>
      rw [hf] at hs
      obtain ⟨h1, h2⟩ := ih hs
      refine ⟨h1, fun x hx hfx => ?_⟩
      rcases List.mem_cons.1 hx with rfl | hx
      · rw [hf] at hfx; cases hfx
      · exact h2 x hx hfx
theorem rdVal_env {t : T Value} (op : Op) : rdVal P t op = rdE P (envOf t) op := by
  cases op with
  | load ty x => exact evl_env x
  | lookup ty x k ok => exact evl_env x
  | convert sx dx x =>
    simp only [rdVal, rdE]; rw [evl_env]
    cases und P sx with
    | none => rfl
    | some d => cases d <;> rfl
  | call c =>
    obtain ⟨callee, args, ts⟩ := c
    cases callee with
    | builtin b =>
      simp only [rdVal, rdE]; rw [evlL_env]
      cases (ts[0]?).bind (und P) with
      | none => rfl
      | some d => cases d <;> try rfl
                  all_goals (simp only; cases evsE (envOf t) args.toList with
                    | none => rfl
                    | some l => cases l with
                      | nil => rfl
                      | cons a r => cases r <;> rfl)
    | _ => rfl
  | _ => rfl
def RL (ls : List (Nat × Nat)) (lp : List (Nat × Gd × Value)) : Prop := ∀ q ∈ ls, ∃ g v, (q.1, g, v) ∈ lp ∧ gTrue g ∧ blk v = some q.2
def RM (ms : List (Nat × T Obj × T Obj)) (mp : List (Nat × Gd × T Obj × T Obj)) : Prop := ∀ q ∈ ms, ∃ g, (q.1, g, q.2) ∈ mp ∧ gTrue g
theorem RL.more {ls : List (Nat × Nat)} {lp : List (Nat × Gd × Value)} (h : RL ls lp) (x : Nat × Gd × Value) : RL ls (x :: lp) := fun q hq => by
  obtain ⟨g, v, h1, h2⟩ := h q hq
  exact ⟨g, v, List.mem_cons_of_mem _ h1, h2⟩
theorem RM.more {ms : List (Nat × T Obj × T Obj)} {mp : List (Nat × Gd × T Obj × T Obj)} (h : RM ms mp) (x : Nat × Gd × T Obj × T Obj) : RM ms (x :: mp) := fun q hq => by
  obtain ⟨g, h1, h2⟩ := h q hq
  exact ⟨g, List.mem_cons_of_mem _ h1, h2⟩
theorem ptD_sound {n n0 : Nat} {ops : Array Oper} : ∀ (l : List Oper) (i : Nat) (ls : List (Nat × Nat)) (ms : List (Nat × T Obj × T Obj)) (lp : List (Nat × Gd × Value)) (mp : List (Nat × Gd × T Obj × T Obj)) (t : T Value) (h : T Obj) (nx : Nat) (Q : Env → T Obj → Nat → Prop),
    RL ls lp → RM ms mp → ptD P ro (callP P ro) n ops (bef ops).toList n0 l i lp mp (envOf t) h nx Q → ∃ k s', opsD P ro (call P ro k) n ops n0 l i ls ms ⟨t, h, nx⟩ s' ∧ Q (envOf s'.t) s'.h s'.nx := by
  intro l
  induction l with
  | nil => intro i ls ms lp mp t h nx Q _ _ hl; exact ⟨0, _, rfl, hl⟩
  | cons o l ih =>
    intro i ls ms lp mp t h nx Q hrl hrm hl
    obtain ⟨g, h1, h2, hgt⟩ := gdP_sound hl
    simp only [opsD]
    cases hq : loud o.op with
    | true =>
      rw [hq] at h1
      simp only at h1
      rcases h2 _ _ _ _ h1 with ⟨hw, hA⟩ | ⟨hw, hK⟩
      · obtain ⟨k1, v, h', nx', h3, h4⟩ := ptO_sound hA
        obtain ⟨h4, hsame⟩ := sameL_spec h4
        obtain ⟨t', h5, h6⟩ := putP_sound h4
        obtain ⟨k2, s', h7, h8⟩ := ih (i + 1) ls ((i, h, h') :: ms) lp ((i, g, h, h') :: mp) t' h' nx' Q hrl (fun q hq => by
          rcases List.mem_cons.1 hq with rfl | hq
          · exact ⟨g, by simp, hgt hw⟩
          · obtain ⟨g', e1, e2⟩ := hrm q hq
            exact ⟨g', List.mem_cons_of_mem _ e1, e2⟩) h6
        refine ⟨max k1 k2, s', ?_, h8⟩
        rw [hw]
        refine ⟨v, h', nx', t', opR_le (call_le (Nat.le_max_left _ _)) h3, h5, ?_, opsD_le (call_le (Nat.le_max_right _ _)) _ _ _ _ _ _ h7⟩
        intro q hqm hf
        obtain ⟨g', v', e1, e2, e3⟩ := hrl q hqm
        have := onP_true (hsame _ e1 (by rw [freeL_eq]; exact hf)) e2
        unfold sameV at this
        simp only [e3] at this
        exact this
      · obtain ⟨t', h5, h6⟩ := putP_sound hK
        obtain ⟨k2, s', h7, h8⟩ := ih (i + 1) ls ms lp ((i, g, h, h) :: mp) t' h nx Q hrl (hrm.more _) h6
        refine ⟨k2, s', ?_, h8⟩
        rw [hw]
        exact ⟨t', h5, h7⟩
    | false =>
      rw [hq] at h1
      simp only at h1
      cases hloc : rdE P (envOf t) o.op with
      | some a =>
        rw [hloc] at h1
        simp only at h1
        rcases h2 _ _ _ _ h1 with ⟨hw, hA⟩ | ⟨hw, hK⟩
        · obtain ⟨k1, v, h', nx', h3, h4⟩ := ptO_sound hA
          obtain ⟨h4, hsame⟩ := sameM_spec h4
          obtain ⟨t', h5, h6⟩ := putP_sound h4
          cases hla : rdB P t o.op with
          | none =>
            obtain ⟨k2, s', h7, h8⟩ := ih (i + 1) ls ms ((i, g, a) :: lp) mp t' h' nx' Q (hrl.more _) hrm h6
            refine ⟨max k1 k2, s', ?_, h8⟩
            rw [hw]
            exact ⟨v, h', nx', t', opR_le (call_le (Nat.le_max_left _ _)) h3, h5, opsD_le (call_le (Nat.le_max_right _ _)) _ _ _ _ _ _ h7⟩
          | some ad =>
            have ha : blk a = some ad := by
              unfold rdB at hla
              rw [rdVal_env, hloc] at hla
              exact hla
            obtain ⟨k2, s', h7, h8⟩ := ih (i + 1) ((i, ad) :: ls) ms ((i, g, a) :: lp) mp t' h' nx' Q (fun q hq => by
              rcases List.mem_cons.1 hq with rfl | hq
              · exact ⟨g, a, by simp, hgt hw, ha⟩
              · obtain ⟨g', v', e1, e2⟩ := hrl q hq
                exact ⟨g', v', List.mem_cons_of_mem _ e1, e2⟩) hrm h6
            refine ⟨max k1 k2, s', ?_, h8⟩
            rw [hw]
            refine ⟨v, h', nx', t', opR_le (call_le (Nat.le_max_left _ _)) h3, h5, ?_, opsD_le (call_le (Nat.le_max_right _ _)) _ _ _ _ _ _ h7⟩
            intro q hqm hf
            obtain ⟨g', e1, e2⟩ := hrm q hqm
            have := onP_true (hsame _ e1 (by rw [freeL_eq]; exact hf)) e2
            unfold sameV at this
            simp only [ha] at this
            exact this
        · obtain ⟨t', h5, h6⟩ := putP_sound hK
          obtain ⟨k2, s', h7, h8⟩ := ih (i + 1) ls ms ((i, g, a) :: lp) mp t' h nx Q (hrl.more _) hrm h6
          refine ⟨k2, s', ?_, h8⟩
          rw [hw]
          exact ⟨t', h5, h7⟩
      | none =>
        rw [hloc] at h1
        simp only at h1
        have hla : rdB P t o.op = none := by
          unfold rdB
          rw [rdVal_env, hloc]; rfl
        rcases h2 _ _ _ _ h1 with ⟨hw, hA⟩ | ⟨hw, hK⟩
        · obtain ⟨k1, v, h', nx', h3, h4⟩ := ptO_sound hA
          obtain ⟨t', h5, h6⟩ := putP_sound h4
          obtain ⟨k2, s', h7, h8⟩ := ih (i + 1) ls ms lp mp t' h' nx' Q hrl hrm h6
          refine ⟨max k1 k2, s', ?_, h8⟩
          rw [hw, hla]
          exact ⟨v, h', nx', t', opR_le (call_le (Nat.le_max_left _ _)) h3, h5, opsD_le (call_le (Nat.le_max_right _ _)) _ _ _ _ _ _ h7⟩
        · obtain ⟨t', h5, h6⟩ := putP_sound hK
          obtain ⟨k2, s', h7, h8⟩ := ih (i + 1) ls ms lp mp t' h nx Q hrl hrm h6
          refine ⟨k2, s', ?_, h8⟩
          rw [hw]
          exact ⟨t', h5, h7⟩
def CodeP (P : Program) (ro : Ro) (n : Nat) (c : Code) (t : T Value) (h : T Obj) (nx : Nat) (Q : KE) : Prop := ∃ k x s', code P ro k n c ⟨t, h, nx⟩ x s' ∧ Q x (envOf s'.t) s'.h s'.nx
theorem iterP_sound {n : Nat} {b : Code} (ihb : ∀ (t : T Value) (h : T Obj) (nx : Nat) (Q : KE), pt P ro (callP P ro) n b (envOf t) h nx Q → CodeP P ro n b t h nx Q) :
    ∀ (j : Nat) (t : T Value) (h : T Obj) (nx : Nat) (Q : KE), iterP (pt P ro (callP P ro) n b) j (envOf t) h nx Q → CodeP P ro n (.loop b) t h nx Q := by
  intro j
  induction j with
  | zero => intro t h nx Q hi; exact hi.elim
  | succ j ih =>
    intro t h nx Q hi
    obtain ⟨k1, x, s1, h1, h2⟩ := ihb _ _ _ _ hi
    cases x with
    | normal =>
      obtain ⟨hh, h3, h4⟩ := h2
      obtain ⟨k2, x, s2, h5, h6⟩ := ih s1.t hh s1.nx Q h4
      exact ⟨max k1 k2 + 1, x, s2, .inl ⟨s1, hh, code_le (Nat.le_max_left _ _) _ _ _ _ _ h1, h3, code_le (Nat.le_max_right _ _) _ _ _ _ _ h5⟩, h6⟩
    | exit id => exact ⟨k1 + 1, _, s1, .inr ⟨by simp, h1⟩, h2⟩
    | ret => exact ⟨k1 + 1, _, s1, .inr ⟨by simp, h1⟩, h2⟩
theorem pt_sound {n : Nat} : ∀ (c : Code) (t : T Value) (h : T Obj) (nx : Nat) (Q : KE), pt P ro (callP P ro) n c (envOf t) h nx Q → CodeP P ro n c t h nx Q := by
  intro c
  induction c with
  | skip | label => intro t h nx Q hp; exact ⟨1, .normal, _, ⟨rfl, rfl⟩, hp⟩
  | ret => intro t h nx Q hp; exact ⟨1, .ret, _, ⟨rfl, rfl⟩, hp⟩
  | exit id => intro t h nx Q hp; exact ⟨1, .exit id, _, ⟨rfl, rfl⟩, hp⟩
  | seq a b iha ihb =>
    intro t h nx Q hp
    obtain ⟨k1, x, s1, h1, h2⟩ := iha _ _ _ _ hp
    cases x with
    | normal =>
      obtain ⟨k2, x, s2, h5, h6⟩ := ihb _ _ _ _ h2
      exact ⟨max k1 k2 + 1, x, s2, .inl ⟨s1, code_le (Nat.le_max_left _ _) _ _ _ _ _ h1, code_le (Nat.le_max_right _ _) _ _ _ _ _ h5⟩, h6⟩
    | exit id => exact ⟨k1 + 1, _, s1, .inr ⟨by simp, h1⟩, h2⟩
    | ret => exact ⟨k1 + 1, _, s1, .inr ⟨by simp, h1⟩, h2⟩
  | cond c a b iha ihb =>
    intro t h nx Q hp
    obtain ⟨v, h1, h2⟩ := bindP_some hp
    rw [← evl_env] at h1
    unfold condP at h2
    split at h2
    · obtain ⟨k, x, s1, h3, h4⟩ := iha _ _ _ _ h2
      exact ⟨k + 1, x, s1, ⟨true, h1, h3⟩, h4⟩
    · obtain ⟨k, x, s1, h3, h4⟩ := ihb _ _ _ _ h2
      exact ⟨k + 1, x, s1, ⟨false, h1, h3⟩, h4⟩
    · exact h2.elim
  | block id b ihb =>
    intro t h nx Q hp
    obtain ⟨k, x, s1, h1, h2⟩ := ihb _ _ _ _ hp
    cases x with
    | normal => exact ⟨k + 1, _, s1, ⟨_, h1, rfl⟩, h2⟩
    | ret => exact ⟨k + 1, _, s1, ⟨_, h1, rfl⟩, h2⟩
    | exit i =>
      refine ⟨k + 1, _, s1, ⟨_, h1, rfl⟩, ?_⟩
      have h2 : beqP (Nat.beq i id) (Q .normal (envOf s1.t) s1.h s1.nx) (Q (.exit i) (envOf s1.t) s1.h s1.nx) := h2
      simp only at ⊢
      cases hb : Nat.beq i id with
      | true => rw [hb] at h2; exact h2
      | false => rw [hb] at h2; exact h2
  | loop b ihb =>
    rintro t h nx Q ⟨j, hp⟩
    exact iterP_sound ihb j t h nx Q hp
  | scope b ihb =>
    intro t h nx Q hp
    obtain ⟨k, x, s1, h1, h2⟩ := ihb _ _ _ _ hp
    exact ⟨k + 1, x, s1, h1, h2⟩
  | region id ops draw =>
    intro t h nx Q hp
    cases draw with
    | false =>
      obtain ⟨k, s', h1, h2⟩ := ptOps_sound _ _ _ _ _ hp
      exact ⟨k + 1, .normal, s', ⟨rfl, h1⟩, h2⟩
    | true =>
      simp only [pt] at hp
      rw [befK_eq, drawOkL_eq] at hp
      cases hd : drawOk P ops with
      | false => rw [hd] at hp; exact hp.elim
      | true =>
        rw [hd] at hp
        obtain ⟨k, s', h1, h2⟩ := ptD_sound (P := P) (ro := ro) ops.toList 0 [] [] [] [] t h (nx + ops.size) (Q .normal) (fun q hq => by cases hq) (fun q hq => by cases hq) hp
        exact ⟨k + 1, .normal, s', ⟨rfl, hd, h1⟩, h2⟩
  | _ => intro t h nx Q hp; exact hp.elim
theorem resE_sound {t : T Value} {h : T Obj} : ∀ (rs : List ResultVar) (K : List Value → Prop), resE P ro (envOf t) h rs K → ∃ vs, resV P ro h t rs = some vs ∧ K vs := by
  intro rs
  induction rs with
  | nil => intro K hr; exact ⟨[], rfl, hr⟩
  | cons r rs ih =>
    intro K hr
    cases r with
    | tmp i =>
      obtain ⟨vs, h1, h2⟩ := ih _ hr
      exact ⟨_, by simp only [resV]; rw [h1]; rfl, h2⟩
    | cell a ty =>
      have key : ∃ ad v, envOf t a = .pointer (some ad) ∧ loadV P ro h ty ad = some v ∧ resE P ro (envOf t) h rs fun vs => K (v :: vs) := by
        simp only [resE] at hr
        split at hr
        · rename_i hagg
          obtain ⟨n, h1, hr⟩ := bindP_some hr
          obtain ⟨v, h2, hr⟩ := bindP_some hr
          obtain ⟨ad, h3, h4⟩ := bind_some' h2
          exact ⟨ad, v, asP_some h3, by unfold loadV; rw [hagg]; show (siz P ty).bind _ = _; rw [h1]; exact h4, hr⟩
        · rename_i hagg
          obtain ⟨v, h2, hr⟩ := bindP_some hr
          obtain ⟨ad, h3, h4⟩ := bind_some' h2
          exact ⟨ad, v, asP_some h3, by unfold loadV; rw [hagg]; exact h4, hr⟩
        · exact hr.elim
      obtain ⟨ad, v, h1, h2, h3⟩ := key
      obtain ⟨vs, h4, h5⟩ := ih _ h3
      refine ⟨_, ?_, h5⟩
      simp only [resV]
      have : (t.get a).getD undef = .pointer (some ad) := h1
      rw [this]
      simp only
      rw [h2, h4]; rfl
theorem envOf_entry {vs : List Value} : envOf (entryT vs 0 .e) = entE vs := by
  funext i
  unfold envOf entE
  rw [entryT_get]
  by_cases hi : i < vs.length
  · rw [if_pos (by omega), Nat.sub_zero]
  · rw [if_neg (by omega), T.get_e, List.getElem?_eq_none (by omega)]
theorem callP_of {f : FuncId} {fn : Func} {body : Code} {vs : List Value} {K : KV} (h1 : P.funcs[f]? = some fn) (h2 : fn.body = some body) (h3 : Nat.ble vs.length fn.ntmps = true)
    (hp : pt P ro (callP P ro) fn.ntmps body (entE vs) h nx (endP P ro fn.results.toList K)) : callP P ro f vs h nx K := by
  rw [← envOf_entry] at hp
  obtain ⟨k, x, s', h4, h5⟩ := pt_sound _ _ _ _ _ hp
  have key : (x = .normal ∨ x = .ret) ∧ resE P ro (envOf s'.t) s'.h fn.results.toList fun vs => ∃ h', Sub h' s'.h ∧ K (resOf vs) h' s'.nx := by
    cases x with
    | exit id => exact h5.elim
    | normal => exact ⟨.inl rfl, h5⟩
    | ret => exact ⟨.inr rfl, h5⟩
  obtain ⟨hx, hr⟩ := key
  obtain ⟨ws, h6, h', h7, h8⟩ := resE_sound _ _ hr
  exact ⟨k, resOf ws, h', s'.nx, .inl ⟨fn, body, x, s', ws, h1, h2, Nat.le_of_ble_eq_true h3, h4, hx, h6, rfl, h7, rfl⟩, h8⟩
theorem callP_orc {f : FuncId} {v : Value} {K : KV} (ho : Orc P f v) (hK : K v h nx) : callP P ro f [] h nx K := ⟨0, v, h, nx, .inr (.inl ⟨rfl, ho, fun _ _ e => e, rfl⟩), hK⟩
theorem callP_by {f : FuncId} {fn : Func} {vs : List Value} {K : KV} (h1 : P.funcs[f]? = some fn) (h2 : fn.body.isSome = true) (h3 : Nat.ble vs.length fn.ntmps = true)
    (hp : callPre P ro (callP P ro) fn vs h nx K) : callP P ro f vs h nx K := by
  cases hb : fn.body with
  | none => rw [hb] at h2; cases h2
  | some b =>
    refine callP_of h1 hb h3 ?_
    unfold callPre bodyOf at hp
    rw [hb] at hp
    exact hp
end
end V
end Go.Proofs.Ytepbdkfkfcckoaa
set_option linter.unusedVariables false
set_option linter.unusedSimpArgs false
noncomputable section
namespace Go.Proofs.Ytepbdkfkfcckoaa
namespace V
open Go.RowKit
def noAddr : Addr := ⟨0, 0, none⟩
def norm (N : Nat) : Value → Option Value
  | .slice (some a) 0 0 => some (.slice (some noAddr) 0 0)
  | .slice (some a) l c => match a.spot, Nat.blt a.block N with
    | none, true => some (.slice (some a) l c)
    | _, _ => none
  | .pointer (some a) => match a.spot, Nat.blt a.block N with
    | none, true => some (.pointer (some a))
    | _, _ => none
  | v => match flat v with
    | true => some v
    | false => none
theorem norm_vr {N : Nat} {φ : Phi} {v v' : Value} (h : norm N v = some v') : VR N φ v' v := by
  unfold norm at h
  split at h
  · cases h; exact .sliceNo rfl
  · split at h
    · rename_i h1 h2
      cases h; exact .sliceRo h1 (by have := h2; simp [Nat.blt] at this; omega)
    · cases h
  · split at h
    · rename_i h1 h2
      cases h; exact .ptrRo h1 (by have := h2; simp [Nat.blt] at this; omega)
    · cases h
  · split at h
    · rename_i hf; cases h; exact .flat hf
    · cases h
def roOf (W : World) : Ro := fun a => match a.spot, Nat.blt a.block W.heap.size with
  | none, true => (W.cell? a).bind (norm W.heap.size)
  | _, _ => none
theorem roOf_sim (W : World) : Sim (roOf W) W.heap.size (fun _ => none) W (T.e : T Obj).get W where
  n := rfl
  le := Nat.le_refl _
  old := fun _ _ => rfl
  dom := fun k B o r h => by cases h
  inj := fun k k' B o r B' o' r' h => by rw [T.get_e] at h; exact absurd rfl h
  own := fun k o h => by rw [T.get_e] at h; cases h
  ro := fun a v h => by
    unfold roOf at h
    split at h
    · rename_i h1 h2
      obtain ⟨v', h3, h4⟩ := bind_some' h
      exact ⟨h1, by have := h2; simp [Nat.blt] at this; omega, v', h3, norm_vr h4⟩
    · cases h
def normL (N : Nat) : List Value → Option (List Value)
  | [] => some []
  | v :: l => (norm N v).bind fun v => (normL N l).bind fun l => some (v :: l)
inductive Arg (N : Nat) : Value → Value → Prop where
  | one {v v' : Value} (h : norm N v = some v') : Arg N v' v
  | agg {cs : Array Value} {l : List Value} (h : normL N cs.toList = some l) : Arg N (.agg l.toArray) (.agg cs)
theorem normL_lr {N : Nat} {φ : Phi} : ∀ {l l' : List Value}, normL N l = some l' → LR N φ l' l
  | [], l', h => by cases h; exact .nil
  | v :: l, l', h => by
    obtain ⟨v', h1, h⟩ := bind_some' h
    obtain ⟨r, h2, h⟩ := bind_some' h
    cases h
    exact .cons (norm_vr h1) (normL_lr h2)
theorem Arg.vr {N : Nat} {φ : Phi} {v v' : Value} (h : Arg N v v') : VR N φ v v' := by
  cases h with
  | one h => exact norm_vr h
  | agg h => exact .agg (by have := (normL_lr (φ := φ) h).length; simpa using this) fun i x y hx hy => (normL_lr h).get i x y (by simpa using hx) (by simpa using hy)
inductive Args (N : Nat) : List Value → List Value → Prop where
  | nil : Args N [] []
  | cons {v v' : Value} {l l' : List Value} (h : Arg N v v') (t : Args N l l') : Args N (v :: l) (v' :: l')
theorem Args.lr {N : Nat} {φ : Phi} {l l' : List Value} (h : Args N l l') : LR N φ l l' := by
  induction h with
  | nil => exact .nil
  | cons h _ ih => exact .cons h.vr ih
def Says (P : Program) (W : World) (f : FuncId) (vs : List Value) : Prop := callP P (roOf W) f vs .e 0 fun v _ _ => v = .bool true
theorem says_calls {P : Program} (hz : zerosOk P = true) (hn : namesOk P = true) (hm : P.follows .mixedOrders = true) {W : World} {f : FuncId} {vs : List Value} {args : Array Value}
    (ha : Args W.heap.size vs args.toList) (h : Says P W f vs) : Calls P f args W fun e W' => e = .returned (.bool true) ∧ Below W.heap.size W W' := by
  obtain ⟨k, v, h', nx', hc, rfl⟩ := h
  have hs : SS (roOf W) W.heap.size W (fun _ => none) .e 0 W := ⟨roOf_sim W, fun _ _ => rfl⟩
  refine ((call_sound (ro := roOf W) (N := W.heap.size) (w0 := W) hz hn hm _ _ _ _ _ _ _ hc).2 _ W args hs ha.lr).mono fun e W' ⟨v', φ', he, hst, hv⟩ => ?_
  subst he
  refine ⟨by rw [hv.of_flat rfl], ⟨hst.os, hst.tape, hst.output, hst.size, fun b hb => hst.frame b hb fun k B o r hk _ => absurd (T.get_e k) hk⟩⟩
section
open Go.ChangeShapes Go.WideShapes Go.ChangeAt
variable {H : Type} {enc : TypeId × Value → H} {P : Program}
theorem trodAll_below {W W' : World} (hl : laidOutB P = true) (hb : Below W.heap.size W W') : ∀ (ts : List TypeId) (vs : List Value) (ds : List (DataW H)) (ps : List MemPlace),
    (∀ t ∈ ts, P.readableRec t = true ∧ t < P.types.size) → (∀ x ∈ ps, x.block < W.heap.size) →
    DataW.TrodAll enc P W 0 (fun _ => true) true ts vs ds ps → DataW.TrodAll enc P W' 0 (fun b => decide (b < W.heap.size)) true ts vs ds ps := by
  intro ts
  induction ts with
  | nil =>
    intro vs ds ps _ _ h
    cases vs with
    | nil => cases ds with
      | nil => exact h
      | cons _ _ => exact h.elim
    | cons _ _ => exact h.elim
  | cons t ts ih =>
    intro vs ds ps hr hp h
    cases vs with
    | nil => exact h.elim
    | cons v vs =>
      cases ds with
      | nil => exact h.elim
      | cons d ds =>
        obtain ⟨p, q, h1, h2, rfl⟩ := h
        exact ⟨p, q, Below.trod hl (hr t (by simp)).1 (hr t (by simp)).2 h1 hb (fun x hx => hp x (by simp [hx])), ih _ _ _ (fun t ht => hr t (by simp [ht])) (fun x hx => hp x (by simp [hx])) h2, rfl⟩
theorem law_post {fn : Func} {s : ChangeSpec} {tb : TypeId} {W W' : World} {args : Array Value} {ds gs : List (DataW H)} {before : List MemPlace}
    (hl : laidOutB P = true) (hrow0 : (fn.params.toList.all fun t => P.readableRec t && decide (t < P.types.size)) = true) (hres : fn.resultTypes = #[tb]) (htb : P.underlying tb = some .bool) (hvars : s.vars = [])
    (hW : DataW.Whole enc P fn.params.toList s.vars false W args.toList ds gs before) (hb : Below W.heap.size W W')
    (hfn : s.fn H (ds ++ gs) = { results := [.lit (.bool true)], args := ds, vars := [] }) :
    s.post enc P fn false true false false W args (.bool true) W' := by
  have hrow : ∀ t ∈ fn.params.toList, P.readableRec t = true ∧ t < P.types.size := fun t ht => by
    have := List.all_eq_true.1 hrow0 t ht
    simpa using this
  have hW' := hW
  obtain ⟨p, q, hA, hV, rfl, hfz, hnd⟩ := hW
  refine ⟨ds, gs, p ++ q, [], p, [], hW', ?_, ?_, ?_, hb.frame _, fun h => by cases h⟩
  · rw [hfn, hres]
    exact trodAll_mk1 (shut_bool htb _)
  · rw [hfn]
    exact trodAll_below hl hb _ _ _ _ hrow (fun x hx => by have := hW'.lt x (by simp [hx]); simpa using this) hA
  · rw [hfn, hvars]; exact rfl
end
end V
end Go.Proofs.Ytepbdkfkfcckoaa
set_option linter.unusedVariables false
set_option linter.unusedSimpArgs false
noncomputable section
namespace Go.Proofs.Ytepbdkfkfcckoaa
namespace V
theorem bindP_some' {α : Type} (a : α) (K : α → Prop) : bindP (some a) K = K a := rfl
theorem condP_true (A B : Prop) : condP (.bool true) A B = A := rfl
theorem condP_false (A B : Prop) : condP (.bool false) A B = B := rfl
theorem ifP_tt (h : T Obj) (nx : Nat) (A : KV → Prop) (K : KV) : ifP (.bool true) true h nx A K = A K := rfl
theorem ifP_ff (h : T Obj) (nx : Nat) (A : KV → Prop) (K : KV) : ifP (.bool false) false h nx A K = A K := rfl
theorem ifP_tf (h : T Obj) (nx : Nat) (A : KV → Prop) (K : KV) : ifP (.bool true) false h nx A K = K undef h nx := rfl
theorem ifP_ft (h : T Obj) (nx : Nat) (A : KV → Prop) (K : KV) : ifP (.bool false) true h nx A K = K undef h nx := rfl
theorem newP_eq (h : T Obj) (i : Nat) (o : Obj) (K : T Obj → Prop) : newP h i o K = K (h.upd i (some o)) := rfl
theorem optP_some (h : T Obj) (i : Nat) (o : Obj) (K : T Obj → Prop) : optP h i (some o) K = K (h.upd i (some o)) := rfl
theorem optP_none (h : T Obj) (i : Nat) (K : T Obj → Prop) : optP h i none K = K h := rfl
theorem exP_normal (A : Prop) (B : Nat → Prop) (D : Prop) : exP .normal A B D = A := rfl
theorem exP_exit (i : Nat) (A : Prop) (B : Nat → Prop) (D : Prop) : exP (.exit i) A B D = B i := rfl
theorem exP_ret (A : Prop) (B : Nat → Prop) (D : Prop) : exP .ret A B D = D := rfl
theorem beqP_true (A B : Prop) : beqP true A B = A := rfl
theorem beqP_false (A B : Prop) : beqP false A B = B := rfl
theorem bindP_mk {α : Type} {o : Option α} {a : α} {K : α → Prop} (h : o = some a) (k : K a) : bindP o K := by rw [h]; exact k
theorem newP_mk {h : T Obj} {i : Nat} {o : Obj} {K : T Obj → Prop} (k : K (h.upd i (some o))) : newP h i o K := k
theorem optP_mk {h : T Obj} {i : Nat} {o : Obj} {K : T Obj → Prop} (k : K (h.upd i (some o))) : optP h i (some o) K := k
theorem optP_mk0 {h : T Obj} {i : Nat} {K : T Obj → Prop} (k : K h) : optP h i none K := k
theorem condP_t {A B : Prop} (k : A) : condP (.bool true) A B := k
theorem condP_f {A B : Prop} (k : B) : condP (.bool false) A B := k
theorem ifP_tt' {h : T Obj} {nx : Nat} {A : KV → Prop} {K : KV} (k : A K) : ifP (.bool true) true h nx A K := k
theorem ifP_ff' {h : T Obj} {nx : Nat} {A : KV → Prop} {K : KV} (k : A K) : ifP (.bool false) false h nx A K := k
theorem ifP_tf' {h : T Obj} {nx : Nat} {A : KV → Prop} {K : KV} (k : K undef h nx) : ifP (.bool true) false h nx A K := k
theorem ifP_ft' {h : T Obj} {nx : Nat} {A : KV → Prop} {K : KV} (k : K undef h nx) : ifP (.bool false) true h nx A K := k
theorem ifP_u' {w : Bool} {h : T Obj} {nx : Nat} {A : KV → Prop} {K : KV} (k : K undef h nx) : ifP undef w h nx A K := k
theorem wr_i64 {n : Int} (h1 : -9223372036854775808 ≤ n) (h2 : n ≤ 9223372036854775807) : wr .i64 n = n := by simp [wr, h1, h2]
theorem wr_u8 {n : Int} (h1 : 0 ≤ n) (h2 : n ≤ 255) : wr .u8 n = n := by simp [wr, h1, h2]
theorem wr_u64 {n : Int} (h1 : 0 ≤ n) (h2 : n ≤ 18446744073709551615) : wr .u64 n = n := by simp [wr, h1, h2]
theorem intB_add (k : IntKind) (a b : Int) : intB .add (.int k a) (.int k b) = some (.int k (wr k (a + b))) := by simp [intB, intV]
theorem intB_sub (k : IntKind) (a b : Int) : intB .sub (.int k a) (.int k b) = some (.int k (wr k (a - b))) := by simp [intB, intV]
theorem intB_mul (k : IntKind) (a b : Int) : intB .mul (.int k a) (.int k b) = some (.int k (wr k (a * b))) := by simp [intB, intV]
theorem intB_quo (k : IntKind) {a b : Int} (ha : 0 ≤ a) (hb : 0 < b) : intB .quo (.int k a) (.int k b) = some (.int k (wr k (a / b))) := by
  have : b ≠ 0 := by omega
  simp [intB, intV, this, Int.tdiv_eq_ediv_of_nonneg ha]
theorem intB_rem (k : IntKind) {a b : Int} (ha : 0 ≤ a) (hb : 0 < b) : intB .rem (.int k a) (.int k b) = some (.int k (a % b)) := by
  have : b ≠ 0 := by omega
  simp [intB, intV, this, Int.tmod_eq_emod_of_nonneg ha]
theorem intB_eql (k : IntKind) (a b : Int) : intB .eql (.int k a) (.int k b) = some (.bool (decide (a = b))) := by simp [intB, intV]
theorem intB_neq (k : IntKind) (a b : Int) : intB .neq (.int k a) (.int k b) = some (.bool (!decide (a = b))) := by simp [intB, intV]
theorem intB_lss (k : IntKind) (a b : Int) : intB .lss (.int k a) (.int k b) = some (.bool (decide (a < b))) := by simp [intB, intV]
theorem intB_leq (k : IntKind) (a b : Int) : intB .leq (.int k a) (.int k b) = some (.bool (decide (a ≤ b))) := by simp [intB, intV]
theorem intB_gtr (k : IntKind) (a b : Int) : intB .gtr (.int k a) (.int k b) = some (.bool (decide (b < a))) := by simp [intB, intV]
theorem intB_geq (k : IntKind) (a b : Int) : intB .geq (.int k a) (.int k b) = some (.bool (decide (b ≤ a))) := by simp [intB, intV]
theorem intB_shr (k k' : IntKind) {a b : Int} (hb : 0 ≤ b) : intB .shr (.int k a) (.int k' b) = some (.int k (a.fdiv ((2 ^ (min b.toNat k.bits) : Nat) : Int))) := by simp [intB, shiftV, hb]
theorem intB_shl (k k' : IntKind) {a b : Int} (hb : 0 ≤ b) : intB .shl (.int k a) (.int k' b) = some (.int k (wr k (a * ((2 ^ (min b.toNat k.bits) : Nat) : Int)))) := by simp [intB, shiftV, hb]
theorem intB_and64 {a b : Int} (ha : 0 ≤ a) (hb : 0 ≤ b) (ha' : a ≤ 18446744073709551615) (hb' : b ≤ 18446744073709551615) : intB .and (.int .u64 a) (.int .u64 b) = some (.int .u64 (Nat.land a.toNat b.toNat : Nat)) := by simp [intB, intV, bitsV, ha, hb, ha', hb']
theorem intB_or64 {a b : Int} (ha : 0 ≤ a) (hb : 0 ≤ b) (ha' : a ≤ 18446744073709551615) (hb' : b ≤ 18446744073709551615) : intB .or (.int .u64 a) (.int .u64 b) = some (.int .u64 (Nat.lor a.toNat b.toNat : Nat)) := by simp [intB, intV, bitsV, ha, hb, ha', hb']
theorem intB_xor64 {a b : Int} (ha : 0 ≤ a) (hb : 0 ≤ b) (ha' : a ≤ 18446744073709551615) (hb' : b ≤ 18446744073709551615) : intB .xor (.int .u64 a) (.int .u64 b) = some (.int .u64 (Nat.xor a.toNat b.toNat : Nat)) := by simp [intB, intV, bitsV, ha, hb, ha', hb']
theorem convI_int (k k' : IntKind) (n : Int) : convI k (.int k' n) = some (.int k (wr k n)) := rfl
theorem unV_not (b : Bool) : unV .not (.bool b) = some (.bool (!b)) := rfl
theorem boolB_eql (a b : Bool) : boolB .eql (.bool a) (.bool b) = some (.bool (a == b)) := rfl
theorem boolB_neq (a b : Bool) : boolB .neq (.bool a) (.bool b) = some (.bool (!(a == b))) := rfl
theorem pickV_true (a b : Value) : pickV (.bool true) a b = some a := rfl
theorem pickV_false (a b : Value) : pickV (.bool false) a b = some b := rfl
theorem lenSl_slice (a : Option Addr) (n c : Nat) : lenSl (.slice a n c) = some (.int .i64 n) := rfl
abbrev at_ (id off z : Nat) : Value := .pointer (some ⟨id, off, some z⟩)
theorem ptr_at (id : Nat) : ptr id = at_ id 0 0 := rfl
theorem fwdP_at (k id off z : Nat) : fwdP k (at_ id off z) = some (at_ id (off + k) z) := rfl
def cellsIn : Option Obj → Option (List Value)
  | some (.cells c _ _) => some c.toList
  | _ => none
theorem cellsIn_some (c : Array Value) (e : TypeId) (f : Nat × Nat) : cellsIn (some (.cells c e f)) = some c.toList := rfl
theorem take_drop_one {l : List Value} {off : Nat} {v : Value} (h : l[off]? = some v) : (l.drop off).take 1 = [v] := by
  have hl := (List.getElem?_eq_some_iff.1 h).1
  rw [List.drop_eq_getElem_cons hl]
  have := (List.getElem?_eq_some_iff.1 h).2
  simp [this]
theorem cellsAt_own (ro : Ro) (h : T Obj) (id off z n : Nat) : cellsAt ro h ⟨id, off, some z⟩ n = (cellsIn (h.get id)).bind fun c => if off + n ≤ c.length then some ((c.drop off).take n) else none := by
  unfold cellsAt cellsIn
  simp only
  cases h.get id with
  | none => rfl
  | some o =>
    cases o <;> try rfl
    rename_i c e f
    simp only [Option.bind, Array.length_toList]
    by_cases hle : off + n ≤ c.size
    · rw [if_pos hle, Nat.ble_eq_true_of_le hle]
    · rw [if_neg hle]
      cases hb : Nat.ble (off + n) c.size with
      | true => exact absurd (Nat.le_of_ble_eq_true hb) hle
      | false => rfl
theorem load1_own (ro : Ro) (h : T Obj) (id off z : Nat) : load1 ro h (at_ id off z) = (cellsIn (h.get id)).bind fun c => c[off]? := by
  unfold load1
  simp only [asP, Option.bind, cellsAt_own]
  cases hc : cellsIn (h.get id) with
  | none => rfl
  | some c =>
    simp only
    by_cases hle : off + 1 ≤ c.length
    · rw [if_pos hle]
      have hg : c[off]? = some c[off] := List.getElem?_eq_getElem (by omega)
      rw [take_drop_one hg, hg]
    · rw [if_neg hle, List.getElem?_eq_none (by omega)]
theorem loadA_own (ro : Ro) (h : T Obj) (n id off z : Nat) : loadA ro h n (at_ id off z) = (cellsIn (h.get id)).bind fun c => if off + n ≤ c.length then some (.agg ((c.drop off).take n).toArray) else none := by
  unfold loadA
  simp only [asP, Option.bind, cellsAt_own]
  cases cellsIn (h.get id) with
  | none => rfl
  | some c => by_cases hle : off + n ≤ c.length <;> simp [hle]
theorem ixArr_at (n z id off y : Nat) (k : IntKind) {i : Int} (h0 : 0 ≤ i) (h1 : i < n) : ixArr n z (at_ id off y) (.int k i) = some (at_ id (off + i.toNat * z) y) := by
  have hn : natV (.int k i) = some i.toNat := by simp [natV, h0]
  have : Nat.blt i.toNat n = true := by simp [Nat.blt]; omega
  simp [ixArr, hn, asP, this, fwd]
theorem Value.cells_agg (cs : Array Value) : Value.cells (.agg cs) = cs := rfl
theorem cells_int (k : IntKind) (n : Int) : Value.cells (.int k n) = #[.int k n] := rfl
theorem cells_bool (b : Bool) : Value.cells (.bool b) = #[.bool b] := rfl
theorem intB_shr_nat (k k' : IntKind) (a : Nat) {b : Int} (hb : 0 ≤ b) (hk : b ≤ k.bits) : intB .shr (.int k (a : Int)) (.int k' b) = some (.int k ((a / 2 ^ b.toNat : Nat) : Int)) := by
  rw [intB_shr _ _ hb]
  have : min b.toNat k.bits = b.toNat := Nat.min_eq_left (by omega)
  rw [this, Int.ofNat_fdiv]
theorem intB_shr_u64 (k' : IntKind) (a : Nat) {b : Int} (hb : 0 ≤ b) (hk : b ≤ 64) : intB .shr (.int .u64 (a : Int)) (.int k' b) = some (.int .u64 ((a / 2 ^ b.toNat : Nat) : Int)) := intB_shr_nat _ _ a hb hk
theorem intB_shl_u64 (k' : IntKind) (a : Nat) {b : Int} (hb : 0 ≤ b) (hk : b ≤ 64) : intB .shl (.int .u64 (a : Int)) (.int k' b) = some (.int .u64 (wr .u64 ((a * 2 ^ b.toNat : Nat) : Int))) := by
  rw [intB_shl _ _ hb]
  have : min b.toNat IntKind.u64.bits = b.toNat := Nat.min_eq_left (by have : IntKind.u64.bits = 64 := rfl; omega)
  rw [this]; simp
theorem intB_shl1_u64 (k' : IntKind) {b : Int} (hb : 0 ≤ b) (hk : b < 64) : intB .shl (.int .u64 1) (.int k' b) = some (.int .u64 ((2 ^ b.toNat : Nat) : Int)) := by
  have h := intB_shl_u64 k' 1 hb (by omega)
  have h2 : 2 ^ b.toNat < 2 ^ 64 := Nat.pow_lt_pow_right (by decide) (by omega)
  have h3 : (((1 * 2 ^ b.toNat : Nat)) : Int) ≤ 18446744073709551615 := by omega
  rw [wr_u64 (by omega) h3, Nat.one_mul] at h
  exact h
def Fr (h : T Obj) (nx : Nat) : Prop := ∀ i, nx ≤ i → h.get i = none
theorem Fr.e : Fr .e 0 := fun _ _ => rfl
theorem Fr.mono {h : T Obj} {n m : Nat} (hf : Fr h n) (hn : n ≤ m) : Fr h m := fun i hi => hf i (Nat.le_trans hn hi)
theorem Fr.upd {h : T Obj} {n m i : Nat} {o : Option Obj} (hf : Fr h n) (hn : n ≤ m) (hi : i < m) : Fr (h.upd i o) m := fun j hj => by
  rw [T.get_upd_ne _ _ (by omega)]; exact hf j (by omega)
theorem Fr.sub {h h' : T Obj} {n : Nat} (hf : Fr h n) (hs : Sub h' h) : Fr h' n := fun i hi => by
  cases e : h'.get i with
  | none => rfl
  | some o => have := hs i o e; rw [hf i hi] at this; cases this
theorem Sub.refl (h : T Obj) : Sub h h := fun _ _ e => e
theorem Sub.trans {a b c : T Obj} (h1 : Sub a b) (h2 : Sub b c) : Sub a c := fun k o e => h2 k o (h1 k o e)
theorem Sub.upd {h0 h : T Obj} {i : Nat} {o : Option Obj} (hs : Sub h0 h) (hi : h0.get i = none) : Sub h0 (h.upd i o) := fun k x e => by
  by_cases hk : k = i
  · subst hk; rw [hi] at e; cases e
  · rw [T.get_upd_ne _ _ hk]; exact hs k x e
theorem Sub.new {h0 h : T Obj} {n i : Nat} {o : Option Obj} (hf : Fr h0 n) (hi : n ≤ i) (hs : Sub h0 h) : Sub h0 (h.upd i o) := hs.upd (hf i hi)
theorem loopP_rule {B : PT} {Q : KE} (Inv : Nat → Env → T Obj → Nat → Prop)
    (step : ∀ n e h nx, Inv n e h nx → ∀ Q' : KE, (∀ m e' h' h1 nx', m < n → Inv m e' h' nx' → Sub h' h1 → Q' .normal e' h1 nx') → (∀ x e' h' nx', x ≠ .normal → Q x e' h' nx' → Q' x e' h' nx') → B e h nx Q')
    {n : Nat} {e : Env} {h : T Obj} {nx : Nat} (h0 : Inv n e h nx) : loopP B e h nx Q := by
  refine ⟨n + 1, ?_⟩
  have key : ∀ n, (∀ m, m < n → ∀ k, m + 1 ≤ k → ∀ e h nx, Inv m e h nx → iterP B k e h nx Q) → ∀ k, n + 1 ≤ k → ∀ e h nx, Inv n e h nx → iterP B k e h nx Q := by
    intro n ih k hk e h nx hi
    cases k with
    | zero => omega
    | succ k =>
      refine step n e h nx hi _ ?_ ?_
      · intro m e' h' h1 nx' hm hi' hs
        exact ⟨h', hs, ih m hm k (by omega) _ _ _ hi'⟩
      · intro x e' h' nx' hx hq
        cases x with
        | normal => exact absurd rfl hx
        | exit i => exact hq
        | ret => exact hq
  have all : ∀ n, ∀ k, n + 1 ≤ k → ∀ e h nx, Inv n e h nx → iterP B k e h nx Q := by
    intro n
    induction n using Nat.strongRecOn with
    | _ n ih => exact key n ih
  exact all n _ (Nat.le_refl _) _ _ _ h0
def putIn (o : Option Obj) (off : Nat) (vs : List Value) : Option Obj := match o with
  | some (.cells c e f) => if off + vs.length ≤ c.size then (if vs.all cellOk = true then some (.cells (over c.toList off vs).toArray e f) else none) else none
  | _ => none
theorem putIn_cells {c : Array Value} {e : TypeId} {f : Nat × Nat} {off : Nat} {vs : List Value} (h1 : off + vs.length ≤ c.size) (h2 : vs.all cellOk = true) : putIn (some (.cells c e f)) off vs = some (.cells (over c.toList off vs).toArray e f) := by
  simp [putIn, h1, h2]
theorem storeN_own (n : Nat) (h : T Obj) (id off z : Nat) (v : Value) : storeN n h (at_ id off z) v = if v.cells.size = n then (putIn (h.get id) off v.cells.toList).bind (fun o => some (h.upd id (some o))) else none := by
  unfold storeN putIn
  simp only [asP, Option.bind]
  by_cases hn : v.cells.size = n
  · rw [if_pos hn, hn, Nat.beq_refl]
    simp only [storeAtV]
    cases h.get id with
    | none => rfl
    | some o =>
      cases o <;> try rfl
      rename_i c e f
      simp only [Array.length_toList]
      by_cases hle : off + v.cells.size ≤ c.size
      · rw [if_pos hle, Nat.ble_eq_true_of_le hle]
        cases v.cells.toList.all cellOk <;> rfl
      · rw [if_neg hle]
        cases hb : Nat.ble (off + v.cells.size) c.size with
        | true => exact absurd (Nat.le_of_ble_eq_true hb) hle
        | false => rfl
  · rw [if_neg hn]
    cases hb : Nat.beq v.cells.size n with
    | true => exact absurd (Nat.eq_of_beq_eq_true hb) hn
    | false => rfl
theorem over_one {l : List Value} {off : Nat} (v : Value) (h : off < l.length) : over l off [v] = l.set off v := by
  unfold over
  rw [List.set_eq_take_append_cons_drop, if_pos h]
  simp
theorem over_all {l vs : List Value} (h : vs.length = l.length) : over l 0 vs = vs := by
  unfold over
  rw [List.drop_eq_nil_of_le (by omega)]; simp
theorem tl (l : List Value) : l.toArray.toList = l := rfl
theorem ts (l : List Value) : l.toArray.size = l.length := rfl
theorem store1_own {h : T Obj} {id off z : Nat} {v : Value} {l : List Value} {e : TypeId} {f : Nat × Nat} (hg : h.get id = some (.cells l.toArray e f)) (hi : off < l.length) (hv : cellOk v = true) (hc : v.cells = #[v]) :
    storeN 1 h (at_ id off z) v = some (h.upd id (some (.cells (l.set off v).toArray e f))) := by
  rw [storeN_own, hc, hg, if_pos (show #[v].size = 1 from rfl), putIn_cells (by simp; omega) (by simp [hv])]
  simp [over_one v hi]
theorem storeA_own {h : T Obj} {id z n : Nat} {v : Value} {l vs : List Value} {e : TypeId} {f : Nat × Nat} (hg : h.get id = some (.cells l.toArray e f)) (hc : v.cells = vs.toArray) (hn : vs.length = n) (hl : l.length = n) (hv : vs.all cellOk = true) :
    storeN n h (at_ id 0 z) v = some (h.upd id (some (.cells vs.toArray e f))) := by
  rw [storeN_own, hc, hg, if_pos (by simpa using hn), putIn_cells (by simp; omega) (by simpa using hv)]
  simp [over_all (l := l) (vs := vs) (by omega)]
theorem loadA_all {ro : Ro} {h : T Obj} {id z n : Nat} {l : List Value} {e : TypeId} {f : Nat × Nat} (hg : h.get id = some (.cells l.toArray e f)) (hl : l.length = n) : loadA ro h n (at_ id 0 z) = some (.agg l.toArray) := by
  rw [loadA_own, hg]
  subst hl
  simp [cellsIn]
theorem load1_get {ro : Ro} {h : T Obj} {id off z : Nat} {l : List Value} {e : TypeId} {f : Nat × Nat} {v : Value} (hg : h.get id = some (.cells l.toArray e f)) (hv : l[off]? = some v) : load1 ro h (at_ id off z) = some v := by
  rw [load1_own, hg]; exact hv
end V
end Go.Proofs.Ytepbdkfkfcckoaa
set_option linter.unusedVariables false
set_option linter.unusedSimpArgs false
noncomputable section
namespace Go.Proofs.Ytepbdkfkfcckoaa
namespace V
section
variable {α : Type}
def fcN (n : Nat) (k : Nat → α) : α := match n with
  | 0 => k 0
  | m + 1 => k (Nat.succ m)
theorem fcN_eq (n : Nat) (k : Nat → α) : fcN n k = k n := by cases n <;> rfl
def fcI (n : Int) (k : Int → α) : α := match n with
  | .ofNat m => fcN m fun m => k (.ofNat m)
  | .negSucc m => fcN m fun m => k (.negSucc m)
theorem fcI_eq (n : Int) (k : Int → α) : fcI n k = k n := by cases n <;> simp [fcI, fcN_eq]
def fcA (a : Option Addr) (k : Option Addr → α) : α := match a with
  | none => k none
  | some a => fcN a.block fun b => fcN a.off fun o => match a.spot with
    | none => k (some ⟨b, o, none⟩)
    | some z => fcN z fun z => k (some ⟨b, o, some z⟩)
theorem fcA_eq (a : Option Addr) (k : Option Addr → α) : fcA a k = k a := by
  cases a with
  | none => rfl
  | some a => obtain ⟨b, o, s⟩ := a; cases s <;> simp [fcA, fcN_eq]
def fcB : List UInt8 → (List UInt8 → α) → α
  | [], k => k []
  | b :: r, k => fcN b.toNat fun n => fcB r fun r => k (UInt8.ofNat n :: r)
theorem fcB_eq : ∀ (l : List UInt8) (k : List UInt8 → α), fcB l k = k l
  | [], k => rfl
  | b :: r, k => by rw [fcB, fcN_eq, fcB_eq r]; simp
def fcC (v : Value) (k : Value → α) : α := match v with
  | .bool b => match b with
    | true => k (.bool true)
    | false => k (.bool false)
  | .int kd n => fcI n fun n => k (.int kd n)
  | .string s => fcB s.data.toList fun l => k (.string ⟨⟨l⟩⟩)
  | .pointer a => fcA a fun a => k (.pointer a)
  | .slice a l c => fcA a fun a => fcN l fun l => fcN c fun c => k (.slice a l c)
  | .map r => match r with
    | none => k (.map none)
    | some r => fcN r fun r => k (.map (some r))
  | v => k v
theorem fcC_eq (v : Value) (k : Value → α) : fcC v k = k v := by
  cases v with
  | bool b => cases b <;> rfl
  | int kd n => simp [fcC, fcI_eq]
  | string s => simp [fcC, fcB_eq]
  | pointer a => simp [fcC, fcA_eq]
  | slice a l c => simp [fcC, fcA_eq, fcN_eq]
  | map r => cases r <;> simp [fcC, fcN_eq]
  | _ => rfl
def fcL : List Value → (List Value → α) → α
  | [], k => k []
  | v :: r, k => fcC v fun v => fcL r fun r => k (v :: r)
theorem fcL_eq : ∀ (l : List Value) (k : List Value → α), fcL l k = k l
  | [], k => rfl
  | v :: r, k => by rw [fcL, fcC_eq, fcL_eq r]
def fcS : List Value → (List Value → α) → α
  | [], k => k []
  | v :: r, k => fcS r fun r => k (v :: r)
theorem fcS_eq : ∀ (l : List Value) (k : List Value → α), fcS l k = k l
  | [], k => rfl
  | v :: r, k => by rw [fcS, fcS_eq r]
def fcV1 (v : Value) (k : Value → α) : α := match v with
  | .agg cs => fcS cs.toList fun l => k (.agg ⟨l⟩)
  | v => fcC v k
theorem fcV1_eq (v : Value) (k : Value → α) : fcV1 v k = k v := by
  cases v with
  | agg cs => simp [fcV1, fcS_eq]
  | _ => simp only [fcV1, fcC_eq]
def fcVs : List Value → (List Value → α) → α
  | [], k => k []
  | v :: r, k => fcV1 v fun v => fcVs r fun r => k (v :: r)
theorem fcVs_eq : ∀ (l : List Value) (k : List Value → α), fcVs l k = k l
  | [], k => rfl
  | v :: r, k => by rw [fcVs, fcV1_eq, fcVs_eq r]
def fcV (v : Value) (k : Value → α) : α := match v with
  | .tuple cs => fcVs cs.toList fun l => k (.tuple ⟨l⟩)
  | v => fcV1 v k
theorem fcV_eq (v : Value) (k : Value → α) : fcV v k = k v := by
  cases v with
  | tuple cs => simp [fcV, fcVs_eq]
  | _ => simp only [fcV, fcV1_eq]
def fcE : List MapEntry → (List MapEntry → α) → α
  | [], k => k []
  | e :: r, k => fcV1 e.key fun a => fcV1 e.val fun b => fcN e.born fun n => fcE r fun r => k (⟨a, b, n⟩ :: r)
theorem fcE_eq : ∀ (l : List MapEntry) (k : List MapEntry → α), fcE l k = k l
  | [], k => rfl
  | v :: r, k => by rw [fcE, fcV1_eq, fcV1_eq, fcN_eq, fcE_eq r]
def fcO (o : Obj) (k : Obj → α) : α := match o with
  | .cells c e f => fcS c.toList fun l => k (.cells ⟨l⟩ e f)
  | .map es n => fcE es.toList fun l => fcN n fun n => k (.map ⟨l⟩ n)
  | o => k o
theorem fcO_eq (o : Obj) (k : Obj → α) : fcO o k = k o := by
  cases o with
  | cells c e f => simp [fcO, fcS_eq]
  | map es n => simp [fcO, fcE_eq, fcN_eq]
  | _ => rfl
def newK {β : Type} (o : Option β) (f : Nat) : Nat → (T β → α) → α := Nat.rec (motive := fun _ => Nat → (T β → α) → α) (fun _ K => K .e)
  (fun _ ih k K => Nat.rec (motive := fun _ => α) (K (.n .e o .e)) (fun k' _ => Bool.rec (motive := fun _ => α) (ih (Nat.div k' 2) fun r => K (.n .e none r)) (ih (Nat.div k' 2) fun l => K (.n l none .e)) (Nat.beq (Nat.mod k' 2) 0)) k) f
theorem newK_eq {β : Type} (o : Option β) : ∀ (f g k : Nat) (K : T β → α), k < f → k < g → newK o f k K = K (T.updF o g .e k) := by
  intro f
  induction f with
  | zero => intro g k K h; omega
  | succ f ih =>
    intro g k K h1 h2
    cases g with
    | zero => omega
    | succ g =>
      cases k with
      | zero => rfl
      | succ k =>
        show Bool.rec (motive := fun _ => α) (newK o f (k / 2) fun r => K (.n .e none r)) (newK o f (k / 2) fun l => K (.n l none .e)) (Nat.beq (k % 2) 0) = _
        simp only [T.updF]
        rw [ih g _ _ (by omega) (by omega), ih g _ _ (by omega) (by omega)]
        cases Nat.beq (k % 2) 0 <;> rfl
def updT {β : Type} (o : Option β) (t : T β) : Nat → (T β → α) → α := T.rec (motive := fun _ => Nat → (T β → α) → α) (fun k K => newK o (Nat.succ k) k K)
  (fun l v r gl gr k K => Nat.rec (motive := fun _ => α) (K (.n l o r)) (fun k' _ => Bool.rec (motive := fun _ => α) (gr (Nat.div k' 2) fun r => K (.n l v r)) (gl (Nat.div k' 2) fun l => K (.n l v r)) (Nat.beq (Nat.mod k' 2) 0)) k) t
theorem updT_eq {β : Type} (o : Option β) (t : T β) : ∀ (g k : Nat) (K : T β → α), k < g → updT o t k K = K (T.updF o g t k) := by
  induction t with
  | e => intro g k K h; exact newK_eq o _ g k K (Nat.lt_succ_self _) h
  | n l v r ihl ihr =>
    intro g k K h
    cases g with
    | zero => omega
    | succ g =>
      cases k with
      | zero => rfl
      | succ k =>
        show Bool.rec (motive := fun _ => α) (updT o r (k / 2) fun r => K (.n l v r)) (updT o l (k / 2) fun l => K (.n l v r)) (Nat.beq (k % 2) 0) = _
        simp only [T.updF]
        rw [ihl g _ _ (by omega), ihr g _ _ (by omega)]
        cases Nat.beq (k % 2) 0 <;> rfl
def upK {β : Type} (t : T β) (k : Nat) (o : Option β) (K : T β → α) : α := updT o t k K
theorem upK_eq {β : Type} (t : T β) (k : Nat) (o : Option β) (K : T β → α) : upK t k o K = K (t.upd k o) := updT_eq o t _ k K (Nat.lt_succ_self _)
end
def bB {α : Type} (o : Option α) (K : α → Bool) : Bool := match o with
  | some a => K a
  | none => false
theorem bB_some {α : Type} {o : Option α} {K : α → Bool} (h : bB o K = true) : ∃ a, o = some a ∧ K a = true := by
  cases o with
  | none => cases h
  | some a => exact ⟨a, rfl, h⟩
abbrev KB := Value → T Obj → Nat → Bool
abbrev CallB := FuncId → List Value → T Obj → Nat → KB → Bool
def minB (less : Bool) : Value → List Value → Option Value
  | .int k x, [] => some (.int k x)
  | .int k x, .int k' y :: r => minB less (.int k (match less, decide (y < x), decide (x < y) with
    | true, true, _ => y
    | true, false, _ => x
    | false, _, true => y
    | false, _, false => x)) r
  | _, _ => none
termination_by structural _ l => l
theorem minB_eq (less : Bool) : ∀ (l : List Value) (v : Value), minV less (v :: l) = minB less v l := by
  intro l
  induction l with
  | nil => intro v; cases v <;> simp [minV, minB]
  | cons y r ih =>
    intro v
    cases v <;> cases y <;> (conv => lhs; unfold minV) <;> simp only [minB, ih]
    rename_i k1 n1 k2 n2
    cases less <;> cases decide (n2 < n1) <;> cases decide (n1 < n2) <;> rfl
def minL (less : Bool) : List Value → Option Value
  | [] => none
  | v :: l => minB less v l
theorem minL_eq (less : Bool) (l : List Value) : minV less l = minL less l := by
  cases l with
  | nil => simp [minV, minL]
  | cons v l => exact minB_eq less l v
def opQB (P : Program) (ro : Ro) (t : T Value) (h : T Obj) (aid : Nat) (op : Op) : Option (Value × Option Obj) := match op with
  | .call { callee := .builtin .min, args, .. } => (evlL t args.toList).bind fun vs => (minL true vs).bind fun v => some (v, none)
  | .call { callee := .builtin .max, args, .. } => (evlL t args.toList).bind fun vs => (minL false vs).bind fun v => some (v, none)
  | op => opQ P ro t h aid op
theorem opQB_eq (P : Program) (ro : Ro) (t : T Value) (h : T Obj) (aid : Nat) (op : Op) : opQB P ro t h aid op = opQ P ro t h aid op := by
  unfold opQB
  split
  · simp only [opQ, builtinQ, minL_eq]
  · simp only [opQ, builtinQ, minL_eq]
  · rfl
def putK : List Value → Nat → List Value → (List Value → Bool) → Bool
  | l, 0, [], k => k l
  | _ :: r, 0, v :: vs, k => putK r 0 vs fun r => k (v :: r)
  | [], 0, _ :: _, _ => false
  | x :: r, n + 1, vs, k => fcN n fun n => putK r n vs fun r => k (x :: r)
  | [], _ + 1, _, _ => false
theorem putK_eq : ∀ (l : List Value) (n : Nat) (vs : List Value) (k : List Value → Bool), putK l n vs k = if n + vs.length ≤ l.length then k (over l n vs) else false
  | [], 0, [], k => by simp [putK, over]
  | x :: r, 0, [], k => by simp [putK, over]
  | x :: r, 0, v :: vs, k => by
    rw [putK, putK_eq r 0 vs]
    simp [over]
  | [], 0, _ :: _, k => by simp [putK]
  | x :: r, n + 1, vs, k => by
    rw [putK, fcN_eq, putK_eq r n vs]
    have e : n + 1 + vs.length ≤ (x :: r).length ↔ n + vs.length ≤ r.length := by simp; omega
    by_cases h : n + vs.length ≤ r.length
    · rw [if_pos h, if_pos (e.2 h)]
      have : n + 1 + vs.length = (n + vs.length) + 1 := by omega
      simp [over, this]
    · rw [if_neg h, if_neg (fun h2 => h (e.1 h2))]
  | [], n + 1, vs, k => by simp [putK]
def storeAtB (h : T Obj) (a : Addr) (vs : List Value) (K : T Obj → Bool) : Bool :=
  match a.spot with
  | none => false
  | some _ => match h.get a.block with
    | some (.cells c e f) => match vs.all cellOk with
      | true => putK c.toList a.off vs fun l => upK h a.block (some (.cells ⟨l⟩ e f)) K
      | false => false
    | _ => false
theorem storeAtB_eq {h : T Obj} {a : Addr} {vs : List Value} {K : T Obj → Bool} : storeAtB h a vs K = bB (storeAtV h a vs) K := by
  unfold storeAtB storeAtV
  cases a.spot with
  | none => rfl
  | some z =>
    cases h.get a.block with
    | none => rfl
    | some o =>
      cases o <;> try rfl
      simp only [putK_eq, upK_eq, Array.length_toList]
      rename_i c e f
      by_cases hb : a.off + vs.length ≤ c.size
      · rw [if_pos hb, Nat.ble_eq_true_of_le hb]
        cases vs.all cellOk <;> rfl
      · rw [if_neg hb]
        have : Nat.ble (a.off + vs.length) c.size = false := by
          cases hq : Nat.ble (a.off + vs.length) c.size with
          | false => rfl
          | true => exact absurd (Nat.le_of_ble_eq_true hq) hb
        rw [this]
        cases vs.all cellOk <;> rfl
def nthK : List Value → Nat → (Value → Bool) → Bool
  | x :: _, 0, k => k x
  | _ :: r, n + 1, k => nthK r n k
  | [], _, _ => false
theorem nthK_eq : ∀ (l : List Value) (n : Nat) (k : Value → Bool), nthK l n k = bB l[n]? k
  | x :: _, 0, k => rfl
  | _ :: r, n + 1, k => by rw [nthK, nthK_eq r n]; rfl
  | [], n, k => by cases n <;> rfl
def nthR (l : List Value) : Nat → (Value → Bool) → Bool := List.rec (motive := fun _ => Nat → (Value → Bool) → Bool) (fun _ _ => false) (fun x _ ih n k => Nat.rec (motive := fun _ => Bool) (k x) (fun m _ => ih m k) n) l
theorem nthR_eq : ∀ (l : List Value) (n : Nat) (k : Value → Bool), nthR l n k = nthK l n k
  | [], n, k => rfl
  | x :: _, 0, k => rfl
  | _ :: r, n + 1, k => nthR_eq r n k
def takeK : List Value → Nat → (List Value → Bool) → Bool
  | _, 0, k => k []
  | x :: r, n + 1, k => takeK r n fun r => k (x :: r)
  | [], _ + 1, _ => false
theorem takeK_eq : ∀ (l : List Value) (n : Nat) (k : List Value → Bool), takeK l n k = if n ≤ l.length then k (l.take n) else false
  | l, 0, k => by cases l <;> simp [takeK]
  | x :: r, n + 1, k => by
    rw [takeK, takeK_eq r n]
    by_cases h : n ≤ r.length
    · rw [if_pos h, if_pos (by simp; omega)]; simp
    · rw [if_neg h, if_neg (by simp; omega)]
  | [], n + 1, k => by simp [takeK]
def isLen : List Value → Nat → Bool
  | [], 0 => true
  | _ :: r, n + 1 => isLen r n
  | _, _ => false
theorem isLen_eq : ∀ {l : List Value} {n : Nat}, isLen l n = true → l.length = n
  | [], 0, _ => rfl
  | _ :: r, n + 1, h => by rw [List.length_cons, isLen_eq (l := r) h]
  | [], _ + 1, h => by cases h
  | _ :: _, 0, h => by cases h
def dropK : List Value → Nat → (List Value → Bool) → Bool
  | l, 0, k => k l
  | _ :: r, n + 1, k => dropK r n k
  | [], _ + 1, _ => false
theorem dropK_eq : ∀ (l : List Value) (n : Nat) (k : List Value → Bool), dropK l n k = if n ≤ l.length then k (l.drop n) else false
  | l, 0, k => by cases l <;> simp [dropK]
  | _ :: r, n + 1, k => by
    rw [dropK, dropK_eq r n]
    by_cases h : n ≤ r.length
    · rw [if_pos h, if_pos (by simp; omega)]; rfl
    · rw [if_neg h, if_neg (by simp; omega)]
  | [], n + 1, k => by simp [dropK]
def cellsK (ro : Ro) (h : T Obj) (a : Addr) (n : Nat) (K : List Value → Bool) : Bool :=
  match a.spot with
  | none => bB (cellsAt ro h a n) K
  | some _ => match h.get a.block with
    | some (.cells c _ _) => match a.off with
      | 0 => match isLen c.toList n with
        | true => K c.toList
        | false => takeK c.toList n K
      | off + 1 => dropK c.toList (Nat.succ off) fun l => takeK l n K
    | _ => false
theorem cellsK_eq {ro : Ro} {h : T Obj} {a : Addr} {n : Nat} {K : List Value → Bool} : cellsK ro h a n K = bB (cellsAt ro h a n) K := by
  unfold cellsK cellsAt
  cases a.spot with
  | none => rfl
  | some z =>
    cases h.get a.block with
    | none => rfl
    | some o =>
      cases o <;> try rfl
      rename_i c e f
      have key : (if a.off + n ≤ c.size then K ((c.toList.drop a.off).take n) else false) = bB (match Nat.ble (a.off + n) c.size with | true => some ((c.toList.drop a.off).take n) | false => none) K := by
        by_cases hb : a.off + n ≤ c.size
        · rw [if_pos hb, Nat.ble_eq_true_of_le hb]; rfl
        · rw [if_neg hb]
          have : Nat.ble (a.off + n) c.size = false := by
            cases hq : Nat.ble (a.off + n) c.size with
            | false => rfl
            | true => exact absurd (Nat.le_of_ble_eq_true hq) hb
          rw [this]; rfl
      refine Eq.trans ?_ key
      simp only
      cases ho : a.off with
      | zero =>
        simp only [Nat.zero_add, List.drop_zero]
        cases hl : isLen c.toList n with
        | true =>
          have := isLen_eq hl
          rw [if_pos (by simpa using Nat.le_of_eq this.symm), List.take_of_length_le (by omega)]
        | false => simp only [takeK_eq, Array.length_toList]
      | succ off =>
        simp only [dropK_eq, takeK_eq, List.length_drop, Array.length_toList]
        by_cases h1 : off + 1 ≤ c.size
        · rw [if_pos h1]
          by_cases h2 : n ≤ c.size - (off + 1)
          · rw [if_pos h2, if_pos (by omega)]
          · rw [if_neg h2, if_neg (by omega)]
        · rw [if_neg h1, if_neg (by omega)]
def loadK (P : Program) (ro : Ro) (h : T Obj) (t : TypeId) (a : Addr) (K : Value → Bool) : Bool :=
  match isAgg P t with
  | some true => bB (siz P t) fun n => cellsK ro h a n fun l => K (.agg ⟨l⟩)
  | some false => match a.spot with
    | none => bB (loadV P ro h t a) K
    | some _ => match h.get a.block with
      | some (.cells c _ _) => nthR c.toList a.off K
      | _ => false
  | none => false
theorem loadK_eq {P : Program} {ro : Ro} {h : T Obj} {t : TypeId} {a : Addr} {K : Value → Bool} : loadK P ro h t a K = bB (loadV P ro h t a) K := by
  obtain ⟨b, o, s⟩ := a
  unfold loadK
  cases hi : isAgg P t with
  | none => simp only [loadV, hi]; rfl
  | some x =>
    cases x with
    | true =>
      simp only [loadV, hi]
      cases siz P t with
      | none => rfl
      | some n =>
        simp only [bB, Option.bind_some]
        rw [cellsK_eq]
        cases cellsAt ro h ⟨b, o, s⟩ n <;> rfl
    | false =>
      cases s with
      | none => rfl
      | some z =>
        simp only
        have e : loadV P ro h t ⟨b, o, some z⟩ = load1 ro h (at_ b o z) := by
          simp only [loadV, hi]; rfl
        rw [e, load1_own]
        cases h.get b with
        | none => rfl
        | some x =>
          cases x <;> try rfl
          simp only [nthR_eq, nthK_eq]; rfl
def storeB (P : Program) (h : T Obj) (t : TypeId) (a v : Value) (K : T Obj → Bool) : Bool :=
  match a with
  | .pointer (some a) => bB (siz P t) fun n => match Nat.beq v.cells.size n with
    | true => storeAtB h a v.cells.toList K
    | false => false
  | _ => false
theorem storeB_eq {P : Program} {h : T Obj} {t : TypeId} {a v : Value} {K : T Obj → Bool} : storeB P h t a v K = bB (storeV P h t a v) K := by
  unfold storeB storeV
  cases a <;> try rfl
  rename_i a
  cases a with
  | none => rfl
  | some a =>
    cases siz P t with
    | none => rfl
    | some n =>
      simp only [bB, Option.bind]
      cases Nat.beq v.cells.size n with
      | true => exact storeAtB_eq
      | false => rfl
def apB (r : Value × T Obj × Nat) (K : KB) : Bool := fcV r.1 fun v => fcN r.2.2 fun n => K v r.2.1 n
theorem apB_eq (r : Value × T Obj × Nat) (K : KB) : apB r K = K r.1 r.2.1 r.2.2 := by simp [apB, fcV_eq, fcN_eq]
def appendB (P : Program) (ro : Ro) (h : T Obj) (nx : Nat) (ts : Array TypeId) (vs : List Value) (K : KB) : Bool :=
  match ts[0]?, ts[1]?, vs with
  | some t0, some t1, [.slice base len cap, x] => match und P t0 with
    | some (.slice e) => bB (tin P e) fun i => bB (srcV P ro h e i.size i.bytes t1 x) fun s =>
      match Nat.ble (len + s.1) cap with
      | true => match s.1 with
        | 0 => K (.slice base len cap) h nx
        | _ + 1 => match base with
          | none => false
          | some a => match a.spot with
            | none => false
            | some z => match Nat.beq z i.size with
              | true => storeAtB h (fwd a (len * i.size)) s.2 fun h => fcN (len + s.1) fun n => K (.slice base n cap) h nx
              | false => false
      | false => bB (zer P e) fun zv => match Nat.ble ((len + s.1) * i.bytes) big, Nat.ble (len + s.1) big, Nat.blt 0 i.size, Nat.beq zv.cells.size i.size && s.2.all cellOk with
        | true, true, true, true => bB (oldV ro h i.size base len) fun p =>
            fcS (p.1 ++ s.2) fun l => fcN (len + s.1) fun n => upK p.2 nx (some (.cells ⟨l⟩ e)) fun h => fcN (nx + 1) fun nx' => K (.slice (some (own nx i.size)) n n) h nx'
        | _, _, _, _ => false
    | _ => false
  | _, _, _ => false
theorem appendB_eq {P : Program} {ro : Ro} {h : T Obj} {nx : Nat} {ts : Array TypeId} {vs : List Value} {K : KB} : appendB P ro h nx ts vs K = bB (appendV P ro h nx ts vs) fun r => K r.1 r.2.1 r.2.2 := by
  unfold appendB appendV
  cases ts[0]? with
  | none => rfl
  | some t0 =>
    cases ts[1]? with
    | none => rfl
    | some t1 =>
      match vs with
      | [.slice base len cap, x] =>
        simp only
        cases und P t0 with
        | none => rfl
        | some d =>
          cases d <;> try rfl
          rename_i e
          simp only
          cases tin P e with
          | none => rfl
          | some i =>
            simp only [bB, Option.bind_some]
            cases srcV P ro h e i.size i.bytes t1 x with
            | none => rfl
            | some s =>
              simp only [Option.bind_some]
              cases Nat.ble (len + s.1) cap with
              | true =>
                simp only
                cases s.1 with
                | zero => rfl
                | succ q =>
                  cases base with
                  | none => rfl
                  | some a =>
                    simp only
                    cases a.spot with
                    | none => rfl
                    | some z =>
                      simp only
                      cases Nat.beq z i.size with
                      | true =>
                        simp only [storeAtB_eq, fcN_eq]
                        cases storeAtV h (fwd a (len * i.size)) s.2 <;> rfl
                      | false => rfl
              | false =>
                simp only
                cases zer P e with
                | none => rfl
                | some zv =>
                  simp only [Option.bind_some]
                  cases Nat.ble ((len + s.1) * i.bytes) big <;> cases Nat.ble (len + s.1) big <;> cases Nat.blt 0 i.size <;> cases Nat.beq zv.cells.size i.size && s.2.all cellOk <;> try rfl
                  simp only
                  cases oldV ro h i.size base len with
                  | none => rfl
                  | some p => simp only [fcS_eq, fcN_eq, upK_eq]; rfl
      | [] => rfl
      | [v] => cases v <;> rfl
      | .bool _ :: _ :: _ | .int _ _ :: _ :: _ | .float _ _ :: _ :: _ | .complex _ _ _ :: _ :: _ | .string _ :: _ :: _ | .pointer _ :: _ :: _ | .map _ :: _ :: _ | .chan _ :: _ :: _ | .func _ _ _ :: _ :: _ | .nilFunc :: _ :: _ | .iface _ _ :: _ :: _ | .nilIface :: _ :: _ | .agg _ :: _ :: _ | .tuple _ :: _ :: _ => rfl
      | .slice _ _ _ :: _ :: _ :: _ => rfl
def opLB (P : Program) (ro : Ro) (C : CallB) (t : T Value) (h : T Obj) (nx : Nat) (op : Op) (K : KB) : Bool :=
  match op with
  | .store ty a x => bB (evl t a) fun av => bB (evl t x) fun xv => storeB P h ty av xv fun h' => K undef h' nx
  | .mapUpdate ty m k x | .insert ty m k x => bB (evl t m) fun mv => bB (evl t k) fun kv => bB (evl t x) fun xv => bB (mapPutV P h ty mv kv xv) fun h' => K undef h' nx
  | .call { callee := .builtin b, args, argTypes } => bB (evlL t args.toList) fun vs => match b with
    | .append => appendB P ro h nx argTypes vs K
    | .copy => bB (copyV P ro h nx argTypes vs) fun r => apB r K
    | .clear => match vs, argTypes[0]? with
      | [m], some ty => bB (und P ty) fun _ => bB (clearV h m) fun h => K (.tuple #[]) h nx
      | _, _ => false
    | _ => false
  | .call { callee := .value f, args, .. } => bB (evl t f) fun f => bB (evlL t args.toList) fun vs => match f with
    | .func (.func k) a b => C k (a.toList ++ vs ++ b.toList) h nx K
    | _ => false
  | .convert s d x => bB (evl t x) fun v => bB (convSame P h s d v) fun r => K r.1 r.2 nx
  | _ => false
def addK (h : T Obj) (id : Nat) (o : Option Obj) (K : T Obj → Bool) : Bool := match o with
  | none => K h
  | some o => fcO o fun o => upK h id (some o) K
theorem addK_eq (h : T Obj) (id : Nat) (o : Option Obj) (K : T Obj → Bool) : addK h id o K = K (addO h id o) := by
  cases o with
  | none => rfl
  | some o => simp [addK, addO, fcO_eq, upK_eq]
def opRB (P : Program) (ro : Ro) (C : CallB) (t : T Value) (h : T Obj) (nx aid : Nat) (op : Op) (K : KB) : Bool :=
  match loud op with
  | true => opLB P ro C t h nx op K
  | false => match op with
    | .load ty x => bB (evl t x) fun v => match v with
      | .pointer (some a) => loadK P ro h ty a fun v => K v h nx
      | _ => false
    | .move x => bB (evl t x) fun v => K v h nx
    | .assign x => bB (evl t x) fun v => K v h nx
    | op => bB (opQB P ro t h aid op) fun r => fcV r.1 fun v => addK h aid r.2 fun h' => K v h' nx
def putT (n : Nat) (t : T Value) (dst : Option Tmp) (v : Value) (K : T Value → Bool) : Bool :=
  match dst with
  | none => K t
  | some d => match Nat.blt d n with
    | true => upK t d (some v) K
    | false => false
theorem putT_some {n : Nat} {t : T Value} {dst : Option Tmp} {v : Value} {K : T Value → Bool} (h : putT n t dst v K = true) : ∃ t', put n t dst v = some t' ∧ K t' = true := by
  unfold putT at h
  cases dst with
  | none => exact ⟨t, rfl, h⟩
  | some d =>
    simp only at h
    split at h
    · rename_i hb
      rw [upK_eq] at h
      exact ⟨_, by simp only [put]; rw [hb], h⟩
    · cases h
def opsB (P : Program) (ro : Ro) (C : CallB) (n : Nat) (ops : Array Oper) : List Oper → T Value → T Obj → Nat → (T Value → T Obj → Nat → Bool) → Bool
  | [], t, h, nx, Q => Q t h nx
  | o :: r, t, h, nx, Q => match wanted ops t o with
    | true => fcN (nx + 1) fun nx1 => opRB P ro C t h nx1 nx o.op fun v h' nx' => putT n t o.dst v fun t' => opsB P ro C n ops r t' h' nx' Q
    | false => putT n t o.dst undef fun t' => opsB P ro C n ops r t' h nx Q
def opsX (P : Program) (ro : Ro) (C : CallB) (n : Nat) (ops : Array Oper) (l : List Oper) : T Value → T Obj → Nat → (T Value → T Obj → Nat → Bool) → Bool := List.rec (motive := fun _ => T Value → T Obj → Nat → (T Value → T Obj → Nat → Bool) → Bool) (fun t h nx Q => Q t h nx)
  (fun o _ ih t h nx Q => Bool.rec (motive := fun _ => Bool) (putT n t o.dst undef fun t' => ih t' h nx Q) (fcN (nx + 1) fun nx1 => opRB P ro C t h nx1 nx o.op fun v h' nx' => putT n t o.dst v fun t' => ih t' h' nx' Q) (wanted ops t o)) l
theorem opsX_eq (P : Program) (ro : Ro) (C : CallB) (n : Nat) (ops : Array Oper) : ∀ l : List Oper, opsX P ro C n ops l = opsB P ro C n ops l
  | [] => rfl
  | o :: r => by
    funext t h nx Q
    have ih := opsX_eq P ro C n ops r
    simp only [opsB]
    rw [← ih]
    show Bool.rec (motive := fun _ => Bool) _ _ (wanted ops t o) = _
    cases wanted ops t o <;> rfl
def adEq (a b : Option Addr) : Bool := match a, b with
  | none, none => true
  | some a, some b => Nat.beq a.block b.block && Nat.beq a.off b.off && (match a.spot, b.spot with
    | none, none => true
    | some x, some y => Nat.beq x y
    | _, _ => false)
  | _, _ => false
theorem adEq_eq {a b : Option Addr} (h : adEq a b = true) : a = b := by
  unfold adEq at h
  split at h
  · rfl
  · rename_i a b
    obtain ⟨b1, o1, s1⟩ := a
    obtain ⟨b2, o2, s2⟩ := b
    simp only [Bool.and_eq_true] at h
    obtain ⟨⟨h1, h2⟩, h3⟩ := h
    have := Nat.eq_of_beq_eq_true h1
    have := Nat.eq_of_beq_eq_true h2
    subst_vars
    split at h3
    · simp_all
    · have := Nat.eq_of_beq_eq_true h3; simp_all
    · cases h3
  · cases h
def cellEq (a b : Value) : Bool := match a, b with
  | .bool x, .bool y => x == y
  | .int k x, .int k' y => decide (k = k') && decide (x = y)
  | .string x, .string y => x.data.toList == y.data.toList
  | .pointer x, .pointer y => adEq x y
  | .slice x l c, .slice y l' c' => adEq x y && Nat.beq l l' && Nat.beq c c'
  | .map none, .map none => true
  | .map (some x), .map (some y) => Nat.beq x y
  | .nilFunc, .nilFunc => true
  | .nilIface, .nilIface => true
  | _, _ => false
theorem cellEq_eq {a b : Value} (h : cellEq a b = true) : a = b := by
  unfold cellEq at h
  split at h
  · simp_all
  · simp_all
  · rename_i x y
    obtain ⟨⟨x⟩⟩ := x
    obtain ⟨⟨y⟩⟩ := y
    simp_all
  · rw [adEq_eq h]
  · simp only [Bool.and_eq_true] at h
    obtain ⟨⟨h1, h2⟩, h3⟩ := h
    rw [adEq_eq h1, Nat.eq_of_beq_eq_true h2, Nat.eq_of_beq_eq_true h3]
  · rfl
  · rw [Nat.eq_of_beq_eq_true h]
  · rfl
  · rfl
  · cases h
def cellsEq : List Value → List Value → Bool
  | [], [] => true
  | a :: r, b :: s => cellEq a b && cellsEq r s
  | _, _ => false
theorem cellsEq_eq : ∀ {l m : List Value}, cellsEq l m = true → l = m
  | [], [], _ => rfl
  | a :: r, b :: s, h => by
    simp only [cellsEq, Bool.and_eq_true] at h
    rw [cellEq_eq h.1, cellsEq_eq h.2]
  | [], _ :: _, h => by cases h
  | _ :: _, [], h => by cases h
def val1Eq (a b : Value) : Bool := match a, b with
  | .agg x, .agg y => cellsEq x.toList y.toList
  | a, b => cellEq a b
theorem val1Eq_eq {a b : Value} (h : val1Eq a b = true) : a = b := by
  unfold val1Eq at h
  split at h
  · rename_i x y
    obtain ⟨x⟩ := x
    obtain ⟨y⟩ := y
    have := cellsEq_eq h
    simp_all
  · exact cellEq_eq h
def entEq : List MapEntry → List MapEntry → Bool
  | [], [] => true
  | a :: r, b :: s => val1Eq a.key b.key && val1Eq a.val b.val && Nat.beq a.born b.born && entEq r s
  | _, _ => false
theorem entEq_eq : ∀ {l m : List MapEntry}, entEq l m = true → l = m
  | [], [], _ => rfl
  | a :: r, b :: s, h => by
    simp only [entEq, Bool.and_eq_true] at h
    obtain ⟨a1, a2, a3⟩ := a
    obtain ⟨b1, b2, b3⟩ := b
    have h1 := val1Eq_eq h.1.1.1
    have h2 := val1Eq_eq h.1.1.2
    have h3 := Nat.eq_of_beq_eq_true h.1.2
    have h4 := entEq_eq h.2
    simp only at h1 h2 h3
    subst h1; subst h2; subst h3; rw [h4]
  | [], _ :: _, h => by cases h
  | _ :: _, [], h => by cases h
def objEq (a b : Option Obj) : Bool := match a, b with
  | some (.cells x e f), some (.cells y e' f') => Nat.beq e e' && (Nat.beq f.1 f'.1 && Nat.beq f.2 f'.2) && cellsEq x.toList y.toList
  | some (.map x n), some (.map y n') => Nat.beq n n' && entEq x.toList y.toList
  | _, _ => false
theorem objEq_eq {a b : Option Obj} (h : objEq a b = true) : a = b ∧ a.isSome = true := by
  unfold objEq at h
  split at h
  · rename_i x e f y e' f'
    obtain ⟨x⟩ := x
    obtain ⟨y⟩ := y
    obtain ⟨f1, f2⟩ := f
    obtain ⟨f1', f2'⟩ := f'
    simp only [Bool.and_eq_true] at h
    have h1 : e = e' := Nat.eq_of_beq_eq_true h.1.1
    have h2 : f1 = f1' := Nat.eq_of_beq_eq_true h.1.2.1
    have h3 : f2 = f2' := Nat.eq_of_beq_eq_true h.1.2.2
    have h4 : x = y := cellsEq_eq h.2
    subst h1; subst h2; subst h3; subst h4; exact ⟨rfl, rfl⟩
  · rename_i x n y n'
    obtain ⟨x⟩ := x
    obtain ⟨y⟩ := y
    simp only [Bool.and_eq_true] at h
    have h1 : n = n' := Nat.eq_of_beq_eq_true h.1
    have h2 : x = y := entEq_eq h.2
    subst h1; subst h2; exact ⟨rfl, rfl⟩
  · cases h
def sameB (b : Nat) (h h' : T Obj) : Bool := objEq (h.get b) (h'.get b)
theorem sameB_same {b : Nat} {h h' : T Obj} (e : sameB b h h' = true) : same b h h' := objEq_eq e
def allL (b : List Nat) (i : Nat) (h h' : T Obj) : List (Nat × Nat) → Bool
  | [] => true
  | l :: r => match freeL b l.1 i with
    | true => sameB l.2 h h' && allL b i h h' r
    | false => allL b i h h' r
theorem allL_all {b : List Nat} {i : Nat} {h h' : T Obj} : ∀ {ls : List (Nat × Nat)}, allL b i h h' ls = true → ∀ l ∈ ls, freeL b l.1 i = true → same l.2 h h'
  | [], _, l, hl, _ => by cases hl
  | a :: r, e, l, hl, hf => by
    unfold allL at e
    rcases List.mem_cons.1 hl with rfl | hl
    · rw [hf] at e
      simp only [Bool.and_eq_true] at e
      exact sameB_same e.1
    · split at e
      · simp only [Bool.and_eq_true] at e
        exact allL_all e.2 l hl hf
      · exact allL_all e l hl hf
def allM (b : List Nat) (i a : Nat) : List (Nat × T Obj × T Obj) → Bool
  | [] => true
  | m :: r => match freeL b m.1 i with
    | true => sameB a m.2.1 m.2.2 && allM b i a r
    | false => allM b i a r
theorem allM_all {b : List Nat} {i a : Nat} : ∀ {ms : List (Nat × T Obj × T Obj)}, allM b i a ms = true → ∀ m ∈ ms, freeL b m.1 i = true → same a m.2.1 m.2.2
  | [], _, l, hl, _ => by cases hl
  | x :: r, e, l, hl, hf => by
    unfold allM at e
    rcases List.mem_cons.1 hl with rfl | hl
    · rw [hf] at e
      simp only [Bool.and_eq_true] at e
      exact sameB_same e.1
    · split at e
      · simp only [Bool.and_eq_true] at e
        exact allM_all e.2 l hl hf
      · exact allM_all e l hl hf
def opsDB (P : Program) (ro : Ro) (C : CallB) (n : Nat) (ops : Array Oper) (b : List Nat) (n0 : Nat) : List Oper → Nat → List (Nat × Nat) → List (Nat × T Obj × T Obj) → T Value → T Obj → Nat → (T Value → T Obj → Nat → Bool) → Bool
  | [], _, _, _, t, h, nx, Q => Q t h nx
  | o :: r, i, ls, ms, t, h, nx, Q => match wanted ops t o with
    | true => fcN (n0 + i) fun aid => opRB P ro C t h nx aid o.op fun v h' nx' => putT n t o.dst v fun t' => match loud o.op with
      | true => allL b i h h' ls && opsDB P ro C n ops b n0 r (i + 1) ls ((i, h, h') :: ms) t' h' nx' Q
      | false => match rdB P t o.op with
        | some a => allM b i a ms && opsDB P ro C n ops b n0 r (i + 1) ((i, a) :: ls) ms t' h' nx' Q
        | none => opsDB P ro C n ops b n0 r (i + 1) ls ms t' h' nx' Q
    | false => putT n t o.dst undef fun t' => opsDB P ro C n ops b n0 r (i + 1) ls ms t' h nx Q
def befF (ops : Array Oper) : List Nat := CheckFast.beforeL ops.toList 0 []
theorem befF_eq (ops : Array Oper) : befF ops = (bef ops).toList := by
  have := CheckFast.beforeF_eq ops
  unfold befF bef
  rw [← this]; rfl
abbrev QB := Ex → T Value → T Obj → Nat → Bool
def loopB (B : T Value → T Obj → Nat → QB → Bool) : Nat → T Value → T Obj → Nat → QB → Bool
  | 0, _, _, _, _ => false
  | k + 1, t, h, nx, Q => B t h nx fun x t h nx => match x with
    | .normal => loopB B k t h nx Q
    | .exit i => Q (.exit i) t h nx
    | .ret => Q .ret t h nx
def codeE (P : Program) (ro : Ro) (C : CallB) (n : Nat) : Code → T Value → T Obj → Nat → QB → Bool
  | .skip, t, h, nx, Q => Q .normal t h nx
  | .label _, t, h, nx, Q => Q .normal t h nx
  | .ret, t, h, nx, Q => Q .ret t h nx
  | .exit id, t, h, nx, Q => Q (.exit id) t h nx
  | .seq a b, t, h, nx, Q => codeE P ro C n a t h nx fun x t h nx => match x with
    | .normal => codeE P ro C n b t h nx Q
    | .exit i => Q (.exit i) t h nx
    | .ret => Q .ret t h nx
  | .cond c a b, t, h, nx, Q => bB (evl t c) fun v => match v with
    | .bool true => codeE P ro C n a t h nx Q
    | .bool false => codeE P ro C n b t h nx Q
    | _ => false
  | .block id b, t, h, nx, Q => codeE P ro C n b t h nx fun x t h nx => match x with
    | .normal => Q .normal t h nx
    | .exit i => match Nat.beq i id with
      | true => Q .normal t h nx
      | false => Q (.exit i) t h nx
    | .ret => Q .ret t h nx
  | .loop b, t, h, nx, Q => loopB (codeE P ro C n b) 100000 t h nx Q
  | .scope b, t, h, nx, Q => codeE P ro C n b t h nx Q
  | .region _ ops draw, t, h, nx, Q => match draw with
    | false => opsB P ro C n ops ops.toList t h nx (Q .normal)
    | true => match drawOkL P ops (befF ops) with
      | true => fcN (nx + ops.size) fun nx' => opsDB P ro C n ops (befF ops) nx ops.toList 0 [] [] t h nx' (Q .normal)
      | false => false
  | _, _, _, _, _ => false
def codeX (P : Program) (ro : Ro) (C : CallB) (n : Nat) (c : Code) : T Value → T Obj → Nat → QB → Bool := Code.rec (motive := fun _ => T Value → T Obj → Nat → QB → Bool)
  (fun t h nx Q => Q .normal t h nx)
  (fun _ ops draw t h nx Q => Bool.rec (motive := fun _ => Bool) (opsX P ro C n ops ops.toList t h nx (Q .normal))
    (Bool.rec (motive := fun _ => Bool) false (fcN (nx + ops.size) fun nx' => opsDB P ro C n ops (befF ops) nx ops.toList 0 [] [] t h nx' (Q .normal)) (drawOkL P ops (befF ops))) draw)
  (fun _ _ ia ib t h nx Q => ia t h nx fun x t h nx => Ex.rec (motive := fun _ => Bool) (ib t h nx Q) (fun i => Q (.exit i) t h nx) (Q .ret t h nx) x)
  (fun c _ _ ia ib t h nx Q => bB (evl t c) fun v => match v with
    | .bool true => ia t h nx Q
    | .bool false => ib t h nx Q
    | _ => false)
  (fun id _ ib t h nx Q => ib t h nx fun x t h nx => Ex.rec (motive := fun _ => Bool) (Q .normal t h nx) (fun i => Bool.rec (motive := fun _ => Bool) (Q (.exit i) t h nx) (Q .normal t h nx) (Nat.beq i id)) (Q .ret t h nx) x)
  (fun _ ib t h nx Q => loopB ib 100000 t h nx Q)
  (fun _ _ _ _ _ _ _ _ _ _ => false)
  (fun id t h nx Q => Q (.exit id) t h nx)
  (fun _ ib t h nx Q => ib t h nx Q)
  (fun _ t h nx Q => Q .normal t h nx)
  (fun _ _ _ _ _ => false)
  (fun t h nx Q => Q .ret t h nx) (fun _ _ _ _ _ => false) c
theorem codeX_eq (P : Program) (ro : Ro) (C : CallB) (n : Nat) (c : Code) : codeX P ro C n c = codeE P ro C n c := by
  induction c with
  | skip => rfl
  | region id ops draw =>
    funext t h nx Q
    show Bool.rec (motive := fun _ => Bool) (opsX P ro C n ops ops.toList t h nx (Q .normal)) (Bool.rec (motive := fun _ => Bool) false (fcN (nx + ops.size) fun nx' => opsDB P ro C n ops (befF ops) nx ops.toList 0 [] [] t h nx' (Q .normal)) (drawOkL P ops (befF ops))) draw = _
    rw [opsX_eq]
    simp only [codeE]
    cases draw with
    | false => rfl
    | true => cases drawOkL P ops (befF ops) <;> rfl
  | seq a b iha ihb =>
    funext t h nx Q
    show (codeX P ro C n a t h nx fun x t h nx => Ex.rec (motive := fun _ => Bool) (codeX P ro C n b t h nx Q) (fun i => Q (.exit i) t h nx) (Q .ret t h nx) x) = _
    rw [iha, ihb]
    simp only [codeE]
    congr 1
    funext x t h nx
    cases x <;> rfl
  | cond c a b iha ihb =>
    funext t h nx Q
    show (bB (evl t c) fun v => match v with
      | .bool true => codeX P ro C n a t h nx Q
      | .bool false => codeX P ro C n b t h nx Q
      | _ => false) = _
    rw [iha, ihb]
    simp only [codeE]
  | block id b ihb =>
    funext t h nx Q
    show (codeX P ro C n b t h nx fun x t h nx => Ex.rec (motive := fun _ => Bool) (Q .normal t h nx) (fun i => Bool.rec (motive := fun _ => Bool) (Q (.exit i) t h nx) (Q .normal t h nx) (Nat.beq i id)) (Q .ret t h nx) x) = _
    rw [ihb]
    simp only [codeE]
    congr 1
    funext x t h nx
    cases x with
    | normal => rfl
    | ret => rfl
    | exit i => simp only; cases Nat.beq i id <;> rfl
  | loop b ihb =>
    funext t h nx Q
    show loopB (codeX P ro C n b) 100000 t h nx Q = _
    rw [ihb]
    simp only [codeE]
  | rangeFunc => rfl
  | exit id => rfl
  | scope b ihb =>
    funext t h nx Q
    show codeX P ro C n b t h nx Q = _
    rw [ihb]
    simp only [codeE]
  | label l => rfl
  | goto l => rfl
  | ret => rfl
  | refuse => rfl
def entryK : List Value → Nat → T Value → (T Value → Bool) → Bool
  | [], _, t, K => K t
  | v :: vs, i, t, K => upK t i (some v) fun t => entryK vs (Nat.succ i) t K
theorem entryK_eq : ∀ (l : List Value) (i : Nat) (t : T Value) (K : T Value → Bool), entryK l i t K = K (entryT l i t)
  | [], i, t, K => rfl
  | v :: vs, i, t, K => by rw [entryK, upK_eq, entryK_eq vs]; rfl
abbrev OrcT := FuncId → List Value → Option (Nat × Nat × Nat × TypeId × List Value)
def noOrc : OrcT := fun _ _ => none
abbrev OrcM := FuncId → List Value → T Obj → Nat → Option (Value × T Obj × Nat)
def noM : OrcM := fun _ _ _ _ => none
def callM (P : Program) (ro : Ro) (O : OrcT) (M : OrcM) : Nat → CallB
  | 0, _, _, _, _, _ => false
  | k + 1, f, args, h, nx, K => match M f args h nx with
   | some r => K r.1 r.2.1 r.2.2
   | none => match O f args with
   | some (z, l, c, e, cs) => fcN z fun z => fcN l fun l => fcN c fun c => fcL cs fun cs => upK h nx (some (.cells cs.toArray e)) fun h' => K (.slice (some ⟨nx, 0, some z⟩) l c) h' (Nat.succ nx)
   | none => bB P.funcs[f]? fun fn => bB fn.body fun body => match Nat.ble args.length fn.ntmps with
    | true => entryK args 0 .e fun t => codeX P ro (callM P ro O M k) fn.ntmps body t h nx fun x t h nx => match x with
      | .exit _ => false
      | .normal => bB (resV P ro h t fn.results.toList) fun vs => fcV (resOf vs) fun v => K v h nx
      | .ret => bB (resV P ro h t fn.results.toList) fun vs => fcV (resOf vs) fun v => K v h nx
    | false => false
abbrev callE (P : Program) (ro : Ro) (O : OrcT) : Nat → CallB := callM P ro O noM
section
variable {P : Program} {ro : Ro}
def CallS (P : Program) (ro : Ro) (C : CallB) : Prop := ∀ f args h nx K, C f args h nx K = true → ∃ k v h' nx', call P ro k f args h nx v h' nx' ∧ K v h' nx' = true
theorem opLB_sound {C : CallB} (hC : CallS P ro C) {t : T Value} {h : T Obj} {nx : Nat} {op : Op} {K : KB} (hl : opLB P ro C t h nx op K = true) :
    ∃ k v h' nx', opL P ro (call P ro k) t h nx op v h' nx' ∧ K v h' nx' = true := by
  cases op with
  | store ty a x =>
    obtain ⟨a', h1, hl⟩ := bB_some hl
    obtain ⟨x', h2, hl⟩ := bB_some hl
    rw [storeB_eq] at hl
    obtain ⟨h', h4, hl⟩ := bB_some hl
    exact ⟨0, _, _, _, ⟨a', x', h1, h2, h4, rfl, rfl⟩, hl⟩
  | mapUpdate ty m k x | insert ty m k x =>
    obtain ⟨m', h1, hl⟩ := bB_some hl
    obtain ⟨k', h2, hl⟩ := bB_some hl
    obtain ⟨x', h3, hl⟩ := bB_some hl
    obtain ⟨h', h4, hl⟩ := bB_some hl
    exact ⟨0, _, _, _, ⟨m', k', x', h1, h2, h3, h4, rfl, rfl⟩, hl⟩
  | call c =>
    obtain ⟨callee, args, ts⟩ := c
    cases callee with
    | builtin b =>
      obtain ⟨vs, h1, hl⟩ := bB_some hl
      cases b <;> try (exact Bool.noConfusion hl)
      case append =>
        simp only [appendB_eq] at hl
        obtain ⟨r, h2, hl⟩ := bB_some hl
        exact ⟨0, _, _, _, ⟨vs, h1, h2⟩, hl⟩
      case copy =>
        obtain ⟨r, h2, hl⟩ := bB_some hl
        rw [apB_eq] at hl
        exact ⟨0, _, _, _, ⟨vs, h1, h2⟩, hl⟩
      case clear =>
        simp only at hl
        split at hl
        · rename_i m ty hty
          obtain ⟨d, h2, hl⟩ := bB_some hl
          obtain ⟨h', h3, hl⟩ := bB_some hl
          exact ⟨0, _, _, _, ⟨_, h1, m, ty, rfl, hty, by rw [h2]; rfl, h3, rfl, rfl⟩, hl⟩
        · cases hl
    | value f =>
      obtain ⟨fv, h1, hl⟩ := bB_some hl
      obtain ⟨vs, h2, hl⟩ := bB_some hl
      split at hl
      · rename_i k a b _
        obtain ⟨k', v, h', nx', h3, h4⟩ := hC _ _ _ _ _ hl
        exact ⟨k', v, h', nx', ⟨k, a, b, vs, h1, h2, h3⟩, h4⟩
      · cases hl
    | invoke r m => cases hl
  | convert s d x =>
    obtain ⟨v, h1, hl⟩ := bB_some hl
    obtain ⟨r, h2, hl⟩ := bB_some hl
    exact ⟨0, _, _, _, ⟨v, h1, h2, rfl⟩, hl⟩
  | _ => cases hl
theorem opRB_sound {C : CallB} (hC : CallS P ro C) {t : T Value} {h : T Obj} {nx aid : Nat} {op : Op} {K : KB} (hl : opRB P ro C t h nx aid op K = true) :
    ∃ k v h' nx', opR P ro (call P ro k) t h nx aid op v h' nx' ∧ K v h' nx' = true := by
  unfold opRB at hl
  unfold opR
  cases hq : loud op with
  | true => rw [hq] at hl; exact opLB_sound hC hl
  | false =>
    rw [hq] at hl
    have gen : ∀ op, bB (opQB P ro t h aid op) (fun r => fcV r.1 fun v => addK h aid r.2 fun h' => K v h' nx) = true → ∃ (v : Value) (h' : T Obj) (nx' : Nat), (∃ ob, opQ P ro t h aid op = some (v, ob) ∧ h' = addO h aid ob ∧ nx' = nx) ∧ K v h' nx' = true := by
      intro op hl
      simp only [fcV_eq, addK_eq, opQB_eq] at hl
      obtain ⟨r, h1, h2⟩ := bB_some hl
      exact ⟨r.1, _, _, ⟨r.2, h1, rfl, rfl⟩, h2⟩
    simp only at hl ⊢
    have key : ∃ v h' nx', (∃ ob, opQ P ro t h aid op = some (v, ob) ∧ h' = addO h aid ob ∧ nx' = nx) ∧ K v h' nx' = true := by
      split at hl
      · rename_i ty x
        obtain ⟨v, h1, hl⟩ := bB_some hl
        split at hl
        · rename_i a
          rw [loadK_eq] at hl
          obtain ⟨u, h2, h3⟩ := bB_some hl
          exact ⟨u, h, nx, ⟨none, by simp only [opQ]; rw [h1]; show (loadV P ro h ty a).bind _ = _; rw [h2]; rfl, rfl, rfl⟩, h3⟩
        · cases hl
      · obtain ⟨v, h1, hl⟩ := bB_some hl
        exact ⟨v, h, nx, ⟨none, by simp only [opQ]; rw [h1]; rfl, rfl, rfl⟩, hl⟩
      · obtain ⟨v, h1, hl⟩ := bB_some hl
        exact ⟨v, h, nx, ⟨none, by simp only [opQ]; rw [h1]; rfl, rfl, rfl⟩, hl⟩
      · exact gen _ hl
    obtain ⟨v, h', nx', q1, q2⟩ := key
    exact ⟨0, v, h', nx', q1, q2⟩
theorem opsB_sound {C : CallB} (hC : CallS P ro C) {n : Nat} {ops : Array Oper} : ∀ (l : List Oper) (t : T Value) (h : T Obj) (nx : Nat) (Q : T Value → T Obj → Nat → Bool), opsB P ro C n ops l t h nx Q = true →
    ∃ k s', opsR P ro (call P ro k) n ops l ⟨t, h, nx⟩ s' ∧ Q s'.t s'.h s'.nx = true := by
  intro l
  induction l with
  | nil => intro t h nx Q hq; exact ⟨0, _, rfl, hq⟩
  | cons o r ih =>
    intro t h nx Q hq
    simp only [opsB, fcN_eq] at hq
    simp only [opsR]
    cases hw : wanted ops t o with
    | true =>
      rw [hw] at hq
      obtain ⟨k1, v, h', nx', h1, h2⟩ := opRB_sound hC hq
      obtain ⟨t', h3, h4⟩ := putT_some h2
      obtain ⟨k2, s', h5, h6⟩ := ih _ _ _ _ h4
      exact ⟨max k1 k2, s', ⟨v, h', nx', t', opR_le (call_le (Nat.le_max_left _ _)) h1, h3, opsR_le (call_le (Nat.le_max_right _ _)) _ _ _ h5⟩, h6⟩
    | false =>
      rw [hw] at hq
      obtain ⟨t', h3, h4⟩ := putT_some hq
      obtain ⟨k2, s', h5, h6⟩ := ih _ _ _ _ h4
      exact ⟨k2, s', ⟨t', h3, h5⟩, h6⟩
theorem opsDB_sound {C : CallB} (hC : CallS P ro C) {n n0 : Nat} {ops : Array Oper} : ∀ (l : List Oper) (i : Nat) (ls : List (Nat × Nat)) (ms : List (Nat × T Obj × T Obj)) (t : T Value) (h : T Obj) (nx : Nat) (Q : T Value → T Obj → Nat → Bool),
    opsDB P ro C n ops (bef ops).toList n0 l i ls ms t h nx Q = true → ∃ k s', opsD P ro (call P ro k) n ops n0 l i ls ms ⟨t, h, nx⟩ s' ∧ Q s'.t s'.h s'.nx = true := by
  intro l
  induction l with
  | nil => intro i ls ms t h nx Q hq; exact ⟨0, _, rfl, hq⟩
  | cons o r ih =>
    intro i ls ms t h nx Q hq
    simp only [opsDB, fcN_eq] at hq
    simp only [opsD]
    cases hw : wanted ops t o with
    | true =>
      rw [hw] at hq
      obtain ⟨k1, v, h', nx', h1, h2⟩ := opRB_sound hC hq
      obtain ⟨t', h3, h4⟩ := putT_some h2
      cases hl : loud o.op with
      | true =>
        rw [hl] at h4
        simp only [Bool.and_eq_true] at h4
        obtain ⟨k2, s', h5, h6⟩ := ih _ _ _ _ _ _ _ h4.2
        refine ⟨max k1 k2, s', ⟨v, h', nx', t', opR_le (call_le (Nat.le_max_left _ _)) h1, h3, ?_, opsD_le (call_le (Nat.le_max_right _ _)) _ _ _ _ _ _ h5⟩, h6⟩
        intro q hq hf
        exact allL_all h4.1 q hq (by rw [← freeL_eq] at hf; exact hf)
      | false =>
        rw [hl] at h4
        simp only at h4
        cases hr : rdB P t o.op with
        | none =>
          rw [hr] at h4
          obtain ⟨k2, s', h5, h6⟩ := ih _ _ _ _ _ _ _ h4
          exact ⟨max k1 k2, s', ⟨v, h', nx', t', opR_le (call_le (Nat.le_max_left _ _)) h1, h3, opsD_le (call_le (Nat.le_max_right _ _)) _ _ _ _ _ _ h5⟩, h6⟩
        | some a =>
          rw [hr] at h4
          simp only [Bool.and_eq_true] at h4
          obtain ⟨k2, s', h5, h6⟩ := ih _ _ _ _ _ _ _ h4.2
          refine ⟨max k1 k2, s', ⟨v, h', nx', t', opR_le (call_le (Nat.le_max_left _ _)) h1, h3, ?_, opsD_le (call_le (Nat.le_max_right _ _)) _ _ _ _ _ _ h5⟩, h6⟩
          intro q hq hf
          exact allM_all h4.1 q hq (by rw [← freeL_eq] at hf; exact hf)
    | false =>
      rw [hw] at hq
      obtain ⟨t', h3, h4⟩ := putT_some hq
      obtain ⟨k2, s', h5, h6⟩ := ih _ _ _ _ _ _ _ h4
      exact ⟨k2, s', ⟨t', h3, h5⟩, h6⟩
def CodeS (P : Program) (ro : Ro) (n : Nat) (c : Code) (B : T Value → T Obj → Nat → QB → Bool) : Prop :=
  ∀ t h nx Q, B t h nx Q = true → ∃ k x s', code P ro k n c ⟨t, h, nx⟩ x s' ∧ Q x s'.t s'.h s'.nx = true
theorem loopB_sound {n : Nat} {b : Code} {B : T Value → T Obj → Nat → QB → Bool} (hB : CodeS P ro n b B) : ∀ (j : Nat) (t : T Value) (h : T Obj) (nx : Nat) (Q : QB), loopB B j t h nx Q = true →
    ∃ k x s', code P ro k n (.loop b) ⟨t, h, nx⟩ x s' ∧ Q x s'.t s'.h s'.nx = true := by
  intro j
  induction j with
  | zero => intro t h nx Q hq; cases hq
  | succ j ih =>
    intro t h nx Q hq
    obtain ⟨k1, x, s1, h1, h2⟩ := hB _ _ _ _ hq
    cases x with
    | normal =>
      obtain ⟨k2, x, s2, h5, h6⟩ := ih _ _ _ _ h2
      exact ⟨max k1 k2 + 1, x, s2, .inl ⟨s1, s1.h, code_le (Nat.le_max_left _ _) _ _ _ _ _ h1, fun _ _ e => e, code_le (Nat.le_max_right _ _) _ _ _ _ _ h5⟩, h6⟩
    | exit id => exact ⟨k1 + 1, _, s1, .inr ⟨by simp, h1⟩, h2⟩
    | ret => exact ⟨k1 + 1, _, s1, .inr ⟨by simp, h1⟩, h2⟩
theorem codeE_sound {C : CallB} (hC : CallS P ro C) {n : Nat} : ∀ c : Code, CodeS P ro n c (codeE P ro C n c) := by
  intro c
  induction c with
  | skip | label => intro t h nx Q hp; exact ⟨1, .normal, _, ⟨rfl, rfl⟩, hp⟩
  | ret => intro t h nx Q hp; exact ⟨1, .ret, _, ⟨rfl, rfl⟩, hp⟩
  | exit id => intro t h nx Q hp; exact ⟨1, .exit id, _, ⟨rfl, rfl⟩, hp⟩
  | seq a b iha ihb =>
    intro t h nx Q hp
    obtain ⟨k1, x, s1, h1, h2⟩ := iha _ _ _ _ hp
    cases x with
    | normal =>
      obtain ⟨k2, x, s2, h5, h6⟩ := ihb _ _ _ _ h2
      exact ⟨max k1 k2 + 1, x, s2, .inl ⟨s1, code_le (Nat.le_max_left _ _) _ _ _ _ _ h1, code_le (Nat.le_max_right _ _) _ _ _ _ _ h5⟩, h6⟩
    | exit id => exact ⟨k1 + 1, _, s1, .inr ⟨by simp, h1⟩, h2⟩
    | ret => exact ⟨k1 + 1, _, s1, .inr ⟨by simp, h1⟩, h2⟩
  | cond c a b iha ihb =>
    intro t h nx Q hp
    obtain ⟨v, h1, h2⟩ := bB_some hp
    split at h2
    · obtain ⟨k, x, s1, h3, h4⟩ := iha _ _ _ _ h2
      exact ⟨k + 1, x, s1, ⟨true, h1, h3⟩, h4⟩
    · obtain ⟨k, x, s1, h3, h4⟩ := ihb _ _ _ _ h2
      exact ⟨k + 1, x, s1, ⟨false, h1, h3⟩, h4⟩
    · cases h2
  | block id b ihb =>
    intro t h nx Q hp
    obtain ⟨k, x, s1, h1, h2⟩ := ihb _ _ _ _ hp
    cases x with
    | normal => exact ⟨k + 1, _, s1, ⟨_, h1, rfl⟩, h2⟩
    | ret => exact ⟨k + 1, _, s1, ⟨_, h1, rfl⟩, h2⟩
    | exit i =>
      refine ⟨k + 1, _, s1, ⟨_, h1, rfl⟩, ?_⟩
      simp only at h2 ⊢
      cases hb : Nat.beq i id with
      | true => rw [hb] at h2; exact h2
      | false => rw [hb] at h2; exact h2
  | loop b ihb => intro t h nx Q hp; exact loopB_sound ihb _ _ _ _ _ hp
  | scope b ihb =>
    intro t h nx Q hp
    obtain ⟨k, x, s1, h1, h2⟩ := ihb _ _ _ _ hp
    exact ⟨k + 1, x, s1, h1, h2⟩
  | region id ops draw =>
    intro t h nx Q hp
    cases draw with
    | false =>
      obtain ⟨k, s', h1, h2⟩ := opsB_sound hC _ _ _ _ _ hp
      exact ⟨k + 1, .normal, s', ⟨rfl, h1⟩, h2⟩
    | true =>
      simp only [codeE] at hp
      rw [befF_eq, drawOkL_eq] at hp
      cases hd : drawOk P ops with
      | false => rw [hd] at hp; cases hp
      | true =>
        rw [hd] at hp
        simp only [fcN_eq] at hp
        obtain ⟨k, s', h1, h2⟩ := opsDB_sound hC _ _ _ _ _ _ _ _ hp
        exact ⟨k + 1, .normal, s', ⟨rfl, hd, h1⟩, h2⟩
  | _ => intro t h nx Q hp; cases hp
theorem callM_sound {O : OrcT} {M : OrcM} (hO : ∀ f args z l c e cs, O f args = some (z, l, c, e, cs) → OrcS P f args z l c cs) (hM : ∀ f args h nx v h' nx', M f args h nx = some (v, h', nx') → ∃ j, call P ro j f args h nx v h' nx') : ∀ k, CallS P ro (callM P ro O M k) := by
  intro k
  induction k with
  | zero => intro f args h nx K hc; cases hc
  | succ k ih =>
    intro f args h nx K hc
    simp only [callM] at hc
    cases hm : M f args h nx with
    | some r =>
      obtain ⟨v, h', nx'⟩ := r
      rw [hm] at hc
      obtain ⟨j, hj⟩ := hM _ _ _ _ _ _ _ hm
      exact ⟨j, v, h', nx', hj, hc⟩
    | none =>
    rw [hm] at hc
    simp only at hc
    cases hq : O f args with
    | some r =>
      obtain ⟨z, l, c, e, cs⟩ := r
      rw [hq] at hc
      simp only [fcN_eq, fcL_eq, upK_eq] at hc
      exact ⟨0, _, _, _, .inr (.inr ⟨z, l, c, cs, e, hO _ _ _ _ _ _ _ hq, rfl, fun _ _ e => e, rfl⟩), hc⟩
    | none =>
    rw [hq] at hc
    simp only at hc
    obtain ⟨fn, h1, hc⟩ := bB_some hc
    obtain ⟨body, h2, hc⟩ := bB_some hc
    split at hc
    · rename_i hb
      rw [entryK_eq, codeX_eq] at hc
      obtain ⟨j, x, s, h3, h4⟩ := codeE_sound ih body _ _ _ _ hc
      cases x with
      | exit i => cases h4
      | normal =>
        obtain ⟨vs, h5, h6⟩ := bB_some h4
        rw [fcV_eq] at h6
        exact ⟨j, _, _, _, .inl ⟨fn, body, .normal, s, vs, h1, h2, Nat.le_of_ble_eq_true hb, h3, .inl rfl, h5, rfl, fun _ _ e => e, rfl⟩, h6⟩
      | ret =>
        obtain ⟨vs, h5, h6⟩ := bB_some h4
        rw [fcV_eq] at h6
        exact ⟨j, _, _, _, .inl ⟨fn, body, .ret, s, vs, h1, h2, Nat.le_of_ble_eq_true hb, h3, .inr rfl, h5, rfl, fun _ _ e => e, rfl⟩, h6⟩
    · cases hc
theorem callE_sound {O : OrcT} (hO : ∀ f args z l c e cs, O f args = some (z, l, c, e, cs) → OrcS P f args z l c cs) (k : Nat) : CallS P ro (callE P ro O k) := callM_sound hO (fun _ _ _ _ _ _ _ h => by cases h) k
structure Cp where
  f : FuncId
  args : List Value
  h : T Obj
  nx : Nat
  v : Value
  h' : T Obj
  nx' : Nat
def endB (want : Value) : KB := fun v _ _ => val1Eq v want
theorem noOrc_ok {P : Program} : ∀ f args z l c e cs, noOrc f args = some (z, l, c, e, cs) → OrcS P f args z l c cs := fun _ _ _ _ _ _ _ h => by cases h
theorem call_sub {k : Nat} {f : FuncId} {args : List Value} {h h' h1 : T Obj} {nx nx' : Nat} {v : Value} (hc : call P ro k f args h nx v h' nx') (hs : Sub h1 h') : call P ro k f args h nx v h1 nx' := by
  rcases hc with ⟨fn, body, e, s, vs, g1, g2, g3, g4, g5, g6, g7, g8, g9⟩ | ⟨g1, g2, g3, g4⟩ | ⟨z, l, c, cs, e, g1, g2, g3, g4⟩
  · exact .inl ⟨fn, body, e, s, vs, g1, g2, g3, g4, g5, g6, g7, fun k o hk => g8 k o (hs k o hk), g9⟩
  · exact .inr (.inl ⟨g1, g2, fun k o hk => g3 k o (hs k o hk), g4⟩)
  · exact .inr (.inr ⟨z, l, c, cs, e, g1, g2, fun k o hk => g3 k o (hs k o hk), g4⟩)
theorem callP_evK {O : OrcT} (hO : ∀ f args z l c e cs, O f args = some (z, l, c, e, cs) → OrcS P f args z l c cs) {k : Nat} {f : FuncId} {args : List Value} {h : T Obj} {nx : Nat} {T : KB} {K : KV} (hc : callE P ro O k f args h nx T = true) (hK : ∀ v h' nx', T v h' nx' = true → ∃ h1, Sub h1 h' ∧ K v h1 nx') : callP P ro f args h nx K := by
  obtain ⟨j, v, h', nx', h1, h2⟩ := callE_sound hO k _ _ _ _ _ hc
  obtain ⟨h3, h4, h5⟩ := hK _ _ _ h2
  exact ⟨j, v, h3, nx', call_sub h1 h4, h5⟩
theorem callP_ev {O : OrcT} (hO : ∀ f args z l c e cs, O f args = some (z, l, c, e, cs) → OrcS P f args z l c cs) {k : Nat} {f : FuncId} {args : List Value} {nx : Nat} {want : Value} {K : KV} (h : callE P ro O k f args .e nx (endB want) = true) (hK : ∀ n, K want .e n) : callP P ro f args .e nx K :=
  callP_evK hO h fun v h' nx' hv => ⟨.e, (fun k o hk => by rw [T.get_e] at hk; cases hk), by rw [val1Eq_eq hv]; exact hK _⟩
end
end V
end Go.Proofs.Ytepbdkfkfcckoaa
set_option linter.unusedVariables false
set_option linter.unusedSimpArgs false
noncomputable section
namespace Go.Proofs.Ytepbdkfkfcckoaa
namespace V
theorem orc_of {P : Program} (hz : zerosOk P = true) (hn : namesOk P = true) (hm : P.follows .mixedOrders = true) {f : FuncId} {want : Value} (hf : flat want = true) (hb : ((P.funcs[f]?).bind (·.body)).isSome = true)
    (he : ∀ ro : Ro, callP P ro f [] .e 0 fun v _ _ => v = want) : Orc P f want := by
  refine ⟨hf, ?_, fun W => ?_⟩
  · cases hq : P.funcs[f]? with
    | none => rw [hq] at hb; cases hb
    | some fn =>
      rw [hq] at hb
      refine ⟨fn, rfl, ?_⟩
      simp only [Option.bind_some] at hb
      cases hc : fn.body with
      | none => rw [hc] at hb; cases hb
      | some b => rfl
  · obtain ⟨j, v, h', nx', hc, hv⟩ := he (roOf W)
    subst hv
    have hs : SS (roOf W) W.heap.size W (fun _ => none) .e 0 W := ⟨roOf_sim W, fun _ _ => rfl⟩
    refine ((call_sound (ro := roOf W) (N := W.heap.size) (w0 := W) hz hn hm _ _ _ _ _ _ _ hc).2 _ W #[] hs .nil).mono fun e W' ⟨v', φ', he, hst, hv⟩ => ?_
    subst he
    exact ⟨by rw [hv.of_flat hf], hst.size, fun b hb => hst.frame b hb fun k B o r hk _ => absurd (T.get_e k) hk, hst.os, hst.tape, hst.output⟩
theorem orc_ev {P : Program} (hz : zerosOk P = true) (hn : namesOk P = true) (hm : P.follows .mixedOrders = true) {O : OrcT} (hO : ∀ f args z l c e cs, O f args = some (z, l, c, e, cs) → OrcS P f args z l c cs) {f : FuncId} {want : Value} {k : Nat} (hf : flat want = true) (hb : ((P.funcs[f]?).bind (·.body)).isSome = true)
    (he : ∀ ro : Ro, callE P ro O k f [] .e 0 (endB want) = true) : Orc P f want := orc_of hz hn hm hf hb fun ro => callP_ev hO (he ro) fun _ => rfl
theorem LR.rigid {N : Nat} {φ : Phi} : ∀ {l : List Value}, l.all V.rigid = true → LR N φ l l
  | [], _ => .nil
  | x :: l, h => by
    simp only [List.all_cons, Bool.and_eq_true] at h
    refine .cons ?_ (LR.rigid h.2)
    have hx := h.1
    cases x with
    | agg cs => exact VR.aggL (LR.flat fun x hx' => List.all_eq_true.1 (show cs.toList.all V.flat = true from hx) x hx')
    | _ => exact .flat hx
end V
end Go.Proofs.Ytepbdkfkfcckoaa
set_option linter.unusedVariables false
set_option linter.unusedSimpArgs false
noncomputable section
namespace Go.Proofs.Ytepbdkfkfcckoaa
namespace V
theorem cellsAt_sub {ro : Ro} {h h' : T Obj} {a : Addr} {n : Nat} {l : List Value} (hs : Sub h h') (hc : cellsAt ro h a n = some l) : cellsAt ro h' a n = some l := by
  unfold cellsAt at hc ⊢
  cases hsp : a.spot with
  | none => rw [hsp] at hc; exact hc
  | some z =>
    rw [hsp] at hc
    simp only at hc ⊢
    cases hg : h.get a.block with
    | none => rw [hg] at hc; cases hc
    | some o => rw [hg] at hc; rw [hs _ _ hg]; exact hc
theorem roCells_length {ro : Ro} : ∀ {n : Nat} {a : Addr} {l : List Value}, roCells ro a n = some l → l.length = n
  | 0, a, l, h => by cases h; rfl
  | n + 1, a, l, h => by
    obtain ⟨v, h1, h⟩ := bind_some' h
    obtain ⟨r, h2, h⟩ := bind_some' h
    cases h
    simp [roCells_length h2]
theorem roCells_part {ro : Ro} : ∀ {off n k : Nat} {a : Addr} {l : List Value}, roCells ro a n = some l → a.spot = none → off + k ≤ n → roCells ro ⟨a.block, a.off + off, none⟩ k = some ((l.drop off).take k)
  | 0, n, 0, a, l, h, hs, hk => by simp [roCells]
  | 0, 0, k + 1, a, l, h, hs, hk => by omega
  | 0, n + 1, k + 1, a, l, h, hs, hk => by
    obtain ⟨v, h1, h⟩ := bind_some' h
    obtain ⟨r, h2, h⟩ := bind_some' h
    cases h
    have ih := roCells_part (off := 0) (k := k) h2 rfl (by omega)
    have ha : (⟨a.block, a.off + 0, none⟩ : Addr) = a := by cases a; simp_all
    rw [ha]
    simp only [roCells, h1, Option.bind_some]
    simp only [Nat.add_zero] at ih
    rw [ih]; simp
  | off + 1, 0, k, a, l, h, hs, hk => by omega
  | off + 1, n + 1, k, a, l, h, hs, hk => by
    obtain ⟨v, h1, h⟩ := bind_some' h
    obtain ⟨r, h2, h⟩ := bind_some' h
    cases h
    have ih := roCells_part (off := off) (k := k) h2 rfl (by omega)
    rw [show a.off + (off + 1) = a.off + 1 + off by omega, List.drop_succ_cons]
    exact ih
theorem roCells_of {ro : Ro} : ∀ {l : List Value} {a : Addr}, a.spot = none → (∀ j x, l[j]? = some x → ro ⟨a.block, a.off + j, none⟩ = some x) → roCells ro a l.length = some l
  | [], a, hs, h => rfl
  | v :: l, a, hs, h => by
    have ha : (⟨a.block, a.off + 0, none⟩ : Addr) = a := by cases a; simp_all
    have h0 := h 0 v rfl
    rw [ha] at h0
    have ih := roCells_of (l := l) (a := ⟨a.block, a.off + 1, none⟩) rfl fun j x hx => by
      have := h (j + 1) x (by simpa using hx)
      rw [show a.off + 1 + j = a.off + (j + 1) by omega]; exact this
    simp [roCells, h0, ih]
theorem cellsAt_part {ro : Ro} {h : T Obj} {a : Addr} {n off k : Nat} {l : List Value} (hc : cellsAt ro h a n = some l) (hk : off + k ≤ n) : cellsAt ro h (elt a off) k = some ((l.drop off).take k) := by
  obtain ⟨b, o, s⟩ := a
  cases s with
  | none => exact roCells_part (a := ⟨b, o, none⟩) hc rfl hk
  | some z =>
    rw [cellsAt_own] at hc
    obtain ⟨c, h1, h2⟩ := bind_some' hc
    split at h2
    · rename_i hle
      cases h2
      show cellsAt ro h ⟨b, o + off, some 0⟩ k = _
      rw [cellsAt_own, h1]
      simp only [Option.bind_some]
      rw [if_pos (by omega), List.drop_take, List.drop_drop, List.take_take, Nat.min_eq_left (by omega)]
    · cases h2
theorem flatten_part {z : Nat} : ∀ {l : List (List Value)}, (∀ x ∈ l, x.length = z) → l.flatten.length = l.length * z ∧ ∀ i x, l[i]? = some x → (l.flatten.drop (i * z)).take z = x
  | [], _ => ⟨by simp, fun i x hx => by simp at hx⟩
  | y :: r, hz => by
    have hy := hz y (by simp)
    obtain ⟨h1, h2⟩ := flatten_part (l := r) fun x hx => hz x (by simp [hx])
    refine ⟨by simp [h1, hy, Nat.add_mul]; omega, ?_⟩
    intro i x hx
    cases i with
    | zero => simp at hx; subst hx; subst hy; simp
    | succ i =>
      have := h2 i x (by simpa using hx)
      rw [Nat.succ_mul, show i * z + z = y.length + i * z by omega, List.flatten_cons, List.drop_append, List.drop_eq_nil_of_le (Nat.le_add_right _ _)]
      simpa using this
theorem flatten_take {z : Nat} : ∀ {l : List (List Value)} (n : Nat), (∀ x ∈ l, x.length = z) → l.flatten.take (n * z) = (l.take n).flatten
  | [], n, _ => by simp
  | y :: r, 0, _ => by simp
  | y :: r, n + 1, hz => by
    have hy := hz y (by simp)
    rw [List.take_succ_cons, List.flatten_cons, List.flatten_cons, Nat.succ_mul, show n * z + z = y.length + n * z by omega, List.take_append, List.take_of_length_le (Nat.le_add_right _ _), Nat.add_sub_cancel_left,
      flatten_take n fun x hx => hz x (by simp [hx])]
def Sl (ro : Ro) (h : T Obj) (v : Value) (z : Nat) (l : List (List Value)) : Prop :=
  (v = .slice none 0 0 ∧ l = []) ∨ ∃ a cap, v = .slice (some a) l.length cap ∧ l.length ≤ cap ∧ (a.spot = none ∨ a.spot = some z) ∧ (∀ x ∈ l, x.length = z) ∧ cellsAt ro h a (l.length * z) = some l.flatten
theorem Sl.at {ro : Ro} {h : T Obj} {a : Addr} {z : Nat} {l : List (List Value)} (hz : ∀ x ∈ l, x.length = z) (hc : cellsAt ro h a (l.length * z) = some l.flatten) : ∀ i x, l[i]? = some x → x.length = z ∧ cellsAt ro h (elt a (i * z)) z = some x := by
  intro i x hx
  refine ⟨hz x (List.mem_of_getElem? hx), ?_⟩
  have hi := (List.getElem?_eq_some_iff.1 hx).1
  have : i * z + z ≤ l.length * z := by rw [← Nat.succ_mul]; exact Nat.mul_le_mul_right _ hi
  rw [cellsAt_part hc this, (flatten_part hz).2 i x hx]
def elPtr (z : Nat) (v : Value) (i : Nat) : Value := match v with
  | .slice (some a) _ _ => .pointer (some (elt a (i * z)))
  | _ => undef
section
variable {ro : Ro} {h h' : T Obj} {v : Value} {z : Nat} {l : List (List Value)}
theorem Sl.nil : Sl ro h (.slice none 0 0) z [] := .inl ⟨rfl, rfl⟩
theorem Sl.sub (hs : Sub h h') (hl : Sl ro h v z l) : Sl ro h' v z l := by
  rcases hl with hl | ⟨a, cap, h1, h2, h3, h4⟩
  · exact .inl hl
  · exact .inr ⟨a, cap, h1, h2, h3, h4.1, cellsAt_sub hs h4.2⟩
theorem Sl.len (hl : Sl ro h v z l) : lenSl v = some (.int .i64 l.length) := by
  rcases hl with ⟨rfl, rfl⟩ | ⟨a, cap, rfl, _⟩ <;> rfl
theorem Sl.ix (hl : Sl ro h v z l) (k : IntKind) {i : Nat} (hi : i < l.length) : ixSl z v (.int k (i : Int)) = some (elPtr z v i) := by
  rcases hl with ⟨rfl, rfl⟩ | ⟨a, cap, rfl, h2, h3, h4⟩
  · simp at hi
  · have hn : natV (.int k (i : Int)) = some i := by simp [natV]
    have hb : Nat.blt i l.length = true := by simp [Nat.blt]; omega
    unfold ixSl
    rw [hn]
    simp only [Option.bind, hb]
    rcases h3 with h3 | h3
    · rw [h3]; simp [elPtr, elt, fwd, h3]
    · rw [h3]; simp [elPtr, elt, h3]
theorem Sl.loadA (hl : Sl ro h v z l) {i : Nat} {x : List Value} (hx : l[i]? = some x) : loadA ro h z (elPtr z v i) = some (.agg x.toArray) := by
  rcases hl with ⟨rfl, rfl⟩ | ⟨a, cap, rfl, h2, h3, h4⟩
  · simp at hx
  · simp [V.loadA, elPtr, asP, (Sl.at h4.1 h4.2 i x hx).2]
theorem Sl.load1 (hl : Sl ro h v 1 l) {i : Nat} {x : Value} (hx : l[i]? = some [x]) : load1 ro h (elPtr 1 v i) = some x := by
  rcases hl with ⟨rfl, rfl⟩ | ⟨a, cap, rfl, h2, h3, h4⟩
  · simp at hx
  · have := (Sl.at h4.1 h4.2 i _ hx).2
    simp only [V.load1, elPtr, asP, Option.bind, this]
theorem sameV_ptr {a : Addr} {n : Nat} {x : List Value} (hs : Sub h h') (hx : cellsAt ro h a n = some x) : sameV (.pointer (some a)) h h' := by
  unfold sameV blk
  cases hz : a.spot with
  | none => simp only [hz]
  | some z =>
    simp only [hz]
    unfold cellsAt at hx
    rw [hz] at hx
    cases hg : h.get a.block with
    | none => rw [hg] at hx; cases hx
    | some o => exact ⟨by rw [hg, hs _ _ hg], by rw [hg]; rfl⟩
theorem Sl.same (hs : Sub h h') (hl : Sl ro h v z l) {i : Nat} (hi : i < l.length) : sameV (elPtr z v i) h h' := by
  rcases hl with ⟨rfl, rfl⟩ | ⟨b, cap, rfl, h2, h3, h4⟩
  · simp at hi
  · exact sameV_ptr hs (Sl.at h4.1 h4.2 i _ (List.getElem?_eq_getElem hi)).2
end
theorem sameV_own {h h' : T Obj} {id off z : Nat} {o : Obj} (hg : h.get id = some o) (hs : h'.get id = some o) : sameV (at_ id off z) h h' := ⟨by rw [hg, hs], by rw [hg]; rfl⟩
theorem Sl.own {ro : Ro} {h : T Obj} {id z cap : Nat} {l : List (List Value)} {e : TypeId} {f : Nat × Nat} (hg : h.get id = some (.cells l.flatten.toArray e f)) (hz : ∀ x ∈ l, x.length = z) (hc : l.length ≤ cap) : Sl ro h (.slice (some (V.own id z)) l.length cap) z l := by
  refine .inr ⟨V.own id z, cap, rfl, hc, .inr rfl, hz, ?_⟩
  have h1 := (flatten_part hz).1
  show cellsAt ro h ⟨id, 0, some z⟩ _ = _
  rw [cellsAt_own, hg, cellsIn_some]
  simp only [Option.bind_some]
  rw [if_pos (by rw [h1]; omega), List.drop_zero, List.take_of_length_le (by rw [h1]; omega)]
theorem exP_e {i : Nat} {A : Prop} {B : Nat → Prop} {D : Prop} (h : B i) : exP (.exit i) A B D := h
theorem exP_r {A : Prop} {B : Nat → Prop} {D : Prop} (h : D) : exP .ret A B D := h
theorem beqP_t {A B : Prop} (h : A) : beqP true A B := h
theorem Sl.take {P : Program} {t e : TypeId} {ro : Ro} {h : T Obj} {v : Value} {z : Nat} {l : List (List Value)} (hl : Sl ro h v z l) (hu : und P t = some (.slice e)) (hz : siz P e = some z) (hz0 : 0 < z) {n : Nat} (hn : n ≤ l.length) (k : IntKind) :
    ∃ r, sliceV P t v none (some (.int k (n : Int))) none = some r ∧ Sl ro h r z (l.take n) := by
  have hnv : natV (.int k (n : Int)) = some n := by simp [natV]
  rcases hl with ⟨rfl, rfl⟩ | ⟨a, cap, rfl, h2, h3, h4⟩
  · simp at hn; subst hn
    refine ⟨.slice none 0 0, ?_, .inl ⟨rfl, rfl⟩⟩
    unfold sliceV
    simp [hu, hz, boundV, natV]
  · have hb : Nat.ble n cap = true := Nat.ble_eq_true_of_le (by omega)
    have hlen : (l.take n).length = n := by rw [List.length_take]; omega
    refine ⟨.slice (some a) n cap, ?_, .inr ⟨a, cap, by rw [hlen], by rw [hlen]; omega, h3, fun x hx => h4.1 x (List.mem_of_mem_take hx), ?_⟩⟩
    · unfold sliceV
      have hb1 : Nat.ble n l.length = true := Nat.ble_eq_true_of_le hn
      have hb0 : Nat.ble 0 n = true := Nat.ble_eq_true_of_le (Nat.zero_le _)
      have e0 : fwd a (0 * z) = a := by simp [fwd]
      have e1 : boundV none cap cap = some cap := rfl
      have e2 : boundV (some (.int k (n : Int))) l.length cap = some n := by simp [boundV, hnv, hb]
      have e3 : boundV none 0 n = some 0 := rfl
      simp only [hu, hz, Option.bind, e1, e2, e3, hb, Option.isNone, Bool.true_or, Nat.sub_zero]
      rcases h3 with h3 | h3
      · simp only [h3]
        cases hc : Nat.beq cap 0 with
        | true => simp only
        | false => simp only [e0]
      · simp only [h3, Nat.beq_refl, e0]
    · have hk : 0 + n * z ≤ l.length * z := by rw [Nat.zero_add]; exact Nat.mul_le_mul_right _ hn
      have := cellsAt_part h4.2 hk
      rw [List.drop_zero, flatten_take n h4.1] at this
      rw [hlen]
      rcases h3 with h3 | h3
      · have e : elt a 0 = a := by obtain ⟨b, o, sp⟩ := a; change sp = none at h3; subst h3; rfl
        rw [e] at this; exact this
      · unfold cellsAt at this ⊢
        simp only [elt, h3, Option.map, Nat.add_zero] at this ⊢
        exact this
def Own (h : T Obj) (v : Value) (z : Nat) (e : TypeId) (l : List (List Value)) (lo hi : Nat) : Prop :=
  (v = .slice none 0 0 ∧ l = []) ∨ ∃ id, lo ≤ id ∧ id < hi ∧ v = .slice (some (own id z)) l.length l.length ∧ (∀ x ∈ l, x.length = z) ∧ h.get id = some (.cells l.flatten.toArray e)
theorem Own.sl {ro : Ro} {h : T Obj} {v : Value} {z : Nat} {e : TypeId} {l : List (List Value)} {lo hi : Nat} (ho : Own h v z e l lo hi) : Sl ro h v z l := by
  rcases ho with ho | ⟨id, _, _, rfl, h4, h5⟩
  · exact .inl ho
  · exact Sl.own h5 h4 (Nat.le_refl _)
theorem Own.nil {h : T Obj} {z : Nat} {e : TypeId} {lo hi : Nat} : Own h (.slice none 0 0) z e [] lo hi := .inl ⟨rfl, rfl⟩
theorem Own.keep {h h' : T Obj} {v : Value} {z : Nat} {e : TypeId} {l : List (List Value)} {lo hi hi' : Nat} (ho : Own h v z e l lo hi) (hh : hi ≤ hi') (hk : ∀ id, lo ≤ id → id < hi → ∀ o, h.get id = some o → h'.get id = some o) : Own h' v z e l lo hi' := by
  rcases ho with ho | ⟨id, h1, h2, h3, h4, h5⟩
  · exact .inl ho
  · exact .inr ⟨id, h1, by omega, h3, h4, hk id h1 h2 _ h5⟩
theorem append_own {P : Program} {ro : Ro} {h : T Obj} {v x : Value} {z nx lo hi : Nat} {t e : TypeId} {i : TypeInfo} {zv : Value} {l m : List (List Value)} (ho : Own h v z e l lo hi) (hx : Sl ro h x z m) (hu : und P t = some (.slice e)) (hi' : tin P e = some i) (hz : i.size = z) (hz0 : 0 < z) (hzer : zer P e = some zv) (hzs : zv.cells.size = z)
    (hm : m ≠ []) (hok : m.flatten.all cellOk = true) (hb : (l.length + m.length) * i.bytes ≤ big) (hb2 : l.length + m.length ≤ big) (hlo : lo ≤ nx) (hnx : hi ≤ nx) :
    ∃ h', appendV P ro h nx #[t, t] [v, x] = some (.slice (some (own nx z)) (l ++ m).length (l ++ m).length, h', nx + 1) ∧ Own h' (.slice (some (own nx z)) (l ++ m).length (l ++ m).length) z e (l ++ m) lo (nx + 1) ∧
      (∀ k, (k < lo ∨ hi ≤ k) → k ≠ nx → h'.get k = h.get k) ∧ (∀ k, k ≠ nx → h'.get k = h.get k ∨ h'.get k = none) := by
  have hml : 0 < m.length := List.length_pos_iff.2 hm
  obtain ⟨a, capx, rfl, hcx, hsx, hzx, hxc⟩ : ∃ a cap, x = .slice (some a) m.length cap ∧ m.length ≤ cap ∧ (a.spot = none ∨ a.spot = some z) ∧ (∀ x ∈ m, x.length = z) ∧ cellsAt ro h a (m.length * z) = some m.flatten := by
    rcases hx with ⟨_, hx⟩ | hx
    · exact absurd hx hm
    · exact hx
  have hb1 : Nat.ble ((l.length + m.length) * i.bytes) big = true := Nat.ble_eq_true_of_le hb
  have hb2' : Nat.ble (l.length + m.length) big = true := Nat.ble_eq_true_of_le hb2
  have hb3 : Nat.blt 0 z = true := by simp [Nat.blt]; omega
  have hfull : Nat.ble (l.length + m.length) l.length = false := by
    cases hq : Nat.ble (l.length + m.length) l.length with
    | false => rfl
    | true => have := Nat.le_of_ble_eq_true hq; omega
  rcases ho with ⟨rfl, rfl⟩ | ⟨id, h1, h2, rfl, h4, h5⟩
  · refine ⟨h.upd nx (some (.cells m.flatten.toArray e)), ?_, .inr ⟨nx, hlo, by omega, by simp, by simpa using hzx, by rw [T.get_upd_same]; simp⟩, fun k _ hk => T.get_upd_ne _ _ hk, fun k hk => .inl (T.get_upd_ne _ _ hk)⟩
    simp only [List.length_nil] at hb1 hb2' hfull
    simp only [appendV, List.getElem?_toArray, List.getElem?_cons_zero, List.getElem?_cons_succ, hu, hi', Option.bind_some, srcV, hz, hxc, hfull, hzer, hb1, hb2', hb3, hzs, Nat.beq_refl, hok, oldV]
    simp
  · have hl := (flatten_part h4).1
    have hcl : cellsAt ro h ⟨id, 0, some z⟩ (l.length * z) = some l.flatten := by
      rw [cellsAt_own, h5, cellsIn_some]
      simp only [Option.bind_some]
      rw [if_pos (by rw [hl]; omega), List.drop_zero, List.take_of_length_le (by rw [hl]; omega)]
    refine ⟨(h.upd id none).upd nx (some (.cells (l.flatten ++ m.flatten).toArray e)), ?_, .inr ⟨nx, hlo, by omega, by simp, ?_, by rw [T.get_upd_same]; simp⟩, ?_, ?_⟩
    · simp only [appendV, List.getElem?_toArray, List.getElem?_cons_zero, List.getElem?_cons_succ, hu, hi', Option.bind_some, srcV, hz, hxc, hfull, hzer, hb1, hb2', hb3, hzs, Nat.beq_refl, hok, oldV, own, hcl]
      simp
    · intro x hx
      rcases List.mem_append.1 hx with hx | hx
      · exact h4 x hx
      · exact hzx x hx
    · intro k hk hne
      rw [T.get_upd_ne _ _ hne, T.get_upd_ne _ _ (by omega)]
    · intro k hne
      rw [T.get_upd_ne _ _ hne]
      by_cases e : k = id
      · subst e; right; rw [T.get_upd_same]
      · left; rw [T.get_upd_ne _ _ e]
end V
end Go.Proofs.Ytepbdkfkfcckoaa
set_option linter.unusedVariables false
set_option linter.unusedSimpArgs false
noncomputable section
namespace Go.Proofs.Ytepbdkfkfcckoaa
namespace V
theorem condP_d {p : Prop} {dp : Decidable p} {A B : Prop} (h1 : p → A) (h2 : ¬ p → B) : condP (.bool (@decide p dp)) A B := by
  by_cases hp : p
  · rw [decide_eq_true hp]; exact h1 hp
  · rw [decide_eq_false hp]; exact h2 hp
theorem kb {K : KV} {h : T Obj} {nx n : Nat} {b c : Bool} (hK : ∀ n, nx ≤ n → K (.bool b) h n) (e : b = c) (hn : nx ≤ n) : K (.bool c) h n := by subst e; exact hK n hn
theorem ki {K : KV} {h : T Obj} {nx n : Nat} {k : IntKind} {b c : Int} (hK : ∀ n, nx ≤ n → K (.int k b) h n) (e : b = c) (hn : nx ≤ n) : K (.int k c) h n := by subst e; exact hK n hn
section
variable {k : IntKind} {a b : Int} {K : Value → Prop}
theorem lss_t (h : a < b) (hk : K (.bool true)) : bindP (intB .lss (.int k a) (.int k b)) K := by rw [intB_lss, decide_eq_true h]; exact hk
theorem lss_f (h : b ≤ a) (hk : K (.bool false)) : bindP (intB .lss (.int k a) (.int k b)) K := by rw [intB_lss, decide_eq_false (by omega)]; exact hk
theorem lss_s (h1 : a < b → K (.bool true)) (h2 : b ≤ a → K (.bool false)) : bindP (intB .lss (.int k a) (.int k b)) K := by
  by_cases h : a < b
  · exact lss_t h (h1 h)
  · exact lss_f (by omega) (h2 (by omega))
theorem leq_t (h : a ≤ b) (hk : K (.bool true)) : bindP (intB .leq (.int k a) (.int k b)) K := by rw [intB_leq, decide_eq_true h]; exact hk
theorem leq_f (h : b < a) (hk : K (.bool false)) : bindP (intB .leq (.int k a) (.int k b)) K := by rw [intB_leq, decide_eq_false (by omega)]; exact hk
theorem leq_s (h1 : a ≤ b → K (.bool true)) (h2 : b < a → K (.bool false)) : bindP (intB .leq (.int k a) (.int k b)) K := by
  by_cases h : a ≤ b
  · exact leq_t h (h1 h)
  · exact leq_f (by omega) (h2 (by omega))
theorem gtr_t (h : b < a) (hk : K (.bool true)) : bindP (intB .gtr (.int k a) (.int k b)) K := by rw [intB_gtr, decide_eq_true h]; exact hk
theorem gtr_f (h : a ≤ b) (hk : K (.bool false)) : bindP (intB .gtr (.int k a) (.int k b)) K := by rw [intB_gtr, decide_eq_false (by omega)]; exact hk
theorem gtr_s (h1 : b < a → K (.bool true)) (h2 : a ≤ b → K (.bool false)) : bindP (intB .gtr (.int k a) (.int k b)) K := by
  by_cases h : b < a
  · exact gtr_t h (h1 h)
  · exact gtr_f (by omega) (h2 (by omega))
theorem geq_t (h : b ≤ a) (hk : K (.bool true)) : bindP (intB .geq (.int k a) (.int k b)) K := by rw [intB_geq, decide_eq_true h]; exact hk
theorem geq_f (h : a < b) (hk : K (.bool false)) : bindP (intB .geq (.int k a) (.int k b)) K := by rw [intB_geq, decide_eq_false (by omega)]; exact hk
theorem geq_s (h1 : b ≤ a → K (.bool true)) (h2 : a < b → K (.bool false)) : bindP (intB .geq (.int k a) (.int k b)) K := by
  by_cases h : b ≤ a
  · exact geq_t h (h1 h)
  · exact geq_f (by omega) (h2 (by omega))
theorem eql_t (h : a = b) (hk : K (.bool true)) : bindP (intB .eql (.int k a) (.int k b)) K := by rw [intB_eql, decide_eq_true h]; exact hk
theorem eql_f (h : a ≠ b) (hk : K (.bool false)) : bindP (intB .eql (.int k a) (.int k b)) K := by rw [intB_eql, decide_eq_false h]; exact hk
theorem eql_s (h1 : a = b → K (.bool true)) (h2 : a ≠ b → K (.bool false)) : bindP (intB .eql (.int k a) (.int k b)) K := by
  by_cases h : a = b
  · exact eql_t h (h1 h)
  · exact eql_f h (h2 h)
theorem neq_t (h : a ≠ b) (hk : K (.bool true)) : bindP (intB .neq (.int k a) (.int k b)) K := by rw [intB_neq, decide_eq_false h]; exact hk
theorem neq_f (h : a = b) (hk : K (.bool false)) : bindP (intB .neq (.int k a) (.int k b)) K := by rw [intB_neq, decide_eq_true h]; exact hk
theorem neq_s (h1 : a ≠ b → K (.bool true)) (h2 : a = b → K (.bool false)) : bindP (intB .neq (.int k a) (.int k b)) K := by
  by_cases h : a = b
  · exact neq_f h (h2 h)
  · exact neq_t h (h1 h)
end
theorem load1_sub {ro : Ro} {h h' : T Obj} {p v : Value} (hs : Sub h h') (hl : load1 ro h p = some v) : load1 ro h' p = some v := by
  unfold V.load1 at hl ⊢
  obtain ⟨ad, y1, y2⟩ := bind_some' hl
  rw [y1, Option.bind_some]
  cases hc : cellsAt ro h ad 1 with
  | none => rw [hc] at y2; cases y2
  | some l => rw [hc] at y2; rw [cellsAt_sub hs hc]; exact y2
theorem loadA_sub {ro : Ro} {h h' : T Obj} {p v : Value} {n : Nat} (hs : Sub h h') (hl : loadA ro h n p = some v) : loadA ro h' n p = some v := by
  unfold V.loadA at hl ⊢
  obtain ⟨ad, y1, y2⟩ := bind_some' hl
  obtain ⟨l9, y3, y4⟩ := bind_some' y2
  rw [y1, Option.bind_some, cellsAt_sub hs y3, Option.bind_some, y4]
def intsZ (l : List Int) : List (List Value) := l.map fun b : Int => [Value.int .i64 b]
theorem intsZ_len (l : List Int) : (intsZ l).length = l.length := by simp [intsZ]
theorem intsZ_get {l : List Int} {i : Nat} (hi : i < l.length) : (intsZ l)[i]? = some [.int .i64 l[i]] := by simp [intsZ, hi]
def ZI (ro : Ro) (h : T Obj) (v : Value) (l : List Int) : Prop := Sl ro h v 1 (intsZ l)
section
variable {ro : Ro} {h h' : T Obj} {v : Value} {l : List Int}
theorem ZI.sub (hs : Sub h h') (hl : ZI ro h v l) : ZI ro h' v l := Sl.sub hs hl
theorem ZI.len (hl : ZI ro h v l) : lenSl v = some (.int .i64 l.length) := by have := Sl.len hl; rwa [intsZ_len] at this
theorem ZI.ix (hl : ZI ro h v l) (k : IntKind) {i : Nat} (hi : i < l.length) : ixSl 1 v (.int k (i : Int)) = some (elPtr 1 v i) := Sl.ix hl k (by rw [intsZ_len]; exact hi)
theorem ZI.ixI (hl : ZI ro h v l) (k : IntKind) {i : Int} (h0 : 0 ≤ i) (hi : i < l.length) : ixSl 1 v (.int k i) = some (elPtr 1 v i.toNat) := by
  have := hl.ix k (i := i.toNat) (by omega)
  rwa [Int.toNat_of_nonneg h0] at this
theorem ZI.load (hl : ZI ro h v l) {i : Nat} (hi : i < l.length) : load1 ro h (elPtr 1 v i) = some (.int .i64 l[i]) := Sl.load1 hl (intsZ_get hi)
end
theorem ZI.load' {ro : Ro} {h : T Obj} {v : Value} {l : List Int} (hl : ZI ro h v l) {i : Nat} {x : Int} (hx : l[i]? = some x) : load1 ro h (elPtr 1 v i) = some (.int .i64 x) := by
  obtain ⟨hi, he⟩ := List.getElem?_eq_some_iff.1 hx
  rw [hl.load hi, he]
theorem Sl.ok {ro : Ro} {h : T Obj} {v : Value} {z : Nat} {cs : List (List Value)} (hl : Sl ro h v z cs) : cellOk v = true := by
  rcases hl with ⟨rfl, _⟩ | ⟨a, cap, rfl, _⟩ <;> rfl
theorem ZI.ok {ro : Ro} {h : T Obj} {v : Value} {l : List Int} (hl : ZI ro h v l) : cellOk v = true := Sl.ok hl
theorem ne_len {α : Type} {l : List α} (h : (l.length : Int) ≠ 0) : l.isEmpty = false := by
  cases l with
  | nil => exact absurd rfl h
  | cons _ _ => rfl
theorem eq_len {α : Type} {l : List α} (h : (l.length : Int) = 0) : l = [] := List.eq_nil_iff_length_eq_zero.2 (by omega)
theorem drop_cons {α : Type} {l : List α} {k : Nat} (hk : k < l.length) : l.drop k = l[k] :: l.drop (k + 1) := List.drop_eq_getElem_cons hk
theorem drop_all {α : Type} {l : List α} {k : Nat} (hk : l.length ≤ k) : l.drop k = [] := List.drop_eq_nil_of_le hk
def elPtrK (z : Nat) (v : Value) (i k : Nat) : Value := match v with
  | .slice (some a) _ _ => .pointer (some (elt a (i * z + k)))
  | _ => undef
def SlR {D : Type} (ro : Ro) (h : T Obj) (v : Value) (z : Nat) (R : List Value → D → Prop) (l : List D) : Prop := ∃ cs, Sl ro h v z cs ∧ cs.length = l.length ∧ ∀ (i : Nat) x d, cs[i]? = some x → l[i]? = some d → R x d
section
variable {D : Type} {ro : Ro} {h h' : T Obj} {v : Value} {z : Nat} {R R' : List Value → D → Prop} {l : List D}
theorem SlR.imp (hl : SlR ro h v z R l) (hR : ∀ x d, R x d → R' x d) : SlR ro h v z R' l := by
  obtain ⟨cs, h1, h2, h3⟩ := hl
  exact ⟨cs, h1, h2, fun i x d hx hd => hR _ _ (h3 i x d hx hd)⟩
theorem SlR.sub (hs : Sub h h') (hR : ∀ x d, R x d → R' x d) (hl : SlR ro h v z R l) : SlR ro h' v z R' l := by
  obtain ⟨cs, h1, h2, h3⟩ := hl
  exact ⟨cs, h1.sub hs, h2, fun i x d hx hd => hR _ _ (h3 i x d hx hd)⟩
theorem SlR.nil : SlR ro h (.slice none 0 0) z R ([] : List D) := ⟨[], Sl.nil, rfl, fun i x d hx => by simp at hx⟩
theorem SlR.len (hl : SlR ro h v z R l) : lenSl v = some (.int .i64 l.length) := by
  obtain ⟨cs, h1, h2, h3⟩ := hl
  have := h1.len
  rwa [h2] at this
theorem SlR.ix (hl : SlR ro h v z R l) (k : IntKind) {i : Nat} (hi : i < l.length) : ixSl z v (.int k (i : Int)) = some (elPtr z v i) := by
  obtain ⟨cs, h1, h2, h3⟩ := hl
  exact h1.ix k (by omega)
theorem SlR.ixI (hl : SlR ro h v z R l) (k : IntKind) {i : Int} (h0 : 0 ≤ i) (hi : i < l.length) : ixSl z v (.int k i) = some (elPtr z v i.toNat) := by
  have := hl.ix k (i := i.toNat) (by omega)
  rwa [Int.toNat_of_nonneg h0] at this
theorem elt_elt (a : Addr) (i j : Nat) : fwd (elt a i) j = elt a (i + j) := by
  obtain ⟨b, o, s⟩ := a
  cases s <;> simp [fwd, elt, Nat.add_assoc]
theorem Sl.fwd {cs : List (List Value)} (hl : Sl ro h v z cs) {i : Nat} (hi : i < cs.length) (k : Nat) : fwdP k (elPtr z v i) = some (elPtrK z v i k) := by
  rcases hl with ⟨rfl, rfl⟩ | ⟨a, cap, rfl, h2, h3, h4⟩
  · simp at hi
  · simp only [fwdP, elPtr, asP, Option.bind, elPtrK, elt_elt]
theorem Sl.load1K {cs : List (List Value)} (hl : Sl ro h v z cs) {i k : Nat} {x : List Value} {w : Value} (hx : cs[i]? = some x) (hk : x[k]? = some w) : V.load1 ro h (elPtrK z v i k) = some w := by
  rcases hl with ⟨rfl, rfl⟩ | ⟨a, cap, rfl, h2, h3, h4⟩
  · simp at hx
  · have h5 := (Sl.at h4.1 h4.2 i _ hx)
    have hkl := (List.getElem?_eq_some_iff.1 hk).1
    have hi := (List.getElem?_eq_some_iff.1 hx).1
    have h6 : i * z + k + 1 ≤ cs.length * z := by
      have : i * z + z ≤ cs.length * z := by rw [← Nat.succ_mul]; exact Nat.mul_le_mul_right _ hi
      omega
    have h7 := cellsAt_part h4.2 (off := i * z + k) (k := 1) h6
    have h8 := (flatten_part h4.1).2 i x hx
    have h9 : (cs.flatten.drop (i * z + k)).take 1 = [w] := by
      have : (cs.flatten.drop (i * z + k))[0]? = some w := by
        rw [← h8] at hk
        rw [List.getElem?_take, if_pos (by omega), List.getElem?_drop] at hk
        rw [List.getElem?_drop]; simpa using hk
      have h10 := take_drop_one (l := cs.flatten.drop (i * z + k)) (off := 0) this
      simpa using h10
    rw [h9] at h7
    simp only [V.load1, elPtrK, asP, Option.bind, h7]
theorem SlR.at (hl : SlR ro h v z R l) {i : Nat} (hi : i < l.length) : ∃ x, R x l[i] ∧ x.length = z ∧ V.loadA ro h z (elPtr z v i) = some (.agg x.toArray) ∧ (∀ k, fwdP k (elPtr z v i) = some (elPtrK z v i k)) ∧ ∀ k w, x[k]? = some w → V.load1 ro h (elPtrK z v i k) = some w := by
  obtain ⟨cs, h1, h2, h3⟩ := hl
  have hx : cs[i]? = some (cs[i]'(by omega)) := List.getElem?_eq_getElem _
  refine ⟨_, h3 i _ _ hx (List.getElem?_eq_getElem hi), ?_, h1.loadA hx, fun k => h1.fwd (by omega) k, fun k w hk => h1.load1K hx hk⟩
  rcases h1 with ⟨rfl, rfl⟩ | ⟨a, cap, rfl, g2, g3, g4⟩
  · simp at hx
  · exact g4.1 _ (List.getElem_mem _)
theorem SlR.at1 (hl : SlR ro h v 1 R l) {i : Nat} (hi : i < l.length) : ∃ w, R [w] l[i] ∧ V.load1 ro h (elPtr 1 v i) = some w := by
  obtain ⟨cs, h1, h2, h3⟩ := hl
  have hx : cs[i]? = some (cs[i]'(by omega)) := List.getElem?_eq_getElem _
  have hz : (cs[i]'(by omega)).length = 1 := by
    rcases h1 with ⟨rfl, rfl⟩ | ⟨a, cap, rfl, g2, g3, g4⟩
    · simp at hx
    · exact g4.1 _ (List.getElem_mem _)
  generalize cs[i]'(by omega) = x at hx hz
  match x, hz with
  | [w], _ => exact ⟨w, h3 i _ _ hx (List.getElem?_eq_getElem hi), h1.load1 hx⟩
end
theorem Sl.loadAK {ro : Ro} {h : T Obj} {v : Value} {z : Nat} {cs : List (List Value)} (hl : Sl ro h v z cs) {i k m : Nat} {x : List Value} (hx : cs[i]? = some x) (hk : k + m ≤ x.length) : V.loadA ro h m (elPtrK z v i k) = some (.agg ((x.drop k).take m).toArray) := by
  rcases hl with ⟨rfl, rfl⟩ | ⟨a, cap, rfl, h2, h3, h4⟩
  · simp at hx
  · have h5 := (Sl.at h4.1 h4.2 i _ hx)
    have hi := (List.getElem?_eq_some_iff.1 hx).1
    have h6 : i * z + k + m ≤ cs.length * z := by
      have : i * z + z ≤ cs.length * z := by rw [← Nat.succ_mul]; exact Nat.mul_le_mul_right _ hi
      omega
    have h7 := cellsAt_part h4.2 (off := i * z + k) (k := m) h6
    have h8 := (flatten_part h4.1).2 i x hx
    have h9 : (cs.flatten.drop (i * z + k)).take m = (x.drop k).take m := by
      rw [← h8, List.drop_take, List.take_take, List.drop_drop, Nat.min_eq_left (by omega)]
    rw [h9] at h7
    simp only [V.loadA, elPtrK, asP, Option.bind, h7]
theorem SlR.loadAK {D : Type} {ro : Ro} {h : T Obj} {v : Value} {z : Nat} {R : List Value → D → Prop} {l : List D} (hl : SlR ro h v z R l) {i : Nat} (hi : i < l.length) : ∃ x, R x l[i] ∧ ∀ k m, k + m ≤ x.length → V.loadA ro h m (elPtrK z v i k) = some (.agg ((x.drop k).take m).toArray) := by
  obtain ⟨cs, h1, h2, h3⟩ := hl
  have hx : cs[i]? = some (cs[i]'(by omega)) := List.getElem?_eq_getElem _
  exact ⟨_, h3 i _ _ hx (List.getElem?_eq_getElem hi), fun k m hk => h1.loadAK hx hk⟩
theorem SlR.same {D : Type} {ro : Ro} {h h' : T Obj} {v : Value} {z : Nat} {R : List Value → D → Prop} {l : List D} (hl : SlR ro h v z R l) (hs : Sub h h') {i : Nat} (hi : i < l.length) : sameV (elPtr z v i) h h' := by
  obtain ⟨cs, h1, h2, h3⟩ := hl
  exact h1.same hs (by omega)
theorem param_mk {h : T Obj} {nx m : Nat} {v : Value} {ty : TypeId} {K : T Obj → Prop} (hf : Fr h m) (hm : m ≤ nx) (hK : ∀ h', Sub h h' → Fr h' (nx + 1) → h'.get nx = some (.cells (Value.cells v) ty) → (∀ k, k ≠ nx → h'.get k = h.get k) → K h') : newP h nx (.cells (Value.cells v) ty) K :=
  newP_mk (hK _ ((Sub.refl h).new hf hm) ((hf.mono (show m ≤ nx + 1 by omega)).upd (Nat.le_refl _) (by omega)) (by rw [T.get_upd_same]) fun k hk => T.get_upd_ne _ _ hk)
theorem obj_mk {h : T Obj} {nx m : Nat} {o : Obj} {K : T Obj → Prop} (hf : Fr h m) (hm : m ≤ nx) (hK : ∀ h', Sub h h' → Fr h' (nx + 1) → h'.get nx = some o → (∀ k, k ≠ nx → h'.get k = h.get k) → K h') : newP h nx o K :=
  newP_mk (hK _ ((Sub.refl h).new hf hm) ((hf.mono (show m ≤ nx + 1 by omega)).upd (Nat.le_refl _) (by omega)) (by rw [T.get_upd_same]) fun k hk => T.get_upd_ne _ _ hk)
theorem local_mk {P : Program} {h : T Obj} {a m n : Nat} {ty : TypeId} {zv v : Value} {x : List Value} {K : T Obj → Prop} (hz : zer P ty = some zv) (hzs : zv.cells.size = n) (hv : v.cells = x.toArray) (hx : x.length = n) (hok : x.all cellOk = true) (hf : Fr h m) (hm : m ≤ a)
    (hK : ∀ h', Sub h h' → Fr h' (a + 1) → h'.get a = some (.cells x.toArray ty) → (∀ k, k ≠ a → h'.get k = h.get k) → K h') :
    bindP (zer P ty) fun z => newP h a (.cells z.cells ty) fun h1 => bindP (storeN n h1 (ptr a) v) K := by
  refine bindP_mk hz (newP_mk (bindP_mk (storeA_own (l := zv.cells.toList) (vs := x) (e := ty) (f := (0, 0)) (by rw [T.get_upd_same]) hv hx (by simpa using hzs) hok) ?_))
  refine hK _ (((Sub.refl h).new hf hm).new hf hm) (((hf.mono (show m ≤ a + 1 by omega)).upd (Nat.le_refl _) (by omega)).upd (Nat.le_refl _) (by omega)) (by rw [T.get_upd_same]) fun k hk => ?_
  rw [T.get_upd_ne _ _ hk, T.get_upd_ne _ _ hk]
theorem BB : (∀ (h : T Obj) (i : Nat) (o : Obj) (K : T Obj → Prop), newP h i o K = K (h.upd i (some o))) ∧
    (∀ (h : T Obj) (i : Nat) (o : Obj) (K : T Obj → Prop), optP h i (some o) K = K (h.upd i (some o))) ∧
    (∀ (h : T Obj) (i : Nat) (K : T Obj → Prop), optP h i none K = K h) ∧
    (∀ {α : Type} (a : α) (K : α → Prop), bindP (some a) K = K a) ∧
    (∀ (A B : Prop), condP (.bool true) A B = A) ∧
    (∀ (A B : Prop), condP (.bool false) A B = B) ∧
    (∀ (h : T Obj) (nx : Nat) (A : KV → Prop) (K : KV), ifP (.bool true) true h nx A K = A K) ∧
    (∀ (h : T Obj) (nx : Nat) (A : KV → Prop) (K : KV), ifP (.bool false) false h nx A K = A K) ∧
    (∀ (h : T Obj) (nx : Nat) (A : KV → Prop) (K : KV), ifP (.bool true) false h nx A K = K undef h nx) ∧
    (∀ (h : T Obj) (nx : Nat) (A : KV → Prop) (K : KV), ifP (.bool false) true h nx A K = K undef h nx) ∧
    (∀ (A : Prop) (B : Nat → Prop) (D : Prop), exP .normal A B D = A) ∧
    (∀ (i : Nat) (A : Prop) (B : Nat → Prop) (D : Prop), exP (.exit i) A B D = B i) ∧
    (∀ (A : Prop) (B : Nat → Prop) (D : Prop), exP .ret A B D = D) ∧
    (∀ (A B : Prop), beqP true A B = A) ∧
    (∀ (A B : Prop), beqP false A B = B) ∧
    (∀ (cs : Array Value), Value.cells (.agg cs) = cs) ∧
    (∀ (k : IntKind) (n : Int), Value.cells (.int k n) = #[.int k n]) ∧
    (∀ (b : Bool), Value.cells (.bool b) = #[.bool b]) ∧
    (∀ (k : IntKind) (a b : Int), intB .add (.int k a) (.int k b) = some (.int k (wr k (a + b)))) ∧
    (∀ (k : IntKind) (a b : Int), intB .sub (.int k a) (.int k b) = some (.int k (wr k (a - b)))) ∧
    (∀ (k : IntKind) (a b : Int), intB .mul (.int k a) (.int k b) = some (.int k (wr k (a * b)))) ∧
    (∀ (k : IntKind) {a b : Int} (ha : 0 ≤ a) (hb : 0 < b), intB .quo (.int k a) (.int k b) = some (.int k (wr k (a / b)))) ∧
    (∀ (k : IntKind) {a b : Int} (ha : 0 ≤ a) (hb : 0 < b), intB .rem (.int k a) (.int k b) = some (.int k (a % b))) ∧
    (∀ (k' : IntKind) (a : Nat) {b : Int} (hb : 0 ≤ b) (hk : b ≤ 64), intB .shr (.int .u64 (a : Int)) (.int k' b) = some (.int .u64 ((a / 2 ^ b.toNat : Nat) : Int))) ∧
    (∀ (k' : IntKind) {b : Int} (hb : 0 ≤ b) (hk : b < 64), intB .shl (.int .u64 1) (.int k' b) = some (.int .u64 ((2 ^ b.toNat : Nat) : Int))) ∧
    (∀ {a b : Int} (ha : 0 ≤ a) (hb : 0 ≤ b) (ha' : a ≤ 18446744073709551615) (hb' : b ≤ 18446744073709551615), intB .and (.int .u64 a) (.int .u64 b) = some (.int .u64 (Nat.land a.toNat b.toNat : Nat))) ∧
    (∀ {a b : Int} (ha : 0 ≤ a) (hb : 0 ≤ b) (ha' : a ≤ 18446744073709551615) (hb' : b ≤ 18446744073709551615), intB .or (.int .u64 a) (.int .u64 b) = some (.int .u64 (Nat.lor a.toNat b.toNat : Nat))) ∧
    (∀ {a b : Int} (ha : 0 ≤ a) (hb : 0 ≤ b) (ha' : a ≤ 18446744073709551615) (hb' : b ≤ 18446744073709551615), intB .xor (.int .u64 a) (.int .u64 b) = some (.int .u64 (Nat.xor a.toNat b.toNat : Nat))) ∧
    (∀ {n : Int} (h1 : -9223372036854775808 ≤ n) (h2 : n ≤ 9223372036854775807), wr .i64 n = n) ∧
    (∀ {n : Int} (h1 : 0 ≤ n) (h2 : n ≤ 255), wr .u8 n = n) ∧
    (∀ {n : Int} (h1 : 0 ≤ n) (h2 : n ≤ 18446744073709551615), wr .u64 n = n) ∧
    (∀ (k k' : IntKind) (n : Int), convI k (.int k' n) = some (.int k (wr k n))) ∧
    (∀ (b : Bool), unV .not (.bool b) = some (.bool (!b))) ∧
    (∀ (a b : Bool), boolB .eql (.bool a) (.bool b) = some (.bool (a == b))) ∧
    (∀ (a b : Bool), boolB .neq (.bool a) (.bool b) = some (.bool (!(a == b)))) ∧
    (∀ (a b : Value), pickV (.bool true) a b = some a) ∧
    (∀ (a b : Value), pickV (.bool false) a b = some b) ∧
    (∀ (a : Option Addr) (n c : Nat), lenSl (.slice a n c) = some (.int .i64 n)) ∧
    (∀ (id : Nat), ptr id = at_ id 0 0) ∧
    (∀ (k id off z : Nat), fwdP k (at_ id off z) = some (at_ id (off + k) z)) ∧
    (∀ (n z id off y : Nat) (k : IntKind) {i : Int} (h0 : 0 ≤ i) (h1 : i < n), ixArr n z (at_ id off y) (.int k i) = some (at_ id (off + i.toNat * z) y)) ∧
    (∀ (ro : Ro) (h : T Obj) (id off z : Nat), load1 ro h (at_ id off z) = (cellsIn (h.get id)).bind fun c => c[off]?) ∧
    (∀ (ro : Ro) (h : T Obj) (n id off z : Nat), loadA ro h n (at_ id off z) = (cellsIn (h.get id)).bind fun c => if off + n ≤ c.length then some (.agg ((c.drop off).take n).toArray) else none) ∧
    (∀ (n : Nat) (h : T Obj) (id off z : Nat) (v : Value), storeN n h (at_ id off z) v = if v.cells.size = n then (putIn (h.get id) off v.cells.toList).bind (fun o => some (h.upd id (some o))) else none) ∧
    (∀ (c : Array Value) (e : TypeId) (f : Nat × Nat), cellsIn (some (.cells c e f)) = some c.toList) ∧
    (∀ {c : Array Value} {e : TypeId} {f : Nat × Nat} {off : Nat} {vs : List Value} (h1 : off + vs.length ≤ c.size) (h2 : vs.all cellOk = true), putIn (some (.cells c e f)) off vs = some (.cells (over c.toList off vs).toArray e f)) ∧
    (∀ (l : List Value), l.toArray.toList = l) ∧
    (∀ (l : List Value), l.toArray.size = l.length) :=
  ⟨@newP_eq, @optP_some, @optP_none, @bindP_some', @condP_true, @condP_false, @ifP_tt, @ifP_ff, @ifP_tf, @ifP_ft, @exP_normal, @exP_exit, @exP_ret, @beqP_true, @beqP_false, @Value.cells_agg, @cells_int, @cells_bool, @intB_add, @intB_sub, @intB_mul, @intB_quo, @intB_rem, @intB_shr_u64, @intB_shl1_u64, @intB_and64, @intB_or64, @intB_xor64, @wr_i64, @wr_u8, @wr_u64, @convI_int, @unV_not, @boolB_eql, @boolB_neq, @pickV_true, @pickV_false, @lenSl_slice, @ptr_at, @fwdP_at, @ixArr_at, @load1_own, @loadA_own, @storeN_own, @cellsIn_some, @putIn_cells, @tl, @ts⟩
theorem B2 : (∀ (h : Decidable True), @decide True h = true) ∧ (∀ (h : Decidable False), @decide False h = false) ∧ ((!true) = false) ∧ ((!false) = true) ∧
    (∀ {α β : Type} (a : α) (f : α → Option β), (some a).bind f = f a) ∧ (∀ {α : Type} (t : T α) (k : Nat) (o : Option α), (t.upd k o).get k = o) ∧ (∀ {α : Type} (t : T α) {k i : Nat} (o : Option α), i ≠ k → (t.upd k o).get i = t.get i) ∧
    (∀ {α : Type} {c : Prop} {h : Decidable c} {a b : α}, c → @ite α c h a b = a) ∧ (∀ n : Nat, 0 + n = n) ∧ (∀ n : Nat, n * 1 = n) ∧ (∀ n : Nat, n + 0 = n) ∧ (∀ n : Nat, (n : Int).toNat = n) ∧ (∀ n : Nat, n ≤ n) :=
  ⟨fun _ => decide_true .., fun _ => decide_false .., rfl, rfl, fun _ _ => rfl, T.get_upd_same, fun t _ _ o h => T.get_upd_ne t o h, fun h => if_pos h, Nat.zero_add, Nat.mul_one, fun _ => rfl, fun _ => rfl, Nat.le_refl⟩
theorem CC : (∀ {k : IntKind} {a b : Int}, a < b → intB .lss (.int k a) (.int k b) = some (.bool true)) ∧ (∀ {k : IntKind} {a b : Int}, b ≤ a → intB .lss (.int k a) (.int k b) = some (.bool false)) ∧
    (∀ {k : IntKind} {a b : Int}, a ≤ b → intB .leq (.int k a) (.int k b) = some (.bool true)) ∧ (∀ {k : IntKind} {a b : Int}, b < a → intB .leq (.int k a) (.int k b) = some (.bool false)) ∧
    (∀ {k : IntKind} {a b : Int}, b < a → intB .gtr (.int k a) (.int k b) = some (.bool true)) ∧ (∀ {k : IntKind} {a b : Int}, a ≤ b → intB .gtr (.int k a) (.int k b) = some (.bool false)) ∧
    (∀ {k : IntKind} {a b : Int}, b ≤ a → intB .geq (.int k a) (.int k b) = some (.bool true)) ∧ (∀ {k : IntKind} {a b : Int}, a < b → intB .geq (.int k a) (.int k b) = some (.bool false)) ∧
    (∀ {k : IntKind} {a b : Int}, a = b → intB .eql (.int k a) (.int k b) = some (.bool true)) ∧ (∀ {k : IntKind} {a b : Int}, a ≠ b → intB .eql (.int k a) (.int k b) = some (.bool false)) ∧
    (∀ {k : IntKind} {a b : Int}, a ≠ b → intB .neq (.int k a) (.int k b) = some (.bool true)) ∧ (∀ {k : IntKind} {a b : Int}, a = b → intB .neq (.int k a) (.int k b) = some (.bool false)) := by
  refine ⟨?_, ?_, ?_, ?_, ?_, ?_, ?_, ?_, ?_, ?_, ?_, ?_⟩ <;> intro k a b h
  · rw [intB_lss, decide_eq_true h]
  · rw [intB_lss, decide_eq_false (by omega)]
  · rw [intB_leq, decide_eq_true h]
  · rw [intB_leq, decide_eq_false (by omega)]
  · rw [intB_gtr, decide_eq_true h]
  · rw [intB_gtr, decide_eq_false (by omega)]
  · rw [intB_geq, decide_eq_true h]
  · rw [intB_geq, decide_eq_false (by omega)]
  · rw [intB_eql, decide_eq_true h]
  · rw [intB_eql, decide_eq_false h]
  · rw [intB_neq, decide_eq_false h]; rfl
  · rw [intB_neq, decide_eq_true h]; rfl
end V
end Go.Proofs.Ytepbdkfkfcckoaa
set_option linter.unusedVariables false
set_option linter.unusedSimpArgs false
noncomputable section
namespace Go.Proofs.Ytepbdkfkfcckoaa
namespace V
def sblk : Value → Option Nat
  | .slice (some a) _ _ => some a.block
  | _ => none
def OwnT (h : T Obj) (v : Value) (z : Nat) (e : TypeId) (l : List (List Value)) (lo : Nat) : Prop :=
  (v = .slice none 0 0 ∧ l = []) ∨ ∃ id, lo ≤ id ∧ v = .slice (some (own id z)) l.length l.length ∧ (∀ x ∈ l, x.length = z) ∧ h.get id = some (.cells l.flatten.toArray e)
theorem OwnT.nil {h : T Obj} {z : Nat} {e : TypeId} {lo : Nat} : OwnT h (.slice none 0 0) z e [] lo := .inl ⟨rfl, rfl⟩
theorem OwnT.mono {h : T Obj} {v : Value} {z : Nat} {e : TypeId} {l : List (List Value)} {lo lo' : Nat} (ho : OwnT h v z e l lo) (hl : lo' ≤ lo) : OwnT h v z e l lo' := by
  rcases ho with ho | ⟨id, h1, h2⟩
  · exact .inl ho
  · exact .inr ⟨id, by omega, h2⟩
theorem OwnT.sl {ro : Ro} {h : T Obj} {v : Value} {z : Nat} {e : TypeId} {l : List (List Value)} {lo : Nat} (ho : OwnT h v z e l lo) : Sl ro h v z l := by
  rcases ho with ho | ⟨id, _, rfl, h4, h5⟩
  · exact .inl ho
  · exact Sl.own h5 h4 (Nat.le_refl _)
def Kp (v : Value) (h h' : T Obj) : Prop := ∀ k o, h.get k = some o → sblk v ≠ some k → h'.get k = some o
theorem Sub.kp {v : Value} {h h' : T Obj} (hs : Sub h h') : Kp v h h' := fun k o hk _ => hs k o hk
theorem Kp.trans {v : Value} {a b c : T Obj} (h1 : Kp v a b) (h2 : Sub b c) : Kp v a c := fun k o hk hv => h2 k o (h1 k o hk hv)
theorem OwnT.keep {h h' : T Obj} {v w : Value} {z : Nat} {e : TypeId} {l : List (List Value)} {lo : Nat} (ho : OwnT h v z e l lo) (hk : Kp w h h') (hne : ∀ id, sblk v = some id → sblk w ≠ some id) : OwnT h' v z e l lo := by
  rcases ho with ho | ⟨id, h1, rfl, h4, h5⟩
  · exact .inl ho
  · exact .inr ⟨id, h1, rfl, h4, hk id _ h5 (hne id rfl)⟩
theorem OwnT.keepS {h h' : T Obj} {v : Value} {z : Nat} {e : TypeId} {l : List (List Value)} {lo : Nat} (ho : OwnT h v z e l lo) (hk : Sub h h') : OwnT h' v z e l lo := by
  rcases ho with ho | ⟨id, h1, rfl, h4, h5⟩
  · exact .inl ho
  · exact .inr ⟨id, h1, rfl, h4, hk id _ h5⟩
theorem OwnT.ne {h : T Obj} {v : Value} {z : Nat} {e e' : TypeId} {l : List (List Value)} {lo k : Nat} {c : Array Value} {f : Nat × Nat} (ho : OwnT h v z e l lo) (hk : h.get k = some (.cells c e' f)) (he : e' ≠ e) : sblk v ≠ some k := by
  rcases ho with ⟨rfl, _⟩ | ⟨id, _, rfl, _, h5⟩
  · intro h; cases h
  · intro h
    have : id = k := Option.some.inj h
    subst this
    rw [hk] at h5
    simp only [Option.some.injEq, Obj.cells.injEq] at h5
    exact he h5.2.1
theorem OwnT.lt {h : T Obj} {v : Value} {z : Nat} {e : TypeId} {l : List (List Value)} {lo k : Nat} (ho : OwnT h v z e l lo) (hk : k < lo) : sblk v ≠ some k := by
  rcases ho with ⟨rfl, _⟩ | ⟨id, h1, rfl, _, h5⟩
  · intro h; cases h
  · intro h
    have : id = k := Option.some.inj h
    omega
theorem Fr.lt' {h : T Obj} {n k : Nat} {o : Obj} (hf : Fr h n) (hk : h.get k = some o) : k < n := by
  rcases Nat.lt_or_ge k n with h1 | h1
  · exact h1
  · rw [hf k h1] at hk; cases hk
theorem OwnT.sub {h0 h h' : T Obj} {v : Value} {z : Nat} {e : TypeId} {l : List (List Value)} {lo n0 : Nat} (ho : OwnT h v z e l lo) (hk : Kp v h h') (hf : Fr h0 n0) (hn : n0 ≤ lo) (hs : Sub h0 h) : Sub h0 h' := fun k o hk0 => hk k o (hs k o hk0) (ho.lt (by have := hf.lt' hk0; omega))
theorem appendT {P : Program} {ro : Ro} {h : T Obj} {v x : Value} {z nx lo : Nat} {t e : TypeId} {i : TypeInfo} {zv : Value} {l m : List (List Value)} (ho : OwnT h v z e l lo) (hx : Sl ro h x z m) (hu : und P t = some (.slice e)) (hi' : tin P e = some i) (hz : i.size = z) (hz0 : 0 < z) (hzer : zer P e = some zv) (hzs : zv.cells.size = z)
    (hm : m ≠ []) (hok : m.flatten.all cellOk = true) (hb : (l.length + m.length) * i.bytes ≤ big) (hb2 : l.length + m.length ≤ big) (hlo : lo ≤ nx) (hf : Fr h nx) :
    ∃ h', appendV P ro h nx #[t, t] [v, x] = some (.slice (some (own nx z)) (l ++ m).length (l ++ m).length, h', nx + 1) ∧ OwnT h' (.slice (some (own nx z)) (l ++ m).length (l ++ m).length) z e (l ++ m) lo ∧ Kp v h h' ∧ Fr h' (nx + 1) ∧ (∀ k, k ≠ nx → h'.get k = h.get k ∨ h'.get k = none) := by
  have fin : ∀ h' : T Obj, (∀ k, k ≠ nx → h'.get k = h.get k ∨ h'.get k = none) → Fr h' (nx + 1) := fun h' h2 k hk => by
    rcases h2 k (by omega) with h3 | h3
    · rw [h3]; exact hf k (by omega)
    · exact h3
  rcases ho with ⟨rfl, rfl⟩ | ⟨id, h1, rfl, h4, h5⟩
  · obtain ⟨h', q1, q2, q3, q4⟩ := append_own (P := P) (t := t) (lo := nx) (hi := nx) (Own.nil (h := h) (z := z) (e := e)) hx hu hi' hz hz0 hzer hzs hm hok (by simpa using hb) (by simpa using hb2) (Nat.le_refl _) (Nat.le_refl _)
    refine ⟨h', q1, ?_, fun k o hk _ => ?_, fin h' q4, q4⟩
    · rcases q2 with ⟨h6, _⟩ | ⟨id, h6, h7, h8, h9, h10⟩
      · cases h6
      · exact .inr ⟨id, by omega, h8, h9, h10⟩
    · have := hf.lt' hk
      rw [q3 k (.inl this) (by omega)]; exact hk
  · have hid := hf.lt' h5
    obtain ⟨h', q1, q2, q3, q4⟩ := append_own (P := P) (t := t) (lo := id) (hi := id + 1) (.inr ⟨id, Nat.le_refl _, by omega, rfl, h4, h5⟩ : Own h _ z e l id (id + 1)) hx hu hi' hz hz0 hzer hzs hm hok hb hb2 (show id ≤ nx by omega) (by omega)
    refine ⟨h', q1, ?_, fun k o hk hne => ?_, fin h' q4, q4⟩
    · rcases q2 with ⟨h6, _⟩ | ⟨id2, h6, h7, h8, h9, h10⟩
      · cases h6
      · exact .inr ⟨id2, by omega, h8, h9, h10⟩
    · have h7 := hf.lt' hk
      have h8 : id ≠ k := fun h => hne (by rw [← h]; rfl)
      rw [q3 k (by omega) (by omega)]; exact hk
theorem append_none {P : Program} {ro : Ro} {h : T Obj} {v x : Value} {z nx lo : Nat} {t e : TypeId} {i : TypeInfo} {l : List (List Value)} (ho : OwnT h v z e l lo) (hx : Sl ro h x z []) (hu : und P t = some (.slice e)) (hi' : tin P e = some i) :
    appendV P ro h nx #[t, t] [v, x] = some (v, h, nx) := by
  obtain ⟨a, len, rfl⟩ : ∃ a len, v = .slice a len len := by
    rcases ho with ⟨rfl, _⟩ | ⟨id, _, rfl, _⟩
    · exact ⟨none, 0, rfl⟩
    · exact ⟨_, _, rfl⟩
  have hs : srcV P ro h e i.size i.bytes t x = some (0, []) := by
    rcases hx with ⟨rfl, _⟩ | ⟨a, cap, rfl, h2, h3, h4, h5⟩
    · simp only [srcV, hu]
    · have : cellsAt ro h a (0 * i.size) = some [] := by
        have : cellsAt ro h a (0 * z) = some [] := by simpa using h5
        rw [Nat.zero_mul] at this ⊢; exact this
      simp only [srcV, hu, List.length_nil, this, Option.bind]
  have hb : Nat.ble (len + 0) len = true := Nat.ble_eq_true_of_le (by omega)
  simp only [appendV, List.getElem?_toArray, List.getElem?_cons_zero, List.getElem?_cons_succ, hu, hi', Option.bind_some, hs, hb]
theorem append_any {P : Program} {ro : Ro} {h : T Obj} {v x : Value} {z nx lo : Nat} {t e : TypeId} {i : TypeInfo} {zv : Value} {l m : List (List Value)} (ho : OwnT h v z e l lo) (hx : Sl ro h x z m) (hu : und P t = some (.slice e)) (hi' : tin P e = some i) (hz : i.size = z) (hz0 : 0 < z) (hzer : zer P e = some zv) (hzs : zv.cells.size = z)
    (hok : m.flatten.all cellOk = true) (hb : (l.length + m.length) * i.bytes ≤ big) (hb2 : l.length + m.length ≤ big) (hlo : lo ≤ nx) (hf : Fr h nx) :
    ∃ r h' n', appendV P ro h nx #[t, t] [v, x] = some (r, h', n') ∧ OwnT h' r z e (l ++ m) lo ∧ Kp v h h' ∧ nx ≤ n' ∧ Fr h' n' ∧ (sblk r = none ∨ sblk r = sblk v ∨ sblk r = some nx) := by
  cases m with
  | nil => exact ⟨v, h, nx, append_none ho hx hu hi', by rw [List.append_nil]; exact ho, (fun k o hk _ => hk), Nat.le_refl _, hf, .inr (.inl rfl)⟩
  | cons y m =>
    obtain ⟨h', q1, q2, q3, q4, q5⟩ := appendT (P := P) (t := t) ho hx hu hi' hz hz0 hzer hzs (by simp) hok hb hb2 hlo hf
    exact ⟨_, h', nx + 1, q1, q2, q3, by omega, q4, .inr (.inr rfl)⟩
theorem append_lit {P : Program} {ro : Ro} {h : T Obj} {v w : Value} {z nx n1 n2 lo : Nat} {t e : TypeId} {i : TypeInfo} {zv : Value} {l : List (List Value)} {y : List Value} {K : Value × Option Obj → T Obj → Value × T Obj × Nat → Prop} (hlit : sliceLitV P t n1 1 [(0, w)] = some (.slice (some (own n1 z)) 1 1, some (.cells y.toArray e))) (hy : y.length = z) (ho : OwnT h v z e l lo)
    (hu : und P t = some (.slice e)) (hi' : tin P e = some i) (hz : i.size = z) (hz0 : 0 < z) (hzer : zer P e = some zv) (hzs : zv.cells.size = z) (hok : y.all cellOk = true) (hb : (l.length + 1) * i.bytes ≤ big) (hb2 : l.length + 1 ≤ big) (hf : Fr h nx) (hlo : lo ≤ nx) (hn1 : nx ≤ n1) (hn2 : n1 < n2)
    (hK : ∀ h', OwnT h' (.slice (some (own n2 z)) (l ++ [y]).length (l ++ [y]).length) z e (l ++ [y]) lo → Kp v h h' → Fr h' (n2 + 1) → K (.slice (some (own n1 z)) 1 1, some (.cells y.toArray e)) (h.upd n1 (some (.cells y.toArray e))) (.slice (some (own n2 z)) (l ++ [y]).length (l ++ [y]).length, h', n2 + 1)) :
    bindP (sliceLitV P t n1 1 [(0, w)]) fun r => optP h n1 r.2 fun h' => bindP (appendV P ro h' n2 #[t, t] [v, r.1]) (K r h') := by
  refine bindP_mk hlit (optP_mk ?_)
  have hs1 : Sub h (h.upd n1 (some (.cells y.toArray e))) := (Sub.refl h).new hf hn1
  have hf1 : Fr (h.upd n1 (some (.cells y.toArray e))) n2 := (hf.mono (show nx ≤ n2 by omega)).upd (Nat.le_refl _) hn2
  have hx1 : Sl ro (h.upd n1 (some (.cells y.toArray e))) (.slice (some (own n1 z)) 1 1) z [y] := Sl.own (l := [y]) (e := e) (f := (0, 0)) (by rw [T.get_upd_same]; simp) (by simpa using hy) (Nat.le_refl _)
  obtain ⟨h', q1, q2, q3, q4, q5⟩ := appendT (P := P) (t := t) (nx := n2) (ho.keepS hs1) hx1 hu hi' hz hz0 hzer hzs (by simp) (by simpa using hok) hb hb2 (by omega) hf1
  exact bindP_mk q1 (hK h' q2 (fun k o hk hv => q3 k o (hs1 k o hk) hv) q4)
end V
end Go.Proofs.Ytepbdkfkfcckoaa
set_option linter.unusedVariables false
set_option linter.unusedSimpArgs false
noncomputable section
namespace Go.Proofs.Ytepbdkfkfcckoaa
namespace V
open Go.Deep
theorem roCells_append {ro : Ro} : ∀ {n m : Nat} {a : Addr} {l1 l2 : List Value}, a.spot = none → roCells ro a n = some l1 → roCells ro ⟨a.block, a.off + n, none⟩ m = some l2 → roCells ro a (n + m) = some (l1 ++ l2)
  | 0, m, a, l1, l2, hs, h1, h2 => by
    cases h1
    have : (⟨a.block, a.off + 0, none⟩ : Addr) = a := by cases a; simp_all
    rw [this] at h2
    simpa using h2
  | n + 1, m, a, l1, l2, hs, h1, h2 => by
    obtain ⟨v, g1, h1⟩ := bind_some' h1
    obtain ⟨r, g2, h1⟩ := bind_some' h1
    cases h1
    have ih := roCells_append (n := n) (m := m) (a := ⟨a.block, a.off + 1, none⟩) rfl g2 (by rw [show a.off + 1 + n = a.off + (n + 1) by omega]; exact h2)
    rw [show n + 1 + m = n + m + 1 by omega]
    simp [roCells, g1, ih]
section
variable {H : Type} {enc : TypeId × Value → H} {P : Program} {W : World}
theorem normL_get {N : Nat} : ∀ {l l' : List Value}, normL N l = some l' → ∀ {j : Nat} {y : Value}, l'[j]? = some y → ∃ x, l[j]? = some x ∧ norm N x = some y
  | [], l', h, j, y, hy => by cases h; simp at hy
  | v :: l, l', h, j, y, hy => by
    obtain ⟨v', h1, h⟩ := bind_some' h
    obtain ⟨r, h2, h⟩ := bind_some' h
    cases h
    cases j with
    | zero => simp at hy; subst hy; exact ⟨v, rfl, h1⟩
    | succ j =>
      obtain ⟨x, h3, h4⟩ := normL_get h2 (j := j) (by simpa using hy)
      exact ⟨x, by simpa using h3, h4⟩
theorem cells_ro {a : Addr} {n : Nat} {cs cs' : List Value} (h : W.cells? 0 a n = some cs) (hn : normL W.heap.size cs = some cs') (ha : a.spot = none) : roCells (roOf W) a n = some cs' := by
  obtain ⟨_, hlen, hg⟩ := World.cells?_some h
  have hl := (normL_lr (φ := fun _ => none) hn).length
  have := roCells_of (ro := roOf W) (l := cs') (a := a) ha fun j y hy => by
    obtain ⟨x, hx, hxy⟩ := normL_get hn hy
    have hj : j < n := by rw [← hlen, ← hl]; exact (List.getElem?_eq_some_iff.1 hy).1
    have hc := hg j hj
    rw [add_spot ha, hx] at hc
    have hb : a.block < W.heap.size := by
      rcases Nat.lt_or_ge a.block W.heap.size with h1 | h1
      · exact h1
      · simp [World.cell?, Array.getElem?_eq_none h1] at hc
    have hbb : Nat.blt a.block W.heap.size = true := by simp [Nat.blt]; omega
    simp only [roOf, hbb, hc, Option.bind, hxy]
  rw [hl, hlen] at this
  exact this
theorem norm_slice {N : Nat} {a : Addr} {l c : Nat} (hs : a.spot = none) (hb : a.block < N) (hc : 0 < c) : norm N (.slice (some a) l c) = some (.slice (some a) l c) := by
  have : Nat.blt a.block N = true := by simp [Nat.blt]; omega
  cases c with
  | zero => omega
  | succ c => cases l <;> simp [norm, hs, this]
theorem open_sl {t e : TypeId} {z : Nat} (ht : P.underlying t = some (.slice e)) (hz : P.cellsOf e = z) (hz0 : 0 < z) {fuel : Nat} {cs : List Value} {x : DataW H × List MemPlace} (h : DataW.trod enc P W 0 (fun _ => true) true fuel t cs = some x)
    {El : List Value → Prop} (hel : ∀ n cs' y, DataW.trod enc P W 0 (fun _ => true) true n e cs' = some y → ∃ cs'', normL W.heap.size cs' = some cs'' ∧ El cs'') :
    ∃ v v', cs = [v] ∧ norm W.heap.size v = some v' ∧ ∃ l, Sl (roOf W) .e v' z l ∧ ∀ x ∈ l, El x := by
  rcases open_slice ht h with ⟨rfl, _⟩ | ⟨a, len, cap, m, n, D, Pl, rfl, _, hle, _, hm, _, hx⟩
  · exact ⟨_, _, rfl, rfl, [], Sl.nil, fun x hx => by cases hx⟩
  · simp only [if_true] at hm
    subst hm
    refine ⟨.slice (some a) len m, ?_⟩
    rcases Nat.eq_zero_or_pos m with hc0 | hc0
    · subst hc0
      obtain rfl : len = 0 := by omega
      exact ⟨.slice (some noAddr) 0 0, rfl, rfl, [], .inr ⟨noAddr, 0, rfl, Nat.le_refl _, .inl rfl, by simp, by simp [cellsAt, noAddr, roCells]⟩, fun x hx => by cases hx⟩
    · have h0 : a.spot = none ∧ a.block < W.heap.size := by
        obtain ⟨cs', h1, _⟩ := hx 0 hc0
        rw [hz] at h1
        obtain ⟨_, hl, hg⟩ := World.cells?_some h1
        have h2 := hg 0 hz0
        have h3 : cs'[0]? = some (cs'[0]'(by omega)) := List.getElem?_eq_getElem (by omega)
        rw [h3] at h2
        have hsp : a.spot = none := by
          have := World.cell?_spot h2
          simpa [Addr.add] using this
        refine ⟨hsp, ?_⟩
        rcases Nat.lt_or_ge a.block W.heap.size with h4 | h4
        · exact h4
        · rw [add_spot hsp, add_spot rfl] at h2
          simp [World.cell?, Array.getElem?_eq_none h4] at h2
      obtain ⟨hs, hb⟩ := h0
      refine ⟨.slice (some a) len m, rfl, norm_slice hs hb hc0, ?_⟩
      have key : ∀ k, k ≤ len → ∃ l : List (List Value), l.length = k ∧ (∀ x ∈ l, x.length = z) ∧ (∀ x ∈ l, El x) ∧ roCells (roOf W) a (k * z) = some l.flatten := by
        intro k
        induction k with
        | zero => intro _; exact ⟨[], rfl, by simp, by simp, by simp [roCells]⟩
        | succ k ih =>
          intro hk
          obtain ⟨l, l1, l2, l3, l4⟩ := ih (by omega)
          obtain ⟨cs', h1, h2⟩ := hx k (by omega)
          rw [hz] at h1
          obtain ⟨cs'', h3, h4⟩ := hel _ _ _ h2
          have h5 := cells_ro h1 h3 (by rw [add_spot hs])
          have hlen : cs''.length = z := roCells_length h5
          rw [add_spot hs] at h5
          refine ⟨l ++ [cs''], by simp [l1], ?_, ?_, ?_⟩
          · intro x hx2
            rcases List.mem_append.1 hx2 with h6 | h6
            · exact l2 x h6
            · simp at h6; subst h6; exact hlen
          · intro x hx2
            rcases List.mem_append.1 hx2 with h6 | h6
            · exact l3 x h6
            · simp at h6; subst h6; exact h4
          · rw [Nat.succ_mul]
            have := roCells_append hs l4 h5
            simpa using this
      obtain ⟨l, l1, l2, l3, l4⟩ := key len (Nat.le_refl _)
      refine ⟨l, .inr ⟨a, m, by rw [l1], by omega, .inl hs, l2, ?_⟩, l3⟩
      unfold cellsAt
      rw [hs, l1]
      exact l4
end
end V
end Go.Proofs.Ytepbdkfkfcckoaa
set_option linter.unusedVariables false
set_option linter.unusedSimpArgs false
namespace Go.Proofs.Ytepbdkfkfcckoaa
namespace V
attribute [local irreducible] callPre callP bindP
abbrev i_law10_NcaWhole : FuncId := 7
abbrev i_law10_shown : FuncId := 12
abbrev i_nca_Right : FuncId := 13
abbrev i_nca_Step : FuncId := 16
abbrev i_nca_Rule : FuncId := 18
abbrev i_ref08_Right : FuncId := 22
abbrev i_ref09_Of : FuncId := 23
abbrev i_nca_Start : FuncId := 25
abbrev i_ref07_Is : FuncId := 26
abbrev i_glush_Right : FuncId := 29
abbrev i_nca_fits : FuncId := 30
abbrev i_nca_step : FuncId := 32
abbrev i_nca_rule : FuncId := 34
abbrev i_ref06_Plain : FuncId := 36
abbrev i_ref08_counted : FuncId := 37
abbrev i_ref09_both : FuncId := 39
abbrev i_ref07_Ends : FuncId := 40
abbrev i_ref04_Right : FuncId := 45
abbrev i_glush_rises : FuncId := 46
abbrev i_slices_ContainsFunc_api_Pos_api_Pos : FuncId := 47
abbrev i_glush_Right_1 : FuncId := 48
abbrev i_glush_may : FuncId := 49
abbrev i_nca_step_1 : FuncId := 51
abbrev i_bset_Has : FuncId := 52
abbrev i_nca_ripe : FuncId := 53
abbrev i_ref01_Has : FuncId := 54
abbrev i_ref07_places : FuncId := 61
abbrev i_ref07_ends : FuncId := 62
abbrev i_ref04_shape : FuncId := 67
abbrev i_ref04_walk : FuncId := 68
abbrev i_slices_IndexFunc_api_Pos_api_Pos : FuncId := 69
abbrev i_ref07_one : FuncId := 71
abbrev i_ref07_or : FuncId := 72
abbrev i_ref07_rep : FuncId := 73
abbrev i_ref04_Name : FuncId := 78
abbrev i_ref07_same : FuncId := 79
abbrev y_int : TypeId := 3
abbrev y_bool : TypeId := 4
abbrev y_uint8 : TypeId := 5
abbrev y_string : TypeId := 9
abbrev y_s_int : TypeId := 22
abbrev y_s_api_Pos : TypeId := 23
abbrev y_api_Glush : TypeId := 25
abbrev y_s_api_Held : TypeId := 26
abbrev y_api_Config : TypeId := 28
abbrev y_api_Held : TypeId := 40
abbrev y_uint64 : TypeId := 41
abbrev y_api_Set : TypeId := 43
abbrev y_api_Pos : TypeId := 45
abbrev y_s_s_api_Node : TypeId := 46
abbrev y_s_api_Node : TypeId := 47
abbrev y_api_Node : TypeId := 66
abbrev y_raddleref09_builder : TypeId := 70
abbrev y_raddleref09_info : TypeId := 72
abbrev y_s_s_int : TypeId := 89
abbrev y_s_raddleref09_info : TypeId := 96
abbrev y_s_bool : TypeId := 99
@[irreducible] def nca_Right (ro : Ro) (v0 v1 : Value) (h : T Obj) (nx : Nat) (K : KV) : Prop := newP h nx (.cells (Value.cells v0) y_api_Glush) fun h1 => newP h1 (nx + 1) (.cells (Value.cells v1) y_api_Config) fun h2 => bindP (loadA ro h2 2 (ptr nx)) fun t5_3 => callP Try.prog ro i_glush_Right [t5_3] h2 (nx + 5) fun t6_4 h5 n6 => ifP t6_4 true h5 (n6 + 1) (fun k7 => bindP (loadA ro h5 2 (ptr nx)) fun t8_11 => k7 t8_11 h5 (n6 + 2)) fun t8_8 h9 n10 => ifP t6_4 true h9 n10 (fun k12 => bindP (loadA ro h9 2 (ptr (nx + 1))) fun t9_16 => k12 t9_16 h9 (n10 + 1)) fun t9_13 h14 n15 => ifP t6_4 true h14 n15 (fun k17 => callP Try.prog ro i_nca_fits [t8_8, t9_13] h14 (n15 + 1) fun t10_21 h22 n23 => k17 t10_21 h22 n23) fun t10_18 h19 n20 => bindP (pickV t6_4 t10_18 (Value.bool false)) fun t11_24 => ∃ h25, Sub h25 h19 ∧ K t11_24 h25 (n20 + 2)
theorem nca_Right_eq (ro : Ro) (v0 v1 : Value) (h : T Obj) (nx : Nat) (K : KV) : callPre Try.prog ro (callP Try.prog ro) Try.f13 [v0, v1] h nx K = nca_Right ro v0 v1 h nx K := by kernel_rfl
theorem nca_Right_of {ro : Ro} {v0 v1 : Value} {h : T Obj} {nx : Nat} {K : KV} (hw : nca_Right ro v0 v1 h nx K) : callP Try.prog ro i_nca_Right [v0, v1] h nx K := callP_by (P := Try.prog) (fn := Try.f13) (by kernel_rfl) (by kernel_rfl) (by kernel_rfl) (Eq.mpr (nca_Right_eq ro v0 v1 h nx K) hw)
@[irreducible] def nca_Step (ro : Ro) (v0 v1 v2 : Value) (h : T Obj) (nx : Nat) (K : KV) : Prop := newP h nx (.cells (Value.cells v0) y_api_Glush) fun h1 => newP h1 (nx + 1) (.cells (Value.cells v1) y_api_Config) fun h2 => bindP (zer Try.prog y_api_Config) fun z3 => newP h2 (nx + 2) (.cells z3.cells y_api_Config) fun h4 => bindP (loadA ro h4 2 (ptr nx)) fun t7_5 => bindP (loadA ro h4 2 (ptr (nx + 1))) fun t8_6 => callP Try.prog ro i_nca_Right [t7_5, t8_6] h4 (nx + 6) fun t9_7 h8 n9 => bindP (unV .not t9_7) fun t10_10 => condP t10_10 (bindP (buildV Try.prog y_api_Config []) fun t11_11 => bindP (storeN 2 h8 (ptr (nx + 2)) t11_11) fun h12 => bindP (loadA ro h12 2 (ptr (nx + 2))) fun r13 => ∃ h14, Sub h14 h12 ∧ K r13 h14 (n9 + 3)) (bindP (loadA ro h8 2 (ptr nx)) fun t12_15 => bindP (loadA ro h8 2 (ptr (nx + 1))) fun t13_16 => callP Try.prog ro i_nca_step [t12_15, t13_16, v2] h8 (n9 + 5) fun t15_17 h18 n19 => bindP (storeN 2 h18 (ptr (nx + 2)) t15_17) fun h20 => bindP (loadA ro h20 2 (ptr (nx + 2))) fun r21 => ∃ h22, Sub h22 h20 ∧ K r21 h22 (n19 + 1))
theorem nca_Step_eq (ro : Ro) (v0 v1 v2 : Value) (h : T Obj) (nx : Nat) (K : KV) : callPre Try.prog ro (callP Try.prog ro) Try.f16 [v0, v1, v2] h nx K = nca_Step ro v0 v1 v2 h nx K := by kernel_rfl
theorem nca_Step_of {ro : Ro} {v0 v1 v2 : Value} {h : T Obj} {nx : Nat} {K : KV} (hw : nca_Step ro v0 v1 v2 h nx K) : callP Try.prog ro i_nca_Step [v0, v1, v2] h nx K := callP_by (P := Try.prog) (fn := Try.f16) (by kernel_rfl) (by kernel_rfl) (by kernel_rfl) (Eq.mpr (nca_Step_eq ro v0 v1 v2 h nx K) hw)
@[irreducible] def nca_Rule (ro : Ro) (v0 v1 : Value) (h : T Obj) (nx : Nat) (K : KV) : Prop := newP h nx (.cells (Value.cells v0) y_api_Glush) fun h1 => newP h1 (nx + 1) (.cells (Value.cells v1) y_api_Config) fun h2 => bindP (loadA ro h2 2 (ptr nx)) fun t5_3 => bindP (loadA ro h2 2 (ptr (nx + 1))) fun t6_4 => callP Try.prog ro i_nca_Right [t5_3, t6_4] h2 (nx + 6) fun t7_5 h6 n7 => bindP (unV .not t7_5) fun t8_8 => condP t8_8 (∃ h9, Sub h9 h6 ∧ K (Value.int IntKind.i64 (-1)) h9 (n7 + 2)) (bindP (loadA ro h6 2 (ptr nx)) fun t9_10 => bindP (loadA ro h6 2 (ptr (nx + 1))) fun t10_11 => callP Try.prog ro i_nca_rule [t9_10, t10_11] h6 (n7 + 4) fun t11_12 h13 n14 => ∃ h15, Sub h15 h13 ∧ K t11_12 h15 (n14 + 1))
theorem nca_Rule_eq (ro : Ro) (v0 v1 : Value) (h : T Obj) (nx : Nat) (K : KV) : callPre Try.prog ro (callP Try.prog ro) Try.f18 [v0, v1] h nx K = nca_Rule ro v0 v1 h nx K := by kernel_rfl
theorem nca_Rule_of {ro : Ro} {v0 v1 : Value} {h : T Obj} {nx : Nat} {K : KV} (hw : nca_Rule ro v0 v1 h nx K) : callP Try.prog ro i_nca_Rule [v0, v1] h nx K := callP_by (P := Try.prog) (fn := Try.f18) (by kernel_rfl) (by kernel_rfl) (by kernel_rfl) (Eq.mpr (nca_Rule_eq ro v0 v1 h nx K) hw)
@[irreducible] def nca_Start (ro : Ro) (h : T Obj) (nx : Nat) (K : KV) : Prop := bindP (zer Try.prog y_api_Config) fun z1 => newP h nx (.cells z1.cells y_api_Config) fun h2 => bindP (buildV Try.prog y_api_Config [(0, (Value.bool true))]) fun t1_3 => bindP (storeN 2 h2 (ptr nx) t1_3) fun h4 => bindP (loadA ro h4 2 (ptr nx)) fun r5 => ∃ h6, Sub h6 h4 ∧ K r5 h6 (nx + 3)
theorem nca_Start_eq (ro : Ro) (h : T Obj) (nx : Nat) (K : KV) : callPre Try.prog ro (callP Try.prog ro) Try.f25 [] h nx K = nca_Start ro h nx K := by kernel_rfl
theorem nca_Start_of {ro : Ro} {h : T Obj} {nx : Nat} {K : KV} (hw : nca_Start ro h nx K) : callP Try.prog ro i_nca_Start [] h nx K := callP_by (P := Try.prog) (fn := Try.f25) (by kernel_rfl) (by kernel_rfl) (by kernel_rfl) (Eq.mpr (nca_Start_eq ro h nx K) hw)
@[irreducible] def glush_Right (ro : Ro) (v0 : Value) (h : T Obj) (nx : Nat) (K : KV) : Prop := newP h nx (.cells (Value.cells v0) y_api_Glush) fun h1 => bindP (fwdP 1 (ptr nx)) fun t3_2 => bindP (load1 ro h1 t3_2) fun t4_3 => bindP (lenSl t4_3) fun t5_4 => bindP (intB .gtr t5_4 (Value.int IntKind.i64 512)) fun t6_5 => ifP t6_5 false h1 (nx + 7) (fun k6 => bindP (fwdP 0 (ptr nx)) fun t8_10 => k6 t8_10 h1 (nx + 8)) fun t8_7 h8 n9 => ifP t6_5 false h8 n9 (fun k11 => bindP (load1 ro h8 t8_7) fun t9_15 => k11 t9_15 h8 (n9 + 1)) fun t9_12 h13 n14 => ifP t6_5 false h13 n14 (fun k16 => bindP (fwdP 1 (ptr nx)) fun t10_20 => k16 t10_20 h13 (n14 + 1)) fun t10_17 h18 n19 => ifP t6_5 false h18 n19 (fun k21 => bindP (load1 ro h18 t10_17) fun t11_25 => k21 t11_25 h18 (n19 + 1)) fun t11_22 h23 n24 => ifP t6_5 false h23 n24 (fun k26 => bindP (lenSl t11_22) fun t12_30 => k26 t12_30 h23 (n24 + 1)) fun t12_27 h28 n29 => ifP t6_5 false h28 n29 (fun k31 => callP Try.prog ro i_glush_rises [t9_12, t12_27] h28 (n29 + 1) fun t13_35 h36 n37 => k31 t13_35 h36 n37) fun t13_32 h33 n34 => ifP t6_5 false h33 n34 (fun k38 => bindP (unV .not t13_32) fun t14_42 => k38 t14_42 h33 (n34 + 1)) fun t14_39 h40 n41 => bindP (pickV t6_5 (Value.bool true) t14_39) fun t15_43 => condP t15_43 (∃ h44, Sub h44 h40 ∧ K (Value.bool false) h44 (n41 + 2)) (bindP (fwdP 1 (ptr nx)) fun t16_45 => bindP (load1 ro h40 t16_45) fun t17_46 => callP Try.prog ro i_slices_ContainsFunc_api_Pos_api_Pos [t17_46, (.func (.func i_glush_Right_1) #[] #[(ptr nx)])] h40 (n41 + 5) fun t19_47 h48 n49 => bindP (unV .not t19_47) fun t20_50 => ∃ h51, Sub h51 h48 ∧ K t20_50 h51 (n49 + 2))
theorem glush_Right_eq (ro : Ro) (v0 : Value) (h : T Obj) (nx : Nat) (K : KV) : callPre Try.prog ro (callP Try.prog ro) Try.f29 [v0] h nx K = glush_Right ro v0 h nx K := by kernel_rfl
theorem glush_Right_of {ro : Ro} {v0 : Value} {h : T Obj} {nx : Nat} {K : KV} (hw : glush_Right ro v0 h nx K) : callP Try.prog ro i_glush_Right [v0] h nx K := callP_by (P := Try.prog) (fn := Try.f29) (by kernel_rfl) (by kernel_rfl) (by kernel_rfl) (Eq.mpr (glush_Right_eq ro v0 h nx K) hw)
@[irreducible] def nca_fits_j1 (ro : Ro) (K : KV) : Env → T Obj → Nat → Prop := fun e h nx => ∃ h10, Sub h10 h ∧ K (Value.bool true) h10 (nx + 1)
@[irreducible] def nca_fits_j2 (ro : Ro) (Q : KE) : Env → T Obj → Nat → Prop := fun e h nx => bindP (intB .add (e 20) (Value.int IntKind.i64 1)) fun t67_15 => Q .normal (puts e [(67, t67_15), (20, t67_15)]) h (nx + 2)
@[irreducible] def nca_fits_L2 (ro : Ro) : PT := fun e h nx Q => bindP (intB .lss (e 47) (e 46)) fun t48_81 => condP t48_81 (bindP (ixSl 1 (e 45) (e 47)) fun t49_82 => bindP (load1 ro h t49_82) fun t50_83 => bindP (intB .leq t50_83 (e 8)) fun t53_84 => ifP t53_84 false h (nx + 8) (fun k85 => k85 t50_83 h (nx + 9)) fun t55_86 h87 n88 => ifP t53_84 false h87 n88 (fun k89 => bindP (fwdP 1 (e 2)) fun t56_93 => k89 t56_93 h87 (n88 + 1)) fun t56_90 h91 n92 => ifP t53_84 false h91 n92 (fun k94 => bindP (load1 ro h91 t56_90) fun t57_98 => k94 t57_98 h91 (n92 + 1)) fun t57_95 h96 n97 => ifP t53_84 false h96 n97 (fun k99 => bindP (fwdP 0 (e 7)) fun t58_103 => k99 t58_103 h96 (n97 + 1)) fun t58_100 h101 n102 => ifP t53_84 false h101 n102 (fun k104 => bindP (load1 ro h101 t58_100) fun t59_108 => k104 t59_108 h101 (n102 + 1)) fun t59_105 h106 n107 => ifP t53_84 false h106 n107 (fun k109 => bindP (ixSl 9 t57_95 t59_105) fun t60_113 => k109 t60_113 h106 (n107 + 1)) fun t60_110 h111 n112 => ifP t53_84 false h111 n112 (fun k114 => bindP (fwdP 5 t60_110) fun t61_118 => k114 t61_118 h111 (n112 + 1)) fun t61_115 h116 n117 => ifP t53_84 false h116 n117 (fun k119 => bindP (load1 ro h116 t61_115) fun t62_123 => k119 t62_123 h116 (n117 + 1)) fun t62_120 h121 n122 => ifP t53_84 false h121 n122 (fun k124 => bindP (intB .gtr t55_86 t62_120) fun t63_128 => k124 t63_128 h121 (n122 + 1)) fun t63_125 h126 n127 => bindP (pickV t53_84 (Value.bool true) t63_125) fun t64_129 => condP t64_129 (Q .ret (puts e [(48, t48_81), (49, t49_82), (50, t50_83), (10, t50_83), (51, t50_83), (52, (e 8)), (53, t53_84), (54, t53_84), (55, t55_86), (56, t56_90), (57, t57_95), (58, t58_100), (59, t59_105), (60, t60_110), (61, t61_115), (62, t62_120), (63, t63_125), (64, t64_129), (4, (Value.bool false))]) h126 (n127 + 2)) (bindP (intB .add (e 47) (Value.int IntKind.i64 1)) fun t66_130 => Q .normal (puts e [(48, t48_81), (49, t49_82), (50, t50_83), (10, t50_83), (51, t50_83), (52, (e 8)), (53, t53_84), (54, t53_84), (55, t55_86), (56, t56_90), (57, t57_95), (58, t58_100), (59, t59_105), (60, t60_110), (61, t61_115), (62, t62_120), (63, t63_125), (64, t64_129), (65, t50_83), (8, t50_83), (66, t66_130), (47, t66_130)]) h126 (n127 + 5))) (Q (.exit 2) (puts e [(48, t48_81)]) h (nx + 1))
@[irreducible] def nca_fits_L1 (ro : Ro) : PT := fun e h nx Q => bindP (intB .lss (e 20) (e 19)) fun t21_14 => condP t21_14 (bindP (ixSl 2 (e 18) (e 20)) fun t22_16 => bindP (loadA ro h 2 t22_16) fun t23_17 => bindP (zer Try.prog y_api_Held) fun z18 => newP h (nx + 3) (.cells z18.cells y_api_Held) fun h19 => bindP (storeN 2 h19 (ptr (nx + 3)) t23_17) fun h20 => bindP (fwdP 0 (ptr (nx + 3))) fun t24_21 => bindP (load1 ro h20 t24_21) fun t25_22 => bindP (intB .leq t25_22 (e 5)) fun t27_23 => ifP t27_23 false h20 (nx + 10) (fun k24 => bindP (fwdP 0 (ptr (nx + 3))) fun t29_28 => k24 t29_28 h20 (nx + 11)) fun t29_25 h26 n27 => ifP t27_23 false h26 n27 (fun k29 => bindP (load1 ro h26 t29_25) fun t30_33 => k29 t30_33 h26 (n27 + 1)) fun t30_30 h31 n32 => ifP t27_23 false h31 n32 (fun k34 => bindP (fwdP 1 (e 2)) fun t31_38 => k34 t31_38 h31 (n32 + 1)) fun t31_35 h36 n37 => ifP t27_23 false h36 n37 (fun k39 => bindP (load1 ro h36 t31_35) fun t32_43 => k39 t32_43 h36 (n37 + 1)) fun t32_40 h41 n42 => ifP t27_23 false h41 n42 (fun k44 => bindP (lenSl t32_40) fun t33_48 => k44 t33_48 h41 (n42 + 1)) fun t33_45 h46 n47 => ifP t27_23 false h46 n47 (fun k49 => bindP (intB .geq t30_30 t33_45) fun t34_53 => k49 t34_53 h46 (n47 + 1)) fun t34_50 h51 n52 => bindP (pickV t27_23 (Value.bool true) t34_50) fun t35_54 => ifP t35_54 false h51 (n52 + 2) (fun k55 => bindP (fwdP 1 (ptr (nx + 3))) fun t37_59 => k55 t37_59 h51 (n52 + 3)) fun t37_56 h57 n58 => ifP t35_54 false h57 n58 (fun k60 => bindP (load1 ro h57 t37_56) fun t38_64 => k60 t38_64 h57 (n58 + 1)) fun t38_61 h62 n63 => ifP t35_54 false h62 n63 (fun k65 => bindP (lenSl t38_61) fun t39_69 => k65 t39_69 h62 (n63 + 1)) fun t39_66 h67 n68 => ifP t35_54 false h67 n68 (fun k70 => bindP (intB .eql t39_66 (Value.int IntKind.i64 0)) fun t40_74 => k70 t40_74 h67 (n68 + 1)) fun t40_71 h72 n73 => bindP (pickV t35_54 (Value.bool true) t40_71) fun t41_75 => condP t41_75 (Q .ret (puts e [(21, t21_14), (22, t22_16), (23, t23_17), (7, (ptr (nx + 3))), (24, t24_21), (25, t25_22), (26, (e 5)), (27, t27_23), (28, t27_23), (29, t29_25), (30, t30_30), (31, t31_35), (32, t32_40), (33, t33_45), (34, t34_50), (35, t35_54), (36, t35_54), (37, t37_56), (38, t38_61), (39, t39_66), (40, t40_71), (41, t41_75), (4, (Value.bool false))]) h72 (n73 + 2)) (bindP (fwdP 0 (ptr (nx + 3))) fun t42_76 => bindP (load1 ro h72 t42_76) fun t43_77 => bindP (fwdP 1 (ptr (nx + 3))) fun t44_78 => bindP (load1 ro h72 t44_78) fun t45_79 => bindP (lenSl t45_79) fun t46_80 => loopP (nca_fits_L2 ro) (puts e [(21, t21_14), (22, t22_16), (23, t23_17), (7, (ptr (nx + 3))), (24, t24_21), (25, t25_22), (26, (e 5)), (27, t27_23), (28, t27_23), (29, t29_25), (30, t30_30), (31, t31_35), (32, t32_40), (33, t33_45), (34, t34_50), (35, t35_54), (36, t35_54), (37, t37_56), (38, t38_61), (39, t39_66), (40, t40_71), (41, t41_75), (42, t42_76), (43, t43_77), (5, t43_77), (8, (Value.int IntKind.i64 0)), (44, t44_78), (45, t45_79), (46, t46_80), (47, (Value.int IntKind.i64 0))]) h72 (n73 + 9) fun x134 e131 h132 n133 => exP x134 (nca_fits_j2 ro Q e131 h132 n133) (fun i135 => beqP (Nat.beq i135 2) (nca_fits_j2 ro Q e131 h132 n133) (beqP (Nat.beq i135 1) (nca_fits_j2 ro Q e131 h132 n133) (Q (.exit i135) e131 h132 n133))) (Q .ret e131 h132 n133))) (Q (.exit 0) (puts e [(21, t21_14)]) h (nx + 1))
@[irreducible] def nca_fits (ro : Ro) (v0 v1 : Value) (h : T Obj) (nx : Nat) (K : KV) : Prop := newP h nx (.cells (Value.cells v0) y_api_Glush) fun h1 => newP h1 (nx + 1) (.cells (Value.cells v1) y_api_Config) fun h2 => bindP (fwdP 0 (ptr (nx + 1))) fun t11_3 => bindP (load1 ro h2 t11_3) fun t12_4 => condP t12_4 (bindP (fwdP 1 (ptr (nx + 1))) fun t13_5 => bindP (load1 ro h2 t13_5) fun t14_6 => bindP (lenSl t14_6) fun t15_7 => bindP (intB .eql t15_7 (Value.int IntKind.i64 0)) fun t16_8 => ∃ h9, Sub h9 h2 ∧ K t16_8 h9 (nx + 10)) (bindP (fwdP 1 (ptr (nx + 1))) fun t17_11 => bindP (load1 ro h2 t17_11) fun t18_12 => bindP (lenSl t18_12) fun t19_13 => loopP (nca_fits_L1 ro) (puts (entE [v0, v1]) [(2, (ptr nx)), (3, (ptr (nx + 1))), (4, (Value.bool false)), (11, t11_3), (12, t12_4), (5, (Value.int IntKind.i64 (-1))), (17, t17_11), (18, t18_12), (19, t19_13), (20, (Value.int IntKind.i64 0))]) h2 (nx + 10) fun x139 e136 h137 n138 => exP x139 (nca_fits_j1 ro K e136 h137 n138) (fun i140 => beqP (Nat.beq i140 0) (nca_fits_j1 ro K e136 h137 n138) (False)) (∃ h141, Sub h141 h137 ∧ K (e136 4) h141 n138))
theorem nca_fits_eq (ro : Ro) (v0 v1 : Value) (h : T Obj) (nx : Nat) (K : KV) : callPre Try.prog ro (callP Try.prog ro) Try.f30 [v0, v1] h nx K = nca_fits ro v0 v1 h nx K := by kernel_rfl
theorem nca_fits_of {ro : Ro} {v0 v1 : Value} {h : T Obj} {nx : Nat} {K : KV} (hw : nca_fits ro v0 v1 h nx K) : callP Try.prog ro i_nca_fits [v0, v1] h nx K := callP_by (P := Try.prog) (fn := Try.f30) (by kernel_rfl) (by kernel_rfl) (by kernel_rfl) (Eq.mpr (nca_fits_eq ro v0 v1 h nx K) hw)
@[irreducible] def nca_step_j4 (ro : Ro) (K : KV) : Env → T Obj → Nat → Prop := fun e h nx => bindP (loadA ro h 2 (e 15)) fun t116_16 => bindP (storeN 2 h (e 6) t116_16) fun h17 => bindP (loadA ro h17 2 (e 6)) fun r18 => ∃ h19, Sub h19 h17 ∧ K r18 h19 (nx + 2)
@[irreducible] def nca_step_j5 (ro : Ro) (Q : KE) : Env → T Obj → Nat → Prop := fun e h nx => bindP (intB .add (e 99) (Value.int IntKind.i64 1)) fun t115_23 => Q .normal (puts e [(115, t115_23), (99, t115_23)]) h (nx + 2)
@[irreducible] def nca_step_L1 (ro : Ro) : PT := fun e h nx Q => bindP (intB .lss (e 99) (e 98)) fun t100_22 => condP t100_22 (bindP (ixSl 1 (e 97) (e 99)) fun t102_24 => bindP (load1 ro h t102_24) fun t103_25 => bindP (lenSl t103_25) fun t105_26 => bindP (intB .gtr t105_26 (Value.int IntKind.i64 0)) fun t106_27 => condP t106_27 (bindP (fwdP 1 (e 15)) fun t107_28 => bindP (load1 ro h t107_28) fun t108_29 => bindP (buildV Try.prog y_api_Held [(0, (e 99)), (1, t103_25)]) fun t111_30 => bindP (sliceLitV Try.prog y_s_api_Held (nx + 14) 1 [(0, t111_30)]) fun r31 => optP h (nx + 14) r31.2 fun h32 => bindP (appendV Try.prog ro h32 (nx + 16) #[y_s_api_Held, y_s_api_Held] [t108_29, r31.1]) fun r33 => bindP (fwdP 1 (e 15)) fun t114_34 => bindP (storeN 1 r33.2.1 t114_34 r33.1) fun h35 => nca_step_j5 ro Q (puts e [(100, t100_22), (101, (e 99)), (102, t102_24), (103, t103_25), (16, (e 99)), (17, t103_25), (104, t103_25), (105, t105_26), (106, t106_27), (107, t107_28), (108, t108_29), (109, (e 99)), (110, t103_25), (111, t111_30), (112, r31.1), (113, r33.1), (114, t114_34)]) h35 (r33.2.2 + 2)) (nca_step_j5 ro Q (puts e [(100, t100_22), (101, (e 99)), (102, t102_24), (103, t103_25), (16, (e 99)), (17, t103_25), (104, t103_25), (105, t105_26), (106, t106_27)]) h (nx + 9))) (Q (.exit 6) (puts e [(100, t100_22)]) h (nx + 1))
@[irreducible] def nca_step_j3 (ro : Ro) (K : KV) : Env → T Obj → Nat → Prop := fun e h nx => bindP (zer Try.prog y_api_Config) fun z14 => newP h nx (.cells z14.cells y_api_Config) fun h15 => bindP (load1 ro h15 (e 7)) fun t97_20 => bindP (lenSl t97_20) fun t98_21 => loopP (nca_step_L1 ro) (puts e [(15, (ptr nx)), (97, t97_20), (98, t98_21), (99, (Value.int IntKind.i64 0))]) h15 (nx + 4) fun x39 e36 h37 n38 => exP x39 (nca_step_j4 ro K e36 h37 n38) (fun i40 => beqP (Nat.beq i40 6) (nca_step_j4 ro K e36 h37 n38) (False)) (bindP (loadA ro h37 2 (e36 6)) fun r41 => ∃ h42, Sub h42 h37 ∧ K r41 h42 n38)
@[irreducible] def nca_step_j6 (ro : Ro) (Q : KE) : Env → T Obj → Nat → Prop := fun e h nx => bindP (intB .add (e 52) (Value.int IntKind.i64 1)) fun t96_47 => Q .normal (puts e [(96, t96_47), (52, t96_47)]) h (nx + 2)
@[irreducible] def nca_step_j7 (ro : Ro) (Q : KE) : Env → T Obj → Nat → Prop := fun e h nx => bindP (intB .add (e 69) (Value.int IntKind.i64 1)) fun t95_69 => Q .normal (puts e [(95, t95_69), (69, t95_69)]) h (nx + 2)
@[irreducible] def nca_step_L3 (ro : Ro) : PT := fun e h nx Q => bindP (intB .lss (e 69) (e 68)) fun t70_68 => condP t70_68 (bindP (ixSl 1 (e 67) (e 69)) fun t71_70 => bindP (load1 ro h t71_70) fun t72_71 => bindP (fwdP 1 (e 3)) fun t74_72 => bindP (load1 ro h t74_72) fun t75_73 => bindP (fwdP 0 (e 12)) fun t76_74 => bindP (load1 ro h t76_74) fun t77_75 => bindP (ixSl 9 t75_73 t77_75) fun t78_76 => bindP (fwdP 5 t78_76) fun t79_77 => bindP (load1 ro h t79_77) fun t80_78 => bindP (intB .lss t72_71 t80_78) fun t81_79 => condP t81_79 (bindP (load1 ro h (e 7)) fun t82_80 => bindP (fwdP 0 (e 12)) fun t83_81 => bindP (load1 ro h t83_81) fun t84_82 => bindP (load1 ro h (e 7)) fun t85_83 => bindP (fwdP 0 (e 12)) fun t86_84 => bindP (load1 ro h t86_84) fun t87_85 => bindP (ixSl 1 t85_83 t87_85) fun t88_86 => bindP (load1 ro h t88_86) fun t89_87 => bindP (intB .add t72_71 (Value.int IntKind.i64 1)) fun t91_88 => bindP (sliceLitV Try.prog y_s_int (nx + 23) 1 [(0, t91_88)]) fun r89 => optP h (nx + 23) r89.2 fun h90 => bindP (appendV Try.prog ro h90 (nx + 27) #[y_s_int, y_s_int] [t89_87, r89.1]) fun r91 => (sameV t83_81 h90 r91.2.1) ∧ ((sameV (e 7) h90 r91.2.1) ∧ (bindP (ixSl 1 t82_80 t84_82) fun t94_92 => bindP (storeN 1 r91.2.1 t94_92 r91.1) fun h93 => nca_step_j7 ro Q (puts e [(70, t70_68), (71, t71_70), (72, t72_71), (14, t72_71), (73, t72_71), (74, t74_72), (75, t75_73), (76, t76_74), (77, t77_75), (78, t78_76), (79, t79_77), (80, t80_78), (81, t81_79), (82, t82_80), (83, t83_81), (84, t84_82), (85, t85_83), (86, t86_84), (87, t87_85), (88, t88_86), (89, t89_87), (90, t72_71), (91, t91_88), (92, r89.1), (93, r91.1), (94, t94_92)]) h93 r91.2.2))) (nca_step_j7 ro Q (puts e [(70, t70_68), (71, t71_70), (72, t72_71), (14, t72_71), (73, t72_71), (74, t74_72), (75, t75_73), (76, t76_74), (77, t77_75), (78, t78_76), (79, t79_77), (80, t80_78), (81, t81_79)]) h (nx + 13))) (Q (.exit 4) (puts e [(70, t70_68)]) h (nx + 1))
@[irreducible] def nca_step_L2 (ro : Ro) : PT := fun e h nx Q => bindP (intB .lss (e 52) (e 51)) fun t53_46 => condP t53_46 (bindP (ixSl 2 (e 50) (e 52)) fun t54_48 => bindP (loadA ro h 2 t54_48) fun t55_49 => bindP (zer Try.prog y_api_Held) fun z50 => newP h (nx + 3) (.cells z50.cells y_api_Held) fun h51 => bindP (storeN 2 h51 (ptr (nx + 3)) t55_49) fun h52 => bindP (fwdP 1 (e 3)) fun t56_53 => bindP (load1 ro h52 t56_53) fun t57_54 => bindP (fwdP 0 (ptr (nx + 3))) fun t58_55 => bindP (load1 ro h52 t58_55) fun t59_56 => bindP (ixSl 9 t57_54 t59_56) fun t60_57 => bindP (fwdP 0 t60_57) fun t61_58 => bindP (loadA ro h52 4 t61_58) fun t62_59 => bindP (load1 ro h52 (e 5)) fun t63_60 => callP Try.prog ro i_bset_Has [t62_59, t63_60] h52 (nx + 15) fun t64_61 h62 n63 => bindP (unV .not t64_61) fun t65_64 => condP t65_64 (nca_step_j6 ro Q (puts e [(53, t53_46), (54, t54_48), (55, t55_49), (12, (ptr (nx + 3))), (56, t56_53), (57, t57_54), (58, t58_55), (59, t59_56), (60, t60_57), (61, t61_58), (62, t62_59), (63, t63_60), (64, t64_61), (65, t65_64)]) h62 n63) (bindP (fwdP 1 (ptr (nx + 3))) fun t66_65 => bindP (load1 ro h62 t66_65) fun t67_66 => bindP (lenSl t67_66) fun t68_67 => loopP (nca_step_L3 ro) (puts e [(53, t53_46), (54, t54_48), (55, t55_49), (12, (ptr (nx + 3))), (56, t56_53), (57, t57_54), (58, t58_55), (59, t59_56), (60, t60_57), (61, t61_58), (62, t62_59), (63, t63_60), (64, t64_61), (65, t65_64), (66, t66_65), (67, t67_66), (68, t68_67), (69, (Value.int IntKind.i64 0))]) h62 (n63 + 4) fun x97 e94 h95 n96 => exP x97 (nca_step_j6 ro Q e94 h95 n96) (fun i98 => beqP (Nat.beq i98 4) (nca_step_j6 ro Q e94 h95 n96) (beqP (Nat.beq i98 3) (nca_step_j6 ro Q e94 h95 n96) (Q (.exit i98) e94 h95 n96))) (Q .ret e94 h95 n96))) (Q (.exit 2) (puts e [(53, t53_46)]) h (nx + 1))
@[irreducible] def nca_step_j2 (ro : Ro) (K : KV) : Env → T Obj → Nat → Prop := fun e h nx => bindP (fwdP 1 (e 4)) fun t49_43 => bindP (load1 ro h t49_43) fun t50_44 => bindP (lenSl t50_44) fun t51_45 => loopP (nca_step_L2 ro) (puts e [(49, t49_43), (50, t50_44), (51, t51_45), (52, (Value.int IntKind.i64 0))]) h (nx + 4) fun x102 e99 h100 n101 => exP x102 (nca_step_j3 ro K e99 h100 n101) (fun i103 => beqP (Nat.beq i103 2) (nca_step_j3 ro K e99 h100 n101) (False)) (bindP (loadA ro h100 2 (e99 6)) fun r104 => ∃ h105, Sub h105 h100 ∧ K r104 h105 n101)
@[irreducible] def nca_step_j8 (ro : Ro) (Q : KE) : Env → T Obj → Nat → Prop := fun e h nx => bindP (intB .add (e 32) (Value.int IntKind.i64 1)) fun t48_110 => Q .normal (puts e [(48, t48_110), (32, t48_110)]) h (nx + 2)
@[irreducible] def nca_step_L4 (ro : Ro) : PT := fun e h nx Q => bindP (intB .lss (e 32) (e 31)) fun t33_109 => condP t33_109 (bindP (ixSl 2 (e 30) (e 32)) fun t34_111 => bindP (loadA ro h 2 t34_111) fun t35_112 => bindP (zer Try.prog y_api_Held) fun z113 => newP h (nx + 3) (.cells z113.cells y_api_Held) fun h114 => bindP (storeN 2 h114 (ptr (nx + 3)) t35_112) fun h115 => bindP (loadA ro h115 2 (e 3)) fun t36_116 => bindP (loadA ro h115 2 (ptr (nx + 3))) fun t37_117 => callP Try.prog ro i_nca_ripe [t36_116, t37_117] h115 (nx + 8) fun t38_118 h119 n120 => condP t38_118 (bindP (fwdP 1 (e 3)) fun t40_121 => bindP (load1 ro h119 t40_121) fun t41_122 => bindP (fwdP 0 (ptr (nx + 3))) fun t42_123 => bindP (load1 ro h119 t42_123) fun t43_124 => bindP (ixSl 9 t41_122 t43_124) fun t44_125 => bindP (fwdP 8 t44_125) fun t45_126 => bindP (load1 ro h119 t45_126) fun t46_127 => callF (callP Try.prog ro) (e 8) [t46_127] h119 (n120 + 9) fun t47_128 h129 n130 => nca_step_j8 ro Q (puts e [(33, t33_109), (34, t34_111), (35, t35_112), (10, (ptr (nx + 3))), (36, t36_116), (37, t37_117), (38, t38_118), (39, (e 8)), (40, t40_121), (41, t41_122), (42, t42_123), (43, t43_124), (44, t44_125), (45, t45_126), (46, t46_127), (47, t47_128)]) h129 n130) (nca_step_j8 ro Q (puts e [(33, t33_109), (34, t34_111), (35, t35_112), (10, (ptr (nx + 3))), (36, t36_116), (37, t37_117), (38, t38_118)]) h119 n120)) (Q (.exit 0) (puts e [(33, t33_109)]) h (nx + 1))
@[irreducible] def nca_step_j1 (ro : Ro) (K : KV) : Env → T Obj → Nat → Prop := fun e h nx => bindP (fwdP 1 (e 4)) fun t29_106 => bindP (load1 ro h t29_106) fun t30_107 => bindP (lenSl t30_107) fun t31_108 => loopP (nca_step_L4 ro) (puts e [(29, t29_106), (30, t30_107), (31, t31_108), (32, (Value.int IntKind.i64 0))]) h (nx + 4) fun x134 e131 h132 n133 => exP x134 (nca_step_j2 ro K e131 h132 n133) (fun i135 => beqP (Nat.beq i135 0) (nca_step_j2 ro K e131 h132 n133) (False)) (bindP (loadA ro h132 2 (e131 6)) fun r136 => ∃ h137, Sub h137 h132 ∧ K r136 h137 n133)
@[irreducible] def nca_step (ro : Ro) (v0 v1 v2 : Value) (h : T Obj) (nx : Nat) (K : KV) : Prop := newP h nx (.cells (Value.cells v0) y_api_Glush) fun h1 => newP h1 (nx + 1) (.cells (Value.cells v1) y_api_Config) fun h2 => newP h2 (nx + 2) (.cells (Value.cells v2) y_uint8) fun h3 => bindP (zer Try.prog y_api_Config) fun z4 => newP h3 (nx + 3) (.cells z4.cells y_api_Config) fun h5 => bindP (fwdP 1 (ptr nx)) fun t18_6 => bindP (load1 ro h5 t18_6) fun t19_7 => bindP (lenSl t19_7) fun t20_8 => bindP (makeV Try.prog y_s_s_int (nx + 7) t20_8 t20_8) fun r9 => optP h5 (nx + 7) r9.2 fun h10 => bindP (zer Try.prog y_s_s_int) fun z11 => newP h10 (nx + 8) (.cells z11.cells y_s_s_int) fun h12 => bindP (storeN 1 h12 (ptr (nx + 8)) r9.1) fun h13 => bindP (fwdP 0 (ptr (nx + 1))) fun t23_138 => bindP (load1 ro h13 t23_138) fun t24_139 => condP t24_139 (bindP (fwdP 0 (ptr nx)) fun t26_140 => bindP (load1 ro h13 t26_140) fun t27_141 => callF (callP Try.prog ro) (.func (.func i_nca_step_1) #[] #[(ptr (nx + 8)), (ptr nx), (ptr (nx + 2))]) [t27_141] h13 (nx + 18) fun t28_142 h143 n144 => nca_step_j1 ro K (puts (entE [v0, v1, v2]) [(3, (ptr nx)), (4, (ptr (nx + 1))), (5, (ptr (nx + 2))), (6, (ptr (nx + 3))), (18, t18_6), (19, t19_7), (20, t20_8), (21, r9.1), (7, (ptr (nx + 8))), (22, (.func (.func i_nca_step_1) #[] #[(ptr (nx + 8)), (ptr nx), (ptr (nx + 2))])), (8, (.func (.func i_nca_step_1) #[] #[(ptr (nx + 8)), (ptr nx), (ptr (nx + 2))])), (23, t23_138), (24, t24_139), (25, (.func (.func i_nca_step_1) #[] #[(ptr (nx + 8)), (ptr nx), (ptr (nx + 2))])), (26, t26_140), (27, t27_141), (28, t28_142)]) h143 n144) (nca_step_j1 ro K (puts (entE [v0, v1, v2]) [(3, (ptr nx)), (4, (ptr (nx + 1))), (5, (ptr (nx + 2))), (6, (ptr (nx + 3))), (18, t18_6), (19, t19_7), (20, t20_8), (21, r9.1), (7, (ptr (nx + 8))), (22, (.func (.func i_nca_step_1) #[] #[(ptr (nx + 8)), (ptr nx), (ptr (nx + 2))])), (8, (.func (.func i_nca_step_1) #[] #[(ptr (nx + 8)), (ptr nx), (ptr (nx + 2))])), (23, t23_138), (24, t24_139)]) h13 (nx + 14))
theorem nca_step_eq (ro : Ro) (v0 v1 v2 : Value) (h : T Obj) (nx : Nat) (K : KV) : callPre Try.prog ro (callP Try.prog ro) Try.f32 [v0, v1, v2] h nx K = nca_step ro v0 v1 v2 h nx K := by kernel_rfl
theorem nca_step_of {ro : Ro} {v0 v1 v2 : Value} {h : T Obj} {nx : Nat} {K : KV} (hw : nca_step ro v0 v1 v2 h nx K) : callP Try.prog ro i_nca_step [v0, v1, v2] h nx K := callP_by (P := Try.prog) (fn := Try.f32) (by kernel_rfl) (by kernel_rfl) (by kernel_rfl) (Eq.mpr (nca_step_eq ro v0 v1 v2 h nx K) hw)
@[irreducible] def nca_rule_j1 (ro : Ro) (K : KV) : Env → T Obj → Nat → Prop := fun e h nx => ∃ h3, Sub h3 h ∧ K (e 5) h3 (nx + 2)
@[irreducible] def nca_rule_j2 (ro : Ro) (Q : KE) : Env → T Obj → Nat → Prop := fun e h nx => bindP (intB .add (e 12) (Value.int IntKind.i64 1)) fun t41_8 => Q .normal (puts e [(41, t41_8), (12, t41_8)]) h (nx + 2)
@[irreducible] def nca_rule_L1 (ro : Ro) : PT := fun e h nx Q => bindP (intB .lss (e 12) (e 11)) fun t13_7 => condP t13_7 (bindP (ixSl 2 (e 10) (e 12)) fun t14_9 => bindP (loadA ro h 2 t14_9) fun t15_10 => bindP (zer Try.prog y_api_Held) fun z11 => newP h (nx + 3) (.cells z11.cells y_api_Held) fun h12 => bindP (storeN 2 h12 (ptr (nx + 3)) t15_10) fun h13 => bindP (fwdP 1 (e 2)) fun t16_14 => bindP (load1 ro h13 t16_14) fun t17_15 => bindP (fwdP 0 (ptr (nx + 3))) fun t18_16 => bindP (load1 ro h13 t18_16) fun t19_17 => bindP (ixSl 9 t17_15 t19_17) fun t20_18 => bindP (loadA ro h13 9 t20_18) fun t21_19 => bindP (zer Try.prog y_api_Pos) fun z20 => newP h13 (nx + 11) (.cells z20.cells y_api_Pos) fun h21 => bindP (storeN 9 h21 (ptr (nx + 11)) t21_19) fun h22 => bindP (fwdP 7 (ptr (nx + 11))) fun t22_23 => bindP (load1 ro h22 t22_23) fun t23_24 => ifP t23_24 true h22 (nx + 16) (fun k25 => bindP (loadA ro h22 2 (e 2)) fun t25_29 => k25 t25_29 h22 (nx + 17)) fun t25_26 h27 n28 => ifP t23_24 true h27 n28 (fun k30 => bindP (loadA ro h27 2 (ptr (nx + 3))) fun t26_34 => k30 t26_34 h27 (n28 + 1)) fun t26_31 h32 n33 => ifP t23_24 true h32 n33 (fun k35 => callP Try.prog ro i_nca_ripe [t25_26, t26_31] h32 (n33 + 1) fun t27_39 h40 n41 => k35 t27_39 h40 n41) fun t27_36 h37 n38 => bindP (pickV t23_24 t27_36 (Value.bool false)) fun t28_42 => ifP t28_42 true h37 (n38 + 2) (fun k43 => k43 (e 5) h37 (n38 + 3)) fun t30_44 h45 n46 => ifP t28_42 true h45 n46 (fun k47 => bindP (intB .lss t30_44 (Value.int IntKind.i64 0)) fun t31_51 => k47 t31_51 h45 (n46 + 1)) fun t31_48 h49 n50 => ifP t28_42 true h49 n50 (fun k52 => k52 t31_48 h49 (n50 + 1)) fun t32_53 h54 n55 => ifP t32_53 false h54 n55 (fun k56 => bindP (fwdP 6 (ptr (nx + 11))) fun t33_60 => k56 t33_60 h54 (n55 + 1)) fun t33_57 h58 n59 => ifP t32_53 false h58 n59 (fun k61 => bindP (load1 ro h58 t33_57) fun t34_65 => k61 t34_65 h58 (n59 + 1)) fun t34_62 h63 n64 => ifP t32_53 false h63 n64 (fun k66 => k66 (e 5) h63 (n64 + 1)) fun t35_67 h68 n69 => ifP t32_53 false h68 n69 (fun k70 => bindP (intB .lss t34_62 t35_67) fun t36_74 => k70 t36_74 h68 (n69 + 1)) fun t36_71 h72 n73 => ifP t28_42 true h72 n73 (fun k75 => bindP (pickV t32_53 (Value.bool true) t36_71) fun t37_79 => k75 t37_79 h72 (n73 + 1)) fun t37_76 h77 n78 => bindP (pickV t28_42 t37_76 (Value.bool false)) fun t38_80 => condP t38_80 (bindP (fwdP 6 (ptr (nx + 11))) fun t39_81 => bindP (load1 ro h77 t39_81) fun t40_82 => nca_rule_j2 ro Q (puts e [(13, t13_7), (14, t14_9), (15, t15_10), (7, (ptr (nx + 3))), (16, t16_14), (17, t17_15), (18, t18_16), (19, t19_17), (20, t20_18), (21, t21_19), (8, (ptr (nx + 11))), (22, t22_23), (23, t23_24), (24, t23_24), (25, t25_26), (26, t26_31), (27, t27_36), (28, t28_42), (29, t28_42), (30, t30_44), (31, t31_48), (32, t32_53), (33, t33_57), (34, t34_62), (35, t35_67), (36, t36_71), (37, t37_76), (38, t38_80), (39, t39_81), (40, t40_82), (5, t40_82)]) h77 (n78 + 4)) (nca_rule_j2 ro Q (puts e [(13, t13_7), (14, t14_9), (15, t15_10), (7, (ptr (nx + 3))), (16, t16_14), (17, t17_15), (18, t18_16), (19, t19_17), (20, t20_18), (21, t21_19), (8, (ptr (nx + 11))), (22, t22_23), (23, t23_24), (24, t23_24), (25, t25_26), (26, t26_31), (27, t27_36), (28, t28_42), (29, t28_42), (30, t30_44), (31, t31_48), (32, t32_53), (33, t33_57), (34, t34_62), (35, t35_67), (36, t36_71), (37, t37_76), (38, t38_80)]) h77 (n78 + 1))) (Q (.exit 0) (puts e [(13, t13_7)]) h (nx + 1))
@[irreducible] def nca_rule (ro : Ro) (v0 v1 : Value) (h : T Obj) (nx : Nat) (K : KV) : Prop := newP h nx (.cells (Value.cells v0) y_api_Glush) fun h1 => newP h1 (nx + 1) (.cells (Value.cells v1) y_api_Config) fun h2 => bindP (fwdP 1 (ptr (nx + 1))) fun t9_4 => bindP (load1 ro h2 t9_4) fun t10_5 => bindP (lenSl t10_5) fun t11_6 => loopP (nca_rule_L1 ro) (puts (entE [v0, v1]) [(2, (ptr nx)), (3, (ptr (nx + 1))), (4, (Value.int IntKind.i64 0)), (5, (Value.int IntKind.i64 (-1))), (9, t9_4), (10, t10_5), (11, t11_6), (12, (Value.int IntKind.i64 0))]) h2 (nx + 8) fun x86 e83 h84 n85 => exP x86 (nca_rule_j1 ro K e83 h84 n85) (fun i87 => beqP (Nat.beq i87 0) (nca_rule_j1 ro K e83 h84 n85) (False)) (∃ h88, Sub h88 h84 ∧ K (e83 4) h88 n85)
theorem nca_rule_eq (ro : Ro) (v0 v1 : Value) (h : T Obj) (nx : Nat) (K : KV) : callPre Try.prog ro (callP Try.prog ro) Try.f34 [v0, v1] h nx K = nca_rule ro v0 v1 h nx K := by kernel_rfl
theorem nca_rule_of {ro : Ro} {v0 v1 : Value} {h : T Obj} {nx : Nat} {K : KV} (hw : nca_rule ro v0 v1 h nx K) : callP Try.prog ro i_nca_rule [v0, v1] h nx K := callP_by (P := Try.prog) (fn := Try.f34) (by kernel_rfl) (by kernel_rfl) (by kernel_rfl) (Eq.mpr (nca_rule_eq ro v0 v1 h nx K) hw)
@[irreducible] def glush_rises_j1 (ro : Ro) (K : KV) : Env → T Obj → Nat → Prop := fun e h nx => ∃ h1, Sub h1 h ∧ K (Value.bool true) h1 (nx + 1)
@[irreducible] def glush_rises_L1 (ro : Ro) : PT := fun e h nx Q => bindP (intB .lss (e 10) (e 9)) fun t11_3 => condP t11_3 (bindP (ixSl 1 (e 8) (e 10)) fun t12_4 => bindP (load1 ro h t12_4) fun t13_5 => bindP (intB .leq t13_5 (e 5)) fun t16_6 => ifP t16_6 false h (nx + 8) (fun k7 => k7 t13_5 h (nx + 9)) fun t18_8 h9 n10 => ifP t16_6 false h9 n10 (fun k11 => k11 (e 1) h9 (n10 + 1)) fun t19_12 h13 n14 => ifP t16_6 false h13 n14 (fun k15 => bindP (intB .geq t18_8 t19_12) fun t20_19 => k15 t20_19 h13 (n14 + 1)) fun t20_16 h17 n18 => bindP (pickV t16_6 (Value.bool true) t20_16) fun t21_20 => condP t21_20 (Q .ret (puts e [(11, t11_3), (12, t12_4), (13, t13_5), (7, t13_5), (14, t13_5), (15, (e 5)), (16, t16_6), (17, t16_6), (18, t18_8), (19, t19_12), (20, t20_16), (21, t21_20), (4, (Value.bool false))]) h17 (n18 + 2)) (bindP (intB .add (e 10) (Value.int IntKind.i64 1)) fun t23_21 => Q .normal (puts e [(11, t11_3), (12, t12_4), (13, t13_5), (7, t13_5), (14, t13_5), (15, (e 5)), (16, t16_6), (17, t16_6), (18, t18_8), (19, t19_12), (20, t20_16), (21, t21_20), (22, t13_5), (5, t13_5), (23, t23_21), (10, t23_21)]) h17 (n18 + 5))) (Q (.exit 0) (puts e [(11, t11_3)]) h (nx + 1))
@[irreducible] def glush_rises (ro : Ro) (v0 v1 : Value) (h : T Obj) (nx : Nat) (K : KV) : Prop := bindP (lenSl v0) fun t9_2 => loopP (glush_rises_L1 ro) (puts (entE [v0, v1]) [(4, (Value.bool false)), (5, (Value.int IntKind.i64 (-1))), (8, v0), (9, t9_2), (10, (Value.int IntKind.i64 0))]) h (nx + 5) fun x25 e22 h23 n24 => exP x25 (glush_rises_j1 ro K e22 h23 n24) (fun i26 => beqP (Nat.beq i26 0) (glush_rises_j1 ro K e22 h23 n24) (False)) (∃ h27, Sub h27 h23 ∧ K (e22 4) h27 n24)
theorem glush_rises_eq (ro : Ro) (v0 v1 : Value) (h : T Obj) (nx : Nat) (K : KV) : callPre Try.prog ro (callP Try.prog ro) Try.f46 [v0, v1] h nx K = glush_rises ro v0 v1 h nx K := by kernel_rfl
theorem glush_rises_of {ro : Ro} {v0 v1 : Value} {h : T Obj} {nx : Nat} {K : KV} (hw : glush_rises ro v0 v1 h nx K) : callP Try.prog ro i_glush_rises [v0, v1] h nx K := callP_by (P := Try.prog) (fn := Try.f46) (by kernel_rfl) (by kernel_rfl) (by kernel_rfl) (Eq.mpr (glush_rises_eq ro v0 v1 h nx K) hw)
@[irreducible] def slices_ContainsFunc_api_Pos_api_Pos (ro : Ro) (v0 v1 : Value) (h : T Obj) (nx : Nat) (K : KV) : Prop := callP Try.prog ro i_slices_IndexFunc_api_Pos_api_Pos [v0, v1] h (nx + 4) fun t7_1 h2 n3 => bindP (intB .geq t7_1 (Value.int IntKind.i64 0)) fun t8_4 => ∃ h5, Sub h5 h2 ∧ K t8_4 h5 (n3 + 2)
theorem slices_ContainsFunc_api_Pos_api_Pos_eq (ro : Ro) (v0 v1 : Value) (h : T Obj) (nx : Nat) (K : KV) : callPre Try.prog ro (callP Try.prog ro) Try.f47 [v0, v1] h nx K = slices_ContainsFunc_api_Pos_api_Pos ro v0 v1 h nx K := by kernel_rfl
theorem slices_ContainsFunc_api_Pos_api_Pos_of {ro : Ro} {v0 v1 : Value} {h : T Obj} {nx : Nat} {K : KV} (hw : slices_ContainsFunc_api_Pos_api_Pos ro v0 v1 h nx K) : callP Try.prog ro i_slices_ContainsFunc_api_Pos_api_Pos [v0, v1] h nx K := callP_by (P := Try.prog) (fn := Try.f47) (by kernel_rfl) (by kernel_rfl) (by kernel_rfl) (Eq.mpr (slices_ContainsFunc_api_Pos_api_Pos_eq ro v0 v1 h nx K) hw)
@[irreducible] def glush_Right_1 (ro : Ro) (v0 v1 : Value) (h : T Obj) (nx : Nat) (K : KV) : Prop := newP h nx (.cells (Value.cells v0) y_api_Pos) fun h1 => bindP (loadA ro h1 9 (ptr nx)) fun t4_2 => bindP (fwdP 1 v1) fun t5_3 => bindP (load1 ro h1 t5_3) fun t6_4 => bindP (lenSl t6_4) fun t7_5 => callP Try.prog ro i_glush_may [t4_2, t7_5] h1 (nx + 7) fun t8_6 h7 n8 => bindP (unV .not t8_6) fun t9_9 => ∃ h10, Sub h10 h7 ∧ K t9_9 h10 (n8 + 2)
theorem glush_Right_1_eq (ro : Ro) (v0 v1 : Value) (h : T Obj) (nx : Nat) (K : KV) : callPre Try.prog ro (callP Try.prog ro) Try.f48 [v0, v1] h nx K = glush_Right_1 ro v0 v1 h nx K := by kernel_rfl
theorem glush_Right_1_of {ro : Ro} {v0 v1 : Value} {h : T Obj} {nx : Nat} {K : KV} (hw : glush_Right_1 ro v0 v1 h nx K) : callP Try.prog ro i_glush_Right_1 [v0, v1] h nx K := callP_by (P := Try.prog) (fn := Try.f48) (by kernel_rfl) (by kernel_rfl) (by kernel_rfl) (Eq.mpr (glush_Right_1_eq ro v0 v1 h nx K) hw)
@[irreducible] def glush_may (ro : Ro) (v0 v1 : Value) (h : T Obj) (nx : Nat) (K : KV) : Prop := newP h nx (.cells (Value.cells v0) y_api_Pos) fun h1 => bindP (fwdP 0 (ptr nx)) fun t5_2 => bindP (loadA ro h1 4 t5_2) fun t6_3 => bindP (buildV Try.prog y_api_Set []) fun t7_4 => bindP (plainTy Try.prog 20 y_api_Set) fun ks5 => bindP (aggB ks5 .neq t6_3 t7_4) fun t8_6 => ifP t8_6 true h1 (nx + 7) (fun k7 => bindP (fwdP 4 (ptr nx)) fun t10_11 => k7 t10_11 h1 (nx + 8)) fun t10_8 h9 n10 => ifP t8_6 true h9 n10 (fun k12 => bindP (load1 ro h9 t10_8) fun t11_16 => k12 t11_16 h9 (n10 + 1)) fun t11_13 h14 n15 => ifP t8_6 true h14 n15 (fun k17 => bindP (intB .geq t11_13 (Value.int IntKind.i64 1)) fun t12_21 => k17 t12_21 h14 (n15 + 1)) fun t12_18 h19 n20 => bindP (pickV t8_6 t12_18 (Value.bool false)) fun t13_22 => ifP t13_22 true h19 (n20 + 2) (fun k23 => bindP (fwdP 4 (ptr nx)) fun t15_27 => k23 t15_27 h19 (n20 + 3)) fun t15_24 h25 n26 => ifP t13_22 true h25 n26 (fun k28 => bindP (load1 ro h25 t15_24) fun t16_32 => k28 t16_32 h25 (n26 + 1)) fun t16_29 h30 n31 => ifP t13_22 true h30 n31 (fun k33 => bindP (fwdP 5 (ptr nx)) fun t17_37 => k33 t17_37 h30 (n31 + 1)) fun t17_34 h35 n36 => ifP t13_22 true h35 n36 (fun k38 => bindP (load1 ro h35 t17_34) fun t18_42 => k38 t18_42 h35 (n36 + 1)) fun t18_39 h40 n41 => ifP t13_22 true h40 n41 (fun k43 => bindP (intB .leq t16_29 t18_39) fun t19_47 => k43 t19_47 h40 (n41 + 1)) fun t19_44 h45 n46 => bindP (pickV t13_22 t19_44 (Value.bool false)) fun t20_48 => ifP t20_48 true h45 (n46 + 2) (fun k49 => bindP (fwdP 5 (ptr nx)) fun t22_53 => k49 t22_53 h45 (n46 + 3)) fun t22_50 h51 n52 => ifP t20_48 true h51 n52 (fun k54 => bindP (load1 ro h51 t22_50) fun t23_58 => k54 t23_58 h51 (n52 + 1)) fun t23_55 h56 n57 => ifP t20_48 true h56 n57 (fun k59 => bindP (intB .leq t23_55 (Value.int IntKind.i64 4096)) fun t24_63 => k59 t24_63 h56 (n57 + 1)) fun t24_60 h61 n62 => bindP (pickV t20_48 t24_60 (Value.bool false)) fun t25_64 => ifP t25_64 true h61 (n62 + 2) (fun k65 => bindP (fwdP 6 (ptr nx)) fun t27_69 => k65 t27_69 h61 (n62 + 3)) fun t27_66 h67 n68 => ifP t25_64 true h67 n68 (fun k70 => bindP (load1 ro h67 t27_66) fun t28_74 => k70 t28_74 h67 (n68 + 1)) fun t28_71 h72 n73 => ifP t25_64 true h72 n73 (fun k75 => bindP (intB .geq t28_71 (Value.int IntKind.i64 0)) fun t29_79 => k75 t29_79 h72 (n73 + 1)) fun t29_76 h77 n78 => bindP (pickV t25_64 t29_76 (Value.bool false)) fun t30_80 => ifP t30_80 true h77 (n78 + 2) (fun k81 => bindP (fwdP 6 (ptr nx)) fun t32_85 => k81 t32_85 h77 (n78 + 3)) fun t32_82 h83 n84 => ifP t30_80 true h83 n84 (fun k86 => bindP (load1 ro h83 t32_82) fun t33_90 => k86 t33_90 h83 (n84 + 1)) fun t33_87 h88 n89 => ifP t30_80 true h88 n89 (fun k91 => bindP (intB .lss t33_87 (Value.int IntKind.i64 512)) fun t34_95 => k91 t34_95 h88 (n89 + 1)) fun t34_92 h93 n94 => bindP (pickV t30_80 t34_92 (Value.bool false)) fun t35_96 => ifP t35_96 true h93 (n94 + 2) (fun k97 => bindP (fwdP 8 (ptr nx)) fun t37_101 => k97 t37_101 h93 (n94 + 3)) fun t37_98 h99 n100 => ifP t35_96 true h99 n100 (fun k102 => bindP (load1 ro h99 t37_98) fun t38_106 => k102 t38_106 h99 (n100 + 1)) fun t38_103 h104 n105 => ifP t35_96 true h104 n105 (fun k107 => k107 v1 h104 (n105 + 1)) fun t39_108 h109 n110 => ifP t35_96 true h109 n110 (fun k111 => callP Try.prog ro i_glush_rises [t38_103, t39_108] h109 (n110 + 1) fun t40_115 h116 n117 => k111 t40_115 h116 n117) fun t40_112 h113 n114 => bindP (pickV t35_96 t40_112 (Value.bool false)) fun t41_118 => ∃ h119, Sub h119 h113 ∧ K t41_118 h119 (n114 + 2)
theorem glush_may_eq (ro : Ro) (v0 v1 : Value) (h : T Obj) (nx : Nat) (K : KV) : callPre Try.prog ro (callP Try.prog ro) Try.f49 [v0, v1] h nx K = glush_may ro v0 v1 h nx K := by kernel_rfl
theorem glush_may_of {ro : Ro} {v0 v1 : Value} {h : T Obj} {nx : Nat} {K : KV} (hw : glush_may ro v0 v1 h nx K) : callP Try.prog ro i_glush_may [v0, v1] h nx K := callP_by (P := Try.prog) (fn := Try.f49) (by kernel_rfl) (by kernel_rfl) (by kernel_rfl) (Eq.mpr (glush_may_eq ro v0 v1 h nx K) hw)
@[irreducible] def nca_step_1_j1 (ro : Ro) (Q : KE) : Env → T Obj → Nat → Prop := fun e h nx => bindP (intB .add (e 9) (Value.int IntKind.i64 1)) fun t33_3 => Q .normal (puts e [(33, t33_3), (9, t33_3)]) h (nx + 2)
@[irreducible] def nca_step_1_L1 (ro : Ro) : PT := fun e h nx Q => bindP (intB .lss (e 9) (e 8)) fun t10_2 => condP t10_2 (bindP (ixSl 1 (e 7) (e 9)) fun t11_4 => bindP (load1 ro h t11_4) fun t12_5 => bindP (load1 ro h (e 1)) fun t13_6 => bindP (ixSl 1 t13_6 t12_5) fun t15_7 => bindP (load1 ro h t15_7) fun t16_8 => bindP (lenSl t16_8) fun t17_9 => bindP (intB .eql t17_9 (Value.int IntKind.i64 0)) fun t18_10 => ifP t18_10 true h (nx + 20) (fun k11 => bindP (fwdP 1 (e 2)) fun t20_15 => k11 t20_15 h (nx + 20)) fun t20_12 h13 n14 => ifP t18_10 true h13 n14 (fun k16 => bindP (load1 ro h13 t20_12) fun t21_20 => k16 t21_20 h13 n14) fun t21_17 h18 n19 => ifP t18_10 true h18 n19 (fun k21 => k21 t12_5 h18 n19) fun t22_22 h23 n24 => ifP t18_10 true h23 n24 (fun k25 => bindP (ixSl 9 t21_17 t22_22) fun t23_29 => k25 t23_29 h23 n24) fun t23_26 h27 n28 => ifP t18_10 true h27 n28 (fun k30 => bindP (fwdP 0 t23_26) fun t24_34 => k30 t24_34 h27 n28) fun t24_31 h32 n33 => ifP t18_10 true h32 n33 (fun k35 => bindP (loadA ro h32 4 t24_31) fun t25_39 => k35 t25_39 h32 n33) fun t25_36 h37 n38 => ifP t18_10 true h37 n38 (fun k40 => bindP (load1 ro h37 (e 3)) fun t26_44 => k40 t26_44 h37 n38) fun t26_41 h42 n43 => ifP t18_10 true h42 n43 (fun k45 => callP Try.prog ro i_bset_Has [t25_36, t26_41] h42 n43 fun t27_49 h50 n51 => k45 t27_49 h50 n51) fun t27_46 h47 n48 => bindP (pickV t18_10 t27_46 (Value.bool false)) fun t28_52 => condP t28_52 (bindP (load1 ro h47 (e 1)) fun t29_53 => bindP (sliceLitV Try.prog y_s_int (n48 + 2) 1 [(0, (Value.int IntKind.i64 1))]) fun r54 => optP h47 (n48 + 2) r54.2 fun h55 => bindP (ixSl 1 t29_53 t12_5) fun t32_56 => bindP (storeN 1 h55 t32_56 r54.1) fun h57 => nca_step_1_j1 ro Q (puts e [(10, t10_2), (11, t11_4), (12, t12_5), (6, t12_5), (13, t13_6), (14, t12_5), (15, t15_7), (16, t16_8), (17, t17_9), (18, t18_10), (19, t18_10), (20, t20_12), (21, t21_17), (22, t22_22), (23, t23_26), (24, t24_31), (25, t25_36), (26, t26_41), (27, t27_46), (28, t28_52), (29, t29_53), (30, t12_5), (31, r54.1), (32, t32_56)]) h57 (n48 + 5)) (nca_step_1_j1 ro Q (puts e [(10, t10_2), (11, t11_4), (12, t12_5), (6, t12_5), (13, t13_6), (14, t12_5), (15, t15_7), (16, t16_8), (17, t17_9), (18, t18_10), (19, t18_10), (20, t20_12), (21, t21_17), (22, t22_22), (23, t23_26), (24, t24_31), (25, t25_36), (26, t26_41), (27, t27_46), (28, t28_52)]) h47 n48)) (Q (.exit 0) (puts e [(10, t10_2)]) h (nx + 1))
@[irreducible] def nca_step_1 (ro : Ro) (v0 v1 v2 v3 : Value) (h : T Obj) (nx : Nat) (K : KV) : Prop := bindP (lenSl v0) fun t8_1 => loopP (nca_step_1_L1 ro) (puts (entE [v0, v1, v2, v3]) [(7, v0), (8, t8_1), (9, (Value.int IntKind.i64 0))]) h (nx + 3) fun x61 e58 h59 n60 => exP x61 (∃ h64, Sub h64 h59 ∧ K (.tuple #[]) h64 n60) (fun i62 => beqP (Nat.beq i62 0) (∃ h63, Sub h63 h59 ∧ K (.tuple #[]) h63 n60) (False)) (∃ h65, Sub h65 h59 ∧ K (.tuple #[]) h65 n60)
theorem nca_step_1_eq (ro : Ro) (v0 v1 v2 v3 : Value) (h : T Obj) (nx : Nat) (K : KV) : callPre Try.prog ro (callP Try.prog ro) Try.f51 [v0, v1, v2, v3] h nx K = nca_step_1 ro v0 v1 v2 v3 h nx K := by kernel_rfl
theorem nca_step_1_of {ro : Ro} {v0 v1 v2 v3 : Value} {h : T Obj} {nx : Nat} {K : KV} (hw : nca_step_1 ro v0 v1 v2 v3 h nx K) : callP Try.prog ro i_nca_step_1 [v0, v1, v2, v3] h nx K := callP_by (P := Try.prog) (fn := Try.f51) (by kernel_rfl) (by kernel_rfl) (by kernel_rfl) (Eq.mpr (nca_step_1_eq ro v0 v1 v2 v3 h nx K) hw)
@[irreducible] def bset_Has (ro : Ro) (v0 v1 : Value) (h : T Obj) (nx : Nat) (K : KV) : Prop := newP h nx (.cells (Value.cells v0) y_api_Set) fun h1 => bindP (intB .quo v1 (Value.int IntKind.u8 64)) fun t6_2 => bindP (ixArr 4 1 (ptr nx) t6_2) fun t7_3 => bindP (load1 ro h1 t7_3) fun t8_4 => bindP (intB .rem v1 (Value.int IntKind.u8 64)) fun t10_5 => bindP (intB .shr t8_4 t10_5) fun t11_6 => bindP (intB .and t11_6 (Value.int IntKind.u64 1)) fun t12_7 => bindP (intB .eql t12_7 (Value.int IntKind.u64 1)) fun t13_8 => ∃ h9, Sub h9 h1 ∧ K t13_8 h9 (nx + 12)
theorem bset_Has_eq (ro : Ro) (v0 v1 : Value) (h : T Obj) (nx : Nat) (K : KV) : callPre Try.prog ro (callP Try.prog ro) Try.f52 [v0, v1] h nx K = bset_Has ro v0 v1 h nx K := by kernel_rfl
theorem bset_Has_of {ro : Ro} {v0 v1 : Value} {h : T Obj} {nx : Nat} {K : KV} (hw : bset_Has ro v0 v1 h nx K) : callP Try.prog ro i_bset_Has [v0, v1] h nx K := callP_by (P := Try.prog) (fn := Try.f52) (by kernel_rfl) (by kernel_rfl) (by kernel_rfl) (Eq.mpr (bset_Has_eq ro v0 v1 h nx K) hw)
@[irreducible] def nca_ripe (ro : Ro) (v0 v1 : Value) (h : T Obj) (nx : Nat) (K : KV) : Prop := newP h nx (.cells (Value.cells v0) y_api_Glush) fun h1 => newP h1 (nx + 1) (.cells (Value.cells v1) y_api_Held) fun h2 => bindP (fwdP 1 (ptr (nx + 1))) fun t5_3 => bindP (load1 ro h2 t5_3) fun t6_4 => bindP (fwdP 1 (ptr (nx + 1))) fun t7_5 => bindP (load1 ro h2 t7_5) fun t8_6 => bindP (lenSl t8_6) fun t9_7 => bindP (intB .sub t9_7 (Value.int IntKind.i64 1)) fun t10_8 => bindP (ixSl 1 t6_4 t10_8) fun t11_9 => bindP (load1 ro h2 t11_9) fun t12_10 => bindP (fwdP 1 (ptr nx)) fun t13_11 => bindP (load1 ro h2 t13_11) fun t14_12 => bindP (fwdP 0 (ptr (nx + 1))) fun t15_13 => bindP (load1 ro h2 t15_13) fun t16_14 => bindP (ixSl 9 t14_12 t16_14) fun t17_15 => bindP (fwdP 4 t17_15) fun t18_16 => bindP (load1 ro h2 t18_16) fun t19_17 => bindP (intB .geq t12_10 t19_17) fun t20_18 => ∃ h19, Sub h19 h2 ∧ K t20_18 h19 (nx + 20)
theorem nca_ripe_eq (ro : Ro) (v0 v1 : Value) (h : T Obj) (nx : Nat) (K : KV) : callPre Try.prog ro (callP Try.prog ro) Try.f53 [v0, v1] h nx K = nca_ripe ro v0 v1 h nx K := by kernel_rfl
theorem nca_ripe_of {ro : Ro} {v0 v1 : Value} {h : T Obj} {nx : Nat} {K : KV} (hw : nca_ripe ro v0 v1 h nx K) : callP Try.prog ro i_nca_ripe [v0, v1] h nx K := callP_by (P := Try.prog) (fn := Try.f53) (by kernel_rfl) (by kernel_rfl) (by kernel_rfl) (Eq.mpr (nca_ripe_eq ro v0 v1 h nx K) hw)
@[irreducible] def ref01_Has (ro : Ro) (v0 v1 : Value) (h : T Obj) (nx : Nat) (K : KV) : Prop := newP h nx (.cells (Value.cells v0) y_api_Set) fun h1 => bindP (intB .quo v1 (Value.int IntKind.u8 64)) fun t6_2 => bindP (ixArr 4 1 (ptr nx) t6_2) fun t7_3 => bindP (load1 ro h1 t7_3) fun t8_4 => bindP (intB .rem v1 (Value.int IntKind.u8 64)) fun t10_5 => bindP (intB .shr t8_4 t10_5) fun t11_6 => bindP (intB .rem t11_6 (Value.int IntKind.u64 2)) fun t12_7 => bindP (intB .eql t12_7 (Value.int IntKind.u64 1)) fun t13_8 => ∃ h9, Sub h9 h1 ∧ K t13_8 h9 (nx + 12)
theorem ref01_Has_eq (ro : Ro) (v0 v1 : Value) (h : T Obj) (nx : Nat) (K : KV) : callPre Try.prog ro (callP Try.prog ro) Try.f54 [v0, v1] h nx K = ref01_Has ro v0 v1 h nx K := by kernel_rfl
theorem ref01_Has_of {ro : Ro} {v0 v1 : Value} {h : T Obj} {nx : Nat} {K : KV} (hw : ref01_Has ro v0 v1 h nx K) : callP Try.prog ro i_ref01_Has [v0, v1] h nx K := callP_by (P := Try.prog) (fn := Try.f54) (by kernel_rfl) (by kernel_rfl) (by kernel_rfl) (Eq.mpr (ref01_Has_eq ro v0 v1 h nx K) hw)
@[irreducible] def slices_IndexFunc_api_Pos_api_Pos_j1 (ro : Ro) (K : KV) : Env → T Obj → Nat → Prop := fun e h nx => ∃ h1, Sub h1 h ∧ K (Value.int IntKind.i64 (-1)) h1 (nx + 1)
@[irreducible] def slices_IndexFunc_api_Pos_api_Pos_L1 (ro : Ro) : PT := fun e h nx Q => bindP (intB .lss (e 8) (e 7)) fun t9_3 => condP t9_3 (bindP (ixSl 9 (e 0) (e 8)) fun t14_4 => bindP (loadA ro h 9 t14_4) fun t15_5 => callF (callP Try.prog ro) (e 1) [t15_5] h (nx + 9) fun t16_6 h7 n8 => condP t16_6 (Q .ret (puts e [(9, t9_3), (10, (e 8)), (5, (e 8)), (11, (e 1)), (12, (e 0)), (13, (e 8)), (14, t14_4), (15, t15_5), (16, t16_6), (17, (e 8)), (4, (e 8))]) h7 (n8 + 2)) (bindP (intB .add (e 8) (Value.int IntKind.i64 1)) fun t18_9 => Q .normal (puts e [(9, t9_3), (10, (e 8)), (5, (e 8)), (11, (e 1)), (12, (e 0)), (13, (e 8)), (14, t14_4), (15, t15_5), (16, t16_6), (18, t18_9), (8, t18_9)]) h7 (n8 + 2))) (Q (.exit 0) (puts e [(9, t9_3)]) h (nx + 1))
@[irreducible] def slices_IndexFunc_api_Pos_api_Pos (ro : Ro) (v0 v1 : Value) (h : T Obj) (nx : Nat) (K : KV) : Prop := bindP (lenSl v0) fun t7_2 => loopP (slices_IndexFunc_api_Pos_api_Pos_L1 ro) (puts (entE [v0, v1]) [(4, (Value.int IntKind.i64 0)), (6, v0), (7, t7_2), (8, (Value.int IntKind.i64 0))]) h (nx + 4) fun x13 e10 h11 n12 => exP x13 (slices_IndexFunc_api_Pos_api_Pos_j1 ro K e10 h11 n12) (fun i14 => beqP (Nat.beq i14 0) (slices_IndexFunc_api_Pos_api_Pos_j1 ro K e10 h11 n12) (False)) (∃ h15, Sub h15 h11 ∧ K (e10 4) h15 n12)
theorem slices_IndexFunc_api_Pos_api_Pos_eq (ro : Ro) (v0 v1 : Value) (h : T Obj) (nx : Nat) (K : KV) : callPre Try.prog ro (callP Try.prog ro) Try.f69 [v0, v1] h nx K = slices_IndexFunc_api_Pos_api_Pos ro v0 v1 h nx K := by kernel_rfl
theorem slices_IndexFunc_api_Pos_api_Pos_of {ro : Ro} {v0 v1 : Value} {h : T Obj} {nx : Nat} {K : KV} (hw : slices_IndexFunc_api_Pos_api_Pos ro v0 v1 h nx K) : callP Try.prog ro i_slices_IndexFunc_api_Pos_api_Pos [v0, v1] h nx K := callP_by (P := Try.prog) (fn := Try.f69) (by kernel_rfl) (by kernel_rfl) (by kernel_rfl) (Eq.mpr (slices_IndexFunc_api_Pos_api_Pos_eq ro v0 v1 h nx K) hw)
end V
end Go.Proofs.Ytepbdkfkfcckoaa