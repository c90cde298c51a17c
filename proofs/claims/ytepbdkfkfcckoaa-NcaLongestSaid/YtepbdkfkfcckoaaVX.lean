/- The machine of VA by what stands behind: from a code's text a condition that may be read and shown step by step.
   No condition. -/
import Derived.Test.YtepbdkfkfcckoaaVQ
import Derived.CheckFast
set_option linter.unusedVariables false
set_option linter.unusedSimpArgs false
namespace Go.Proofs.Ytepbdkfkfcckoaa
namespace V
/-! ### Definitions -/
abbrev Env := Nat → Value
def Env.put (e : Env) (d : Nat) (v : Value) : Env := fun i => match Nat.beq i d with
  | true => v
  | false => e i
def bindP {α : Type} (o : Option α) (K : α → Prop) : Prop := match o with
  | some a => K a
  | none => False
/-- As 'bindP', where the printing has worked out what is bound. -/
abbrev bindQ {α : Type} (o : Option α) (K : α → Prop) : Prop := match o with
  | some a => K a
  | none => False
abbrev evE (e : Env) : Operand → Option Value
  | .tmp i => some (e i)
  | .const v => match flat v with
    | true => some v
    | false => none
  | .global _ => none
  | .func f => some (.func (.func f) #[] #[])
abbrev evsE (e : Env) : List Operand → Option (List Value)
  | [] => some []
  | x :: r => (evE e x).bind fun v => (evsE e r).bind fun vs => some (v :: vs)
abbrev evoE (e : Env) : Option Operand → Option (Option Value)
  | none => some none
  | some x => (evE e x).bind fun v => some (some v)
abbrev evpE (e : Env) : List (Nat × Operand) → Option (List (Nat × Value))
  | [] => some []
  | x :: r => (evE e x.2).bind fun v => (evpE e r).bind fun vs => some ((x.1, v) :: vs)
def asP : Value → Option Addr
  | .pointer (some a) => some a
  | _ => none
def asAgg : Value → Option (Array Value)
  | .agg cs => some cs
  | _ => none
def load1 (ro : Ro) (h : T Obj) (v : Value) : Option Value := (asP v).bind fun a => match cellsAt ro h a 1 with
  | some [x] => some x
  | _ => none
def loadA (ro : Ro) (h : T Obj) (n : Nat) (v : Value) : Option Value := (asP v).bind fun a => (cellsAt ro h a n).bind fun l => some (.agg l.toArray)
def fwdP (k : Nat) (v : Value) : Option Value := (asP v).bind fun a => some (.pointer (some (fwd a k)))
def part1 (off : Nat) (v : Value) : Option Value := (asAgg v).bind fun cs => cs[off]?
def partA (n off : Nat) (v : Value) : Option Value := (asAgg v).bind fun cs => match Nat.ble (off + n) cs.size with
  | true => some (.agg ((cs.toList.drop off).take n).toArray)
  | false => none
def ixArr (n z : Nat) (x i : Value) : Option Value := (natV i).bind fun i => (asP x).bind fun a => match Nat.blt i n with
  | true => some (.pointer (some (fwd a (i * z))))
  | false => none
def ixSl (z : Nat) (x i : Value) : Option Value := (natV i).bind fun i => match x with
  | .slice (some a) len _ => match Nat.blt i len with
    | true => match a.spot with
      | none => some (.pointer (some (fwd a (i * z))))
      | some z' => match Nat.beq z z' with
        | true => some (.pointer (some (elt a (i * z))))
        | false => none
    | false => none
  | _ => none
def ixStr (x i : Value) : Option Value := (natV i).bind fun i => match x with
  | .string s => match s.data.toList[i]? with
    | some b => some (.int .u8 b.toNat)
    | none => none
  | _ => none
def ixA1 (n z : Nat) (x i : Value) : Option Value := (natV i).bind fun i => (asAgg x).bind fun cs => match Nat.blt i n with
  | true => cs[i * z]?
  | false => none
def ixAA (n z : Nat) (x i : Value) : Option Value := (natV i).bind fun i => (asAgg x).bind fun cs => match Nat.blt i n, Nat.ble (i * z + z) cs.size with
  | true, true => some (.agg ((cs.toList.drop (i * z)).take z).toArray)
  | _, _ => none
def intB (op : BinOp) (a b : Value) : Option Value := match a, b with
  | .int k x, .int k' y => match op with
    | .shl | .shr => shiftV op k x y
    | _ => match decide (k = k') with
      | true => intV op k x y
      | false => none
  | _, _ => none
def strB (op : BinOp) (a b : Value) : Option Value := match a, b with
  | .string x, .string y => strV op x y
  | _, _ => none
def boolB (op : BinOp) (a b : Value) : Option Value := match op, a, b with
  | .eql, .bool x, .bool y => some (.bool (x == y))
  | .neq, .bool x, .bool y => some (.bool (!(x == y)))
  | _, _, _ => none
def aggB (ks : List Nat) (op : BinOp) (a b : Value) : Option Value := match a, b with
  | .agg xs, .agg ys => match op with
    | .eql => (eqCells ks xs.toList ys.toList).bind fun b => some (.bool b)
    | .neq => (eqCells ks xs.toList ys.toList).bind fun b => some (.bool (!b))
    | _ => none
  | _, _ => none
def ptrB (op : BinOp) (a b : Value) : Option Value := match op, a, b with
  | .eql, .pointer none, .pointer y => some (.bool y.isNone)
  | .eql, .pointer x, .pointer none => some (.bool x.isNone)
  | .neq, .pointer none, .pointer y => some (.bool (!y.isNone))
  | .neq, .pointer x, .pointer none => some (.bool (!x.isNone))
  | _, _, _ => none
def slB (op : BinOp) (a b : Value) : Option Value := match op, a, b with
  | .eql, .slice none _ _, .slice y _ _ => some (.bool y.isNone)
  | .eql, .slice x _ _, .slice none _ _ => some (.bool x.isNone)
  | .neq, .slice none _ _, .slice y _ _ => some (.bool (!y.isNone))
  | .neq, .slice x _ _, .slice none _ _ => some (.bool (!x.isNone))
  | _, _, _ => none
def pickV (c a b : Value) : Option Value := match c with
  | .bool true => some a
  | .bool false => some b
  | _ => none
def nilCk : Value → Option Value
  | .pointer (some a) => some (.pointer (some a))
  | .func (.func f) a b => some (.func (.func f) a b)
  | _ => none
def convI (k : IntKind) : Value → Option Value
  | .int _ n => some (.int k (wr k n))
  | _ => none
def nth (i : Nat) : Value → Option Value
  | .tuple vs => vs[i]?
  | _ => none
def lenSl : Value → Option Value
  | .slice _ n _ => some (.int .i64 n)
  | _ => none
def lenStr : Value → Option Value
  | .string s => some (.int .i64 s.size)
  | _ => none
def ptr (id : Nat) : Value := .pointer (some (own id 0))
def storeN (n : Nat) (h : T Obj) (a v : Value) : Option (T Obj) := (asP a).bind fun a => match Nat.beq v.cells.size n with
  | true => storeAtV h a v.cells.toList
  | false => none
abbrev KV := Value → T Obj → Nat → Prop
abbrev CallP := FuncId → List Value → T Obj → Nat → KV → Prop
/-- A quiet operation. -/
abbrev ptQ (P : Program) (ro : Ro) (e : Env) (h : T Obj) (aid : Nat) (op : Op) (K : Value → Option Obj → Prop) : Prop :=
  match op with
  | .move x | .assign x => bindQ (evE e x) fun v => K v none
  | .pick c a b => bindQ (evE e c) fun c => bindQ (evE e a) fun a => bindQ (evE e b) fun b => bindP (pickV c a b) fun v => K v none
  | .alloc ty => bindP (zer P ty) fun z => K (ptr aid) (some (.cells z.cells ty))
  | .box ty x => bindQ (evE e x) fun v => K (ptr aid) (some (.cells v.cells ty))
  | .build ty ps => bindQ (evpE e ps.toList) fun vs => bindP (buildV P ty vs) fun v => K v none
  | .buildSlice ty n ps => bindQ (evpE e ps.toList) fun vs => bindP (sliceLitV P ty aid n vs) fun r => K r.1 r.2
  | .load ty x => bindQ (evE e x) fun v => match isAgg P ty with
    | some true => bindQ (siz P ty) fun n => bindP (loadA ro h n v) fun u => K u none
    | some false => bindP (load1 ro h v) fun u => K u none
    | none => False
  | .nilCheck x => bindQ (evE e x) fun v => bindP (nilCk v) fun v => K v none
  | .binOp op ty x y _ => bindQ (evE e x) fun a => bindQ (evE e y) fun b => match und P ty with
    | some (.int _) => bindP (intB op a b) fun v => K v none
    | some .string => bindP (strB op a b) fun v => K v none
    | some .bool => bindP (boolB op a b) fun v => K v none
    | some (.pointer _) => bindP (ptrB op a b) fun v => K v none
    | some (.slice _) => bindP (slB op a b) fun v => K v none
    | some (.struct _) | some (.array _ _) => bindP (plainTy P 20 ty) fun ks => bindP (aggB ks op a b) fun v => K v none
    | _ => False
  | .unOp op _ x => bindQ (evE e x) fun a => bindP (unV op a) fun v => K v none
  | .convert s d x => bindQ (evE e x) fun v => match und P s, und P d with
    | some (.int _), some (.int k) => bindP (convI k v) fun v => K v none
    | _, _ => bindP (convV P ro h aid s d v) fun r => K r.1 r.2
  | .makeFunc (.func f) a b => bindQ (evsE e a.toList) fun a => bindQ (evsE e b.toList) fun b => K (.func (.func f) a.toArray b.toArray) none
  | .makeMap _ none => K (.map (some aid)) (some (.map #[] 0))
  | .makeSlice ty l c => bindQ (evE e l) fun l => bindQ (evE e c) fun c => bindP (makeV P ty aid l c) fun r => K r.1 r.2
  | .slice ty x lo hi mx => bindQ (evE e x) fun x => bindQ (evoE e lo) fun lo => bindQ (evoE e hi) fun hi => bindQ (evoE e mx) fun mx => bindP (sliceV P ty x lo hi mx) fun v => K v none
  | .fieldAddr s x f => bindQ (evE e x) fun v => bindQ (fldV P s f) fun f => bindQ (siz P f.type) fun n => match n with
    | 0 => False
    | _ + 1 => bindP (fwdP f.offset v) fun v => K v none
  | .field ty x f => bindQ (evE e x) fun v => bindQ (fldV P ty f) fun f => match isAgg P f.type with
    | some true => bindQ (siz P f.type) fun n => bindP (partA n f.offset v) fun v => K v none
    | some false => bindP (part1 f.offset v) fun v => K v none
    | none => False
  | .indexAddr ty x i => bindQ (evE e x) fun x => bindQ (evE e i) fun i => match und P ty with
    | some (.array n el) => bindQ (siz P el) fun z => bindP (ixArr n z x i) fun v => K v none
    | some (.slice el) => bindQ (siz P el) fun z => bindP (ixSl z x i) fun v => K v none
    | _ => False
  | .index ty x i => bindQ (evE e x) fun x => bindQ (evE e i) fun i => match und P ty with
    | some (.array n el) => bindQ (siz P el) fun z => match isAgg P el with
      | some true => bindP (ixAA n z x i) fun v => K v none
      | some false => bindP (ixA1 n z x i) fun v => K v none
      | none => False
    | some .string => bindP (ixStr x i) fun v => K v none
    | _ => False
  | .lookup ty x k ok => bindQ (evE e x) fun x => bindQ (evE e k) fun k => bindP (lookV P h ty x k ok) fun v => K v none
  | .extract x i => bindQ (evE e x) fun v => bindP (nth i v) fun v => K v none
  | .call { callee := .builtin b, args, argTypes } => bindQ (evsE e args.toList) fun vs => match b, vs, argTypes[0]? with
    | .len, [x], some ty => match und P ty with
      | some .string => bindP (lenStr x) fun v => K v none
      | some (.slice _) => bindP (lenSl x) fun v => K v none
      | _ => bindP (lenV P h ty x) fun v => K v none
    | _, _, _ => bindP (builtinQ P h b argTypes vs) fun v => K v none
  | _ => False
def callF (C : CallP) (f : Value) (vs : List Value) (h : T Obj) (nx : Nat) (K : KV) : Prop := match f with
  | .func (.func k) a b => C k (a.toList ++ vs ++ b.toList) h nx K
  | _ => False
/-- A loud one. -/
abbrev ptL (P : Program) (ro : Ro) (C : CallP) (e : Env) (h : T Obj) (nx : Nat) (op : Op) (K : KV) : Prop :=
  match op with
  | .store ty a x => bindQ (evE e a) fun a => bindQ (evE e x) fun x => bindQ (siz P ty) fun n => bindP (storeN n h a x) fun h => K undef h nx
  | .mapUpdate ty m k x | .insert ty m k x => bindQ (evE e m) fun m => bindQ (evE e k) fun k => bindQ (evE e x) fun x => bindP (mapPutV P h ty m k x) fun h => K undef h nx
  | .call { callee := .builtin b, args, argTypes } => bindQ (evsE e args.toList) fun vs => match b with
    | .append => bindP (appendV P ro h nx argTypes vs) fun r => K r.1 r.2.1 r.2.2
    | .copy => bindP (copyV P ro h nx argTypes vs) fun r => K r.1 r.2.1 r.2.2
    | .clear => match vs, argTypes[0]? with
      | [m], some ty => bindP (und P ty) fun _ => bindP (clearV h m) fun h => K (.tuple #[]) h nx
      | _, _ => False
    | _ => False
  | .call { callee := .value f, args, .. } => bindQ (evE e f) fun f => bindQ (evsE e args.toList) fun vs => callF C f vs h nx K
  | .convert s d x => bindQ (evE e x) fun v => bindP (convSame P h s d v) fun r => K r.1 r.2 nx
  | _ => False
abbrev ptO (P : Program) (ro : Ro) (C : CallP) (e : Env) (h : T Obj) (nx aid : Nat) (op : Op) (K : KV) : Prop :=
  match loud op with
  | true => ptL P ro C e h nx op K
  | false => ptQ P ro e h aid op fun v ob => K v (addO h aid ob) nx
/-- An operation that hangs on a value. -/
def ifP (v : Value) (w : Bool) (h : T Obj) (nx : Nat) (A : KV → Prop) (K : KV) : Prop := match v with
  | .bool b => match b == w with
    | true => A K
    | false => K undef h nx
  | _ => K undef h nx
/-- The value that an operation hangs on, and which it must be. -/
abbrev Gd := Option (Value × Bool)
abbrev wrapG (g : Gd) (h : T Obj) (nx : Nat) (A : KV → Prop) (K : KV) : Prop := match g with
  | none => A K
  | some vw => ifP vw.1 vw.2 h nx A K
abbrev gdP (ops : Array Oper) (e : Env) (g : Option (Nat × Bool)) (K : Gd → Prop) : Prop := match g with
  | none => K none
  | some (j, w) => match (ops[j]?).bind (·.dst) with
    | some d => K (some (e d, w))
    | none => False
abbrev putP (n : Nat) (e : Env) (d : Option Tmp) (v : Value) (K : Env → Prop) : Prop := match d with
  | none => K e
  | some d => match Nat.blt d n with
    | true => K (e.put d v)
    | false => False
abbrev ptOps (P : Program) (ro : Ro) (C : CallP) (n : Nat) (ops : Array Oper) : List Oper → Env → T Obj → Nat → (Env → T Obj → Nat → Prop) → Prop
  | [], e, h, nx, Q => Q e h nx
  | o :: l, e, h, nx, Q => gdP ops e o.guard fun g => wrapG g h nx (fun K => ptO P ro C e h (nx + 1) nx o.op K) fun v h nx => putP n e o.dst v fun e => ptOps P ro C n ops l e h nx Q
/-- What an operation reads memory by. -/
def rdE (P : Program) (e : Env) : Op → Option Value
  | .load _ x => evE e x
  | .lookup _ x _ _ => evE e x
  | .convert s _ x => match und P s with
    | some (.slice _) => evE e x
    | _ => none
  | .call { callee := .builtin _, args, argTypes } => match (argTypes[0]?).bind (und P) with
    | some (.map _ _) => match evsE e args.toList with
      | some [v] => some v
      | _ => none
    | _ => none
  | _ => none
def sameV (v : Value) (h h' : T Obj) : Prop := match blk v with
  | some b => same b h h'
  | none => True
def onP (g : Gd) (X : Prop) : Prop := match g with
  | none => X
  | some vw => vw.1 = .bool vw.2 → X
/-! What must stand ahead, by numbers worked out once. -/
def nthN : List Nat → Nat → Nat
  | [], _ => 0
  | x :: _, 0 => x
  | _ :: r, n + 1 => nthN r n
def freeL (b : List Nat) (i j : Nat) : Bool := !(nthN b j).testBit i
abbrev revK {α : Type} (K : List Nat → α) : List Nat → List Nat → α
  | [], o => K o
  | x :: r, o => revK K r (x :: o)
abbrev befK {α : Type} (K : List Nat → α) : List Oper → Nat → List Nat → α
  | [], _, acc => revK K acc []
  | o :: l, j, acc => CheckFast.force (CheckFast.one (fun i => if i < j then acc.getD (j - 1 - i) 0 else 0) o) fun v => befK K l (j + 1) (v :: acc)
def drawOkL (P : Program) (ops : Array Oper) (b : List Nat) : Bool :=
  (List.range ops.size).all fun j => match ops[j]? with
    | none => false
    | some oj => (oj.after.toList.all fun e => !Region.binds .any e || decide (e.on < j)) && (List.range j).all fun i => match ops[i]? with
      | none => false
      | some oi => match freeL b i j with
        | false => true
        | true => pairOk P ops oi oj
/-- The loads ahead that nothing orders against a loud operation: their blocks are untouched. -/
abbrev sameL (b : List Nat) (i : Nat) (h h' : T Obj) : List (Nat × Gd × Value) → Prop → Prop
  | [], K => K
  | q :: ls, K => match freeL b q.1 i with
    | true => onP q.2.1 (sameV q.2.2 h h') ∧ sameL b i h h' ls K
    | false => sameL b i h h' ls K
abbrev sameM (b : List Nat) (i : Nat) (v : Value) : List (Nat × Gd × T Obj × T Obj) → Prop → Prop
  | [], K => K
  | q :: ms, K => match freeL b q.1 i with
    | true => onP q.2.1 (sameV v q.2.2.1 q.2.2.2) ∧ sameM b i v ms K
    | false => sameM b i v ms K
abbrev ptD (P : Program) (ro : Ro) (C : CallP) (n : Nat) (ops : Array Oper) (b : List Nat) (n0 : Nat) : List Oper → Nat → List (Nat × Gd × Value) → List (Nat × Gd × T Obj × T Obj) → Env → T Obj → Nat → (Env → T Obj → Nat → Prop) → Prop
  | [], _, _, _, e, h, nx, Q => Q e h nx
  | o :: l, i, ls, ms, e, h, nx, Q => gdP ops e o.guard fun g => match loud o.op with
    | true => wrapG g h nx (fun K => ptO P ro C e h nx (n0 + i) o.op fun v h' nx' => sameL b i h h' ls (K v h' nx')) fun v h' nx' => putP n e o.dst v fun e => ptD P ro C n ops b n0 l (i + 1) ls ((i, g, h, h') :: ms) e h' nx' Q
    | false => match rdE P e o.op with
      | some a => wrapG g h nx (fun K => ptO P ro C e h nx (n0 + i) o.op fun v h' nx' => sameM b i a ms (K v h' nx')) fun v h' nx' => putP n e o.dst v fun e => ptD P ro C n ops b n0 l (i + 1) ((i, g, a) :: ls) ms e h' nx' Q
      | none => wrapG g h nx (fun K => ptO P ro C e h nx (n0 + i) o.op K) fun v h' nx' => putP n e o.dst v fun e => ptD P ro C n ops b n0 l (i + 1) ls ms e h' nx' Q
def exP (x : Ex) (A : Prop) (B : Nat → Prop) (D : Prop) : Prop := match x with
  | .normal => A
  | .exit i => B i
  | .ret => D
def beqP (b : Bool) (A B : Prop) : Prop := match b with
  | true => A
  | false => B
abbrev exQ (x : Ex) (A : Prop) (B : Nat → Prop) (D : Prop) : Prop := match x with
  | .normal => A
  | .exit i => B i
  | .ret => D
abbrev beqQ (b : Bool) (A B : Prop) : Prop := match b with
  | true => A
  | false => B
abbrev KE := Ex → Env → T Obj → Nat → Prop
abbrev PT := Env → T Obj → Nat → KE → Prop
def iterP (B : PT) : Nat → PT
  | 0 => fun _ _ _ _ => False
  | k + 1 => fun e h nx Q => B e h nx fun x e h nx => exP x (∃ h', Sub h' h ∧ iterP B k e h' nx Q) (fun i => Q (.exit i) e h nx) (Q .ret e h nx)
def loopP (B : PT) : PT := fun e h nx Q => ∃ k, iterP B k e h nx Q
def condP (v : Value) (A B : Prop) : Prop := match v with
  | .bool true => A
  | .bool false => B
  | _ => False
abbrev pt (P : Program) (ro : Ro) (C : CallP) (n : Nat) : Code → PT
  | .skip | .label _ => fun e h nx Q => Q .normal e h nx
  | .ret => fun e h nx Q => Q .ret e h nx
  | .exit id => fun e h nx Q => Q (.exit id) e h nx
  | .seq a b => fun e h nx Q => pt P ro C n a e h nx fun x e h nx => exQ x (pt P ro C n b e h nx Q) (fun i => Q (.exit i) e h nx) (Q .ret e h nx)
  | .cond c a b => fun e h nx Q => bindQ (evE e c) fun v => condP v (pt P ro C n a e h nx Q) (pt P ro C n b e h nx Q)
  | .block id b => fun e h nx Q => pt P ro C n b e h nx fun x e h nx => exQ x (Q .normal e h nx) (fun i => beqQ (Nat.beq i id) (Q .normal e h nx) (Q (.exit i) e h nx)) (Q .ret e h nx)
  | .loop b => loopP (pt P ro C n b)
  | .scope b => pt P ro C n b
  | .region _ ops draw => fun e h nx Q => match draw with
    | false => ptOps P ro C n ops ops.toList e h nx (Q .normal)
    | true => befK (fun b => match drawOkL P ops b with
      | true => ptD P ro C n ops b nx ops.toList 0 [] [] e h (nx + ops.size) (Q .normal)
      | false => False) ops.toList 0 []
  | _ => fun _ _ _ _ => False
/-- What a function hands back, by what stands behind. -/
abbrev resE (P : Program) (ro : Ro) (e : Env) (h : T Obj) : List ResultVar → (List Value → Prop) → Prop
  | [], K => K []
  | .tmp i :: r, K => resE P ro e h r fun vs => K (e i :: vs)
  | .cell a ty :: r, K => match isAgg P ty with
    | some true => bindQ (siz P ty) fun n => bindP (loadA ro h n (e a)) fun v => resE P ro e h r fun vs => K (v :: vs)
    | some false => bindP (load1 ro h (e a)) fun v => resE P ro e h r fun vs => K (v :: vs)
    | none => False
def entE (vs : List Value) : Env := fun i => (vs[i]?).getD undef
abbrev endP (P : Program) (ro : Ro) (rs : List ResultVar) (K : KV) : KE := fun x e h nx => exQ x (resE P ro e h rs fun vs => ∃ h', Sub h' h ∧ K (resOf vs) h' nx) (fun _ => False) (resE P ro e h rs fun vs => ∃ h', Sub h' h ∧ K (resOf vs) h' nx)
/-! Short words for printed text. -/
def newP (h : T Obj) (aid : Nat) (o : Obj) (K : T Obj → Prop) : Prop := K (h.upd aid (some o))
def optP (h : T Obj) (aid : Nat) (o : Option Obj) (K : T Obj → Prop) : Prop := K (addO h aid o)
def puts : Env → List (Nat × Value) → Env
  | e, [] => e
  | e, p :: l => puts (e.put p.1 p.2) l
def bodyOf (f : Func) : Code := f.body.getD .skip
/-- What is to be shown of a function's code for a call. -/
def callPre (P : Program) (ro : Ro) (C : CallP) (f : Func) (vs : List Value) (h : T Obj) (nx : Nat) (K : KV) : Prop := pt P ro C f.ntmps (bodyOf f) (entE vs) h nx (endP P ro f.results.toList K)
/-- A call, by what stands behind. -/
def callP (P : Program) (ro : Ro) : CallP := fun f vs h nx K => ∃ k v h' nx', call P ro k f vs h nx v h' nx' ∧ K v h' nx'
end V
end Go.Proofs.Ytepbdkfkfcckoaa
