/- Texts laid one behind the other: V3, G, W1.
   No condition. -/
import Derived.CheckFast
import Derived.Carry
import Derived.ProofKit
import Derived.SizedLaws
import Derived.JoinedCond
import Derived.Test.YtcaccnneblghgaaGreatProg
import Derived.KernelRfl
import Derived.Deep.Slices
import Derived.Test.YtcaccnneblghgaaGreatQ12
set_option linter.unusedVariables false
set_option linter.unusedSimpArgs false
noncomputable section
namespace Go.Proofs.YtcaccnneblghgaaGreat
namespace V
abbrev Env:=Nat→Value
def Env.put (e:Env) (d:Nat) (v:Value):Env:=fun i=>match Nat.beq i d with
  | true=>v
  | false=>e i
def aA {α:Type} (o:Option α) (K:α→Prop):Prop:=match o with
  | some a=>K a
  | none=>False
abbrev d5 {α:Type} (o:Option α) (K:α→Prop):Prop:=match o with
  | some a=>K a
  | none=>False
abbrev evE (e:Env):Operand→Option Value
  | .tmp i=>some (e i)
  | .const v=>match flat v with
    | true=>some v
    | false=>none
  | .global _=>none
  | .func f=>some (.func (.func f) #[] #[])
abbrev aFD (e:Env):List Operand→Option (List Value)
  | []=>some []
  | x::r=>(evE e x).bind fun v=>(aFD e r).bind fun vs=>some (v::vs)
abbrev aMI (e:Env):Option Operand→Option (Option Value)
  | none=>some none
  | some x=>(evE e x).bind fun v=>some (some v)
abbrev aMJ (e:Env):List (Nat × Operand)→Option (List (Nat × Value))
  | []=>some []
  | x::r=>(evE e x.2).bind fun v=>(aMJ e r).bind fun vs=>some ((x.1,v)::vs)
def asP:Value→Option Addr
  | .pointer (some a)=>some a
  | _=>none
def asAgg:Value→Option (Array Value)
  | .agg cs=>some cs
  | _=>none
def load1 (ro:Ro) (h:T Obj) (v:Value):Option Value:=(asP v).bind fun a=>match cellsAt ro h a 1 with
  | some [x]=>some x
  | _=>none
def loadA (ro:Ro) (h:T Obj) (n:Nat) (v:Value):Option Value:=(asP v).bind fun a=>(cellsAt ro h a n).bind fun l=>some (.agg l.toArray)
def aQ (k:Nat) (v:Value):Option Value:=(asP v).bind fun a=>some (.pointer (some (fwd a k)))
def aQQ (off:Nat) (v:Value):Option Value:=(asAgg v).bind fun cs=>cs[off]?
def aQR (n off:Nat) (v:Value):Option Value:=(asAgg v).bind fun cs=>match Nat.ble (off+n) cs.size with
  | true=>some (.agg ((cs.toList.drop off).take n).toArray)
  | false=>none
def ixArr (n z:Nat) (x i:Value):Option Value:=(lO i).bind fun i=>(asP x).bind fun a=>match Nat.blt i n with
  | true=>some (.pointer (some (fwd a (i*z))))
  | false=>none
def cL (z:Nat) (x i:Value):Option Value:=(lO i).bind fun i=>match x with
  | .slice (some a) len _=>match Nat.blt i len with
    | true=>match a.spot with
      | none=>some (.pointer (some (fwd a (i*z))))
      | some z'=>match Nat.beq z z' with
        | true=>some (.pointer (some (elt a (i*z))))
        | false=>none
    | false=>none
  | _=>none
def aDp (x i:Value):Option Value:=(lO i).bind fun i=>match x with
  | .string s=>match s.data.toList[i]? with
    | some b=>some (.int .u8 b.toNat)
    | none=>none
  | _=>none
def aNp (n z:Nat) (x i:Value):Option Value:=(lO i).bind fun i=>(asAgg x).bind fun cs=>match Nat.blt i n with
  | true=>cs[i*z]?
  | false=>none
def aQX (n z:Nat) (x i:Value):Option Value:=(lO i).bind fun i=>(asAgg x).bind fun cs=>match Nat.blt i n,Nat.ble (i*z+z) cs.size with
  | true,true=>some (.agg ((cs.toList.drop (i*z)).take z).toArray)
  | _,_=>none
def aO (op:BinOp) (a b:Value):Option Value:=match a,b with
  | .int k x,.int k' y=>match op with
    | .shl | .shr=>aAy op k x y
    | _=>match decide (k=k') with
      | true=>sH op k x y
      | false=>none
  | _,_=>none
def aEe (op:BinOp) (a b:Value):Option Value:=match a,b with
  | .string x,.string y=>aOY op x y
  | _,_=>none
def aFd (op:BinOp) (a b:Value):Option Value:=match op,a,b with
  | .eql,.bool x,.bool y=>some (.bool (x==y))
  | .neq,.bool x,.bool y=>some (.bool (!(x==y)))
  | _,_,_=>none
def aJC (ks:List Nat) (op:BinOp) (a b:Value):Option Value:=match a,b with
  | .agg xs,.agg ys=>match op with
    | .eql=>(dH ks xs.toList ys.toList).bind fun b=>some (.bool b)
    | .neq=>(dH ks xs.toList ys.toList).bind fun b=>some (.bool (!b))
    | _=>none
  | _,_=>none
def vU (op:BinOp) (a b:Value):Option Value:=match op,a,b with
  | .eql,.pointer none,.pointer y=>some (.bool y.isNone)
  | .eql,.pointer x,.pointer none=>some (.bool x.isNone)
  | .neq,.pointer none,.pointer y=>some (.bool (!y.isNone))
  | .neq,.pointer x,.pointer none=>some (.bool (!x.isNone))
  | _,_,_=>none
def slB (op:BinOp) (a b:Value):Option Value:=match op,a,b with
  | .eql,.slice none _ _,.slice y _ _=>some (.bool y.isNone)
  | .eql,.slice x _ _,.slice none _ _=>some (.bool x.isNone)
  | .neq,.slice none _ _,.slice y _ _=>some (.bool (!y.isNone))
  | .neq,.slice x _ _,.slice none _ _=>some (.bool (!x.isNone))
  | _,_,_=>none
def bH (c a b:Value):Option Value:=match c with
  | .bool true=>some a
  | .bool false=>some b
  | _=>none
def bK:Value→Option Value
  | .pointer (some a)=>some (.pointer (some a))
  | .func (.func f) a b=>some (.func (.func f) a b)
  | _=>none
def wH (k:IntKind):Value→Option Value
  | .int _ n=>some (.int k (wr k n))
  | _=>none
def nth (i:Nat):Value→Option Value
  | .tuple vs=>vs[i]?
  | _=>none
def bI:Value→Option Value
  | .slice _ n _=>some (.int .i64 n)
  | _=>none
def vP:Value→Option Value
  | .string s=>some (.int .i64 s.size)
  | _=>none
def ptr (id:Nat):Value:=.pointer (some (own id 0))
def bV (n:Nat) (h:T Obj) (a v:Value):Option (T Obj):=(asP a).bind fun a=>match Nat.beq v.cells.size n with
  | true=>i5 h a v.cells.toList
  | false=>none
abbrev KV:=Value→T Obj→Nat→Prop
abbrev aC0:=FuncId→List Value→T Obj→Nat→KV→Prop
abbrev ptQ (P:Program) (ro:Ro) (e:Env) (h:T Obj) (aid:Nat) (op:Op) (K:Value→Option Obj→Prop):Prop :=
  match op with
  | .move x | .assign x=>d5 (evE e x) fun v=>K v none
  | .pick c a b=>d5 (evE e c) fun c=>d5 (evE e a) fun a=>d5 (evE e b) fun b=>aA (bH c a b) fun v=>K v none
  | .alloc ty=>aA (zer P ty) fun z=>K (ptr aid) (some (.cells z.cells ty))
  | .box ty x=>d5 (evE e x) fun v=>K (ptr aid) (some (.cells v.cells ty))
  | .build ty ps=>d5 (aMJ e ps.toList) fun vs=>aA (eX P ty vs) fun v=>K v none
  | .buildSlice ty n ps=>d5 (aMJ e ps.toList) fun vs=>aA (bU P ty aid n vs) fun r=>K r.1 r.2
  | .load ty x=>d5 (evE e x) fun v=>match isAgg P ty with
    | some true=>d5 (siz P ty) fun n=>aA (loadA ro h n v) fun u=>K u none
    | some false=>aA (load1 ro h v) fun u=>K u none
    | none=>False
  | .nilCheck x=>d5 (evE e x) fun v=>aA (bK v) fun v=>K v none
  | .binOp op ty x y _=>d5 (evE e x) fun a=>d5 (evE e y) fun b=>match und P ty with
    | some (.int _)=>aA (aO op a b) fun v=>K v none
    | some .string=>aA (aEe op a b) fun v=>K v none
    | some .bool=>aA (aFd op a b) fun v=>K v none
    | some (.pointer _)=>aA (vU op a b) fun v=>K v none
    | some (.slice _)=>aA (slB op a b) fun v=>K v none
    | some (.struct _) | some (.array _ _)=>aA (dO P 20 ty) fun ks=>aA (aJC ks op a b) fun v=>K v none
    | _=>False
  | .unOp op _ x=>d5 (evE e x) fun a=>aA (unV op a) fun v=>K v none
  | .convert s d x=>d5 (evE e x) fun v=>match und P s,und P d with
    | some (.int _),some (.int k)=>aA (wH k v) fun v=>K v none
    | _,_=>aA (aC3 P ro h aid s d v) fun r=>K r.1 r.2
  | .makeFunc (.func f) a b=>d5 (aFD e a.toList) fun a=>d5 (aFD e b.toList) fun b=>K (.func (.func f) a.toArray b.toArray) none
  | .makeMap _ none=>K (.map (some aid)) (some (.map #[] 0))
  | .makeSlice ty l c=>d5 (evE e l) fun l=>d5 (evE e c) fun c=>aA (aDw P ty aid l c) fun r=>K r.1 r.2
  | .slice ty x lo hi mx=>d5 (evE e x) fun x=>d5 (aMI e lo) fun lo=>d5 (aMI e hi) fun hi=>d5 (aMI e mx) fun mx=>aA (oK P ty x lo hi mx) fun v=>K v none
  | .fieldAddr s x f=>d5 (evE e x) fun v=>d5 (aHp P s f) fun f=>d5 (siz P f.type) fun n=>match n with
    | 0=>False
    | _+1=>aA (aQ f.offset v) fun v=>K v none
  | .field ty x f=>d5 (evE e x) fun v=>d5 (aHp P ty f) fun f=>match isAgg P f.type with
    | some true=>d5 (siz P f.type) fun n=>aA (aQR n f.offset v) fun v=>K v none
    | some false=>aA (aQQ f.offset v) fun v=>K v none
    | none=>False
  | .indexAddr ty x i=>d5 (evE e x) fun x=>d5 (evE e i) fun i=>match und P ty with
    | some (.array n el)=>d5 (siz P el) fun z=>aA (ixArr n z x i) fun v=>K v none
    | some (.slice el)=>d5 (siz P el) fun z=>aA (cL z x i) fun v=>K v none
    | _=>False
  | .index ty x i=>d5 (evE e x) fun x=>d5 (evE e i) fun i=>match und P ty with
    | some (.array n el)=>d5 (siz P el) fun z=>match isAgg P el with
      | some true=>aA (aQX n z x i) fun v=>K v none
      | some false=>aA (aNp n z x i) fun v=>K v none
      | none=>False
    | some .string=>aA (aDp x i) fun v=>K v none
    | _=>False
  | .lookup ty x k ok=>d5 (evE e x) fun x=>d5 (evE e k) fun k=>aA (aAP P h ty x k ok) fun v=>K v none
  | .extract x i=>d5 (evE e x) fun v=>aA (nth i v) fun v=>K v none
  | .call { callee:=.builtin b,args,argTypes }=>d5 (aFD e args.toList) fun vs=>match b,vs,argTypes[0]? with
    | .len,[x],some ty=>match und P ty with
      | some .string=>aA (vP x) fun v=>K v none
      | some (.slice _)=>aA (bI x) fun v=>K v none
      | _=>aA (aIB P h ty x) fun v=>K v none
    | _,_,_=>aA (fO P h b argTypes vs) fun v=>K v none
  | _=>False
def xG (C:aC0) (f:Value) (vs:List Value) (h:T Obj) (nx:Nat) (K:KV):Prop:=match f with
  | .func (.func k) a b=>C k (a.toList++vs++b.toList) h nx K
  | _=>False
abbrev ptL (P:Program) (ro:Ro) (C:aC0) (e:Env) (h:T Obj) (nx:Nat) (op:Op) (K:KV):Prop :=
  match op with
  | .store ty a x=>d5 (evE e a) fun a=>d5 (evE e x) fun x=>d5 (siz P ty) fun n=>aA (bV n h a x) fun h=>K undef h nx
  | .mapUpdate ty m k x | .insert ty m k x=>d5 (evE e m) fun m=>d5 (evE e k) fun k=>d5 (evE e x) fun x=>aA (vQ P h ty m k x) fun h=>K undef h nx
  | .call { callee:=.builtin b,args,argTypes }=>d5 (aFD e args.toList) fun vs=>match b with
    | .append=>aA (cR P ro h nx argTypes vs) fun r=>K r.1 r.2.1 r.2.2
    | .copy=>aA (aD1 P ro h nx argTypes vs) fun r=>K r.1 r.2.1 r.2.2
    | .clear=>match vs,argTypes[0]? with
      | [m],some ty=>aA (und P ty) fun _=>aA (aAc h m) fun h=>K (.tuple #[]) h nx
      | _,_=>False
    | _=>False
  | .call { callee:=.value f,args,.. }=>d5 (evE e f) fun f=>d5 (aFD e args.toList) fun vs=>xG C f vs h nx K
  | .convert s d x=>d5 (evE e x) fun v=>aA (uK P h s d v) fun r=>K r.1 r.2 nx
  | _=>False
abbrev ptO (P:Program) (ro:Ro) (C:aC0) (e:Env) (h:T Obj) (nx aid:Nat) (op:Op) (K:KV):Prop :=
  match gO op with
  | true=>ptL P ro C e h nx op K
  | false=>ptQ P ro e h aid op fun v ob=>K v (aA3 h aid ob) nx
def ifP (v:Value) (w:Bool) (h:T Obj) (nx:Nat) (A:KV→Prop) (K:KV):Prop:=match v with
  | .bool b=>match b==w with
    | true=>A K
    | false=>K undef h nx
  | _=>K undef h nx
abbrev Gd:=Option (Value × Bool)
abbrev aGI (g:Gd) (h:T Obj) (nx:Nat) (A:KV→Prop) (K:KV):Prop:=match g with
  | none=>A K
  | some vw=>ifP vw.1 vw.2 h nx A K
abbrev gdP (ops:Array Oper) (e:Env) (g:Option (Nat × Bool)) (K:Gd→Prop):Prop:=match g with
  | none=>K none
  | some (j,w)=>match (ops[j]?).bind (·.dst) with
    | some d=>K (some (e d,w))
    | none=>False
abbrev aL1 (n:Nat) (e:Env) (d:Option Tmp) (v:Value) (K:Env→Prop):Prop:=match d with
  | none=>K e
  | some d=>match Nat.blt d n with
    | true=>K (e.put d v)
    | false=>False
abbrev aNA (P:Program) (ro:Ro) (C:aC0) (n:Nat) (ops:Array Oper):List Oper→Env→T Obj→Nat→(Env→T Obj→Nat→Prop)→Prop
  | [],e,h,nx,Q=>Q e h nx
  | o::l,e,h,nx,Q=>gdP ops e o.guard fun g=>aGI g h nx (fun K=>ptO P ro C e h (nx+1) nx o.op K) fun v h nx=>aL1 n e o.dst v fun e=>aNA P ro C n ops l e h nx Q
def rdE (P:Program) (e:Env):Op→Option Value
  | .load _ x=>evE e x
  | .lookup _ x _ _=>evE e x
  | .convert s _ x=>match und P s with
    | some (.slice _)=>evE e x
    | _=>none
  | .call { callee:=.builtin _,args,argTypes }=>match (argTypes[0]?).bind (und P) with
    | some (.map _ _)=>match aFD e args.toList with
      | some [v]=>some v
      | _=>none
    | _=>none
  | _=>none
def jD (v:Value) (h h':T Obj):Prop:=match blk v with
  | some b=>same b h h'
  | none=>True
def onP (g:Gd) (X:Prop):Prop:=match g with
  | none=>X
  | some vw=>vw.1=.bool vw.2→X
def aMq:List Nat→Nat→Nat
  | [],_=>0
  | x::_,0=>x
  | _::r,n+1=>aMq r n
def uM (b:List Nat) (i j:Nat):Bool:=!(aMq b j).testBit i
abbrev aOR {α:Type} (K:List Nat→α):List Nat→List Nat→α
  | [],o=>K o
  | x::r,o=>aOR K r (x::o)
abbrev aKi {α:Type} (K:List Nat→α):List Oper→Nat→List Nat→α
  | [],_,acc=>aOR K acc []
  | o::l,j,acc=>CheckFast.force (CheckFast.one (fun i=>if i < j then acc.getD (j - 1 - i) 0 else 0) o) fun v=>aKi K l (j+1) (v::acc)
def vH (P:Program) (ops:Array Oper) (b:List Nat):Bool :=
  (List.range ops.size).all fun j=>match ops[j]? with
    | none=>false
    | some oj=>(oj.after.toList.all fun e=>!Region.binds .any e || decide (e.on < j))&&(List.range j).all fun i=>match ops[i]? with
      | none=>false
      | some oi=>match uM b i j with
        | false=>true
        | true=>tW P ops oi oj
abbrev aIh (b:List Nat) (i:Nat) (h h':T Obj):List (Nat × Gd × Value)→Prop→Prop
  | [],K=>K
  | q::ls,K=>match uM b q.1 i with
    | true=>onP q.2.1 (jD q.2.2 h h')∧aIh b i h h' ls K
    | false=>aIh b i h h' ls K
abbrev aIi (b:List Nat) (i:Nat) (v:Value):List (Nat × Gd × T Obj × T Obj)→Prop→Prop
  | [],K=>K
  | q::ms,K=>match uM b q.1 i with
    | true=>onP q.2.1 (jD v q.2.2.1 q.2.2.2)∧aIi b i v ms K
    | false=>aIi b i v ms K
abbrev ptD (P:Program) (ro:Ro) (C:aC0) (n:Nat) (ops:Array Oper) (b:List Nat) (n0:Nat):List Oper→Nat→List (Nat × Gd × Value)→List (Nat × Gd × T Obj × T Obj)→Env→T Obj→Nat→(Env→T Obj→Nat→Prop)→Prop
  | [],_,_,_,e,h,nx,Q=>Q e h nx
  | o::l,i,ls,ms,e,h,nx,Q=>gdP ops e o.guard fun g=>match gO o.op with
    | true=>aGI g h nx (fun K=>ptO P ro C e h nx (n0+i) o.op fun v h' nx'=>aIh b i h h' ls (K v h' nx')) fun v h' nx'=>aL1 n e o.dst v fun e=>ptD P ro C n ops b n0 l (i+1) ls ((i,g,h,h')::ms) e h' nx' Q
    | false=>match rdE P e o.op with
      | some a=>aGI g h nx (fun K=>ptO P ro C e h nx (n0+i) o.op fun v h' nx'=>aIi b i a ms (K v h' nx')) fun v h' nx'=>aL1 n e o.dst v fun e=>ptD P ro C n ops b n0 l (i+1) ((i,g,a)::ls) ms e h' nx' Q
      | none=>aGI g h nx (fun K=>ptO P ro C e h nx (n0+i) o.op K) fun v h' nx'=>aL1 n e o.dst v fun e=>ptD P ro C n ops b n0 l (i+1) ls ms e h' nx' Q
def exP (x:Ex) (A:Prop) (B:Nat→Prop) (D:Prop):Prop:=match x with
  | .normal=>A
  | .exit i=>B i
  | .ret=>D
def cO (b:Bool) (A B:Prop):Prop:=match b with
  | true=>A
  | false=>B
abbrev exQ (x:Ex) (A:Prop) (B:Nat→Prop) (D:Prop):Prop:=match x with
  | .normal=>A
  | .exit i=>B i
  | .ret=>D
abbrev aQW (b:Bool) (A B:Prop):Prop:=match b with
  | true=>A
  | false=>B
abbrev KE:=Ex→Env→T Obj→Nat→Prop
abbrev PT:=Env→T Obj→Nat→KE→Prop
def aFm (B:PT):Nat→PT
  | 0=>fun _ _ _ _=>False
  | k+1=>fun e h nx Q=>B e h nx fun x e h nx=>exP x (∃ h',Sub h' h∧aFm B k e h' nx Q) (fun i=>Q (.exit i) e h nx) (Q .ret e h nx)
def dS (B:PT):PT:=fun e h nx Q=>∃ k,aFm B k e h nx Q
def aS (v:Value) (A B:Prop):Prop:=match v with
  | .bool true=>A
  | .bool false=>B
  | _=>False
abbrev pt (P:Program) (ro:Ro) (C:aC0) (n:Nat):Code→PT
  | .skip | .label _=>fun e h nx Q=>Q .normal e h nx
  | .ret=>fun e h nx Q=>Q .ret e h nx
  | .exit id=>fun e h nx Q=>Q (.exit id) e h nx
  | .seq a b=>fun e h nx Q=>pt P ro C n a e h nx fun x e h nx=>exQ x (pt P ro C n b e h nx Q) (fun i=>Q (.exit i) e h nx) (Q .ret e h nx)
  | .cond c a b=>fun e h nx Q=>d5 (evE e c) fun v=>aS v (pt P ro C n a e h nx Q) (pt P ro C n b e h nx Q)
  | .block id b=>fun e h nx Q=>pt P ro C n b e h nx fun x e h nx=>exQ x (Q .normal e h nx) (fun i=>aQW (Nat.beq i id) (Q .normal e h nx) (Q (.exit i) e h nx)) (Q .ret e h nx)
  | .loop b=>dS (pt P ro C n b)
  | .scope b=>pt P ro C n b
  | .region _ ops draw=>fun e h nx Q=>match draw with
    | false=>aNA P ro C n ops ops.toList e h nx (Q .normal)
    | true=>aKi (fun b=>match vH P ops b with
      | true=>ptD P ro C n ops b nx ops.toList 0 [] [] e h (nx+ops.size) (Q .normal)
      | false=>False) ops.toList 0 []
  | _=>fun _ _ _ _=>False
abbrev aHD (P:Program) (ro:Ro) (e:Env) (h:T Obj):List ResultVar→(List Value→Prop)→Prop
  | [],K=>K []
  | .tmp i::r,K=>aHD P ro e h r fun vs=>K (e i::vs)
  | .cell a ty::r,K=>match isAgg P ty with
    | some true=>d5 (siz P ty) fun n=>aA (loadA ro h n (e a)) fun v=>aHD P ro e h r fun vs=>K (v::vs)
    | some false=>aA (load1 ro h (e a)) fun v=>aHD P ro e h r fun vs=>K (v::vs)
    | none=>False
def gQ (vs:List Value):Env:=fun i=>(vs[i]?).getD undef
abbrev aQA (P:Program) (ro:Ro) (rs:List ResultVar) (K:KV):KE:=fun x e h nx=>exQ x (aHD P ro e h rs fun vs=>∃ h',Sub h' h∧K (aBb vs) h' nx) (fun _=>False) (aHD P ro e h rs fun vs=>∃ h',Sub h' h∧K (aBb vs) h' nx)
def cM (h:T Obj) (aid:Nat) (o:Obj) (K:T Obj→Prop):Prop:=K (h.upd aid (some o))
def eQ (h:T Obj) (aid:Nat) (o:Option Obj) (K:T Obj→Prop):Prop:=K (aA3 h aid o)
def puts:Env→List (Nat × Value)→Env
  | e,[]=>e
  | e,p::l=>puts (e.put p.1 p.2) l
def aLr (f:Func):Code:=f.body.getD .skip
def a9 (P:Program) (ro:Ro) (C:aC0) (f:Func) (vs:List Value) (h:T Obj) (nx:Nat) (K:KV):Prop:=pt P ro C f.ntmps (aLr f) (gQ vs) h nx (aQA P ro f.results.toList K)
def aN (P:Program) (ro:Ro):aC0:=fun f vs h nx K=>∃ k v h' nx',call P ro k f vs h nx v h' nx'∧K v h' nx'
end V
end Go.Proofs.YtcaccnneblghgaaGreat
noncomputable section
namespace Go.Proofs.YtcaccnneblghgaaGreat
namespace V
theorem aP {α:Type} {o:Option α} {K:α→Prop} (h:aA o K):∃ a,o=some a∧K a:=by
  cases o with
  | none=>exact h.elim
  | some a=>exact ⟨a,rfl,h⟩
def gG (t:T Value):Env:=fun i=>(t.get i).getD undef
section
variable {P:Program} {ro:Ro} {t:T Value} {hp:T Obj}
theorem dD (x:Operand):evl t x=evE (gG t) x:=by cases x<;>rfl
theorem pI:∀ xs:List Operand,wP t xs=aFD (gG t) xs:=by
  intro xs
  induction xs with
  | nil=>rfl
  | cons x xs ih=>simp only [wP,aFD]; rw [dD,ih]
theorem aD7 (x:Option Operand):aHh t x=aMI (gG t) x:=by
  cases x with
  | none=>rfl
  | some x=>simp only [aHh,aMI]; rw [dD]
theorem aHi:∀ xs:List (Nat × Operand),aGY t xs=aMJ (gG t) xs:=by
  intro xs
  induction xs with
  | nil=>rfl
  | cons x xs ih=>simp only [aGY,aMJ]; rw [dD,ih]
theorem aLA (d:Nat) (v:Value):gG (t.upd d (some v))=(gG t).put d v:=by
  funext i
  unfold gG Env.put
  rw [T.get_upd]
  by_cases e:i=d
  · subst e; simp
  · rw [if_neg e]
    cases hb:Nat.beq i d with
    | true=>exact absurd (Nat.eq_of_beq_eq_true hb) e
    | false=>rfl
theorem rP {v:Value} {a:Addr} (h:asP v=some a):v=.pointer (some a):=by
  unfold asP at h
  split at h
  · cases h; rfl
  · cases h
theorem vC {v:Value} {a:Array Value} (h:asAgg v=some a):v=.agg a:=by
  unfold asAgg at h
  split at h
  · cases h; rfl
  · cases h
theorem aLY {aid:Nat} {op:Op} {K:Value→Option Obj→Prop} (h:ptQ P ro (gG t) hp aid op K):∃ v ob,opQ P ro t hp aid op=some (v,ob)∧K v ob:=by
  cases op with
  | move x | assign x =>
    obtain ⟨v,h1,h2⟩:=aP h
    exact ⟨v,none,by simp only [opQ]; rw [dD,h1]; rfl,h2⟩
  | pick c a b =>
    obtain ⟨c',h1,h⟩:=aP h
    obtain ⟨a',h2,h⟩:=aP h
    obtain ⟨b',h3,h⟩:=aP h
    obtain ⟨v,h4,h⟩:=aP h
    refine ⟨v,none,?_,h⟩
    simp only [opQ]; rw [dD,dD,dD,h1,h2,h3]
    unfold bH at h4
    split at h4<;>cases h4<;>rfl
  | alloc ty =>
    obtain ⟨z,h1,h⟩:=aP h
    exact ⟨_,_,by simp only [opQ]; rw [h1]; rfl,h⟩
  | box ty x =>
    obtain ⟨v,h1,h⟩:=aP h
    exact ⟨_,_,by simp only [opQ]; rw [dD,h1]; rfl,h⟩
  | build ty ps =>
    obtain ⟨vs,h1,h⟩:=aP h
    obtain ⟨v,h2,h⟩:=aP h
    exact ⟨_,_,by simp only [opQ]; rw [aHi,h1]; show (eX P ty vs).bind _=_; rw [h2]; rfl,h⟩
  | buildSlice ty n ps =>
    obtain ⟨vs,h1,h⟩:=aP h
    obtain ⟨r,h2,h⟩:=aP h
    exact ⟨r.1,r.2,by simp only [opQ]; rw [aHi,h1]; exact h2,h⟩
  | load ty x =>
    obtain ⟨v,h1,h⟩:=aP h
    split at h
    · rename_i hagg
      obtain ⟨n,h2,h⟩:=aP h
      obtain ⟨u,h3,h⟩:=aP h
      obtain ⟨a,h4,h5⟩:=aM h3
      refine ⟨u,none,?_,h⟩
      simp only [opQ]; rw [dD,h1,rP h4]
      show (m5 P ro hp ty a).bind _=_
      unfold m5
      rw [hagg]
      show ((siz P ty).bind _).bind _=_
      rw [h2]
      show ((cellsAt ro hp a n).bind _).bind _=_
      rw [h5]; rfl
    · rename_i hagg
      obtain ⟨u,h3,h⟩:=aP h
      obtain ⟨a,h4,h5⟩:=aM h3
      refine ⟨u,none,?_,h⟩
      simp only [opQ]; rw [dD,h1,rP h4]
      show (m5 P ro hp ty a).bind _=_
      have:m5 P ro hp ty a=some u:=by unfold m5; rw [hagg]; exact h5
      rw [this]; rfl
    · exact h.elim
  | nilCheck x =>
    obtain ⟨v,h1,h⟩:=aP h
    obtain ⟨u,h2,h⟩:=aP h
    refine ⟨u,none,?_,h⟩
    simp only [opQ]; rw [dD,h1]
    unfold bK at h2
    split at h2<;>cases h2<;>rfl
  | binOp op ty x y yt =>
    obtain ⟨a,h1,h⟩:=aP h
    obtain ⟨b,h2,h⟩:=aP h
    have key:∃ v,aDT P op ty a b=some v∧K v none:=by
      split at h
      · obtain ⟨v,h3,h⟩:=aP h
        refine ⟨v,?_,h⟩
        unfold aO at h3
        split at h3
        · exact h3
        · cases h3
      · obtain ⟨v,h3,h⟩:=aP h
        refine ⟨v,?_,h⟩
        unfold aEe at h3
        split at h3
        · exact h3
        · cases h3
      · rename_i hu
        obtain ⟨v,h3,h⟩:=aP h
        refine ⟨v,?_,h⟩
        unfold aFd at h3
        split at h3<;>cases h3<;>simp [aDT,aAL,aCo,hu,aB2]
      · rename_i hu
        obtain ⟨v,h3,h⟩:=aP h
        refine ⟨v,?_,h⟩
        unfold vU at h3
        split at h3<;>cases h3<;>simp only [aDT,aAL,aCo,hu,aB2,Option.bind]<;>(try rfl)<;>(cases ‹Option Addr›<;>rfl)
      · rename_i hu
        obtain ⟨v,h3,h⟩:=aP h
        refine ⟨v,?_,h⟩
        unfold slB at h3
        split at h3<;>cases h3<;>simp only [aDT,aAL,aCo,hu,aB2,Option.bind]<;>(try rfl)<;>(cases ‹Option Addr›<;>rfl)
      · rename_i hu
        obtain ⟨ks,h3,h⟩:=aP h
        obtain ⟨v,h4,h⟩:=aP h
        refine ⟨v,?_,h⟩
        have hagg:isAgg P ty=some true:=by unfold isAgg; rw [hu]
        unfold aJC at h4
        split at h4
        · split at h4
          · simp only [aDT,aAL,aCo,hagg,h3]; exact h4
          · simp only [aDT,aAL,aCo,hagg,h3]; exact h4
          · cases h4
        · cases h4
      · rename_i hu
        obtain ⟨ks,h3,h⟩:=aP h
        obtain ⟨v,h4,h⟩:=aP h
        refine ⟨v,?_,h⟩
        have hagg:isAgg P ty=some true:=by unfold isAgg; rw [hu]
        unfold aJC at h4
        split at h4
        · split at h4
          · simp only [aDT,aAL,aCo,hagg,h3]; exact h4
          · simp only [aDT,aAL,aCo,hagg,h3]; exact h4
          · cases h4
        · cases h4
      · exact h.elim
    obtain ⟨v,h3,h⟩:=key
    exact ⟨v,none,by simp only [opQ]; rw [dD,dD,h1,h2]; show (aDT P op ty a b).bind _=_; rw [h3]; rfl,h⟩
  | unOp op ty x =>
    obtain ⟨a,h1,h⟩:=aP h
    obtain ⟨v,h2,h⟩:=aP h
    exact ⟨v,none,by simp only [opQ]; rw [dD,h1]; show (unV op a).bind _=_; rw [h2]; rfl,h⟩
  | convert s d x =>
    obtain ⟨a,h1,h⟩:=aP h
    have key:∃ r,aC3 P ro hp aid s d a=some r∧K r.1 r.2:=by
      split at h
      · rename_i k1 k2 e1 e2
        obtain ⟨v,h2,h⟩:=aP h
        refine ⟨(v,none),?_,h⟩
        unfold wH at h2
        split at h2
        · cases h2; simp only [aC3,e1,e2]
        · cases h2
      · exact aP h
    obtain ⟨r,h2,h⟩:=key
    exact ⟨r.1,r.2,by simp only [opQ]; rw [dD,h1]; exact h2,h⟩
  | makeFunc fn a b =>
    cases fn with
    | func f =>
      obtain ⟨a',h1,h⟩:=aP h
      obtain ⟨b',h2,h⟩:=aP h
      exact ⟨_,_,by simp only [opQ]; rw [pI,pI,h1,h2]; rfl,h⟩
    | _=>exact h.elim
  | makeMap mt r =>
    cases r with
    | none=>exact ⟨_,_,rfl,h⟩
    | some r=>exact h.elim
  | makeSlice ty l c =>
    obtain ⟨l',h1,h⟩:=aP h
    obtain ⟨c',h2,h⟩:=aP h
    obtain ⟨r,h3,h⟩:=aP h
    exact ⟨r.1,r.2,by simp only [opQ]; rw [dD,dD,h1,h2]; exact h3,h⟩
  | slice ty x lo hi mx =>
    obtain ⟨x',h1,h⟩:=aP h
    obtain ⟨lo',h2,h⟩:=aP h
    obtain ⟨hi',h3,h⟩:=aP h
    obtain ⟨mx',h4,h⟩:=aP h
    obtain ⟨v,h5,h⟩:=aP h
    exact ⟨v,none,by simp only [opQ]; rw [dD,aD7,aD7,aD7,h1,h2,h3,h4]; show (oK P ty x' lo' hi' mx').bind _=_; rw [h5]; rfl,h⟩
  | fieldAddr s x f =>
    obtain ⟨v,h1,h⟩:=aP h
    obtain ⟨fd,h2,h⟩:=aP h
    obtain ⟨n,h3,h⟩:=aP h
    split at h
    · exact h.elim
    · obtain ⟨u,h4,h⟩:=aP h
      obtain ⟨a,h5,h6⟩:=aM h4
      cases h6
      refine ⟨_,none,?_,h⟩
      simp only [opQ]; rw [dD,h1,rP h5]
      show (aHp P s f).bind _=_
      rw [h2]
      show (siz P fd.type).bind _=_
      rw [h3]; rfl
  | field ty x f =>
    obtain ⟨v,h1,h⟩:=aP h
    obtain ⟨fd,h2,h⟩:=aP h
    have key:∃ cs u,v=.agg cs∧aAQ P fd.type cs fd.offset=some u∧K u none:=by
      split at h
      · rename_i hagg
        obtain ⟨n,h3,h⟩:=aP h
        obtain ⟨u,h4,h⟩:=aP h
        obtain ⟨cs,h5,h6⟩:=aM h4
        refine ⟨cs,u,vC h5,?_,h⟩
        unfold aAQ; rw [hagg]; show (siz P fd.type).bind _=_; rw [h3]; exact h6
      · rename_i hagg
        obtain ⟨u,h4,h⟩:=aP h
        obtain ⟨cs,h5,h6⟩:=aM h4
        refine ⟨cs,u,vC h5,?_,h⟩
        unfold aAQ; rw [hagg]; exact h6
      · exact h.elim
    obtain ⟨cs,u,rfl,h3,h⟩:=key
    refine ⟨u,none,?_,h⟩
    simp only [opQ]; rw [dD,h1]
    show (aHp P ty f).bind _=_
    rw [h2]
    show (aAQ P fd.type cs fd.offset).bind _=_
    rw [h3]; rfl
  | indexAddr ty x i =>
    obtain ⟨x',h1,h⟩:=aP h
    obtain ⟨i',h2,h⟩:=aP h
    have key:∃ v,mU P ty x' i'=some v∧K v none:=by
      split at h
      · rename_i hu
        obtain ⟨z,h3,h⟩:=aP h
        obtain ⟨v,h4,h⟩:=aP h
        refine ⟨v,?_,h⟩
        obtain ⟨j,h5,h6⟩:=aM h4
        obtain ⟨a,h7,h8⟩:=aM h6
        cases rP h7
        unfold mU
        rw [h5]
        show (match und P ty,Value.pointer (some a) with | _,_=>_)=_
        simp only [hu]; rw [h3]; exact h8
      · rename_i hu
        obtain ⟨z,h3,h⟩:=aP h
        obtain ⟨v,h4,h⟩:=aP h
        refine ⟨v,?_,h⟩
        obtain ⟨j,h5,h6⟩:=aM h4
        unfold mU
        rw [h5]
        simp only [Option.bind,hu]
        split at h6
        · simp only [h3]; exact h6
        · cases h6
      · exact h.elim
    obtain ⟨v,h3,h⟩:=key
    exact ⟨v,none,by simp only [opQ]; rw [dD,dD,h1,h2]; show (mU P ty x' i').bind _=_; rw [h3]; rfl,h⟩
  | index ty x i =>
    obtain ⟨x',h1,h⟩:=aP h
    obtain ⟨i',h2,h⟩:=aP h
    have key:∃ v,x4 P ty x' i'=some v∧K v none:=by
      split at h
      · rename_i el hu
        obtain ⟨z,h3,h⟩:=aP h
        split at h
        · rename_i hagg
          obtain ⟨v,h4,h⟩:=aP h
          refine ⟨v,?_,h⟩
          obtain ⟨j,h5,h6⟩:=aM h4
          obtain ⟨a,h7,h8⟩:=aM h6
          cases vC h7
          unfold x4
          rw [h5]
          simp only [Option.bind,hu,h3]
          split at h8
          · rename_i g1 g2
            rw [g1]; simp only [aAQ,hagg]; rw [h3]; simp only [Option.bind]; rw [g2]; exact h8
          · cases h8
        · rename_i hagg
          obtain ⟨v,h4,h⟩:=aP h
          refine ⟨v,?_,h⟩
          obtain ⟨j,h5,h6⟩:=aM h4
          obtain ⟨a,h7,h8⟩:=aM h6
          cases vC h7
          unfold x4
          rw [h5]
          simp only [Option.bind,hu,h3]
          split at h8
          · rename_i g1
            rw [g1]; simp only [aAQ,hagg]; exact h8
          · cases h8
        · exact h.elim
      · rename_i hu
        obtain ⟨v,h4,h⟩:=aP h
        refine ⟨v,?_,h⟩
        obtain ⟨j,h5,h6⟩:=aM h4
        unfold x4
        rw [h5]
        simp only [Option.bind,hu]
        split at h6
        · exact h6
        · cases h6
      · exact h.elim
    obtain ⟨v,h3,h⟩:=key
    exact ⟨v,none,by simp only [opQ]; rw [dD,dD,h1,h2]; show (x4 P ty x' i').bind _=_; rw [h3]; rfl,h⟩
  | lookup ty x k ok =>
    obtain ⟨x',h1,h⟩:=aP h
    obtain ⟨k',h2,h⟩:=aP h
    obtain ⟨v,h3,h⟩:=aP h
    exact ⟨v,none,by simp only [opQ]; rw [dD,dD,h1,h2]; show (aAP P hp ty x' k' ok).bind _=_; rw [h3]; rfl,h⟩
  | extract x i =>
    obtain ⟨v,h1,h⟩:=aP h
    obtain ⟨u,h2,h⟩:=aP h
    refine ⟨u,none,?_,h⟩
    simp only [opQ]; rw [dD,h1]
    unfold nth at h2
    split at h2
    · simp only [Option.bind]; rw [h2]
    · cases h2
  | call c =>
    obtain ⟨callee,args,ts⟩:=c
    cases callee with
    | builtin b =>
      obtain ⟨vs,h1,h⟩:=aP h
      have key:∃ v,fO P hp b ts vs=some v∧K v none:=by
        split at h
        · rename_i x ty hty hzz
          have hb:∀ v,aIB P hp ty x=some v→fO P hp .len ts [x]=some v:=by
            intro v hv
            unfold fO
            simp only
            rw [hty]; exact hv
          split at h
          · rename_i hu
            obtain ⟨v,h2,h⟩:=aP h
            refine ⟨v,hb v ?_,h⟩
            unfold vP at h2
            split at h2
            · cases h2; simp only [aIB,hu]
            · cases h2
          · rename_i hu
            obtain ⟨v,h2,h⟩:=aP h
            refine ⟨v,hb v ?_,h⟩
            unfold bI at h2
            split at h2
            · cases h2; simp only [aIB,hu]
            · cases h2
          · obtain ⟨v,h2,h⟩:=aP h
            exact ⟨v,hb v h2,h⟩
        · exact aP h
      obtain ⟨v,h2,h⟩:=key
      exact ⟨v,none,by simp only [opQ]; rw [pI,h1]; show (fO P hp b ts vs).bind _=_; rw [h2]; rfl,h⟩
    | _=>exact h.elim
  | _=>exact h.elim
end
end V
end Go.Proofs.YtcaccnneblghgaaGreat
noncomputable section
namespace Go.Proofs.YtcaccnneblghgaaGreat
namespace V
def LeC (C C':jT):Prop:=∀ f args h nx v h' nx',C f args h nx v h' nx'→C' f args h nx v h' nx'
section
variable {P:Program} {ro:Ro}
theorem aP7 {C C':jT} (hC:LeC C C') {t:T Value} {h h':T Obj} {nx nx':Nat} {op:Op} {v:Value} (hl:opL P ro C t h nx op v h' nx'):opL P ro C' t h nx op v h' nx':=by
  cases op with
  | call c =>
    obtain ⟨callee,args,ts⟩:=c
    cases callee with
    | value f =>
      obtain ⟨k,a,b,vs,h1,h2,h3⟩:=hl
      exact ⟨k,a,b,vs,h1,h2,hC _ _ _ _ _ _ _ h3⟩
    | builtin b=>exact hl
    | invoke r m=>exact hl
  | _=>exact hl
theorem sK {C C':jT} (hC:LeC C C') {t:T Value} {h h':T Obj} {nx aid nx':Nat} {op:Op} {v:Value} (hl:opR P ro C t h nx aid op v h' nx'):opR P ro C' t h nx aid op v h' nx':=by
  unfold opR at hl ⊢
  cases hq:gO op with
  | true=>rw [hq] at hl; exact aP7 hC hl
  | false=>rw [hq] at hl; exact hl
theorem aGq {C C':jT} (hC:LeC C C') {n:Nat} {ops:Array Oper}:∀ (l:List Oper) (s s':St),aAA P ro C n ops l s s'→aAA P ro C' n ops l s s':=by
  intro l
  induction l with
  | nil=>intro s s' h; exact h
  | cons o l ih =>
    intro s s' h
    simp only [aAA] at h ⊢
    cases hw:wanted ops s.t o with
    | true=>rw [hw] at h; obtain ⟨v,h',nx',t',h1,h2,h3⟩:=h; exact ⟨v,h',nx',t',sK hC h1,h2,ih _ _ h3⟩
    | false=>rw [hw] at h; obtain ⟨t',h1,h2⟩:=h; exact ⟨t',h1,ih _ _ h2⟩
theorem tB {C C':jT} (hC:LeC C C') {n n0:Nat} {ops:Array Oper}:∀ (l:List Oper) (i:Nat) (ls:List (Nat × Nat)) (ms:List (Nat × T Obj × T Obj)) (s s':St),uT P ro C n ops n0 l i ls ms s s'→uT P ro C' n ops n0 l i ls ms s s':=by
  intro l
  induction l with
  | nil=>intro i ls ms s s' h; exact h
  | cons o l ih =>
    intro i ls ms s s' h
    simp only [uT] at h ⊢
    cases hw:wanted ops s.t o with
    | true =>
      rw [hw] at h; obtain ⟨v,h',nx',t',h1,h2,h3⟩:=h
      refine ⟨v,h',nx',t',sK hC h1,h2,?_⟩
      cases hq:gO o.op with
      | true=>rw [hq] at h3; exact ⟨h3.1,ih _ _ _ _ _ h3.2⟩
      | false =>
        rw [hq] at h3
        simp only at h3 ⊢
        cases hla:rdB P s.t o.op with
        | none=>rw [hla] at h3; exact ih _ _ _ _ _ h3
        | some a=>rw [hla] at h3; exact ⟨h3.1,ih _ _ _ _ _ h3.2⟩
    | false=>rw [hw] at h; obtain ⟨t',h1,h2⟩:=h; exact ⟨t',h1,ih _ _ _ _ _ h2⟩
def LeX (X X':xB):Prop:=∀ n c s e s',X n c s e s'→X' n c s e s'
theorem aDW {X X':xB} (hX:LeX X X'):LeC (aDV P ro X) (aDV P ro X'):=by
  rintro f args h nx v h' nx' (⟨fn,body,e,s,vs,h1,h2,h3,h4,h5⟩ | ho)
  · exact .inl ⟨fn,body,e,s,vs,h1,h2,h3,hX _ _ _ _ _ h4,h5⟩
  · exact .inr ho
theorem aLx {X X':xB} (hX:LeX X X'):LeX (aH5 P ro X) (aH5 P ro X'):=by
  intro n c s e s' h
  cases c with
  | seq a b =>
    rcases h with ⟨s1,h1,h2⟩ | ⟨h1,h2⟩
    · exact .inl ⟨s1,hX _ _ _ _ _ h1,hX _ _ _ _ _ h2⟩
    · exact .inr ⟨h1,hX _ _ _ _ _ h2⟩
  | cond c a b=>obtain ⟨v,h1,h2⟩:=h; exact ⟨v,h1,hX _ _ _ _ _ h2⟩
  | block id b=>obtain ⟨e1,h1,h2⟩:=h; exact ⟨e1,hX _ _ _ _ _ h1,h2⟩
  | loop b =>
    rcases h with ⟨s1,hh,h1,h3,h2⟩ | ⟨h1,h2⟩
    · exact .inl ⟨s1,hh,hX _ _ _ _ _ h1,h3,hX _ _ _ _ _ h2⟩
    · exact .inr ⟨h1,hX _ _ _ _ _ h2⟩
  | scope b=>exact hX _ _ _ _ _ h
  | region id ops draw =>
    obtain ⟨h1,h2⟩:=h
    refine ⟨h1,?_⟩
    cases draw with
    | false=>exact aGq (aDW hX) _ _ _ h2
    | true=>exact ⟨h2.1,tB (aDW hX) _ _ _ _ _ _ h2.2⟩
  | _=>exact h
theorem aKt:∀ k,LeX (code P ro k) (code P ro (k+1)):=by
  intro k
  induction k with
  | zero=>intro n c s e s' h; exact h.elim
  | succ k ih=>exact aLx ih
theorem qN {k k':Nat} (h:k≤k'):LeX (code P ro k) (code P ro k'):=by
  induction h with
  | refl=>intro n c s e s' h; exact h
  | step _ ih=>intro n c s e s' h; exact aKt _ _ _ _ _ _ (ih _ _ _ _ _ h)
theorem iG {k k':Nat} (h:k≤k'):LeC (call P ro k) (call P ro k'):=aDW (qN h)
variable {t:T Value} {h:T Obj} {nx:Nat}
theorem aLX {op:Op} {K:KV} (hl:ptL P ro (aN P ro) (gG t) h nx op K):∃ k v h' nx',opL P ro (call P ro k) t h nx op v h' nx'∧K v h' nx':=by
  cases op with
  | store ty a x =>
    obtain ⟨a',h1,hl⟩:=aP hl
    obtain ⟨x',h2,hl⟩:=aP hl
    obtain ⟨n,h3,hl⟩:=aP hl
    obtain ⟨h',h4,hl⟩:=aP hl
    obtain ⟨ad,h5,h6⟩:=aM h4
    refine ⟨0,_,_,_,⟨a',x',by rw [dD]; exact h1,by rw [dD]; exact h2,?_,rfl,rfl⟩,hl⟩
    rw [rP h5]
    simp only [zH]
    rw [h3]; exact h6
  | mapUpdate ty m k x | insert ty m k x =>
    obtain ⟨m',h1,hl⟩:=aP hl
    obtain ⟨k',h2,hl⟩:=aP hl
    obtain ⟨x',h3,hl⟩:=aP hl
    obtain ⟨h',h4,hl⟩:=aP hl
    exact ⟨0,_,_,_,⟨m',k',x',by rw [dD]; exact h1,by rw [dD]; exact h2,by rw [dD]; exact h3,h4,rfl,rfl⟩,hl⟩
  | call c =>
    obtain ⟨callee,args,ts⟩:=c
    cases callee with
    | builtin b =>
      obtain ⟨vs,h1,hl⟩:=aP hl
      cases b<;>try (exact hl.elim)
      case append =>
        obtain ⟨r,h2,hl⟩:=aP hl
        exact ⟨0,r.1,r.2.1,r.2.2,⟨vs,by rw [pI]; exact h1,h2⟩,hl⟩
      case clear =>
        simp only at hl
        split at hl
        · rename_i m ty hty
          obtain ⟨u,h2,hl⟩:=aP hl
          obtain ⟨h',h3,hl⟩:=aP hl
          exact ⟨0,_,_,_,⟨_,by rw [pI]; exact h1,_,_,rfl,hty,by rw [h2]; rfl,h3,rfl,rfl⟩,hl⟩
        · exact hl.elim
      case copy =>
        obtain ⟨r,h2,hl⟩:=aP hl
        exact ⟨0,r.1,r.2.1,r.2.2,⟨vs,by rw [pI]; exact h1,h2⟩,hl⟩
    | value f =>
      obtain ⟨fv,h1,hl⟩:=aP hl
      obtain ⟨vs,h2,hl⟩:=aP hl
      unfold xG at hl
      split at hl
      · rename_i k a b _
        obtain ⟨fu,v,h',nx',h3,h4⟩:=hl
        exact ⟨fu,v,h',nx',⟨k,a,b,vs,by rw [dD]; exact h1,by rw [pI]; exact h2,h3⟩,h4⟩
      · exact hl.elim
    | invoke r m=>exact hl.elim
  | convert sx dx x =>
    obtain ⟨x',h1,hl⟩:=aP hl
    obtain ⟨r,h2,hl⟩:=aP hl
    exact ⟨0,r.1,r.2,nx,⟨x',by rw [dD]; exact h1,h2,rfl⟩,hl⟩
  | _=>exact hl.elim
theorem zU {aid:Nat} {op:Op} {K:KV} (hl:ptO P ro (aN P ro) (gG t) h nx aid op K):∃ k v h' nx',opR P ro (call P ro k) t h nx aid op v h' nx'∧K v h' nx':=by
  unfold ptO at hl
  unfold opR
  cases hq:gO op with
  | true=>rw [hq] at hl; exact aLX hl
  | false =>
    rw [hq] at hl
    obtain ⟨v,ob,h1,h2⟩:=aLY hl
    exact ⟨0,v,_,nx,⟨ob,h1,rfl,rfl⟩,h2⟩
def aHr (g:Gd):Prop:=match g with
  | none=>True
  | some vw=>vw.1=.bool vw.2
theorem aIP {g:Gd} {X:Prop} (h:onP g X) (hg:aHr g):X:=by
  cases g with
  | none=>exact h
  | some vw=>exact h hg
theorem aFl {ops:Array Oper} {o:Oper} {F:Gd→Prop} (hg:gdP ops (gG t) o.guard F) :
    ∃ g,F g∧(∀ h nx A K,aGI g h nx A K→(wanted ops t o=true∧A K)∨(wanted ops t o=false∧K undef h nx))∧(wanted ops t o=true→aHr g):=by
  unfold gdP at hg
  unfold wanted
  cases hgd:o.guard with
  | none=>rw [hgd] at hg; exact ⟨none,hg,fun h nx A K hA=>.inl ⟨rfl,hA⟩,fun _=>trivial⟩
  | some jw =>
    obtain ⟨j,w⟩:=jw
    rw [hgd] at hg
    simp only at hg ⊢
    cases hd:(ops[j]?).bind (·.dst) with
    | none=>rw [hd] at hg; exact hg.elim
    | some d =>
      rw [hd] at hg
      simp only at hg ⊢
      refine ⟨_,hg,?_,?_⟩
      · intro h nx A K hA
        unfold aGI ifP at hA
        simp only at hA
        split at hA
        · rename_i b hb
          have hb':t.get d=some (.bool b):=by
            unfold gG at hb
            cases ht:t.get d with
            | none=>rw [ht] at hb; cases hb
            | some v=>rw [ht] at hb; exact congrArg some hb
          rw [hb']
          simp only
          cases hbw:b==w with
          | true=>rw [hbw] at hA; exact .inl ⟨rfl,hA⟩
          | false=>rw [hbw] at hA; exact .inr ⟨rfl,hA⟩
        · rename_i hnb
          right
          refine ⟨?_,hA⟩
          cases ht:t.get d with
          | none=>rfl
          | some v =>
            cases v with
            | bool b=>exact absurd (show gG t d=.bool b by unfold gG; rw [ht]; rfl) (hnb b)
            | _=>rfl
      · intro hw
        unfold aHr
        simp only
        split at hw
        · rename_i b hb
          have:b=w:=by simpa using hw
          subst this
          unfold gG; rw [hb]; rfl
        · cases hw
theorem lD {n:Nat} {d:Option Tmp} {v:Value} {K:Env→Prop} (hp:aL1 n (gG t) d v K):∃ t',put n t d v=some t'∧K (gG t'):=by
  cases d with
  | none=>exact ⟨t,rfl,hp⟩
  | some d =>
    unfold aL1 at hp
    simp only at hp
    cases hb:Nat.blt d n with
    | true=>rw [hb] at hp; exact ⟨t.upd d (some v),by simp only [put]; rw [hb],by rw [aLA]; exact hp⟩
    | false=>rw [hb] at hp; exact hp.elim
theorem aIZ {n:Nat} {ops:Array Oper}:∀ (l:List Oper) (t:T Value) (h:T Obj) (nx:Nat) (Q:Env→T Obj→Nat→Prop),aNA P ro (aN P ro) n ops l (gG t) h nx Q →
    ∃ k s',aAA P ro (call P ro k) n ops l ⟨t,h,nx⟩ s'∧Q (gG s'.t) s'.h s'.nx:=by
  intro l
  induction l with
  | nil=>intro t h nx Q hl; exact ⟨0,_,rfl,hl⟩
  | cons o l ih =>
    intro t h nx Q hl
    obtain ⟨g,h1,h2,_⟩:=aFl hl
    simp only [aAA]
    rcases h2 _ _ _ _ h1 with ⟨hw,hA⟩ | ⟨hw,hK⟩
    · obtain ⟨k1,v,h',nx',h3,h4⟩:=zU hA
      obtain ⟨t',h5,h6⟩:=lD h4
      obtain ⟨k2,s',h7,h8⟩:=ih t' h' nx' Q h6
      refine ⟨max k1 k2,s',?_,h8⟩
      rw [hw]
      exact ⟨v,h',nx',t',sK (iG (Nat.le_max_left _ _)) h3,h5,aGq (iG (Nat.le_max_right _ _)) _ _ _ h7⟩
    · obtain ⟨t',h5,h6⟩:=lD hK
      obtain ⟨k2,s',h7,h8⟩:=ih t' h nx Q h6
      refine ⟨k2,s',?_,h8⟩
      rw [hw]
      exact ⟨t',h5,h7⟩
theorem aFt:∀ (l:List Nat) (i:Nat),aMq l i=l.getD i 0
  | [],_=>by simp [aMq]
  | _::_,0=>rfl
  | _::r,n+1=>by simp [aMq,aFt r n]
theorem xW (ops:Array Oper) (i j:Nat):uM (bef ops).toList i j=free (bef ops) i j:=by
  unfold uM free
  rw [aFt]; simp
theorem aD4 (ops:Array Oper):vH P ops (bef ops).toList=vG P ops:=by
  unfold vH vG
  simp only [xW]
  rfl
theorem aK7 {α:Type} (K:List Nat→α):∀ (l o:List Nat),aOR K l o=K (l.reverse++o)
  | [],o=>rfl
  | x::r,o=>by rw [aOR,aK7 K r]; simp
theorem aHV {α:Type} (K:List Nat→α):∀ (l:List Oper) (j:Nat) (acc:List Nat),aKi K l j acc=K (CheckFast.beforeL l j acc)
  | [],j,acc=>by rw [aKi,aK7,CheckFast.beforeL]; simp
  | o::r,j,acc=>by rw [aKi,CheckFast.force_eq,aHV K r,CheckFast.beforeL,CheckFast.force_eq]
theorem aNc {α:Type} (K:List Nat→α) (ops:Array Oper):aKi K ops.toList 0 []=K (bef ops).toList:=by
  rw [aHV]
  have:=CheckFast.beforeF_eq ops
  unfold bef
  rw [← this]
  rfl
theorem aJo {b:List Nat} {i:Nat} {h h':T Obj} {K:Prop}:∀ {lp:List (Nat × Gd × Value)},aIh b i h h' lp K→K∧∀ q∈lp,uM b q.1 i=true→onP q.2.1 (jD q.2.2 h h'):=by
  intro lp
  induction lp with
  | nil=>intro h; exact ⟨h,fun q hq=>by cases hq⟩
  | cons q lp ih =>
    intro hs
    simp only [aIh] at hs
    cases hf:uM b q.1 i with
    | true =>
      rw [hf] at hs
      obtain ⟨h1,h2⟩:=ih hs.2
      refine ⟨h1,fun x hx hfx=>?_⟩
      rcases List.mem_cons.1 hx with rfl | hx
      · exact hs.1
      · exact h2 x hx hfx
    | false =>
      rw [hf] at hs
      obtain ⟨h1,h2⟩:=ih hs
      refine ⟨h1,fun x hx hfx=>?_⟩
      rcases List.mem_cons.1 hx with rfl | hx
      · rw [hf] at hfx; cases hfx
      · exact h2 x hx hfx
theorem aJp {b:List Nat} {i:Nat} {v:Value} {K:Prop}:∀ {mp:List (Nat × Gd × T Obj × T Obj)},aIi b i v mp K→K∧∀ q∈mp,uM b q.1 i=true→onP q.2.1 (jD v q.2.2.1 q.2.2.2):=by
  intro mp
  induction mp with
  | nil=>intro h; exact ⟨h,fun q hq=>by cases hq⟩
  | cons q mp ih =>
    intro hs
    simp only [aIi] at hs
    cases hf:uM b q.1 i with
    | true =>
      rw [hf] at hs
      obtain ⟨h1,h2⟩:=ih hs.2
      refine ⟨h1,fun x hx hfx=>?_⟩
      rcases List.mem_cons.1 hx with rfl | hx
      · exact hs.1
      · exact h2 x hx hfx
    | false =>
      rw [hf] at hs
      obtain ⟨h1,h2⟩:=ih hs
      refine ⟨h1,fun x hx hfx=>?_⟩
      rcases List.mem_cons.1 hx with rfl | hx
      · rw [hf] at hfx; cases hfx
      · exact h2 x hx hfx
theorem aGA {t:T Value} (op:Op):aAS P t op=rdE P (gG t) op:=by
  cases op with
  | load ty x=>exact dD x
  | lookup ty x k ok=>exact dD x
  | convert sx dx x =>
    simp only [aAS,rdE]; rw [dD]
    cases und P sx with
    | none=>rfl
    | some d=>cases d<;>rfl
  | call c =>
    obtain ⟨callee,args,ts⟩:=c
    cases callee with
    | builtin b =>
      simp only [aAS,rdE]; rw [pI]
      cases (ts[0]?).bind (und P) with
      | none=>rfl
      | some d =>
                  cases d<;>try rfl
                  all_goals (simp only; cases aFD (gG t) args.toList with
                    | none=>rfl
                    | some l=>cases l with
                      | nil=>rfl
                      | cons a r=>cases r<;>rfl)
    | _=>rfl
  | _=>rfl
def RL (ls:List (Nat × Nat)) (lp:List (Nat × Gd × Value)):Prop:=∀ q∈ls,∃ g v,(q.1,g,v)∈lp∧aHr g∧blk v=some q.2
def RM (ms:List (Nat × T Obj × T Obj)) (mp:List (Nat × Gd × T Obj × T Obj)):Prop:=∀ q∈ms,∃ g,(q.1,g,q.2)∈mp∧aHr g
theorem RL.more {ls:List (Nat × Nat)} {lp:List (Nat × Gd × Value)} (h:RL ls lp) (x:Nat × Gd × Value):RL ls (x::lp):=fun q hq=>by
  obtain ⟨g,v,h1,h2⟩:=h q hq
  exact ⟨g,v,List.mem_cons_of_mem _ h1,h2⟩
theorem RM.more {ms:List (Nat × T Obj × T Obj)} {mp:List (Nat × Gd × T Obj × T Obj)} (h:RM ms mp) (x:Nat × Gd × T Obj × T Obj):RM ms (x::mp):=fun q hq=>by
  obtain ⟨g,h1,h2⟩:=h q hq
  exact ⟨g,List.mem_cons_of_mem _ h1,h2⟩
theorem aLW {n n0:Nat} {ops:Array Oper}:∀ (l:List Oper) (i:Nat) (ls:List (Nat × Nat)) (ms:List (Nat × T Obj × T Obj)) (lp:List (Nat × Gd × Value)) (mp:List (Nat × Gd × T Obj × T Obj)) (t:T Value) (h:T Obj) (nx:Nat) (Q:Env→T Obj→Nat→Prop),
    RL ls lp→RM ms mp→ptD P ro (aN P ro) n ops (bef ops).toList n0 l i lp mp (gG t) h nx Q→∃ k s',uT P ro (call P ro k) n ops n0 l i ls ms ⟨t,h,nx⟩ s'∧Q (gG s'.t) s'.h s'.nx:=by
  intro l
  induction l with
  | nil=>intro i ls ms lp mp t h nx Q _ _ hl; exact ⟨0,_,rfl,hl⟩
  | cons o l ih =>
    intro i ls ms lp mp t h nx Q hrl hrm hl
    obtain ⟨g,h1,h2,hgt⟩:=aFl hl
    simp only [uT]
    cases hq:gO o.op with
    | true =>
      rw [hq] at h1
      simp only at h1
      rcases h2 _ _ _ _ h1 with ⟨hw,hA⟩ | ⟨hw,hK⟩
      · obtain ⟨k1,v,h',nx',h3,h4⟩:=zU hA
        obtain ⟨h4,hsame⟩:=aJo h4
        obtain ⟨t',h5,h6⟩:=lD h4
        obtain ⟨k2,s',h7,h8⟩:=ih (i+1) ls ((i,h,h')::ms) lp ((i,g,h,h')::mp) t' h' nx' Q hrl (fun q hq=>by
          rcases List.mem_cons.1 hq with rfl | hq
          · exact ⟨g,by simp,hgt hw⟩
          · obtain ⟨g',e1,e2⟩:=hrm q hq
            exact ⟨g',List.mem_cons_of_mem _ e1,e2⟩) h6
        refine ⟨max k1 k2,s',?_,h8⟩
        rw [hw]
        refine ⟨v,h',nx',t',sK (iG (Nat.le_max_left _ _)) h3,h5,?_,tB (iG (Nat.le_max_right _ _)) _ _ _ _ _ _ h7⟩
        intro q hqm hf
        obtain ⟨g',v',e1,e2,e3⟩:=hrl q hqm
        have:=aIP (hsame _ e1 (by rw [xW]; exact hf)) e2
        unfold jD at this
        simp only [e3] at this
        exact this
      · obtain ⟨t',h5,h6⟩:=lD hK
        obtain ⟨k2,s',h7,h8⟩:=ih (i+1) ls ms lp ((i,g,h,h)::mp) t' h nx Q hrl (hrm.more _) h6
        refine ⟨k2,s',?_,h8⟩
        rw [hw]
        exact ⟨t',h5,h7⟩
    | false =>
      rw [hq] at h1
      simp only at h1
      cases hloc:rdE P (gG t) o.op with
      | some a =>
        rw [hloc] at h1
        simp only at h1
        rcases h2 _ _ _ _ h1 with ⟨hw,hA⟩ | ⟨hw,hK⟩
        · obtain ⟨k1,v,h',nx',h3,h4⟩:=zU hA
          obtain ⟨h4,hsame⟩:=aJp h4
          obtain ⟨t',h5,h6⟩:=lD h4
          cases hla:rdB P t o.op with
          | none =>
            obtain ⟨k2,s',h7,h8⟩:=ih (i+1) ls ms ((i,g,a)::lp) mp t' h' nx' Q (hrl.more _) hrm h6
            refine ⟨max k1 k2,s',?_,h8⟩
            rw [hw]
            exact ⟨v,h',nx',t',sK (iG (Nat.le_max_left _ _)) h3,h5,tB (iG (Nat.le_max_right _ _)) _ _ _ _ _ _ h7⟩
          | some ad =>
            have ha:blk a=some ad:=by
              unfold rdB at hla
              rw [aGA,hloc] at hla
              exact hla
            obtain ⟨k2,s',h7,h8⟩:=ih (i+1) ((i,ad)::ls) ms ((i,g,a)::lp) mp t' h' nx' Q (fun q hq=>by
              rcases List.mem_cons.1 hq with rfl | hq
              · exact ⟨g,a,by simp,hgt hw,ha⟩
              · obtain ⟨g',v',e1,e2⟩:=hrl q hq
                exact ⟨g',v',List.mem_cons_of_mem _ e1,e2⟩) hrm h6
            refine ⟨max k1 k2,s',?_,h8⟩
            rw [hw]
            refine ⟨v,h',nx',t',sK (iG (Nat.le_max_left _ _)) h3,h5,?_,tB (iG (Nat.le_max_right _ _)) _ _ _ _ _ _ h7⟩
            intro q hqm hf
            obtain ⟨g',e1,e2⟩:=hrm q hqm
            have:=aIP (hsame _ e1 (by rw [xW]; exact hf)) e2
            unfold jD at this
            simp only [ha] at this
            exact this
        · obtain ⟨t',h5,h6⟩:=lD hK
          obtain ⟨k2,s',h7,h8⟩:=ih (i+1) ls ms ((i,g,a)::lp) mp t' h nx Q (hrl.more _) hrm h6
          refine ⟨k2,s',?_,h8⟩
          rw [hw]
          exact ⟨t',h5,h7⟩
      | none =>
        rw [hloc] at h1
        simp only at h1
        have hla:rdB P t o.op=none:=by
          unfold rdB
          rw [aGA,hloc]; rfl
        rcases h2 _ _ _ _ h1 with ⟨hw,hA⟩ | ⟨hw,hK⟩
        · obtain ⟨k1,v,h',nx',h3,h4⟩:=zU hA
          obtain ⟨t',h5,h6⟩:=lD h4
          obtain ⟨k2,s',h7,h8⟩:=ih (i+1) ls ms lp mp t' h' nx' Q hrl hrm h6
          refine ⟨max k1 k2,s',?_,h8⟩
          rw [hw,hla]
          exact ⟨v,h',nx',t',sK (iG (Nat.le_max_left _ _)) h3,h5,tB (iG (Nat.le_max_right _ _)) _ _ _ _ _ _ h7⟩
        · obtain ⟨t',h5,h6⟩:=lD hK
          obtain ⟨k2,s',h7,h8⟩:=ih (i+1) ls ms lp mp t' h nx Q hrl hrm h6
          refine ⟨k2,s',?_,h8⟩
          rw [hw]
          exact ⟨t',h5,h7⟩
def aLi (P:Program) (ro:Ro) (n:Nat) (c:Code) (t:T Value) (h:T Obj) (nx:Nat) (Q:KE):Prop:=∃ k x s',code P ro k n c ⟨t,h,nx⟩ x s'∧Q x (gG s'.t) s'.h s'.nx
theorem aHx {n:Nat} {b:Code} (ihb:∀ (t:T Value) (h:T Obj) (nx:Nat) (Q:KE),pt P ro (aN P ro) n b (gG t) h nx Q→aLi P ro n b t h nx Q) :
    ∀ (j:Nat) (t:T Value) (h:T Obj) (nx:Nat) (Q:KE),aFm (pt P ro (aN P ro) n b) j (gG t) h nx Q→aLi P ro n (.loop b) t h nx Q:=by
  intro j
  induction j with
  | zero=>intro t h nx Q hi; exact hi.elim
  | succ j ih =>
    intro t h nx Q hi
    obtain ⟨k1,x,s1,h1,h2⟩:=ihb _ _ _ _ hi
    cases x with
    | normal =>
      obtain ⟨hh,h3,h4⟩:=h2
      obtain ⟨k2,x,s2,h5,h6⟩:=ih s1.t hh s1.nx Q h4
      exact ⟨max k1 k2+1,x,s2,.inl ⟨s1,hh,qN (Nat.le_max_left _ _) _ _ _ _ _ h1,h3,qN (Nat.le_max_right _ _) _ _ _ _ _ h5⟩,h6⟩
    | exit id=>exact ⟨k1+1,_,s1,.inr ⟨by simp,h1⟩,h2⟩
    | ret=>exact ⟨k1+1,_,s1,.inr ⟨by simp,h1⟩,h2⟩
theorem aNB {n:Nat}:∀ (c:Code) (t:T Value) (h:T Obj) (nx:Nat) (Q:KE),pt P ro (aN P ro) n c (gG t) h nx Q→aLi P ro n c t h nx Q:=by
  intro c
  induction c with
  | skip | label=>intro t h nx Q hp; exact ⟨1,.normal,_,⟨rfl,rfl⟩,hp⟩
  | ret=>intro t h nx Q hp; exact ⟨1,.ret,_,⟨rfl,rfl⟩,hp⟩
  | exit id=>intro t h nx Q hp; exact ⟨1,.exit id,_,⟨rfl,rfl⟩,hp⟩
  | seq a b iha ihb =>
    intro t h nx Q hp
    obtain ⟨k1,x,s1,h1,h2⟩:=iha _ _ _ _ hp
    cases x with
    | normal =>
      obtain ⟨k2,x,s2,h5,h6⟩:=ihb _ _ _ _ h2
      exact ⟨max k1 k2+1,x,s2,.inl ⟨s1,qN (Nat.le_max_left _ _) _ _ _ _ _ h1,qN (Nat.le_max_right _ _) _ _ _ _ _ h5⟩,h6⟩
    | exit id=>exact ⟨k1+1,_,s1,.inr ⟨by simp,h1⟩,h2⟩
    | ret=>exact ⟨k1+1,_,s1,.inr ⟨by simp,h1⟩,h2⟩
  | cond c a b iha ihb =>
    intro t h nx Q hp
    obtain ⟨v,h1,h2⟩:=aP hp
    rw [← dD] at h1
    unfold aS at h2
    split at h2
    · obtain ⟨k,x,s1,h3,h4⟩:=iha _ _ _ _ h2
      exact ⟨k+1,x,s1,⟨true,h1,h3⟩,h4⟩
    · obtain ⟨k,x,s1,h3,h4⟩:=ihb _ _ _ _ h2
      exact ⟨k+1,x,s1,⟨false,h1,h3⟩,h4⟩
    · exact h2.elim
  | block id b ihb =>
    intro t h nx Q hp
    obtain ⟨k,x,s1,h1,h2⟩:=ihb _ _ _ _ hp
    cases x with
    | normal=>exact ⟨k+1,_,s1,⟨_,h1,rfl⟩,h2⟩
    | ret=>exact ⟨k+1,_,s1,⟨_,h1,rfl⟩,h2⟩
    | exit i =>
      refine ⟨k+1,_,s1,⟨_,h1,rfl⟩,?_⟩
      have h2:cO (Nat.beq i id) (Q .normal (gG s1.t) s1.h s1.nx) (Q (.exit i) (gG s1.t) s1.h s1.nx):=h2
      simp only at ⊢
      cases hb:Nat.beq i id with
      | true=>rw [hb] at h2; exact h2
      | false=>rw [hb] at h2; exact h2
  | loop b ihb =>
    rintro t h nx Q ⟨j,hp⟩
    exact aHx ihb j t h nx Q hp
  | scope b ihb =>
    intro t h nx Q hp
    obtain ⟨k,x,s1,h1,h2⟩:=ihb _ _ _ _ hp
    exact ⟨k+1,x,s1,h1,h2⟩
  | region id ops draw =>
    intro t h nx Q hp
    cases draw with
    | false =>
      obtain ⟨k,s',h1,h2⟩:=aIZ _ _ _ _ _ hp
      exact ⟨k+1,.normal,s',⟨rfl,h1⟩,h2⟩
    | true =>
      simp only [pt] at hp
      rw [aNc,aD4] at hp
      cases hd:vG P ops with
      | false=>rw [hd] at hp; exact hp.elim
      | true =>
        rw [hd] at hp
        obtain ⟨k,s',h1,h2⟩:=aLW (P:=P) (ro:=ro) ops.toList 0 [] [] [] [] t h (nx+ops.size) (Q .normal) (fun q hq=>by cases hq) (fun q hq=>by cases hq) hp
        exact ⟨k+1,.normal,s',⟨rfl,hd,h1⟩,h2⟩
  | _=>intro t h nx Q hp; exact hp.elim
theorem aJh {t:T Value} {h:T Obj}:∀ (rs:List ResultVar) (K:List Value→Prop),aHD P ro (gG t) h rs K→∃ vs,aCI P ro h t rs=some vs∧K vs:=by
  intro rs
  induction rs with
  | nil=>intro K hr; exact ⟨[],rfl,hr⟩
  | cons r rs ih =>
    intro K hr
    cases r with
    | tmp i =>
      obtain ⟨vs,h1,h2⟩:=ih _ hr
      exact ⟨_,by simp only [aCI]; rw [h1]; rfl,h2⟩
    | cell a ty =>
      have key:∃ ad v,gG t a=.pointer (some ad)∧m5 P ro h ty ad=some v∧aHD P ro (gG t) h rs fun vs=>K (v::vs):=by
        simp only [aHD] at hr
        split at hr
        · rename_i hagg
          obtain ⟨n,h1,hr⟩:=aP hr
          obtain ⟨v,h2,hr⟩:=aP hr
          obtain ⟨ad,h3,h4⟩:=aM h2
          exact ⟨ad,v,rP h3,by unfold m5; rw [hagg]; show (siz P ty).bind _=_; rw [h1]; exact h4,hr⟩
        · rename_i hagg
          obtain ⟨v,h2,hr⟩:=aP hr
          obtain ⟨ad,h3,h4⟩:=aM h2
          exact ⟨ad,v,rP h3,by unfold m5; rw [hagg]; exact h4,hr⟩
        · exact hr.elim
      obtain ⟨ad,v,h1,h2,h3⟩:=key
      obtain ⟨vs,h4,h5⟩:=ih _ h3
      refine ⟨_,?_,h5⟩
      simp only [aCI]
      have:(t.get a).getD undef=.pointer (some ad):=h1
      rw [this]
      simp only
      rw [h2,h4]; rfl
theorem aHf {vs:List Value}:gG (xL vs 0 .e)=gQ vs:=by
  funext i
  unfold gG gQ
  rw [aD6]
  by_cases hi:i < vs.length
  · rw [if_pos (by omega),Nat.sub_zero]
  · rw [if_neg (by omega),T.get_e,List.getElem?_eq_none (by omega)]
theorem aLt {f:FuncId} {fn:Func} {body:Code} {vs:List Value} {K:KV} (h1:P.funcs[f]?=some fn) (h2:fn.body=some body) (h3:Nat.ble vs.length fn.ntmps=true)
    (hp:pt P ro (aN P ro) fn.ntmps body (gQ vs) h nx (aQA P ro fn.results.toList K)):aN P ro f vs h nx K:=by
  rw [← aHf] at hp
  obtain ⟨k,x,s',h4,h5⟩:=aNB _ _ _ _ _ hp
  have key:(x=.normal∨x=.ret)∧aHD P ro (gG s'.t) s'.h fn.results.toList fun vs=>∃ h',Sub h' s'.h∧K (aBb vs) h' s'.nx:=by
    cases x with
    | exit id=>exact h5.elim
    | normal=>exact ⟨.inl rfl,h5⟩
    | ret=>exact ⟨.inr rfl,h5⟩
  obtain ⟨hx,hr⟩:=key
  obtain ⟨ws,h6,h',h7,h8⟩:=aJh _ _ hr
  exact ⟨k,aBb ws,h',s'.nx,.inl ⟨fn,body,x,s',ws,h1,h2,Nat.le_of_ble_eq_true h3,h4,hx,h6,rfl,h7,rfl⟩,h8⟩
theorem aKp {f:FuncId} {v:Value} {K:KV} (ho:Orc P f v) (hK:K v h nx):aN P ro f [] h nx K:=⟨0,v,h,nx,.inr (.inl ⟨rfl,ho,fun _ _ e=>e,rfl⟩),hK⟩
theorem a7 {f:FuncId} {fn:Func} {vs:List Value} {K:KV} (h1:P.funcs[f]?=some fn) (h2:fn.body.isSome=true) (h3:Nat.ble vs.length fn.ntmps=true)
    (hp:a9 P ro (aN P ro) fn vs h nx K):aN P ro f vs h nx K:=by
  cases hb:fn.body with
  | none=>rw [hb] at h2; cases h2
  | some b =>
    refine aLt h1 hb h3 ?_
    unfold a9 aLr at hp
    rw [hb] at hp
    exact hp
end
end V
end Go.Proofs.YtcaccnneblghgaaGreat
noncomputable section
namespace Go.Proofs.YtcaccnneblghgaaGreat
namespace V
open Go.RowKit
def aGi:Addr:=⟨0,0,none⟩
def vS (N:Nat):Value→Option Value
  | .slice (some a) 0 0=>some (.slice (some aGi) 0 0)
  | .slice (some a) l c=>match a.spot,Nat.blt a.block N with
    | none,true=>some (.slice (some a) l c)
    | _,_=>none
  | .pointer (some a)=>match a.spot,Nat.blt a.block N with
    | none,true=>some (.pointer (some a))
    | _,_=>none
  | v=>match flat v with
    | true=>some v
    | false=>none
theorem aGj {N:Nat} {φ:Phi} {v v':Value} (h:vS N v=some v'):VR N φ v' v:=by
  unfold vS at h
  split at h
  · cases h; exact .sliceNo rfl
  · split at h
    · rename_i h1 h2
      cases h; exact .sliceRo h1 (by have:=h2; simp [Nat.blt] at this; omega)
    · cases h
  · split at h
    · rename_i h1 h2
      cases h; exact .ptrRo h1 (by have:=h2; simp [Nat.blt] at this; omega)
    · cases h
  · split at h
    · rename_i hf; cases h; exact .flat hf
    · cases h
def oE (W:World):Ro:=fun a=>match a.spot,Nat.blt a.block W.heap.size with
  | none,true=>(W.cell? a).bind (vS W.heap.size)
  | _,_=>none
theorem aE5 (W:World):Sim (oE W) W.heap.size (fun _=>none) W (T.e:T Obj).get W where
  n:=rfl
  le:=Nat.le_refl _
  old:=fun _ _=>rfl
  dom:=fun k B o r h=>by cases h
  inj:=fun k k' B o r B' o' r' h=>by rw [T.get_e] at h; exact absurd rfl h
  own:=fun k o h=>by rw [T.get_e] at h; cases h
  ro:=fun a v h=>by
    unfold oE at h
    split at h
    · rename_i h1 h2
      obtain ⟨v',h3,h4⟩:=aM h
      exact ⟨h1,by have:=h2; simp [Nat.blt] at this; omega,v',h3,aGj h4⟩
    · cases h
def jO (N:Nat):List Value→Option (List Value)
  | []=>some []
  | v::l=>(vS N v).bind fun v=>(jO N l).bind fun l=>some (v::l)
inductive Arg (N:Nat):Value→Value→Prop where
  | one {v v':Value} (h:vS N v=some v'):Arg N v' v
  | agg {cs:Array Value} {l:List Value} (h:jO N cs.toList=some l):Arg N (.agg l.toArray) (.agg cs)
theorem aB3 {N:Nat} {φ:Phi}:∀ {l l':List Value},jO N l=some l'→LR N φ l' l
  | [],l',h=>by cases h; exact .nil
  | v::l,l',h=>by
    obtain ⟨v',h1,h⟩:=aM h
    obtain ⟨r,h2,h⟩:=aM h
    cases h
    exact .cons (aGj h1) (aB3 h2)
theorem Arg.vr {N:Nat} {φ:Phi} {v v':Value} (h:Arg N v v'):VR N φ v v':=by
  cases h with
  | one h=>exact aGj h
  | agg h=>exact .agg (by have:=(aB3 (φ:=φ) h).length; simpa using this) fun i x y hx hy=>(aB3 h).get i x y (by simpa using hx) (by simpa using hy)
inductive Args (N:Nat):List Value→List Value→Prop where
  | nil:Args N [] []
  | cons {v v':Value} {l l':List Value} (h:Arg N v v') (t:Args N l l'):Args N (v::l) (v'::l')
theorem Args.lr {N:Nat} {φ:Phi} {l l':List Value} (h:Args N l l'):LR N φ l l':=by
  induction h with
  | nil=>exact .nil
  | cons h _ ih=>exact .cons h.vr ih
def aPr (P:Program) (W:World) (f:FuncId) (vs:List Value):Prop:=aN P (oE W) f vs .e 0 fun v _ _=>v=.bool true
theorem aJq {P:Program} (hz:fY P=true) (hn:lN P=true) (hm:P.follows .mixedOrders=true) {W:World} {f:FuncId} {vs:List Value} {args:Array Value}
    (ha:Args W.heap.size vs args.toList) (h:aPr P W f vs):Calls P f args W fun e W'=>e=.returned (.bool true)∧Below W.heap.size W W':=by
  obtain ⟨k,v,h',nx',hc,rfl⟩:=h
  have hs:SS (oE W) W.heap.size W (fun _=>none) .e 0 W:=⟨aE5 W,fun _ _=>rfl⟩
  refine ((aAa (ro:=oE W) (N:=W.heap.size) (w0:=W) hz hn hm _ _ _ _ _ _ _ hc).2 _ W args hs ha.lr).mono fun e W' ⟨v',φ',he,hst,hv⟩=>?_
  subst he
  refine ⟨by rw [hv.of_flat rfl],⟨hst.os,hst.tape,hst.output,hst.size,fun b hb=>hst.frame b hb fun k B o r hk _=>absurd (T.get_e k) hk⟩⟩
section
open Go.ChangeShapes Go.WideShapes Go.ChangeAt
variable {H:Type} {enc:TypeId × Value→H} {P:Program}
theorem aF6 {W W':World} (hl:laidOutB P=true) (hb:Below W.heap.size W W'):∀ (ts:List TypeId) (vs:List Value) (ds:List (DataW H)) (ps:List MemPlace),
    (∀ t∈ts,P.readableRec t=true∧t < P.types.size)→(∀ x∈ps,x.block < W.heap.size) →
    DataW.TrodAll enc P W 0 (fun _=>true) true ts vs ds ps→DataW.TrodAll enc P W' 0 (fun b=>decide (b < W.heap.size)) true ts vs ds ps:=by
  intro ts
  induction ts with
  | nil =>
    intro vs ds ps _ _ h
    cases vs with
    | nil=>cases ds with
      | nil=>exact h
      | cons _ _=>exact h.elim
    | cons _ _=>exact h.elim
  | cons t ts ih =>
    intro vs ds ps hr hp h
    cases vs with
    | nil=>exact h.elim
    | cons v vs =>
      cases ds with
      | nil=>exact h.elim
      | cons d ds =>
        obtain ⟨p,q,h1,h2,rfl⟩:=h
        exact ⟨p,q,Below.trod hl (hr t (by simp)).1 (hr t (by simp)).2 h1 hb (fun x hx=>hp x (by simp [hx])),ih _ _ _ (fun t ht=>hr t (by simp [ht])) (fun x hx=>hp x (by simp [hx])) h2,rfl⟩
theorem aM6 {fn:Func} {s:ChangeSpec} {tb:TypeId} {W W':World} {args:Array Value} {ds gs:List (DataW H)} {before:List MemPlace}
    (hl:laidOutB P=true) (hrow0:(fn.params.toList.all fun t=>P.readableRec t&&decide (t < P.types.size))=true) (hres:fn.resultTypes=#[tb]) (htb:P.underlying tb=some .bool) (hvars:s.vars=[])
    (hW:DataW.Whole enc P fn.params.toList s.vars false W args.toList ds gs before) (hb:Below W.heap.size W W')
    (hfn:s.fn H (ds++gs)={ results:=[.lit (.bool true)],args:=ds,vars:=[] }) :
    s.post enc P fn false true false false W args (.bool true) W':=by
  have hrow:∀ t∈fn.params.toList,P.readableRec t=true∧t < P.types.size:=fun t ht=>by
    have:=List.all_eq_true.1 hrow0 t ht
    simpa using this
  have hW':=hW
  obtain ⟨p,q,hA,hV,rfl,hfz,hnd⟩:=hW
  refine ⟨ds,gs,p++q,[],p,[],hW',?_,?_,?_,hb.frame _,fun h=>by cases h⟩
  · rw [hfn,hres]
    exact trodAll_mk1 (shut_bool htb _)
  · rw [hfn]
    exact aF6 hl hb _ _ _ _ hrow (fun x hx=>by have:=hW'.lt x (by simp [hx]); simpa using this) hA
  · rw [hfn,hvars]; exact rfl
end
end V
end Go.Proofs.YtcaccnneblghgaaGreat
noncomputable section
namespace Go.Proofs.YtcaccnneblghgaaGreat
namespace V
theorem bS {α:Type} (a:α) (K:α→Prop):aA (some a) K=K a:=rfl
theorem cC (A B:Prop):aS (.bool true) A B=A:=rfl
theorem bW (A B:Prop):aS (.bool false) A B=B:=rfl
theorem fW (h:T Obj) (nx:Nat) (A:KV→Prop) (K:KV):ifP (.bool true) true h nx A K=A K:=rfl
theorem fT (h:T Obj) (nx:Nat) (A:KV→Prop) (K:KV):ifP (.bool false) false h nx A K=A K:=rfl
theorem fV (h:T Obj) (nx:Nat) (A:KV→Prop) (K:KV):ifP (.bool true) false h nx A K=K undef h nx:=rfl
theorem fU (h:T Obj) (nx:Nat) (A:KV→Prop) (K:KV):ifP (.bool false) true h nx A K=K undef h nx:=rfl
theorem d7 (h:T Obj) (i:Nat) (o:Obj) (K:T Obj→Prop):cM h i o K=K (h.upd i (some o)):=rfl
theorem cZ (h:T Obj) (i:Nat) (o:Obj) (K:T Obj→Prop):eQ h i (some o) K=K (h.upd i (some o)):=rfl
theorem cY (h:T Obj) (i:Nat) (K:T Obj→Prop):eQ h i none K=K h:=rfl
theorem cD (A:Prop) (B:Nat→Prop) (D:Prop):exP .normal A B D=A:=rfl
theorem dI (i:Nat) (A:Prop) (B:Nat→Prop) (D:Prop):exP (.exit i) A B D=B i:=rfl
theorem eC (A:Prop) (B:Nat→Prop) (D:Prop):exP .ret A B D=D:=rfl
theorem cS (A B:Prop):cO true A B=A:=rfl
theorem b8 (A B:Prop):cO false A B=B:=rfl
theorem aB {α:Type} {o:Option α} {a:α} {K:α→Prop} (h:o=some a) (k:K a):aA o K:=by rw [h]; exact k
theorem aD {h:T Obj} {i:Nat} {o:Obj} {K:T Obj→Prop} (k:K (h.upd i (some o))):cM h i o K:=k
theorem aE {h:T Obj} {i:Nat} {o:Obj} {K:T Obj→Prop} (k:K (h.upd i (some o))):eQ h i (some o) K:=k
theorem aC {h:T Obj} {i:Nat} {K:T Obj→Prop} (k:K h):eQ h i none K:=k
theorem aG {A B:Prop} (k:A):aS (.bool true) A B:=k
theorem aF {A B:Prop} (k:B):aS (.bool false) A B:=k
theorem hY {b:Bool} {A B:Prop} (h:b=true) (k:A):aS (.bool b) A B:=by subst h; exact k
theorem hU {b:Bool} {A B:Prop} (h:b=false) (k:B):aS (.bool b) A B:=by subst h; exact k
theorem aK {h:T Obj} {nx:Nat} {A:KV→Prop} {K:KV} (k:A K):ifP (.bool true) true h nx A K:=k
theorem aH {h:T Obj} {nx:Nat} {A:KV→Prop} {K:KV} (k:A K):ifP (.bool false) false h nx A K:=k
theorem aJ {h:T Obj} {nx:Nat} {A:KV→Prop} {K:KV} (k:K undef h nx):ifP (.bool true) false h nx A K:=k
theorem aI {h:T Obj} {nx:Nat} {A:KV→Prop} {K:KV} (k:K undef h nx):ifP (.bool false) true h nx A K:=k
theorem aL {w:Bool} {h:T Obj} {nx:Nat} {A:KV→Prop} {K:KV} (k:K undef h nx):ifP undef w h nx A K:=k
theorem eP {n:Int} (h1:-9223372036854775808≤n) (h2:n≤9223372036854775807):wr .i64 n=n:=by simp [wr,h1,h2]
theorem iO {n:Int} (h1:0≤n) (h2:n≤255):wr .u8 n=n:=by simp [wr,h1,h2]
theorem fH {n:Int} (h1:0≤n) (h2:n≤18446744073709551615):wr .u64 n=n:=by simp [wr,h1,h2]
theorem dB (k:IntKind) (a b:Int):aO .add (.int k a) (.int k b)=some (.int k (wr k (a+b))):=by simp [aO,sH]
theorem dL (k:IntKind) (a b:Int):aO .sub (.int k a) (.int k b)=some (.int k (wr k (a - b))):=by simp [aO,sH]
theorem dG (k:IntKind) (a b:Int):aO .mul (.int k a) (.int k b)=some (.int k (wr k (a*b))):=by simp [aO,sH]
theorem dJ (k:IntKind) {a b:Int} (ha:0≤a) (hb:0 < b):aO .quo (.int k a) (.int k b)=some (.int k (wr k (a / b))):=by
  have:b≠0:=by omega
  simp [aO,sH,this,Int.tdiv_eq_ediv_of_nonneg ha]
theorem dK (k:IntKind) {a b:Int} (ha:0≤a) (hb:0 < b):aO .rem (.int k a) (.int k b)=some (.int k (a % b)):=by
  have:b≠0:=by omega
  simp [aO,sH,this,Int.tmod_eq_emod_of_nonneg ha]
theorem aT (k:IntKind) (a b:Int):aO .eql (.int k a) (.int k b)=some (.bool (decide (a=b))):=by simp [aO,sH]
theorem aU (k:IntKind) (a b:Int):aO .neq (.int k a) (.int k b)=some (.bool (!decide (a=b))):=by simp [aO,sH]
theorem aY (k:IntKind) (a b:Int):aO .lss (.int k a) (.int k b)=some (.bool (decide (a < b))):=by simp [aO,sH]
theorem aX (k:IntKind) (a b:Int):aO .leq (.int k a) (.int k b)=some (.bool (decide (a≤b))):=by simp [aO,sH]
theorem aW (k:IntKind) (a b:Int):aO .gtr (.int k a) (.int k b)=some (.bool (decide (b < a))):=by simp [aO,sH]
theorem aV (k:IntKind) (a b:Int):aO .geq (.int k a) (.int k b)=some (.bool (decide (b≤a))):=by simp [aO,sH]
theorem aMW (k k':IntKind) {a b:Int} (hb:0≤b):aO .shr (.int k a) (.int k' b)=some (.int k (a.fdiv ((2 ^ (min b.toNat k.bits):Nat):Int))):=by simp [aO,aAy,hb]
theorem aMV (k k':IntKind) {a b:Int} (hb:0≤b):aO .shl (.int k a) (.int k' b)=some (.int k (wr k (a*((2 ^ (min b.toNat k.bits):Nat):Int)))):=by simp [aO,aAy,hb]
theorem cE {a b:Int} (ha:0≤a) (hb:0≤b) (ha':a≤18446744073709551615) (hb':b≤18446744073709551615):aO .and (.int .u64 a) (.int .u64 b)=some (.int .u64 (Nat.land a.toNat b.toNat:Nat)):=by simp [aO,sH,aAH,ha,hb,ha',hb']
theorem cX {a b:Int} (ha:0≤a) (hb:0≤b) (ha':a≤18446744073709551615) (hb':b≤18446744073709551615):aO .or (.int .u64 a) (.int .u64 b)=some (.int .u64 (Nat.lor a.toNat b.toNat:Nat)):=by simp [aO,sH,aAH,ha,hb,ha',hb']
theorem cF {a b:Int} (ha:0≤a) (hb:0≤b) (ha':a≤18446744073709551615) (hb':b≤18446744073709551615):aO .xor (.int .u64 a) (.int .u64 b)=some (.int .u64 (Nat.xor a.toNat b.toNat:Nat)):=by simp [aO,sH,aAH,ha,hb,ha',hb']
theorem cW (k k':IntKind) (n:Int):wH k (.int k' n)=some (.int k (wr k n)):=rfl
theorem eE (b:Bool):unV .not (.bool b)=some (.bool (!b)):=rfl
theorem cT (a b:Bool):aFd .eql (.bool a) (.bool b)=some (.bool (a==b)):=rfl
theorem cU (a b:Bool):aFd .neq (.bool a) (.bool b)=some (.bool (!(a==b))):=rfl
theorem cG (a b:Value):bH (.bool true) a b=some a:=rfl
theorem bX (a b:Value):bH (.bool false) a b=some b:=rfl
theorem bR (a:Option Addr) (n c:Nat):bI (.slice a n c)=some (.int .i64 n):=rfl
abbrev at_ (id off z:Nat):Value:=.pointer (some ⟨id,off,some z⟩)
theorem fL (id:Nat):ptr id=at_ id 0 0:=rfl
theorem eD (k id off z:Nat):aQ k (at_ id off z)=some (at_ id (off+k) z):=rfl
def nL:Option Obj→Option (List Value)
  | some (.cells c _ _)=>some c.toList
  | _=>none
theorem bE (c:Array Value) (e:TypeId) (f:Nat × Nat):nL (some (.cells c e f))=some c.toList:=rfl
theorem aA2 {l:List Value} {off:Nat} {v:Value} (h:l[off]?=some v):(l.drop off).take 1=[v]:=by
  have hl:=(List.getElem?_eq_some_iff.1 h).1
  rw [List.drop_eq_getElem_cons hl]
  have:=(List.getElem?_eq_some_iff.1 h).2
  simp [this]
theorem mY (ro:Ro) (h:T Obj) (id off z n:Nat):cellsAt ro h ⟨id,off,some z⟩ n=(nL (h.get id)).bind fun c=>if off+n≤c.length then some ((c.drop off).take n) else none:=by
  unfold cellsAt nL
  simp only
  cases h.get id with
  | none=>rfl
  | some o =>
    cases o<;>try rfl
    rename_i c e f
    simp only [Option.bind,Array.length_toList]
    by_cases hle:off+n≤c.size
    · rw [if_pos hle,Nat.ble_eq_true_of_le hle]
    · rw [if_neg hle]
      cases hb:Nat.ble (off+n) c.size with
      | true=>exact absurd (Nat.le_of_ble_eq_true hb) hle
      | false=>rfl
theorem cI (ro:Ro) (h:T Obj) (id off z:Nat):load1 ro h (at_ id off z)=(nL (h.get id)).bind fun c=>c[off]?:=by
  unfold load1
  simp only [asP,Option.bind,mY]
  cases hc:nL (h.get id) with
  | none=>rfl
  | some c =>
    simp only
    by_cases hle:off+1≤c.length
    · rw [if_pos hle]
      have hg:c[off]?=some c[off]:=List.getElem?_eq_getElem (by omega)
      rw [aA2 hg,hg]
    · rw [if_neg hle,List.getElem?_eq_none (by omega)]
theorem bZ (ro:Ro) (h:T Obj) (n id off z:Nat):loadA ro h n (at_ id off z)=(nL (h.get id)).bind fun c=>if off+n≤c.length then some (.agg ((c.drop off).take n).toArray) else none:=by
  unfold loadA
  simp only [asP,Option.bind,mY]
  cases nL (h.get id) with
  | none=>rfl
  | some c=>by_cases hle:off+n≤c.length<;>simp [hle]
theorem dM (n z id off y:Nat) (k:IntKind) {i:Int} (h0:0≤i) (h1:i < n):ixArr n z (at_ id off y) (.int k i)=some (at_ id (off+i.toNat*z) y):=by
  have hn:lO (.int k i)=some i.toNat:=by simp [lO,h0]
  have:Nat.blt i.toNat n=true:=by simp [Nat.blt]; omega
  simp [ixArr,hn,asP,this,fwd]
theorem Value.cells_agg (cs:Array Value):Value.cells (.agg cs)=cs:=rfl
theorem cV (k:IntKind) (n:Int):Value.cells (.int k n)=#[.int k n]:=rfl
theorem cB (b:Bool):Value.cells (.bool b)=#[.bool b]:=rfl
theorem aG9 (k k':IntKind) (a:Nat) {b:Int} (hb:0≤b) (hk:b≤k.bits):aO .shr (.int k (a:Int)) (.int k' b)=some (.int k ((a / 2 ^ b.toNat:Nat):Int)):=by
  rw [aMW _ _ hb]
  have:min b.toNat k.bits=b.toNat:=Nat.min_eq_left (by omega)
  rw [this,Int.ofNat_fdiv]
theorem bO (k':IntKind) (a:Nat) {b:Int} (hb:0≤b) (hk:b≤64):aO .shr (.int .u64 (a:Int)) (.int k' b)=some (.int .u64 ((a / 2 ^ b.toNat:Nat):Int)):=aG9 _ _ a hb hk
theorem aG8 (k':IntKind) (a:Nat) {b:Int} (hb:0≤b) (hk:b≤64):aO .shl (.int .u64 (a:Int)) (.int k' b)=some (.int .u64 (wr .u64 ((a*2 ^ b.toNat:Nat):Int))):=by
  rw [aMV _ _ hb]
  have:min b.toNat IntKind.u64.bits=b.toNat:=Nat.min_eq_left (by have:IntKind.u64.bits=64:=rfl; omega)
  rw [this]; simp
theorem bJ (k':IntKind) {b:Int} (hb:0≤b) (hk:b < 64):aO .shl (.int .u64 1) (.int k' b)=some (.int .u64 ((2 ^ b.toNat:Nat):Int)):=by
  have h:=aG8 k' 1 hb (by omega)
  have h2:2 ^ b.toNat < 2 ^ 64:=Nat.pow_lt_pow_right (by decide) (by omega)
  have h3:(((1*2 ^ b.toNat:Nat)):Int)≤18446744073709551615:=by omega
  rw [fH (by omega) h3,Nat.one_mul] at h
  exact h
def Fr (h:T Obj) (nx:Nat):Prop:=∀ i,nx≤i→h.get i=none
theorem Fr.e:Fr .e 0:=fun _ _=>rfl
theorem Fr.mono {h:T Obj} {n m:Nat} (hf:Fr h n) (hn:n≤m):Fr h m:=fun i hi=>hf i (Nat.le_trans hn hi)
theorem Fr.upd {h:T Obj} {n m i:Nat} {o:Option Obj} (hf:Fr h n) (hn:n≤m) (hi:i < m):Fr (h.upd i o) m:=fun j hj=>by
  rw [T.get_upd_ne _ _ (by omega)]; exact hf j (by omega)
theorem Fr.sub {h h':T Obj} {n:Nat} (hf:Fr h n) (hs:Sub h' h):Fr h' n:=fun i hi=>by
  cases e:h'.get i with
  | none=>rfl
  | some o=>have:=hs i o e; rw [hf i hi] at this; cases this
theorem Sub.refl (h:T Obj):Sub h h:=fun _ _ e=>e
theorem Sub.trans {a b c:T Obj} (h1:Sub a b) (h2:Sub b c):Sub a c:=fun k o e=>h2 k o (h1 k o e)
theorem Sub.upd {h0 h:T Obj} {i:Nat} {o:Option Obj} (hs:Sub h0 h) (hi:h0.get i=none):Sub h0 (h.upd i o):=fun k x e=>by
  by_cases hk:k=i
  · subst hk; rw [hi] at e; cases e
  · rw [T.get_upd_ne _ _ hk]; exact hs k x e
theorem Sub.new {h0 h:T Obj} {n i:Nat} {o:Option Obj} (hf:Fr h0 n) (hi:n≤i) (hs:Sub h0 h):Sub h0 (h.upd i o):=hs.upd (hf i hi)
theorem bC {B:PT} {Q:KE} (Inv:Nat→Env→T Obj→Nat→Prop)
    (step:∀ n e h nx,Inv n e h nx→∀ Q':KE,(∀ m e' h' h1 nx',m < n→Inv m e' h' nx'→Sub h' h1→Q' .normal e' h1 nx')→(∀ x e' h' nx',x≠.normal→Q x e' h' nx'→Q' x e' h' nx')→B e h nx Q')
    {n:Nat} {e:Env} {h:T Obj} {nx:Nat} (h0:Inv n e h nx):dS B e h nx Q:=by
  refine ⟨n+1,?_⟩
  have key:∀ n,(∀ m,m < n→∀ k,m+1≤k→∀ e h nx,Inv m e h nx→aFm B k e h nx Q)→∀ k,n+1≤k→∀ e h nx,Inv n e h nx→aFm B k e h nx Q:=by
    intro n ih k hk e h nx hi
    cases k with
    | zero=>omega
    | succ k =>
      refine step n e h nx hi _ ?_ ?_
      · intro m e' h' h1 nx' hm hi' hs
        exact ⟨h',hs,ih m hm k (by omega) _ _ _ hi'⟩
      · intro x e' h' nx' hx hq
        cases x with
        | normal=>exact absurd rfl hx
        | exit i=>exact hq
        | ret=>exact hq
  have all:∀ n,∀ k,n+1≤k→∀ e h nx,Inv n e h nx→aFm B k e h nx Q:=by
    intro n
    induction n using Nat.strongRecOn with
    | _ n ih=>exact key n ih
  exact all n _ (Nat.le_refl _) _ _ _ h0
def aFy (o:Option Obj) (off:Nat) (vs:List Value):Option Obj:=match o with
  | some (.cells c e f)=>if off+vs.length≤c.size then (if vs.all cP=true then some (.cells (over c.toList off vs).toArray e f) else none) else none
  | _=>none
theorem bP {c:Array Value} {e:TypeId} {f:Nat × Nat} {off:Nat} {vs:List Value} (h1:off+vs.length≤c.size) (h2:vs.all cP=true):aFy (some (.cells c e f)) off vs=some (.cells (over c.toList off vs).toArray e f):=by
  simp [aFy,h1,h2]
theorem bY (n:Nat) (h:T Obj) (id off z:Nat) (v:Value):bV n h (at_ id off z) v=if v.cells.size=n then (aFy (h.get id) off v.cells.toList).bind (fun o=>some (h.upd id (some o))) else none:=by
  unfold bV aFy
  simp only [asP,Option.bind]
  by_cases hn:v.cells.size=n
  · rw [if_pos hn,hn,Nat.beq_refl]
    simp only [i5]
    cases h.get id with
    | none=>rfl
    | some o =>
      cases o<;>try rfl
      rename_i c e f
      simp only [Array.length_toList]
      by_cases hle:off+v.cells.size≤c.size
      · rw [if_pos hle,Nat.ble_eq_true_of_le hle]
        cases v.cells.toList.all cP<;>rfl
      · rw [if_neg hle]
        cases hb:Nat.ble (off+v.cells.size) c.size with
        | true=>exact absurd (Nat.le_of_ble_eq_true hb) hle
        | false=>rfl
  · rw [if_neg hn]
    cases hb:Nat.beq v.cells.size n with
    | true=>exact absurd (Nat.eq_of_beq_eq_true hb) hn
    | false=>rfl
theorem aED {l:List Value} {off:Nat} (v:Value) (h:off < l.length):over l off [v]=l.set off v:=by
  unfold over
  rw [List.set_eq_take_append_cons_drop,if_pos h]
  simp
theorem aIV {l vs:List Value} (h:vs.length=l.length):over l 0 vs=vs:=by
  unfold over
  rw [List.drop_eq_nil_of_le (by omega)]; simp
theorem tl (l:List Value):l.toArray.toList=l:=rfl
theorem ts (l:List Value):l.toArray.size=l.length:=rfl
theorem dN {h:T Obj} {id off z:Nat} {v:Value} {l:List Value} {e:TypeId} {f:Nat × Nat} (hg:h.get id=some (.cells l.toArray e f)) (hi:off < l.length) (hv:cP v=true) (hc:v.cells=#[v]) :
    bV 1 h (at_ id off z) v=some (h.upd id (some (.cells (l.set off v).toArray e f))):=by
  rw [bY,hc,hg,if_pos (show #[v].size=1 from rfl),bP (by simp; omega) (by simp [hv])]
  simp [aED v hi]
theorem lJ {h:T Obj} {id z n:Nat} {v:Value} {l vs:List Value} {e:TypeId} {f:Nat × Nat} (hg:h.get id=some (.cells l.toArray e f)) (hc:v.cells=vs.toArray) (hn:vs.length=n) (hl:l.length=n) (hv:vs.all cP=true) :
    bV n h (at_ id 0 z) v=some (h.upd id (some (.cells vs.toArray e f))):=by
  rw [bY,hc,hg,if_pos (by simpa using hn),bP (by simp; omega) (by simpa using hv)]
  simp [aIV (l:=l) (vs:=vs) (by omega)]
theorem c8 {ro:Ro} {h:T Obj} {id z n:Nat} {l:List Value} {e:TypeId} {f:Nat × Nat} (hg:h.get id=some (.cells l.toArray e f)) (hl:l.length=n):loadA ro h n (at_ id 0 z)=some (.agg l.toArray):=by
  rw [bZ,hg]
  subst hl
  simp [nL]
theorem aZ {ro:Ro} {h:T Obj} {id off z:Nat} {l:List Value} {e:TypeId} {f:Nat × Nat} {v:Value} (hg:h.get id=some (.cells l.toArray e f)) (hv:l[off]?=some v):load1 ro h (at_ id off z)=some v:=by
  rw [cI,hg]; exact hv
end V
end Go.Proofs.YtcaccnneblghgaaGreat
noncomputable section
namespace Go.Proofs.YtcaccnneblghgaaGreat
namespace V
section
variable {α:Type}
def fcN (n:Nat) (k:Nat→α):α:=match n with
  | 0=>k 0
  | m+1=>k (Nat.succ m)
theorem mR (n:Nat) (k:Nat→α):fcN n k=k n:=by cases n<;>rfl
def fcI (n:Int) (k:Int→α):α:=match n with
  | .ofNat m=>fcN m fun m=>k (.ofNat m)
  | .negSucc m=>fcN m fun m=>k (.negSucc m)
theorem aPE (n:Int) (k:Int→α):fcI n k=k n:=by cases n<;>simp [fcI,mR]
def fcA (a:Option Addr) (k:Option Addr→α):α:=match a with
  | none=>k none
  | some a=>fcN a.block fun b=>fcN a.off fun o=>match a.spot with
    | none=>k (some ⟨b,o,none⟩)
    | some z=>fcN z fun z=>k (some ⟨b,o,some z⟩)
theorem aMK (a:Option Addr) (k:Option Addr→α):fcA a k=k a:=by
  cases a with
  | none=>rfl
  | some a=>obtain ⟨b,o,s⟩:=a; cases s<;>simp [fcA,mR]
def fcB:List UInt8→(List UInt8→α)→α
  | [],k=>k []
  | b::r,k=>fcN b.toNat fun n=>fcB r fun r=>k (UInt8.ofNat n::r)
theorem aML:∀ (l:List UInt8) (k:List UInt8→α),fcB l k=k l
  | [],k=>rfl
  | b::r,k=>by rw [fcB,mR,aML r]; simp
def fcC (v:Value) (k:Value→α):α:=match v with
  | .bool b=>match b with
    | true=>k (.bool true)
    | false=>k (.bool false)
  | .int kd n=>fcI n fun n=>k (.int kd n)
  | .string s=>fcB s.data.toList fun l=>k (.string ⟨⟨l⟩⟩)
  | .pointer a=>fcA a fun a=>k (.pointer a)
  | .slice a l c=>fcA a fun a=>fcN l fun l=>fcN c fun c=>k (.slice a l c)
  | .map r=>match r with
    | none=>k (.map none)
    | some r=>fcN r fun r=>k (.map (some r))
  | v=>k v
theorem aMM (v:Value) (k:Value→α):fcC v k=k v:=by
  cases v with
  | bool b=>cases b<;>rfl
  | int kd n=>simp [fcC,aPE]
  | string s=>simp [fcC,aML]
  | pointer a=>simp [fcC,aMK]
  | slice a l c=>simp [fcC,aMK,mR]
  | map r=>cases r<;>simp [fcC,mR]
  | _=>rfl
def fcL:List Value→(List Value→α)→α
  | [],k=>k []
  | v::r,k=>fcC v fun v=>fcL r fun r=>k (v::r)
theorem aMO:∀ (l:List Value) (k:List Value→α),fcL l k=k l
  | [],k=>rfl
  | v::r,k=>by rw [fcL,aMM,aMO r]
def fcS:List Value→(List Value→α)→α
  | [],k=>k []
  | v::r,k=>fcS r fun r=>k (v::r)
theorem aG1:∀ (l:List Value) (k:List Value→α),fcS l k=k l
  | [],k=>rfl
  | v::r,k=>by rw [fcS,aG1 r]
def aJW (v:Value) (k:Value→α):α:=match v with
  | .agg cs=>fcS cs.toList fun l=>k (.agg ⟨l⟩)
  | v=>fcC v k
theorem aDG (v:Value) (k:Value→α):aJW v k=k v:=by
  cases v with
  | agg cs=>simp [aJW,aG1]
  | _=>simp only [aJW,aMM]
def aNl:List Value→(List Value→α)→α
  | [],k=>k []
  | v::r,k=>aJW v fun v=>aNl r fun r=>k (v::r)
theorem aKU:∀ (l:List Value) (k:List Value→α),aNl l k=k l
  | [],k=>rfl
  | v::r,k=>by rw [aNl,aDG,aKU r]
def fcV (v:Value) (k:Value→α):α:=match v with
  | .tuple cs=>aNl cs.toList fun l=>k (.tuple ⟨l⟩)
  | v=>aJW v k
theorem aG2 (v:Value) (k:Value→α):fcV v k=k v:=by
  cases v with
  | tuple cs=>simp [fcV,aKU]
  | _=>simp only [fcV,aDG]
def fcE:List MapEntry→(List MapEntry→α)→α
  | [],k=>k []
  | e::r,k=>aJW e.key fun a=>aJW e.val fun b=>fcN e.born fun n=>fcE r fun r=>k (⟨a,b,n⟩::r)
theorem aMN:∀ (l:List MapEntry) (k:List MapEntry→α),fcE l k=k l
  | [],k=>rfl
  | v::r,k=>by rw [fcE,aDG,aDG,mR,aMN r]
def fcO (o:Obj) (k:Obj→α):α:=match o with
  | .cells c e f=>fcS c.toList fun l=>k (.cells ⟨l⟩ e f)
  | .map es n=>fcE es.toList fun l=>fcN n fun n=>k (.map ⟨l⟩ n)
  | o=>k o
theorem aPF (o:Obj) (k:Obj→α):fcO o k=k o:=by
  cases o with
  | cells c e f=>simp [fcO,aG1]
  | map es n=>simp [fcO,aMN,mR]
  | _=>rfl
def aOC {β:Type} (o:Option β) (f:Nat):Nat→(T β→α)→α:=Nat.rec (motive:=fun _=>Nat→(T β→α)→α) (fun _ K=>K .e)
  (fun _ ih k K=>Nat.rec (motive:=fun _=>α) (K (.n .e o .e)) (fun k' _=>Bool.rec (motive:=fun _=>α) (ih (Nat.div k' 2) fun r=>K (.n .e none r)) (ih (Nat.div k' 2) fun l=>K (.n l none .e)) (Nat.beq (Nat.mod k' 2) 0)) k) f
theorem aOD {β:Type} (o:Option β):∀ (f g k:Nat) (K:T β→α),k < f→k < g→aOC o f k K=K (T.updF o g .e k):=by
  intro f
  induction f with
  | zero=>intro g k K h; omega
  | succ f ih =>
    intro g k K h1 h2
    cases g with
    | zero=>omega
    | succ g =>
      cases k with
      | zero=>rfl
      | succ k =>
        show Bool.rec (motive:=fun _=>α) (aOC o f (k / 2) fun r=>K (.n .e none r)) (aOC o f (k / 2) fun l=>K (.n l none .e)) (Nat.beq (k % 2) 0)=_
        simp only [T.updF]
        rw [ih g _ _ (by omega) (by omega),ih g _ _ (by omega) (by omega)]
        cases Nat.beq (k % 2) 0<;>rfl
def aOb {β:Type} (o:Option β) (t:T β):Nat→(T β→α)→α:=T.rec (motive:=fun _=>Nat→(T β→α)→α) (fun k K=>aOC o (Nat.succ k) k K)
  (fun l v r gl gr k K=>Nat.rec (motive:=fun _=>α) (K (.n l o r)) (fun k' _=>Bool.rec (motive:=fun _=>α) (gr (Nat.div k' 2) fun r=>K (.n l v r)) (gl (Nat.div k' 2) fun l=>K (.n l v r)) (Nat.beq (Nat.mod k' 2) 0)) k) t
theorem aOc {β:Type} (o:Option β) (t:T β):∀ (g k:Nat) (K:T β→α),k < g→aOb o t k K=K (T.updF o g t k):=by
  induction t with
  | e=>intro g k K h; exact aOD o _ g k K (Nat.lt_succ_self _) h
  | n l v r ihl ihr =>
    intro g k K h
    cases g with
    | zero=>omega
    | succ g =>
      cases k with
      | zero=>rfl
      | succ k =>
        show Bool.rec (motive:=fun _=>α) (aOb o r (k / 2) fun r=>K (.n l v r)) (aOb o l (k / 2) fun l=>K (.n l v r)) (Nat.beq (k % 2) 0)=_
        simp only [T.updF]
        rw [ihl g _ _ (by omega),ihr g _ _ (by omega)]
        cases Nat.beq (k % 2) 0<;>rfl
def upK {β:Type} (t:T β) (k:Nat) (o:Option β) (K:T β→α):α:=aOb o t k K
theorem aCX {β:Type} (t:T β) (k:Nat) (o:Option β) (K:T β→α):upK t k o K=K (t.upd k o):=aOc o t _ k K (Nat.lt_succ_self _)
end
def bB {α:Type} (o:Option α) (K:α→Bool):Bool:=match o with
  | some a=>K a
  | none=>false
theorem fC {α:Type} {o:Option α} {K:α→Bool} (h:bB o K=true):∃ a,o=some a∧K a=true:=by
  cases o with
  | none=>cases h
  | some a=>exact ⟨a,rfl,h⟩
abbrev KB:=Value→T Obj→Nat→Bool
abbrev qH:=FuncId→List Value→T Obj→Nat→KB→Bool
def aJ3 (less:Bool):Value→List Value→Option Value
  | .int k x,[]=>some (.int k x)
  | .int k x,.int k' y::r=>aJ3 less (.int k (match less,decide (y < x),decide (x < y) with
    | true,true,_=>y
    | true,false,_=>x
    | false,_,true=>y
    | false,_,false=>x)) r
  | _,_=>none
termination_by structural _ l=>l
theorem aK0 (less:Bool):∀ (l:List Value) (v:Value),vR less (v::l)=aJ3 less v l:=by
  intro l
  induction l with
  | nil=>intro v; cases v<;>simp [vR,aJ3]
  | cons y r ih =>
    intro v
    cases v<;>cases y<;>(conv=>lhs; unfold vR)<;>simp only [aJ3,ih]
    rename_i k1 n1 k2 n2
    cases less<;>cases decide (n2 < n1)<;>cases decide (n1 < n2)<;>rfl
def aMh (less:Bool):List Value→Option Value
  | []=>none
  | v::l=>aJ3 less v l
theorem aGg (less:Bool) (l:List Value):vR less l=aMh less l:=by
  cases l with
  | nil=>simp [vR,aMh]
  | cons v l=>exact aK0 less l v
def aOH (P:Program) (ro:Ro) (t:T Value) (h:T Obj) (aid:Nat) (op:Op):Option (Value × Option Obj):=match op with
  | .call { callee:=.builtin .min,args,.. }=>(wP t args.toList).bind fun vs=>(aMh true vs).bind fun v=>some (v,none)
  | .call { callee:=.builtin .max,args,.. }=>(wP t args.toList).bind fun vs=>(aMh false vs).bind fun v=>some (v,none)
  | op=>opQ P ro t h aid op
theorem aOI (P:Program) (ro:Ro) (t:T Value) (h:T Obj) (aid:Nat) (op:Op):aOH P ro t h aid op=opQ P ro t h aid op:=by
  unfold aOH
  split
  · simp only [opQ,fO,aGg]
  · simp only [opQ,fO,aGg]
  · rfl
def aFL:List Value→Nat→List Value→(List Value→Bool)→Bool
  | l,0,[],k=>k l
  | _::r,0,v::vs,k=>aFL r 0 vs fun r=>k (v::r)
  | [],0,_::_,_=>false
  | x::r,n+1,vs,k=>fcN n fun n=>aFL r n vs fun r=>k (x::r)
  | [],_+1,_,_=>false
theorem aGu:∀ (l:List Value) (n:Nat) (vs:List Value) (k:List Value→Bool),aFL l n vs k=if n+vs.length≤l.length then k (over l n vs) else false
  | [],0,[],k=>by simp [aFL,over]
  | x::r,0,[],k=>by simp [aFL,over]
  | x::r,0,v::vs,k=>by
    rw [aFL,aGu r 0 vs]
    simp [over]
  | [],0,_::_,k=>by simp [aFL]
  | x::r,n+1,vs,k=>by
    rw [aFL,mR,aGu r n vs]
    have e:n+1+vs.length≤(x::r).length ↔ n+vs.length≤r.length:=by simp; omega
    by_cases h:n+vs.length≤r.length
    · rw [if_pos h,if_pos (e.2 h)]
      have:n+1+vs.length=(n+vs.length)+1:=by omega
      simp [over,this]
    · rw [if_neg h,if_neg (fun h2=>h (e.1 h2))]
  | [],n+1,vs,k=>by simp [aFL]
def aBh (h:T Obj) (a:Addr) (vs:List Value) (K:T Obj→Bool):Bool :=
  match a.spot with
  | none=>false
  | some _=>match h.get a.block with
    | some (.cells c e f)=>match vs.all cP with
      | true=>aFL c.toList a.off vs fun l=>upK h a.block (some (.cells ⟨l⟩ e f)) K
      | false=>false
    | _=>false
theorem aCj {h:T Obj} {a:Addr} {vs:List Value} {K:T Obj→Bool}:aBh h a vs K=bB (i5 h a vs) K:=by
  unfold aBh i5
  cases a.spot with
  | none=>rfl
  | some z =>
    cases h.get a.block with
    | none=>rfl
    | some o =>
      cases o<;>try rfl
      simp only [aGu,aCX,Array.length_toList]
      rename_i c e f
      by_cases hb:a.off+vs.length≤c.size
      · rw [if_pos hb,Nat.ble_eq_true_of_le hb]
        cases vs.all cP<;>rfl
      · rw [if_neg hb]
        have:Nat.ble (a.off+vs.length) c.size=false:=by
          cases hq:Nat.ble (a.off+vs.length) c.size with
          | false=>rfl
          | true=>exact absurd (Nat.le_of_ble_eq_true hq) hb
        rw [this]
        cases vs.all cP<;>rfl
def aOF:List Value→Nat→(Value→Bool)→Bool
  | x::_,0,k=>k x
  | _::r,n+1,k=>aOF r n k
  | [],_,_=>false
theorem aK1:∀ (l:List Value) (n:Nat) (k:Value→Bool),aOF l n k=bB l[n]? k
  | x::_,0,k=>rfl
  | _::r,n+1,k=>by rw [aOF,aK1 r n]; rfl
  | [],n,k=>by cases n<;>rfl
def aQL (l:List Value):Nat→(Value→Bool)→Bool:=List.rec (motive:=fun _=>Nat→(Value→Bool)→Bool) (fun _ _=>false) (fun x _ ih n k=>Nat.rec (motive:=fun _=>Bool) (k x) (fun m _=>ih m k) n) l
theorem aK2:∀ (l:List Value) (n:Nat) (k:Value→Bool),aQL l n k=aOF l n k
  | [],n,k=>rfl
  | x::_,0,k=>rfl
  | _::r,n+1,k=>aK2 r n k
def aEk:List Value→Nat→(List Value→Bool)→Bool
  | _,0,k=>k []
  | x::r,n+1,k=>aEk r n fun r=>k (x::r)
  | [],_+1,_=>false
theorem aEl:∀ (l:List Value) (n:Nat) (k:List Value→Bool),aEk l n k=if n≤l.length then k (l.take n) else false
  | l,0,k=>by cases l<;>simp [aEk]
  | x::r,n+1,k=>by
    rw [aEk,aEl r n]
    by_cases h:n≤r.length
    · rw [if_pos h,if_pos (by simp; omega)]; simp
    · rw [if_neg h,if_neg (by simp; omega)]
  | [],n+1,k=>by simp [aEk]
def aKY:List Value→Nat→Bool
  | [],0=>true
  | _::r,n+1=>aKY r n
  | _,_=>false
theorem aHw:∀ {l:List Value} {n:Nat},aKY l n=true→l.length=n
  | [],0,_=>rfl
  | _::r,n+1,h=>by rw [List.length_cons,aHw (l:=r) h]
  | [],_+1,h=>by cases h
  | _::_,0,h=>by cases h
def aFi:List Value→Nat→(List Value→Bool)→Bool
  | l,0,k=>k l
  | _::r,n+1,k=>aFi r n k
  | [],_+1,_=>false
theorem aHd:∀ (l:List Value) (n:Nat) (k:List Value→Bool),aFi l n k=if n≤l.length then k (l.drop n) else false
  | l,0,k=>by cases l<;>simp [aFi]
  | _::r,n+1,k=>by
    rw [aFi,aHd r n]
    by_cases h:n≤r.length
    · rw [if_pos h,if_pos (by simp; omega)]; rfl
    · rw [if_neg h,if_neg (by simp; omega)]
  | [],n+1,k=>by simp [aFi]
def aJJ (ro:Ro) (h:T Obj) (a:Addr) (n:Nat) (K:List Value→Bool):Bool :=
  match a.spot with
  | none=>bB (cellsAt ro h a n) K
  | some _=>match h.get a.block with
    | some (.cells c _ _)=>match a.off with
      | 0=>match aKY c.toList n with
        | true=>K c.toList
        | false=>aEk c.toList n K
      | off+1=>aFi c.toList (Nat.succ off) fun l=>aEk l n K
    | _=>false
theorem aKq {ro:Ro} {h:T Obj} {a:Addr} {n:Nat} {K:List Value→Bool}:aJJ ro h a n K=bB (cellsAt ro h a n) K:=by
  unfold aJJ cellsAt
  cases a.spot with
  | none=>rfl
  | some z =>
    cases h.get a.block with
    | none=>rfl
    | some o =>
      cases o<;>try rfl
      rename_i c e f
      have key:(if a.off+n≤c.size then K ((c.toList.drop a.off).take n) else false)=bB (match Nat.ble (a.off+n) c.size with | true=>some ((c.toList.drop a.off).take n) | false=>none) K:=by
        by_cases hb:a.off+n≤c.size
        · rw [if_pos hb,Nat.ble_eq_true_of_le hb]; rfl
        · rw [if_neg hb]
          have:Nat.ble (a.off+n) c.size=false:=by
            cases hq:Nat.ble (a.off+n) c.size with
            | false=>rfl
            | true=>exact absurd (Nat.le_of_ble_eq_true hq) hb
          rw [this]; rfl
      refine Eq.trans ?_ key
      simp only
      cases ho:a.off with
      | zero =>
        simp only [Nat.zero_add,List.drop_zero]
        cases hl:aKY c.toList n with
        | true =>
          have:=aHw hl
          rw [if_pos (by simpa using Nat.le_of_eq this.symm),List.take_of_length_le (by omega)]
        | false=>simp only [aEl,Array.length_toList]
      | succ off =>
        simp only [aHd,aEl,List.length_drop,Array.length_toList]
        by_cases h1:off+1≤c.size
        · rw [if_pos h1]
          by_cases h2:n≤c.size - (off+1)
          · rw [if_pos h2,if_pos (by omega)]
          · rw [if_neg h2,if_neg (by omega)]
        · rw [if_neg h1,if_neg (by omega)]
def aMc (P:Program) (ro:Ro) (h:T Obj) (t:TypeId) (a:Addr) (K:Value→Bool):Bool :=
  match isAgg P t with
  | some true=>bB (siz P t) fun n=>aJJ ro h a n fun l=>K (.agg ⟨l⟩)
  | some false=>match a.spot with
    | none=>bB (m5 P ro h t a) K
    | some _=>match h.get a.block with
      | some (.cells c _ _)=>aQL c.toList a.off K
      | _=>false
  | none=>false
theorem aMd {P:Program} {ro:Ro} {h:T Obj} {t:TypeId} {a:Addr} {K:Value→Bool}:aMc P ro h t a K=bB (m5 P ro h t a) K:=by
  obtain ⟨b,o,s⟩:=a
  unfold aMc
  cases hi:isAgg P t with
  | none=>simp only [m5,hi]; rfl
  | some x =>
    cases x with
    | true =>
      simp only [m5,hi]
      cases siz P t with
      | none=>rfl
      | some n =>
        simp only [bB,Option.bind_some]
        rw [aKq]
        cases cellsAt ro h ⟨b,o,s⟩ n<;>rfl
    | false =>
      cases s with
      | none=>rfl
      | some z =>
        simp only
        have e:m5 P ro h t ⟨b,o,some z⟩=load1 ro h (at_ b o z):=by
          simp only [m5,hi]; rfl
        rw [e,cI]
        cases h.get b with
        | none=>rfl
        | some x =>
          cases x<;>try rfl
          simp only [aK2,aK1]; rfl
def aJw (P:Program) (h:T Obj) (t:TypeId) (a v:Value) (K:T Obj→Bool):Bool :=
  match a with
  | .pointer (some a)=>bB (siz P t) fun n=>match Nat.beq v.cells.size n with
    | true=>aBh h a v.cells.toList K
    | false=>false
  | _=>false
theorem aLa {P:Program} {h:T Obj} {t:TypeId} {a v:Value} {K:T Obj→Bool}:aJw P h t a v K=bB (zH P h t a v) K:=by
  unfold aJw zH
  cases a<;>try rfl
  rename_i a
  cases a with
  | none=>rfl
  | some a =>
    cases siz P t with
    | none=>rfl
    | some n =>
      simp only [bB,Option.bind]
      cases Nat.beq v.cells.size n with
      | true=>exact aCj
      | false=>rfl
def apB (r:Value × T Obj × Nat) (K:KB):Bool:=fcV r.1 fun v=>fcN r.2.2 fun n=>K v r.2.1 n
theorem aOw (r:Value × T Obj × Nat) (K:KB):apB r K=K r.1 r.2.1 r.2.2:=by simp [apB,aG2,mR]
def aGM (P:Program) (ro:Ro) (h:T Obj) (nx:Nat) (ts:Array TypeId) (vs:List Value) (K:KB):Bool :=
  match ts[0]?,ts[1]?,vs with
  | some t0,some t1,[.slice base len cap,x]=>match und P t0 with
    | some (.slice e)=>bB (tin P e) fun i=>bB (aAD P ro h e i.size i.bytes t1 x) fun s =>
      match Nat.ble (len+s.1) cap with
      | true=>match s.1 with
        | 0=>K (.slice base len cap) h nx
        | _+1=>match base with
          | none=>false
          | some a=>match a.spot with
            | none=>false
            | some z=>match Nat.beq z i.size with
              | true=>aBh h (fwd a (len*i.size)) s.2 fun h=>fcN (len+s.1) fun n=>K (.slice base n cap) h nx
              | false=>false
      | false=>bB (zer P e) fun zv=>match Nat.ble ((len+s.1)*i.bytes) big,Nat.ble (len+s.1) big,Nat.blt 0 i.size,Nat.beq zv.cells.size i.size&&s.2.all cP with
        | true,true,true,true=>bB (aIO ro h i.size base len) fun p =>
            fcS (p.1++s.2) fun l=>fcN (len+s.1) fun n=>upK p.2 nx (some (.cells ⟨l⟩ e)) fun h=>fcN (nx+1) fun nx'=>K (.slice (some (own nx i.size)) n n) h nx'
        | _,_,_,_=>false
    | _=>false
  | _,_,_=>false
theorem aJD {P:Program} {ro:Ro} {h:T Obj} {nx:Nat} {ts:Array TypeId} {vs:List Value} {K:KB}:aGM P ro h nx ts vs K=bB (cR P ro h nx ts vs) fun r=>K r.1 r.2.1 r.2.2:=by
  unfold aGM cR
  cases ts[0]? with
  | none=>rfl
  | some t0 =>
    cases ts[1]? with
    | none=>rfl
    | some t1 =>
      match vs with
      | [.slice base len cap,x] =>
        simp only
        cases und P t0 with
        | none=>rfl
        | some d =>
          cases d<;>try rfl
          rename_i e
          simp only
          cases tin P e with
          | none=>rfl
          | some i =>
            simp only [bB,Option.bind_some]
            cases aAD P ro h e i.size i.bytes t1 x with
            | none=>rfl
            | some s =>
              simp only [Option.bind_some]
              cases Nat.ble (len+s.1) cap with
              | true =>
                simp only
                cases s.1 with
                | zero=>rfl
                | succ q =>
                  cases base with
                  | none=>rfl
                  | some a =>
                    simp only
                    cases a.spot with
                    | none=>rfl
                    | some z =>
                      simp only
                      cases Nat.beq z i.size with
                      | true =>
                        simp only [aCj,mR]
                        cases i5 h (fwd a (len*i.size)) s.2<;>rfl
                      | false=>rfl
              | false =>
                simp only
                cases zer P e with
                | none=>rfl
                | some zv =>
                  simp only [Option.bind_some]
                  cases Nat.ble ((len+s.1)*i.bytes) big<;>cases Nat.ble (len+s.1) big<;>cases Nat.blt 0 i.size<;>cases Nat.beq zv.cells.size i.size&&s.2.all cP<;>try rfl
                  simp only
                  cases aIO ro h i.size base len with
                  | none=>rfl
                  | some p=>simp only [aG1,mR,aCX]; rfl
      | []=>rfl
      | [v]=>cases v<;>rfl
      | .bool _::_::_ | .int _ _::_::_ | .float _ _::_::_ | .complex _ _ _::_::_ | .string _::_::_ | .pointer _::_::_ | .map _::_::_ | .chan _::_::_ | .func _ _ _::_::_ | .nilFunc::_::_ | .iface _ _::_::_ | .nilIface::_::_ | .agg _::_::_ | .tuple _::_::_=>rfl
      | .slice _ _ _::_::_::_=>rfl
def aQN (P:Program) (ro:Ro) (C:qH) (t:T Value) (h:T Obj) (nx:Nat) (op:Op) (K:KB):Bool :=
  match op with
  | .store ty a x=>bB (evl t a) fun av=>bB (evl t x) fun xv=>aJw P h ty av xv fun h'=>K undef h' nx
  | .mapUpdate ty m k x | .insert ty m k x=>bB (evl t m) fun mv=>bB (evl t k) fun kv=>bB (evl t x) fun xv=>bB (vQ P h ty mv kv xv) fun h'=>K undef h' nx
  | .call { callee:=.builtin b,args,argTypes }=>bB (wP t args.toList) fun vs=>match b with
    | .append=>aGM P ro h nx argTypes vs K
    | .copy=>bB (aD1 P ro h nx argTypes vs) fun r=>apB r K
    | .clear=>match vs,argTypes[0]? with
      | [m],some ty=>bB (und P ty) fun _=>bB (aAc h m) fun h=>K (.tuple #[]) h nx
      | _,_=>false
    | _=>false
  | .call { callee:=.value f,args,.. }=>bB (evl t f) fun f=>bB (wP t args.toList) fun vs=>match f with
    | .func (.func k) a b=>C k (a.toList++vs++b.toList) h nx K
    | _=>false
  | .convert s d x=>bB (evl t x) fun v=>bB (uK P h s d v) fun r=>K r.1 r.2 nx
  | _=>false
def aN8 (h:T Obj) (id:Nat) (o:Option Obj) (K:T Obj→Bool):Bool:=match o with
  | none=>K h
  | some o=>fcO o fun o=>upK h id (some o) K
theorem aN9 (h:T Obj) (id:Nat) (o:Option Obj) (K:T Obj→Bool):aN8 h id o K=K (aA3 h id o):=by
  cases o with
  | none=>rfl
  | some o=>simp [aN8,aA3,aPF,aCX]
def aMv (P:Program) (ro:Ro) (C:qH) (t:T Value) (h:T Obj) (nx aid:Nat) (op:Op) (K:KB):Bool :=
  match gO op with
  | true=>aQN P ro C t h nx op K
  | false=>match op with
    | .load ty x=>bB (evl t x) fun v=>match v with
      | .pointer (some a)=>aMc P ro h ty a fun v=>K v h nx
      | _=>false
    | .move x=>bB (evl t x) fun v=>K v h nx
    | .assign x=>bB (evl t x) fun v=>K v h nx
    | op=>bB (aOH P ro t h aid op) fun r=>fcV r.1 fun v=>aN8 h aid r.2 fun h'=>K v h' nx
def aI4 (n:Nat) (t:T Value) (dst:Option Tmp) (v:Value) (K:T Value→Bool):Bool :=
  match dst with
  | none=>K t
  | some d=>match Nat.blt d n with
    | true=>upK t d (some v) K
    | false=>false
theorem zV {n:Nat} {t:T Value} {dst:Option Tmp} {v:Value} {K:T Value→Bool} (h:aI4 n t dst v K=true):∃ t',put n t dst v=some t'∧K t'=true:=by
  unfold aI4 at h
  cases dst with
  | none=>exact ⟨t,rfl,h⟩
  | some d =>
    simp only at h
    split at h
    · rename_i hb
      rw [aCX] at h
      exact ⟨_,by simp only [put]; rw [hb],h⟩
    · cases h
def aJ8 (P:Program) (ro:Ro) (C:qH) (n:Nat) (ops:Array Oper):List Oper→T Value→T Obj→Nat→(T Value→T Obj→Nat→Bool)→Bool
  | [],t,h,nx,Q=>Q t h nx
  | o::r,t,h,nx,Q=>match wanted ops t o with
    | true=>fcN (nx+1) fun nx1=>aMv P ro C t h nx1 nx o.op fun v h' nx'=>aI4 n t o.dst v fun t'=>aJ8 P ro C n ops r t' h' nx' Q
    | false=>aI4 n t o.dst undef fun t'=>aJ8 P ro C n ops r t' h nx Q
def aP9 (P:Program) (ro:Ro) (C:qH) (n:Nat) (ops:Array Oper) (l:List Oper):T Value→T Obj→Nat→(T Value→T Obj→Nat→Bool)→Bool:=List.rec (motive:=fun _=>T Value→T Obj→Nat→(T Value→T Obj→Nat→Bool)→Bool) (fun t h nx Q=>Q t h nx)
  (fun o _ ih t h nx Q=>Bool.rec (motive:=fun _=>Bool) (aI4 n t o.dst undef fun t'=>ih t' h nx Q) (fcN (nx+1) fun nx1=>aMv P ro C t h nx1 nx o.op fun v h' nx'=>aI4 n t o.dst v fun t'=>ih t' h' nx' Q) (wanted ops t o)) l
theorem aK3 (P:Program) (ro:Ro) (C:qH) (n:Nat) (ops:Array Oper):∀ l:List Oper,aP9 P ro C n ops l=aJ8 P ro C n ops l
  | []=>rfl
  | o::r=>by
    funext t h nx Q
    have ih:=aK3 P ro C n ops r
    simp only [aJ8]
    rw [← ih]
    show Bool.rec (motive:=fun _=>Bool) _ _ (wanted ops t o)=_
    cases wanted ops t o<;>rfl
def aN7 (a b:Option Addr):Bool:=match a,b with
  | none,none=>true
  | some a,some b=>Nat.beq a.block b.block&&Nat.beq a.off b.off&&(match a.spot,b.spot with
    | none,none=>true
    | some x,some y=>Nat.beq x y
    | _,_=>false)
  | _,_=>false
theorem aKD {a b:Option Addr} (h:aN7 a b=true):a=b:=by
  unfold aN7 at h
  split at h
  · rfl
  · rename_i a b
    obtain ⟨b1,o1,s1⟩:=a
    obtain ⟨b2,o2,s2⟩:=b
    simp only [Bool.and_eq_true] at h
    obtain ⟨⟨h1,h2⟩,h3⟩:=h
    have:=Nat.eq_of_beq_eq_true h1
    have:=Nat.eq_of_beq_eq_true h2
    subst_vars
    split at h3
    · simp_all
    · have:=Nat.eq_of_beq_eq_true h3; simp_all
    · cases h3
  · cases h
def aGT (a b:Value):Bool:=match a,b with
  | .bool x,.bool y=>x==y
  | .int k x,.int k' y=>decide (k=k')&&decide (x=y)
  | .string x,.string y=>x.data.toList==y.data.toList
  | .pointer x,.pointer y=>aN7 x y
  | .slice x l c,.slice y l' c'=>aN7 x y&&Nat.beq l l'&&Nat.beq c c'
  | .map none,.map none=>true
  | .map (some x),.map (some y)=>Nat.beq x y
  | .nilFunc,.nilFunc=>true
  | .nilIface,.nilIface=>true
  | _,_=>false
theorem aFg {a b:Value} (h:aGT a b=true):a=b:=by
  unfold aGT at h
  split at h
  · simp_all
  · simp_all
  · rename_i x y
    obtain ⟨⟨x⟩⟩:=x
    obtain ⟨⟨y⟩⟩:=y
    simp_all
  · rw [aKD h]
  · simp only [Bool.and_eq_true] at h
    obtain ⟨⟨h1,h2⟩,h3⟩:=h
    rw [aKD h1,Nat.eq_of_beq_eq_true h2,Nat.eq_of_beq_eq_true h3]
  · rfl
  · rw [Nat.eq_of_beq_eq_true h]
  · rfl
  · rfl
  · cases h
def aBF:List Value→List Value→Bool
  | [],[]=>true
  | a::r,b::s=>aGT a b&&aBF r s
  | _,_=>false
theorem aAb:∀ {l m:List Value},aBF l m=true→l=m
  | [],[],_=>rfl
  | a::r,b::s,h=>by
    simp only [aBF,Bool.and_eq_true] at h
    rw [aFg h.1,aAb h.2]
  | [],_::_,h=>by cases h
  | _::_,[],h=>by cases h
def aBB (a b:Value):Bool:=match a,b with
  | .agg x,.agg y=>aBF x.toList y.toList
  | a,b=>aGT a b
theorem u7 {a b:Value} (h:aBB a b=true):a=b:=by
  unfold aBB at h
  split at h
  · rename_i x y
    obtain ⟨x⟩:=x
    obtain ⟨y⟩:=y
    have:=aAb h
    simp_all
  · exact aFg h
def aKQ:List MapEntry→List MapEntry→Bool
  | [],[]=>true
  | a::r,b::s=>aBB a.key b.key&&aBB a.val b.val&&Nat.beq a.born b.born&&aKQ r s
  | _,_=>false
theorem aHe:∀ {l m:List MapEntry},aKQ l m=true→l=m
  | [],[],_=>rfl
  | a::r,b::s,h=>by
    simp only [aKQ,Bool.and_eq_true] at h
    obtain ⟨a1,a2,a3⟩:=a
    obtain ⟨b1,b2,b3⟩:=b
    have h1:=u7 h.1.1.1
    have h2:=u7 h.1.1.2
    have h3:=Nat.eq_of_beq_eq_true h.1.2
    have h4:=aHe h.2
    simp only at h1 h2 h3
    subst h1; subst h2; subst h3; rw [h4]
  | [],_::_,h=>by cases h
  | _::_,[],h=>by cases h
def aIN (a b:Option Obj):Bool:=match a,b with
  | some (.cells x e f),some (.cells y e' f')=>Nat.beq e e'&&(Nat.beq f.1 f'.1&&Nat.beq f.2 f'.2)&&aBF x.toList y.toList
  | some (.map x n),some (.map y n')=>Nat.beq n n'&&aKQ x.toList y.toList
  | _,_=>false
theorem aDz {a b:Option Obj} (h:aIN a b=true):a=b∧a.isSome=true:=by
  unfold aIN at h
  split at h
  · rename_i x e f y e' f'
    obtain ⟨x⟩:=x
    obtain ⟨y⟩:=y
    obtain ⟨f1,f2⟩:=f
    obtain ⟨f1',f2'⟩:=f'
    simp only [Bool.and_eq_true] at h
    have h1:e=e':=Nat.eq_of_beq_eq_true h.1.1
    have h2:f1=f1':=Nat.eq_of_beq_eq_true h.1.2.1
    have h3:f2=f2':=Nat.eq_of_beq_eq_true h.1.2.2
    have h4:x=y:=aAb h.2
    subst h1; subst h2; subst h3; subst h4; exact ⟨rfl,rfl⟩
  · rename_i x n y n'
    obtain ⟨x⟩:=x
    obtain ⟨y⟩:=y
    simp only [Bool.and_eq_true] at h
    have h1:n=n':=Nat.eq_of_beq_eq_true h.1
    have h2:x=y:=aHe h.2
    subst h1; subst h2; exact ⟨rfl,rfl⟩
  · cases h
def aNI (b:Nat) (h h':T Obj):Bool:=aIN (h.get b) (h'.get b)
theorem aE6 {b:Nat} {h h':T Obj} (e:aNI b h h'=true):same b h h':=aDz e
def aLl (b:List Nat) (i:Nat) (h h':T Obj):List (Nat × Nat)→Bool
  | []=>true
  | l::r=>match uM b l.1 i with
    | true=>aNI l.2 h h'&&aLl b i h h' r
    | false=>aLl b i h h' r
theorem aDP {b:List Nat} {i:Nat} {h h':T Obj}:∀ {ls:List (Nat × Nat)},aLl b i h h' ls=true→∀ l∈ls,uM b l.1 i=true→same l.2 h h'
  | [],_,l,hl,_=>by cases hl
  | a::r,e,l,hl,hf=>by
    unfold aLl at e
    rcases List.mem_cons.1 hl with rfl | hl
    · rw [hf] at e
      simp only [Bool.and_eq_true] at e
      exact aE6 e.1
    · split at e
      · simp only [Bool.and_eq_true] at e
        exact aDP e.2 l hl hf
      · exact aDP e l hl hf
def aLm (b:List Nat) (i a:Nat):List (Nat × T Obj × T Obj)→Bool
  | []=>true
  | m::r=>match uM b m.1 i with
    | true=>aNI a m.2.1 m.2.2&&aLm b i a r
    | false=>aLm b i a r
theorem aDQ {b:List Nat} {i a:Nat}:∀ {ms:List (Nat × T Obj × T Obj)},aLm b i a ms=true→∀ m∈ms,uM b m.1 i=true→same a m.2.1 m.2.2
  | [],_,l,hl,_=>by cases hl
  | x::r,e,l,hl,hf=>by
    unfold aLm at e
    rcases List.mem_cons.1 hl with rfl | hl
    · rw [hf] at e
      simp only [Bool.and_eq_true] at e
      exact aE6 e.1
    · split at e
      · simp only [Bool.and_eq_true] at e
        exact aDQ e.2 l hl hf
      · exact aDQ e l hl hf
def aB6 (P:Program) (ro:Ro) (C:qH) (n:Nat) (ops:Array Oper) (b:List Nat) (n0:Nat):List Oper→Nat→List (Nat × Nat)→List (Nat × T Obj × T Obj)→T Value→T Obj→Nat→(T Value→T Obj→Nat→Bool)→Bool
  | [],_,_,_,t,h,nx,Q=>Q t h nx
  | o::r,i,ls,ms,t,h,nx,Q=>match wanted ops t o with
    | true=>fcN (n0+i) fun aid=>aMv P ro C t h nx aid o.op fun v h' nx'=>aI4 n t o.dst v fun t'=>match gO o.op with
      | true=>aLl b i h h' ls&&aB6 P ro C n ops b n0 r (i+1) ls ((i,h,h')::ms) t' h' nx' Q
      | false=>match rdB P t o.op with
        | some a=>aLm b i a ms&&aB6 P ro C n ops b n0 r (i+1) ((i,a)::ls) ms t' h' nx' Q
        | none=>aB6 P ro C n ops b n0 r (i+1) ls ms t' h' nx' Q
    | false=>aI4 n t o.dst undef fun t'=>aB6 P ro C n ops b n0 r (i+1) ls ms t' h nx Q
def aGP (ops:Array Oper):List Nat:=CheckFast.beforeL ops.toList 0 []
theorem aNb (ops:Array Oper):aGP ops=(bef ops).toList:=by
  have:=CheckFast.beforeF_eq ops
  unfold aGP bef
  rw [← this]; rfl
abbrev QB:=Ex→T Value→T Obj→Nat→Bool
def aIF (B:T Value→T Obj→Nat→QB→Bool):Nat→T Value→T Obj→Nat→QB→Bool
  | 0,_,_,_,_=>false
  | k+1,t,h,nx,Q=>B t h nx fun x t h nx=>match x with
    | .normal=>aIF B k t h nx Q
    | .exit i=>Q (.exit i) t h nx
    | .ret=>Q .ret t h nx
def qK (P:Program) (ro:Ro) (C:qH) (n:Nat):Code→T Value→T Obj→Nat→QB→Bool
  | .skip,t,h,nx,Q=>Q .normal t h nx
  | .label _,t,h,nx,Q=>Q .normal t h nx
  | .ret,t,h,nx,Q=>Q .ret t h nx
  | .exit id,t,h,nx,Q=>Q (.exit id) t h nx
  | .seq a b,t,h,nx,Q=>qK P ro C n a t h nx fun x t h nx=>match x with
    | .normal=>qK P ro C n b t h nx Q
    | .exit i=>Q (.exit i) t h nx
    | .ret=>Q .ret t h nx
  | .cond c a b,t,h,nx,Q=>bB (evl t c) fun v=>match v with
    | .bool true=>qK P ro C n a t h nx Q
    | .bool false=>qK P ro C n b t h nx Q
    | _=>false
  | .block id b,t,h,nx,Q=>qK P ro C n b t h nx fun x t h nx=>match x with
    | .normal=>Q .normal t h nx
    | .exit i=>match Nat.beq i id with
      | true=>Q .normal t h nx
      | false=>Q (.exit i) t h nx
    | .ret=>Q .ret t h nx
  | .loop b,t,h,nx,Q=>aIF (qK P ro C n b) 100000 t h nx Q
  | .scope b,t,h,nx,Q=>qK P ro C n b t h nx Q
  | .region _ ops draw,t,h,nx,Q=>match draw with
    | false=>aJ8 P ro C n ops ops.toList t h nx (Q .normal)
    | true=>match vH P ops (aGP ops) with
      | true=>fcN (nx+ops.size) fun nx'=>aB6 P ro C n ops (aGP ops) nx ops.toList 0 [] [] t h nx' (Q .normal)
      | false=>false
  | _,_,_,_,_=>false
def aBI (P:Program) (ro:Ro) (C:qH) (n:Nat) (c:Code):T Value→T Obj→Nat→QB→Bool:=Code.rec (motive:=fun _=>T Value→T Obj→Nat→QB→Bool)
  (fun t h nx Q=>Q .normal t h nx)
  (fun _ ops draw t h nx Q=>Bool.rec (motive:=fun _=>Bool) (aP9 P ro C n ops ops.toList t h nx (Q .normal))
    (Bool.rec (motive:=fun _=>Bool) false (fcN (nx+ops.size) fun nx'=>aB6 P ro C n ops (aGP ops) nx ops.toList 0 [] [] t h nx' (Q .normal)) (vH P ops (aGP ops))) draw)
  (fun _ _ ia ib t h nx Q=>ia t h nx fun x t h nx=>Ex.rec (motive:=fun _=>Bool) (ib t h nx Q) (fun i=>Q (.exit i) t h nx) (Q .ret t h nx) x)
  (fun c _ _ ia ib t h nx Q=>bB (evl t c) fun v=>match v with
    | .bool true=>ia t h nx Q
    | .bool false=>ib t h nx Q
    | _=>false)
  (fun id _ ib t h nx Q=>ib t h nx fun x t h nx=>Ex.rec (motive:=fun _=>Bool) (Q .normal t h nx) (fun i=>Bool.rec (motive:=fun _=>Bool) (Q (.exit i) t h nx) (Q .normal t h nx) (Nat.beq i id)) (Q .ret t h nx) x)
  (fun _ ib t h nx Q=>aIF ib 100000 t h nx Q)
  (fun _ _ _ _ _ _ _ _ _ _=>false)
  (fun id t h nx Q=>Q (.exit id) t h nx)
  (fun _ ib t h nx Q=>ib t h nx Q)
  (fun _ t h nx Q=>Q .normal t h nx)
  (fun _ _ _ _ _=>false)
  (fun t h nx Q=>Q .ret t h nx) (fun _ _ _ _ _=>false) c
theorem aLy (P:Program) (ro:Ro) (C:qH) (n:Nat) (c:Code):aBI P ro C n c=qK P ro C n c:=by
  induction c with
  | skip=>rfl
  | region id ops draw =>
    funext t h nx Q
    show Bool.rec (motive:=fun _=>Bool) (aP9 P ro C n ops ops.toList t h nx (Q .normal)) (Bool.rec (motive:=fun _=>Bool) false (fcN (nx+ops.size) fun nx'=>aB6 P ro C n ops (aGP ops) nx ops.toList 0 [] [] t h nx' (Q .normal)) (vH P ops (aGP ops))) draw=_
    rw [aK3]
    simp only [qK]
    cases draw with
    | false=>rfl
    | true=>cases vH P ops (aGP ops)<;>rfl
  | seq a b iha ihb =>
    funext t h nx Q
    show (aBI P ro C n a t h nx fun x t h nx=>Ex.rec (motive:=fun _=>Bool) (aBI P ro C n b t h nx Q) (fun i=>Q (.exit i) t h nx) (Q .ret t h nx) x)=_
    rw [iha,ihb]
    simp only [qK]
    congr 1
    funext x t h nx
    cases x<;>rfl
  | cond c a b iha ihb =>
    funext t h nx Q
    show (bB (evl t c) fun v=>match v with
      | .bool true=>aBI P ro C n a t h nx Q
      | .bool false=>aBI P ro C n b t h nx Q
      | _=>false)=_
    rw [iha,ihb]
    simp only [qK]
  | block id b ihb =>
    funext t h nx Q
    show (aBI P ro C n b t h nx fun x t h nx=>Ex.rec (motive:=fun _=>Bool) (Q .normal t h nx) (fun i=>Bool.rec (motive:=fun _=>Bool) (Q (.exit i) t h nx) (Q .normal t h nx) (Nat.beq i id)) (Q .ret t h nx) x)=_
    rw [ihb]
    simp only [qK]
    congr 1
    funext x t h nx
    cases x with
    | normal=>rfl
    | ret=>rfl
    | exit i=>simp only; cases Nat.beq i id<;>rfl
  | loop b ihb =>
    funext t h nx Q
    show aIF (aBI P ro C n b) 100000 t h nx Q=_
    rw [ihb]
    simp only [qK]
  | rangeFunc=>rfl
  | exit id=>rfl
  | scope b ihb =>
    funext t h nx Q
    show aBI P ro C n b t h nx Q=_
    rw [ihb]
    simp only [qK]
  | label l=>rfl
  | goto l=>rfl
  | ret=>rfl
  | refuse=>rfl
def aGX:List Value→Nat→T Value→(T Value→Bool)→Bool
  | [],_,t,K=>K t
  | v::vs,i,t,K=>upK t i (some v) fun t=>aGX vs (Nat.succ i) t K
theorem aFj:∀ (l:List Value) (i:Nat) (t:T Value) (K:T Value→Bool),aGX l i t K=K (xL l i t)
  | [],i,t,K=>rfl
  | v::vs,i,t,K=>by rw [aGX,aCX,aFj vs]; rfl
abbrev aKf:=FuncId→List Value→Option (Nat × Nat × Nat × TypeId × List Value)
abbrev aOv:=FuncId→List Value→T Obj→Nat→Option (Value × T Obj × Nat)
def aFe (P:Program) (ro:Ro) (O:aKf) (M:aOv):Nat→qH
  | 0,_,_,_,_,_=>false
  | k+1,f,args,h,nx,K=>match M f args h nx with
   | some r=>K r.1 r.2.1 r.2.2
   | none=>match O f args with
   | some (z,l,c,e,cs)=>fcN z fun z=>fcN l fun l=>fcN c fun c=>fcL cs fun cs=>upK h nx (some (.cells cs.toArray e)) fun h'=>K (.slice (some ⟨nx,0,some z⟩) l c) h' (Nat.succ nx)
   | none=>bB P.funcs[f]? fun fn=>bB fn.body fun body=>match Nat.ble args.length fn.ntmps with
    | true=>aGX args 0 .e fun t=>aBI P ro (aFe P ro O M k) fn.ntmps body t h nx fun x t h nx=>match x with
      | .exit _=>false
      | .normal=>bB (aCI P ro h t fn.results.toList) fun vs=>fcV (aBb vs) fun v=>K v h nx
      | .ret=>bB (aCI P ro h t fn.results.toList) fun vs=>fcV (aBb vs) fun v=>K v h nx
    | false=>false
section
variable {P:Program} {ro:Ro}
def aF7 (P:Program) (ro:Ro) (C:qH):Prop:=∀ f args h nx K,C f args h nx K=true→∃ k v h' nx',call P ro k f args h nx v h' nx'∧K v h' nx'=true
theorem aJ7 {C:qH} (hC:aF7 P ro C) {t:T Value} {h:T Obj} {nx:Nat} {op:Op} {K:KB} (hl:aQN P ro C t h nx op K=true) :
    ∃ k v h' nx',opL P ro (call P ro k) t h nx op v h' nx'∧K v h' nx'=true:=by
  cases op with
  | store ty a x =>
    obtain ⟨a',h1,hl⟩:=fC hl
    obtain ⟨x',h2,hl⟩:=fC hl
    rw [aLa] at hl
    obtain ⟨h',h4,hl⟩:=fC hl
    exact ⟨0,_,_,_,⟨a',x',h1,h2,h4,rfl,rfl⟩,hl⟩
  | mapUpdate ty m k x | insert ty m k x =>
    obtain ⟨m',h1,hl⟩:=fC hl
    obtain ⟨k',h2,hl⟩:=fC hl
    obtain ⟨x',h3,hl⟩:=fC hl
    obtain ⟨h',h4,hl⟩:=fC hl
    exact ⟨0,_,_,_,⟨m',k',x',h1,h2,h3,h4,rfl,rfl⟩,hl⟩
  | call c =>
    obtain ⟨callee,args,ts⟩:=c
    cases callee with
    | builtin b =>
      obtain ⟨vs,h1,hl⟩:=fC hl
      cases b<;>try (exact Bool.noConfusion hl)
      case append =>
        simp only [aJD] at hl
        obtain ⟨r,h2,hl⟩:=fC hl
        exact ⟨0,_,_,_,⟨vs,h1,h2⟩,hl⟩
      case copy =>
        obtain ⟨r,h2,hl⟩:=fC hl
        rw [aOw] at hl
        exact ⟨0,_,_,_,⟨vs,h1,h2⟩,hl⟩
      case clear =>
        simp only at hl
        split at hl
        · rename_i m ty hty
          obtain ⟨d,h2,hl⟩:=fC hl
          obtain ⟨h',h3,hl⟩:=fC hl
          exact ⟨0,_,_,_,⟨_,h1,m,ty,rfl,hty,by rw [h2]; rfl,h3,rfl,rfl⟩,hl⟩
        · cases hl
    | value f =>
      obtain ⟨fv,h1,hl⟩:=fC hl
      obtain ⟨vs,h2,hl⟩:=fC hl
      split at hl
      · rename_i k a b _
        obtain ⟨k',v,h',nx',h3,h4⟩:=hC _ _ _ _ _ hl
        exact ⟨k',v,h',nx',⟨k,a,b,vs,h1,h2,h3⟩,h4⟩
      · cases hl
    | invoke r m=>cases hl
  | convert s d x =>
    obtain ⟨v,h1,hl⟩:=fC hl
    obtain ⟨r,h2,hl⟩:=fC hl
    exact ⟨0,_,_,_,⟨v,h1,h2,rfl⟩,hl⟩
  | _=>cases hl
theorem aEC {C:qH} (hC:aF7 P ro C) {t:T Value} {h:T Obj} {nx aid:Nat} {op:Op} {K:KB} (hl:aMv P ro C t h nx aid op K=true) :
    ∃ k v h' nx',opR P ro (call P ro k) t h nx aid op v h' nx'∧K v h' nx'=true:=by
  unfold aMv at hl
  unfold opR
  cases hq:gO op with
  | true=>rw [hq] at hl; exact aJ7 hC hl
  | false =>
    rw [hq] at hl
    have gen:∀ op,bB (aOH P ro t h aid op) (fun r=>fcV r.1 fun v=>aN8 h aid r.2 fun h'=>K v h' nx)=true→∃ (v:Value) (h':T Obj) (nx':Nat),(∃ ob,opQ P ro t h aid op=some (v,ob)∧h'=aA3 h aid ob∧nx'=nx)∧K v h' nx'=true:=by
      intro op hl
      simp only [aG2,aN9,aOI] at hl
      obtain ⟨r,h1,h2⟩:=fC hl
      exact ⟨r.1,_,_,⟨r.2,h1,rfl,rfl⟩,h2⟩
    simp only at hl ⊢
    have key:∃ v h' nx',(∃ ob,opQ P ro t h aid op=some (v,ob)∧h'=aA3 h aid ob∧nx'=nx)∧K v h' nx'=true:=by
      split at hl
      · rename_i ty x
        obtain ⟨v,h1,hl⟩:=fC hl
        split at hl
        · rename_i a
          rw [aMd] at hl
          obtain ⟨u,h2,h3⟩:=fC hl
          exact ⟨u,h,nx,⟨none,by simp only [opQ]; rw [h1]; show (m5 P ro h ty a).bind _=_; rw [h2]; rfl,rfl,rfl⟩,h3⟩
        · cases hl
      · obtain ⟨v,h1,hl⟩:=fC hl
        exact ⟨v,h,nx,⟨none,by simp only [opQ]; rw [h1]; rfl,rfl,rfl⟩,hl⟩
      · obtain ⟨v,h1,hl⟩:=fC hl
        exact ⟨v,h,nx,⟨none,by simp only [opQ]; rw [h1]; rfl,rfl,rfl⟩,hl⟩
      · exact gen _ hl
    obtain ⟨v,h',nx',q1,q2⟩:=key
    exact ⟨0,v,h',nx',q1,q2⟩
theorem aJ9 {C:qH} (hC:aF7 P ro C) {n:Nat} {ops:Array Oper}:∀ (l:List Oper) (t:T Value) (h:T Obj) (nx:Nat) (Q:T Value→T Obj→Nat→Bool),aJ8 P ro C n ops l t h nx Q=true →
    ∃ k s',aAA P ro (call P ro k) n ops l ⟨t,h,nx⟩ s'∧Q s'.t s'.h s'.nx=true:=by
  intro l
  induction l with
  | nil=>intro t h nx Q hq; exact ⟨0,_,rfl,hq⟩
  | cons o r ih =>
    intro t h nx Q hq
    simp only [aJ8,mR] at hq
    simp only [aAA]
    cases hw:wanted ops t o with
    | true =>
      rw [hw] at hq
      obtain ⟨k1,v,h',nx',h1,h2⟩:=aEC hC hq
      obtain ⟨t',h3,h4⟩:=zV h2
      obtain ⟨k2,s',h5,h6⟩:=ih _ _ _ _ h4
      exact ⟨max k1 k2,s',⟨v,h',nx',t',sK (iG (Nat.le_max_left _ _)) h1,h3,aGq (iG (Nat.le_max_right _ _)) _ _ _ h5⟩,h6⟩
    | false =>
      rw [hw] at hq
      obtain ⟨t',h3,h4⟩:=zV hq
      obtain ⟨k2,s',h5,h6⟩:=ih _ _ _ _ h4
      exact ⟨k2,s',⟨t',h3,h5⟩,h6⟩
theorem aIS {C:qH} (hC:aF7 P ro C) {n n0:Nat} {ops:Array Oper}:∀ (l:List Oper) (i:Nat) (ls:List (Nat × Nat)) (ms:List (Nat × T Obj × T Obj)) (t:T Value) (h:T Obj) (nx:Nat) (Q:T Value→T Obj→Nat→Bool),
    aB6 P ro C n ops (bef ops).toList n0 l i ls ms t h nx Q=true→∃ k s',uT P ro (call P ro k) n ops n0 l i ls ms ⟨t,h,nx⟩ s'∧Q s'.t s'.h s'.nx=true:=by
  intro l
  induction l with
  | nil=>intro i ls ms t h nx Q hq; exact ⟨0,_,rfl,hq⟩
  | cons o r ih =>
    intro i ls ms t h nx Q hq
    simp only [aB6,mR] at hq
    simp only [uT]
    cases hw:wanted ops t o with
    | true =>
      rw [hw] at hq
      obtain ⟨k1,v,h',nx',h1,h2⟩:=aEC hC hq
      obtain ⟨t',h3,h4⟩:=zV h2
      cases hl:gO o.op with
      | true =>
        rw [hl] at h4
        simp only [Bool.and_eq_true] at h4
        obtain ⟨k2,s',h5,h6⟩:=ih _ _ _ _ _ _ _ h4.2
        refine ⟨max k1 k2,s',⟨v,h',nx',t',sK (iG (Nat.le_max_left _ _)) h1,h3,?_,tB (iG (Nat.le_max_right _ _)) _ _ _ _ _ _ h5⟩,h6⟩
        intro q hq hf
        exact aDP h4.1 q hq (by rw [← xW] at hf; exact hf)
      | false =>
        rw [hl] at h4
        simp only at h4
        cases hr:rdB P t o.op with
        | none =>
          rw [hr] at h4
          obtain ⟨k2,s',h5,h6⟩:=ih _ _ _ _ _ _ _ h4
          exact ⟨max k1 k2,s',⟨v,h',nx',t',sK (iG (Nat.le_max_left _ _)) h1,h3,tB (iG (Nat.le_max_right _ _)) _ _ _ _ _ _ h5⟩,h6⟩
        | some a =>
          rw [hr] at h4
          simp only [Bool.and_eq_true] at h4
          obtain ⟨k2,s',h5,h6⟩:=ih _ _ _ _ _ _ _ h4.2
          refine ⟨max k1 k2,s',⟨v,h',nx',t',sK (iG (Nat.le_max_left _ _)) h1,h3,?_,tB (iG (Nat.le_max_right _ _)) _ _ _ _ _ _ h5⟩,h6⟩
          intro q hq hf
          exact aDQ h4.1 q hq (by rw [← xW] at hf; exact hf)
    | false =>
      rw [hw] at hq
      obtain ⟨t',h3,h4⟩:=zV hq
      obtain ⟨k2,s',h5,h6⟩:=ih _ _ _ _ _ _ _ h4
      exact ⟨k2,s',⟨t',h3,h5⟩,h6⟩
def aOi (P:Program) (ro:Ro) (n:Nat) (c:Code) (B:T Value→T Obj→Nat→QB→Bool):Prop :=
  ∀ t h nx Q,B t h nx Q=true→∃ k x s',code P ro k n c ⟨t,h,nx⟩ x s'∧Q x s'.t s'.h s'.nx=true
theorem aIG {n:Nat} {b:Code} {B:T Value→T Obj→Nat→QB→Bool} (hB:aOi P ro n b B):∀ (j:Nat) (t:T Value) (h:T Obj) (nx:Nat) (Q:QB),aIF B j t h nx Q=true →
    ∃ k x s',code P ro k n (.loop b) ⟨t,h,nx⟩ x s'∧Q x s'.t s'.h s'.nx=true:=by
  intro j
  induction j with
  | zero=>intro t h nx Q hq; cases hq
  | succ j ih =>
    intro t h nx Q hq
    obtain ⟨k1,x,s1,h1,h2⟩:=hB _ _ _ _ hq
    cases x with
    | normal =>
      obtain ⟨k2,x,s2,h5,h6⟩:=ih _ _ _ _ h2
      exact ⟨max k1 k2+1,x,s2,.inl ⟨s1,s1.h,qN (Nat.le_max_left _ _) _ _ _ _ _ h1,fun _ _ e=>e,qN (Nat.le_max_right _ _) _ _ _ _ _ h5⟩,h6⟩
    | exit id=>exact ⟨k1+1,_,s1,.inr ⟨by simp,h1⟩,h2⟩
    | ret=>exact ⟨k1+1,_,s1,.inr ⟨by simp,h1⟩,h2⟩
theorem aH6 {C:qH} (hC:aF7 P ro C) {n:Nat}:∀ c:Code,aOi P ro n c (qK P ro C n c):=by
  intro c
  induction c with
  | skip | label=>intro t h nx Q hp; exact ⟨1,.normal,_,⟨rfl,rfl⟩,hp⟩
  | ret=>intro t h nx Q hp; exact ⟨1,.ret,_,⟨rfl,rfl⟩,hp⟩
  | exit id=>intro t h nx Q hp; exact ⟨1,.exit id,_,⟨rfl,rfl⟩,hp⟩
  | seq a b iha ihb =>
    intro t h nx Q hp
    obtain ⟨k1,x,s1,h1,h2⟩:=iha _ _ _ _ hp
    cases x with
    | normal =>
      obtain ⟨k2,x,s2,h5,h6⟩:=ihb _ _ _ _ h2
      exact ⟨max k1 k2+1,x,s2,.inl ⟨s1,qN (Nat.le_max_left _ _) _ _ _ _ _ h1,qN (Nat.le_max_right _ _) _ _ _ _ _ h5⟩,h6⟩
    | exit id=>exact ⟨k1+1,_,s1,.inr ⟨by simp,h1⟩,h2⟩
    | ret=>exact ⟨k1+1,_,s1,.inr ⟨by simp,h1⟩,h2⟩
  | cond c a b iha ihb =>
    intro t h nx Q hp
    obtain ⟨v,h1,h2⟩:=fC hp
    split at h2
    · obtain ⟨k,x,s1,h3,h4⟩:=iha _ _ _ _ h2
      exact ⟨k+1,x,s1,⟨true,h1,h3⟩,h4⟩
    · obtain ⟨k,x,s1,h3,h4⟩:=ihb _ _ _ _ h2
      exact ⟨k+1,x,s1,⟨false,h1,h3⟩,h4⟩
    · cases h2
  | block id b ihb =>
    intro t h nx Q hp
    obtain ⟨k,x,s1,h1,h2⟩:=ihb _ _ _ _ hp
    cases x with
    | normal=>exact ⟨k+1,_,s1,⟨_,h1,rfl⟩,h2⟩
    | ret=>exact ⟨k+1,_,s1,⟨_,h1,rfl⟩,h2⟩
    | exit i =>
      refine ⟨k+1,_,s1,⟨_,h1,rfl⟩,?_⟩
      simp only at h2 ⊢
      cases hb:Nat.beq i id with
      | true=>rw [hb] at h2; exact h2
      | false=>rw [hb] at h2; exact h2
  | loop b ihb=>intro t h nx Q hp; exact aIG ihb _ _ _ _ _ hp
  | scope b ihb =>
    intro t h nx Q hp
    obtain ⟨k,x,s1,h1,h2⟩:=ihb _ _ _ _ hp
    exact ⟨k+1,x,s1,h1,h2⟩
  | region id ops draw =>
    intro t h nx Q hp
    cases draw with
    | false =>
      obtain ⟨k,s',h1,h2⟩:=aJ9 hC _ _ _ _ _ hp
      exact ⟨k+1,.normal,s',⟨rfl,h1⟩,h2⟩
    | true =>
      simp only [qK] at hp
      rw [aNb,aD4] at hp
      cases hd:vG P ops with
      | false=>rw [hd] at hp; cases hp
      | true =>
        rw [hd] at hp
        simp only [mR] at hp
        obtain ⟨k,s',h1,h2⟩:=aIS hC _ _ _ _ _ _ _ _ hp
        exact ⟨k+1,.normal,s',⟨rfl,hd,h1⟩,h2⟩
  | _=>intro t h nx Q hp; cases hp
theorem aC1 {O:aKf} {M:aOv} (hO:∀ f args z l c e cs,O f args=some (z,l,c,e,cs)→aHQ P f args z l c cs) (hM:∀ f args h nx v h' nx',M f args h nx=some (v,h',nx')→∃ j,call P ro j f args h nx v h' nx'):∀ k,aF7 P ro (aFe P ro O M k):=by
  intro k
  induction k with
  | zero=>intro f args h nx K hc; cases hc
  | succ k ih =>
    intro f args h nx K hc
    simp only [aFe] at hc
    cases hm:M f args h nx with
    | some r =>
      obtain ⟨v,h',nx'⟩:=r
      rw [hm] at hc
      obtain ⟨j,hj⟩:=hM _ _ _ _ _ _ _ hm
      exact ⟨j,v,h',nx',hj,hc⟩
    | none =>
    rw [hm] at hc
    simp only at hc
    cases hq:O f args with
    | some r =>
      obtain ⟨z,l,c,e,cs⟩:=r
      rw [hq] at hc
      simp only [mR,aMO,aCX] at hc
      exact ⟨0,_,_,_,.inr (.inr ⟨z,l,c,cs,e,hO _ _ _ _ _ _ _ hq,rfl,fun _ _ e=>e,rfl⟩),hc⟩
    | none =>
    rw [hq] at hc
    simp only at hc
    obtain ⟨fn,h1,hc⟩:=fC hc
    obtain ⟨body,h2,hc⟩:=fC hc
    split at hc
    · rename_i hb
      rw [aFj,aLy] at hc
      obtain ⟨j,x,s,h3,h4⟩:=aH6 ih body _ _ _ _ hc
      cases x with
      | exit i=>cases h4
      | normal =>
        obtain ⟨vs,h5,h6⟩:=fC h4
        rw [aG2] at h6
        exact ⟨j,_,_,_,.inl ⟨fn,body,.normal,s,vs,h1,h2,Nat.le_of_ble_eq_true hb,h3,.inl rfl,h5,rfl,fun _ _ e=>e,rfl⟩,h6⟩
      | ret =>
        obtain ⟨vs,h5,h6⟩:=fC h4
        rw [aG2] at h6
        exact ⟨j,_,_,_,.inl ⟨fn,body,.ret,s,vs,h1,h2,Nat.le_of_ble_eq_true hb,h3,.inr rfl,h5,rfl,fun _ _ e=>e,rfl⟩,h6⟩
    · cases hc
structure Cp where
  f:FuncId
  args:List Value
  h:T Obj
  nx:Nat
  v:Value
  h':T Obj
  nx':Nat
def rL (P:Program) (c:Cp):Prop:=∀ ro,∃ j,call P ro j c.f c.args c.h c.nx c.v c.h' c.nx'
def oEq (a b:Option Obj):Bool:=match a,b with
  | none,none=>true
  | a,b=>aIN a b
theorem aP3 {a b:Option Obj} (h:oEq a b=true):a=b:=by
  unfold oEq at h
  split at h
  · rfl
  · exact (aDz h).1
def eqT:T Obj→T Obj→Bool
  | .e,.e=>true
  | .n l v r,.n l' v' r'=>oEq v v'&&(eqT l l'&&eqT r r')
  | _,_=>false
theorem aJU:∀ {a b:T Obj},eqT a b=true→a=b
  | .e,.e,_=>rfl
  | .n l v r,.n l' v' r',h=>by
    simp only [eqT,Bool.and_eq_true] at h
    rw [aP3 h.1,aJU h.2.1,aJU h.2.2]
  | .e,.n ..,h=>by cases h
  | .n ..,.e,h=>by cases h
def aEo:List Value→List Value→Bool
  | [],[]=>true
  | a::r,b::s=>aBB a b&&aEo r s
  | _,_=>false
theorem aCY:∀ {l m:List Value},aEo l m=true→l=m
  | [],[],_=>rfl
  | a::r,b::s,h=>by
    simp only [aEo,Bool.and_eq_true] at h
    rw [u7 h.1,aCY h.2]
  | [],_::_,h=>by cases h
  | _::_,[],h=>by cases h
def aN1 (a b:Value):Bool:=match a,b with
  | .tuple x,.tuple y=>aEo x.toList y.toList
  | a,b=>aBB a b
theorem aN2 {a b:Value} (h:aN1 a b=true):a=b:=by
  unfold aN1 at h
  split at h
  · rename_i x y
    obtain ⟨x⟩:=x
    obtain ⟨y⟩:=y
    have:=aCY h
    simp_all
  · exact u7 h
def aNP:T Obj→(Nat→Option Obj)→Bool
  | .e,_=>true
  | .n l v r,g=>(match v with
    | none=>true
    | some o=>aIN (some o) (g 0))&&(aNP l (fun k=>g (2*k+1))&&aNP r (fun k=>g (2*k+2)))
theorem aEg:∀ {t:T Obj} {g:Nat→Option Obj},aNP t g=true→∀ k o,t.get k=some o→g k=some o
  | .e,g,_,k,o,h=>by rw [T.get_e] at h; cases h
  | .n l v r,g,hs,k,o,h=>by
    simp only [aNP,Bool.and_eq_true] at hs
    cases k with
    | zero =>
      have:v=some o:=h
      subst this
      exact (aDz hs.1).1.symm
    | succ k =>
      have h2:(Bool.rec (motive:=fun _=>Option Obj) (r.get (k / 2)) (l.get (k / 2)) (Nat.beq (k % 2) 0):Option Obj)=some o:=h
      cases hb:Nat.beq (k % 2) 0 with
      | true =>
        rw [hb] at h2
        have h3:=aEg hs.2.1 _ _ h2
        have h4:=Nat.eq_of_beq_eq_true hb
        rw [show k+1=2*(k / 2)+1 by omega]
        exact h3
      | false =>
        rw [hb] at h2
        have h3:=aEg hs.2.2 _ _ h2
        have h4:¬ k % 2=0:=fun e=>by rw [e] at hb; cases hb
        rw [show k+1=2*(k / 2)+2 by omega]
        exact h3
def cpM:List Cp→aOv
  | [],_,_,_,_=>none
  | c::r,f,args,h,nx=>match Nat.beq f c.f,Nat.beq nx c.nx with
    | true,true=>match aEo args c.args with
      | true=>match eqT h c.h with
        | true=>some (c.v,c.h',c.nx')
        | false=>none
      | false=>none
    | _,_=>cpM r f args h nx
theorem aJR {ro:Ro}:∀ {l:List Cp},(∀ c∈l,rL P c)→∀ f args h nx v h' nx',cpM l f args h nx=some (v,h',nx')→∃ j,call P ro j f args h nx v h' nx'
  | [],_,_,_,_,_,_,_,_,h=>by cases h
  | c::r,hl,f,args,h,nx,v,h',nx',he=>by
    unfold cpM at he
    split at he
    · rename_i e1 e2
      split at he
      · rename_i e3
        split at he
        · rename_i e4
          simp only [Option.some.injEq,Prod.mk.injEq] at he
          obtain ⟨rfl,rfl,rfl⟩:=he
          have d1:f=c.f:=Nat.eq_of_beq_eq_true e1
          have d2:nx=c.nx:=Nat.eq_of_beq_eq_true e2
          rw [d1,d2,aCY e3,aJU e4]
          exact hl c (List.mem_cons_self ..) ro
        · cases he
      · cases he
    · exact aJR (fun c hc=>hl c (List.mem_cons_of_mem _ hc)) _ _ _ _ _ _ _ he
theorem jX {P:Program}:∀ c∈([]:List Cp),rL P c:=fun c h=>by cases h
theorem bD {P:Program} {a:Cp} {l:List Cp} (h:rL P a) (hl:∀ c∈l,rL P c):∀ c∈a::l,rL P c:=fun c hc=>by
  rcases List.mem_cons.1 hc with e | hc
  · rw [e]; exact h
  · exact hl c hc
def aPz (v0:Value) (h0:T Obj) (n0:Nat):KB:=fun v h nx=>aN1 v v0&&(Nat.beq nx n0&&aNP h0 fun k=>h.get k)
def aPy (want:Value):KB:=fun v _ _=>aBB v want
theorem aH1 {k:Nat} {f:FuncId} {args:List Value} {h h' h1:T Obj} {nx nx':Nat} {v:Value} (hc:call P ro k f args h nx v h' nx') (hs:Sub h1 h'):call P ro k f args h nx v h1 nx':=by
  rcases hc with ⟨fn,body,e,s,vs,g1,g2,g3,g4,g5,g6,g7,g8,g9⟩ | ⟨g1,g2,g3,g4⟩ | ⟨z,l,c,cs,e,g1,g2,g3,g4⟩
  · exact .inl ⟨fn,body,e,s,vs,g1,g2,g3,g4,g5,g6,g7,fun k o hk=>g8 k o (hs k o hk),g9⟩
  · exact .inr (.inl ⟨g1,g2,fun k o hk=>g3 k o (hs k o hk),g4⟩)
  · exact .inr (.inr ⟨z,l,c,cs,e,g1,g2,fun k o hk=>g3 k o (hs k o hk),g4⟩)
theorem s6 {O:aKf} (hO:∀ f args z l c e cs,O f args=some (z,l,c,e,cs)→aHQ P f args z l c cs) {l:List Cp} (hl:∀ c∈l,rL P c) {k:Nat} {c:Cp} (hc:∀ ro,aFe P ro O (cpM l) k c.f c.args c.h c.nx (aPz c.v c.h' c.nx')=true):rL P c:=fun ro=>by
  obtain ⟨j,v,h',nx',h1,h2⟩:=aC1 hO (fun f args h nx v h' nx' e=>aJR hl f args h nx v h' nx' e) k _ _ _ _ _ (hc ro)
  simp only [aPz,Bool.and_eq_true] at h2
  rw [← aN2 h2.1,← Nat.eq_of_beq_eq_true h2.2.1]
  exact ⟨j,aH1 h1 fun k o hk=>aEg h2.2.2 k o hk⟩
theorem aKo {O:aKf} (hO:∀ f args z l c e cs,O f args=some (z,l,c,e,cs)→aHQ P f args z l c cs) {l:List Cp} (hl:∀ c∈l,rL P c) {k:Nat} {f:FuncId} {args:List Value} {nx:Nat} {want:Value} {K:KV} (hc:aFe P ro O (cpM l) k f args .e nx (aPy want)=true) (hK:∀ n,K want .e n):aN P ro f args .e nx K:=by
  obtain ⟨j,v,h',nx',h1,h2⟩:=aC1 hO (fun f args h nx v h' nx' e=>aJR hl f args h nx v h' nx' e) k _ _ _ _ _ hc
  refine ⟨j,v,.e,nx',aH1 h1 (fun k o hk=>by rw [T.get_e] at hk; cases hk),?_⟩
  rw [u7 h2]
  exact hK _
end
end V
end Go.Proofs.YtcaccnneblghgaaGreat
noncomputable section
namespace Go.Proofs.YtcaccnneblghgaaGreat
namespace V
theorem aPb {P:Program} (hz:fY P=true) (hn:lN P=true) (hm:P.follows .mixedOrders=true) {f:FuncId} {want:Value} (hf:flat want=true) (hb:((P.funcs[f]?).bind (·.body)).isSome=true)
    (he:∀ ro:Ro,aN P ro f [] .e 0 fun v _ _=>v=want):Orc P f want:=by
  refine ⟨hf,?_,fun W=>?_⟩
  · cases hq:P.funcs[f]? with
    | none=>rw [hq] at hb; cases hb
    | some fn =>
      rw [hq] at hb
      refine ⟨fn,rfl,?_⟩
      simp only [Option.bind_some] at hb
      cases hc:fn.body with
      | none=>rw [hc] at hb; cases hb
      | some b=>rfl
  · obtain ⟨j,v,h',nx',hc,hv⟩:=he (oE W)
    subst hv
    have hs:SS (oE W) W.heap.size W (fun _=>none) .e 0 W:=⟨aE5 W,fun _ _=>rfl⟩
    refine ((aAa (ro:=oE W) (N:=W.heap.size) (w0:=W) hz hn hm _ _ _ _ _ _ _ hc).2 _ W #[] hs .nil).mono fun e W' ⟨v',φ',he,hst,hv⟩=>?_
    subst he
    exact ⟨by rw [hv.of_flat hf],hst.size,fun b hb=>hst.frame b hb fun k B o r hk _=>absurd (T.get_e k) hk,hst.os,hst.tape,hst.output⟩
theorem aOM {P:Program} (hz:fY P=true) (hn:lN P=true) (hm:P.follows .mixedOrders=true) {O:aKf} (hO:∀ f args z l c e cs,O f args=some (z,l,c,e,cs)→aHQ P f args z l c cs) {l:List Cp} (hl:∀ c∈l,rL P c) {f:FuncId} {want:Value} {k:Nat} (hf:flat want=true) (hb:((P.funcs[f]?).bind (·.body)).isSome=true)
    (he:∀ ro:Ro,aFe P ro O (cpM l) k f [] .e 0 (aPy want)=true):Orc P f want:=aPb hz hn hm hf hb fun ro=>aKo hO hl (he ro) fun _=>rfl
theorem LR.rigid {N:Nat} {φ:Phi}:∀ {l:List Value},l.all V.rigid=true→LR N φ l l
  | [],_=>.nil
  | x::l,h=>by
    simp only [List.all_cons,Bool.and_eq_true] at h
    refine .cons ?_ (LR.rigid h.2)
    have hx:=h.1
    cases x with
    | agg cs=>exact VR.aggL (LR.flat fun x hx'=>List.all_eq_true.1 (show cs.toList.all V.flat=true from hx) x hx')
    | _=>exact .flat hx
theorem aOK {P:Program} (hz:fY P=true) (hn:lN P=true) (hm:P.follows .mixedOrders=true) {f:FuncId} {args:List Value} {z l c:Nat} {cs:List Value} (hr:args.all rigid=true) (hf:cs.all flat=true) (hb:((P.funcs[f]?).bind (·.body)).isSome=true)
    (hc0:l≤c) (hc1:c*z=cs.length) (hc2:0 < c) (he:∀ ro:Ro,aN P ro f args .e 0 fun v h _=>∃ id e,v=.slice (some ⟨id,0,some z⟩) l c∧h.get id=some (.cells cs.toArray e)):aHQ P f args z l c cs:=by
  refine ⟨hr,hf,?_,fun W=>?_⟩
  · cases hq:P.funcs[f]? with
    | none=>rw [hq] at hb; cases hb
    | some fn =>
      rw [hq] at hb
      refine ⟨fn,rfl,?_⟩
      simp only [Option.bind_some] at hb
      cases hc:fn.body with
      | none=>rw [hc] at hb; cases hb
      | some b=>rfl
  · obtain ⟨j,v,h',nx',hc,id,e,rfl,hg⟩:=he (oE W)
    have hs:SS (oE W) W.heap.size W (fun _=>none) .e 0 W:=⟨aE5 W,fun _ _=>rfl⟩
    refine ((aAa (ro:=oE W) (N:=W.heap.size) (w0:=W) hz hn hm _ _ _ _ _ _ _ hc).2 _ W args.toArray hs (by simpa using LR.rigid hr)).mono fun en W' ⟨v',φ',he,hst,hv⟩=>?_
    subst he
    refine ⟨?_,hst.size,fun b hb=>hst.frame b hb fun k B o r hk _=>absurd (T.get_e k) hk,hst.os,hst.tape,hst.output⟩
    obtain ⟨B,b,r,o',p1,p2,p3⟩:=hst.ss.sim.own id _ hg
    have hB:W.heap.size≤B:=by
      rcases hst.img id B b r (by rw [hg]; simp) p1 with h1 | ⟨k0,o0,r0,h1,_⟩
      · exact h1
      · exact absurd (T.get_e k0) h1
    cases o'<;>first
      | exact p3.elim
      | skip
    rename_i C E F
    obtain ⟨r1,r2,r3,r4⟩:=p3
    have hflat:∀ (i:Nat) (x:Value),cs[i]?=some x→C[b+i]?=some x:=fun i x hx=>by
      obtain ⟨y,hy,hxy⟩:=r3 i x (by simpa using hx)
      rw [hy,hxy.of_flat (List.all_eq_true.1 hf x (List.mem_of_getElem? hx))]
    cases hv with
    | flat h=>cases h
    | sliceRo h _=>cases h
    | sliceOwn h1 h2 h3 h4 =>
      cases h2
      simp only at h1
      rw [p1] at h1
      cases h1
      exact ⟨B,_,r,_,C,E,F,rfl,h3,by simpa using h4,hB,(hst.ss.sim.dom id B b r p1).2,p2,r1,by simpa using r2,hflat,r4⟩
    | sliceEnd h1 h2=>omega
    | sliceNo h=>cases h
end V
end Go.Proofs.YtcaccnneblghgaaGreat
namespace Go.Proofs.YtcaccnneblghgaaGreat
namespace V
attribute [local irreducible] a9 aN aA
abbrev uP:FuncId:=9
abbrev tN:FuncId:=10
abbrev aCq:FuncId:=12
abbrev sF:FuncId:=13
abbrev xZ:FuncId:=20
abbrev tT:FuncId:=21
abbrev aFJ:FuncId:=30
abbrev aFK:FuncId:=31
abbrev aG7:FuncId:=32
abbrev aG6:FuncId:=33
abbrev aAO:FuncId:=34
abbrev xY:FuncId:=36
abbrev gR:FuncId:=37
abbrev eR:FuncId:=38
abbrev aAf:FuncId:=39
abbrev s3:FuncId:=42
abbrev qU:FuncId:=44
abbrev vN:FuncId:=45
abbrev aDm:FuncId:=65
abbrev aDn:FuncId:=66
abbrev aDo:FuncId:=67
abbrev pA:FuncId:=69
abbrev gS:FuncId:=70
abbrev d6:FuncId:=71
abbrev tM:FuncId:=72
abbrev aAg:FuncId:=73
abbrev qS:FuncId:=74
abbrev tL:FuncId:=75
abbrev aAj:FuncId:=76
abbrev sE:FuncId:=81
abbrev tP:FuncId:=82
abbrev tR:FuncId:=83
abbrev tQ:FuncId:=102
abbrev qE:FuncId:=109
abbrev sG:FuncId:=110
abbrev eN:FuncId:=111
abbrev dE:FuncId:=112
abbrev vJ:FuncId:=113
abbrev lC:FuncId:=114
abbrev tU:FuncId:=115
abbrev sD:FuncId:=116
abbrev kZ:FuncId:=117
abbrev hZ:FuncId:=118
abbrev fS:FuncId:=119
abbrev iA:FuncId:=120
abbrev tO:FuncId:=126
abbrev tS:FuncId:=127
abbrev tA:FuncId:=135
abbrev vL:FuncId:=136
abbrev o8:FuncId:=147
abbrev eO:FuncId:=152
abbrev vI:FuncId:=153
abbrev qT:FuncId:=154
abbrev eF:FuncId:=155
abbrev fP:FuncId:=156
abbrev lV:FuncId:=157
abbrev gA:FuncId:=164
abbrev tK:FuncId:=165
abbrev o9:FuncId:=166
abbrev vM:FuncId:=167
abbrev vK:FuncId:=178
abbrev x3:FuncId:=179
abbrev aAi:FuncId:=180
abbrev eY:FuncId:=182
abbrev nV:FuncId:=187
abbrev aAh:FuncId:=192
abbrev dW:TypeId:=3
abbrev aEp:TypeId:=4
abbrev cJ:TypeId:=5
abbrev oQ:TypeId:=9
abbrev jA:TypeId:=22
abbrev aIy:TypeId:=28
abbrev iL:TypeId:=31
abbrev gZ:TypeId:=32
abbrev c7:TypeId:=34
abbrev bM:TypeId:=42
abbrev hG:TypeId:=43
abbrev bQ:TypeId:=49
abbrev wD:TypeId:=57
abbrev dC:TypeId:=59
abbrev lK:TypeId:=60
abbrev hE:TypeId:=61
abbrev bG:TypeId:=63
abbrev cH:TypeId:=65
abbrev dR:TypeId:=84
abbrev jS:TypeId:=95
abbrev iF:TypeId:=96
abbrev aR:TypeId:=98
abbrev hJ:TypeId:=101
abbrev kC:TypeId:=146
abbrev bF:TypeId:=148
abbrev gD:TypeId:=149
abbrev kE:TypeId:=150
abbrev fX:TypeId:=158
abbrev a8:TypeId:=160
abbrev iK:TypeId:=163
abbrev j9:TypeId:=168
abbrev d4:TypeId:=200
abbrev b7:TypeId:=202
abbrev dP:TypeId:=213
abbrev bL:TypeId:=218
@[irreducible] def iD (ro:Ro) (v0:Value) (h:T Obj) (nx:Nat) (K:KV):Prop:=aA (slB .eql v0 (Value.slice none 0 0)) fun t4_1=>aS t4_1 (∃ h2,Sub h2 h∧K (Value.slice none 0 0) h2 (nx+4)) (aA (bU Tryz.prog jA (nx+3) 0 []) fun r3=>eQ h (nx+3) r3.2 fun h4=>aA (cR Tryz.prog ro h4 (nx+6) #[jA,jA] [r3.1,v0]) fun r5=>∃ h6,Sub h6 r5.2.1∧K r5.1 h6 (r5.2.2+1))
theorem pY (ro:Ro) (v0:Value) (h:T Obj) (nx:Nat) (K:KV):a9 Tryz.prog ro (aN Tryz.prog ro) Tryz.f37 [v0] h nx K=iD ro v0 h nx K:=by kernel_rfl
theorem pZ {ro:Ro} {v0:Value} {h:T Obj} {nx:Nat} {K:KV} (hw:iD ro v0 h nx K):aN Tryz.prog ro gR [v0] h nx K:=a7 (P:=Tryz.prog) (fn:=Tryz.f37) (by kernel_rfl) (by kernel_rfl) (by kernel_rfl) (Eq.mpr (pY ro v0 h nx K) hw)
@[irreducible] def lH (ro:Ro) (v0:Value) (h:T Obj) (nx:Nat) (K:KV):Prop:=aA (slB .eql v0 (Value.slice none 0 0)) fun t4_1=>aS t4_1 (∃ h2,Sub h2 h∧K (Value.slice none 0 0) h2 (nx+4)) (aA (bU Tryz.prog iL (nx+3) 0 []) fun r3=>eQ h (nx+3) r3.2 fun h4=>aA (cR Tryz.prog ro h4 (nx+6) #[iL,iL] [r3.1,v0]) fun r5=>∃ h6,Sub h6 r5.2.1∧K r5.1 h6 (r5.2.2+1))
theorem uW (ro:Ro) (v0:Value) (h:T Obj) (nx:Nat) (K:KV):a9 Tryz.prog ro (aN Tryz.prog ro) Tryz.f38 [v0] h nx K=lH ro v0 h nx K:=by kernel_rfl
theorem uX {ro:Ro} {v0:Value} {h:T Obj} {nx:Nat} {K:KV} (hw:lH ro v0 h nx K):aN Tryz.prog ro eR [v0] h nx K:=a7 (P:=Tryz.prog) (fn:=Tryz.f38) (by kernel_rfl) (by kernel_rfl) (by kernel_rfl) (Eq.mpr (uW ro v0 h nx K) hw)
@[irreducible] def gN (ro:Ro) (K:KV):Env→T Obj→Nat→Prop:=fun e h nx=>∃ h1,Sub h1 h∧K (Value.int IntKind.i64 (-1)) h1 (nx+1)
@[irreducible] def jW (ro:Ro):PT:=fun e h nx Q=>aA (aO .lss (e 8) (e 7)) fun t9_3=>aS t9_3 (aA (cL 1 (e 0) (e 8)) fun t14_4=>aA (load1 ro h t14_4) fun t15_5=>aA (aEe .eql (e 1) t15_5) fun t16_6=>aS t16_6 (Q .ret (puts e [(9,t9_3),(10,(e 8)),(5,(e 8)),(11,(e 1)),(12,(e 0)),(13,(e 8)),(14,t14_4),(15,t15_5),(16,t16_6),(17,(e 8)),(4,(e 8))]) h (nx+11)) (aA (aO .add (e 8) (Value.int IntKind.i64 1)) fun t18_7=>Q .normal (puts e [(9,t9_3),(10,(e 8)),(5,(e 8)),(11,(e 1)),(12,(e 0)),(13,(e 8)),(14,t14_4),(15,t15_5),(16,t16_6),(18,t18_7),(8,t18_7)]) h (nx+11))) (Q (.exit 0) (puts e [(9,t9_3)]) h (nx+1))
@[irreducible] def iE (ro:Ro) (v0 v1:Value) (h:T Obj) (nx:Nat) (K:KV):Prop:=aA (bI v0) fun t7_2=>dS (jW ro) (puts (gQ [v0,v1]) [(4,(Value.int IntKind.i64 0)),(6,v0),(7,t7_2),(8,(Value.int IntKind.i64 0))]) h (nx+4) fun x11 e8 h9 n10=>exP x11 (gN ro K e8 h9 n10) (fun i12=>cO (Nat.beq i12 0) (gN ro K e8 h9 n10) (False)) (∃ h13,Sub h13 h9∧K (e8 4) h13 n10)
theorem p6 (ro:Ro) (v0 v1:Value) (h:T Obj) (nx:Nat) (K:KV):a9 Tryz.prog ro (aN Tryz.prog ro) Tryz.f70 [v0,v1] h nx K=iE ro v0 v1 h nx K:=by kernel_rfl
theorem p7 {ro:Ro} {v0 v1:Value} {h:T Obj} {nx:Nat} {K:KV} (hw:iE ro v0 v1 h nx K):aN Tryz.prog ro gS [v0,v1] h nx K:=a7 (P:=Tryz.prog) (fn:=Tryz.f70) (by kernel_rfl) (by kernel_rfl) (by kernel_rfl) (Eq.mpr (p6 ro v0 v1 h nx K) hw)
@[irreducible] def eG (ro:Ro) (v0 v1:Value) (h:T Obj) (nx:Nat) (K:KV):Prop:=aN Tryz.prog ro eN [v0,v1] h (nx+4) fun t7_1 h2 n3=>aA (aO .geq t7_1 (Value.int IntKind.i64 0)) fun t8_4=>∃ h5,Sub h5 h2∧K t8_4 h5 (n3+2)
theorem j5 (ro:Ro) (v0 v1:Value) (h:T Obj) (nx:Nat) (K:KV):a9 Tryz.prog ro (aN Tryz.prog ro) Tryz.f71 [v0,v1] h nx K=eG ro v0 v1 h nx K:=by kernel_rfl
theorem j6 {ro:Ro} {v0 v1:Value} {h:T Obj} {nx:Nat} {K:KV} (hw:eG ro v0 v1 h nx K):aN Tryz.prog ro d6 [v0,v1] h nx K:=a7 (P:=Tryz.prog) (fn:=Tryz.f71) (by kernel_rfl) (by kernel_rfl) (by kernel_rfl) (Eq.mpr (j5 ro v0 v1 h nx K) hw)
@[irreducible] def kD (ro:Ro) (K:KV):Env→T Obj→Nat→Prop:=fun e h nx=>aA (loadA ro h 259 (e 1)) fun t72_143=>aA (eX Tryz.prog dP [(0,t72_143)]) fun t73_144=>aA (zer Tryz.prog dP) fun z145=>cM h (nx+2) (.cells z145.cells dP) fun h146=>aA (bV 259 h146 (ptr (nx+2)) t73_144) fun h147=>aA (aQ 258 (e 1)) fun t74_148=>aA (load1 ro h147 t74_148) fun t75_149=>aN Tryz.prog ro dE [t75_149,(.func (.func sD) #[] #[(ptr (nx+2))])] h147 (nx+8) fun t77_150 h151 n152=>aA (unV .not t77_150) fun t78_153=>∃ h154,Sub h154 h151∧K t78_153 h154 (n152+2)
@[irreducible] def tI (ro:Ro):PT:=fun e h nx Q=>aA (aO .lss (e 47) (e 46)) fun t48_158=>aS t48_158 (aA (cL 2 (e 45) (e 47)) fun t49_159=>aA (loadA ro h 2 t49_159) fun t50_160=>aA (zer Tryz.prog gD) fun z161=>cM h (nx+3) (.cells z161.cells gD) fun h162=>aA (bV 2 h162 (ptr (nx+3)) t50_160) fun h163=>aA (ixArr 2 1 (ptr (nx+3)) (Value.int IntKind.i64 0)) fun t51_164=>aA (load1 ro h163 t51_164) fun t52_165=>aA (aO .lss t52_165 (Value.int IntKind.i64 1)) fun t53_166=>ifP t53_166 false h163 (nx+9) (fun k167=>aA (ixArr 2 1 (ptr (nx+3)) (Value.int IntKind.i64 0)) fun t55_171=>k167 t55_171 h163 (nx+10)) fun t55_168 h169 n170=>ifP t53_166 false h169 n170 (fun k172=>aA (load1 ro h169 t55_168) fun t56_176=>k172 t56_176 h169 (n170+1)) fun t56_173 h174 n175=>ifP t53_166 false h174 n175 (fun k177=>aA (ixArr 2 1 (ptr (nx+3)) (Value.int IntKind.i64 1)) fun t57_181=>k177 t57_181 h174 (n175+1)) fun t57_178 h179 n180=>ifP t53_166 false h179 n180 (fun k182=>aA (load1 ro h179 t57_178) fun t58_186=>k182 t58_186 h179 (n180+1)) fun t58_183 h184 n185=>ifP t53_166 false h184 n185 (fun k187=>aA (aO .gtr t56_173 t58_183) fun t59_191=>k187 t59_191 h184 (n185+1)) fun t59_188 h189 n190=>aA (bH t53_166 (Value.bool true) t59_188) fun t60_192=>ifP t60_192 false h189 (n190+2) (fun k193=>aA (ixArr 2 1 (ptr (nx+3)) (Value.int IntKind.i64 1)) fun t62_197=>k193 t62_197 h189 (n190+3)) fun t62_194 h195 n196=>ifP t60_192 false h195 n196 (fun k198=>aA (load1 ro h195 t62_194) fun t63_202=>k198 t63_202 h195 (n196+1)) fun t63_199 h200 n201=>ifP t60_192 false h200 n201 (fun k203=>aA (aO .lss t63_199 (Value.int IntKind.i64 2)) fun t64_207=>k203 t64_207 h200 (n201+1)) fun t64_204 h205 n206=>aA (bH t60_192 (Value.bool true) t64_204) fun t65_208=>ifP t65_208 false h205 (n206+2) (fun k209=>aA (ixArr 2 1 (ptr (nx+3)) (Value.int IntKind.i64 1)) fun t67_213=>k209 t67_213 h205 (n206+3)) fun t67_210 h211 n212=>ifP t65_208 false h211 n212 (fun k214=>aA (load1 ro h211 t67_210) fun t68_218=>k214 t68_218 h211 (n212+1)) fun t68_215 h216 n217=>ifP t65_208 false h216 n217 (fun k219=>aA (aO .gtr t68_215 (Value.int IntKind.i64 4096)) fun t69_223=>k219 t69_223 h216 (n217+1)) fun t69_220 h221 n222=>aA (bH t65_208 (Value.bool true) t69_220) fun t70_224=>aS t70_224 (Q .ret (puts e [(48,t48_158),(49,t49_159),(50,t50_160),(4,(ptr (nx+3))),(51,t51_164),(52,t52_165),(53,t53_166),(54,t53_166),(55,t55_168),(56,t56_173),(57,t57_178),(58,t58_183),(59,t59_188),(60,t60_192),(61,t60_192),(62,t62_194),(63,t63_199),(64,t64_204),(65,t65_208),(66,t65_208),(67,t67_210),(68,t68_215),(69,t69_220),(70,t70_224),(2,(Value.bool false))]) h221 (n222+2)) (aA (aO .add (e 47) (Value.int IntKind.i64 1)) fun t71_225=>Q .normal (puts e [(48,t48_158),(49,t49_159),(50,t50_160),(4,(ptr (nx+3))),(51,t51_164),(52,t52_165),(53,t53_166),(54,t53_166),(55,t55_168),(56,t56_173),(57,t57_178),(58,t58_183),(59,t59_188),(60,t60_192),(61,t60_192),(62,t62_194),(63,t63_199),(64,t64_204),(65,t65_208),(66,t65_208),(67,t67_210),(68,t68_215),(69,t69_220),(70,t70_224),(71,t71_225),(47,t71_225)]) h221 (n222+3))) (Q (.exit 0) (puts e [(48,t48_158)]) h (nx+1))
@[irreducible] def aA6 (ro:Ro) (v0:Value) (h:T Obj) (nx:Nat) (K:KV):Prop:=cM h nx (.cells (Value.cells v0) bG) fun h1=>aA (aQ 0 (ptr nx)) fun t6_2=>aA (loadA ro h1 257 t6_2) fun t7_3=>aN Tryz.prog ro tU [t7_3] h1 (nx+40) fun t8_4 h5 n6=>aA (unV .not t8_4) fun t9_7=>ifP t9_7 false h5 n6 (fun k8=>aA (aQ 257 (ptr nx)) fun t11_12=>k8 t11_12 h5 n6) fun t11_9 h10 n11=>ifP t9_7 false h10 n11 (fun k13=>aA (load1 ro h10 t11_9) fun t12_17=>k13 t12_17 h10 n11) fun t12_14 h15 n16=>ifP t9_7 false h15 n16 (fun k18=>aA (bI t12_14) fun t13_22=>k18 t13_22 h15 n16) fun t13_19 h20 n21=>ifP t9_7 false h20 n21 (fun k23=>aA (aO .gtr t13_19 (Value.int IntKind.i64 512)) fun t14_27=>k23 t14_27 h20 n21) fun t14_24 h25 n26=>aA (bH t9_7 (Value.bool true) t14_24) fun t15_28=>ifP t15_28 false h25 n26 (fun k29=>aA (aQ 258 (ptr nx)) fun t17_33=>k29 t17_33 h25 n26) fun t17_30 h31 n32=>ifP t15_28 false h31 n32 (fun k34=>aA (load1 ro h31 t17_30) fun t18_38=>k34 t18_38 h31 n32) fun t18_35 h36 n37=>ifP t15_28 false h36 n37 (fun k39=>aA (bI t18_35) fun t19_43=>k39 t19_43 h36 n37) fun t19_40 h41 n42=>ifP t15_28 false h41 n42 (fun k44=>aA (aO .lss t19_40 (Value.int IntKind.i64 1)) fun t20_48=>k44 t20_48 h41 n42) fun t20_45 h46 n47=>aA (bH t15_28 (Value.bool true) t20_45) fun t21_49=>ifP t21_49 false h46 n47 (fun k50=>aA (aQ 258 (ptr nx)) fun t23_54=>k50 t23_54 h46 n47) fun t23_51 h52 n53=>ifP t21_49 false h52 n53 (fun k55=>aA (load1 ro h52 t23_51) fun t24_59=>k55 t24_59 h52 n53) fun t24_56 h57 n58=>ifP t21_49 false h57 n58 (fun k60=>aA (bI t24_56) fun t25_64=>k60 t25_64 h57 n58) fun t25_61 h62 n63=>ifP t21_49 false h62 n63 (fun k65=>aA (aO .gtr t25_61 (Value.int IntKind.i64 256)) fun t26_69=>k65 t26_69 h62 n63) fun t26_66 h67 n68=>aA (bH t21_49 (Value.bool true) t26_66) fun t27_70=>ifP t27_70 false h67 n68 (fun k71=>aA (aQ 258 (ptr nx)) fun t29_75=>k71 t29_75 h67 n68) fun t29_72 h73 n74=>ifP t27_70 false h73 n74 (fun k76=>aA (load1 ro h73 t29_72) fun t30_80=>k76 t30_80 h73 n74) fun t30_77 h78 n79=>ifP t27_70 false h78 n79 (fun k81=>aA (cL 4 t30_77 (Value.int IntKind.i64 0)) fun t31_85=>k81 t31_85 h78 n79) fun t31_82 h83 n84=>ifP t27_70 false h83 n84 (fun k86=>aA (aQ 0 t31_82) fun t32_90=>k86 t32_90 h83 n84) fun t32_87 h88 n89=>ifP t27_70 false h88 n89 (fun k91=>aA (load1 ro h88 t32_87) fun t33_95=>k91 t33_95 h88 n89) fun t33_92 h93 n94=>ifP t27_70 false h93 n94 (fun k96=>aA (bI t33_92) fun t34_100=>k96 t34_100 h93 n94) fun t34_97 h98 n99=>ifP t27_70 false h98 n99 (fun k101=>aA (aQ 258 (ptr nx)) fun t35_105=>k101 t35_105 h98 n99) fun t35_102 h103 n104=>ifP t27_70 false h103 n104 (fun k106=>aA (load1 ro h103 t35_102) fun t36_110=>k106 t36_110 h103 n104) fun t36_107 h108 n109=>ifP t27_70 false h108 n109 (fun k111=>aA (cL 4 t36_107 (Value.int IntKind.i64 0)) fun t37_115=>k111 t37_115 h108 n109) fun t37_112 h113 n114=>ifP t27_70 false h113 n114 (fun k116=>aA (aQ 1 t37_112) fun t38_120=>k116 t38_120 h113 n114) fun t38_117 h118 n119=>ifP t27_70 false h118 n119 (fun k121=>aA (load1 ro h118 t38_117) fun t39_125=>k121 t39_125 h118 n119) fun t39_122 h123 n124=>ifP t27_70 false h123 n124 (fun k126=>aA (bI t39_122) fun t40_130=>k126 t40_130 h123 n124) fun t40_127 h128 n129=>ifP t27_70 false h128 n129 (fun k131=>aA (aO .add t34_97 t40_127) fun t41_135=>k131 t41_135 h128 n129) fun t41_132 h133 n134=>ifP t27_70 false h133 n134 (fun k136=>aA (aO .gtr t41_132 (Value.int IntKind.i64 0)) fun t42_140=>k136 t42_140 h133 n134) fun t42_137 h138 n139=>aA (bH t27_70 (Value.bool true) t42_137) fun t43_141=>aS t43_141 (∃ h142,Sub h142 h138∧K (Value.bool false) h142 (n139+1)) (aA (aQ 257 (ptr nx)) fun t44_155=>aA (load1 ro h138 t44_155) fun t45_156=>aA (bI t45_156) fun t46_157=>dS (tI ro) (puts (gQ [v0]) [(1,(ptr nx)),(2,(Value.bool false)),(6,t6_2),(7,t7_3),(8,t8_4),(9,t9_7),(10,t9_7),(11,t11_9),(12,t12_14),(13,t13_19),(14,t14_24),(15,t15_28),(16,t15_28),(17,t17_30),(18,t18_35),(19,t19_40),(20,t20_45),(21,t21_49),(22,t21_49),(23,t23_51),(24,t24_56),(25,t25_61),(26,t26_66),(27,t27_70),(28,t27_70),(29,t29_72),(30,t30_77),(31,t31_82),(32,t32_87),(33,t33_92),(34,t34_97),(35,t35_102),(36,t36_107),(37,t37_112),(38,t38_117),(39,t39_122),(40,t40_127),(41,t41_132),(42,t42_137),(43,t43_141),(44,t44_155),(45,t45_156),(46,t46_157),(47,(Value.int IntKind.i64 0))]) h138 (n139+4) fun x229 e226 h227 n228=>exP x229 (kD ro K e226 h227 n228) (fun i230=>cO (Nat.beq i230 0) (kD ro K e226 h227 n228) (False)) (∃ h231,Sub h231 h227∧K (e226 2) h231 n228))
theorem aEv (ro:Ro) (v0:Value) (h:T Obj) (nx:Nat) (K:KV):a9 Tryz.prog ro (aN Tryz.prog ro) Tryz.f74 [v0] h nx K=aA6 ro v0 h nx K:=by kernel_rfl
theorem aEw {ro:Ro} {v0:Value} {h:T Obj} {nx:Nat} {K:KV} (hw:aA6 ro v0 h nx K):aN Tryz.prog ro qS [v0] h nx K:=a7 (P:=Tryz.prog) (fn:=Tryz.f74) (by kernel_rfl) (by kernel_rfl) (by kernel_rfl) (Eq.mpr (aEv ro v0 h nx K) hw)
@[irreducible] def sR (ro:Ro) (K:KV):Env→T Obj→Nat→Prop:=fun e h nx=>∃ h144,Sub h144 h∧K (Value.bool true) h144 (nx+1)
@[irreducible] def yK (ro:Ro):PT:=fun e h nx Q=>aA (aQ 258 (e 1)) fun t79_145=>aA (load1 ro h t79_145) fun t80_146=>aA (bI t80_146) fun t81_147=>aA (aO .lss (e 5) t81_147) fun t82_148=>aS t82_148 (aA (loadA ro h 259 (e 1)) fun t85_149=>aA (aQ 258 (e 1)) fun t86_150=>aA (load1 ro h t86_150) fun t87_151=>aA (cL 4 t87_151 (e 5)) fun t89_152=>aA (loadA ro h 4 t89_152) fun t90_153=>aN Tryz.prog ro tS [t85_149,t90_153] h (nx+13) fun t91_154 h155 n156=>aA (unV .not t91_154) fun t92_157=>aS t92_157 (Q .ret (puts e [(78,(e 5)),(79,t79_145),(80,t80_146),(81,t81_147),(82,t82_148),(85,t85_149),(86,t86_150),(87,t87_151),(88,(e 5)),(89,t89_152),(90,t90_153),(91,t91_154),(92,t92_157),(2,(Value.bool false))]) h155 (n156+1)) (aA (aO .add (e 5) (Value.int IntKind.i64 1)) fun t84_158=>Q .normal (puts e [(78,(e 5)),(79,t79_145),(80,t80_146),(81,t81_147),(82,t82_148),(85,t85_149),(86,t86_150),(87,t87_151),(88,(e 5)),(89,t89_152),(90,t90_153),(91,t91_154),(92,t92_157),(83,(e 5)),(84,t84_158),(5,t84_158)]) h155 (n156+3))) (Q (.exit 2) (puts e [(78,(e 5)),(79,t79_145),(80,t80_146),(81,t81_147),(82,t82_148)]) h (nx+5))
@[irreducible] def nZ (ro:Ro) (K:KV):Env→T Obj→Nat→Prop:=fun e h nx=>dS (yK ro) (puts e [(5,(Value.int IntKind.i64 0))]) h (nx+1) fun x162 e159 h160 n161=>exP x162 (sR ro K e159 h160 n161) (fun i163=>cO (Nat.beq i163 2) (sR ro K e159 h160 n161) (False)) (∃ h164,Sub h164 h160∧K (e159 2) h164 n161)
@[irreducible] def yL (ro:Ro):PT:=fun e h nx Q=>aA (aQ 257 (e 1)) fun t47_165=>aA (load1 ro h t47_165) fun t48_166=>aA (bI t48_166) fun t49_167=>aA (aO .lss (e 3) t49_167) fun t50_168=>aS t50_168 (aA (aQ 257 (e 1)) fun t53_169=>aA (load1 ro h t53_169) fun t54_170=>aA (cL 2 t54_170 (e 3)) fun t56_171=>aA (loadA ro h 2 t56_171) fun t57_172=>aA (zer Tryz.prog gD) fun z173=>cM h (nx+10) (.cells z173.cells gD) fun h174=>aA (bV 2 h174 (ptr (nx+10)) t57_172) fun h175=>aA (ixArr 2 1 (ptr (nx+10)) (Value.int IntKind.i64 0)) fun t58_176=>aA (load1 ro h175 t58_176) fun t59_177=>aA (aO .lss t59_177 (Value.int IntKind.i64 1)) fun t60_178=>ifP t60_178 false h175 (nx+16) (fun k179=>aA (ixArr 2 1 (ptr (nx+10)) (Value.int IntKind.i64 0)) fun t62_183=>k179 t62_183 h175 (nx+17)) fun t62_180 h181 n182=>ifP t60_178 false h181 n182 (fun k184=>aA (load1 ro h181 t62_180) fun t63_188=>k184 t63_188 h181 (n182+1)) fun t63_185 h186 n187=>ifP t60_178 false h186 n187 (fun k189=>aA (ixArr 2 1 (ptr (nx+10)) (Value.int IntKind.i64 1)) fun t64_193=>k189 t64_193 h186 (n187+1)) fun t64_190 h191 n192=>ifP t60_178 false h191 n192 (fun k194=>aA (load1 ro h191 t64_190) fun t65_198=>k194 t65_198 h191 (n192+1)) fun t65_195 h196 n197=>ifP t60_178 false h196 n197 (fun k199=>aA (aO .gtr t63_185 t65_195) fun t66_203=>k199 t66_203 h196 (n197+1)) fun t66_200 h201 n202=>aA (bH t60_178 (Value.bool true) t66_200) fun t67_204=>ifP t67_204 false h201 (n202+2) (fun k205=>aA (ixArr 2 1 (ptr (nx+10)) (Value.int IntKind.i64 1)) fun t69_209=>k205 t69_209 h201 (n202+3)) fun t69_206 h207 n208=>ifP t67_204 false h207 n208 (fun k210=>aA (load1 ro h207 t69_206) fun t70_214=>k210 t70_214 h207 (n208+1)) fun t70_211 h212 n213=>ifP t67_204 false h212 n213 (fun k215=>aA (aO .lss t70_211 (Value.int IntKind.i64 2)) fun t71_219=>k215 t71_219 h212 (n213+1)) fun t71_216 h217 n218=>aA (bH t67_204 (Value.bool true) t71_216) fun t72_220=>ifP t72_220 false h217 (n218+2) (fun k221=>aA (ixArr 2 1 (ptr (nx+10)) (Value.int IntKind.i64 1)) fun t74_225=>k221 t74_225 h217 (n218+3)) fun t74_222 h223 n224=>ifP t72_220 false h223 n224 (fun k226=>aA (load1 ro h223 t74_222) fun t75_230=>k226 t75_230 h223 (n224+1)) fun t75_227 h228 n229=>ifP t72_220 false h228 n229 (fun k231=>aA (aO .gtr t75_227 (Value.int IntKind.i64 4096)) fun t76_235=>k231 t76_235 h228 (n229+1)) fun t76_232 h233 n234=>aA (bH t72_220 (Value.bool true) t76_232) fun t77_236=>aS t77_236 (Q .ret (puts e [(46,(e 3)),(47,t47_165),(48,t48_166),(49,t49_167),(50,t50_168),(53,t53_169),(54,t54_170),(55,(e 3)),(56,t56_171),(57,t57_172),(4,(ptr (nx+10))),(58,t58_176),(59,t59_177),(60,t60_178),(61,t60_178),(62,t62_180),(63,t63_185),(64,t64_190),(65,t65_195),(66,t66_200),(67,t67_204),(68,t67_204),(69,t69_206),(70,t70_211),(71,t71_216),(72,t72_220),(73,t72_220),(74,t74_222),(75,t75_227),(76,t76_232),(77,t77_236),(2,(Value.bool false))]) h233 (n234+2)) (aA (aO .add (e 3) (Value.int IntKind.i64 1)) fun t52_237=>Q .normal (puts e [(46,(e 3)),(47,t47_165),(48,t48_166),(49,t49_167),(50,t50_168),(53,t53_169),(54,t54_170),(55,(e 3)),(56,t56_171),(57,t57_172),(4,(ptr (nx+10))),(58,t58_176),(59,t59_177),(60,t60_178),(61,t60_178),(62,t62_180),(63,t63_185),(64,t64_190),(65,t65_195),(66,t66_200),(67,t67_204),(68,t67_204),(69,t69_206),(70,t70_211),(71,t71_216),(72,t72_220),(73,t72_220),(74,t74_222),(75,t75_227),(76,t76_232),(77,t77_236),(51,(e 3)),(52,t52_237),(3,t52_237)]) h233 (n234+4))) (Q (.exit 0) (puts e [(46,(e 3)),(47,t47_165),(48,t48_166),(49,t49_167),(50,t50_168)]) h (nx+5))
@[irreducible] def yJ (ro:Ro) (v0:Value) (h:T Obj) (nx:Nat) (K:KV):Prop:=cM h nx (.cells (Value.cells v0) bG) fun h1=>aA (aQ 0 (ptr nx)) fun t6_2=>aA (loadA ro h1 257 t6_2) fun t7_3=>aN Tryz.prog ro tO [t7_3] h1 (nx+5) fun t8_4 h5 n6=>aA (unV .not t8_4) fun t9_7=>ifP t9_7 false h5 (n6+2) (fun k8=>aA (aQ 257 (ptr nx)) fun t11_12=>k8 t11_12 h5 (n6+3)) fun t11_9 h10 n11=>ifP t9_7 false h10 n11 (fun k13=>aA (load1 ro h10 t11_9) fun t12_17=>k13 t12_17 h10 (n11+1)) fun t12_14 h15 n16=>ifP t9_7 false h15 n16 (fun k18=>aA (bI t12_14) fun t13_22=>k18 t13_22 h15 (n16+1)) fun t13_19 h20 n21=>ifP t9_7 false h20 n21 (fun k23=>aA (aO .gtr t13_19 (Value.int IntKind.i64 512)) fun t14_27=>k23 t14_27 h20 (n21+1)) fun t14_24 h25 n26=>aA (bH t9_7 (Value.bool true) t14_24) fun t15_28=>ifP t15_28 false h25 (n26+2) (fun k29=>aA (aQ 258 (ptr nx)) fun t17_33=>k29 t17_33 h25 (n26+3)) fun t17_30 h31 n32=>ifP t15_28 false h31 n32 (fun k34=>aA (load1 ro h31 t17_30) fun t18_38=>k34 t18_38 h31 (n32+1)) fun t18_35 h36 n37=>ifP t15_28 false h36 n37 (fun k39=>aA (bI t18_35) fun t19_43=>k39 t19_43 h36 (n37+1)) fun t19_40 h41 n42=>ifP t15_28 false h41 n42 (fun k44=>aA (aO .lss t19_40 (Value.int IntKind.i64 1)) fun t20_48=>k44 t20_48 h41 (n42+1)) fun t20_45 h46 n47=>aA (bH t15_28 (Value.bool true) t20_45) fun t21_49=>ifP t21_49 false h46 (n47+2) (fun k50=>aA (aQ 258 (ptr nx)) fun t23_54=>k50 t23_54 h46 (n47+3)) fun t23_51 h52 n53=>ifP t21_49 false h52 n53 (fun k55=>aA (load1 ro h52 t23_51) fun t24_59=>k55 t24_59 h52 (n53+1)) fun t24_56 h57 n58=>ifP t21_49 false h57 n58 (fun k60=>aA (bI t24_56) fun t25_64=>k60 t25_64 h57 (n58+1)) fun t25_61 h62 n63=>ifP t21_49 false h62 n63 (fun k65=>aA (aO .gtr t25_61 (Value.int IntKind.i64 256)) fun t26_69=>k65 t26_69 h62 (n63+1)) fun t26_66 h67 n68=>aA (bH t21_49 (Value.bool true) t26_66) fun t27_70=>ifP t27_70 false h67 (n68+2) (fun k71=>aA (aQ 258 (ptr nx)) fun t29_75=>k71 t29_75 h67 (n68+3)) fun t29_72 h73 n74=>ifP t27_70 false h73 n74 (fun k76=>aA (load1 ro h73 t29_72) fun t30_80=>k76 t30_80 h73 (n74+1)) fun t30_77 h78 n79=>ifP t27_70 false h78 n79 (fun k81=>aA (cL 4 t30_77 (Value.int IntKind.i64 0)) fun t31_85=>k81 t31_85 h78 (n79+1)) fun t31_82 h83 n84=>ifP t27_70 false h83 n84 (fun k86=>aA (aQ 0 t31_82) fun t32_90=>k86 t32_90 h83 (n84+1)) fun t32_87 h88 n89=>ifP t27_70 false h88 n89 (fun k91=>aA (load1 ro h88 t32_87) fun t33_95=>k91 t33_95 h88 (n89+1)) fun t33_92 h93 n94=>ifP t27_70 false h93 n94 (fun k96=>aA (bI t33_92) fun t34_100=>k96 t34_100 h93 (n94+1)) fun t34_97 h98 n99=>ifP t27_70 false h98 n99 (fun k101=>aA (aO .gtr t34_97 (Value.int IntKind.i64 0)) fun t35_105=>k101 t35_105 h98 (n99+1)) fun t35_102 h103 n104=>aA (bH t27_70 (Value.bool true) t35_102) fun t36_106=>ifP t36_106 false h103 (n104+2) (fun k107=>aA (aQ 258 (ptr nx)) fun t38_111=>k107 t38_111 h103 (n104+3)) fun t38_108 h109 n110=>ifP t36_106 false h109 n110 (fun k112=>aA (load1 ro h109 t38_108) fun t39_116=>k112 t39_116 h109 (n110+1)) fun t39_113 h114 n115=>ifP t36_106 false h114 n115 (fun k117=>aA (cL 4 t39_113 (Value.int IntKind.i64 0)) fun t40_121=>k117 t40_121 h114 (n115+1)) fun t40_118 h119 n120=>ifP t36_106 false h119 n120 (fun k122=>aA (aQ 1 t40_118) fun t41_126=>k122 t41_126 h119 (n120+1)) fun t41_123 h124 n125=>ifP t36_106 false h124 n125 (fun k127=>aA (load1 ro h124 t41_123) fun t42_131=>k127 t42_131 h124 (n125+1)) fun t42_128 h129 n130=>ifP t36_106 false h129 n130 (fun k132=>aA (bI t42_128) fun t43_136=>k132 t43_136 h129 (n130+1)) fun t43_133 h134 n135=>ifP t36_106 false h134 n135 (fun k137=>aA (aO .gtr t43_133 (Value.int IntKind.i64 0)) fun t44_141=>k137 t44_141 h134 (n135+1)) fun t44_138 h139 n140=>aA (bH t36_106 (Value.bool true) t44_138) fun t45_142=>aS t45_142 (∃ h143,Sub h143 h139∧K (Value.bool false) h143 (n140+2)) (dS (yL ro) (puts (gQ [v0]) [(1,(ptr nx)),(2,(Value.bool false)),(6,t6_2),(7,t7_3),(8,t8_4),(9,t9_7),(10,t9_7),(11,t11_9),(12,t12_14),(13,t13_19),(14,t14_24),(15,t15_28),(16,t15_28),(17,t17_30),(18,t18_35),(19,t19_40),(20,t20_45),(21,t21_49),(22,t21_49),(23,t23_51),(24,t24_56),(25,t25_61),(26,t26_66),(27,t27_70),(28,t27_70),(29,t29_72),(30,t30_77),(31,t31_82),(32,t32_87),(33,t33_92),(34,t34_97),(35,t35_102),(36,t36_106),(37,t36_106),(38,t38_108),(39,t39_113),(40,t40_118),(41,t41_123),(42,t42_128),(43,t43_133),(44,t44_138),(45,t45_142),(3,(Value.int IntKind.i64 0))]) h139 (n140+2) fun x241 e238 h239 n240=>exP x241 (nZ ro K e238 h239 n240) (fun i242=>cO (Nat.beq i242 0) (nZ ro K e238 h239 n240) (False)) (∃ h243,Sub h243 h239∧K (e238 2) h243 n240))
theorem aEQ (ro:Ro) (v0:Value) (h:T Obj) (nx:Nat) (K:KV):a9 Tryz.prog ro (aN Tryz.prog ro) Tryz.f83 [v0] h nx K=yJ ro v0 h nx K:=by kernel_rfl
theorem aER {ro:Ro} {v0:Value} {h:T Obj} {nx:Nat} {K:KV} (hw:yJ ro v0 h nx K):aN Tryz.prog ro tR [v0] h nx K:=a7 (P:=Tryz.prog) (fn:=Tryz.f83) (by kernel_rfl) (by kernel_rfl) (by kernel_rfl) (Eq.mpr (aEQ ro v0 h nx K) hw)
@[irreducible] def sQ (ro:Ro) (K:KV):Env→T Obj→Nat→Prop:=fun e h nx=>∃ h13,Sub h13 h∧K (e 3) h13 (nx+2)
@[irreducible] def yI (ro:Ro):PT:=fun e h nx Q=>aA (aO .lss (e 4) (e 0)) fun t13_14=>aS t13_14 (aA (aO .mul (e 3) (Value.int IntKind.i64 3)) fun t17_15=>aA (aO .add (e 4) (Value.int IntKind.i64 1)) fun t15_16=>Q .normal (puts e [(11,(e 4)),(12,(e 0)),(13,t13_14),(16,(e 3)),(17,t17_15),(3,t17_15),(14,(e 4)),(15,t15_16),(4,t15_16)]) h (nx+9)) (Q (.exit 0) (puts e [(11,(e 4)),(12,(e 0)),(13,t13_14)]) h (nx+3))
@[irreducible] def yH (ro:Ro) (v0:Value) (h:T Obj) (nx:Nat) (K:KV):Prop:=aA (aO .lss v0 (Value.int IntKind.i64 0)) fun t6_1=>ifP t6_1 false h (nx+4) (fun k2=>k2 v0 h (nx+5)) fun t8_3 h4 n5=>ifP t6_1 false h4 n5 (fun k6=>aA (aO .gtr t8_3 (Value.int IntKind.i64 3)) fun t9_10=>k6 t9_10 h4 (n5+1)) fun t9_7 h8 n9=>aA (bH t6_1 (Value.bool true) t9_7) fun t10_11=>aS t10_11 (∃ h12,Sub h12 h8∧K (Value.int IntKind.i64 0) h12 (n9+2)) (dS (yI ro) (puts (gQ [v0]) [(2,(Value.int IntKind.i64 0)),(5,v0),(6,t6_1),(7,t6_1),(8,t8_3),(9,t9_7),(10,t10_11),(3,(Value.int IntKind.i64 1)),(4,(Value.int IntKind.i64 0))]) h8 (n9+3) fun x20 e17 h18 n19=>exP x20 (sQ ro K e17 h18 n19) (fun i21=>cO (Nat.beq i21 0) (sQ ro K e17 h18 n19) (False)) (∃ h22,Sub h22 h18∧K (e17 2) h22 n19))
theorem aEO (ro:Ro) (v0:Value) (h:T Obj) (nx:Nat) (K:KV):a9 Tryz.prog ro (aN Tryz.prog ro) Tryz.f102 [v0] h nx K=yH ro v0 h nx K:=by kernel_rfl
theorem aEP {ro:Ro} {v0:Value} {h:T Obj} {nx:Nat} {K:KV} (hw:yH ro v0 h nx K):aN Tryz.prog ro tQ [v0] h nx K:=a7 (P:=Tryz.prog) (fn:=Tryz.f102) (by kernel_rfl) (by kernel_rfl) (by kernel_rfl) (Eq.mpr (aEO ro v0 h nx K) hw)
@[irreducible] def eJ (ro:Ro) (K:KV):Env→T Obj→Nat→Prop:=fun e h nx=>∃ h1,Sub h1 h∧K (Value.int IntKind.i64 (-1)) h1 (nx+1)
@[irreducible] def gH (ro:Ro):PT:=fun e h nx Q=>aA (aO .lss (e 8) (e 7)) fun t9_3=>aS t9_3 (aA (cL 260 (e 0) (e 8)) fun t14_4=>aA (loadA ro h 260 t14_4) fun t15_5=>xG (aN Tryz.prog ro) (e 1) [t15_5] h (nx+9) fun t16_6 h7 n8=>aS t16_6 (Q .ret (puts e [(9,t9_3),(10,(e 8)),(5,(e 8)),(11,(e 1)),(12,(e 0)),(13,(e 8)),(14,t14_4),(15,t15_5),(16,t16_6),(17,(e 8)),(4,(e 8))]) h7 (n8+2)) (aA (aO .add (e 8) (Value.int IntKind.i64 1)) fun t18_9=>Q .normal (puts e [(9,t9_3),(10,(e 8)),(5,(e 8)),(11,(e 1)),(12,(e 0)),(13,(e 8)),(14,t14_4),(15,t15_5),(16,t16_6),(18,t18_9),(8,t18_9)]) h7 (n8+2))) (Q (.exit 0) (puts e [(9,t9_3)]) h (nx+1))
@[irreducible] def fA (ro:Ro) (v0 v1:Value) (h:T Obj) (nx:Nat) (K:KV):Prop:=aA (bI v0) fun t7_2=>dS (gH ro) (puts (gQ [v0,v1]) [(4,(Value.int IntKind.i64 0)),(6,v0),(7,t7_2),(8,(Value.int IntKind.i64 0))]) h (nx+4) fun x13 e10 h11 n12=>exP x13 (eJ ro K e10 h11 n12) (fun i14=>cO (Nat.beq i14 0) (eJ ro K e10 h11 n12) (False)) (∃ h15,Sub h15 h11∧K (e10 4) h15 n12)
theorem kO (ro:Ro) (v0 v1:Value) (h:T Obj) (nx:Nat) (K:KV):a9 Tryz.prog ro (aN Tryz.prog ro) Tryz.f111 [v0,v1] h nx K=fA ro v0 v1 h nx K:=by kernel_rfl
theorem kP {ro:Ro} {v0 v1:Value} {h:T Obj} {nx:Nat} {K:KV} (hw:fA ro v0 v1 h nx K):aN Tryz.prog ro eN [v0,v1] h nx K:=a7 (P:=Tryz.prog) (fn:=Tryz.f111) (by kernel_rfl) (by kernel_rfl) (by kernel_rfl) (Eq.mpr (kO ro v0 v1 h nx K) hw)
@[irreducible] def eH (ro:Ro) (v0 v1:Value) (h:T Obj) (nx:Nat) (K:KV):Prop:=aN Tryz.prog ro eO [v0,v1] h (nx+4) fun t7_1 h2 n3=>aA (aO .geq t7_1 (Value.int IntKind.i64 0)) fun t8_4=>∃ h5,Sub h5 h2∧K t8_4 h5 (n3+2)
theorem j7 (ro:Ro) (v0 v1:Value) (h:T Obj) (nx:Nat) (K:KV):a9 Tryz.prog ro (aN Tryz.prog ro) Tryz.f112 [v0,v1] h nx K=eH ro v0 v1 h nx K:=by kernel_rfl
theorem j8 {ro:Ro} {v0 v1:Value} {h:T Obj} {nx:Nat} {K:KV} (hw:eH ro v0 v1 h nx K):aN Tryz.prog ro dE [v0,v1] h nx K:=a7 (P:=Tryz.prog) (fn:=Tryz.f112) (by kernel_rfl) (by kernel_rfl) (by kernel_rfl) (Eq.mpr (j7 ro v0 v1 h nx K) hw)
@[irreducible] def iJ (ro:Ro) (K:KV):Env→T Obj→Nat→Prop:=fun e h nx=>∃ h3,Sub h3 h∧K (e 3) h3 (nx+2)
@[irreducible] def oW (ro:Ro):PT:=fun e h nx Q=>aA (bI (e 0)) fun t14_4=>aA (aO .lss (e 4) t14_4) fun t15_5=>aS t15_5 (aA (cL 1 (e 0) (e 4)) fun t21_6=>aA (load1 ro h t21_6) fun t22_7=>aA (fO Tryz.prog h .max #[dW,dW] [(e 3),t22_7]) fun t23_8=>aA (aO .add (e 4) (Value.int IntKind.i64 1)) fun t17_9=>Q .normal (puts e [(12,(e 4)),(13,(e 0)),(14,t14_4),(15,t15_5),(18,(e 3)),(19,(e 0)),(20,(e 4)),(21,t21_6),(22,t22_7),(23,t23_8),(3,t23_8),(16,(e 4)),(17,t17_9),(4,t17_9)]) h (nx+14)) (Q (.exit 0) (puts e [(12,(e 4)),(13,(e 0)),(14,t14_4),(15,t15_5)]) h (nx+4))
@[irreducible] def kJ (ro:Ro) (K:KV):Env→T Obj→Nat→Prop:=fun e h nx=>aA (cL 1 (e 0) (Value.int IntKind.i64 0)) fun t10_1=>aA (load1 ro h t10_1) fun t11_2=>dS (oW ro) (puts e [(9,(e 0)),(10,t10_1),(11,t11_2),(3,t11_2),(4,(Value.int IntKind.i64 1))]) h (nx+5) fun x13 e10 h11 n12=>exP x13 (iJ ro K e10 h11 n12) (fun i14=>cO (Nat.beq i14 0) (iJ ro K e10 h11 n12) (False)) (∃ h15,Sub h15 h11∧K (e10 2) h15 n12)
@[irreducible] def mX (ro:Ro) (v0:Value) (h:T Obj) (nx:Nat) (K:KV):Prop:=aA (bI v0) fun t6_16=>aA (aO .lss t6_16 (Value.int IntKind.i64 1)) fun t7_17=>aS t7_17 (False) (kJ ro K (puts (gQ [v0]) [(2,(Value.int IntKind.i64 0)),(5,v0),(6,t6_16),(7,t7_17)]) h (nx+4))
theorem w8 (ro:Ro) (v0:Value) (h:T Obj) (nx:Nat) (K:KV):a9 Tryz.prog ro (aN Tryz.prog ro) Tryz.f114 [v0] h nx K=mX ro v0 h nx K:=by kernel_rfl
theorem w9 {ro:Ro} {v0:Value} {h:T Obj} {nx:Nat} {K:KV} (hw:mX ro v0 h nx K):aN Tryz.prog ro lC [v0] h nx K:=a7 (P:=Tryz.prog) (fn:=Tryz.f114) (by kernel_rfl) (by kernel_rfl) (by kernel_rfl) (Eq.mpr (w8 ro v0 h nx K) hw)
@[irreducible] def sZ (ro:Ro) (K:KV):Env→T Obj→Nat→Prop:=fun e h nx=>aA (aQ 256 (e 1)) fun t25_2=>aA (load1 ro h t25_2) fun t26_3=>aA (aO .eql (e 3) t26_3) fun t27_4=>∃ h5,Sub h5 h∧K t27_4 h5 (nx+5)
@[irreducible] def oL (ro:Ro) (Q:KE):Env→T Obj→Nat→Prop:=fun e h nx=>aA (aO .add (e 8) (Value.int IntKind.i64 1)) fun t23_9=>Q .normal (puts e [(23,t23_9),(8,t23_9)]) h (nx+2)
@[irreducible] def zF (ro:Ro):PT:=fun e h nx Q=>aA (aO .lss (e 8) (Value.int IntKind.i64 256)) fun t9_8=>aS t9_8 (aA (aNp 256 1 (e 7) (e 8)) fun t10_10=>aA (wH .i64 t10_10) fun t13_11=>aA (aO .gtr t13_11 (e 3)) fun t15_12=>aS t15_12 (Q .ret (puts e [(9,t9_8),(10,t10_10),(5,t10_10),(12,t10_10),(13,t13_11),(14,(e 3)),(15,t15_12),(11,t15_12),(2,(Value.bool false))]) h (nx+9)) (aA (wH .i64 t10_10) fun t18_13=>aA (aO .eql t18_13 (e 3)) fun t20_14=>aS t20_14 (aA (aO .add (e 3) (Value.int IntKind.i64 1)) fun t22_15=>oL ro Q (puts e [(9,t9_8),(10,t10_10),(5,t10_10),(12,t10_10),(13,t13_11),(14,(e 3)),(15,t15_12),(11,t15_12),(17,t10_10),(18,t18_13),(19,(e 3)),(20,t20_14),(16,t20_14),(21,(e 3)),(22,t22_15),(3,t22_15)]) h (nx+16)) (oL ro Q (puts e [(9,t9_8),(10,t10_10),(5,t10_10),(12,t10_10),(13,t13_11),(14,(e 3)),(15,t15_12),(11,t15_12),(17,t10_10),(18,t18_13),(19,(e 3)),(20,t20_14),(16,t20_14)]) h (nx+13)))) (Q (.exit 0) (puts e [(9,t9_8)]) h (nx+1))
@[irreducible] def zE (ro:Ro) (v0:Value) (h:T Obj) (nx:Nat) (K:KV):Prop:=cM h nx (.cells (Value.cells v0) dC) fun h1=>aA (aQ 0 (ptr nx)) fun t6_6=>aA (loadA ro h1 256 t6_6) fun t7_7=>dS (zF ro) (puts (gQ [v0]) [(1,(ptr nx)),(2,(Value.bool false)),(3,(Value.int IntKind.i64 0)),(6,t6_6),(7,t7_7),(8,(Value.int IntKind.i64 0))]) h1 (nx+6) fun x19 e16 h17 n18=>exP x19 (sZ ro K e16 h17 n18) (fun i20=>cO (Nat.beq i20 0) (sZ ro K e16 h17 n18) (False)) (∃ h21,Sub h21 h17∧K (e16 2) h21 n18)
theorem aEb (ro:Ro) (v0:Value) (h:T Obj) (nx:Nat) (K:KV):a9 Tryz.prog ro (aN Tryz.prog ro) Tryz.f115 [v0] h nx K=zE ro v0 h nx K:=by kernel_rfl
theorem aEc {ro:Ro} {v0:Value} {h:T Obj} {nx:Nat} {K:KV} (hw:zE ro v0 h nx K):aN Tryz.prog ro tU [v0] h nx K:=a7 (P:=Tryz.prog) (fn:=Tryz.f115) (by kernel_rfl) (by kernel_rfl) (by kernel_rfl) (Eq.mpr (aEb ro v0 h nx K) hw)
@[irreducible] def vE (ro:Ro) (v0 v1:Value) (h:T Obj) (nx:Nat) (K:KV):Prop:=cM h nx (.cells (Value.cells v0) a8) fun h1=>aA (loadA ro h1 259 v1) fun t4_2=>aA (loadA ro h1 4 (ptr nx)) fun t5_3=>aN Tryz.prog ro kZ [t4_2,t5_3] h1 (nx+5) fun t6_4 h5 n6=>aA (unV .not t6_4) fun t7_7=>∃ h8,Sub h8 h5∧K t7_7 h8 (n6+2)
theorem aCl (ro:Ro) (v0 v1:Value) (h:T Obj) (nx:Nat) (K:KV):a9 Tryz.prog ro (aN Tryz.prog ro) Tryz.f116 [v0,v1] h nx K=vE ro v0 v1 h nx K:=by kernel_rfl
theorem aCm {ro:Ro} {v0 v1:Value} {h:T Obj} {nx:Nat} {K:KV} (hw:vE ro v0 v1 h nx K):aN Tryz.prog ro sD [v0,v1] h nx K:=a7 (P:=Tryz.prog) (fn:=Tryz.f116) (by kernel_rfl) (by kernel_rfl) (by kernel_rfl) (Eq.mpr (aCl ro v0 v1 h nx K) hw)
@[irreducible] def kF (ro:Ro) (K:KV):Env→T Obj→Nat→Prop:=fun e h nx=>∃ h127,Sub h127 h∧K (Value.bool true) h127 (nx+1)
@[irreducible] def oR (ro:Ro):PT:=fun e h nx Q=>aA (aO .lss (e 47) (e 46)) fun t48_131=>aS t48_131 (aA (cL 1 (e 45) (e 47)) fun t50_132=>aA (load1 ro h t50_132) fun t51_133=>aA (aQ 2 (e 3)) fun t52_134=>aA (load1 ro h t52_134) fun t53_135=>aA (cL 1 t53_135 (e 47)) fun t55_136=>aA (load1 ro h t55_136) fun t56_137=>aA (aO .lss t56_137 (Value.int IntKind.i64 (-1))) fun t57_138=>ifP t57_138 false h (nx+13) (fun k139=>aA (aQ 2 (e 3)) fun t59_143=>k139 t59_143 h (nx+14)) fun t59_140 h141 n142=>ifP t57_138 false h141 n142 (fun k144=>aA (load1 ro h141 t59_140) fun t60_148=>k144 t60_148 h141 (n142+1)) fun t60_145 h146 n147=>ifP t57_138 false h146 n147 (fun k149=>k149 (e 47) h146 (n147+1)) fun t61_150 h151 n152=>ifP t57_138 false h151 n152 (fun k153=>aA (cL 1 t60_145 t61_150) fun t62_157=>k153 t62_157 h151 (n152+1)) fun t62_154 h155 n156=>ifP t57_138 false h155 n156 (fun k158=>aA (load1 ro h155 t62_154) fun t63_162=>k158 t63_162 h155 (n156+1)) fun t63_159 h160 n161=>ifP t57_138 false h160 n161 (fun k163=>aA (aO .geq t63_159 (Value.int IntKind.i64 512)) fun t64_167=>k163 t64_167 h160 (n161+1)) fun t64_164 h165 n166=>aA (bH t57_138 (Value.bool true) t64_164) fun t65_168=>ifP t65_168 false h165 (n166+2) (fun k169=>k169 t51_133 h165 (n166+3)) fun t67_170 h171 n172=>ifP t65_168 false h171 n172 (fun k173=>aA (bI t67_170) fun t68_177=>k173 t68_177 h171 (n172+1)) fun t68_174 h175 n176=>ifP t65_168 false h175 n176 (fun k178=>aA (aQ 0 (e 2)) fun t69_182=>k178 t69_182 h175 (n176+1)) fun t69_179 h180 n181=>ifP t65_168 false h180 n181 (fun k183=>aA (aQ 0 t69_179) fun t70_187=>k183 t70_187 h180 (n181+1)) fun t70_184 h185 n186=>ifP t65_168 false h185 n186 (fun k188=>aA (aQ 256 t70_184) fun t71_192=>k188 t71_192 h185 (n186+1)) fun t71_189 h190 n191=>ifP t65_168 false h190 n191 (fun k193=>aA (load1 ro h190 t71_189) fun t72_197=>k193 t72_197 h190 (n191+1)) fun t72_194 h195 n196=>ifP t65_168 false h195 n196 (fun k198=>aA (aO .neq t68_174 t72_194) fun t73_202=>k198 t73_202 h195 (n196+1)) fun t73_199 h200 n201=>aA (bH t65_168 (Value.bool true) t73_199) fun t74_203=>aS t74_203 (Q .ret (puts e [(48,t48_131),(49,(e 47)),(50,t50_132),(51,t51_133),(6,(e 47)),(7,t51_133),(52,t52_134),(53,t53_135),(54,(e 47)),(55,t55_136),(56,t56_137),(57,t57_138),(58,t57_138),(59,t59_140),(60,t60_145),(61,t61_150),(62,t62_154),(63,t63_159),(64,t64_164),(65,t65_168),(66,t65_168),(67,t67_170),(68,t68_174),(69,t69_179),(70,t70_184),(71,t71_189),(72,t72_194),(73,t73_199),(74,t74_203),(4,(Value.bool false))]) h200 (n201+2)) (aN Tryz.prog ro eF [t51_133,(.func (.func fP) #[] #[(e 2),(e 3)])] h200 (n201+4) fun t77_204 h205 n206=>aS t77_204 (Q .ret (puts e [(48,t48_131),(49,(e 47)),(50,t50_132),(51,t51_133),(6,(e 47)),(7,t51_133),(52,t52_134),(53,t53_135),(54,(e 47)),(55,t55_136),(56,t56_137),(57,t57_138),(58,t57_138),(59,t59_140),(60,t60_145),(61,t61_150),(62,t62_154),(63,t63_159),(64,t64_164),(65,t65_168),(66,t65_168),(67,t67_170),(68,t68_174),(69,t69_179),(70,t70_184),(71,t71_189),(72,t72_194),(73,t73_199),(74,t74_203),(75,t51_133),(76,(.func (.func fP) #[] #[(e 2),(e 3)])),(77,t77_204),(4,(Value.bool false))]) h205 (n206+1)) (aA (aO .add (e 47) (Value.int IntKind.i64 1)) fun t78_207=>Q .normal (puts e [(48,t48_131),(49,(e 47)),(50,t50_132),(51,t51_133),(6,(e 47)),(7,t51_133),(52,t52_134),(53,t53_135),(54,(e 47)),(55,t55_136),(56,t56_137),(57,t57_138),(58,t57_138),(59,t59_140),(60,t60_145),(61,t61_150),(62,t62_154),(63,t63_159),(64,t64_164),(65,t65_168),(66,t65_168),(67,t67_170),(68,t68_174),(69,t69_179),(70,t70_184),(71,t71_189),(72,t72_194),(73,t73_199),(74,t74_203),(75,t51_133),(76,(.func (.func fP) #[] #[(e 2),(e 3)])),(77,t77_204),(78,t78_207),(47,t78_207)]) h205 (n206+2)))) (Q (.exit 0) (puts e [(48,t48_131)]) h (nx+1))
@[irreducible] def mN (ro:Ro) (v0 v1:Value) (h:T Obj) (nx:Nat) (K:KV):Prop:=cM h nx (.cells (Value.cells v0) dP) fun h1=>cM h1 (nx+1) (.cells (Value.cells v1) a8) fun h2=>aA (aQ 1 (ptr (nx+1))) fun t8_3=>aA (load1 ro h2 t8_3) fun t9_4=>aA (bI t9_4) fun t10_5=>aN Tryz.prog ro vI [t10_5] h2 (nx+7) fun t11_6 h7 n8=>aA (aO .eql t11_6 (Value.int IntKind.i64 0)) fun t13_9=>ifP t13_9 false h7 (n8+4) (fun k10=>aA (aQ 2 (ptr (nx+1))) fun t15_14=>k10 t15_14 h7 (n8+5)) fun t15_11 h12 n13=>ifP t13_9 false h12 n13 (fun k15=>aA (load1 ro h12 t15_11) fun t16_19=>k15 t16_19 h12 (n13+1)) fun t16_16 h17 n18=>ifP t13_9 false h17 n18 (fun k20=>aA (bI t16_16) fun t17_24=>k20 t17_24 h17 (n18+1)) fun t17_21 h22 n23=>ifP t13_9 false h22 n23 (fun k25=>k25 t11_6 h22 (n23+1)) fun t18_26 h27 n28=>ifP t13_9 false h27 n28 (fun k29=>aA (aO .neq t17_21 t18_26) fun t19_33=>k29 t19_33 h27 (n28+1)) fun t19_30 h31 n32=>aA (bH t13_9 (Value.bool true) t19_30) fun t20_34=>ifP t20_34 false h31 (n32+2) (fun k35=>aA (aQ 3 (ptr (nx+1))) fun t22_39=>k35 t22_39 h31 (n32+3)) fun t22_36 h37 n38=>ifP t20_34 false h37 n38 (fun k40=>aA (load1 ro h37 t22_36) fun t23_44=>k40 t23_44 h37 (n38+1)) fun t23_41 h42 n43=>ifP t20_34 false h42 n43 (fun k45=>aA (bI t23_41) fun t24_49=>k45 t24_49 h42 (n43+1)) fun t24_46 h47 n48=>ifP t20_34 false h47 n48 (fun k50=>k50 t11_6 h47 (n48+1)) fun t25_51 h52 n53=>ifP t20_34 false h52 n53 (fun k54=>aA (aO .neq t24_46 t25_51) fun t26_58=>k54 t26_58 h52 (n53+1)) fun t26_55 h56 n57=>aA (bH t20_34 (Value.bool true) t26_55) fun t27_59=>ifP t27_59 false h56 (n57+2) (fun k60=>aA (aQ 0 (ptr (nx+1))) fun t29_64=>k60 t29_64 h56 (n57+3)) fun t29_61 h62 n63=>ifP t27_59 false h62 n63 (fun k65=>aA (load1 ro h62 t29_61) fun t30_69=>k65 t30_69 h62 (n63+1)) fun t30_66 h67 n68=>ifP t27_59 false h67 n68 (fun k70=>aN Tryz.prog ro qT [t30_66,(Value.int IntKind.i64 512)] h67 (n68+1) fun t31_74 h75 n76=>k70 t31_74 h75 n76) fun t31_71 h72 n73=>ifP t27_59 false h72 n73 (fun k77=>aA (unV .not t31_71) fun t32_81=>k77 t32_81 h72 (n73+1)) fun t32_78 h79 n80=>aA (bH t27_59 (Value.bool true) t32_78) fun t33_82=>ifP t33_82 false h79 (n80+2) (fun k83=>aA (aQ 1 (ptr (nx+1))) fun t35_87=>k83 t35_87 h79 (n80+3)) fun t35_84 h85 n86=>ifP t33_82 false h85 n86 (fun k88=>aA (load1 ro h85 t35_84) fun t36_92=>k88 t36_92 h85 (n86+1)) fun t36_89 h90 n91=>ifP t33_82 false h90 n91 (fun k93=>aA (aQ 0 (ptr nx)) fun t37_97=>k93 t37_97 h90 (n91+1)) fun t37_94 h95 n96=>ifP t33_82 false h95 n96 (fun k98=>aA (aQ 257 t37_94) fun t38_102=>k98 t38_102 h95 (n96+1)) fun t38_99 h100 n101=>ifP t33_82 false h100 n101 (fun k103=>aA (load1 ro h100 t38_99) fun t39_107=>k103 t39_107 h100 (n101+1)) fun t39_104 h105 n106=>ifP t33_82 false h105 n106 (fun k108=>aA (bI t39_104) fun t40_112=>k108 t40_112 h105 (n106+1)) fun t40_109 h110 n111=>ifP t33_82 false h110 n111 (fun k113=>aN Tryz.prog ro qT [t36_89,t40_109] h110 (n111+1) fun t41_117 h118 n119=>k113 t41_117 h118 n119) fun t41_114 h115 n116=>ifP t33_82 false h115 n116 (fun k120=>aA (unV .not t41_114) fun t42_124=>k120 t42_124 h115 (n116+1)) fun t42_121 h122 n123=>aA (bH t33_82 (Value.bool true) t42_121) fun t43_125=>aS t43_125 (∃ h126,Sub h126 h122∧K (Value.bool false) h126 (n123+2)) (aA (aQ 3 (ptr (nx+1))) fun t44_128=>aA (load1 ro h122 t44_128) fun t45_129=>aA (bI t45_129) fun t46_130=>dS (oR ro) (puts (gQ [v0,v1]) [(2,(ptr nx)),(3,(ptr (nx+1))),(4,(Value.bool false)),(8,t8_3),(9,t9_4),(10,t10_5),(11,t11_6),(5,t11_6),(12,t11_6),(13,t13_9),(14,t13_9),(15,t15_11),(16,t16_16),(17,t17_21),(18,t18_26),(19,t19_30),(20,t20_34),(21,t20_34),(22,t22_36),(23,t23_41),(24,t24_46),(25,t25_51),(26,t26_55),(27,t27_59),(28,t27_59),(29,t29_61),(30,t30_66),(31,t31_71),(32,t32_78),(33,t33_82),(34,t33_82),(35,t35_84),(36,t36_89),(37,t37_94),(38,t38_99),(39,t39_104),(40,t40_109),(41,t41_114),(42,t42_121),(43,t43_125),(44,t44_128),(45,t45_129),(46,t46_130),(47,(Value.int IntKind.i64 0))]) h122 (n123+5) fun x211 e208 h209 n210=>exP x211 (kF ro K e208 h209 n210) (fun i212=>cO (Nat.beq i212 0) (kF ro K e208 h209 n210) (False)) (∃ h213,Sub h213 h209∧K (e208 4) h213 n210))
theorem wN (ro:Ro) (v0 v1:Value) (h:T Obj) (nx:Nat) (K:KV):a9 Tryz.prog ro (aN Tryz.prog ro) Tryz.f117 [v0,v1] h nx K=mN ro v0 v1 h nx K:=by kernel_rfl
theorem wO {ro:Ro} {v0 v1:Value} {h:T Obj} {nx:Nat} {K:KV} (hw:mN ro v0 v1 h nx K):aN Tryz.prog ro kZ [v0,v1] h nx K:=a7 (P:=Tryz.prog) (fn:=Tryz.f117) (by kernel_rfl) (by kernel_rfl) (by kernel_rfl) (Eq.mpr (wN ro v0 v1 h nx K) hw)
@[irreducible] def i7 (ro:Ro) (v0:Value) (h:T Obj) (nx:Nat) (K:KV):Prop:=aA (slB .eql v0 (Value.slice none 0 0)) fun t4_1=>aS t4_1 (∃ h2,Sub h2 h∧K (Value.slice none 0 0) h2 (nx+4)) (aA (bU Tryz.prog lK (nx+3) 0 []) fun r3=>eQ h (nx+3) r3.2 fun h4=>aA (cR Tryz.prog ro h4 (nx+6) #[lK,lK] [r3.1,v0]) fun r5=>∃ h6,Sub h6 r5.2.1∧K r5.1 h6 (r5.2.2+1))
theorem rA (ro:Ro) (v0:Value) (h:T Obj) (nx:Nat) (K:KV):a9 Tryz.prog ro (aN Tryz.prog ro) Tryz.f118 [v0] h nx K=i7 ro v0 h nx K:=by kernel_rfl
theorem rB {ro:Ro} {v0:Value} {h:T Obj} {nx:Nat} {K:KV} (hw:i7 ro v0 h nx K):aN Tryz.prog ro hZ [v0] h nx K:=a7 (P:=Tryz.prog) (fn:=Tryz.f118) (by kernel_rfl) (by kernel_rfl) (by kernel_rfl) (Eq.mpr (rA ro v0 h nx K) hw)
@[irreducible] def gF (ro:Ro) (v0:Value) (h:T Obj) (nx:Nat) (K:KV):Prop:=aA (slB .eql v0 (Value.slice none 0 0)) fun t4_1=>aS t4_1 (∃ h2,Sub h2 h∧K (Value.slice none 0 0) h2 (nx+4)) (aA (bU Tryz.prog d4 (nx+3) 0 []) fun r3=>eQ h (nx+3) r3.2 fun h4=>aA (cR Tryz.prog ro h4 (nx+6) #[d4,d4] [r3.1,v0]) fun r5=>∃ h6,Sub h6 r5.2.1∧K r5.1 h6 (r5.2.2+1))
theorem nH (ro:Ro) (v0:Value) (h:T Obj) (nx:Nat) (K:KV):a9 Tryz.prog ro (aN Tryz.prog ro) Tryz.f119 [v0] h nx K=gF ro v0 h nx K:=by kernel_rfl
theorem nI {ro:Ro} {v0:Value} {h:T Obj} {nx:Nat} {K:KV} (hw:gF ro v0 h nx K):aN Tryz.prog ro fS [v0] h nx K:=a7 (P:=Tryz.prog) (fn:=Tryz.f119) (by kernel_rfl) (by kernel_rfl) (by kernel_rfl) (Eq.mpr (nH ro v0 h nx K) hw)
@[irreducible] def i8 (ro:Ro) (v0:Value) (h:T Obj) (nx:Nat) (K:KV):Prop:=aA (slB .eql v0 (Value.slice none 0 0)) fun t4_1=>aS t4_1 (∃ h2,Sub h2 h∧K (Value.slice none 0 0) h2 (nx+4)) (aA (bU Tryz.prog bM (nx+3) 0 []) fun r3=>eQ h (nx+3) r3.2 fun h4=>aA (cR Tryz.prog ro h4 (nx+6) #[bM,bM] [r3.1,v0]) fun r5=>∃ h6,Sub h6 r5.2.1∧K r5.1 h6 (r5.2.2+1))
theorem rC (ro:Ro) (v0:Value) (h:T Obj) (nx:Nat) (K:KV):a9 Tryz.prog ro (aN Tryz.prog ro) Tryz.f120 [v0] h nx K=i8 ro v0 h nx K:=by kernel_rfl
theorem rD {ro:Ro} {v0:Value} {h:T Obj} {nx:Nat} {K:KV} (hw:i8 ro v0 h nx K):aN Tryz.prog ro iA [v0] h nx K:=a7 (P:=Tryz.prog) (fn:=Tryz.f120) (by kernel_rfl) (by kernel_rfl) (by kernel_rfl) (Eq.mpr (rC ro v0 h nx K) hw)
@[irreducible] def sP (ro:Ro) (K:KV):Env→T Obj→Nat→Prop:=fun e h nx=>aA (aQ 256 (e 1)) fun t26_2=>aA (load1 ro h t26_2) fun t27_3=>aA (aO .eql (e 3) t27_3) fun t28_4=>∃ h5,Sub h5 h∧K t28_4 h5 (nx+5)
@[irreducible] def nY (ro:Ro) (Q:KE):Env→T Obj→Nat→Prop:=fun e h nx=>aA (aO .add (e 4) (Value.int IntKind.i64 1)) fun t8_7=>Q .normal (puts e [(7,(e 4)),(8,t8_7),(4,t8_7)]) h (nx+3)
@[irreducible] def yF (ro:Ro):PT:=fun e h nx Q=>aA (aO .lss (e 4) (Value.int IntKind.i64 256)) fun t6_6=>aS t6_6 (aA (aQ 0 (e 1)) fun t10_8=>aA (ixArr 256 1 t10_8 (e 4)) fun t11_9=>aA (load1 ro h t11_9) fun t12_10=>aA (wH .i64 t12_10) fun t13_11=>aA (aO .gtr t13_11 (e 3)) fun t15_12=>aS t15_12 (Q .ret (puts e [(5,(e 4)),(6,t6_6),(9,(e 4)),(10,t10_8),(11,t11_9),(12,t12_10),(13,t13_11),(14,(e 3)),(15,t15_12),(2,(Value.bool false))]) h (nx+10)) (aA (aQ 0 (e 1)) fun t17_13=>aA (ixArr 256 1 t17_13 (e 4)) fun t18_14=>aA (load1 ro h t18_14) fun t19_15=>aA (wH .i64 t19_15) fun t20_16=>aA (aO .eql t20_16 (e 3)) fun t22_17=>aS t22_17 (aA (aO .add (e 3) (Value.int IntKind.i64 1)) fun t24_18=>nY ro Q (puts e [(5,(e 4)),(6,t6_6),(9,(e 4)),(10,t10_8),(11,t11_9),(12,t12_10),(13,t13_11),(14,(e 3)),(15,t15_12),(16,(e 4)),(17,t17_13),(18,t18_14),(19,t19_15),(20,t20_16),(21,(e 3)),(22,t22_17),(23,(e 3)),(24,t24_18),(3,t24_18)]) h (nx+19)) (nY ro Q (puts e [(5,(e 4)),(6,t6_6),(9,(e 4)),(10,t10_8),(11,t11_9),(12,t12_10),(13,t13_11),(14,(e 3)),(15,t15_12),(16,(e 4)),(17,t17_13),(18,t18_14),(19,t19_15),(20,t20_16),(21,(e 3)),(22,t22_17)]) h (nx+16)))) (Q (.exit 0) (puts e [(5,(e 4)),(6,t6_6)]) h (nx+2))
@[irreducible] def yE (ro:Ro) (v0:Value) (h:T Obj) (nx:Nat) (K:KV):Prop:=cM h nx (.cells (Value.cells v0) dC) fun h1=>dS (yF ro) (puts (gQ [v0]) [(1,(ptr nx)),(2,(Value.bool false)),(3,(Value.int IntKind.i64 0)),(4,(Value.int IntKind.i64 0))]) h1 (nx+4) fun x22 e19 h20 n21=>exP x22 (sP ro K e19 h20 n21) (fun i23=>cO (Nat.beq i23 0) (sP ro K e19 h20 n21) (False)) (∃ h24,Sub h24 h20∧K (e19 2) h24 n21)
theorem aEJ (ro:Ro) (v0:Value) (h:T Obj) (nx:Nat) (K:KV):a9 Tryz.prog ro (aN Tryz.prog ro) Tryz.f126 [v0] h nx K=yE ro v0 h nx K:=by kernel_rfl
theorem aEK {ro:Ro} {v0:Value} {h:T Obj} {nx:Nat} {K:KV} (hw:yE ro v0 h nx K):aN Tryz.prog ro tO [v0] h nx K:=a7 (P:=Tryz.prog) (fn:=Tryz.f126) (by kernel_rfl) (by kernel_rfl) (by kernel_rfl) (Eq.mpr (aEJ ro v0 h nx K) hw)
@[irreducible] def sT (ro:Ro) (K:KV):Env→T Obj→Nat→Prop:=fun e h nx=>∃ h122,Sub h122 h∧K (Value.bool true) h122 (nx+1)
@[irreducible] def lE (ro:Ro) (Q:KE):Env→T Obj→Nat→Prop:=fun e h nx=>aA (aO .add (e 6) (Value.int IntKind.i64 1)) fun t47_124=>Q .normal (puts e [(46,(e 6)),(47,t47_124),(6,t47_124)]) h (nx+3)
@[irreducible] def yR (ro:Ro):PT:=fun e h nx Q=>aA (aQ 3 (e 3)) fun t75_210=>aA (load1 ro h t75_210) fun t76_211=>aA (cL 1 t76_211 (e 6)) fun t78_212=>aA (load1 ro h t78_212) fun t79_213=>aA (bI t79_213) fun t80_214=>aA (aO .lss (e 7) t80_214) fun t81_215=>aS t81_215 (aA (loadA ro h 259 (e 2)) fun t84_216=>aA (loadA ro h 4 (e 3)) fun t85_217=>aA (aQ 3 (e 3)) fun t86_218=>aA (load1 ro h t86_218) fun t87_219=>aA (cL 1 t87_219 (e 6)) fun t89_220=>aA (load1 ro h t89_220) fun t90_221=>aA (cL 2 t90_221 (e 7)) fun t92_222=>aA (loadA ro h 2 t92_222) fun t93_223=>aN Tryz.prog ro vM [t84_216,t85_217,t93_223] h (nx+20) fun t94_224 h225 n226=>aA (unV .not t94_224) fun t95_227=>aS t95_227 (Q .ret (puts e [(74,(e 7)),(75,t75_210),(76,t76_211),(77,(e 6)),(78,t78_212),(79,t79_213),(80,t80_214),(81,t81_215),(84,t84_216),(85,t85_217),(86,t86_218),(87,t87_219),(88,(e 6)),(89,t89_220),(90,t90_221),(91,(e 7)),(92,t92_222),(93,t93_223),(94,t94_224),(95,t95_227),(4,(Value.bool false))]) h225 (n226+1)) (aA (aO .add (e 7) (Value.int IntKind.i64 1)) fun t83_228=>Q .normal (puts e [(74,(e 7)),(75,t75_210),(76,t76_211),(77,(e 6)),(78,t78_212),(79,t79_213),(80,t80_214),(81,t81_215),(84,t84_216),(85,t85_217),(86,t86_218),(87,t87_219),(88,(e 6)),(89,t89_220),(90,t90_221),(91,(e 7)),(92,t92_222),(93,t93_223),(94,t94_224),(95,t95_227),(82,(e 7)),(83,t83_228),(7,t83_228)]) h225 (n226+3))) (Q (.exit 2) (puts e [(74,(e 7)),(75,t75_210),(76,t76_211),(77,(e 6)),(78,t78_212),(79,t79_213),(80,t80_214),(81,t81_215)]) h (nx+8))
@[irreducible] def yQ (ro:Ro):PT:=fun e h nx Q=>aA (aO .lss (e 6) (e 5)) fun t45_123=>aS t45_123 (aA (aQ 2 (e 3)) fun t48_125=>aA (load1 ro h t48_125) fun t49_126=>aA (cL 1 t49_126 (e 6)) fun t51_127=>aA (load1 ro h t51_127) fun t52_128=>aA (aO .lss t52_128 (Value.int IntKind.i64 (-1))) fun t53_129=>ifP t53_129 false h (nx+29) (fun k130=>aA (aQ 2 (e 3)) fun t55_134=>k130 t55_134 h (nx+29)) fun t55_131 h132 n133=>ifP t53_129 false h132 n133 (fun k135=>aA (load1 ro h132 t55_131) fun t56_139=>k135 t56_139 h132 n133) fun t56_136 h137 n138=>ifP t53_129 false h137 n138 (fun k140=>k140 (e 6) h137 n138) fun t57_141 h142 n143=>ifP t53_129 false h142 n143 (fun k144=>aA (cL 1 t56_136 t57_141) fun t58_148=>k144 t58_148 h142 n143) fun t58_145 h146 n147=>ifP t53_129 false h146 n147 (fun k149=>aA (load1 ro h146 t58_145) fun t59_153=>k149 t59_153 h146 n147) fun t59_150 h151 n152=>ifP t53_129 false h151 n152 (fun k154=>aA (aO .geq t59_150 (Value.int IntKind.i64 512)) fun t60_158=>k154 t60_158 h151 n152) fun t60_155 h156 n157=>aA (bH t53_129 (Value.bool true) t60_155) fun t61_159=>ifP t61_159 false h156 n157 (fun k160=>aA (aQ 3 (e 3)) fun t63_164=>k160 t63_164 h156 n157) fun t63_161 h162 n163=>ifP t61_159 false h162 n163 (fun k165=>aA (load1 ro h162 t63_161) fun t64_169=>k165 t64_169 h162 n163) fun t64_166 h167 n168=>ifP t61_159 false h167 n168 (fun k170=>k170 (e 6) h167 n168) fun t65_171 h172 n173=>ifP t61_159 false h172 n173 (fun k174=>aA (cL 1 t64_166 t65_171) fun t66_178=>k174 t66_178 h172 n173) fun t66_175 h176 n177=>ifP t61_159 false h176 n177 (fun k179=>aA (load1 ro h176 t66_175) fun t67_183=>k179 t67_183 h176 n177) fun t67_180 h181 n182=>ifP t61_159 false h181 n182 (fun k184=>aA (bI t67_180) fun t68_188=>k184 t68_188 h181 n182) fun t68_185 h186 n187=>ifP t61_159 false h186 n187 (fun k189=>aA (aQ 0 (e 2)) fun t69_193=>k189 t69_193 h186 n187) fun t69_190 h191 n192=>ifP t61_159 false h191 n192 (fun k194=>aA (aQ 256 t69_190) fun t70_198=>k194 t70_198 h191 n192) fun t70_195 h196 n197=>ifP t61_159 false h196 n197 (fun k199=>aA (load1 ro h196 t70_195) fun t71_203=>k199 t71_203 h196 n197) fun t71_200 h201 n202=>ifP t61_159 false h201 n202 (fun k204=>aA (aO .neq t68_185 t71_200) fun t72_208=>k204 t72_208 h201 n202) fun t72_205 h206 n207=>aA (bH t61_159 (Value.bool true) t72_205) fun t73_209=>aS t73_209 (Q .ret (puts e [(43,(e 6)),(44,(e 5)),(45,t45_123),(48,t48_125),(49,t49_126),(50,(e 6)),(51,t51_127),(52,t52_128),(53,t53_129),(54,t53_129),(55,t55_131),(56,t56_136),(57,t57_141),(58,t58_145),(59,t59_150),(60,t60_155),(61,t61_159),(62,t61_159),(63,t63_161),(64,t64_166),(65,t65_171),(66,t66_175),(67,t67_180),(68,t68_185),(69,t69_190),(70,t70_195),(71,t71_200),(72,t72_205),(73,t73_209),(4,(Value.bool false))]) h206 (n207+1)) (dS (yR ro) (puts e [(43,(e 6)),(44,(e 5)),(45,t45_123),(48,t48_125),(49,t49_126),(50,(e 6)),(51,t51_127),(52,t52_128),(53,t53_129),(54,t53_129),(55,t55_131),(56,t56_136),(57,t57_141),(58,t58_145),(59,t59_150),(60,t60_155),(61,t61_159),(62,t61_159),(63,t63_161),(64,t64_166),(65,t65_171),(66,t66_175),(67,t67_180),(68,t68_185),(69,t69_190),(70,t70_195),(71,t71_200),(72,t72_205),(73,t73_209),(7,(Value.int IntKind.i64 0))]) h206 (n207+1) fun x232 e229 h230 n231=>exP x232 (lE ro Q e229 h230 n231) (fun i233=>cO (Nat.beq i233 2) (lE ro Q e229 h230 n231) (cO (Nat.beq i233 1) (lE ro Q e229 h230 n231) (Q (.exit i233) e229 h230 n231))) (Q .ret e229 h230 n231))) (Q (.exit 0) (puts e [(43,(e 6)),(44,(e 5)),(45,t45_123)]) h (nx+3))
@[irreducible] def yP (ro:Ro) (v0 v1:Value) (h:T Obj) (nx:Nat) (K:KV):Prop:=cM h nx (.cells (Value.cells v0) bG) fun h1=>cM h1 (nx+1) (.cells (Value.cells v1) a8) fun h2=>aA (aQ 1 (ptr (nx+1))) fun t8_3=>aA (load1 ro h2 t8_3) fun t9_4=>aA (bI t9_4) fun t10_5=>aN Tryz.prog ro tQ [t10_5] h2 (nx+7) fun t11_6 h7 n8=>aA (aO .eql t11_6 (Value.int IntKind.i64 0)) fun t13_9=>ifP t13_9 false h7 (n8+4) (fun k10=>aA (aQ 0 (ptr (nx+1))) fun t15_14=>k10 t15_14 h7 (n8+5)) fun t15_11 h12 n13=>ifP t13_9 false h12 n13 (fun k15=>aA (load1 ro h12 t15_11) fun t16_19=>k15 t16_19 h12 (n13+1)) fun t16_16 h17 n18=>ifP t13_9 false h17 n18 (fun k20=>aN Tryz.prog ro o9 [t16_16,(Value.int IntKind.i64 512)] h17 (n18+1) fun t17_24 h25 n26=>k20 t17_24 h25 n26) fun t17_21 h22 n23=>ifP t13_9 false h22 n23 (fun k27=>aA (unV .not t17_21) fun t18_31=>k27 t18_31 h22 (n23+1)) fun t18_28 h29 n30=>aA (bH t13_9 (Value.bool true) t18_28) fun t19_32=>ifP t19_32 false h29 (n30+2) (fun k33=>aA (aQ 1 (ptr (nx+1))) fun t21_37=>k33 t21_37 h29 (n30+3)) fun t21_34 h35 n36=>ifP t19_32 false h35 n36 (fun k38=>aA (load1 ro h35 t21_34) fun t22_42=>k38 t22_42 h35 (n36+1)) fun t22_39 h40 n41=>ifP t19_32 false h40 n41 (fun k43=>aA (aQ 257 (ptr nx)) fun t23_47=>k43 t23_47 h40 (n41+1)) fun t23_44 h45 n46=>ifP t19_32 false h45 n46 (fun k48=>aA (load1 ro h45 t23_44) fun t24_52=>k48 t24_52 h45 (n46+1)) fun t24_49 h50 n51=>ifP t19_32 false h50 n51 (fun k53=>aA (bI t24_49) fun t25_57=>k53 t25_57 h50 (n51+1)) fun t25_54 h55 n56=>ifP t19_32 false h55 n56 (fun k58=>aN Tryz.prog ro o9 [t22_39,t25_54] h55 (n56+1) fun t26_62 h63 n64=>k58 t26_62 h63 n64) fun t26_59 h60 n61=>ifP t19_32 false h60 n61 (fun k65=>aA (unV .not t26_59) fun t27_69=>k65 t27_69 h60 (n61+1)) fun t27_66 h67 n68=>aA (bH t19_32 (Value.bool true) t27_66) fun t28_70=>ifP t28_70 false h67 (n68+2) (fun k71=>aA (aQ 2 (ptr (nx+1))) fun t30_75=>k71 t30_75 h67 (n68+3)) fun t30_72 h73 n74=>ifP t28_70 false h73 n74 (fun k76=>aA (load1 ro h73 t30_72) fun t31_80=>k76 t31_80 h73 (n74+1)) fun t31_77 h78 n79=>ifP t28_70 false h78 n79 (fun k81=>aA (bI t31_77) fun t32_85=>k81 t32_85 h78 (n79+1)) fun t32_82 h83 n84=>ifP t28_70 false h83 n84 (fun k86=>k86 t11_6 h83 (n84+1)) fun t33_87 h88 n89=>ifP t28_70 false h88 n89 (fun k90=>aA (aO .neq t32_82 t33_87) fun t34_94=>k90 t34_94 h88 (n89+1)) fun t34_91 h92 n93=>aA (bH t28_70 (Value.bool true) t34_91) fun t35_95=>ifP t35_95 false h92 (n93+2) (fun k96=>aA (aQ 3 (ptr (nx+1))) fun t37_100=>k96 t37_100 h92 (n93+3)) fun t37_97 h98 n99=>ifP t35_95 false h98 n99 (fun k101=>aA (load1 ro h98 t37_97) fun t38_105=>k101 t38_105 h98 (n99+1)) fun t38_102 h103 n104=>ifP t35_95 false h103 n104 (fun k106=>aA (bI t38_102) fun t39_110=>k106 t39_110 h103 (n104+1)) fun t39_107 h108 n109=>ifP t35_95 false h108 n109 (fun k111=>k111 t11_6 h108 (n109+1)) fun t40_112 h113 n114=>ifP t35_95 false h113 n114 (fun k115=>aA (aO .neq t39_107 t40_112) fun t41_119=>k115 t41_119 h113 (n114+1)) fun t41_116 h117 n118=>aA (bH t35_95 (Value.bool true) t41_116) fun t42_120=>aS t42_120 (∃ h121,Sub h121 h117∧K (Value.bool false) h121 (n118+2)) (dS (yQ ro) (puts (gQ [v0,v1]) [(2,(ptr nx)),(3,(ptr (nx+1))),(4,(Value.bool false)),(8,t8_3),(9,t9_4),(10,t10_5),(11,t11_6),(5,t11_6),(12,t11_6),(13,t13_9),(14,t13_9),(15,t15_11),(16,t16_16),(17,t17_21),(18,t18_28),(19,t19_32),(20,t19_32),(21,t21_34),(22,t22_39),(23,t23_44),(24,t24_49),(25,t25_54),(26,t26_59),(27,t27_66),(28,t28_70),(29,t28_70),(30,t30_72),(31,t31_77),(32,t32_82),(33,t33_87),(34,t34_91),(35,t35_95),(36,t35_95),(37,t37_97),(38,t38_102),(39,t39_107),(40,t40_112),(41,t41_116),(42,t42_120),(6,(Value.int IntKind.i64 0))]) h117 (n118+2) fun x237 e234 h235 n236=>exP x237 (sT ro K e234 h235 n236) (fun i238=>cO (Nat.beq i238 0) (sT ro K e234 h235 n236) (False)) (∃ h239,Sub h239 h235∧K (e234 4) h239 n236))
theorem aEV (ro:Ro) (v0 v1:Value) (h:T Obj) (nx:Nat) (K:KV):a9 Tryz.prog ro (aN Tryz.prog ro) Tryz.f127 [v0,v1] h nx K=yP ro v0 v1 h nx K:=by kernel_rfl
theorem aEW {ro:Ro} {v0 v1:Value} {h:T Obj} {nx:Nat} {K:KV} (hw:yP ro v0 v1 h nx K):aN Tryz.prog ro tS [v0,v1] h nx K:=a7 (P:=Tryz.prog) (fn:=Tryz.f127) (by kernel_rfl) (by kernel_rfl) (by kernel_rfl) (Eq.mpr (aEV ro v0 v1 h nx K) hw)
@[irreducible] def aCG (ro:Ro) (v0 v1:Value) (h:T Obj) (nx:Nat) (K:KV):Prop:=cM h nx (.cells (Value.cells v0) dR) fun h1=>aA (aO .quo v1 (Value.int IntKind.u8 64)) fun t6_2=>aA (ixArr 4 1 (ptr nx) t6_2) fun t7_3=>aA (load1 ro h1 t7_3) fun t8_4=>aA (aO .rem v1 (Value.int IntKind.u8 64)) fun t10_5=>aA (aO .shr t8_4 t10_5) fun t11_6=>aA (aO .rem t11_6 (Value.int IntKind.u64 2)) fun t12_7=>aA (aO .eql t12_7 (Value.int IntKind.u64 1)) fun t13_8=>∃ h9,Sub h9 h1∧K t13_8 h9 (nx+12)
theorem aGv (ro:Ro) (v0 v1:Value) (h:T Obj) (nx:Nat) (K:KV):a9 Tryz.prog ro (aN Tryz.prog ro) Tryz.f135 [v0,v1] h nx K=aCG ro v0 v1 h nx K:=by kernel_rfl
theorem aGw {ro:Ro} {v0 v1:Value} {h:T Obj} {nx:Nat} {K:KV} (hw:aCG ro v0 v1 h nx K):aN Tryz.prog ro tA [v0,v1] h nx K:=a7 (P:=Tryz.prog) (fn:=Tryz.f135) (by kernel_rfl) (by kernel_rfl) (by kernel_rfl) (Eq.mpr (aGv ro v0 v1 h nx K) hw)
@[irreducible] def pD (ro:Ro) (K:KV):Env→T Obj→Nat→Prop:=fun e h nx=>aA (loadA ro h 4 (e 2)) fun t20_4=>aA (bV 4 h (e 4) t20_4) fun h5=>aA (loadA ro h5 4 (e 4)) fun r6=>∃ h7,Sub h7 h5∧K r6 h7 (nx+2)
@[irreducible] def aAo (ro:Ro) (v0 v1:Value) (h:T Obj) (nx:Nat) (K:KV):Prop:=cM h nx (.cells (Value.cells v0) dR) fun h1=>aA (zer Tryz.prog dR) fun z2=>cM h1 (nx+1) (.cells z2.cells dR) fun h3=>aA (loadA ro h3 4 (ptr nx)) fun t5_8=>aN Tryz.prog ro tA [t5_8,v1] h3 (nx+5) fun t7_9 h10 n11=>aA (unV .not t7_9) fun t8_12=>aS t8_12 (aA (aO .quo v1 (Value.int IntKind.u8 64)) fun t10_13=>aA (aO .quo v1 (Value.int IntKind.u8 64)) fun t12_14=>aA (ixArr 4 1 (ptr nx) t12_14) fun t13_15=>aA (load1 ro h10 t13_15) fun t14_16=>aA (aO .rem v1 (Value.int IntKind.u8 64)) fun t16_17=>aA (aO .shl (Value.int IntKind.u64 1) t16_17) fun t17_18=>aA (aO .add t14_16 t17_18) fun t18_19=>aA (ixArr 4 1 (ptr nx) t10_13) fun t19_20=>aA (bV 1 h10 t19_20 t18_19) fun h21=>pD ro K (puts (gQ [v0,v1]) [(2,(ptr nx)),(4,(ptr (nx+1))),(5,t5_8),(6,v1),(7,t7_9),(8,t8_12),(9,v1),(10,t10_13),(11,v1),(12,t12_14),(13,t13_15),(14,t14_16),(15,v1),(16,t16_17),(17,t17_18),(18,t18_19),(19,t19_20)]) h21 (n11+13)) (pD ro K (puts (gQ [v0,v1]) [(2,(ptr nx)),(4,(ptr (nx+1))),(5,t5_8),(6,v1),(7,t7_9),(8,t8_12)]) h10 (n11+1))
theorem aFO (ro:Ro) (v0 v1:Value) (h:T Obj) (nx:Nat) (K:KV):a9 Tryz.prog ro (aN Tryz.prog ro) Tryz.f136 [v0,v1] h nx K=aAo ro v0 v1 h nx K:=by kernel_rfl
theorem aFP {ro:Ro} {v0 v1:Value} {h:T Obj} {nx:Nat} {K:KV} (hw:aAo ro v0 v1 h nx K):aN Tryz.prog ro vL [v0,v1] h nx K:=a7 (P:=Tryz.prog) (fn:=Tryz.f136) (by kernel_rfl) (by kernel_rfl) (by kernel_rfl) (Eq.mpr (aFO ro v0 v1 h nx K) hw)
@[irreducible] def sO (ro:Ro) (K:KV):Env→T Obj→Nat→Prop:=fun e h nx=>∃ h22,Sub h22 h∧K (e 3) h22 (nx+2)
@[irreducible] def nX (ro:Ro) (Q:KE):Env→T Obj→Nat→Prop:=fun e h nx=>aA (aO .add (e 4) (Value.int IntKind.i64 1)) fun t19_26=>Q .normal (puts e [(18,(e 4)),(19,t19_26),(4,t19_26)]) h (nx+3)
@[irreducible] def yD (ro:Ro):PT:=fun e h nx Q=>aA (aQ 256 (e 1)) fun t15_23=>aA (load1 ro h t15_23) fun t16_24=>aA (aO .lss (e 4) t16_24) fun t17_25=>aS t17_25 (aA (loadA ro h 257 (e 1)) fun t20_27=>aN Tryz.prog ro x3 [t20_27,(e 4)] h (nx+7) fun t22_28 h29 n30=>aN Tryz.prog ro vK [t22_28] h29 (n30+1) fun t23_31 h32 n33=>aA (bI t23_31) fun t25_34=>aA (aO .eql t25_34 (Value.int IntKind.i64 0)) fun t26_35=>aS t26_35 (aA (bU Tryz.prog bM (n33+5) 1 [(0,(Value.int IntKind.u8 0))]) fun r36=>eQ h32 (n33+5) r36.2 fun h37=>aA (cR Tryz.prog ro h37 (n33+7) #[bM,bM] [(e 3),r36.1]) fun r38=>nX ro Q (puts e [(14,(e 4)),(15,t15_23),(16,t16_24),(17,t17_25),(20,t20_27),(21,(e 4)),(22,t22_28),(23,t23_31),(5,t23_31),(24,t23_31),(25,t25_34),(26,t26_35),(27,(e 3)),(28,r36.1),(29,r38.1),(3,r38.1)]) r38.2.1 (r38.2.2+1)) (aA (cL 1 t23_31 (Value.int IntKind.i64 0)) fun t32_39=>aA (load1 ro h32 t32_39) fun t33_40=>aA (bU Tryz.prog bM (n33+8) 1 [(0,t33_40)]) fun r41=>eQ h32 (n33+8) r41.2 fun h42=>aA (cR Tryz.prog ro h42 (n33+10) #[bM,bM] [(e 3),r41.1]) fun r43=>nX ro Q (puts e [(14,(e 4)),(15,t15_23),(16,t16_24),(17,t17_25),(20,t20_27),(21,(e 4)),(22,t22_28),(23,t23_31),(5,t23_31),(24,t23_31),(25,t25_34),(26,t26_35),(30,(e 3)),(31,t23_31),(32,t32_39),(33,t33_40),(34,r41.1),(35,r43.1),(3,r43.1)]) r43.2.1 (r43.2.2+1))) (Q (.exit 0) (puts e [(14,(e 4)),(15,t15_23),(16,t16_24),(17,t17_25)]) h (nx+4))
@[irreducible] def yC (ro:Ro) (v0:Value) (h:T Obj) (nx:Nat) (K:KV):Prop:=cM h nx (.cells (Value.cells v0) dC) fun h1=>aA (aQ 256 (ptr nx)) fun t6_2=>aA (load1 ro h1 t6_2) fun t7_3=>aA (aO .lss t7_3 (Value.int IntKind.i64 1)) fun t8_4=>ifP t8_4 false h1 (nx+6) (fun k5=>aA (aQ 256 (ptr nx)) fun t10_9=>k5 t10_9 h1 (nx+7)) fun t10_6 h7 n8=>ifP t8_4 false h7 n8 (fun k10=>aA (load1 ro h7 t10_6) fun t11_14=>k10 t11_14 h7 (n8+1)) fun t11_11 h12 n13=>ifP t8_4 false h12 n13 (fun k15=>aA (aO .gtr t11_11 (Value.int IntKind.i64 256)) fun t12_19=>k15 t12_19 h12 (n13+1)) fun t12_16 h17 n18=>aA (bH t8_4 (Value.bool true) t12_16) fun t13_20=>aS t13_20 (∃ h21,Sub h21 h17∧K (Value.slice none 0 0) h21 (n18+2)) (dS (yD ro) (puts (gQ [v0]) [(1,(ptr nx)),(2,(Value.slice none 0 0)),(6,t6_2),(7,t7_3),(8,t8_4),(9,t8_4),(10,t10_6),(11,t11_11),(12,t12_16),(13,t13_20),(3,(Value.slice none 0 0)),(4,(Value.int IntKind.i64 0))]) h17 (n18+3) fun x47 e44 h45 n46=>exP x47 (sO ro K e44 h45 n46) (fun i48=>cO (Nat.beq i48 0) (sO ro K e44 h45 n46) (False)) (∃ h49,Sub h49 h45∧K (e44 2) h49 n46))
theorem aEH (ro:Ro) (v0:Value) (h:T Obj) (nx:Nat) (K:KV):a9 Tryz.prog ro (aN Tryz.prog ro) Tryz.f147 [v0] h nx K=yC ro v0 h nx K:=by kernel_rfl
theorem aEI {ro:Ro} {v0:Value} {h:T Obj} {nx:Nat} {K:KV} (hw:yC ro v0 h nx K):aN Tryz.prog ro o8 [v0] h nx K:=a7 (P:=Tryz.prog) (fn:=Tryz.f147) (by kernel_rfl) (by kernel_rfl) (by kernel_rfl) (Eq.mpr (aEH ro v0 h nx K) hw)
@[irreducible] def eK (ro:Ro) (K:KV):Env→T Obj→Nat→Prop:=fun e h nx=>∃ h1,Sub h1 h∧K (Value.int IntKind.i64 (-1)) h1 (nx+1)
@[irreducible] def gI (ro:Ro):PT:=fun e h nx Q=>aA (aO .lss (e 8) (e 7)) fun t9_3=>aS t9_3 (aA (cL 4 (e 0) (e 8)) fun t14_4=>aA (loadA ro h 4 t14_4) fun t15_5=>xG (aN Tryz.prog ro) (e 1) [t15_5] h (nx+9) fun t16_6 h7 n8=>aS t16_6 (Q .ret (puts e [(9,t9_3),(10,(e 8)),(5,(e 8)),(11,(e 1)),(12,(e 0)),(13,(e 8)),(14,t14_4),(15,t15_5),(16,t16_6),(17,(e 8)),(4,(e 8))]) h7 (n8+2)) (aA (aO .add (e 8) (Value.int IntKind.i64 1)) fun t18_9=>Q .normal (puts e [(9,t9_3),(10,(e 8)),(5,(e 8)),(11,(e 1)),(12,(e 0)),(13,(e 8)),(14,t14_4),(15,t15_5),(16,t16_6),(18,t18_9),(8,t18_9)]) h7 (n8+2))) (Q (.exit 0) (puts e [(9,t9_3)]) h (nx+1))
@[irreducible] def fB (ro:Ro) (v0 v1:Value) (h:T Obj) (nx:Nat) (K:KV):Prop:=aA (bI v0) fun t7_2=>dS (gI ro) (puts (gQ [v0,v1]) [(4,(Value.int IntKind.i64 0)),(6,v0),(7,t7_2),(8,(Value.int IntKind.i64 0))]) h (nx+4) fun x13 e10 h11 n12=>exP x13 (eK ro K e10 h11 n12) (fun i14=>cO (Nat.beq i14 0) (eK ro K e10 h11 n12) (False)) (∃ h15,Sub h15 h11∧K (e10 4) h15 n12)
theorem kQ (ro:Ro) (v0 v1:Value) (h:T Obj) (nx:Nat) (K:KV):a9 Tryz.prog ro (aN Tryz.prog ro) Tryz.f152 [v0,v1] h nx K=fB ro v0 v1 h nx K:=by kernel_rfl
theorem kR {ro:Ro} {v0 v1:Value} {h:T Obj} {nx:Nat} {K:KV} (hw:fB ro v0 v1 h nx K):aN Tryz.prog ro eO [v0,v1] h nx K:=a7 (P:=Tryz.prog) (fn:=Tryz.f152) (by kernel_rfl) (by kernel_rfl) (by kernel_rfl) (Eq.mpr (kQ ro v0 v1 h nx K) hw)
@[irreducible] def tH (ro:Ro) (K:KV):Env→T Obj→Nat→Prop:=fun e h nx=>∃ h13,Sub h13 h∧K (e 3) h13 (nx+2)
@[irreducible] def aAF (ro:Ro):PT:=fun e h nx Q=>aA (aO .lss (e 11) (e 10)) fun t12_14=>aS t12_14 (aA (aO .mul (e 3) (Value.int IntKind.i64 3)) fun t14_15=>aA (aO .add (e 11) (Value.int IntKind.i64 1)) fun t15_16=>Q .normal (puts e [(12,t12_14),(13,(e 3)),(14,t14_15),(3,t14_15),(15,t15_16),(11,t15_16)]) h (nx+6)) (Q (.exit 0) (puts e [(12,t12_14)]) h (nx+1))
@[irreducible] def aA5 (ro:Ro) (v0:Value) (h:T Obj) (nx:Nat) (K:KV):Prop:=aA (aO .lss v0 (Value.int IntKind.i64 0)) fun t5_1=>ifP t5_1 false h (nx+4) (fun k2=>k2 v0 h (nx+5)) fun t7_3 h4 n5=>ifP t5_1 false h4 n5 (fun k6=>aA (aO .gtr t7_3 (Value.int IntKind.i64 3)) fun t8_10=>k6 t8_10 h4 (n5+1)) fun t8_7 h8 n9=>aA (bH t5_1 (Value.bool true) t8_7) fun t9_11=>aS t9_11 (∃ h12,Sub h12 h8∧K (Value.int IntKind.i64 0) h12 (n9+2)) (dS (aAF ro) (puts (gQ [v0]) [(2,(Value.int IntKind.i64 0)),(4,v0),(5,t5_1),(6,t5_1),(7,t7_3),(8,t8_7),(9,t9_11),(3,(Value.int IntKind.i64 1)),(10,v0),(11,(Value.int IntKind.i64 0))]) h8 (n9+4) fun x20 e17 h18 n19=>exP x20 (tH ro K e17 h18 n19) (fun i21=>cO (Nat.beq i21 0) (tH ro K e17 h18 n19) (False)) (∃ h22,Sub h22 h18∧K (e17 2) h22 n19))
theorem aEt (ro:Ro) (v0:Value) (h:T Obj) (nx:Nat) (K:KV):a9 Tryz.prog ro (aN Tryz.prog ro) Tryz.f153 [v0] h nx K=aA5 ro v0 h nx K:=by kernel_rfl
theorem aEu {ro:Ro} {v0:Value} {h:T Obj} {nx:Nat} {K:KV} (hw:aA5 ro v0 h nx K):aN Tryz.prog ro vI [v0] h nx K:=a7 (P:=Tryz.prog) (fn:=Tryz.f153) (by kernel_rfl) (by kernel_rfl) (by kernel_rfl) (Eq.mpr (aEt ro v0 h nx K) hw)
@[irreducible] def tJ (ro:Ro) (K:KV):Env→T Obj→Nat→Prop:=fun e h nx=>∃ h1,Sub h1 h∧K (Value.bool true) h1 (nx+1)
@[irreducible] def aAG (ro:Ro):PT:=fun e h nx Q=>aA (aO .lss (e 10) (e 9)) fun t11_3=>aS t11_3 (aA (cL 1 (e 8) (e 10)) fun t12_4=>aA (load1 ro h t12_4) fun t13_5=>aA (aO .leq t13_5 (e 5)) fun t16_6=>ifP t16_6 false h (nx+8) (fun k7=>k7 t13_5 h (nx+9)) fun t18_8 h9 n10=>ifP t16_6 false h9 n10 (fun k11=>k11 (e 1) h9 (n10+1)) fun t19_12 h13 n14=>ifP t16_6 false h13 n14 (fun k15=>aA (aO .geq t18_8 t19_12) fun t20_19=>k15 t20_19 h13 (n14+1)) fun t20_16 h17 n18=>aA (bH t16_6 (Value.bool true) t20_16) fun t21_20=>aS t21_20 (Q .ret (puts e [(11,t11_3),(12,t12_4),(13,t13_5),(7,t13_5),(14,t13_5),(15,(e 5)),(16,t16_6),(17,t16_6),(18,t18_8),(19,t19_12),(20,t20_16),(21,t21_20),(4,(Value.bool false))]) h17 (n18+2)) (aA (aO .add (e 10) (Value.int IntKind.i64 1)) fun t23_21=>Q .normal (puts e [(11,t11_3),(12,t12_4),(13,t13_5),(7,t13_5),(14,t13_5),(15,(e 5)),(16,t16_6),(17,t16_6),(18,t18_8),(19,t19_12),(20,t20_16),(21,t21_20),(22,t13_5),(5,t13_5),(23,t23_21),(10,t23_21)]) h17 (n18+5))) (Q (.exit 0) (puts e [(11,t11_3)]) h (nx+1))
@[irreducible] def aA7 (ro:Ro) (v0 v1:Value) (h:T Obj) (nx:Nat) (K:KV):Prop:=aA (bI v0) fun t9_2=>dS (aAG ro) (puts (gQ [v0,v1]) [(4,(Value.bool false)),(5,(Value.int IntKind.i64 (-1))),(8,v0),(9,t9_2),(10,(Value.int IntKind.i64 0))]) h (nx+5) fun x25 e22 h23 n24=>exP x25 (tJ ro K e22 h23 n24) (fun i26=>cO (Nat.beq i26 0) (tJ ro K e22 h23 n24) (False)) (∃ h27,Sub h27 h23∧K (e22 4) h27 n24)
theorem aEx (ro:Ro) (v0 v1:Value) (h:T Obj) (nx:Nat) (K:KV):a9 Tryz.prog ro (aN Tryz.prog ro) Tryz.f154 [v0,v1] h nx K=aA7 ro v0 v1 h nx K:=by kernel_rfl
theorem aEy {ro:Ro} {v0 v1:Value} {h:T Obj} {nx:Nat} {K:KV} (hw:aA7 ro v0 v1 h nx K):aN Tryz.prog ro qT [v0,v1] h nx K:=a7 (P:=Tryz.prog) (fn:=Tryz.f154) (by kernel_rfl) (by kernel_rfl) (by kernel_rfl) (Eq.mpr (aEx ro v0 v1 h nx K) hw)
@[irreducible] def eS (ro:Ro) (v0 v1:Value) (h:T Obj) (nx:Nat) (K:KV):Prop:=aN Tryz.prog ro eY [v0,v1] h (nx+4) fun t7_1 h2 n3=>aA (aO .geq t7_1 (Value.int IntKind.i64 0)) fun t8_4=>∃ h5,Sub h5 h2∧K t8_4 h5 (n3+2)
theorem kH (ro:Ro) (v0 v1:Value) (h:T Obj) (nx:Nat) (K:KV):a9 Tryz.prog ro (aN Tryz.prog ro) Tryz.f155 [v0,v1] h nx K=eS ro v0 v1 h nx K:=by kernel_rfl
theorem kI {ro:Ro} {v0 v1:Value} {h:T Obj} {nx:Nat} {K:KV} (hw:eS ro v0 v1 h nx K):aN Tryz.prog ro eF [v0,v1] h nx K:=a7 (P:=Tryz.prog) (fn:=Tryz.f155) (by kernel_rfl) (by kernel_rfl) (by kernel_rfl) (Eq.mpr (kH ro v0 v1 h nx K) hw)
@[irreducible] def kU (ro:Ro) (v0 v1 v2:Value) (h:T Obj) (nx:Nat) (K:KV):Prop:=cM h nx (.cells (Value.cells v0) b7) fun h1=>aA (loadA ro h1 259 v1) fun t5_2=>aA (loadA ro h1 4 v2) fun t6_3=>aA (loadA ro h1 2 (ptr nx)) fun t7_4=>aN Tryz.prog ro lV [t5_2,t6_3,t7_4] h1 (nx+6) fun t8_5 h6 n7=>aA (unV .not t8_5) fun t9_8=>∃ h9,Sub h9 h6∧K t9_8 h9 (n7+2)
theorem uG (ro:Ro) (v0 v1 v2:Value) (h:T Obj) (nx:Nat) (K:KV):a9 Tryz.prog ro (aN Tryz.prog ro) Tryz.f156 [v0,v1,v2] h nx K=kU ro v0 v1 v2 h nx K:=by kernel_rfl
theorem uH {ro:Ro} {v0 v1 v2:Value} {h:T Obj} {nx:Nat} {K:KV} (hw:kU ro v0 v1 v2 h nx K):aN Tryz.prog ro fP [v0,v1,v2] h nx K:=a7 (P:=Tryz.prog) (fn:=Tryz.f156) (by kernel_rfl) (by kernel_rfl) (by kernel_rfl) (Eq.mpr (uG ro v0 v1 v2 h nx K) hw)
@[irreducible] def kT (ro:Ro) (K:KV):Env→T Obj→Nat→Prop:=fun e h nx=>∃ h118,Sub h118 h∧K (Value.bool true) h118 (nx+1)
@[irreducible] def pH (ro:Ro):PT:=fun e h nx Q=>aA (aO .lss (e 46) (e 45)) fun t47_122=>aS t47_122 (aA (cL 1 (e 44) (e 46)) fun t49_123=>aA (load1 ro h t49_123) fun t50_124=>aA (aO .lss t50_124 (Value.int IntKind.u8 1)) fun t52_125=>ifP t52_125 false h (nx+33) (fun k126=>k126 t50_124 h (nx+33)) fun t54_127 h128 n129=>ifP t52_125 false h128 n129 (fun k130=>aA (aO .gtr t54_127 (Value.int IntKind.u8 3)) fun t55_134=>k130 t55_134 h128 n129) fun t55_131 h132 n133=>aA (bH t52_125 (Value.bool true) t55_131) fun t56_135=>ifP t56_135 false h132 n133 (fun k136=>k136 t50_124 h132 n133) fun t58_137 h138 n139=>ifP t56_135 false h138 n139 (fun k140=>aA (aO .neq t58_137 (Value.int IntKind.u8 3)) fun t59_144=>k140 t59_144 h138 n139) fun t59_141 h142 n143=>ifP t56_135 false h142 n143 (fun k145=>k145 t59_141 h142 n143) fun t60_146 h147 n148=>ifP t60_146 true h147 n148 (fun k149=>aA (aQ 1 (e 4)) fun t61_153=>k149 t61_153 h147 n148) fun t61_150 h151 n152=>ifP t60_146 true h151 n152 (fun k154=>aA (load1 ro h151 t61_150) fun t62_158=>k154 t62_158 h151 n152) fun t62_155 h156 n157=>ifP t60_146 true h156 n157 (fun k159=>aA (aQ 0 (e 3)) fun t63_163=>k159 t63_163 h156 n157) fun t63_160 h161 n162=>ifP t60_146 true h161 n162 (fun k164=>aA (aQ 258 t63_160) fun t64_168=>k164 t64_168 h161 n162) fun t64_165 h166 n167=>ifP t60_146 true h166 n167 (fun k169=>aA (load1 ro h166 t64_165) fun t65_173=>k169 t65_173 h166 n167) fun t65_170 h171 n172=>ifP t60_146 true h171 n172 (fun k174=>aA (aQ 0 (e 5)) fun t66_178=>k174 t66_178 h171 n172) fun t66_175 h176 n177=>ifP t60_146 true h176 n177 (fun k179=>aA (load1 ro h176 t66_175) fun t67_183=>k179 t67_183 h176 n177) fun t67_180 h181 n182=>ifP t60_146 true h181 n182 (fun k184=>aA (cL 4 t65_170 t67_180) fun t68_188=>k184 t68_188 h181 n182) fun t68_185 h186 n187=>ifP t60_146 true h186 n187 (fun k189=>aA (aQ 1 t68_185) fun t69_193=>k189 t69_193 h186 n187) fun t69_190 h191 n192=>ifP t60_146 true h191 n192 (fun k194=>aA (load1 ro h191 t69_190) fun t70_198=>k194 t70_198 h191 n192) fun t70_195 h196 n197=>ifP t60_146 true h196 n197 (fun k199=>k199 (e 46) h196 n197) fun t71_200 h201 n202=>ifP t60_146 true h201 n202 (fun k203=>aA (cL 1 t70_195 t71_200) fun t72_207=>k203 t72_207 h201 n202) fun t72_204 h205 n206=>ifP t60_146 true h205 n206 (fun k208=>aA (load1 ro h205 t72_204) fun t73_212=>k208 t73_212 h205 n206) fun t73_209 h210 n211=>ifP t60_146 true h210 n211 (fun k213=>aN Tryz.prog ro gA [t62_155,t73_209] h210 n211 fun t74_217 h218 n219=>k213 t74_217 h218 n219) fun t74_214 h215 n216=>ifP t60_146 true h215 n216 (fun k220=>aA (unV .not t74_214) fun t75_224=>k220 t75_224 h215 n216) fun t75_221 h222 n223=>ifP t56_135 false h222 n223 (fun k225=>aA (bH t60_146 t75_221 (Value.bool false)) fun t76_229=>k225 t76_229 h222 n223) fun t76_226 h227 n228=>aA (bH t56_135 (Value.bool true) t76_226) fun t77_230=>aS t77_230 (Q .ret (puts e [(47,t47_122),(48,(e 46)),(49,t49_123),(50,t50_124),(7,(e 46)),(8,t50_124),(51,t50_124),(52,t52_125),(53,t52_125),(54,t54_127),(55,t55_131),(56,t56_135),(57,t56_135),(58,t58_137),(59,t59_141),(60,t60_146),(61,t61_150),(62,t62_155),(63,t63_160),(64,t64_165),(65,t65_170),(66,t66_175),(67,t67_180),(68,t68_185),(69,t69_190),(70,t70_195),(71,t71_200),(72,t72_204),(73,t73_209),(74,t74_214),(75,t75_221),(76,t76_226),(77,t77_230),(6,(Value.bool false))]) h227 (n228+1)) (aA (aO .add (e 46) (Value.int IntKind.i64 1)) fun t78_231=>Q .normal (puts e [(47,t47_122),(48,(e 46)),(49,t49_123),(50,t50_124),(7,(e 46)),(8,t50_124),(51,t50_124),(52,t52_125),(53,t52_125),(54,t54_127),(55,t55_131),(56,t56_135),(57,t56_135),(58,t58_137),(59,t59_141),(60,t60_146),(61,t61_150),(62,t62_155),(63,t63_160),(64,t64_165),(65,t65_170),(66,t66_175),(67,t67_180),(68,t68_185),(69,t69_190),(70,t70_195),(71,t71_200),(72,t72_204),(73,t73_209),(74,t74_214),(75,t75_221),(76,t76_226),(77,t77_230),(78,t78_231),(46,t78_231)]) h227 (n228+2))) (Q (.exit 0) (puts e [(47,t47_122)]) h (nx+1))
@[irreducible] def nJ (ro:Ro) (v0 v1 v2:Value) (h:T Obj) (nx:Nat) (K:KV):Prop:=cM h nx (.cells (Value.cells v0) dP) fun h1=>cM h1 (nx+1) (.cells (Value.cells v1) a8) fun h2=>cM h2 (nx+2) (.cells (Value.cells v2) b7) fun h3=>aA (aQ 0 (ptr (nx+2))) fun t9_4=>aA (load1 ro h3 t9_4) fun t10_5=>aA (aO .eql t10_5 (Value.int IntKind.i64 (-1))) fun t11_6=>aS t11_6 (aA (aQ 1 (ptr (nx+2))) fun t12_7=>aA (load1 ro h3 t12_7) fun t13_8=>aA (bI t13_8) fun t14_9=>aA (aO .eql t14_9 (Value.int IntKind.i64 0)) fun t15_10=>∃ h11,Sub h11 h3∧K t15_10 h11 (nx+12)) (aA (aQ 0 (ptr (nx+2))) fun t16_12=>aA (load1 ro h3 t16_12) fun t17_13=>aA (aO .lss t17_13 (Value.int IntKind.i64 1)) fun t18_14=>ifP t18_14 false h3 (nx+34) (fun k15=>aA (aQ 0 (ptr (nx+2))) fun t20_19=>k15 t20_19 h3 (nx+34)) fun t20_16 h17 n18=>ifP t18_14 false h17 n18 (fun k20=>aA (load1 ro h17 t20_16) fun t21_24=>k20 t21_24 h17 n18) fun t21_21 h22 n23=>ifP t18_14 false h22 n23 (fun k25=>aA (aQ 0 (ptr nx)) fun t22_29=>k25 t22_29 h22 n23) fun t22_26 h27 n28=>ifP t18_14 false h27 n28 (fun k30=>aA (aQ 258 t22_26) fun t23_34=>k30 t23_34 h27 n28) fun t23_31 h32 n33=>ifP t18_14 false h32 n33 (fun k35=>aA (load1 ro h32 t23_31) fun t24_39=>k35 t24_39 h32 n33) fun t24_36 h37 n38=>ifP t18_14 false h37 n38 (fun k40=>aA (bI t24_36) fun t25_44=>k40 t25_44 h37 n38) fun t25_41 h42 n43=>ifP t18_14 false h42 n43 (fun k45=>aA (aO .geq t21_21 t25_41) fun t26_49=>k45 t26_49 h42 n43) fun t26_46 h47 n48=>aA (bH t18_14 (Value.bool true) t26_46) fun t27_50=>ifP t27_50 false h47 n48 (fun k51=>aA (aQ 1 (ptr (nx+2))) fun t29_55=>k51 t29_55 h47 n48) fun t29_52 h53 n54=>ifP t27_50 false h53 n54 (fun k56=>aA (load1 ro h53 t29_52) fun t30_60=>k56 t30_60 h53 n54) fun t30_57 h58 n59=>ifP t27_50 false h58 n59 (fun k61=>aA (bI t30_57) fun t31_65=>k61 t31_65 h58 n59) fun t31_62 h63 n64=>ifP t27_50 false h63 n64 (fun k66=>aA (aQ 0 (ptr nx)) fun t32_70=>k66 t32_70 h63 n64) fun t32_67 h68 n69=>ifP t27_50 false h68 n69 (fun k71=>aA (aQ 258 t32_67) fun t33_75=>k71 t33_75 h68 n69) fun t33_72 h73 n74=>ifP t27_50 false h73 n74 (fun k76=>aA (load1 ro h73 t33_72) fun t34_80=>k76 t34_80 h73 n74) fun t34_77 h78 n79=>ifP t27_50 false h78 n79 (fun k81=>aA (aQ 0 (ptr (nx+2))) fun t35_85=>k81 t35_85 h78 n79) fun t35_82 h83 n84=>ifP t27_50 false h83 n84 (fun k86=>aA (load1 ro h83 t35_82) fun t36_90=>k86 t36_90 h83 n84) fun t36_87 h88 n89=>ifP t27_50 false h88 n89 (fun k91=>aA (cL 4 t34_77 t36_87) fun t37_95=>k91 t37_95 h88 n89) fun t37_92 h93 n94=>ifP t27_50 false h93 n94 (fun k96=>aA (aQ 1 t37_92) fun t38_100=>k96 t38_100 h93 n94) fun t38_97 h98 n99=>ifP t27_50 false h98 n99 (fun k101=>aA (load1 ro h98 t38_97) fun t39_105=>k101 t39_105 h98 n99) fun t39_102 h103 n104=>ifP t27_50 false h103 n104 (fun k106=>aA (bI t39_102) fun t40_110=>k106 t40_110 h103 n104) fun t40_107 h108 n109=>ifP t27_50 false h108 n109 (fun k111=>aA (aO .neq t31_62 t40_107) fun t41_115=>k111 t41_115 h108 n109) fun t41_112 h113 n114=>aA (bH t27_50 (Value.bool true) t41_112) fun t42_116=>aS t42_116 (∃ h117,Sub h117 h113∧K (Value.bool false) h117 (n114+1)) (aA (aQ 1 (ptr (nx+2))) fun t43_119=>aA (load1 ro h113 t43_119) fun t44_120=>aA (bI t44_120) fun t45_121=>dS (pH ro) (puts (gQ [v0,v1,v2]) [(3,(ptr nx)),(4,(ptr (nx+1))),(5,(ptr (nx+2))),(6,(Value.bool false)),(9,t9_4),(10,t10_5),(11,t11_6),(16,t16_12),(17,t17_13),(18,t18_14),(19,t18_14),(20,t20_16),(21,t21_21),(22,t22_26),(23,t23_31),(24,t24_36),(25,t25_41),(26,t26_46),(27,t27_50),(28,t27_50),(29,t29_52),(30,t30_57),(31,t31_62),(32,t32_67),(33,t33_72),(34,t34_77),(35,t35_82),(36,t36_87),(37,t37_92),(38,t38_97),(39,t39_102),(40,t40_107),(41,t41_112),(42,t42_116),(43,t43_119),(44,t44_120),(45,t45_121),(46,(Value.int IntKind.i64 0))]) h113 (n114+4) fun x235 e232 h233 n234=>exP x235 (kT ro K e232 h233 n234) (fun i236=>cO (Nat.beq i236 0) (kT ro K e232 h233 n234) (False)) (∃ h237,Sub h237 h233∧K (e232 6) h237 n234)))
theorem xE (ro:Ro) (v0 v1 v2:Value) (h:T Obj) (nx:Nat) (K:KV):a9 Tryz.prog ro (aN Tryz.prog ro) Tryz.f157 [v0,v1,v2] h nx K=nJ ro v0 v1 v2 h nx K:=by kernel_rfl
theorem xF {ro:Ro} {v0 v1 v2:Value} {h:T Obj} {nx:Nat} {K:KV} (hw:nJ ro v0 v1 v2 h nx K):aN Tryz.prog ro lV [v0,v1,v2] h nx K:=a7 (P:=Tryz.prog) (fn:=Tryz.f157) (by kernel_rfl) (by kernel_rfl) (by kernel_rfl) (Eq.mpr (xE ro v0 v1 v2 h nx K) hw)
@[irreducible] def jQ (ro:Ro) (v0 v1:Value) (h:T Obj) (nx:Nat) (K:KV):Prop:=aN Tryz.prog ro nV [v0,v1] h (nx+4) fun t7_1 h2 n3=>aA (aO .geq t7_1 (Value.int IntKind.i64 0)) fun t8_4=>∃ h5,Sub h5 h2∧K t8_4 h5 (n3+2)
theorem sX (ro:Ro) (v0 v1:Value) (h:T Obj) (nx:Nat) (K:KV):a9 Tryz.prog ro (aN Tryz.prog ro) Tryz.f164 [v0,v1] h nx K=jQ ro v0 v1 h nx K:=by kernel_rfl
theorem sY {ro:Ro} {v0 v1:Value} {h:T Obj} {nx:Nat} {K:KV} (hw:jQ ro v0 v1 h nx K):aN Tryz.prog ro gA [v0,v1] h nx K:=a7 (P:=Tryz.prog) (fn:=Tryz.f164) (by kernel_rfl) (by kernel_rfl) (by kernel_rfl) (Eq.mpr (sX ro v0 v1 h nx K) hw)
@[irreducible] def sS (ro:Ro) (K:KV):Env→T Obj→Nat→Prop:=fun e h nx=>∃ h1,Sub h1 h∧K (Value.bool true) h1 (nx+1)
@[irreducible] def yO (ro:Ro):PT:=fun e h nx Q=>aA (bI (e 0)) fun t8_2=>aA (aO .lss (e 5) t8_2) fun t9_3=>aS t9_3 (aA (cL 1 (e 0) (e 5)) fun t14_4=>aA (load1 ro h t14_4) fun t15_5=>aA (aO .lss t15_5 (Value.int IntKind.i64 0)) fun t16_6=>ifP t16_6 false h (nx+33) (fun k7=>k7 (e 0) h (nx+33)) fun t18_8 h9 n10=>ifP t16_6 false h9 n10 (fun k11=>k11 (e 5) h9 n10) fun t19_12 h13 n14=>ifP t16_6 false h13 n14 (fun k15=>aA (cL 1 t18_8 t19_12) fun t20_19=>k15 t20_19 h13 n14) fun t20_16 h17 n18=>ifP t16_6 false h17 n18 (fun k20=>aA (load1 ro h17 t20_16) fun t21_24=>k20 t21_24 h17 n18) fun t21_21 h22 n23=>ifP t16_6 false h22 n23 (fun k25=>k25 (e 1) h22 n23) fun t22_26 h27 n28=>ifP t16_6 false h27 n28 (fun k29=>aA (aO .geq t21_21 t22_26) fun t23_33=>k29 t23_33 h27 n28) fun t23_30 h31 n32=>aA (bH t16_6 (Value.bool true) t23_30) fun t24_34=>ifP t24_34 false h31 n32 (fun k35=>k35 (e 5) h31 n32) fun t26_36 h37 n38=>ifP t24_34 false h37 n38 (fun k39=>aA (aO .gtr t26_36 (Value.int IntKind.i64 0)) fun t27_43=>k39 t27_43 h37 n38) fun t27_40 h41 n42=>ifP t24_34 false h41 n42 (fun k44=>k44 t27_40 h41 n42) fun t28_45 h46 n47=>ifP t28_45 true h46 n47 (fun k48=>k48 (e 0) h46 n47) fun t29_49 h50 n51=>ifP t28_45 true h50 n51 (fun k52=>k52 (e 5) h50 n51) fun t30_53 h54 n55=>ifP t28_45 true h54 n55 (fun k56=>aA (aO .sub t30_53 (Value.int IntKind.i64 1)) fun t31_60=>k56 t31_60 h54 n55) fun t31_57 h58 n59=>ifP t28_45 true h58 n59 (fun k61=>aA (cL 1 t29_49 t31_57) fun t32_65=>k61 t32_65 h58 n59) fun t32_62 h63 n64=>ifP t28_45 true h63 n64 (fun k66=>aA (load1 ro h63 t32_62) fun t33_70=>k66 t33_70 h63 n64) fun t33_67 h68 n69=>ifP t28_45 true h68 n69 (fun k71=>k71 (e 0) h68 n69) fun t34_72 h73 n74=>ifP t28_45 true h73 n74 (fun k75=>k75 (e 5) h73 n74) fun t35_76 h77 n78=>ifP t28_45 true h77 n78 (fun k79=>aA (cL 1 t34_72 t35_76) fun t36_83=>k79 t36_83 h77 n78) fun t36_80 h81 n82=>ifP t28_45 true h81 n82 (fun k84=>aA (load1 ro h81 t36_80) fun t37_88=>k84 t37_88 h81 n82) fun t37_85 h86 n87=>ifP t28_45 true h86 n87 (fun k89=>aA (aO .geq t33_67 t37_85) fun t38_93=>k89 t38_93 h86 n87) fun t38_90 h91 n92=>ifP t24_34 false h91 n92 (fun k94=>aA (bH t28_45 t38_90 (Value.bool false)) fun t39_98=>k94 t39_98 h91 n92) fun t39_95 h96 n97=>aA (bH t24_34 (Value.bool true) t39_95) fun t40_99=>aS t40_99 (Q .ret (puts e [(6,(e 5)),(7,(e 0)),(8,t8_2),(9,t9_3),(12,(e 0)),(13,(e 5)),(14,t14_4),(15,t15_5),(16,t16_6),(17,t16_6),(18,t18_8),(19,t19_12),(20,t20_16),(21,t21_21),(22,t22_26),(23,t23_30),(24,t24_34),(25,t24_34),(26,t26_36),(27,t27_40),(28,t28_45),(29,t29_49),(30,t30_53),(31,t31_57),(32,t32_62),(33,t33_67),(34,t34_72),(35,t35_76),(36,t36_80),(37,t37_85),(38,t38_90),(39,t39_95),(40,t40_99),(4,(Value.bool false))]) h96 (n97+1)) (aA (aO .add (e 5) (Value.int IntKind.i64 1)) fun t11_100=>Q .normal (puts e [(6,(e 5)),(7,(e 0)),(8,t8_2),(9,t9_3),(12,(e 0)),(13,(e 5)),(14,t14_4),(15,t15_5),(16,t16_6),(17,t16_6),(18,t18_8),(19,t19_12),(20,t20_16),(21,t21_21),(22,t22_26),(23,t23_30),(24,t24_34),(25,t24_34),(26,t26_36),(27,t27_40),(28,t28_45),(29,t29_49),(30,t30_53),(31,t31_57),(32,t32_62),(33,t33_67),(34,t34_72),(35,t35_76),(36,t36_80),(37,t37_85),(38,t38_90),(39,t39_95),(40,t40_99),(10,(e 5)),(11,t11_100),(5,t11_100)]) h96 (n97+3))) (Q (.exit 0) (puts e [(6,(e 5)),(7,(e 0)),(8,t8_2),(9,t9_3)]) h (nx+4))
@[irreducible] def yN (ro:Ro) (v0 v1:Value) (h:T Obj) (nx:Nat) (K:KV):Prop:=dS (yO ro) (puts (gQ [v0,v1]) [(4,(Value.bool false)),(5,(Value.int IntKind.i64 0))]) h (nx+2) fun x104 e101 h102 n103=>exP x104 (sS ro K e101 h102 n103) (fun i105=>cO (Nat.beq i105 0) (sS ro K e101 h102 n103) (False)) (∃ h106,Sub h106 h102∧K (e101 4) h106 n103)
theorem aET (ro:Ro) (v0 v1:Value) (h:T Obj) (nx:Nat) (K:KV):a9 Tryz.prog ro (aN Tryz.prog ro) Tryz.f166 [v0,v1] h nx K=yN ro v0 v1 h nx K:=by kernel_rfl
theorem aEU {ro:Ro} {v0 v1:Value} {h:T Obj} {nx:Nat} {K:KV} (hw:yN ro v0 v1 h nx K):aN Tryz.prog ro o9 [v0,v1] h nx K:=a7 (P:=Tryz.prog) (fn:=Tryz.f166) (by kernel_rfl) (by kernel_rfl) (by kernel_rfl) (Eq.mpr (aET ro v0 v1 h nx K) hw)
@[irreducible] def tY (ro:Ro) (K:KV):Env→T Obj→Nat→Prop:=fun e h nx=>∃ h108,Sub h108 h∧K (Value.bool true) h108 (nx+1)
@[irreducible] def aAV (ro:Ro):PT:=fun e h nx Q=>aA (aQ 1 (e 5)) fun t41_109=>aA (load1 ro h t41_109) fun t42_110=>aA (bI t42_110) fun t43_111=>aA (aO .lss (e 7) t43_111) fun t44_112=>aS t44_112 (aA (aQ 1 (e 5)) fun t47_113=>aA (load1 ro h t47_113) fun t48_114=>aA (cL 1 t48_114 (e 7)) fun t50_115=>aA (load1 ro h t50_115) fun t51_116=>aA (aO .lss t51_116 (Value.int IntKind.u8 1)) fun t52_117=>ifP t52_117 false h (nx+43) (fun k118=>aA (aQ 1 (e 5)) fun t54_122=>k118 t54_122 h (nx+43)) fun t54_119 h120 n121=>ifP t52_117 false h120 n121 (fun k123=>aA (load1 ro h120 t54_119) fun t55_127=>k123 t55_127 h120 n121) fun t55_124 h125 n126=>ifP t52_117 false h125 n126 (fun k128=>k128 (e 7) h125 n126) fun t56_129 h130 n131=>ifP t52_117 false h130 n131 (fun k132=>aA (cL 1 t55_124 t56_129) fun t57_136=>k132 t57_136 h130 n131) fun t57_133 h134 n135=>ifP t52_117 false h134 n135 (fun k137=>aA (load1 ro h134 t57_133) fun t58_141=>k137 t58_141 h134 n135) fun t58_138 h139 n140=>ifP t52_117 false h139 n140 (fun k142=>aA (aO .gtr t58_138 (Value.int IntKind.u8 3)) fun t59_146=>k142 t59_146 h139 n140) fun t59_143 h144 n145=>aA (bH t52_117 (Value.bool true) t59_143) fun t60_147=>ifP t60_147 false h144 n145 (fun k148=>aA (aQ 1 (e 5)) fun t62_152=>k148 t62_152 h144 n145) fun t62_149 h150 n151=>ifP t60_147 false h150 n151 (fun k153=>aA (load1 ro h150 t62_149) fun t63_157=>k153 t63_157 h150 n151) fun t63_154 h155 n156=>ifP t60_147 false h155 n156 (fun k158=>k158 (e 7) h155 n156) fun t64_159 h160 n161=>ifP t60_147 false h160 n161 (fun k162=>aA (cL 1 t63_154 t64_159) fun t65_166=>k162 t65_166 h160 n161) fun t65_163 h164 n165=>ifP t60_147 false h164 n165 (fun k167=>aA (load1 ro h164 t65_163) fun t66_171=>k167 t66_171 h164 n165) fun t66_168 h169 n170=>ifP t60_147 false h169 n170 (fun k172=>aA (aO .neq t66_168 (Value.int IntKind.u8 3)) fun t67_176=>k172 t67_176 h169 n170) fun t67_173 h174 n175=>ifP t60_147 false h174 n175 (fun k177=>k177 t67_173 h174 n175) fun t68_178 h179 n180=>ifP t68_178 true h179 n180 (fun k181=>aA (aQ 1 (e 4)) fun t69_185=>k181 t69_185 h179 n180) fun t69_182 h183 n184=>ifP t68_178 true h183 n184 (fun k186=>aA (load1 ro h183 t69_182) fun t70_190=>k186 t70_190 h183 n184) fun t70_187 h188 n189=>ifP t68_178 true h188 n189 (fun k191=>aA (aQ 258 (e 3)) fun t71_195=>k191 t71_195 h188 n189) fun t71_192 h193 n194=>ifP t68_178 true h193 n194 (fun k196=>aA (load1 ro h193 t71_192) fun t72_200=>k196 t72_200 h193 n194) fun t72_197 h198 n199=>ifP t68_178 true h198 n199 (fun k201=>aA (aQ 0 (e 5)) fun t73_205=>k201 t73_205 h198 n199) fun t73_202 h203 n204=>ifP t68_178 true h203 n204 (fun k206=>aA (load1 ro h203 t73_202) fun t74_210=>k206 t74_210 h203 n204) fun t74_207 h208 n209=>ifP t68_178 true h208 n209 (fun k211=>aA (cL 4 t72_197 t74_207) fun t75_215=>k211 t75_215 h208 n209) fun t75_212 h213 n214=>ifP t68_178 true h213 n214 (fun k216=>aA (aQ 1 t75_212) fun t76_220=>k216 t76_220 h213 n214) fun t76_217 h218 n219=>ifP t68_178 true h218 n219 (fun k221=>aA (load1 ro h218 t76_217) fun t77_225=>k221 t77_225 h218 n219) fun t77_222 h223 n224=>ifP t68_178 true h223 n224 (fun k226=>k226 (e 7) h223 n224) fun t78_227 h228 n229=>ifP t68_178 true h228 n229 (fun k230=>aA (cL 1 t77_222 t78_227) fun t79_234=>k230 t79_234 h228 n229) fun t79_231 h232 n233=>ifP t68_178 true h232 n233 (fun k235=>aA (load1 ro h232 t79_231) fun t80_239=>k235 t80_239 h232 n233) fun t80_236 h237 n238=>ifP t68_178 true h237 n238 (fun k240=>aN Tryz.prog ro aAi [t70_187,t80_236] h237 n238 fun t81_244 h245 n246=>k240 t81_244 h245 n246) fun t81_241 h242 n243=>ifP t68_178 true h242 n243 (fun k247=>aA (unV .not t81_241) fun t82_251=>k247 t82_251 h242 n243) fun t82_248 h249 n250=>ifP t60_147 false h249 n250 (fun k252=>aA (bH t68_178 t82_248 (Value.bool false)) fun t83_256=>k252 t83_256 h249 n250) fun t83_253 h254 n255=>aA (bH t60_147 (Value.bool true) t83_253) fun t84_257=>aS t84_257 (Q .ret (puts e [(40,(e 7)),(41,t41_109),(42,t42_110),(43,t43_111),(44,t44_112),(47,t47_113),(48,t48_114),(49,(e 7)),(50,t50_115),(51,t51_116),(52,t52_117),(53,t52_117),(54,t54_119),(55,t55_124),(56,t56_129),(57,t57_133),(58,t58_138),(59,t59_143),(60,t60_147),(61,t60_147),(62,t62_149),(63,t63_154),(64,t64_159),(65,t65_163),(66,t66_168),(67,t67_173),(68,t68_178),(69,t69_182),(70,t70_187),(71,t71_192),(72,t72_197),(73,t73_202),(74,t74_207),(75,t75_212),(76,t76_217),(77,t77_222),(78,t78_227),(79,t79_231),(80,t80_236),(81,t81_241),(82,t82_248),(83,t83_253),(84,t84_257),(6,(Value.bool false))]) h254 (n255+1)) (aA (aO .add (e 7) (Value.int IntKind.i64 1)) fun t46_258=>Q .normal (puts e [(40,(e 7)),(41,t41_109),(42,t42_110),(43,t43_111),(44,t44_112),(47,t47_113),(48,t48_114),(49,(e 7)),(50,t50_115),(51,t51_116),(52,t52_117),(53,t52_117),(54,t54_119),(55,t55_124),(56,t56_129),(57,t57_133),(58,t58_138),(59,t59_143),(60,t60_147),(61,t60_147),(62,t62_149),(63,t63_154),(64,t64_159),(65,t65_163),(66,t66_168),(67,t67_173),(68,t68_178),(69,t69_182),(70,t70_187),(71,t71_192),(72,t72_197),(73,t73_202),(74,t74_207),(75,t75_212),(76,t76_217),(77,t77_222),(78,t78_227),(79,t79_231),(80,t80_236),(81,t81_241),(82,t82_248),(83,t83_253),(84,t84_257),(45,(e 7)),(46,t46_258),(7,t46_258)]) h254 (n255+3))) (Q (.exit 0) (puts e [(40,(e 7)),(41,t41_109),(42,t42_110),(43,t43_111),(44,t44_112)]) h (nx+5))
@[irreducible] def aAq (ro:Ro) (v0 v1 v2:Value) (h:T Obj) (nx:Nat) (K:KV):Prop:=cM h nx (.cells (Value.cells v0) bG) fun h1=>cM h1 (nx+1) (.cells (Value.cells v1) a8) fun h2=>cM h2 (nx+2) (.cells (Value.cells v2) b7) fun h3=>aA (aQ 0 (ptr (nx+2))) fun t8_4=>aA (load1 ro h3 t8_4) fun t9_5=>aA (aO .eql t9_5 (Value.int IntKind.i64 (-1))) fun t10_6=>aS t10_6 (aA (aQ 1 (ptr (nx+2))) fun t11_7=>aA (load1 ro h3 t11_7) fun t12_8=>aA (bI t12_8) fun t13_9=>aA (aO .eql t13_9 (Value.int IntKind.i64 0)) fun t14_10=>∃ h11,Sub h11 h3∧K t14_10 h11 (nx+12)) (aA (aQ 0 (ptr (nx+2))) fun t15_12=>aA (load1 ro h3 t15_12) fun t16_13=>aA (aO .lss t16_13 (Value.int IntKind.i64 1)) fun t17_14=>ifP t17_14 false h3 (nx+32) (fun k15=>aA (aQ 0 (ptr (nx+2))) fun t19_19=>k15 t19_19 h3 (nx+32)) fun t19_16 h17 n18=>ifP t17_14 false h17 n18 (fun k20=>aA (load1 ro h17 t19_16) fun t20_24=>k20 t20_24 h17 n18) fun t20_21 h22 n23=>ifP t17_14 false h22 n23 (fun k25=>aA (aQ 258 (ptr nx)) fun t21_29=>k25 t21_29 h22 n23) fun t21_26 h27 n28=>ifP t17_14 false h27 n28 (fun k30=>aA (load1 ro h27 t21_26) fun t22_34=>k30 t22_34 h27 n28) fun t22_31 h32 n33=>ifP t17_14 false h32 n33 (fun k35=>aA (bI t22_31) fun t23_39=>k35 t23_39 h32 n33) fun t23_36 h37 n38=>ifP t17_14 false h37 n38 (fun k40=>aA (aO .geq t20_21 t23_36) fun t24_44=>k40 t24_44 h37 n38) fun t24_41 h42 n43=>aA (bH t17_14 (Value.bool true) t24_41) fun t25_45=>ifP t25_45 false h42 n43 (fun k46=>aA (aQ 1 (ptr (nx+2))) fun t27_50=>k46 t27_50 h42 n43) fun t27_47 h48 n49=>ifP t25_45 false h48 n49 (fun k51=>aA (load1 ro h48 t27_47) fun t28_55=>k51 t28_55 h48 n49) fun t28_52 h53 n54=>ifP t25_45 false h53 n54 (fun k56=>aA (bI t28_52) fun t29_60=>k56 t29_60 h53 n54) fun t29_57 h58 n59=>ifP t25_45 false h58 n59 (fun k61=>aA (aQ 258 (ptr nx)) fun t30_65=>k61 t30_65 h58 n59) fun t30_62 h63 n64=>ifP t25_45 false h63 n64 (fun k66=>aA (load1 ro h63 t30_62) fun t31_70=>k66 t31_70 h63 n64) fun t31_67 h68 n69=>ifP t25_45 false h68 n69 (fun k71=>aA (aQ 0 (ptr (nx+2))) fun t32_75=>k71 t32_75 h68 n69) fun t32_72 h73 n74=>ifP t25_45 false h73 n74 (fun k76=>aA (load1 ro h73 t32_72) fun t33_80=>k76 t33_80 h73 n74) fun t33_77 h78 n79=>ifP t25_45 false h78 n79 (fun k81=>aA (cL 4 t31_67 t33_77) fun t34_85=>k81 t34_85 h78 n79) fun t34_82 h83 n84=>ifP t25_45 false h83 n84 (fun k86=>aA (aQ 1 t34_82) fun t35_90=>k86 t35_90 h83 n84) fun t35_87 h88 n89=>ifP t25_45 false h88 n89 (fun k91=>aA (load1 ro h88 t35_87) fun t36_95=>k91 t36_95 h88 n89) fun t36_92 h93 n94=>ifP t25_45 false h93 n94 (fun k96=>aA (bI t36_92) fun t37_100=>k96 t37_100 h93 n94) fun t37_97 h98 n99=>ifP t25_45 false h98 n99 (fun k101=>aA (aO .neq t29_57 t37_97) fun t38_105=>k101 t38_105 h98 n99) fun t38_102 h103 n104=>aA (bH t25_45 (Value.bool true) t38_102) fun t39_106=>aS t39_106 (∃ h107,Sub h107 h103∧K (Value.bool false) h107 (n104+1)) (dS (aAV ro) (puts (gQ [v0,v1,v2]) [(3,(ptr nx)),(4,(ptr (nx+1))),(5,(ptr (nx+2))),(6,(Value.bool false)),(8,t8_4),(9,t9_5),(10,t10_6),(15,t15_12),(16,t16_13),(17,t17_14),(18,t17_14),(19,t19_16),(20,t20_21),(21,t21_26),(22,t22_31),(23,t23_36),(24,t24_41),(25,t25_45),(26,t25_45),(27,t27_47),(28,t28_52),(29,t29_57),(30,t30_62),(31,t31_67),(32,t32_72),(33,t33_77),(34,t34_82),(35,t35_87),(36,t36_92),(37,t37_97),(38,t38_102),(39,t39_106),(7,(Value.int IntKind.i64 0))]) h103 (n104+1) fun x262 e259 h260 n261=>exP x262 (tY ro K e259 h260 n261) (fun i263=>cO (Nat.beq i263 0) (tY ro K e259 h260 n261) (False)) (∃ h264,Sub h264 h260∧K (e259 6) h264 n261)))
theorem aFX (ro:Ro) (v0 v1 v2:Value) (h:T Obj) (nx:Nat) (K:KV):a9 Tryz.prog ro (aN Tryz.prog ro) Tryz.f167 [v0,v1,v2] h nx K=aAq ro v0 v1 v2 h nx K:=by kernel_rfl
theorem aFY {ro:Ro} {v0 v1 v2:Value} {h:T Obj} {nx:Nat} {K:KV} (hw:aAq ro v0 v1 v2 h nx K):aN Tryz.prog ro vM [v0,v1,v2] h nx K:=a7 (P:=Tryz.prog) (fn:=Tryz.f167) (by kernel_rfl) (by kernel_rfl) (by kernel_rfl) (Eq.mpr (aFX ro v0 v1 v2 h nx K) hw)
@[irreducible] def tX (ro:Ro) (K:KV):Env→T Obj→Nat→Prop:=fun e h nx=>∃ h2,Sub h2 h∧K (e 3) h2 (nx+2)
@[irreducible] def pC (ro:Ro) (Q:KE):Env→T Obj→Nat→Prop:=fun e h nx=>aA (aO .add (e 4) (Value.int IntKind.i64 1)) fun t8_4=>Q .normal (puts e [(7,(e 4)),(8,t8_4),(4,t8_4)]) h (nx+3)
@[irreducible] def aAT (ro:Ro):PT:=fun e h nx Q=>aA (aO .lss (e 4) (Value.int IntKind.i64 256)) fun t6_3=>aS t6_3 (aA (loadA ro h 4 (e 1)) fun t9_5=>aA (wH .u8 (e 4)) fun t11_6=>aN Tryz.prog ro tA [t9_5,t11_6] h (nx+6) fun t12_7 h8 n9=>aS t12_7 (aA (wH .u8 (e 4)) fun t15_10=>aA (bU Tryz.prog bM (n9+3) 1 [(0,t15_10)]) fun r11=>eQ h8 (n9+3) r11.2 fun h12=>aA (cR Tryz.prog ro h12 (n9+5) #[bM,bM] [(e 3),r11.1]) fun r13=>pC ro Q (puts e [(5,(e 4)),(6,t6_3),(9,t9_5),(10,(e 4)),(11,t11_6),(12,t12_7),(13,(e 3)),(14,(e 4)),(15,t15_10),(16,r11.1),(17,r13.1),(3,r13.1)]) r13.2.1 (r13.2.2+1)) (pC ro Q (puts e [(5,(e 4)),(6,t6_3),(9,t9_5),(10,(e 4)),(11,t11_6),(12,t12_7)]) h8 n9)) (Q (.exit 0) (puts e [(5,(e 4)),(6,t6_3)]) h (nx+2))
@[irreducible] def aAn (ro:Ro) (v0:Value) (h:T Obj) (nx:Nat) (K:KV):Prop:=cM h nx (.cells (Value.cells v0) dR) fun h1=>dS (aAT ro) (puts (gQ [v0]) [(1,(ptr nx)),(2,(Value.slice none 0 0)),(3,(Value.slice none 0 0)),(4,(Value.int IntKind.i64 0))]) h1 (nx+4) fun x17 e14 h15 n16=>exP x17 (tX ro K e14 h15 n16) (fun i18=>cO (Nat.beq i18 0) (tX ro K e14 h15 n16) (False)) (∃ h19,Sub h19 h15∧K (e14 2) h19 n16)
theorem aFM (ro:Ro) (v0:Value) (h:T Obj) (nx:Nat) (K:KV):a9 Tryz.prog ro (aN Tryz.prog ro) Tryz.f178 [v0] h nx K=aAn ro v0 h nx K:=by kernel_rfl
theorem aFN {ro:Ro} {v0:Value} {h:T Obj} {nx:Nat} {K:KV} (hw:aAn ro v0 h nx K):aN Tryz.prog ro vK [v0] h nx K:=a7 (P:=Tryz.prog) (fn:=Tryz.f178) (by kernel_rfl) (by kernel_rfl) (by kernel_rfl) (Eq.mpr (aFM ro v0 h nx K) hw)
@[irreducible] def vV (ro:Ro) (K:KV):Env→T Obj→Nat→Prop:=fun e h nx=>aN Tryz.prog ro aAh [(e 5)] h (nx+2) fun t24_4 h5 n6=>aA (bV 4 h5 (e 4) t24_4) fun h7=>aA (loadA ro h7 4 (e 4)) fun r8=>∃ h9,Sub h9 h7∧K r8 h9 (n6+1)
@[irreducible] def qY (ro:Ro) (Q:KE):Env→T Obj→Nat→Prop:=fun e h nx=>aA (aO .add (e 6) (Value.int IntKind.i64 1)) fun t10_11=>Q .normal (puts e [(9,(e 6)),(10,t10_11),(6,t10_11)]) h (nx+3)
@[irreducible] def aB9 (ro:Ro):PT:=fun e h nx Q=>aA (aO .lss (e 6) (Value.int IntKind.i64 256)) fun t8_10=>aS t8_10 (aA (aQ 0 (e 2)) fun t12_12=>aA (ixArr 256 1 t12_12 (e 6)) fun t13_13=>aA (load1 ro h t13_13) fun t14_14=>aA (wH .i64 t14_14) fun t15_15=>aA (aO .eql t15_15 (e 1)) fun t17_16=>aS t17_16 (aA (wH .u8 (e 6)) fun t20_17=>aA (bU Tryz.prog bM (nx+12) 1 [(0,t20_17)]) fun r18=>eQ h (nx+12) r18.2 fun h19=>aA (cR Tryz.prog ro h19 (nx+14) #[bM,bM] [(e 5),r18.1]) fun r20=>qY ro Q (puts e [(7,(e 6)),(8,t8_10),(11,(e 6)),(12,t12_12),(13,t13_13),(14,t14_14),(15,t15_15),(16,(e 1)),(17,t17_16),(18,(e 5)),(19,(e 6)),(20,t20_17),(21,r18.1),(22,r20.1),(5,r20.1)]) r20.2.1 (r20.2.2+1)) (qY ro Q (puts e [(7,(e 6)),(8,t8_10),(11,(e 6)),(12,t12_12),(13,t13_13),(14,t14_14),(15,t15_15),(16,(e 1)),(17,t17_16)]) h (nx+9))) (Q (.exit 0) (puts e [(7,(e 6)),(8,t8_10)]) h (nx+2))
@[irreducible] def aCH (ro:Ro) (v0 v1:Value) (h:T Obj) (nx:Nat) (K:KV):Prop:=cM h nx (.cells (Value.cells v0) dC) fun h1=>aA (zer Tryz.prog dR) fun z2=>cM h1 (nx+1) (.cells z2.cells dR) fun h3=>dS (aB9 ro) (puts (gQ [v0,v1]) [(2,(ptr nx)),(4,(ptr (nx+1))),(5,(Value.slice none 0 0)),(6,(Value.int IntKind.i64 0))]) h3 (nx+4) fun x24 e21 h22 n23=>exP x24 (vV ro K e21 h22 n23) (fun i25=>cO (Nat.beq i25 0) (vV ro K e21 h22 n23) (False)) (aA (loadA ro h22 4 (e21 4)) fun r26=>∃ h27,Sub h27 h22∧K r26 h27 n23)
theorem aGz (ro:Ro) (v0 v1:Value) (h:T Obj) (nx:Nat) (K:KV):a9 Tryz.prog ro (aN Tryz.prog ro) Tryz.f179 [v0,v1] h nx K=aCH ro v0 v1 h nx K:=by kernel_rfl
theorem aHA {ro:Ro} {v0 v1:Value} {h:T Obj} {nx:Nat} {K:KV} (hw:aCH ro v0 v1 h nx K):aN Tryz.prog ro x3 [v0,v1] h nx K:=a7 (P:=Tryz.prog) (fn:=Tryz.f179) (by kernel_rfl) (by kernel_rfl) (by kernel_rfl) (Eq.mpr (aGz ro v0 v1 h nx K) hw)
@[irreducible] def yM (ro:Ro) (K:KV):Env→T Obj→Nat→Prop:=fun e h nx=>∃ h1,Sub h1 h∧K (Value.bool false) h1 (nx+1)
@[irreducible] def aCh (ro:Ro):PT:=fun e h nx Q=>aA (bI (e 0)) fun t8_2=>aA (aO .lss (e 5) t8_2) fun t9_3=>aS t9_3 (aA (cL 1 (e 0) (e 5)) fun t14_4=>aA (load1 ro h t14_4) fun t15_5=>aA (aO .eql t15_5 (e 1)) fun t17_6=>aS t17_6 (Q .ret (puts e [(6,(e 5)),(7,(e 0)),(8,t8_2),(9,t9_3),(12,(e 0)),(13,(e 5)),(14,t14_4),(15,t15_5),(16,(e 1)),(17,t17_6),(4,(Value.bool true))]) h (nx+11)) (aA (aO .add (e 5) (Value.int IntKind.i64 1)) fun t11_7=>Q .normal (puts e [(6,(e 5)),(7,(e 0)),(8,t8_2),(9,t9_3),(12,(e 0)),(13,(e 5)),(14,t14_4),(15,t15_5),(16,(e 1)),(17,t17_6),(10,(e 5)),(11,t11_7),(5,t11_7)]) h (nx+13))) (Q (.exit 0) (puts e [(6,(e 5)),(7,(e 0)),(8,t8_2),(9,t9_3)]) h (nx+4))
@[irreducible] def aES (ro:Ro) (v0 v1:Value) (h:T Obj) (nx:Nat) (K:KV):Prop:=dS (aCh ro) (puts (gQ [v0,v1]) [(4,(Value.bool false)),(5,(Value.int IntKind.i64 0))]) h (nx+2) fun x11 e8 h9 n10=>exP x11 (yM ro K e8 h9 n10) (fun i12=>cO (Nat.beq i12 0) (yM ro K e8 h9 n10) (False)) (∃ h13,Sub h13 h9∧K (e8 4) h13 n10)
theorem aI9 (ro:Ro) (v0 v1:Value) (h:T Obj) (nx:Nat) (K:KV):a9 Tryz.prog ro (aN Tryz.prog ro) Tryz.f180 [v0,v1] h nx K=aES ro v0 v1 h nx K:=by kernel_rfl
theorem aIa {ro:Ro} {v0 v1:Value} {h:T Obj} {nx:Nat} {K:KV} (hw:aES ro v0 v1 h nx K):aN Tryz.prog ro aAi [v0,v1] h nx K:=a7 (P:=Tryz.prog) (fn:=Tryz.f180) (by kernel_rfl) (by kernel_rfl) (by kernel_rfl) (Eq.mpr (aI9 ro v0 v1 h nx K) hw)
@[irreducible] def eT (ro:Ro) (K:KV):Env→T Obj→Nat→Prop:=fun e h nx=>∃ h1,Sub h1 h∧K (Value.int IntKind.i64 (-1)) h1 (nx+1)
@[irreducible] def gP (ro:Ro):PT:=fun e h nx Q=>aA (aO .lss (e 8) (e 7)) fun t9_3=>aS t9_3 (aA (cL 2 (e 0) (e 8)) fun t14_4=>aA (loadA ro h 2 t14_4) fun t15_5=>xG (aN Tryz.prog ro) (e 1) [t15_5] h (nx+9) fun t16_6 h7 n8=>aS t16_6 (Q .ret (puts e [(9,t9_3),(10,(e 8)),(5,(e 8)),(11,(e 1)),(12,(e 0)),(13,(e 8)),(14,t14_4),(15,t15_5),(16,t16_6),(17,(e 8)),(4,(e 8))]) h7 (n8+2)) (aA (aO .add (e 8) (Value.int IntKind.i64 1)) fun t18_9=>Q .normal (puts e [(9,t9_3),(10,(e 8)),(5,(e 8)),(11,(e 1)),(12,(e 0)),(13,(e 8)),(14,t14_4),(15,t15_5),(16,t16_6),(18,t18_9),(8,t18_9)]) h7 (n8+2))) (Q (.exit 0) (puts e [(9,t9_3)]) h (nx+1))
@[irreducible] def fG (ro:Ro) (v0 v1:Value) (h:T Obj) (nx:Nat) (K:KV):Prop:=aA (bI v0) fun t7_2=>dS (gP ro) (puts (gQ [v0,v1]) [(4,(Value.int IntKind.i64 0)),(6,v0),(7,t7_2),(8,(Value.int IntKind.i64 0))]) h (nx+4) fun x13 e10 h11 n12=>exP x13 (eT ro K e10 h11 n12) (fun i14=>cO (Nat.beq i14 0) (eT ro K e10 h11 n12) (False)) (∃ h15,Sub h15 h11∧K (e10 4) h15 n12)
theorem lP (ro:Ro) (v0 v1:Value) (h:T Obj) (nx:Nat) (K:KV):a9 Tryz.prog ro (aN Tryz.prog ro) Tryz.f182 [v0,v1] h nx K=fG ro v0 v1 h nx K:=by kernel_rfl
theorem lQ {ro:Ro} {v0 v1:Value} {h:T Obj} {nx:Nat} {K:KV} (hw:fG ro v0 v1 h nx K):aN Tryz.prog ro eY [v0,v1] h nx K:=a7 (P:=Tryz.prog) (fn:=Tryz.f182) (by kernel_rfl) (by kernel_rfl) (by kernel_rfl) (Eq.mpr (lP ro v0 v1 h nx K) hw)
@[irreducible] def jR (ro:Ro) (K:KV):Env→T Obj→Nat→Prop:=fun e h nx=>∃ h1,Sub h1 h∧K (Value.int IntKind.i64 (-1)) h1 (nx+1)
@[irreducible] def nD (ro:Ro):PT:=fun e h nx Q=>aA (aO .lss (e 8) (e 7)) fun t9_3=>aS t9_3 (aA (cL 1 (e 0) (e 8)) fun t14_4=>aA (load1 ro h t14_4) fun t15_5=>aA (aO .eql (e 1) t15_5) fun t16_6=>aS t16_6 (Q .ret (puts e [(9,t9_3),(10,(e 8)),(5,(e 8)),(11,(e 1)),(12,(e 0)),(13,(e 8)),(14,t14_4),(15,t15_5),(16,t16_6),(17,(e 8)),(4,(e 8))]) h (nx+11)) (aA (aO .add (e 8) (Value.int IntKind.i64 1)) fun t18_7=>Q .normal (puts e [(9,t9_3),(10,(e 8)),(5,(e 8)),(11,(e 1)),(12,(e 0)),(13,(e 8)),(14,t14_4),(15,t15_5),(16,t16_6),(18,t18_7),(8,t18_7)]) h (nx+11))) (Q (.exit 0) (puts e [(9,t9_3)]) h (nx+1))
@[irreducible] def lI (ro:Ro) (v0 v1:Value) (h:T Obj) (nx:Nat) (K:KV):Prop:=aA (bI v0) fun t7_2=>dS (nD ro) (puts (gQ [v0,v1]) [(4,(Value.int IntKind.i64 0)),(6,v0),(7,t7_2),(8,(Value.int IntKind.i64 0))]) h (nx+4) fun x11 e8 h9 n10=>exP x11 (jR ro K e8 h9 n10) (fun i12=>cO (Nat.beq i12 0) (jR ro K e8 h9 n10) (False)) (∃ h13,Sub h13 h9∧K (e8 4) h13 n10)
theorem uY (ro:Ro) (v0 v1:Value) (h:T Obj) (nx:Nat) (K:KV):a9 Tryz.prog ro (aN Tryz.prog ro) Tryz.f187 [v0,v1] h nx K=lI ro v0 v1 h nx K:=by kernel_rfl
theorem uZ {ro:Ro} {v0 v1:Value} {h:T Obj} {nx:Nat} {K:KV} (hw:lI ro v0 v1 h nx K):aN Tryz.prog ro nV [v0,v1] h nx K:=a7 (P:=Tryz.prog) (fn:=Tryz.f187) (by kernel_rfl) (by kernel_rfl) (by kernel_rfl) (Eq.mpr (uY ro v0 v1 h nx K) hw)
@[irreducible] def tC (ro:Ro) (K:KV):Env→T Obj→Nat→Prop:=fun e h nx=>aA (loadA ro h 4 (e 3)) fun t18_7=>aA (bV 4 h (e 2) t18_7) fun h8=>aA (loadA ro h8 4 (e 2)) fun r9=>∃ h10,Sub h10 h8∧K r9 h10 (nx+2)
@[irreducible] def aCg (ro:Ro):PT:=fun e h nx Q=>aA (bI (e 0)) fun t8_11=>aA (aO .lss (e 4) t8_11) fun t9_12=>aS t9_12 (aA (loadA ro h 4 (e 3)) fun t12_13=>aA (cL 1 (e 0) (e 4)) fun t15_14=>aA (load1 ro h t15_14) fun t16_15=>aN Tryz.prog ro vL [t12_13,t16_15] h (nx+11) fun t17_16 h17 n18=>aA (bV 4 h17 (e 3) t17_16) fun h19=>aA (aO .add (e 4) (Value.int IntKind.i64 1)) fun t11_20=>Q .normal (puts e [(6,(e 4)),(7,(e 0)),(8,t8_11),(9,t9_12),(12,t12_13),(13,(e 0)),(14,(e 4)),(15,t15_14),(16,t16_15),(17,t17_16),(10,(e 4)),(11,t11_20),(4,t11_20)]) h19 (n18+3)) (Q (.exit 0) (puts e [(6,(e 4)),(7,(e 0)),(8,t8_11),(9,t9_12)]) h (nx+4))
@[irreducible] def aEG (ro:Ro) (v0:Value) (h:T Obj) (nx:Nat) (K:KV):Prop:=aA (zer Tryz.prog dR) fun z1=>cM h nx (.cells z1.cells dR) fun h2=>aA (eX Tryz.prog dR []) fun t5_3=>aA (zer Tryz.prog dR) fun z4=>cM h2 (nx+2) (.cells z4.cells dR) fun h5=>aA (bV 4 h5 (ptr (nx+2)) t5_3) fun h6=>dS (aCg ro) (puts (gQ [v0]) [(2,(ptr nx)),(5,t5_3),(3,(ptr (nx+2))),(4,(Value.int IntKind.i64 0))]) h6 (nx+5) fun x24 e21 h22 n23=>exP x24 (tC ro K e21 h22 n23) (fun i25=>cO (Nat.beq i25 0) (tC ro K e21 h22 n23) (False)) (aA (loadA ro h22 4 (e21 2)) fun r26=>∃ h27,Sub h27 h22∧K r26 h27 n23)
theorem aI6 (ro:Ro) (v0:Value) (h:T Obj) (nx:Nat) (K:KV):a9 Tryz.prog ro (aN Tryz.prog ro) Tryz.f192 [v0] h nx K=aEG ro v0 h nx K:=by kernel_rfl
theorem aI7 {ro:Ro} {v0:Value} {h:T Obj} {nx:Nat} {K:KV} (hw:aEG ro v0 h nx K):aN Tryz.prog ro aAh [v0] h nx K:=a7 (P:=Tryz.prog) (fn:=Tryz.f192) (by kernel_rfl) (by kernel_rfl) (by kernel_rfl) (Eq.mpr (aI6 ro v0 h nx K) hw)
end V
end Go.Proofs.YtcaccnneblghgaaGreat
noncomputable section
namespace Go.Proofs.YtcaccnneblghgaaGreat
namespace V
theorem xI {ro:Ro} {h h':T Obj} {a:Addr} {n:Nat} {l:List Value} (hs:Sub h h') (hc:cellsAt ro h a n=some l):cellsAt ro h' a n=some l:=by
 unfold cellsAt at hc ⊢
 cases hsp:a.spot with
 | none=>rw [hsp] at hc; exact hc
 | some z =>
  rw [hsp] at hc
  simp only at hc ⊢
  cases hg:h.get a.block with
  | none=>rw [hg] at hc; cases hc
  | some o=>rw [hg] at hc; rw [hs _ _ hg]; exact hc
theorem yY {ro:Ro}:∀ {n:Nat} {a:Addr} {l:List Value},roCells ro a n=some l→l.length=n
 | 0,a,l,h=>by cases h; rfl
 | n+1,a,l,h=>by
  obtain ⟨v,h1,h⟩:=aM h
  obtain ⟨r,h2,h⟩:=aM h
  cases h
  simp [yY h2]
theorem vZ {ro:Ro}:∀ {off n k:Nat} {a:Addr} {l:List Value},roCells ro a n=some l→a.spot=none→off+k≤n→roCells ro ⟨a.block,a.off+off,none⟩ k=some ((l.drop off).take k)
 | 0,n,0,a,l,h,hs,hk=>by simp [roCells]
 | 0,0,k+1,a,l,h,hs,hk=>by omega
 | 0,n+1,k+1,a,l,h,hs,hk=>by
  obtain ⟨v,h1,h⟩:=aM h
  obtain ⟨r,h2,h⟩:=aM h
  cases h
  have ih:=vZ (off:=0) (k:=k) h2 rfl (by omega)
  have ha:(⟨a.block,a.off+0,none⟩:Addr)=a:=by cases a; simp_all
  rw [ha]
  simp only [roCells,h1,Option.bind_some]
  simp only [Nat.add_zero] at ih
  rw [ih]; simp
 | off+1,0,k,a,l,h,hs,hk=>by omega
 | off+1,n+1,k,a,l,h,hs,hk=>by
  obtain ⟨v,h1,h⟩:=aM h
  obtain ⟨r,h2,h⟩:=aM h
  cases h
  have ih:=vZ (off:=off) (k:=k) h2 rfl (by omega)
  rw [show a.off+(off+1)=a.off+1+off by omega,List.drop_succ_cons]
  exact ih
theorem aE4 {ro:Ro}:∀ {l:List Value} {a:Addr},a.spot=none→(∀ j x,l[j]?=some x→ro ⟨a.block,a.off+j,none⟩=some x)→roCells ro a l.length=some l
 | [],a,hs,h=>rfl
 | v::l,a,hs,h=>by
  have ha:(⟨a.block,a.off+0,none⟩:Addr)=a:=by cases a; simp_all
  have h0:=h 0 v rfl
  rw [ha] at h0
  have ih:=aE4 (l:=l) (a:=⟨a.block,a.off+1,none⟩) rfl fun j x hx=>by
   have:=h (j+1) x (by simpa using hx)
   rw [show a.off+1+j=a.off+(j+1) by omega]; exact this
  simp [roCells,h0,ih]
theorem nK {ro:Ro} {h:T Obj} {a:Addr} {n off k:Nat} {l:List Value} (hc:cellsAt ro h a n=some l) (hk:off+k≤n):cellsAt ro h (elt a off) k=some ((l.drop off).take k):=by
 obtain ⟨b,o,s⟩:=a
 cases s with
 | none=>exact vZ (a:=⟨b,o,none⟩) hc rfl hk
 | some z =>
  rw [mY] at hc
  obtain ⟨c,h1,h2⟩:=aM hc
  split at h2
  ·rename_i hle
   cases h2
   show cellsAt ro h ⟨b,o+off,some 0⟩ k=_
   rw [mY,h1]
   simp only [Option.bind_some]
   rw [if_pos (by omega),List.drop_take,List.drop_drop,List.take_take,Nat.min_eq_left (by omega)]
  ·cases h2
theorem lM {z:Nat}:∀ {l:List (List Value)},(∀ x∈l,x.length=z)→l.flatten.length=l.length*z∧∀ i x,l[i]?=some x→(l.flatten.drop (i*z)).take z=x
 | [],_=>⟨by simp,fun i x hx=>by simp at hx⟩
 | y::r,hz=>by
  have hy:=hz y (by simp)
  obtain ⟨h1,h2⟩:=lM (l:=r) fun x hx=>hz x (by simp [hx])
  refine ⟨by simp [h1,hy,Nat.add_mul]; omega,?_⟩
  intro i x hx
  cases i with
  | zero=>simp at hx; subst hx; subst hy; simp
  | succ i =>
   have:=h2 i x (by simpa using hx)
   rw [Nat.succ_mul,show i*z+z=y.length+i*z by omega,List.flatten_cons,List.drop_append,List.drop_eq_nil_of_le (Nat.le_add_right _ _)]
   simpa using this
theorem aBQ {z:Nat}:∀ {l:List (List Value)} (n:Nat),(∀ x∈l,x.length=z)→l.flatten.take (n*z)=(l.take n).flatten
 | [],n,_=>by simp
 | y::r,0,_=>by simp
 | y::r,n+1,hz=>by
  have hy:=hz y (by simp)
  rw [List.take_succ_cons,List.flatten_cons,List.flatten_cons,Nat.succ_mul,show n*z+z=y.length+n*z by omega,List.take_append,List.take_of_length_le (Nat.le_add_right _ _),Nat.add_sub_cancel_left,
   aBQ n fun x hx=>hz x (by simp [hx])]
def Sl (ro:Ro) (h:T Obj) (v:Value) (z:Nat) (l:List (List Value)):Prop :=
 (v=.slice none 0 0∧l=[])∨∃ a cap,v=.slice (some a) l.length cap∧l.length≤cap∧(a.spot=none∨a.spot=some z)∧(∀ x∈l,x.length=z)∧cellsAt ro h a (l.length*z)=some l.flatten
theorem Sl.at {ro:Ro} {h:T Obj} {a:Addr} {z:Nat} {l:List (List Value)} (hz:∀ x∈l,x.length=z) (hc:cellsAt ro h a (l.length*z)=some l.flatten):∀ i x,l[i]?=some x→x.length=z∧cellsAt ro h (elt a (i*z)) z=some x:=by
 intro i x hx
 refine ⟨hz x (List.mem_of_getElem? hx),?_⟩
 have hi:=(List.getElem?_eq_some_iff.1 hx).1
 have:i*z+z≤l.length*z:=by rw [← Nat.succ_mul]; exact Nat.mul_le_mul_right _ hi
 rw [nK hc this,(lM hz).2 i x hx]
def iT (z:Nat) (v:Value) (i:Nat):Value:=match v with
 | .slice (some a) _ _=>.pointer (some (elt a (i*z)))
 | _=>undef
section
variable {ro:Ro} {h h':T Obj} {v:Value} {z:Nat} {l:List (List Value)}
theorem Sl.nil:Sl ro h (.slice none 0 0) z []:=.inl ⟨rfl,rfl⟩
theorem Sl.sub (hs:Sub h h') (hl:Sl ro h v z l):Sl ro h' v z l:=by
 rcases hl with hl | ⟨a,cap,h1,h2,h3,h4⟩
 ·exact .inl hl
 ·exact .inr ⟨a,cap,h1,h2,h3,h4.1,xI hs h4.2⟩
theorem Sl.len (hl:Sl ro h v z l):bI v=some (.int .i64 l.length):=by
 rcases hl with ⟨rfl,rfl⟩ | ⟨a,cap,rfl,_⟩<;>rfl
theorem Sl.ix (hl:Sl ro h v z l) (k:IntKind) {i:Nat} (hi:i < l.length):cL z v (.int k (i:Int))=some (iT z v i):=by
 rcases hl with ⟨rfl,rfl⟩ | ⟨a,cap,rfl,h2,h3,h4⟩
 ·simp at hi
 ·have hn:lO (.int k (i:Int))=some i:=by simp [lO]
  have hb:Nat.blt i l.length=true:=by simp [Nat.blt]; omega
  unfold cL
  rw [hn]
  simp only [Option.bind,hb]
  rcases h3 with h3 | h3
  ·rw [h3]; simp [iT,elt,fwd,h3]
  ·rw [h3]; simp [iT,elt,h3]
theorem Sl.loadA (hl:Sl ro h v z l) {i:Nat} {x:List Value} (hx:l[i]?=some x):loadA ro h z (iT z v i)=some (.agg x.toArray):=by
 rcases hl with ⟨rfl,rfl⟩ | ⟨a,cap,rfl,h2,h3,h4⟩
 ·simp at hx
 ·simp [V.loadA,iT,asP,(Sl.at h4.1 h4.2 i x hx).2]
theorem Sl.load1 (hl:Sl ro h v 1 l) {i:Nat} {x:Value} (hx:l[i]?=some [x]):load1 ro h (iT 1 v i)=some x:=by
 rcases hl with ⟨rfl,rfl⟩ | ⟨a,cap,rfl,h2,h3,h4⟩
 ·simp at hx
 ·have:=(Sl.at h4.1 h4.2 i _ hx).2
  simp only [V.load1,iT,asP,Option.bind,this]
theorem aL3 {a:Addr} {n:Nat} {x:List Value} (hs:Sub h h') (hx:cellsAt ro h a n=some x):jD (.pointer (some a)) h h':=by
 unfold jD blk
 cases hz:a.spot with
 | none=>simp only [hz]
 | some z =>
  simp only [hz]
  unfold cellsAt at hx
  rw [hz] at hx
  cases hg:h.get a.block with
  | none=>rw [hg] at hx; cases hx
  | some o=>exact ⟨by rw [hg,hs _ _ hg],by rw [hg]; rfl⟩
theorem Sl.same (hs:Sub h h') (hl:Sl ro h v z l) {i:Nat} (hi:i < l.length):jD (iT z v i) h h':=by
 rcases hl with ⟨rfl,rfl⟩ | ⟨b,cap,rfl,h2,h3,h4⟩
 ·simp at hi
 ·exact aL3 hs (Sl.at h4.1 h4.2 i _ (List.getElem?_eq_getElem hi)).2
end
theorem fK {h h':T Obj} {id off z:Nat} {o:Obj} (hg:h.get id=some o) (hs:h'.get id=some o):jD (at_ id off z) h h':=⟨by rw [hg,hs],by rw [hg]; rfl⟩
theorem Sl.own {ro:Ro} {h:T Obj} {id z cap:Nat} {l:List (List Value)} {e:TypeId} {f:Nat × Nat} (hg:h.get id=some (.cells l.flatten.toArray e f)) (hz:∀ x∈l,x.length=z) (hc:l.length≤cap):Sl ro h (.slice (some (V.own id z)) l.length cap) z l:=by
 refine .inr ⟨V.own id z,cap,rfl,hc,.inr rfl,hz,?_⟩
 have h1:=(lM hz).1
 show cellsAt ro h ⟨id,0,some z⟩ _=_
 rw [mY,hg,bE]
 simp only [Option.bind_some]
 rw [if_pos (by rw [h1]; omega),List.drop_zero,List.take_of_length_le (by rw [h1]; omega)]
theorem eB {i:Nat} {A:Prop} {B:Nat→Prop} {D:Prop} (h:B i):exP (.exit i) A B D:=h
theorem eL {A:Prop} {B:Nat→Prop} {D:Prop} (h:D):exP .ret A B D:=h
theorem dA {A B:Prop} (h:A):cO true A B:=h
theorem Sl.take {P:Program} {t e:TypeId} {ro:Ro} {h:T Obj} {v:Value} {z:Nat} {l:List (List Value)} (hl:Sl ro h v z l) (hu:und P t=some (.slice e)) (hz:siz P e=some z) (hz0:0 < z) {n:Nat} (hn:n≤l.length) (k:IntKind) :
  ∃ r,oK P t v none (some (.int k (n:Int))) none=some r∧Sl ro h r z (l.take n):=by
 have hnv:lO (.int k (n:Int))=some n:=by simp [lO]
 rcases hl with ⟨rfl,rfl⟩ | ⟨a,cap,rfl,h2,h3,h4⟩
 ·simp at hn; subst hn
  refine ⟨.slice none 0 0,?_,.inl ⟨rfl,rfl⟩⟩
  unfold oK
  simp [hu,hz,iP,lO]
 ·have hb:Nat.ble n cap=true:=Nat.ble_eq_true_of_le (by omega)
  have hlen:(l.take n).length=n:=by rw [List.length_take]; omega
  refine ⟨.slice (some a) n cap,?_,.inr ⟨a,cap,by rw [hlen],by rw [hlen]; omega,h3,fun x hx=>h4.1 x (List.mem_of_mem_take hx),?_⟩⟩
  ·unfold oK
   have hb1:Nat.ble n l.length=true:=Nat.ble_eq_true_of_le hn
   have hb0:Nat.ble 0 n=true:=Nat.ble_eq_true_of_le (Nat.zero_le _)
   have e0:fwd a (0*z)=a:=by simp [fwd]
   have e1:iP none cap cap=some cap:=rfl
   have e2:iP (some (.int k (n:Int))) l.length cap=some n:=by simp [iP,hnv,hb]
   have e3:iP none 0 n=some 0:=rfl
   simp only [hu,hz,Option.bind,e1,e2,e3,hb,Option.isNone,Bool.true_or,Nat.sub_zero]
   rcases h3 with h3 | h3
   ·simp only [h3]
    cases hc:Nat.beq cap 0 with
    | true=>simp only
    | false=>simp only [e0]
   ·simp only [h3,Nat.beq_refl,e0]
  ·have hk:0+n*z≤l.length*z:=by rw [Nat.zero_add]; exact Nat.mul_le_mul_right _ hn
   have:=nK h4.2 hk
   rw [List.drop_zero,aBQ n h4.1] at this
   rw [hlen]
   rcases h3 with h3 | h3
   ·have e:elt a 0=a:=by obtain ⟨b,o,sp⟩:=a; change sp=none at h3; subst h3; rfl
    rw [e] at this; exact this
   ·unfold cellsAt at this ⊢
    simp only [elt,h3,Option.map,Nat.add_zero] at this ⊢
    exact this
def Own (h:T Obj) (v:Value) (z:Nat) (e:TypeId) (l:List (List Value)) (lo hi:Nat):Prop :=
 (v=.slice none 0 0∧l=[])∨∃ id,lo≤id∧id < hi∧v=.slice (some (own id z)) l.length l.length∧(∀ x∈l,x.length=z)∧h.get id=some (.cells l.flatten.toArray e)
theorem Own.sl {ro:Ro} {h:T Obj} {v:Value} {z:Nat} {e:TypeId} {l:List (List Value)} {lo hi:Nat} (ho:Own h v z e l lo hi):Sl ro h v z l:=by
 rcases ho with ho | ⟨id,_,_,rfl,h4,h5⟩
 ·exact .inl ho
 ·exact Sl.own h5 h4 (Nat.le_refl _)
theorem Own.nil {h:T Obj} {z:Nat} {e:TypeId} {lo hi:Nat}:Own h (.slice none 0 0) z e [] lo hi:=.inl ⟨rfl,rfl⟩
theorem Own.keep {h h':T Obj} {v:Value} {z:Nat} {e:TypeId} {l:List (List Value)} {lo hi hi':Nat} (ho:Own h v z e l lo hi) (hh:hi≤hi') (hk:∀ id,lo≤id→id < hi→∀ o,h.get id=some o→h'.get id=some o):Own h' v z e l lo hi':=by
 rcases ho with ho | ⟨id,h1,h2,h3,h4,h5⟩
 ·exact .inl ho
 ·exact .inr ⟨id,h1,by omega,h3,h4,hk id h1 h2 _ h5⟩
theorem aA4 {P:Program} {ro:Ro} {h:T Obj} {v x:Value} {z nx lo hi:Nat} {t e:TypeId} {i:TypeInfo} {zv:Value} {l m:List (List Value)} (ho:Own h v z e l lo hi) (hx:Sl ro h x z m) (hu:und P t=some (.slice e)) (hi':tin P e=some i) (hz:i.size=z) (hz0:0 < z) (hzer:zer P e=some zv) (hzs:zv.cells.size=z)
  (hm:m≠[]) (hok:m.flatten.all cP=true) (hb:(l.length+m.length)*i.bytes≤big) (hb2:l.length+m.length≤big) (hlo:lo≤nx) (hnx:hi≤nx) :
  ∃ h',cR P ro h nx #[t,t] [v,x]=some (.slice (some (own nx z)) (l++m).length (l++m).length,h',nx+1)∧Own h' (.slice (some (own nx z)) (l++m).length (l++m).length) z e (l++m) lo (nx+1) ∧
   (∀ k,(k < lo∨hi≤k)→k≠nx→h'.get k=h.get k)∧(∀ k,k≠nx→h'.get k=h.get k∨h'.get k=none):=by
 have hml:0 < m.length:=List.length_pos_iff.2 hm
 obtain ⟨a,capx,rfl,hcx,hsx,hzx,hxc⟩:∃ a cap,x=.slice (some a) m.length cap∧m.length≤cap∧(a.spot=none∨a.spot=some z)∧(∀ x∈m,x.length=z)∧cellsAt ro h a (m.length*z)=some m.flatten:=by
  rcases hx with ⟨_,hx⟩ | hx
  ·exact absurd hx hm
  ·exact hx
 have hb1:Nat.ble ((l.length+m.length)*i.bytes) big=true:=Nat.ble_eq_true_of_le hb
 have hb2':Nat.ble (l.length+m.length) big=true:=Nat.ble_eq_true_of_le hb2
 have hb3:Nat.blt 0 z=true:=by simp [Nat.blt]; omega
 have hfull:Nat.ble (l.length+m.length) l.length=false:=by
  cases hq:Nat.ble (l.length+m.length) l.length with
  | false=>rfl
  | true=>have:=Nat.le_of_ble_eq_true hq; omega
 rcases ho with ⟨rfl,rfl⟩ | ⟨id,h1,h2,rfl,h4,h5⟩
 ·refine ⟨h.upd nx (some (.cells m.flatten.toArray e)),?_,.inr ⟨nx,hlo,by omega,by simp,by simpa using hzx,by rw [T.get_upd_same]; simp⟩,fun k _ hk=>T.get_upd_ne _ _ hk,fun k hk=>.inl (T.get_upd_ne _ _ hk)⟩
  simp only [List.length_nil] at hb1 hb2' hfull
  simp only [cR,List.getElem?_toArray,List.getElem?_cons_zero,List.getElem?_cons_succ,hu,hi',Option.bind_some,aAD,hz,hxc,hfull,hzer,hb1,hb2',hb3,hzs,Nat.beq_refl,hok,aIO]
  simp
 ·have hl:=(lM h4).1
  have hcl:cellsAt ro h ⟨id,0,some z⟩ (l.length*z)=some l.flatten:=by
   rw [mY,h5,bE]
   simp only [Option.bind_some]
   rw [if_pos (by rw [hl]; omega),List.drop_zero,List.take_of_length_le (by rw [hl]; omega)]
  refine ⟨(h.upd id none).upd nx (some (.cells (l.flatten++m.flatten).toArray e)),?_,.inr ⟨nx,hlo,by omega,by simp,?_,by rw [T.get_upd_same]; simp⟩,?_,?_⟩
  ·simp only [cR,List.getElem?_toArray,List.getElem?_cons_zero,List.getElem?_cons_succ,hu,hi',Option.bind_some,aAD,hz,hxc,hfull,hzer,hb1,hb2',hb3,hzs,Nat.beq_refl,hok,aIO,own,hcl]
   simp
  ·intro x hx
   rcases List.mem_append.1 hx with hx | hx
   ·exact h4 x hx
   ·exact hzx x hx
  ·intro k hk hne
   rw [T.get_upd_ne _ _ hne,T.get_upd_ne _ _ (by omega)]
  ·intro k hne
   rw [T.get_upd_ne _ _ hne]
   by_cases e:k=id
   ·subst e; right; rw [T.get_upd_same]
   ·left; rw [T.get_upd_ne _ _ e]
end V
end Go.Proofs.YtcaccnneblghgaaGreat
noncomputable section
namespace Go.Proofs.YtcaccnneblghgaaGreat
namespace V
theorem aNg {p:Prop} {dp:Decidable p} {A B:Prop} (h1:p→A) (h2:¬ p→B):aS (.bool (@decide p dp)) A B:=by
 by_cases hp:p
 ·rw [decide_eq_true hp]; exact h1 hp
 ·rw [decide_eq_false hp]; exact h2 hp
theorem kb {K:KV} {h:T Obj} {nx n:Nat} {b c:Bool} (hK:∀ n,nx≤n→K (.bool b) h n) (e:b=c) (hn:nx≤n):K (.bool c) h n:=by subst e; exact hK n hn
theorem ki {K:KV} {h:T Obj} {nx n:Nat} {k:IntKind} {b c:Int} (hK:∀ n,nx≤n→K (.int k b) h n) (e:b=c) (hn:nx≤n):K (.int k c) h n:=by subst e; exact hK n hn
section
variable {k:IntKind} {a b:Int} {K:Value→Prop}
theorem aQI (h:a < b) (hk:K (.bool true)):aA (aO .lss (.int k a) (.int k b)) K:=by rw [aY,decide_eq_true h]; exact hk
theorem aQH (h:b≤a) (hk:K (.bool false)):aA (aO .lss (.int k a) (.int k b)) K:=by rw [aY,decide_eq_false (by omega)]; exact hk
theorem dF (h1:a < b→K (.bool true)) (h2:b≤a→K (.bool false)):aA (aO .lss (.int k a) (.int k b)) K:=by
 by_cases h:a < b
 ·exact aQI h (h1 h)
 ·exact aQH (by omega) (h2 (by omega))
theorem aQG (h:a≤b) (hk:K (.bool true)):aA (aO .leq (.int k a) (.int k b)) K:=by rw [aX,decide_eq_true h]; exact hk
theorem aQF (h:b < a) (hk:K (.bool false)):aA (aO .leq (.int k a) (.int k b)) K:=by rw [aX,decide_eq_false (by omega)]; exact hk
theorem aDs (h1:a≤b→K (.bool true)) (h2:b < a→K (.bool false)):aA (aO .leq (.int k a) (.int k b)) K:=by
 by_cases h:a≤b
 ·exact aQG h (h1 h)
 ·exact aQF (by omega) (h2 (by omega))
theorem aOs (h:b < a) (hk:K (.bool true)):aA (aO .gtr (.int k a) (.int k b)) K:=by rw [aW,decide_eq_true h]; exact hk
theorem aOr (h:a≤b) (hk:K (.bool false)):aA (aO .gtr (.int k a) (.int k b)) K:=by rw [aW,decide_eq_false (by omega)]; exact hk
theorem kY (h1:b < a→K (.bool true)) (h2:a≤b→K (.bool false)):aA (aO .gtr (.int k a) (.int k b)) K:=by
 by_cases h:b < a
 ·exact aOs h (h1 h)
 ·exact aOr (by omega) (h2 (by omega))
theorem aOq (h:b≤a) (hk:K (.bool true)):aA (aO .geq (.int k a) (.int k b)) K:=by rw [aV,decide_eq_true h]; exact hk
theorem aOp (h:a < b) (hk:K (.bool false)):aA (aO .geq (.int k a) (.int k b)) K:=by rw [aV,decide_eq_false (by omega)]; exact hk
theorem uN (h1:b≤a→K (.bool true)) (h2:a < b→K (.bool false)):aA (aO .geq (.int k a) (.int k b)) K:=by
 by_cases h:b≤a
 ·exact aOq h (h1 h)
 ·exact aOp (by omega) (h2 (by omega))
theorem aKS (h:a=b) (hk:K (.bool true)):aA (aO .eql (.int k a) (.int k b)) K:=by rw [aT,decide_eq_true h]; exact hk
theorem aKR (h:a≠b) (hk:K (.bool false)):aA (aO .eql (.int k a) (.int k b)) K:=by rw [aT,decide_eq_false h]; exact hk
theorem rX (h1:a=b→K (.bool true)) (h2:a≠b→K (.bool false)):aA (aO .eql (.int k a) (.int k b)) K:=by
 by_cases h:a=b
 ·exact aKS h (h1 h)
 ·exact aKR h (h2 h)
theorem aDx (h:a≠b) (hk:K (.bool true)):aA (aO .neq (.int k a) (.int k b)) K:=by rw [aU,decide_eq_false h]; exact hk
theorem aCb (h:a=b) (hk:K (.bool false)):aA (aO .neq (.int k a) (.int k b)) K:=by rw [aU,decide_eq_true h]; exact hk
theorem pN (h1:a≠b→K (.bool true)) (h2:a=b→K (.bool false)):aA (aO .neq (.int k a) (.int k b)) K:=by
 by_cases h:a=b
 ·exact aCb h (h2 h)
 ·exact aDx h (h1 h)
end
theorem aFo {ro:Ro} {h h':T Obj} {p v:Value} (hs:Sub h h') (hl:load1 ro h p=some v):load1 ro h' p=some v:=by
 unfold V.load1 at hl ⊢
 obtain ⟨ad,y1,y2⟩:=aM hl
 rw [y1,Option.bind_some]
 cases hc:cellsAt ro h ad 1 with
 | none=>rw [hc] at y2; cases y2
 | some l=>rw [hc] at y2; rw [xI hs hc]; exact y2
theorem aCB {ro:Ro} {h h':T Obj} {p v:Value} {n:Nat} (hs:Sub h h') (hl:loadA ro h n p=some v):loadA ro h' n p=some v:=by
 unfold V.loadA at hl ⊢
 obtain ⟨ad,y1,y2⟩:=aM hl
 obtain ⟨l9,y3,y4⟩:=aM y2
 rw [y1,Option.bind_some,xI hs y3,Option.bind_some,y4]
def jV (l:List Int):List (List Value):=l.map fun b:Int=>[Value.int .i64 b]
theorem d8 (l:List Int):(jV l).length=l.length:=by simp [jV]
theorem jK {l:List Int} {i:Nat} (hi:i < l.length):(jV l)[i]?=some [.int .i64 l[i]]:=by simp [jV,hi]
def ZI (ro:Ro) (h:T Obj) (v:Value) (l:List Int):Prop:=Sl ro h v 1 (jV l)
section
variable {ro:Ro} {h h':T Obj} {v:Value} {l:List Int}
theorem ZI.sub (hs:Sub h h') (hl:ZI ro h v l):ZI ro h' v l:=Sl.sub hs hl
theorem ZI.len (hl:ZI ro h v l):bI v=some (.int .i64 l.length):=by have:=Sl.len hl; rwa [d8] at this
theorem ZI.ix (hl:ZI ro h v l) (k:IntKind) {i:Nat} (hi:i < l.length):cL 1 v (.int k (i:Int))=some (iT 1 v i):=Sl.ix hl k (by rw [d8]; exact hi)
theorem ZI.ixI (hl:ZI ro h v l) (k:IntKind) {i:Int} (h0:0≤i) (hi:i < l.length):cL 1 v (.int k i)=some (iT 1 v i.toNat):=by
 have:=hl.ix k (i:=i.toNat) (by omega)
 rwa [Int.toNat_of_nonneg h0] at this
theorem ZI.load (hl:ZI ro h v l) {i:Nat} (hi:i < l.length):load1 ro h (iT 1 v i)=some (.int .i64 l[i]):=Sl.load1 hl (jK hi)
end
theorem ZI.load' {ro:Ro} {h:T Obj} {v:Value} {l:List Int} (hl:ZI ro h v l) {i:Nat} {x:Int} (hx:l[i]?=some x):load1 ro h (iT 1 v i)=some (.int .i64 x):=by
 obtain ⟨hi,he⟩:=List.getElem?_eq_some_iff.1 hx
 rw [hl.load hi,he]
theorem Sl.ok {ro:Ro} {h:T Obj} {v:Value} {z:Nat} {cs:List (List Value)} (hl:Sl ro h v z cs):cP v=true:=by
 rcases hl with ⟨rfl,_⟩ | ⟨a,cap,rfl,_⟩<;>rfl
theorem ZI.ok {ro:Ro} {h:T Obj} {v:Value} {l:List Int} (hl:ZI ro h v l):cP v=true:=Sl.ok hl
theorem bT {α:Type} {l:List α} {k:Nat} (hk:k < l.length):l.drop k=l[k]::l.drop (k+1):=List.drop_eq_getElem_cons hk
theorem gB {α:Type} {l:List α} {k:Nat} (hk:l.length≤k):l.drop k=[]:=List.drop_eq_nil_of_le hk
def oY (z:Nat) (v:Value) (i k:Nat):Value:=match v with
 | .slice (some a) _ _=>.pointer (some (elt a (i*z+k)))
 | _=>undef
def SlR {D:Type} (ro:Ro) (h:T Obj) (v:Value) (z:Nat) (R:List Value→D→Prop) (l:List D):Prop:=∃ cs,Sl ro h v z cs∧cs.length=l.length∧∀ (i:Nat) x d,cs[i]?=some x→l[i]?=some d→R x d
section
variable {D:Type} {ro:Ro} {h h':T Obj} {v:Value} {z:Nat} {R R':List Value→D→Prop} {l:List D}
theorem SlR.imp (hl:SlR ro h v z R l) (hR:∀ x d,R x d→R' x d):SlR ro h v z R' l:=by
 obtain ⟨cs,h1,h2,h3⟩:=hl
 exact ⟨cs,h1,h2,fun i x d hx hd=>hR _ _ (h3 i x d hx hd)⟩
theorem SlR.sub (hs:Sub h h') (hR:∀ x d,R x d→R' x d) (hl:SlR ro h v z R l):SlR ro h' v z R' l:=by
 obtain ⟨cs,h1,h2,h3⟩:=hl
 exact ⟨cs,h1.sub hs,h2,fun i x d hx hd=>hR _ _ (h3 i x d hx hd)⟩
theorem SlR.nil:SlR ro h (.slice none 0 0) z R ([]:List D):=⟨[],Sl.nil,rfl,fun i x d hx=>by simp at hx⟩
theorem SlR.len (hl:SlR ro h v z R l):bI v=some (.int .i64 l.length):=by
 obtain ⟨cs,h1,h2,h3⟩:=hl
 have:=h1.len
 rwa [h2] at this
theorem SlR.ix (hl:SlR ro h v z R l) (k:IntKind) {i:Nat} (hi:i < l.length):cL z v (.int k (i:Int))=some (iT z v i):=by
 obtain ⟨cs,h1,h2,h3⟩:=hl
 exact h1.ix k (by omega)
theorem SlR.ixI (hl:SlR ro h v z R l) (k:IntKind) {i:Int} (h0:0≤i) (hi:i < l.length):cL z v (.int k i)=some (iT z v i.toNat):=by
 have:=hl.ix k (i:=i.toNat) (by omega)
 rwa [Int.toNat_of_nonneg h0] at this
theorem aKN (a:Addr) (i j:Nat):fwd (elt a i) j=elt a (i+j):=by
 obtain ⟨b,o,s⟩:=a
 cases s<;>simp [fwd,elt,Nat.add_assoc]
theorem Sl.fwd {cs:List (List Value)} (hl:Sl ro h v z cs) {i:Nat} (hi:i < cs.length) (k:Nat):aQ k (iT z v i)=some (oY z v i k):=by
 rcases hl with ⟨rfl,rfl⟩ | ⟨a,cap,rfl,h2,h3,h4⟩
 ·simp at hi
 ·simp only [aQ,iT,asP,Option.bind,oY,aKN]
theorem Sl.load1K {cs:List (List Value)} (hl:Sl ro h v z cs) {i k:Nat} {x:List Value} {w:Value} (hx:cs[i]?=some x) (hk:x[k]?=some w):V.load1 ro h (oY z v i k)=some w:=by
 rcases hl with ⟨rfl,rfl⟩ | ⟨a,cap,rfl,h2,h3,h4⟩
 ·simp at hx
 ·have h5:=(Sl.at h4.1 h4.2 i _ hx)
  have hkl:=(List.getElem?_eq_some_iff.1 hk).1
  have hi:=(List.getElem?_eq_some_iff.1 hx).1
  have h6:i*z+k+1≤cs.length*z:=by
   have:i*z+z≤cs.length*z:=by rw [← Nat.succ_mul]; exact Nat.mul_le_mul_right _ hi
   omega
  have h7:=nK h4.2 (off:=i*z+k) (k:=1) h6
  have h8:=(lM h4.1).2 i x hx
  have h9:(cs.flatten.drop (i*z+k)).take 1=[w]:=by
   have:(cs.flatten.drop (i*z+k))[0]?=some w:=by
    rw [← h8] at hk
    rw [List.getElem?_take,if_pos (by omega),List.getElem?_drop] at hk
    rw [List.getElem?_drop]; simpa using hk
   have h10:=aA2 (l:=cs.flatten.drop (i*z+k)) (off:=0) this
   simpa using h10
  rw [h9] at h7
  simp only [V.load1,oY,asP,Option.bind,h7]
theorem SlR.at (hl:SlR ro h v z R l) {i:Nat} (hi:i < l.length):∃ x,R x l[i]∧x.length=z∧V.loadA ro h z (iT z v i)=some (.agg x.toArray)∧(∀ k,aQ k (iT z v i)=some (oY z v i k))∧∀ k w,x[k]?=some w→V.load1 ro h (oY z v i k)=some w:=by
 obtain ⟨cs,h1,h2,h3⟩:=hl
 have hx:cs[i]?=some (cs[i]'(by omega)):=List.getElem?_eq_getElem _
 refine ⟨_,h3 i _ _ hx (List.getElem?_eq_getElem hi),?_,h1.loadA hx,fun k=>h1.fwd (by omega) k,fun k w hk=>h1.load1K hx hk⟩
 rcases h1 with ⟨rfl,rfl⟩ | ⟨a,cap,rfl,g2,g3,g4⟩
 ·simp at hx
 ·exact g4.1 _ (List.getElem_mem _)
theorem SlR.at1 (hl:SlR ro h v 1 R l) {i:Nat} (hi:i < l.length):∃ w,R [w] l[i]∧V.load1 ro h (iT 1 v i)=some w:=by
 obtain ⟨cs,h1,h2,h3⟩:=hl
 have hx:cs[i]?=some (cs[i]'(by omega)):=List.getElem?_eq_getElem _
 have hz:(cs[i]'(by omega)).length=1:=by
  rcases h1 with ⟨rfl,rfl⟩ | ⟨a,cap,rfl,g2,g3,g4⟩
  ·simp at hx
  ·exact g4.1 _ (List.getElem_mem _)
 generalize cs[i]'(by omega)=x at hx hz
 match x,hz with
 | [w],_=>exact ⟨w,h3 i _ _ hx (List.getElem?_eq_getElem hi),h1.load1 hx⟩
end
theorem SlR.same {D:Type} {ro:Ro} {h h':T Obj} {v:Value} {z:Nat} {R:List Value→D→Prop} {l:List D} (hl:SlR ro h v z R l) (hs:Sub h h') {i:Nat} (hi:i < l.length):jD (iT z v i) h h':=by
 obtain ⟨cs,h1,h2,h3⟩:=hl
 exact h1.same hs (by omega)
theorem dY {h:T Obj} {nx m:Nat} {v:Value} {ty:TypeId} {K:T Obj→Prop} (hf:Fr h m) (hm:m≤nx) (hK:∀ h',Sub h h'→Fr h' (nx+1)→h'.get nx=some (.cells (Value.cells v) ty)→(∀ k,k≠nx→h'.get k=h.get k)→K h'):cM h nx (.cells (Value.cells v) ty) K :=
 aD (hK _ ((Sub.refl h).new hf hm) ((hf.mono (show m≤nx+1 by omega)).upd (Nat.le_refl _) (by omega)) (by rw [T.get_upd_same]) fun k hk=>T.get_upd_ne _ _ hk)
theorem aGm {h:T Obj} {nx m:Nat} {o:Obj} {K:T Obj→Prop} (hf:Fr h m) (hm:m≤nx) (hK:∀ h',Sub h h'→Fr h' (nx+1)→h'.get nx=some o→(∀ k,k≠nx→h'.get k=h.get k)→K h'):cM h nx o K :=
 aD (hK _ ((Sub.refl h).new hf hm) ((hf.mono (show m≤nx+1 by omega)).upd (Nat.le_refl _) (by omega)) (by rw [T.get_upd_same]) fun k hk=>T.get_upd_ne _ _ hk)
theorem jL {P:Program} {h:T Obj} {a m n:Nat} {ty:TypeId} {zv v:Value} {x:List Value} {K:T Obj→Prop} (hz:zer P ty=some zv) (hzs:zv.cells.size=n) (hv:v.cells=x.toArray) (hx:x.length=n) (hok:x.all cP=true) (hf:Fr h m) (hm:m≤a)
  (hK:∀ h',Sub h h'→Fr h' (a+1)→h'.get a=some (.cells x.toArray ty)→(∀ k,k≠a→h'.get k=h.get k)→K h') :
  aA (zer P ty) fun z=>cM h a (.cells z.cells ty) fun h1=>aA (bV n h1 (ptr a) v) K:=by
 refine aB hz (aD (aB (lJ (l:=zv.cells.toList) (vs:=x) (e:=ty) (f:=(0,0)) (by rw [T.get_upd_same]) hv hx (by simpa using hzs) hok) ?_))
 refine hK _ (((Sub.refl h).new hf hm).new hf hm) (((hf.mono (show m≤a+1 by omega)).upd (Nat.le_refl _) (by omega)).upd (Nat.le_refl _) (by omega)) (by rw [T.get_upd_same]) fun k hk=>?_
 rw [T.get_upd_ne _ _ hk,T.get_upd_ne _ _ hk]
theorem BB:(∀ (h:T Obj) (i:Nat) (o:Obj) (K:T Obj→Prop),cM h i o K=K (h.upd i (some o))) ∧
  (∀ (h:T Obj) (i:Nat) (o:Obj) (K:T Obj→Prop),eQ h i (some o) K=K (h.upd i (some o))) ∧
  (∀ (h:T Obj) (i:Nat) (K:T Obj→Prop),eQ h i none K=K h) ∧
  (∀ {α:Type} (a:α) (K:α→Prop),aA (some a) K=K a) ∧
  (∀ (A B:Prop),aS (.bool true) A B=A) ∧
  (∀ (A B:Prop),aS (.bool false) A B=B) ∧
  (∀ (h:T Obj) (nx:Nat) (A:KV→Prop) (K:KV),ifP (.bool true) true h nx A K=A K) ∧
  (∀ (h:T Obj) (nx:Nat) (A:KV→Prop) (K:KV),ifP (.bool false) false h nx A K=A K) ∧
  (∀ (h:T Obj) (nx:Nat) (A:KV→Prop) (K:KV),ifP (.bool true) false h nx A K=K undef h nx) ∧
  (∀ (h:T Obj) (nx:Nat) (A:KV→Prop) (K:KV),ifP (.bool false) true h nx A K=K undef h nx) ∧
  (∀ (A:Prop) (B:Nat→Prop) (D:Prop),exP .normal A B D=A) ∧
  (∀ (i:Nat) (A:Prop) (B:Nat→Prop) (D:Prop),exP (.exit i) A B D=B i) ∧
  (∀ (A:Prop) (B:Nat→Prop) (D:Prop),exP .ret A B D=D) ∧
  (∀ (A B:Prop),cO true A B=A) ∧
  (∀ (A B:Prop),cO false A B=B) ∧
  (∀ (cs:Array Value),Value.cells (.agg cs)=cs) ∧
  (∀ (k:IntKind) (n:Int),Value.cells (.int k n)=#[.int k n]) ∧
  (∀ (b:Bool),Value.cells (.bool b)=#[.bool b]) ∧
  (∀ (k:IntKind) (a b:Int),aO .add (.int k a) (.int k b)=some (.int k (wr k (a+b)))) ∧
  (∀ (k:IntKind) (a b:Int),aO .sub (.int k a) (.int k b)=some (.int k (wr k (a - b)))) ∧
  (∀ (k:IntKind) (a b:Int),aO .mul (.int k a) (.int k b)=some (.int k (wr k (a*b)))) ∧
  (∀ (k:IntKind) {a b:Int} (ha:0≤a) (hb:0 < b),aO .quo (.int k a) (.int k b)=some (.int k (wr k (a / b)))) ∧
  (∀ (k:IntKind) {a b:Int} (ha:0≤a) (hb:0 < b),aO .rem (.int k a) (.int k b)=some (.int k (a % b))) ∧
  (∀ (k':IntKind) (a:Nat) {b:Int} (hb:0≤b) (hk:b≤64),aO .shr (.int .u64 (a:Int)) (.int k' b)=some (.int .u64 ((a / 2 ^ b.toNat:Nat):Int))) ∧
  (∀ (k':IntKind) {b:Int} (hb:0≤b) (hk:b < 64),aO .shl (.int .u64 1) (.int k' b)=some (.int .u64 ((2 ^ b.toNat:Nat):Int))) ∧
  (∀ {a b:Int} (ha:0≤a) (hb:0≤b) (ha':a≤18446744073709551615) (hb':b≤18446744073709551615),aO .and (.int .u64 a) (.int .u64 b)=some (.int .u64 (Nat.land a.toNat b.toNat:Nat))) ∧
  (∀ {a b:Int} (ha:0≤a) (hb:0≤b) (ha':a≤18446744073709551615) (hb':b≤18446744073709551615),aO .or (.int .u64 a) (.int .u64 b)=some (.int .u64 (Nat.lor a.toNat b.toNat:Nat))) ∧
  (∀ {a b:Int} (ha:0≤a) (hb:0≤b) (ha':a≤18446744073709551615) (hb':b≤18446744073709551615),aO .xor (.int .u64 a) (.int .u64 b)=some (.int .u64 (Nat.xor a.toNat b.toNat:Nat))) ∧
  (∀ {n:Int} (h1:-9223372036854775808≤n) (h2:n≤9223372036854775807),wr .i64 n=n) ∧
  (∀ {n:Int} (h1:0≤n) (h2:n≤255),wr .u8 n=n) ∧
  (∀ {n:Int} (h1:0≤n) (h2:n≤18446744073709551615),wr .u64 n=n) ∧
  (∀ (k k':IntKind) (n:Int),wH k (.int k' n)=some (.int k (wr k n))) ∧
  (∀ (b:Bool),unV .not (.bool b)=some (.bool (!b))) ∧
  (∀ (a b:Bool),aFd .eql (.bool a) (.bool b)=some (.bool (a==b))) ∧
  (∀ (a b:Bool),aFd .neq (.bool a) (.bool b)=some (.bool (!(a==b)))) ∧
  (∀ (a b:Value),bH (.bool true) a b=some a) ∧
  (∀ (a b:Value),bH (.bool false) a b=some b) ∧
  (∀ (a:Option Addr) (n c:Nat),bI (.slice a n c)=some (.int .i64 n)) ∧
  (∀ (id:Nat),ptr id=at_ id 0 0) ∧
  (∀ (k id off z:Nat),aQ k (at_ id off z)=some (at_ id (off+k) z)) ∧
  (∀ (n z id off y:Nat) (k:IntKind) {i:Int} (h0:0≤i) (h1:i < n),ixArr n z (at_ id off y) (.int k i)=some (at_ id (off+i.toNat*z) y)) ∧
  (∀ (ro:Ro) (h:T Obj) (id off z:Nat),load1 ro h (at_ id off z)=(nL (h.get id)).bind fun c=>c[off]?) ∧
  (∀ (ro:Ro) (h:T Obj) (n id off z:Nat),loadA ro h n (at_ id off z)=(nL (h.get id)).bind fun c=>if off+n≤c.length then some (.agg ((c.drop off).take n).toArray) else none) ∧
  (∀ (n:Nat) (h:T Obj) (id off z:Nat) (v:Value),bV n h (at_ id off z) v=if v.cells.size=n then (aFy (h.get id) off v.cells.toList).bind (fun o=>some (h.upd id (some o))) else none) ∧
  (∀ (c:Array Value) (e:TypeId) (f:Nat × Nat),nL (some (.cells c e f))=some c.toList) ∧
  (∀ {c:Array Value} {e:TypeId} {f:Nat × Nat} {off:Nat} {vs:List Value} (h1:off+vs.length≤c.size) (h2:vs.all cP=true),aFy (some (.cells c e f)) off vs=some (.cells (over c.toList off vs).toArray e f)) ∧
  (∀ (l:List Value),l.toArray.toList=l) ∧
  (∀ (l:List Value),l.toArray.size=l.length) :=
 ⟨@d7,@cZ,@cY,@bS,@cC,@bW,@fW,@fT,@fV,@fU,@cD,@dI,@eC,@cS,@b8,@Value.cells_agg,@cV,@cB,@dB,@dL,@dG,@dJ,@dK,@bO,@bJ,@cE,@cX,@cF,@eP,@iO,@fH,@cW,@eE,@cT,@cU,@cG,@bX,@bR,@fL,@eD,@dM,@cI,@bZ,@bY,@bE,@bP,@tl,@ts⟩
theorem B2:(∀ (h:Decidable True),@decide True h=true)∧(∀ (h:Decidable False),@decide False h=false)∧((!true)=false)∧((!false)=true) ∧
  (∀ {α β:Type} (a:α) (f:α→Option β),(some a).bind f=f a)∧(∀ {α:Type} (t:T α) (k:Nat) (o:Option α),(t.upd k o).get k=o)∧(∀ {α:Type} (t:T α) {k i:Nat} (o:Option α),i≠k→(t.upd k o).get i=t.get i) ∧
  (∀ {α:Type} {c:Prop} {h:Decidable c} {a b:α},c→@ite α c h a b=a)∧(∀ n:Nat,0+n=n)∧(∀ n:Nat,n*1=n)∧(∀ n:Nat,n+0=n)∧(∀ n:Nat,(n:Int).toNat=n)∧(∀ n:Nat,n≤n) :=
 ⟨fun _=>decide_true ..,fun _=>decide_false ..,rfl,rfl,fun _ _=>rfl,T.get_upd_same,fun t _ _ o h=>T.get_upd_ne t o h,fun h=>if_pos h,Nat.zero_add,Nat.mul_one,fun _=>rfl,fun _=>rfl,Nat.le_refl⟩
theorem CC:(∀ {k:IntKind} {a b:Int},a < b→aO .lss (.int k a) (.int k b)=some (.bool true))∧(∀ {k:IntKind} {a b:Int},b≤a→aO .lss (.int k a) (.int k b)=some (.bool false)) ∧
  (∀ {k:IntKind} {a b:Int},a≤b→aO .leq (.int k a) (.int k b)=some (.bool true))∧(∀ {k:IntKind} {a b:Int},b < a→aO .leq (.int k a) (.int k b)=some (.bool false)) ∧
  (∀ {k:IntKind} {a b:Int},b < a→aO .gtr (.int k a) (.int k b)=some (.bool true))∧(∀ {k:IntKind} {a b:Int},a≤b→aO .gtr (.int k a) (.int k b)=some (.bool false)) ∧
  (∀ {k:IntKind} {a b:Int},b≤a→aO .geq (.int k a) (.int k b)=some (.bool true))∧(∀ {k:IntKind} {a b:Int},a < b→aO .geq (.int k a) (.int k b)=some (.bool false)) ∧
  (∀ {k:IntKind} {a b:Int},a=b→aO .eql (.int k a) (.int k b)=some (.bool true))∧(∀ {k:IntKind} {a b:Int},a≠b→aO .eql (.int k a) (.int k b)=some (.bool false)) ∧
  (∀ {k:IntKind} {a b:Int},a≠b→aO .neq (.int k a) (.int k b)=some (.bool true))∧(∀ {k:IntKind} {a b:Int},a=b→aO .neq (.int k a) (.int k b)=some (.bool false)):=by
 refine ⟨?_,?_,?_,?_,?_,?_,?_,?_,?_,?_,?_,?_⟩<;>intro k a b h
 ·rw [aY,decide_eq_true h]
 ·rw [aY,decide_eq_false (by omega)]
 ·rw [aX,decide_eq_true h]
 ·rw [aX,decide_eq_false (by omega)]
 ·rw [aW,decide_eq_true h]
 ·rw [aW,decide_eq_false (by omega)]
 ·rw [aV,decide_eq_true h]
 ·rw [aV,decide_eq_false (by omega)]
 ·rw [aT,decide_eq_true h]
 ·rw [aT,decide_eq_false h]
 ·rw [aU,decide_eq_false h]; rfl
 ·rw [aU,decide_eq_true h]; rfl
end V
end Go.Proofs.YtcaccnneblghgaaGreat
noncomputable section
namespace Go.Proofs.YtcaccnneblghgaaGreat
namespace V
def iN:Value→Option Nat
 | .slice (some a) _ _=>some a.block
 | _=>none
def dV (h:T Obj) (v:Value) (z:Nat) (e:TypeId) (l:List (List Value)) (lo:Nat):Prop :=
 (v=.slice none 0 0∧l=[])∨∃ id,lo≤id∧v=.slice (some (own id z)) l.length l.length∧(∀ x∈l,x.length=z)∧h.get id=some (.cells l.flatten.toArray e)
theorem dV.nil {h:T Obj} {z:Nat} {e:TypeId} {lo:Nat}:dV h (.slice none 0 0) z e [] lo:=.inl ⟨rfl,rfl⟩
theorem dV.mono {h:T Obj} {v:Value} {z:Nat} {e:TypeId} {l:List (List Value)} {lo lo':Nat} (ho:dV h v z e l lo) (hl:lo'≤lo):dV h v z e l lo':=by
 rcases ho with ho | ⟨id,h1,h2⟩
 ·exact .inl ho
 ·exact .inr ⟨id,by omega,h2⟩
theorem dV.sl {ro:Ro} {h:T Obj} {v:Value} {z:Nat} {e:TypeId} {l:List (List Value)} {lo:Nat} (ho:dV h v z e l lo):Sl ro h v z l:=by
 rcases ho with ho | ⟨id,_,rfl,h4,h5⟩
 ·exact .inl ho
 ·exact Sl.own h5 h4 (Nat.le_refl _)
def Kp (v:Value) (h h':T Obj):Prop:=∀ k o,h.get k=some o→iN v≠some k→h'.get k=some o
theorem Sub.kp {v:Value} {h h':T Obj} (hs:Sub h h'):Kp v h h':=fun k o hk _=>hs k o hk
theorem Kp.trans {v:Value} {a b c:T Obj} (h1:Kp v a b) (h2:Sub b c):Kp v a c:=fun k o hk hv=>h2 k o (h1 k o hk hv)
theorem dV.keep {h h':T Obj} {v w:Value} {z:Nat} {e:TypeId} {l:List (List Value)} {lo:Nat} (ho:dV h v z e l lo) (hk:Kp w h h') (hne:∀ id,iN v=some id→iN w≠some id):dV h' v z e l lo:=by
 rcases ho with ho | ⟨id,h1,rfl,h4,h5⟩
 ·exact .inl ho
 ·exact .inr ⟨id,h1,rfl,h4,hk id _ h5 (hne id rfl)⟩
theorem dV.keepS {h h':T Obj} {v:Value} {z:Nat} {e:TypeId} {l:List (List Value)} {lo:Nat} (ho:dV h v z e l lo) (hk:Sub h h'):dV h' v z e l lo:=by
 rcases ho with ho | ⟨id,h1,rfl,h4,h5⟩
 ·exact .inl ho
 ·exact .inr ⟨id,h1,rfl,h4,hk id _ h5⟩
theorem dV.ne {h:T Obj} {v:Value} {z:Nat} {e e':TypeId} {l:List (List Value)} {lo k:Nat} {c:Array Value} {f:Nat × Nat} (ho:dV h v z e l lo) (hk:h.get k=some (.cells c e' f)) (he:e'≠e):iN v≠some k:=by
 rcases ho with ⟨rfl,_⟩ | ⟨id,_,rfl,_,h5⟩
 ·intro h; cases h
 ·intro h
  have:id=k:=Option.some.inj h
  subst this
  rw [hk] at h5
  simp only [Option.some.injEq,Obj.cells.injEq] at h5
  exact he h5.2.1
theorem dV.lt {h:T Obj} {v:Value} {z:Nat} {e:TypeId} {l:List (List Value)} {lo k:Nat} (ho:dV h v z e l lo) (hk:k < lo):iN v≠some k:=by
 rcases ho with ⟨rfl,_⟩ | ⟨id,h1,rfl,_,h5⟩
 ·intro h; cases h
 ·intro h
  have:id=k:=Option.some.inj h
  omega
theorem Fr.lt' {h:T Obj} {n k:Nat} {o:Obj} (hf:Fr h n) (hk:h.get k=some o):k < n:=by
 rcases Nat.lt_or_ge k n with h1 | h1
 ·exact h1
 ·rw [hf k h1] at hk; cases hk
theorem dV.sub {h0 h h':T Obj} {v:Value} {z:Nat} {e:TypeId} {l:List (List Value)} {lo n0:Nat} (ho:dV h v z e l lo) (hk:Kp v h h') (hf:Fr h0 n0) (hn:n0≤lo) (hs:Sub h0 h):Sub h0 h':=fun k o hk0=>hk k o (hs k o hk0) (ho.lt (by have:=hf.lt' hk0; omega))
theorem aKE {P:Program} {ro:Ro} {h:T Obj} {v x:Value} {z nx lo:Nat} {t e:TypeId} {i:TypeInfo} {zv:Value} {l m:List (List Value)} (ho:dV h v z e l lo) (hx:Sl ro h x z m) (hu:und P t=some (.slice e)) (hi':tin P e=some i) (hz:i.size=z) (hz0:0 < z) (hzer:zer P e=some zv) (hzs:zv.cells.size=z)
  (hm:m≠[]) (hok:m.flatten.all cP=true) (hb:(l.length+m.length)*i.bytes≤big) (hb2:l.length+m.length≤big) (hlo:lo≤nx) (hf:Fr h nx) :
  ∃ h',cR P ro h nx #[t,t] [v,x]=some (.slice (some (own nx z)) (l++m).length (l++m).length,h',nx+1)∧dV h' (.slice (some (own nx z)) (l++m).length (l++m).length) z e (l++m) lo∧Kp v h h'∧Fr h' (nx+1)∧(∀ k,k≠nx→h'.get k=h.get k∨h'.get k=none):=by
 have fin:∀ h':T Obj,(∀ k,k≠nx→h'.get k=h.get k∨h'.get k=none)→Fr h' (nx+1):=fun h' h2 k hk=>by
  rcases h2 k (by omega) with h3 | h3
  ·rw [h3]; exact hf k (by omega)
  ·exact h3
 rcases ho with ⟨rfl,rfl⟩ | ⟨id,h1,rfl,h4,h5⟩
 ·obtain ⟨h',q1,q2,q3,q4⟩:=aA4 (P:=P) (t:=t) (lo:=nx) (hi:=nx) (Own.nil (h:=h) (z:=z) (e:=e)) hx hu hi' hz hz0 hzer hzs hm hok (by simpa using hb) (by simpa using hb2) (Nat.le_refl _) (Nat.le_refl _)
  refine ⟨h',q1,?_,fun k o hk _=>?_,fin h' q4,q4⟩
  ·rcases q2 with ⟨h6,_⟩ | ⟨id,h6,h7,h8,h9,h10⟩
   ·cases h6
   ·exact .inr ⟨id,by omega,h8,h9,h10⟩
  ·have:=hf.lt' hk
   rw [q3 k (.inl this) (by omega)]; exact hk
 ·have hid:=hf.lt' h5
  obtain ⟨h',q1,q2,q3,q4⟩:=aA4 (P:=P) (t:=t) (lo:=id) (hi:=id+1) (.inr ⟨id,Nat.le_refl _,by omega,rfl,h4,h5⟩:Own h _ z e l id (id+1)) hx hu hi' hz hz0 hzer hzs hm hok hb hb2 (show id≤nx by omega) (by omega)
  refine ⟨h',q1,?_,fun k o hk hne=>?_,fin h' q4,q4⟩
  ·rcases q2 with ⟨h6,_⟩ | ⟨id2,h6,h7,h8,h9,h10⟩
   ·cases h6
   ·exact .inr ⟨id2,by omega,h8,h9,h10⟩
  ·have h7:=hf.lt' hk
   have h8:id≠k:=fun h=>hne (by rw [← h]; rfl)
   rw [q3 k (by omega) (by omega)]; exact hk
theorem aHT {P:Program} {ro:Ro} {h:T Obj} {v x:Value} {z nx lo:Nat} {t e:TypeId} {i:TypeInfo} {l:List (List Value)} (ho:dV h v z e l lo) (hx:Sl ro h x z []) (hu:und P t=some (.slice e)) (hi':tin P e=some i) :
  cR P ro h nx #[t,t] [v,x]=some (v,h,nx):=by
 obtain ⟨a,len,rfl⟩:∃ a len,v=.slice a len len:=by
  rcases ho with ⟨rfl,_⟩ | ⟨id,_,rfl,_⟩
  ·exact ⟨none,0,rfl⟩
  ·exact ⟨_,_,rfl⟩
 have hs:aAD P ro h e i.size i.bytes t x=some (0,[]):=by
  rcases hx with ⟨rfl,_⟩ | ⟨a,cap,rfl,h2,h3,h4,h5⟩
  ·simp only [aAD,hu]
  ·have:cellsAt ro h a (0*i.size)=some []:=by
    have:cellsAt ro h a (0*z)=some []:=by simpa using h5
    rw [Nat.zero_mul] at this ⊢; exact this
   simp only [aAD,hu,List.length_nil,this,Option.bind]
 have hb:Nat.ble (len+0) len=true:=Nat.ble_eq_true_of_le (by omega)
 simp only [cR,List.getElem?_toArray,List.getElem?_cons_zero,List.getElem?_cons_succ,hu,hi',Option.bind_some,hs,hb]
theorem aJE {P:Program} {ro:Ro} {h:T Obj} {v x:Value} {z nx lo:Nat} {t e:TypeId} {i:TypeInfo} {zv:Value} {l m:List (List Value)} (ho:dV h v z e l lo) (hx:Sl ro h x z m) (hu:und P t=some (.slice e)) (hi':tin P e=some i) (hz:i.size=z) (hz0:0 < z) (hzer:zer P e=some zv) (hzs:zv.cells.size=z)
  (hok:m.flatten.all cP=true) (hb:(l.length+m.length)*i.bytes≤big) (hb2:l.length+m.length≤big) (hlo:lo≤nx) (hf:Fr h nx) :
  ∃ r h' n',cR P ro h nx #[t,t] [v,x]=some (r,h',n')∧dV h' r z e (l++m) lo∧Kp v h h'∧nx≤n'∧Fr h' n'∧(iN r=none∨iN r=iN v∨iN r=some nx):=by
 cases m with
 | nil=>exact ⟨v,h,nx,aHT ho hx hu hi',by rw [List.append_nil]; exact ho,(fun k o hk _=>hk),Nat.le_refl _,hf,.inr (.inl rfl)⟩
 | cons y m =>
  obtain ⟨h',q1,q2,q3,q4,q5⟩:=aKE (P:=P) (t:=t) ho hx hu hi' hz hz0 hzer hzs (by simp) hok hb hb2 hlo hf
  exact ⟨_,h',nx+1,q1,q2,q3,by omega,q4,.inr (.inr rfl)⟩
end V
end Go.Proofs.YtcaccnneblghgaaGreat
noncomputable section
namespace Go.Proofs.YtcaccnneblghgaaGreat
namespace V
open Go.Deep
theorem yX {ro:Ro}:∀ {n m:Nat} {a:Addr} {l1 l2:List Value},a.spot=none→roCells ro a n=some l1→roCells ro ⟨a.block,a.off+n,none⟩ m=some l2→roCells ro a (n+m)=some (l1++l2)
 | 0,m,a,l1,l2,hs,h1,h2=>by
  cases h1
  have:(⟨a.block,a.off+0,none⟩:Addr)=a:=by cases a; simp_all
  rw [this] at h2
  simpa using h2
 | n+1,m,a,l1,l2,hs,h1,h2=>by
  obtain ⟨v,g1,h1⟩:=aM h1
  obtain ⟨r,g2,h1⟩:=aM h1
  cases h1
  have ih:=yX (n:=n) (m:=m) (a:=⟨a.block,a.off+1,none⟩) rfl g2 (by rw [show a.off+1+n=a.off+(n+1) by omega]; exact h2)
  rw [show n+1+m=n+m+1 by omega]
  simp [roCells,g1,ih]
section
variable {H:Type} {enc:TypeId × Value→H} {P:Program} {W:World}
theorem aFs {N:Nat}:∀ {l l':List Value},jO N l=some l'→∀ {j:Nat} {y:Value},l'[j]?=some y→∃ x,l[j]?=some x∧vS N x=some y
 | [],l',h,j,y,hy=>by cases h; simp at hy
 | v::l,l',h,j,y,hy=>by
  obtain ⟨v',h1,h⟩:=aM h
  obtain ⟨r,h2,h⟩:=aM h
  cases h
  cases j with
  | zero=>simp at hy; subst hy; exact ⟨v,rfl,h1⟩
  | succ j =>
   obtain ⟨x,h3,h4⟩:=aFs h2 (j:=j) (by simpa using hy)
   exact ⟨x,by simpa using h3,h4⟩
theorem aLu {a:Addr} {n:Nat} {cs cs':List Value} (h:W.cells? 0 a n=some cs) (hn:jO W.heap.size cs=some cs') (ha:a.spot=none):roCells (oE W) a n=some cs':=by
 obtain ⟨_,hlen,hg⟩:=World.cells?_some h
 have hl:=(aB3 (φ:=fun _=>none) hn).length
 have:=aE4 (ro:=oE W) (l:=cs') (a:=a) ha fun j y hy=>by
  obtain ⟨x,hx,hxy⟩:=aFs hn hy
  have hj:j < n:=by rw [← hlen,← hl]; exact (List.getElem?_eq_some_iff.1 hy).1
  have hc:=hg j hj
  rw [rO ha,hx] at hc
  have hb:a.block < W.heap.size:=by
   rcases Nat.lt_or_ge a.block W.heap.size with h1 | h1
   ·exact h1
   ·simp [World.cell?,Array.getElem?_eq_none h1] at hc
  have hbb:Nat.blt a.block W.heap.size=true:=by simp [Nat.blt]; omega
  simp only [oE,hbb,hc,Option.bind,hxy]
 rw [hl,hlen] at this
 exact this
theorem aJ5 {N:Nat} {a:Addr} {l c:Nat} (hs:a.spot=none) (hb:a.block < N) (hc:0 < c):vS N (.slice (some a) l c)=some (.slice (some a) l c):=by
 have:Nat.blt a.block N=true:=by simp [Nat.blt]; omega
 cases c with
 | zero=>omega
 | succ c=>cases l<;>simp [vS,hs,this]
theorem aOJ {t e:TypeId} {z:Nat} (ht:P.underlying t=some (.slice e)) (hz:P.cellsOf e=z) (hz0:0 < z) {fuel:Nat} {cs:List Value} {x:DataW H × List MemPlace} (h:DataW.trod enc P W 0 (fun _=>true) true fuel t cs=some x)
  {El:List Value→Prop} (hel:∀ n cs' y,DataW.trod enc P W 0 (fun _=>true) true n e cs'=some y→∃ cs'',jO W.heap.size cs'=some cs''∧El cs'') :
  ∃ v v',cs=[v]∧vS W.heap.size v=some v'∧∃ l,Sl (oE W) .e v' z l∧∀ x∈l,El x:=by
 rcases open_slice ht h with ⟨rfl,_⟩ | ⟨a,len,cap,m,n,D,Pl,rfl,_,hle,_,hm,_,hx⟩
 ·exact ⟨_,_,rfl,rfl,[],Sl.nil,fun x hx=>by cases hx⟩
 ·simp only [if_true] at hm
  subst hm
  refine ⟨.slice (some a) len m,?_⟩
  rcases Nat.eq_zero_or_pos m with hc0 | hc0
  ·subst hc0
   obtain rfl:len=0:=by omega
   exact ⟨.slice (some aGi) 0 0,rfl,rfl,[],.inr ⟨aGi,0,rfl,Nat.le_refl _,.inl rfl,by simp,by simp [cellsAt,aGi,roCells]⟩,fun x hx=>by cases hx⟩
  ·have h0:a.spot=none∧a.block < W.heap.size:=by
    obtain ⟨cs',h1,_⟩:=hx 0 hc0
    rw [hz] at h1
    obtain ⟨_,hl,hg⟩:=World.cells?_some h1
    have h2:=hg 0 hz0
    have h3:cs'[0]?=some (cs'[0]'(by omega)):=List.getElem?_eq_getElem (by omega)
    rw [h3] at h2
    have hsp:a.spot=none:=by
     have:=World.cell?_spot h2
     simpa [Addr.add] using this
    refine ⟨hsp,?_⟩
    rcases Nat.lt_or_ge a.block W.heap.size with h4 | h4
    ·exact h4
    ·rw [rO hsp,rO rfl] at h2
     simp [World.cell?,Array.getElem?_eq_none h4] at h2
   obtain ⟨hs,hb⟩:=h0
   refine ⟨.slice (some a) len m,rfl,aJ5 hs hb hc0,?_⟩
   have key:∀ k,k≤len→∃ l:List (List Value),l.length=k∧(∀ x∈l,x.length=z)∧(∀ x∈l,El x)∧roCells (oE W) a (k*z)=some l.flatten:=by
    intro k
    induction k with
    | zero=>intro _; exact ⟨[],rfl,by simp,by simp,by simp [roCells]⟩
    | succ k ih =>
     intro hk
     obtain ⟨l,l1,l2,l3,l4⟩:=ih (by omega)
     obtain ⟨cs',h1,h2⟩:=hx k (by omega)
     rw [hz] at h1
     obtain ⟨cs'',h3,h4⟩:=hel _ _ _ h2
     have h5:=aLu h1 h3 (by rw [rO hs])
     have hlen:cs''.length=z:=yY h5
     rw [rO hs] at h5
     refine ⟨l++[cs''],by simp [l1],?_,?_,?_⟩
     ·intro x hx2
      rcases List.mem_append.1 hx2 with h6 | h6
      ·exact l2 x h6
      ·simp at h6; subst h6; exact hlen
     ·intro x hx2
      rcases List.mem_append.1 hx2 with h6 | h6
      ·exact l3 x h6
      ·simp at h6; subst h6; exact h4
     ·rw [Nat.succ_mul]
      have:=yX hs l4 h5
      simpa using this
   obtain ⟨l,l1,l2,l3,l4⟩:=key len (Nat.le_refl _)
   refine ⟨l,.inr ⟨a,m,by rw [l1],by omega,.inl hs,l2,?_⟩,l3⟩
   unfold cellsAt
   rw [hs,l1]
   exact l4
end
end V
end Go.Proofs.YtcaccnneblghgaaGreat