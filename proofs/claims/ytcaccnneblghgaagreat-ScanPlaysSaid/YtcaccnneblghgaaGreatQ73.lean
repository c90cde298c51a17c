/- Texts laid one behind the other: V3, G, W1.
   No condition. -/
import Derived.CheckFast
import Derived.Carry
import Derived.ProofKit
import Derived.SizedLaws
import Derived.JoinedCond
import Derived.Test.YtcaccnneblghgaaGreatProg
import Derived.KernelRfl
import Derived.Deep.Slices
import Derived.Test.YtcaccnneblghgaaGreatQ72
set_option linter.unusedVariables false
set_option linter.unusedSimpArgs false
noncomputable section
namespace Go.Proofs.YtcaccnneblghgaaGreat
namespace V
abbrev dL:=Nat→Value
def dL.put (e:dL) (d:Nat) (v:Value):dL:=fun i=>match Nat.beq i d with
  | true=>v
  | false=>e i
def aB {α:Type} (o:Option α) (K:α→Prop):Prop:=match o with
  | some a=>K a
  | none=>False
abbrev fO {α:Type} (o:Option α) (K:α→Prop):Prop:=match o with
  | some a=>K a
  | none=>False
abbrev evE (e:dL):Operand→Option Value
  | .tmp i=>some (e i)
  | .const v=>match flat v with
    | true=>some v
    | false=>none
  | .global _=>none
  | .func f=>some (.func (.func f) #[] #[])
abbrev aHp (e:dL):List Operand→Option (List Value)
  | []=>some []
  | x::r=>(evE e x).bind fun v=>(aHp e r).bind fun vs=>some (v::vs)
abbrev aPp (e:dL):Option Operand→Option (Option Value)
  | none=>some none
  | some x=>(evE e x).bind fun v=>some (some v)
abbrev aPq (e:dL):List (Nat × Operand)→Option (List (Nat × Value))
  | []=>some []
  | x::r=>(evE e x.2).bind fun v=>(aPq e r).bind fun vs=>some ((x.1,v)::vs)
def asP:Value→Option Addr
  | .pointer (some a)=>some a
  | _=>none
def asAgg:Value→Option (Array Value)
  | .agg cs=>some cs
  | _=>none
def load1 (ro:Ro) (h:T Obj) (v:Value):Option Value:=(asP v).bind fun a=>match cellsAt ro h a 1 with
  | some [x]=>some x
  | _=>none
def loadA (ro:Ro) (h:T Obj) (n:Nat) (v:Value):Option Value:=(asP v).bind fun a=>(cellsAt ro h a n).bind fun l=>some (.agg l.toArray)
def aT (k:Nat) (v:Value):Option Value:=(asP v).bind fun a=>some (.pointer (some (fwd a k)))
def aTv (off:Nat) (v:Value):Option Value:=(asAgg v).bind fun cs=>cs[off]?
def aTw (n off:Nat) (v:Value):Option Value:=(asAgg v).bind fun cs=>match Nat.ble (off+n) cs.size with
  | true=>some (.agg ((cs.toList.drop off).take n).toArray)
  | false=>none
def ixArr (n z:Nat) (x i:Value):Option Value:=(pL i).bind fun i=>(asP x).bind fun a=>match Nat.blt i n with
  | true=>some (.pointer (some (fwd a (i*z))))
  | false=>none
def cQ (z:Nat) (x i:Value):Option Value:=(pL i).bind fun i=>match x with
  | .slice (some a) len _=>match Nat.blt i len with
    | true=>match a.spot with
      | none=>some (.pointer (some (fwd a (i*z))))
      | some z'=>match Nat.beq z z' with
        | true=>some (.pointer (some (elt a (i*z))))
        | false=>none
    | false=>none
  | _=>none
def aGj (x i:Value):Option Value:=(pL i).bind fun i=>match x with
  | .string s=>match s.data.toList[i]? with
    | some b=>some (.int .u8 b.toNat)
    | none=>none
  | _=>none
def aR7 (n z:Nat) (x i:Value):Option Value:=(pL i).bind fun i=>(asAgg x).bind fun cs=>match Nat.blt i n with
  | true=>cs[i*z]?
  | false=>none
def aTz (n z:Nat) (x i:Value):Option Value:=(pL i).bind fun i=>(asAgg x).bind fun cs=>match Nat.blt i n,Nat.ble (i*z+z) cs.size with
  | true,true=>some (.agg ((cs.toList.drop (i*z)).take z).toArray)
  | _,_=>none
def aQ (op:BinOp) (a b:Value):Option Value:=match a,b with
  | .int k x,.int k' y=>match op with
    | .shl | .shr=>aD3 op k x y
    | _=>match decide (k=k') with
      | true=>wT op k x y
      | false=>none
  | _,_=>none
def aFk (op:BinOp) (a b:Value):Option Value:=match a,b with
  | .string x,.string y=>aSH op x y
  | _,_=>none
def aGO (op:BinOp) (a b:Value):Option Value:=match op,a,b with
  | .eql,.bool x,.bool y=>some (.bool (x==y))
  | .neq,.bool x,.bool y=>some (.bool (!(x==y)))
  | _,_,_=>none
def aHg (ks:List Nat) (op:BinOp) (a b:Value):Option Value:=match a,b with
  | .agg xs,.agg ys=>match op with
    | .eql=>(eF ks xs.toList ys.toList).bind fun b=>some (.bool b)
    | .neq=>(eF ks xs.toList ys.toList).bind fun b=>some (.bool (!b))
    | _=>none
  | _,_=>none
def xU (op:BinOp) (a b:Value):Option Value:=match op,a,b with
  | .eql,.pointer none,.pointer y=>some (.bool y.isNone)
  | .eql,.pointer x,.pointer none=>some (.bool x.isNone)
  | .neq,.pointer none,.pointer y=>some (.bool (!y.isNone))
  | .neq,.pointer x,.pointer none=>some (.bool (!x.isNone))
  | _,_,_=>none
def slB (op:BinOp) (a b:Value):Option Value:=match op,a,b with
  | .eql,.slice none _ _,.slice y _ _=>some (.bool y.isNone)
  | .eql,.slice x _ _,.slice none _ _=>some (.bool x.isNone)
  | .neq,.slice none _ _,.slice y _ _=>some (.bool (!y.isNone))
  | .neq,.slice x _ _,.slice none _ _=>some (.bool (!x.isNone))
  | _,_,_=>none
def cS (c a b:Value):Option Value:=match c with
  | .bool true=>some a
  | .bool false=>some b
  | _=>none
def bF:Value→Option Value
  | .pointer (some a)=>some (.pointer (some a))
  | .func (.func f) a b=>some (.func (.func f) a b)
  | _=>none
def zP (k:IntKind):Value→Option Value
  | .int _ n=>some (.int k (wr k n))
  | _=>none
def nth (i:Nat):Value→Option Value
  | .tuple vs=>vs[i]?
  | _=>none
def bS:Value→Option Value
  | .slice _ n _=>some (.int .i64 n)
  | _=>none
def aAX:Value→Option Value
  | .string s=>some (.int .i64 s.size)
  | _=>none
def ptr (id:Nat):Value:=.pointer (some (own id 0))
def bU (n:Nat) (h:T Obj) (a v:Value):Option (T Obj):=(asP a).bind fun a=>match Nat.beq v.cells.size n with
  | true=>lU h a v.cells.toList
  | false=>none
abbrev KV:=Value→T Obj→Nat→Prop
abbrev aFC:=FuncId→List Value→T Obj→Nat→KV→Prop
abbrev ptQ (P:Program) (ro:Ro) (e:dL) (h:T Obj) (aid:Nat) (op:Op) (K:Value→Option Obj→Prop):Prop :=
  match op with
  | .move x | .assign x=>fO (evE e x) fun v=>K v none
  | .pick c a b=>fO (evE e c) fun c=>fO (evE e a) fun a=>fO (evE e b) fun b=>aB (cS c a b) fun v=>K v none
  | .alloc ty=>aB (nF P ty) fun z=>K (ptr aid) (some (.cells z.cells ty))
  | .box ty x=>fO (evE e x) fun v=>K (ptr aid) (some (.cells v.cells ty))
  | .build ty ps=>fO (aPq e ps.toList) fun vs=>aB (fG P ty vs) fun v=>K v none
  | .buildSlice ty n ps=>fO (aPq e ps.toList) fun vs=>aB (b7 P ty aid n vs) fun r=>K r.1 r.2
  | .load ty x=>fO (evE e x) fun v=>match isAgg P ty with
    | some true=>fO (p6 P ty) fun n=>aB (loadA ro h n v) fun u=>K u none
    | some false=>aB (load1 ro h v) fun u=>K u none
    | none=>False
  | .nilCheck x=>fO (evE e x) fun v=>aB (bF v) fun v=>K v none
  | .binOp op ty x y _=>fO (evE e x) fun a=>fO (evE e y) fun b=>match iM P ty with
    | some (.int _)=>aB (aQ op a b) fun v=>K v none
    | some .string=>aB (aFk op a b) fun v=>K v none
    | some .bool=>aB (aGO op a b) fun v=>K v none
    | some (.pointer _)=>aB (xU op a b) fun v=>K v none
    | some (.slice _)=>aB (slB op a b) fun v=>K v none
    | some (.struct _) | some (.array _ _)=>aB (eQ P 20 ty) fun ks=>aB (aHg ks op a b) fun v=>K v none
    | _=>False
  | .unOp op _ x=>fO (evE e x) fun a=>aB (unV op a) fun v=>K v none
  | .convert s d x=>fO (evE e x) fun v=>match iM P s,iM P d with
    | some (.int _),some (.int k)=>aB (zP k v) fun v=>K v none
    | _,_=>aB (aFE P ro h aid s d v) fun r=>K r.1 r.2
  | .makeFunc (.func f) a b=>fO (aHp e a.toList) fun a=>fO (aHp e b.toList) fun b=>K (.func (.func f) a.toArray b.toArray) none
  | .makeMap _ none=>K (.map (some aid)) (some (.map #[] 0))
  | .makeSlice ty l c=>fO (evE e l) fun l=>fO (evE e c) fun c=>aB (aAl P ty aid l c) fun r=>K r.1 r.2
  | .slice ty x lo hi mx=>fO (evE e x) fun x=>fO (aPp e lo) fun lo=>fO (aPp e hi) fun hi=>fO (aPp e mx) fun mx=>aB (nX P ty x lo hi mx) fun v=>K v none
  | .fieldAddr s x f=>fO (evE e x) fun v=>fO (aKv P s f) fun f=>fO (p6 P f.type) fun n=>match n with
    | 0=>False
    | _+1=>aB (aT f.offset v) fun v=>K v none
  | .field ty x f=>fO (evE e x) fun v=>fO (aKv P ty f) fun f=>match isAgg P f.type with
    | some true=>fO (p6 P f.type) fun n=>aB (aTw n f.offset v) fun v=>K v none
    | some false=>aB (aTv f.offset v) fun v=>K v none
    | none=>False
  | .indexAddr ty x i=>fO (evE e x) fun x=>fO (evE e i) fun i=>match iM P ty with
    | some (.array n el)=>fO (p6 P el) fun z=>aB (ixArr n z x i) fun v=>K v none
    | some (.slice el)=>fO (p6 P el) fun z=>aB (cQ z x i) fun v=>K v none
    | _=>False
  | .index ty x i=>fO (evE e x) fun x=>fO (evE e i) fun i=>match iM P ty with
    | some (.array n el)=>fO (p6 P el) fun z=>match isAgg P el with
      | some true=>aB (aTz n z x i) fun v=>K v none
      | some false=>aB (aR7 n z x i) fun v=>K v none
      | none=>False
    | some .string=>aB (aGj x i) fun v=>K v none
    | _=>False
  | .lookup ty x k ok=>fO (evE e x) fun x=>fO (evE e k) fun k=>aB (aCh P h ty x k ok) fun v=>K v none
  | .extract x i=>fO (evE e x) fun v=>aB (nth i v) fun v=>K v none
  | .call { callee:=.builtin b,args,argTypes }=>fO (aHp e args.toList) fun vs=>match b,vs,argTypes[0]? with
    | .len,[x],some ty=>match iM P ty with
      | some .string=>aB (aAX x) fun v=>K v none
      | some (.slice _)=>aB (bS x) fun v=>K v none
      | _=>aB (aLH P h ty x) fun v=>K v none
    | _,_,_=>aB (fZ P h b argTypes vs) fun v=>K v none
  | _=>False
def aBK (C:aFC) (f:Value) (vs:List Value) (h:T Obj) (nx:Nat) (K:KV):Prop:=match f with
  | .func (.func k) a b=>C k (a.toList++vs++b.toList) h nx K
  | _=>False
abbrev ptL (P:Program) (ro:Ro) (C:aFC) (e:dL) (h:T Obj) (nx:Nat) (op:Op) (K:KV):Prop :=
  match op with
  | .store ty a x=>fO (evE e a) fun a=>fO (evE e x) fun x=>fO (p6 P ty) fun n=>aB (bU n h a x) fun h=>K undef h nx
  | .mapUpdate ty m k x | .insert ty m k x=>fO (evE e m) fun m=>fO (evE e k) fun k=>fO (evE e x) fun x=>aB (aAZ P h ty m k x) fun h=>K undef h nx
  | .call { callee:=.builtin b,args,argTypes }=>fO (aHp e args.toList) fun vs=>match b with
    | .append=>aB (cZ P ro h nx argTypes vs) fun r=>K r.1 r.2.1 r.2.2
    | .copy=>aB (aGW P ro h nx argTypes vs) fun r=>K r.1 r.2.1 r.2.2
    | .clear=>match vs,argTypes[0]? with
      | [m],some ty=>aB (iM P ty) fun _=>aB (aDL h m) fun h=>K (.tuple #[]) h nx
      | _,_=>False
    | _=>False
  | .call { callee:=.value f,args,.. }=>fO (evE e f) fun f=>fO (aHp e args.toList) fun vs=>aBK C f vs h nx K
  | .convert s d x=>fO (evE e x) fun v=>aB (zQ P h s d v) fun r=>K r.1 r.2 nx
  | _=>False
abbrev ptO (P:Program) (ro:Ro) (C:aFC) (e:dL) (h:T Obj) (nx aid:Nat) (op:Op) (K:KV):Prop :=
  match jE op with
  | true=>ptL P ro C e h nx op K
  | false=>ptQ P ro e h aid op fun v ob=>K v (aDG h aid ob) nx
def bA (v:Value) (w:Bool) (h:T Obj) (nx:Nat) (A:KV→Prop) (K:KV):Prop:=match v with
  | .bool b=>match b==w with
    | true=>A K
    | false=>K undef h nx
  | _=>K undef h nx
abbrev Gd:=Option (Value × Bool)
abbrev aJD (g:Gd) (h:T Obj) (nx:Nat) (A:KV→Prop) (K:KV):Prop:=match g with
  | none=>A K
  | some vw=>bA vw.1 vw.2 h nx A K
abbrev gdP (ops:Array Oper) (e:dL) (g:Option (Nat × Bool)) (K:Gd→Prop):Prop:=match g with
  | none=>K none
  | some (j,w)=>match (ops[j]?).bind (·.dst) with
    | some d=>K (some (e d,w))
    | none=>False
abbrev aOz (n:Nat) (e:dL) (d:Option Tmp) (v:Value) (K:dL→Prop):Prop:=match d with
  | none=>K e
  | some d=>match Nat.blt d n with
    | true=>K (e.put d v)
    | false=>False
abbrev aQf (P:Program) (ro:Ro) (C:aFC) (n:Nat) (ops:Array Oper):List Oper→dL→T Obj→Nat→(dL→T Obj→Nat→Prop)→Prop
  | [],e,h,nx,Q=>Q e h nx
  | o::l,e,h,nx,Q=>gdP ops e o.guard fun g=>aJD g h nx (fun K=>ptO P ro C e h (nx+1) nx o.op K) fun v h nx=>aOz n e o.dst v fun e=>aQf P ro C n ops l e h nx Q
def rdE (P:Program) (e:dL):Op→Option Value
  | .load _ x=>evE e x
  | .lookup _ x _ _=>evE e x
  | .convert s _ x=>match iM P s with
    | some (.slice _)=>evE e x
    | _=>none
  | .call { callee:=.builtin _,args,argTypes }=>match (argTypes[0]?).bind (iM P) with
    | some (.map _ _)=>match aHp e args.toList with
      | some [v]=>some v
      | _=>none
    | _=>none
  | _=>none
def gZ (v:Value) (h h':T Obj):Prop:=match blk v with
  | some b=>same b h h'
  | none=>True
def onP (g:Gd) (X:Prop):Prop:=match g with
  | none=>X
  | some vw=>vw.1=.bool vw.2→X
def aQ2:List Nat→Nat→Nat
  | [],_=>0
  | x::_,0=>x
  | _::r,n+1=>aQ2 r n
def zT (b:List Nat) (i j:Nat):Bool:=!(aQ2 b j).testBit i
abbrev aSA {α:Type} (K:List Nat→α):List Nat→List Nat→α
  | [],o=>K o
  | x::r,o=>aSA K r (x::o)
abbrev aOU {α:Type} (K:List Nat→α):List Oper→Nat→List Nat→α
  | [],_,acc=>aSA K acc []
  | o::l,j,acc=>CheckFast.force (CheckFast.one (fun i=>if i < j then acc.getD (j - 1 - i) 0 else 0) o) fun v=>aOU K l (j+1) (v::acc)
def aAN (P:Program) (ops:Array Oper) (b:List Nat):Bool :=
  (List.range ops.size).all fun j=>match ops[j]? with
    | none=>false
    | some oj=>(oj.after.toList.all fun e=>!Region.binds .any e || decide (e.on < j))&&(List.range j).all fun i=>match ops[i]? with
      | none=>false
      | some oi=>match zT b i j with
        | false=>true
        | true=>zC P ops oi oj
abbrev aMD (b:List Nat) (i:Nat) (h h':T Obj):List (Nat × Gd × Value)→Prop→Prop
  | [],K=>K
  | q::ls,K=>match zT b q.1 i with
    | true=>onP q.2.1 (gZ q.2.2 h h')∧aMD b i h h' ls K
    | false=>aMD b i h h' ls K
abbrev aME (b:List Nat) (i:Nat) (v:Value):List (Nat × Gd × T Obj × T Obj)→Prop→Prop
  | [],K=>K
  | q::ms,K=>match zT b q.1 i with
    | true=>onP q.2.1 (gZ v q.2.2.1 q.2.2.2)∧aME b i v ms K
    | false=>aME b i v ms K
abbrev ptD (P:Program) (ro:Ro) (C:aFC) (n:Nat) (ops:Array Oper) (b:List Nat) (n0:Nat):List Oper→Nat→List (Nat × Gd × Value)→List (Nat × Gd × T Obj × T Obj)→dL→T Obj→Nat→(dL→T Obj→Nat→Prop)→Prop
  | [],_,_,_,e,h,nx,Q=>Q e h nx
  | o::l,i,ls,ms,e,h,nx,Q=>gdP ops e o.guard fun g=>match jE o.op with
    | true=>aJD g h nx (fun K=>ptO P ro C e h nx (n0+i) o.op fun v h' nx'=>aMD b i h h' ls (K v h' nx')) fun v h' nx'=>aOz n e o.dst v fun e=>ptD P ro C n ops b n0 l (i+1) ls ((i,g,h,h')::ms) e h' nx' Q
    | false=>match rdE P e o.op with
      | some a=>aJD g h nx (fun K=>ptO P ro C e h nx (n0+i) o.op fun v h' nx'=>aME b i a ms (K v h' nx')) fun v h' nx'=>aOz n e o.dst v fun e=>ptD P ro C n ops b n0 l (i+1) ((i,g,a)::ls) ms e h' nx' Q
      | none=>aJD g h nx (fun K=>ptO P ro C e h nx (n0+i) o.op K) fun v h' nx'=>aOz n e o.dst v fun e=>ptD P ro C n ops b n0 l (i+1) ls ms e h' nx' Q
def gI (x:Ex) (A:Prop) (B:Nat→Prop) (D:Prop):Prop:=match x with
  | .normal=>A
  | .exit i=>B i
  | .ret=>D
def dH (b:Bool) (A B:Prop):Prop:=match b with
  | true=>A
  | false=>B
abbrev exQ (x:Ex) (A:Prop) (B:Nat→Prop) (D:Prop):Prop:=match x with
  | .normal=>A
  | .exit i=>B i
  | .ret=>D
abbrev aTy (b:Bool) (A B:Prop):Prop:=match b with
  | true=>A
  | false=>B
abbrev KE:=Ex→dL→T Obj→Nat→Prop
abbrev PT:=dL→T Obj→Nat→KE→Prop
def aIc (B:PT):Nat→PT
  | 0=>fun _ _ _ _=>False
  | k+1=>fun e h nx Q=>B e h nx fun x e h nx=>gI x (∃ h',aZ h' h∧aIc B k e h' nx Q) (fun i=>Q (.exit i) e h nx) (Q .ret e h nx)
def dZ (B:PT):PT:=fun e h nx Q=>∃ k,aIc B k e h nx Q
def aW (v:Value) (A B:Prop):Prop:=match v with
  | .bool true=>A
  | .bool false=>B
  | _=>False
abbrev pt (P:Program) (ro:Ro) (C:aFC) (n:Nat):Code→PT
  | .skip | .label _=>fun e h nx Q=>Q .normal e h nx
  | .ret=>fun e h nx Q=>Q .ret e h nx
  | .exit id=>fun e h nx Q=>Q (.exit id) e h nx
  | .seq a b=>fun e h nx Q=>pt P ro C n a e h nx fun x e h nx=>exQ x (pt P ro C n b e h nx Q) (fun i=>Q (.exit i) e h nx) (Q .ret e h nx)
  | .cond c a b=>fun e h nx Q=>fO (evE e c) fun v=>aW v (pt P ro C n a e h nx Q) (pt P ro C n b e h nx Q)
  | .block id b=>fun e h nx Q=>pt P ro C n b e h nx fun x e h nx=>exQ x (Q .normal e h nx) (fun i=>aTy (Nat.beq i id) (Q .normal e h nx) (Q (.exit i) e h nx)) (Q .ret e h nx)
  | .loop b=>dZ (pt P ro C n b)
  | .scope b=>pt P ro C n b
  | .region _ ops draw=>fun e h nx Q=>match draw with
    | false=>aQf P ro C n ops ops.toList e h nx (Q .normal)
    | true=>aOU (fun b=>match aAN P ops b with
      | true=>ptD P ro C n ops b nx ops.toList 0 [] [] e h (nx+ops.size) (Q .normal)
      | false=>False) ops.toList 0 []
  | _=>fun _ _ _ _=>False
abbrev aKD (P:Program) (ro:Ro) (e:dL) (h:T Obj):List ResultVar→(List Value→Prop)→Prop
  | [],K=>K []
  | .tmp i::r,K=>aKD P ro e h r fun vs=>K (e i::vs)
  | .cell a ty::r,K=>match isAgg P ty with
    | some true=>fO (p6 P ty) fun n=>aB (loadA ro h n (e a)) fun v=>aKD P ro e h r fun vs=>K (v::vs)
    | some false=>aB (load1 ro h (e a)) fun v=>aKD P ro e h r fun vs=>K (v::vs)
    | none=>False
def fT (vs:List Value):dL:=fun i=>(vs[i]?).getD undef
abbrev aTi (P:Program) (ro:Ro) (rs:List ResultVar) (K:KV):KE:=fun x e h nx=>exQ x (aKD P ro e h rs fun vs=>∃ h',aZ h' h∧K (aEQ vs) h' nx) (fun _=>False) (aKD P ro e h rs fun vs=>∃ h',aZ h' h∧K (aEQ vs) h' nx)
def dM (h:T Obj) (aid:Nat) (o:Obj) (K:T Obj→Prop):Prop:=K (h.upd aid (some o))
def eR (h:T Obj) (aid:Nat) (o:Option Obj) (K:T Obj→Prop):Prop:=K (aDG h aid o)
def puts:dL→List (Nat × Value)→dL
  | e,[]=>e
  | e,p::l=>puts (e.put p.1 p.2) l
def aP5 (f:Func):Code:=f.body.getD .skip
def tP (P:Program) (ro:Ro) (C:aFC) (f:Func) (vs:List Value) (h:T Obj) (nx:Nat) (K:KV):Prop:=pt P ro C f.ntmps (aP5 f) (fT vs) h nx (aTi P ro f.results.toList K)
def aO (P:Program) (ro:Ro):aFC:=fun f vs h nx K=>∃ k v h' nx',call P ro k f vs h nx v h' nx'∧K v h' nx'
end V
end Go.Proofs.YtcaccnneblghgaaGreat
noncomputable section
namespace Go.Proofs.YtcaccnneblghgaaGreat
namespace V
theorem aX {α:Type}{o:Option α}{K:α→Prop} (h:aB o K):∃ a,o=some a∧K a:=by
  cases o with
  | none=>exact h.elim
  | some a=>exact⟨a,rfl,h⟩
def iS (t:T Value):dL:=fun i=>(t.get i).getD undef
section
variable {P:Program}{ro:Ro}{t:T Value}{hp:T Obj}
theorem eO (x:Operand):evl t x=evE (iS t) x:=by cases x<;>rfl
theorem uA:∀ xs:List Operand,aAs t xs=aHp (iS t) xs:=by
  intro xs
  induction xs with
  | nil=>rfl
  | cons x xs ih=>simp only[aAs,aHp]; rw[eO,ih]
theorem aG3 (x:Option Operand):aKl t x=aPp (iS t) x:=by
  cases x with
  | none=>rfl
  | some x=>simp only[aKl,aPp]; rw[eO]
theorem aKm:∀ xs:List (Nat × Operand),aJU t xs=aPq (iS t) xs:=by
  intro xs
  induction xs with
  | nil=>rfl
  | cons x xs ih=>simp only[aJU,aPq]; rw[eO,ih]
theorem aOb (d:Nat) (v:Value):iS (t.upd d (some v))=(iS t).put d v:=by
  funext i
  unfold iS dL.put
  rw[T.get_upd]
  by_cases e:i=d
  · subst e; simp
  · rw[if_neg e]
    cases hb:Nat.beq i d with
    | true=>exact absurd (Nat.eq_of_beq_eq_true hb) e
    | false=>rfl
theorem wE {v:Value}{a:Addr} (h:asP v=some a):v=.pointer (some a):=by
  unfold asP at h
  split at h
  · cases h; rfl
  · cases h
theorem aAJ {v:Value}{a:Array Value} (h:asAgg v=some a):v=.agg a:=by
  unfold asAgg at h
  split at h
  · cases h; rfl
  · cases h
theorem aOx {aid:Nat}{op:Op}{K:Value→Option Obj→Prop} (h:ptQ P ro (iS t) hp aid op K):∃ v ob,lM P ro t hp aid op=some (v,ob)∧K v ob:=by
  cases op with
  | move x | assign x =>
    obtain⟨v,h1,h2⟩:=aX h
    exact⟨v,none,by simp only[lM]; rw[eO,h1]; rfl,h2⟩
  | pick c a b =>
    obtain⟨c',h1,h⟩:=aX h
    obtain⟨a',h2,h⟩:=aX h
    obtain⟨b',h3,h⟩:=aX h
    obtain⟨v,h4,h⟩:=aX h
    refine⟨v,none,?_,h⟩
    simp only[lM]; rw[eO,eO,eO,h1,h2,h3]
    unfold cS at h4
    split at h4<;>cases h4<;>rfl
  | alloc ty =>
    obtain⟨z,h1,h⟩:=aX h
    exact⟨_,_,by simp only[lM]; rw[h1]; rfl,h⟩
  | box ty x =>
    obtain⟨v,h1,h⟩:=aX h
    exact⟨_,_,by simp only[lM]; rw[eO,h1]; rfl,h⟩
  | build ty ps =>
    obtain⟨vs,h1,h⟩:=aX h
    obtain⟨v,h2,h⟩:=aX h
    exact⟨_,_,by simp only[lM]; rw[aKm,h1]; show (fG P ty vs).bind _=_; rw[h2]; rfl,h⟩
  | buildSlice ty n ps =>
    obtain⟨vs,h1,h⟩:=aX h
    obtain⟨r,h2,h⟩:=aX h
    exact⟨r.1,r.2,by simp only[lM]; rw[aKm,h1]; exact h2,h⟩
  | load ty x =>
    obtain⟨v,h1,h⟩:=aX h
    split at h
    · rename_i hagg
      obtain⟨n,h2,h⟩:=aX h
      obtain⟨u,h3,h⟩:=aX h
      obtain⟨a,h4,h5⟩:=aP h3
      refine⟨u,none,?_,h⟩
      simp only[lM]; rw[eO,h1,wE h4]
      show (qY P ro hp ty a).bind _=_
      unfold qY
      rw[hagg]
      show ((p6 P ty).bind _).bind _=_
      rw[h2]
      show ((cellsAt ro hp a n).bind _).bind _=_
      rw[h5]; rfl
    · rename_i hagg
      obtain⟨u,h3,h⟩:=aX h
      obtain⟨a,h4,h5⟩:=aP h3
      refine⟨u,none,?_,h⟩
      simp only[lM]; rw[eO,h1,wE h4]
      show (qY P ro hp ty a).bind _=_
      have:qY P ro hp ty a=some u:=by unfold qY; rw[hagg]; exact h5
      rw[this]; rfl
    · exact h.elim
  | nilCheck x =>
    obtain⟨v,h1,h⟩:=aX h
    obtain⟨u,h2,h⟩:=aX h
    refine⟨u,none,?_,h⟩
    simp only[lM]; rw[eO,h1]
    unfold bF at h2
    split at h2<;>cases h2<;>rfl
  | binOp op ty x y yt =>
    obtain⟨a,h1,h⟩:=aX h
    obtain⟨b,h2,h⟩:=aX h
    have key:∃ v,aGM P op ty a b=some v∧K v none:=by
      split at h
      · obtain⟨v,h3,h⟩:=aX h
        refine⟨v,?_,h⟩
        unfold aQ at h3
        split at h3
        · exact h3
        · cases h3
      · obtain⟨v,h3,h⟩:=aX h
        refine⟨v,?_,h⟩
        unfold aFk at h3
        split at h3
        · exact h3
        · cases h3
      · rename_i hu
        obtain⟨v,h3,h⟩:=aX h
        refine⟨v,?_,h⟩
        unfold aGO at h3
        split at h3<;>cases h3<;>simp[aGM,aCd,aFc,hu,aEB]
      · rename_i hu
        obtain⟨v,h3,h⟩:=aX h
        refine⟨v,?_,h⟩
        unfold xU at h3
        split at h3<;>cases h3<;>simp only[aGM,aCd,aFc,hu,aEB,Option.bind]<;>(try rfl)<;>(cases ‹Option Addr›<;>rfl)
      · rename_i hu
        obtain⟨v,h3,h⟩:=aX h
        refine⟨v,?_,h⟩
        unfold slB at h3
        split at h3<;>cases h3<;>simp only[aGM,aCd,aFc,hu,aEB,Option.bind]<;>(try rfl)<;>(cases ‹Option Addr›<;>rfl)
      · rename_i hu
        obtain⟨ks,h3,h⟩:=aX h
        obtain⟨v,h4,h⟩:=aX h
        refine⟨v,?_,h⟩
        have hagg:isAgg P ty=some true:=by unfold isAgg; rw[hu]
        unfold aHg at h4
        split at h4
        · split at h4
          · simp only[aGM,aCd,aFc,hagg,h3]; exact h4
          · simp only[aGM,aCd,aFc,hagg,h3]; exact h4
          · cases h4
        · cases h4
      · rename_i hu
        obtain⟨ks,h3,h⟩:=aX h
        obtain⟨v,h4,h⟩:=aX h
        refine⟨v,?_,h⟩
        have hagg:isAgg P ty=some true:=by unfold isAgg; rw[hu]
        unfold aHg at h4
        split at h4
        · split at h4
          · simp only[aGM,aCd,aFc,hagg,h3]; exact h4
          · simp only[aGM,aCd,aFc,hagg,h3]; exact h4
          · cases h4
        · cases h4
      · exact h.elim
    obtain⟨v,h3,h⟩:=key
    exact⟨v,none,by simp only[lM]; rw[eO,eO,h1,h2]; show (aGM P op ty a b).bind _=_; rw[h3]; rfl,h⟩
  | unOp op ty x =>
    obtain⟨a,h1,h⟩:=aX h
    obtain⟨v,h2,h⟩:=aX h
    exact⟨v,none,by simp only[lM]; rw[eO,h1]; show (unV op a).bind _=_; rw[h2]; rfl,h⟩
  | convert s d x =>
    obtain⟨a,h1,h⟩:=aX h
    have key:∃ r,aFE P ro hp aid s d a=some r∧K r.1 r.2:=by
      split at h
      · rename_i k1 k2 e1 e2
        obtain⟨v,h2,h⟩:=aX h
        refine⟨(v,none),?_,h⟩
        unfold zP at h2
        split at h2
        · cases h2; simp only[aFE,e1,e2]
        · cases h2
      · exact aX h
    obtain⟨r,h2,h⟩:=key
    exact⟨r.1,r.2,by simp only[lM]; rw[eO,h1]; exact h2,h⟩
  | makeFunc fn a b =>
    cases fn with
    | func f =>
      obtain⟨a',h1,h⟩:=aX h
      obtain⟨b',h2,h⟩:=aX h
      exact⟨_,_,by simp only[lM]; rw[uA,uA,h1,h2]; rfl,h⟩
    | _=>exact h.elim
  | makeMap mt r =>
    cases r with
    | none=>exact⟨_,_,rfl,h⟩
    | some r=>exact h.elim
  | makeSlice ty l c =>
    obtain⟨l',h1,h⟩:=aX h
    obtain⟨c',h2,h⟩:=aX h
    obtain⟨r,h3,h⟩:=aX h
    exact⟨r.1,r.2,by simp only[lM]; rw[eO,eO,h1,h2]; exact h3,h⟩
  | slice ty x lo hi mx =>
    obtain⟨x',h1,h⟩:=aX h
    obtain⟨lo',h2,h⟩:=aX h
    obtain⟨hi',h3,h⟩:=aX h
    obtain⟨mx',h4,h⟩:=aX h
    obtain⟨v,h5,h⟩:=aX h
    exact⟨v,none,by simp only[lM]; rw[eO,aG3,aG3,aG3,h1,h2,h3,h4]; show (nX P ty x' lo' hi' mx').bind _=_; rw[h5]; rfl,h⟩
  | fieldAddr s x f =>
    obtain⟨v,h1,h⟩:=aX h
    obtain⟨fd,h2,h⟩:=aX h
    obtain⟨n,h3,h⟩:=aX h
    split at h
    · exact h.elim
    · obtain⟨u,h4,h⟩:=aX h
      obtain⟨a,h5,h6⟩:=aP h4
      cases h6
      refine⟨_,none,?_,h⟩
      simp only[lM]; rw[eO,h1,wE h5]
      show (aKv P s f).bind _=_
      rw[h2]
      show (p6 P fd.type).bind _=_
      rw[h3]; rfl
  | field ty x f =>
    obtain⟨v,h1,h⟩:=aX h
    obtain⟨fd,h2,h⟩:=aX h
    have key:∃ cs u,v=.agg cs∧aCi P fd.type cs fd.offset=some u∧K u none:=by
      split at h
      · rename_i hagg
        obtain⟨n,h3,h⟩:=aX h
        obtain⟨u,h4,h⟩:=aX h
        obtain⟨cs,h5,h6⟩:=aP h4
        refine⟨cs,u,aAJ h5,?_,h⟩
        unfold aCi; rw[hagg]; show (p6 P fd.type).bind _=_; rw[h3]; exact h6
      · rename_i hagg
        obtain⟨u,h4,h⟩:=aX h
        obtain⟨cs,h5,h6⟩:=aP h4
        refine⟨cs,u,aAJ h5,?_,h⟩
        unfold aCi; rw[hagg]; exact h6
      · exact h.elim
    obtain⟨cs,u,rfl,h3,h⟩:=key
    refine⟨u,none,?_,h⟩
    simp only[lM]; rw[eO,h1]
    show (aKv P ty f).bind _=_
    rw[h2]
    show (aCi P fd.type cs fd.offset).bind _=_
    rw[h3]; rfl
  | indexAddr ty x i =>
    obtain⟨x',h1,h⟩:=aX h
    obtain⟨i',h2,h⟩:=aX h
    have key:∃ v,qM P ty x' i'=some v∧K v none:=by
      split at h
      · rename_i hu
        obtain⟨z,h3,h⟩:=aX h
        obtain⟨v,h4,h⟩:=aX h
        refine⟨v,?_,h⟩
        obtain⟨j,h5,h6⟩:=aP h4
        obtain⟨a,h7,h8⟩:=aP h6
        cases wE h7
        unfold qM
        rw[h5]
        show (match iM P ty,Value.pointer (some a) with | _,_=>_)=_
        simp only[hu]; rw[h3]; exact h8
      · rename_i hu
        obtain⟨z,h3,h⟩:=aX h
        obtain⟨v,h4,h⟩:=aX h
        refine⟨v,?_,h⟩
        obtain⟨j,h5,h6⟩:=aP h4
        unfold qM
        rw[h5]
        simp only[Option.bind,hu]
        split at h6
        · simp only[h3]; exact h6
        · cases h6
      · exact h.elim
    obtain⟨v,h3,h⟩:=key
    exact⟨v,none,by simp only[lM]; rw[eO,eO,h1,h2]; show (qM P ty x' i').bind _=_; rw[h3]; rfl,h⟩
  | index ty x i =>
    obtain⟨x',h1,h⟩:=aX h
    obtain⟨i',h2,h⟩:=aX h
    have key:∃ v,aB5 P ty x' i'=some v∧K v none:=by
      split at h
      · rename_i el hu
        obtain⟨z,h3,h⟩:=aX h
        split at h
        · rename_i hagg
          obtain⟨v,h4,h⟩:=aX h
          refine⟨v,?_,h⟩
          obtain⟨j,h5,h6⟩:=aP h4
          obtain⟨a,h7,h8⟩:=aP h6
          cases aAJ h7
          unfold aB5
          rw[h5]
          simp only[Option.bind,hu,h3]
          split at h8
          · rename_i g1 g2
            rw[g1]; simp only[aCi,hagg]; rw[h3]; simp only[Option.bind]; rw[g2]; exact h8
          · cases h8
        · rename_i hagg
          obtain⟨v,h4,h⟩:=aX h
          refine⟨v,?_,h⟩
          obtain⟨j,h5,h6⟩:=aP h4
          obtain⟨a,h7,h8⟩:=aP h6
          cases aAJ h7
          unfold aB5
          rw[h5]
          simp only[Option.bind,hu,h3]
          split at h8
          · rename_i g1
            rw[g1]; simp only[aCi,hagg]; exact h8
          · cases h8
        · exact h.elim
      · rename_i hu
        obtain⟨v,h4,h⟩:=aX h
        refine⟨v,?_,h⟩
        obtain⟨j,h5,h6⟩:=aP h4
        unfold aB5
        rw[h5]
        simp only[Option.bind,hu]
        split at h6
        · exact h6
        · cases h6
      · exact h.elim
    obtain⟨v,h3,h⟩:=key
    exact⟨v,none,by simp only[lM]; rw[eO,eO,h1,h2]; show (aB5 P ty x' i').bind _=_; rw[h3]; rfl,h⟩
  | lookup ty x k ok =>
    obtain⟨x',h1,h⟩:=aX h
    obtain⟨k',h2,h⟩:=aX h
    obtain⟨v,h3,h⟩:=aX h
    exact⟨v,none,by simp only[lM]; rw[eO,eO,h1,h2]; show (aCh P hp ty x' k' ok).bind _=_; rw[h3]; rfl,h⟩
  | extract x i =>
    obtain⟨v,h1,h⟩:=aX h
    obtain⟨u,h2,h⟩:=aX h
    refine⟨u,none,?_,h⟩
    simp only[lM]; rw[eO,h1]
    unfold nth at h2
    split at h2
    · simp only[Option.bind]; rw[h2]
    · cases h2
  | call c =>
    obtain⟨callee,args,ts⟩:=c
    cases callee with
    | builtin b =>
      obtain⟨vs,h1,h⟩:=aX h
      have key:∃ v,fZ P hp b ts vs=some v∧K v none:=by
        split at h
        · rename_i x ty hty hzz
          have hb:∀ v,aLH P hp ty x=some v→fZ P hp .len ts [x]=some v:=by
            intro v hv
            unfold fZ
            simp only
            rw[hty]; exact hv
          split at h
          · rename_i hu
            obtain⟨v,h2,h⟩:=aX h
            refine⟨v,hb v ?_,h⟩
            unfold aAX at h2
            split at h2
            · cases h2; simp only[aLH,hu]
            · cases h2
          · rename_i hu
            obtain⟨v,h2,h⟩:=aX h
            refine⟨v,hb v ?_,h⟩
            unfold bS at h2
            split at h2
            · cases h2; simp only[aLH,hu]
            · cases h2
          · obtain⟨v,h2,h⟩:=aX h
            exact⟨v,hb v h2,h⟩
        · exact aX h
      obtain⟨v,h2,h⟩:=key
      exact⟨v,none,by simp only[lM]; rw[uA,h1]; show (fZ P hp b ts vs).bind _=_; rw[h2]; rfl,h⟩
    | _=>exact h.elim
  | _=>exact h.elim
end
end V
end Go.Proofs.YtcaccnneblghgaaGreat
noncomputable section
namespace Go.Proofs.YtcaccnneblghgaaGreat
namespace V
def LeC (C C':mO):Prop:=∀ f args h nx v h' nx',C f args h nx v h' nx'→C' f args h nx v h' nx'
section
variable {P:Program}{ro:Ro}
theorem aTL {C C':mO} (hC:LeC C C') {t:T Value}{h h':T Obj}{nx nx':Nat}{op:Op}{v:Value} (hl:opL P ro C t h nx op v h' nx'):opL P ro C' t h nx op v h' nx':=by
  cases op with
  | call c =>
    obtain⟨callee,args,ts⟩:=c
    cases callee with
    | value f =>
      obtain⟨k,a,b,vs,h1,h2,h3⟩:=hl
      exact⟨k,a,b,vs,h1,h2,hC _ _ _ _ _ _ _ h3⟩
    | builtin b=>exact hl
    | invoke r m=>exact hl
  | _=>exact hl
theorem wX {C C':mO} (hC:LeC C C') {t:T Value}{h h':T Obj}{nx aid nx':Nat}{op:Op}{v:Value} (hl:opR P ro C t h nx aid op v h' nx'):opR P ro C' t h nx aid op v h' nx':=by
  unfold opR at hl ⊢
  cases hq:jE op with
  | true=>rw[hq] at hl; exact aTL hC hl
  | false=>rw[hq] at hl; exact hl
theorem aJj {C C':mO} (hC:LeC C C') {n:Nat}{ops:Array Oper}:∀ (l:List Oper) (s s':St),aC3 P ro C n ops l s s'→aC3 P ro C' n ops l s s':=by
  intro l
  induction l with
  | nil=>intro s s' h; exact h
  | cons o l ih =>
    intro s s' h
    simp only[aC3] at h ⊢
    cases hw:wanted ops s.t o with
    | true=>rw[hw] at h; obtain⟨v,h',nx',t',h1,h2,h3⟩:=h; exact⟨v,h',nx',t',wX hC h1,h2,ih _ _ h3⟩
    | false=>rw[hw] at h; obtain⟨t',h1,h2⟩:=h; exact⟨t',h1,ih _ _ h2⟩
theorem yF {C C':mO} (hC:LeC C C') {n n0:Nat}{ops:Array Oper}:∀ (l:List Oper) (i:Nat) (ls:List (Nat × Nat)) (ms:List (Nat × T Obj × T Obj)) (s s':St),zY P ro C n ops n0 l i ls ms s s'→zY P ro C' n ops n0 l i ls ms s s':=by
  intro l
  induction l with
  | nil=>intro i ls ms s s' h; exact h
  | cons o l ih =>
    intro i ls ms s s' h
    simp only[zY] at h ⊢
    cases hw:wanted ops s.t o with
    | true =>
      rw[hw] at h; obtain⟨v,h',nx',t',h1,h2,h3⟩:=h
      refine⟨v,h',nx',t',wX hC h1,h2,?_⟩
      cases hq:jE o.op with
      | true=>rw[hq] at h3; exact⟨h3.1,ih _ _ _ _ _ h3.2⟩
      | false =>
        rw[hq] at h3
        simp only at h3 ⊢
        cases hla:rdB P s.t o.op with
        | none=>rw[hla] at h3; exact ih _ _ _ _ _ h3
        | some a=>rw[hla] at h3; exact⟨h3.1,ih _ _ _ _ _ h3.2⟩
    | false=>rw[hw] at h; obtain⟨t',h1,h2⟩:=h; exact⟨t',h1,ih _ _ _ _ _ h2⟩
def LeX (X X':aBI):Prop:=∀ n c s e s',X n c s e s'→X' n c s e s'
theorem aGQ {X X':aBI} (hX:LeX X X'):LeC (aGP P ro X) (aGP P ro X'):=by
  rintro f args h nx v h' nx' (⟨fn,body,e,s,vs,h1,h2,h3,h4,h5⟩ | ho)
  · exact .inl ⟨fn,body,e,s,vs,h1,h2,h3,hX _ _ _ _ _ h4,h5⟩
  · exact .inr ho
theorem aPb {X X':aBI} (hX:LeX X X'):LeX (aK9 P ro X) (aK9 P ro X'):=by
  intro n c s e s' h
  cases c with
  | seq a b =>
    rcases h with ⟨s1,h1,h2⟩ | ⟨h1,h2⟩
    · exact .inl ⟨s1,hX _ _ _ _ _ h1,hX _ _ _ _ _ h2⟩
    · exact .inr ⟨h1,hX _ _ _ _ _ h2⟩
  | cond c a b=>obtain⟨v,h1,h2⟩:=h; exact⟨v,h1,hX _ _ _ _ _ h2⟩
  | block id b=>obtain⟨e1,h1,h2⟩:=h; exact⟨e1,hX _ _ _ _ _ h1,h2⟩
  | loop b =>
    rcases h with ⟨s1,hh,h1,h3,h2⟩ | ⟨h1,h2⟩
    · exact .inl ⟨s1,hh,hX _ _ _ _ _ h1,h3,hX _ _ _ _ _ h2⟩
    · exact .inr ⟨h1,hX _ _ _ _ _ h2⟩
  | scope b=>exact hX _ _ _ _ _ h
  | region id ops draw =>
    obtain⟨h1,h2⟩:=h
    refine⟨h1,?_⟩
    cases draw with
    | false=>exact aJj (aGQ hX) _ _ _ h2
    | true=>exact⟨h2.1,yF (aGQ hX) _ _ _ _ _ _ h2.2⟩
  | _=>exact h
theorem aO4:∀ k,LeX (code P ro k) (code P ro (k+1)):=by
  intro k
  induction k with
  | zero=>intro n c s e s' h; exact h.elim
  | succ k ih=>exact aPb ih
theorem vE {k k':Nat} (h:k≤k'):LeX (code P ro k) (code P ro k'):=by
  induction h with
  | refl=>intro n c s e s' h; exact h
  | step _ ih=>intro n c s e s' h; exact aO4 _ _ _ _ _ _ (ih _ _ _ _ _ h)
theorem kF {k k':Nat} (h:k≤k'):LeC (call P ro k) (call P ro k'):=aGQ (vE h)
variable {t:T Value}{h:T Obj}{nx:Nat}
theorem aOw {op:Op}{K:KV} (hl:ptL P ro (aO P ro) (iS t) h nx op K):∃ k v h' nx',opL P ro (call P ro k) t h nx op v h' nx'∧K v h' nx':=by
  cases op with
  | store ty a x =>
    obtain⟨a',h1,hl⟩:=aX hl
    obtain⟨x',h2,hl⟩:=aX hl
    obtain⟨n,h3,hl⟩:=aX hl
    obtain⟨h',h4,hl⟩:=aX hl
    obtain⟨ad,h5,h6⟩:=aP h4
    refine⟨0,_,_,_,⟨a',x',by rw[eO]; exact h1,by rw[eO]; exact h2,?_,rfl,rfl⟩,hl⟩
    rw[wE h5]
    simp only[aCG]
    rw[h3]; exact h6
  | mapUpdate ty m k x | insert ty m k x =>
    obtain⟨m',h1,hl⟩:=aX hl
    obtain⟨k',h2,hl⟩:=aX hl
    obtain⟨x',h3,hl⟩:=aX hl
    obtain⟨h',h4,hl⟩:=aX hl
    exact⟨0,_,_,_,⟨m',k',x',by rw[eO]; exact h1,by rw[eO]; exact h2,by rw[eO]; exact h3,h4,rfl,rfl⟩,hl⟩
  | call c =>
    obtain⟨callee,args,ts⟩:=c
    cases callee with
    | builtin b =>
      obtain⟨vs,h1,hl⟩:=aX hl
      cases b<;>try (exact hl.elim)
      case append =>
        obtain⟨r,h2,hl⟩:=aX hl
        exact⟨0,r.1,r.2.1,r.2.2,⟨vs,by rw[uA]; exact h1,h2⟩,hl⟩
      case clear =>
        simp only at hl
        split at hl
        · rename_i m ty hty
          obtain⟨u,h2,hl⟩:=aX hl
          obtain⟨h',h3,hl⟩:=aX hl
          exact⟨0,_,_,_,⟨_,by rw[uA]; exact h1,_,_,rfl,hty,by rw[h2]; rfl,h3,rfl,rfl⟩,hl⟩
        · exact hl.elim
      case copy =>
        obtain⟨r,h2,hl⟩:=aX hl
        exact⟨0,r.1,r.2.1,r.2.2,⟨vs,by rw[uA]; exact h1,h2⟩,hl⟩
    | value f =>
      obtain⟨fv,h1,hl⟩:=aX hl
      obtain⟨vs,h2,hl⟩:=aX hl
      unfold aBK at hl
      split at hl
      · rename_i k a b _
        obtain⟨fu,v,h',nx',h3,h4⟩:=hl
        exact⟨fu,v,h',nx',⟨k,a,b,vs,by rw[eO]; exact h1,by rw[uA]; exact h2,h3⟩,h4⟩
      · exact hl.elim
    | invoke r m=>exact hl.elim
  | convert sx dx x =>
    obtain⟨x',h1,hl⟩:=aX hl
    obtain⟨r,h2,hl⟩:=aX hl
    exact⟨0,r.1,r.2,nx,⟨x',by rw[eO]; exact h1,h2,rfl⟩,hl⟩
  | _=>exact hl.elim
theorem aCW {aid:Nat}{op:Op}{K:KV} (hl:ptO P ro (aO P ro) (iS t) h nx aid op K):∃ k v h' nx',opR P ro (call P ro k) t h nx aid op v h' nx'∧K v h' nx':=by
  unfold ptO at hl
  unfold opR
  cases hq:jE op with
  | true=>rw[hq] at hl; exact aOw hl
  | false =>
    rw[hq] at hl
    obtain⟨v,ob,h1,h2⟩:=aOx hl
    exact⟨0,v,_,nx,⟨ob,h1,rfl,rfl⟩,h2⟩
def aKx (g:Gd):Prop:=match g with
  | none=>True
  | some vw=>vw.1=.bool vw.2
theorem aLY {g:Gd}{X:Prop} (h:onP g X) (hg:aKx g):X:=by
  cases g with
  | none=>exact h
  | some vw=>exact h hg
theorem aI7 {ops:Array Oper}{o:Oper}{F:Gd→Prop} (hg:gdP ops (iS t) o.guard F) :
    ∃ g,F g∧(∀ h nx A K,aJD g h nx A K→(wanted ops t o=true∧A K)∨(wanted ops t o=false∧K undef h nx))∧(wanted ops t o=true→aKx g):=by
  unfold gdP at hg
  unfold wanted
  cases hgd:o.guard with
  | none=>rw[hgd] at hg; exact⟨none,hg,fun h nx A K hA=>.inl ⟨rfl,hA⟩,fun _=>trivial⟩
  | some jw =>
    obtain⟨j,w⟩:=jw
    rw[hgd] at hg
    simp only at hg ⊢
    cases hd:(ops[j]?).bind (·.dst) with
    | none=>rw[hd] at hg; exact hg.elim
    | some d =>
      rw[hd] at hg
      simp only at hg ⊢
      refine⟨_,hg,?_,?_⟩
      · intro h nx A K hA
        unfold aJD bA at hA
        simp only at hA
        split at hA
        · rename_i b hb
          have hb':t.get d=some (.bool b):=by
            unfold iS at hb
            cases ht:t.get d with
            | none=>rw[ht] at hb; cases hb
            | some v=>rw[ht] at hb; exact congrArg some hb
          rw[hb']
          simp only
          cases hbw:b==w with
          | true=>rw[hbw] at hA; exact .inl ⟨rfl,hA⟩
          | false=>rw[hbw] at hA; exact .inr ⟨rfl,hA⟩
        · rename_i hnb
          right
          refine⟨?_,hA⟩
          cases ht:t.get d with
          | none=>rfl
          | some v =>
            cases v with
            | bool b=>exact absurd (show iS t d=.bool b by unfold iS; rw[ht]; rfl) (hnb b)
            | _=>rfl
      · intro hw
        unfold aKx
        simp only
        split at hw
        · rename_i b hb
          have:b=w:=by simpa using hw
          subst this
          unfold iS; rw[hb]; rfl
        · cases hw
theorem o7 {n:Nat}{d:Option Tmp}{v:Value}{K:dL→Prop} (hp:aOz n (iS t) d v K):∃ t',put n t d v=some t'∧K (iS t'):=by
  cases d with
  | none=>exact⟨t,rfl,hp⟩
  | some d =>
    unfold aOz at hp
    simp only at hp
    cases hb:Nat.blt d n with
    | true=>rw[hb] at hp; exact⟨t.upd d (some v),by simp only[put]; rw[hb],by rw[aOb]; exact hp⟩
    | false=>rw[hb] at hp; exact hp.elim
theorem aL9 {n:Nat}{ops:Array Oper}:∀ (l:List Oper) (t:T Value) (h:T Obj) (nx:Nat) (Q:dL→T Obj→Nat→Prop),aQf P ro (aO P ro) n ops l (iS t) h nx Q →
    ∃ k s',aC3 P ro (call P ro k) n ops l ⟨t,h,nx⟩ s'∧Q (iS s'.t) s'.h s'.nx:=by
  intro l
  induction l with
  | nil=>intro t h nx Q hl; exact⟨0,_,rfl,hl⟩
  | cons o l ih =>
    intro t h nx Q hl
    obtain⟨g,h1,h2,_⟩:=aI7 hl
    simp only[aC3]
    rcases h2 _ _ _ _ h1 with ⟨hw,hA⟩ | ⟨hw,hK⟩
    · obtain⟨k1,v,h',nx',h3,h4⟩:=aCW hA
      obtain⟨t',h5,h6⟩:=o7 h4
      obtain⟨k2,s',h7,h8⟩:=ih t' h' nx' Q h6
      refine⟨max k1 k2,s',?_,h8⟩
      rw[hw]
      exact⟨v,h',nx',t',wX (kF (Nat.le_max_left _ _)) h3,h5,aJj (kF (Nat.le_max_right _ _)) _ _ _ h7⟩
    · obtain⟨t',h5,h6⟩:=o7 hK
      obtain⟨k2,s',h7,h8⟩:=ih t' h nx Q h6
      refine⟨k2,s',?_,h8⟩
      rw[hw]
      exact⟨t',h5,h7⟩
theorem aIk:∀ (l:List Nat) (i:Nat),aQ2 l i=l.getD i 0
  | [],_=>by simp[aQ2]
  | _::_,0=>rfl
  | _::r,n+1=>by simp[aQ2,aIk r n]
theorem aBY (ops:Array Oper) (i j:Nat):zT (bef ops).toList i j=free (bef ops) i j:=by
  unfold zT free
  rw[aIk]; simp
theorem aG0 (ops:Array Oper):aAN P ops (bef ops).toList=aAM P ops:=by
  unfold aAN aAM
  simp only[aBY]
  rfl
theorem aOD {α:Type} (K:List Nat→α):∀ (l o:List Nat),aSA K l o=K (l.reverse++o)
  | [],o=>rfl
  | x::r,o=>by rw[aSA,aOD K r]; simp
theorem aKZ {α:Type} (K:List Nat→α):∀ (l:List Oper) (j:Nat) (acc:List Nat),aOU K l j acc=K (CheckFast.beforeL l j acc)
  | [],j,acc=>by rw[aOU,aOD,CheckFast.beforeL]; simp
  | o::r,j,acc=>by rw[aOU,CheckFast.force_eq,aKZ K r,CheckFast.beforeL,CheckFast.force_eq]
theorem aRQ {α:Type} (K:List Nat→α) (ops:Array Oper):aOU K ops.toList 0 []=K (bef ops).toList:=by
  rw[aKZ]
  have:=CheckFast.beforeF_eq ops
  unfold bef
  rw[← this]
  rfl
theorem aNT {b:List Nat}{i:Nat}{h h':T Obj}{K:Prop}:∀ {lp:List (Nat × Gd × Value)},aMD b i h h' lp K→K∧∀ q∈lp,zT b q.1 i=true→onP q.2.1 (gZ q.2.2 h h'):=by
  intro lp
  induction lp with
  | nil=>intro h; exact⟨h,fun q hq=>by cases hq⟩
  | cons q lp ih =>
    intro hs
    simp only[aMD] at hs
    cases hf:zT b q.1 i with
    | true =>
      rw[hf] at hs
      obtain⟨h1,h2⟩:=ih hs.2
      refine⟨h1,fun x hx hfx=>?_⟩
      rcases List.mem_cons.1 hx with rfl | hx
      · exact hs.1
      · exact h2 x hx hfx
    | false =>
      rw[hf] at hs
      obtain⟨h1,h2⟩:=ih hs
      refine⟨h1,fun x hx hfx=>?_⟩
      rcases List.mem_cons.1 hx with rfl | hx
      · rw[hf] at hfx; cases hfx
      · exact h2 x hx hfx
theorem aNU {b:List Nat}{i:Nat}{v:Value}{K:Prop}:∀ {mp:List (Nat × Gd × T Obj × T Obj)},aME b i v mp K→K∧∀ q∈mp,zT b q.1 i=true→onP q.2.1 (gZ v q.2.2.1 q.2.2.2):=by
  intro mp
  induction mp with
  | nil=>intro h; exact⟨h,fun q hq=>by cases hq⟩
  | cons q mp ih =>
    intro hs
    simp only[aME] at hs
    cases hf:zT b q.1 i with
    | true =>
      rw[hf] at hs
      obtain⟨h1,h2⟩:=ih hs.2
      refine⟨h1,fun x hx hfx=>?_⟩
      rcases List.mem_cons.1 hx with rfl | hx
      · exact hs.1
      · exact h2 x hx hfx
    | false =>
      rw[hf] at hs
      obtain⟨h1,h2⟩:=ih hs
      refine⟨h1,fun x hx hfx=>?_⟩
      rcases List.mem_cons.1 hx with rfl | hx
      · rw[hf] at hfx; cases hfx
      · exact h2 x hx hfx
theorem aIq {t:T Value} (op:Op):aCk P t op=rdE P (iS t) op:=by
  cases op with
  | load ty x=>exact eO x
  | lookup ty x k ok=>exact eO x
  | convert sx dx x =>
    simp only[aCk,rdE]; rw[eO]
    cases iM P sx with
    | none=>rfl
    | some d=>cases d<;>rfl
  | call c =>
    obtain⟨callee,args,ts⟩:=c
    cases callee with
    | builtin b =>
      simp only[aCk,rdE]; rw[uA]
      cases (ts[0]?).bind (iM P) with
      | none=>rfl
      | some d =>
                  cases d<;>try rfl
                  all_goals (simp only; cases aHp (iS t) args.toList with
                    | none=>rfl
                    | some l=>cases l with
                      | nil=>rfl
                      | cons a r=>cases r<;>rfl)
    | _=>rfl
  | _=>rfl
def RL (ls:List (Nat × Nat)) (lp:List (Nat × Gd × Value)):Prop:=∀ q∈ls,∃ g v,(q.1,g,v)∈lp∧aKx g∧blk v=some q.2
def RM (ms:List (Nat × T Obj × T Obj)) (mp:List (Nat × Gd × T Obj × T Obj)):Prop:=∀ q∈ms,∃ g,(q.1,g,q.2)∈mp∧aKx g
theorem RL.more {ls:List (Nat × Nat)}{lp:List (Nat × Gd × Value)} (h:RL ls lp) (x:Nat × Gd × Value):RL ls (x::lp):=fun q hq=>by
  obtain⟨g,v,h1,h2⟩:=h q hq
  exact⟨g,v,List.mem_cons_of_mem _ h1,h2⟩
theorem RM.more {ms:List (Nat × T Obj × T Obj)}{mp:List (Nat × Gd × T Obj × T Obj)} (h:RM ms mp) (x:Nat × Gd × T Obj × T Obj):RM ms (x::mp):=fun q hq=>by
  obtain⟨g,h1,h2⟩:=h q hq
  exact⟨g,List.mem_cons_of_mem _ h1,h2⟩
theorem aOv {n n0:Nat}{ops:Array Oper}:∀ (l:List Oper) (i:Nat) (ls:List (Nat × Nat)) (ms:List (Nat × T Obj × T Obj)) (lp:List (Nat × Gd × Value)) (mp:List (Nat × Gd × T Obj × T Obj)) (t:T Value) (h:T Obj) (nx:Nat) (Q:dL→T Obj→Nat→Prop),
    RL ls lp→RM ms mp→ptD P ro (aO P ro) n ops (bef ops).toList n0 l i lp mp (iS t) h nx Q→∃ k s',zY P ro (call P ro k) n ops n0 l i ls ms ⟨t,h,nx⟩ s'∧Q (iS s'.t) s'.h s'.nx:=by
  intro l
  induction l with
  | nil=>intro i ls ms lp mp t h nx Q _ _ hl; exact⟨0,_,rfl,hl⟩
  | cons o l ih =>
    intro i ls ms lp mp t h nx Q hrl hrm hl
    obtain⟨g,h1,h2,hgt⟩:=aI7 hl
    simp only[zY]
    cases hq:jE o.op with
    | true =>
      rw[hq] at h1
      simp only at h1
      rcases h2 _ _ _ _ h1 with ⟨hw,hA⟩ | ⟨hw,hK⟩
      · obtain⟨k1,v,h',nx',h3,h4⟩:=aCW hA
        obtain⟨h4,hsame⟩:=aNT h4
        obtain⟨t',h5,h6⟩:=o7 h4
        obtain⟨k2,s',h7,h8⟩:=ih (i+1) ls ((i,h,h')::ms) lp ((i,g,h,h')::mp) t' h' nx' Q hrl (fun q hq=>by
          rcases List.mem_cons.1 hq with rfl | hq
          · exact⟨g,by simp,hgt hw⟩
          · obtain⟨g',e1,e2⟩:=hrm q hq
            exact⟨g',List.mem_cons_of_mem _ e1,e2⟩) h6
        refine⟨max k1 k2,s',?_,h8⟩
        rw[hw]
        refine⟨v,h',nx',t',wX (kF (Nat.le_max_left _ _)) h3,h5,?_,yF (kF (Nat.le_max_right _ _)) _ _ _ _ _ _ h7⟩
        intro q hqm hf
        obtain⟨g',v',e1,e2,e3⟩:=hrl q hqm
        have:=aLY (hsame _ e1 (by rw[aBY]; exact hf)) e2
        unfold gZ at this
        simp only[e3] at this
        exact this
      · obtain⟨t',h5,h6⟩:=o7 hK
        obtain⟨k2,s',h7,h8⟩:=ih (i+1) ls ms lp ((i,g,h,h)::mp) t' h nx Q hrl (hrm.more _) h6
        refine⟨k2,s',?_,h8⟩
        rw[hw]
        exact⟨t',h5,h7⟩
    | false =>
      rw[hq] at h1
      simp only at h1
      cases hloc:rdE P (iS t) o.op with
      | some a =>
        rw[hloc] at h1
        simp only at h1
        rcases h2 _ _ _ _ h1 with ⟨hw,hA⟩ | ⟨hw,hK⟩
        · obtain⟨k1,v,h',nx',h3,h4⟩:=aCW hA
          obtain⟨h4,hsame⟩:=aNU h4
          obtain⟨t',h5,h6⟩:=o7 h4
          cases hla:rdB P t o.op with
          | none =>
            obtain⟨k2,s',h7,h8⟩:=ih (i+1) ls ms ((i,g,a)::lp) mp t' h' nx' Q (hrl.more _) hrm h6
            refine⟨max k1 k2,s',?_,h8⟩
            rw[hw]
            exact⟨v,h',nx',t',wX (kF (Nat.le_max_left _ _)) h3,h5,yF (kF (Nat.le_max_right _ _)) _ _ _ _ _ _ h7⟩
          | some ad =>
            have ha:blk a=some ad:=by
              unfold rdB at hla
              rw[aIq,hloc] at hla
              exact hla
            obtain⟨k2,s',h7,h8⟩:=ih (i+1) ((i,ad)::ls) ms ((i,g,a)::lp) mp t' h' nx' Q (fun q hq=>by
              rcases List.mem_cons.1 hq with rfl | hq
              · exact⟨g,a,by simp,hgt hw,ha⟩
              · obtain⟨g',v',e1,e2⟩:=hrl q hq
                exact⟨g',v',List.mem_cons_of_mem _ e1,e2⟩) hrm h6
            refine⟨max k1 k2,s',?_,h8⟩
            rw[hw]
            refine⟨v,h',nx',t',wX (kF (Nat.le_max_left _ _)) h3,h5,?_,yF (kF (Nat.le_max_right _ _)) _ _ _ _ _ _ h7⟩
            intro q hqm hf
            obtain⟨g',e1,e2⟩:=hrm q hqm
            have:=aLY (hsame _ e1 (by rw[aBY]; exact hf)) e2
            unfold gZ at this
            simp only[ha] at this
            exact this
        · obtain⟨t',h5,h6⟩:=o7 hK
          obtain⟨k2,s',h7,h8⟩:=ih (i+1) ls ms ((i,g,a)::lp) mp t' h nx Q (hrl.more _) hrm h6
          refine⟨k2,s',?_,h8⟩
          rw[hw]
          exact⟨t',h5,h7⟩
      | none =>
        rw[hloc] at h1
        simp only at h1
        have hla:rdB P t o.op=none:=by
          unfold rdB
          rw[aIq,hloc]; rfl
        rcases h2 _ _ _ _ h1 with ⟨hw,hA⟩ | ⟨hw,hK⟩
        · obtain⟨k1,v,h',nx',h3,h4⟩:=aCW hA
          obtain⟨t',h5,h6⟩:=o7 h4
          obtain⟨k2,s',h7,h8⟩:=ih (i+1) ls ms lp mp t' h' nx' Q hrl hrm h6
          refine⟨max k1 k2,s',?_,h8⟩
          rw[hw,hla]
          exact⟨v,h',nx',t',wX (kF (Nat.le_max_left _ _)) h3,h5,yF (kF (Nat.le_max_right _ _)) _ _ _ _ _ _ h7⟩
        · obtain⟨t',h5,h6⟩:=o7 hK
          obtain⟨k2,s',h7,h8⟩:=ih (i+1) ls ms lp mp t' h nx Q hrl hrm h6
          refine⟨k2,s',?_,h8⟩
          rw[hw]
          exact⟨t',h5,h7⟩
def aPV (P:Program) (ro:Ro) (n:Nat) (c:Code) (t:T Value) (h:T Obj) (nx:Nat) (Q:KE):Prop:=∃ k x s',code P ro k n c ⟨t,h,nx⟩ x s'∧Q x (iS s'.t) s'.h s'.nx
theorem aLD {n:Nat}{b:Code} (ihb:∀ (t:T Value) (h:T Obj) (nx:Nat) (Q:KE),pt P ro (aO P ro) n b (iS t) h nx Q→aPV P ro n b t h nx Q) :
    ∀ (j:Nat) (t:T Value) (h:T Obj) (nx:Nat) (Q:KE),aIc (pt P ro (aO P ro) n b) j (iS t) h nx Q→aPV P ro n (.loop b) t h nx Q:=by
  intro j
  induction j with
  | zero=>intro t h nx Q hi; exact hi.elim
  | succ j ih =>
    intro t h nx Q hi
    obtain⟨k1,x,s1,h1,h2⟩:=ihb _ _ _ _ hi
    cases x with
    | normal =>
      obtain⟨hh,h3,h4⟩:=h2
      obtain⟨k2,x,s2,h5,h6⟩:=ih s1.t hh s1.nx Q h4
      exact⟨max k1 k2+1,x,s2,.inl ⟨s1,hh,vE (Nat.le_max_left _ _) _ _ _ _ _ h1,h3,vE (Nat.le_max_right _ _) _ _ _ _ _ h5⟩,h6⟩
    | exit id=>exact⟨k1+1,_,s1,.inr ⟨by simp,h1⟩,h2⟩
    | ret=>exact⟨k1+1,_,s1,.inr ⟨by simp,h1⟩,h2⟩
theorem aQg {n:Nat}:∀ (c:Code) (t:T Value) (h:T Obj) (nx:Nat) (Q:KE),pt P ro (aO P ro) n c (iS t) h nx Q→aPV P ro n c t h nx Q:=by
  intro c
  induction c with
  | skip | label=>intro t h nx Q hp; exact⟨1,.normal,_,⟨rfl,rfl⟩,hp⟩
  | ret=>intro t h nx Q hp; exact⟨1,.ret,_,⟨rfl,rfl⟩,hp⟩
  | exit id=>intro t h nx Q hp; exact⟨1,.exit id,_,⟨rfl,rfl⟩,hp⟩
  | seq a b iha ihb =>
    intro t h nx Q hp
    obtain⟨k1,x,s1,h1,h2⟩:=iha _ _ _ _ hp
    cases x with
    | normal =>
      obtain⟨k2,x,s2,h5,h6⟩:=ihb _ _ _ _ h2
      exact⟨max k1 k2+1,x,s2,.inl ⟨s1,vE (Nat.le_max_left _ _) _ _ _ _ _ h1,vE (Nat.le_max_right _ _) _ _ _ _ _ h5⟩,h6⟩
    | exit id=>exact⟨k1+1,_,s1,.inr ⟨by simp,h1⟩,h2⟩
    | ret=>exact⟨k1+1,_,s1,.inr ⟨by simp,h1⟩,h2⟩
  | cond c a b iha ihb =>
    intro t h nx Q hp
    obtain⟨v,h1,h2⟩:=aX hp
    rw[← eO] at h1
    unfold aW at h2
    split at h2
    · obtain⟨k,x,s1,h3,h4⟩:=iha _ _ _ _ h2
      exact⟨k+1,x,s1,⟨true,h1,h3⟩,h4⟩
    · obtain⟨k,x,s1,h3,h4⟩:=ihb _ _ _ _ h2
      exact⟨k+1,x,s1,⟨false,h1,h3⟩,h4⟩
    · exact h2.elim
  | block id b ihb =>
    intro t h nx Q hp
    obtain⟨k,x,s1,h1,h2⟩:=ihb _ _ _ _ hp
    cases x with
    | normal=>exact⟨k+1,_,s1,⟨_,h1,rfl⟩,h2⟩
    | ret=>exact⟨k+1,_,s1,⟨_,h1,rfl⟩,h2⟩
    | exit i =>
      refine⟨k+1,_,s1,⟨_,h1,rfl⟩,?_⟩
      have h2:dH (Nat.beq i id) (Q .normal (iS s1.t) s1.h s1.nx) (Q (.exit i) (iS s1.t) s1.h s1.nx):=h2
      simp only at ⊢
      cases hb:Nat.beq i id with
      | true=>rw[hb] at h2; exact h2
      | false=>rw[hb] at h2; exact h2
  | loop b ihb =>
    rintro t h nx Q ⟨j,hp⟩
    exact aLD ihb j t h nx Q hp
  | scope b ihb =>
    intro t h nx Q hp
    obtain⟨k,x,s1,h1,h2⟩:=ihb _ _ _ _ hp
    exact⟨k+1,x,s1,h1,h2⟩
  | region id ops draw =>
    intro t h nx Q hp
    cases draw with
    | false =>
      obtain⟨k,s',h1,h2⟩:=aL9 _ _ _ _ _ hp
      exact⟨k+1,.normal,s',⟨rfl,h1⟩,h2⟩
    | true =>
      simp only[pt] at hp
      rw[aRQ,aG0] at hp
      cases hd:aAM P ops with
      | false=>rw[hd] at hp; exact hp.elim
      | true =>
        rw[hd] at hp
        obtain⟨k,s',h1,h2⟩:=aOv (P:=P) (ro:=ro) ops.toList 0 [] [] [] [] t h (nx+ops.size) (Q .normal) (fun q hq=>by cases hq) (fun q hq=>by cases hq) hp
        exact⟨k+1,.normal,s',⟨rfl,hd,h1⟩,h2⟩
  | _=>intro t h nx Q hp; exact hp.elim
theorem aNK {t:T Value}{h:T Obj}:∀ (rs:List ResultVar) (K:List Value→Prop),aKD P ro (iS t) h rs K→∃ vs,aEk P ro h t rs=some vs∧K vs:=by
  intro rs
  induction rs with
  | nil=>intro K hr; exact⟨[],rfl,hr⟩
  | cons r rs ih =>
    intro K hr
    cases r with
    | tmp i =>
      obtain⟨vs,h1,h2⟩:=ih _ hr
      exact⟨_,by simp only[aEk]; rw[h1]; rfl,h2⟩
    | cell a ty =>
      have key:∃ ad v,iS t a=.pointer (some ad)∧qY P ro h ty ad=some v∧aKD P ro (iS t) h rs fun vs=>K (v::vs):=by
        simp only[aKD] at hr
        split at hr
        · rename_i hagg
          obtain⟨n,h1,hr⟩:=aX hr
          obtain⟨v,h2,hr⟩:=aX hr
          obtain⟨ad,h3,h4⟩:=aP h2
          exact⟨ad,v,wE h3,by unfold qY; rw[hagg]; show (p6 P ty).bind _=_; rw[h1]; exact h4,hr⟩
        · rename_i hagg
          obtain⟨v,h2,hr⟩:=aX hr
          obtain⟨ad,h3,h4⟩:=aP h2
          exact⟨ad,v,wE h3,by unfold qY; rw[hagg]; exact h4,hr⟩
        · exact hr.elim
      obtain⟨ad,v,h1,h2,h3⟩:=key
      obtain⟨vs,h4,h5⟩:=ih _ h3
      refine⟨_,?_,h5⟩
      simp only[aEk]
      have:(t.get a).getD undef=.pointer (some ad):=h1
      rw[this]
      simp only
      rw[h2,h4]; rfl
theorem aKj {vs:List Value}:iS (aBR vs 0 .e)=fT vs:=by
  funext i
  unfold iS fT
  rw[aG2]
  by_cases hi:i < vs.length
  · rw[if_pos (by omega),Nat.sub_zero]
  · rw[if_neg (by omega),T.get_e,List.getElem?_eq_none (by omega)]
theorem aP8 {f:FuncId}{fn:Func}{body:Code}{vs:List Value}{K:KV} (h1:P.funcs[f]?=some fn) (h2:fn.body=some body) (h3:Nat.ble vs.length fn.ntmps=true)
    (hp:pt P ro (aO P ro) fn.ntmps body (fT vs) h nx (aTi P ro fn.results.toList K)):aO P ro f vs h nx K:=by
  rw[← aKj] at hp
  obtain⟨k,x,s',h4,h5⟩:=aQg _ _ _ _ _ hp
  have key:(x=.normal∨x=.ret)∧aKD P ro (iS s'.t) s'.h fn.results.toList fun vs=>∃ h',aZ h' s'.h∧K (aEQ vs) h' s'.nx:=by
    cases x with
    | exit id=>exact h5.elim
    | normal=>exact⟨.inl rfl,h5⟩
    | ret=>exact⟨.inr rfl,h5⟩
  obtain⟨hx,hr⟩:=key
  obtain⟨ws,h6,h',h7,h8⟩:=aNK _ _ hr
  exact⟨k,aEQ ws,h',s'.nx,.inl ⟨fn,body,x,s',ws,h1,h2,Nat.le_of_ble_eq_true h3,h4,hx,h6,rfl,h7,rfl⟩,h8⟩
theorem aO0 {f:FuncId}{v:Value}{K:KV} (ho:Orc P f v) (hK:K v h nx):aO P ro f [] h nx K:=⟨0,v,h,nx,.inr (.inl ⟨rfl,ho,fun _ _ e=>e,rfl⟩),hK⟩
theorem bC {f:FuncId}{fn:Func}{vs:List Value}{K:KV} (h1:P.funcs[f]?=some fn) (h2:fn.body.isSome=true) (h3:Nat.ble vs.length fn.ntmps=true)
    (hp:tP P ro (aO P ro) fn vs h nx K):aO P ro f vs h nx K:=by
  cases hb:fn.body with
  | none=>rw[hb] at h2; cases h2
  | some b =>
    refine aP8 h1 hb h3 ?_
    unfold tP aP5 at hp
    rw[hb] at hp
    exact hp
end
end V
end Go.Proofs.YtcaccnneblghgaaGreat
noncomputable section
namespace Go.Proofs.YtcaccnneblghgaaGreat
namespace V
open Go.RowKit
def aJb:Addr:=⟨0,0,none⟩
def aA1 (N:Nat):Value→Option Value
  | .slice (some a) 0 0=>some (.slice (some aJb) 0 0)
  | .slice (some a) l c=>match a.spot,Nat.blt a.block N with
    | none,true=>some (.slice (some a) l c)
    | _,_=>none
  | .pointer (some a)=>match a.spot,Nat.blt a.block N with
    | none,true=>some (.pointer (some a))
    | _,_=>none
  | v=>match flat v with
    | true=>some v
    | false=>none
theorem aJc {N:Nat}{φ:gV}{v v':Value} (h:aA1 N v=some v'):VR N φ v' v:=by
  unfold aA1 at h
  split at h
  · cases h; exact .sliceNo rfl
  · split at h
    · rename_i h1 h2
      cases h; exact .sliceRo h1 (by have:=h2; simp[Nat.blt] at this; omega)
    · cases h
  · split at h
    · rename_i h1 h2
      cases h; exact .ptrRo h1 (by have:=h2; simp[Nat.blt] at this; omega)
    · cases h
  · split at h
    · rename_i hf; cases h; exact .flat hf
    · cases h
def qS (W:World):Ro:=fun a=>match a.spot,Nat.blt a.block W.heap.size with
  | none,true=>(W.cell? a).bind (aA1 W.heap.size)
  | _,_=>none
theorem aHV (W:World):Sim (qS W) W.heap.size (fun _=>none) W (T.e:T Obj).get W where
  n:=rfl
  le:=Nat.le_refl _
  old:=fun _ _=>rfl
  dom:=fun k B o r h=>by cases h
  inj:=fun k k' B o r B' o' r' h=>by rw[T.get_e] at h; exact absurd rfl h
  own:=fun k o h=>by rw[T.get_e] at h; cases h
  ro:=fun a v h=>by
    unfold qS at h
    split at h
    · rename_i h1 h2
      obtain⟨v',h3,h4⟩:=aP h
      exact⟨h1,by have:=h2; simp[Nat.blt] at this; omega,v',h3,aJc h4⟩
    · cases h
def mH (N:Nat):List Value→Option (List Value)
  | []=>some []
  | v::l=>(aA1 N v).bind fun v=>(mH N l).bind fun l=>some (v::l)
inductive Arg (N:Nat):Value→Value→Prop where
  | one {v v':Value} (h:aA1 N v=some v'):Arg N v' v
  | agg {cs:Array Value} {l:List Value} (h:mH N cs.toList=some l):Arg N (.agg l.toArray) (.agg cs)
theorem aEC {N:Nat}{φ:gV}:∀ {l l':List Value},mH N l=some l'→LR N φ l' l
  | [],l',h=>by cases h; exact .nil
  | v::l,l',h=>by
    obtain⟨v',h1,h⟩:=aP h
    obtain⟨r,h2,h⟩:=aP h
    cases h
    exact .cons (aJc h1) (aEC h2)
theorem Arg.vr {N:Nat}{φ:gV}{v v':Value} (h:Arg N v v'):VR N φ v v':=by
  cases h with
  | one h=>exact aJc h
  | agg h=>exact .agg (by have:=(aEC (φ:=φ) h).length; simpa using this) fun i x y hx hy=>(aEC h).get i x y (by simpa using hx) (by simpa using hy)
inductive Args (N:Nat):List Value→List Value→Prop where
  | nil:Args N [] []
  | cons {v v':Value} {l l':List Value} (h:Arg N v v') (t:Args N l l'):Args N (v::l) (v'::l')
theorem Args.lr {N:Nat}{φ:gV}{l l':List Value} (h:Args N l l'):LR N φ l l':=by
  induction h with
  | nil=>exact .nil
  | cons h _ ih=>exact .cons h.vr ih
def aTb (P:Program) (W:World) (f:FuncId) (vs:List Value):Prop:=aO P (qS W) f vs .e 0 fun v _ _=>v=.bool true
theorem aNW {P:Program} (hz:hY P=true) (hn:pK P=true) (hm:P.follows .mixedOrders=true) {W:World}{f:FuncId}{vs:List Value}{args:Array Value}
    (ha:Args W.heap.size vs args.toList) (h:aTb P W f vs):Calls P f args W fun e W'=>e=.returned (.bool true)∧Below W.heap.size W W':=by
  obtain⟨k,v,h',nx',hc,rfl⟩:=h
  have hs:SS (qS W) W.heap.size W (fun _=>none) .e 0 W:=⟨aHV W,fun _ _=>rfl⟩
  refine ((aDJ (ro:=qS W) (N:=W.heap.size) (w0:=W) hz hn hm _ _ _ _ _ _ _ hc).2 _ W args hs ha.lr).mono fun e W' ⟨v',φ',he,hst,hv⟩=>?_
  subst he
  refine⟨by rw[hv.of_flat rfl],⟨hst.os,hst.tape,hst.output,hst.size,fun b hb=>hst.frame b hb fun k B o r hk _=>absurd (T.get_e k) hk⟩⟩
section
open Go.ChangeShapes Go.WideShapes Go.ChangeAt
variable {H:Type}{enc:TypeId × Value→H}{P:Program}
theorem aIP {W W':World} (hl:laidOutB P=true) (hb:Below W.heap.size W W'):∀ (ts:List TypeId) (vs:List Value) (ds:List (DataW H)) (ps:List MemPlace),
    (∀ t∈ts,P.readableRec t=true∧t < P.types.size)→(∀ x∈ps,x.block < W.heap.size) →
    DataW.TrodAll enc P W 0 (fun _=>true) true ts vs ds ps→DataW.TrodAll enc P W' 0 (fun b=>decide (b < W.heap.size)) true ts vs ds ps:=by
  intro ts
  induction ts with
  | nil =>
    intro vs ds ps _ _ h
    cases vs with
    | nil=>cases ds with
      | nil=>exact h
      | cons _ _=>exact h.elim
    | cons _ _=>exact h.elim
  | cons t ts ih =>
    intro vs ds ps hr hp h
    cases vs with
    | nil=>exact h.elim
    | cons v vs =>
      cases ds with
      | nil=>exact h.elim
      | cons d ds =>
        obtain⟨p,q,h1,h2,rfl⟩:=h
        exact⟨p,q,Below.trod hl (hr t (by simp)).1 (hr t (by simp)).2 h1 hb (fun x hx=>hp x (by simp[hx])),ih _ _ _ (fun t ht=>hr t (by simp[ht])) (fun x hx=>hp x (by simp[hx])) h2,rfl⟩
theorem aQN {fn:Func}{s:ChangeSpec}{tb:TypeId}{W W':World}{args:Array Value}{ds gs:List (DataW H)}{before:List MemPlace}
    (hl:laidOutB P=true) (hrow0:(fn.params.toList.all fun t=>P.readableRec t&&decide (t < P.types.size))=true) (hres:fn.resultTypes=#[tb]) (htb:P.underlying tb=some .bool) (hvars:s.vars=[])
    (hW:DataW.Whole enc P fn.params.toList s.vars false W args.toList ds gs before) (hb:Below W.heap.size W W')
    (hfn:s.fn H (ds++gs)={ results:=[.lit (.bool true)],args:=ds,vars:=[] }) :
    s.post enc P fn false true false false W args (.bool true) W':=by
  have hrow:∀ t∈fn.params.toList,P.readableRec t=true∧t < P.types.size:=fun t ht=>by
    have:=List.all_eq_true.1 hrow0 t ht
    simpa using this
  have hW':=hW
  obtain⟨p,q,hA,hV,rfl,hfz,hnd⟩:=hW
  refine⟨ds,gs,p++q,[],p,[],hW',?_,?_,?_,hb.frame _,fun h=>by cases h⟩
  · rw[hfn,hres]
    exact trodAll_mk1 (shut_bool htb _)
  · rw[hfn]
    exact aIP hl hb _ _ _ _ hrow (fun x hx=>by have:=hW'.lt x (by simp[hx]); simpa using this) hA
  · rw[hfn,hvars]; exact rfl
end
end V
end Go.Proofs.YtcaccnneblghgaaGreat
noncomputable section
namespace Go.Proofs.YtcaccnneblghgaaGreat
namespace V
theorem bY {α:Type} (a:α) (K:α→Prop):aB (some a) K=K a:=rfl
theorem cM (A B:Prop):aW (.bool true) A B=A:=rfl
theorem b8 (A B:Prop):aW (.bool false) A B=B:=rfl
theorem fL (h:T Obj) (nx:Nat) (A:KV→Prop) (K:KV):bA (.bool true) true h nx A K=A K:=rfl
theorem fH (h:T Obj) (nx:Nat) (A:KV→Prop) (K:KV):bA (.bool false) false h nx A K=A K:=rfl
theorem fK (h:T Obj) (nx:Nat) (A:KV→Prop) (K:KV):bA (.bool true) false h nx A K=K undef h nx:=rfl
theorem fJ (h:T Obj) (nx:Nat) (A:KV→Prop) (K:KV):bA (.bool false) true h nx A K=K undef h nx:=rfl
theorem eG (h:T Obj) (i:Nat) (o:Obj) (K:T Obj→Prop):dM h i o K=K (h.upd i (some o)):=rfl
theorem dF (h:T Obj) (i:Nat) (o:Obj) (K:T Obj→Prop):eR h i (some o) K=K (h.upd i (some o)):=rfl
theorem dE (h:T Obj) (i:Nat) (K:T Obj→Prop):eR h i none K=K h:=rfl
theorem cN (A:Prop) (B:Nat→Prop) (D:Prop):gI .normal A B D=A:=rfl
theorem dO (i:Nat) (A:Prop) (B:Nat→Prop) (D:Prop):gI (.exit i) A B D=B i:=rfl
theorem eH (A:Prop) (B:Nat→Prop) (D:Prop):gI .ret A B D=D:=rfl
theorem c8 (A B:Prop):dH true A B=A:=rfl
theorem cK (A B:Prop):dH false A B=B:=rfl
theorem aA {α:Type}{o:Option α}{a:α}{K:α→Prop} (h:o=some a) (k:K a):aB o K:=by rw[h]; exact k
theorem aE {h:T Obj}{i:Nat}{o:Obj}{K:T Obj→Prop} (k:K (h.upd i (some o))):dM h i o K:=k
theorem aF {h:T Obj}{i:Nat}{o:Obj}{K:T Obj→Prop} (k:K (h.upd i (some o))):eR h i (some o) K:=k
theorem aC {h:T Obj}{i:Nat}{K:T Obj→Prop} (k:K h):eR h i none K:=k
theorem aH {A B:Prop} (k:A):aW (.bool true) A B:=k
theorem aG {A B:Prop} (k:B):aW (.bool false) A B:=k
theorem iG {b:Bool}{A B:Prop} (h:b=true) (k:A):aW (.bool b) A B:=by subst h; exact k
theorem iF {b:Bool}{A B:Prop} (h:b=false) (k:B):aW (.bool b) A B:=by subst h; exact k
theorem aL {h:T Obj}{nx:Nat}{A:KV→Prop}{K:KV} (k:A K):bA (.bool true) true h nx A K:=k
theorem aI {h:T Obj}{nx:Nat}{A:KV→Prop}{K:KV} (k:A K):bA (.bool false) false h nx A K:=k
theorem aK {h:T Obj}{nx:Nat}{A:KV→Prop}{K:KV} (k:K undef h nx):bA (.bool true) false h nx A K:=k
theorem aJ {h:T Obj}{nx:Nat}{A:KV→Prop}{K:KV} (k:K undef h nx):bA (.bool false) true h nx A K:=k
theorem aM {w:Bool}{h:T Obj}{nx:Nat}{A:KV→Prop}{K:KV} (k:K undef h nx):bA undef w h nx A K:=k
theorem dT {n:Int} (h1:-9223372036854775808≤n) (h2:n≤9223372036854775807):wr .i64 n=n:=by simp[wr,h1,h2]
theorem gT {n:Int} (h1:0≤n) (h2:n≤255):wr .u8 n=n:=by simp[wr,h1,h2]
theorem fA {n:Int} (h1:0≤n) (h2:n≤18446744073709551615):wr .u64 n=n:=by simp[wr,h1,h2]
theorem cH (k:IntKind) (a b:Int):aQ .add (.int k a) (.int k b)=some (.int k (wr k (a+b))):=by simp[aQ,wT]
theorem dK (k:IntKind) (a b:Int):aQ .sub (.int k a) (.int k b)=some (.int k (wr k (a - b))):=by simp[aQ,wT]
theorem dI (k:IntKind) (a b:Int):aQ .mul (.int k a) (.int k b)=some (.int k (wr k (a*b))):=by simp[aQ,wT]
theorem dP (k:IntKind) {a b:Int} (ha:0≤a) (hb:0 < b):aQ .quo (.int k a) (.int k b)=some (.int k (wr k (a / b))):=by
  have:b≠0:=by omega
  simp[aQ,wT,this,Int.tdiv_eq_ediv_of_nonneg ha]
theorem dQ (k:IntKind) {a b:Int} (ha:0≤a) (hb:0 < b):aQ .rem (.int k a) (.int k b)=some (.int k (a % b)):=by
  have:b≠0:=by omega
  simp[aQ,wT,this,Int.tmod_eq_emod_of_nonneg ha]
theorem bD (k:IntKind) (a b:Int):aQ .eql (.int k a) (.int k b)=some (.bool (decide (a=b))):=by simp[aQ,wT]
theorem bI (k:IntKind) (a b:Int):aQ .neq (.int k a) (.int k b)=some (.bool (!decide (a=b))):=by simp[aQ,wT]
theorem bL (k:IntKind) (a b:Int):aQ .lss (.int k a) (.int k b)=some (.bool (decide (a < b))):=by simp[aQ,wT]
theorem bK (k:IntKind) (a b:Int):aQ .leq (.int k a) (.int k b)=some (.bool (decide (a≤b))):=by simp[aQ,wT]
theorem bJ (k:IntKind) (a b:Int):aQ .gtr (.int k a) (.int k b)=some (.bool (decide (b < a))):=by simp[aQ,wT]
theorem bH (k:IntKind) (a b:Int):aQ .geq (.int k a) (.int k b)=some (.bool (decide (b≤a))):=by simp[aQ,wT]
theorem aQD (k k':IntKind) {a b:Int} (hb:0≤b):aQ .shr (.int k a) (.int k' b)=some (.int k (a.fdiv ((2 ^ (min b.toNat k.bits):Nat):Int))):=by simp[aQ,aD3,hb]
theorem aQC (k k':IntKind) {a b:Int} (hb:0≤b):aQ .shl (.int k a) (.int k' b)=some (.int k (wr k (a*((2 ^ (min b.toNat k.bits):Nat):Int)))):=by simp[aQ,aD3,hb]
theorem cO {a b:Int} (ha:0≤a) (hb:0≤b) (ha':a≤18446744073709551615) (hb':b≤18446744073709551615):aQ .and (.int .u64 a) (.int .u64 b)=some (.int .u64 (Nat.land a.toNat b.toNat:Nat)):=by simp[aQ,wT,aC8,ha,hb,ha',hb']
theorem dD {a b:Int} (ha:0≤a) (hb:0≤b) (ha':a≤18446744073709551615) (hb':b≤18446744073709551615):aQ .or (.int .u64 a) (.int .u64 b)=some (.int .u64 (Nat.lor a.toNat b.toNat:Nat)):=by simp[aQ,wT,aC8,ha,hb,ha',hb']
theorem cP {a b:Int} (ha:0≤a) (hb:0≤b) (ha':a≤18446744073709551615) (hb':b≤18446744073709551615):aQ .xor (.int .u64 a) (.int .u64 b)=some (.int .u64 (Nat.xor a.toNat b.toNat:Nat)):=by simp[aQ,wT,aC8,ha,hb,ha',hb']
theorem dC (k k':IntKind) (n:Int):zP k (.int k' n)=some (.int k (wr k n)):=rfl
theorem eK (b:Bool):unV .not (.bool b)=some (.bool (!b)):=rfl
theorem dA (a b:Bool):aGO .eql (.bool a) (.bool b)=some (.bool (a==b)):=rfl
theorem dB (a b:Bool):aGO .neq (.bool a) (.bool b)=some (.bool (!(a==b))):=rfl
theorem cR (a b:Value):cS (.bool true) a b=some a:=rfl
theorem cB (a b:Value):cS (.bool false) a b=some b:=rfl
theorem cA (a:Option Addr) (n c:Nat):bS (.slice a n c)=some (.int .i64 n):=rfl
abbrev at_ (id off z:Nat):Value:=.pointer (some ⟨id,off,some z⟩)
theorem fC (id:Nat):ptr id=at_ id 0 0:=rfl
theorem eJ (k id off z:Nat):aT k (at_ id off z)=some (at_ id (off+k) z):=rfl
def rI:Option Obj→Option (List Value)
  | some (.cells c _ _)=>some c.toList
  | _=>none
theorem bP (c:Array Value) (e:TypeId) (f:Nat × Nat):rI (some (.cells c e f))=some c.toList:=rfl
theorem aDF {l:List Value}{off:Nat}{v:Value} (h:l[off]?=some v):(l.drop off).take 1=[v]:=by
  have hl:=(List.getElem?_eq_some_iff.1 h).1
  rw[List.drop_eq_getElem_cons hl]
  have:=(List.getElem?_eq_some_iff.1 h).2
  simp[this]
theorem qW (ro:Ro) (h:T Obj) (id off z n:Nat):cellsAt ro h ⟨id,off,some z⟩ n=(rI (h.get id)).bind fun c=>if off+n≤c.length then some ((c.drop off).take n) else none:=by
  unfold cellsAt rI
  simp only
  cases h.get id with
  | none=>rfl
  | some o =>
    cases o<;>try rfl
    rename_i c e f
    simp only[Option.bind,Array.length_toList]
    by_cases hle:off+n≤c.size
    · rw[if_pos hle,Nat.ble_eq_true_of_le hle]
    · rw[if_neg hle]
      cases hb:Nat.ble (off+n) c.size with
      | true=>exact absurd (Nat.le_of_ble_eq_true hb) hle
      | false=>rfl
theorem cV (ro:Ro) (h:T Obj) (id off z:Nat):load1 ro h (at_ id off z)=(rI (h.get id)).bind fun c=>c[off]?:=by
  unfold load1
  simp only[asP,Option.bind,qW]
  cases hc:rI (h.get id) with
  | none=>rfl
  | some c =>
    simp only
    by_cases hle:off+1≤c.length
    · rw[if_pos hle]
      have hg:c[off]?=some c[off]:=List.getElem?_eq_getElem (by omega)
      rw[aDF hg,hg]
    · rw[if_neg hle,List.getElem?_eq_none (by omega)]
theorem cJ (ro:Ro) (h:T Obj) (n id off z:Nat):loadA ro h n (at_ id off z)=(rI (h.get id)).bind fun c=>if off+n≤c.length then some (.agg ((c.drop off).take n).toArray) else none:=by
  unfold loadA
  simp only[asP,Option.bind,qW]
  cases rI (h.get id) with
  | none=>rfl
  | some c=>by_cases hle:off+n≤c.length<;>simp[hle]
theorem dR (n z id off y:Nat) (k:IntKind) {i:Int} (h0:0≤i) (h1:i < n):ixArr n z (at_ id off y) (.int k i)=some (at_ id (off+i.toNat*z) y):=by
  have hn:pL (.int k i)=some i.toNat:=by simp[pL,h0]
  have:Nat.blt i.toNat n=true:=by simp[Nat.blt]; omega
  simp[ixArr,hn,asP,this,fwd]
theorem Value.cells_agg (cs:Array Value):Value.cells (.agg cs)=cs:=rfl
theorem cY (k:IntKind) (n:Int):Value.cells (.int k n)=#[.int k n]:=rfl
theorem cL (b:Bool):Value.cells (.bool b)=#[.bool b]:=rfl
theorem aJ5 (k k':IntKind) (a:Nat) {b:Int} (hb:0≤b) (hk:b≤k.bits):aQ .shr (.int k (a:Int)) (.int k' b)=some (.int k ((a / 2 ^ b.toNat:Nat):Int)):=by
  rw[aQD _ _ hb]
  have:min b.toNat k.bits=b.toNat:=Nat.min_eq_left (by omega)
  rw[this,Int.ofNat_fdiv]
theorem bT (k':IntKind) (a:Nat) {b:Int} (hb:0≤b) (hk:b≤64):aQ .shr (.int .u64 (a:Int)) (.int k' b)=some (.int .u64 ((a / 2 ^ b.toNat:Nat):Int)):=aJ5 _ _ a hb hk
theorem aJ4 (k':IntKind) (a:Nat) {b:Int} (hb:0≤b) (hk:b≤64):aQ .shl (.int .u64 (a:Int)) (.int k' b)=some (.int .u64 (wr .u64 ((a*2 ^ b.toNat:Nat):Int))):=by
  rw[aQC _ _ hb]
  have:min b.toNat IntKind.u64.bits=b.toNat:=Nat.min_eq_left (by have:IntKind.u64.bits=64:=rfl; omega)
  rw[this]; simp
theorem bQ (k':IntKind) {b:Int} (hb:0≤b) (hk:b < 64):aQ .shl (.int .u64 1) (.int k' b)=some (.int .u64 ((2 ^ b.toNat:Nat):Int)):=by
  have h:=aJ4 k' 1 hb (by omega)
  have h2:2 ^ b.toNat < 2 ^ 64:=Nat.pow_lt_pow_right (by decide) (by omega)
  have h3:(((1*2 ^ b.toNat:Nat)):Int)≤18446744073709551615:=by omega
  rw[fA (by omega) h3,Nat.one_mul] at h
  exact h
def Fr (h:T Obj) (nx:Nat):Prop:=∀ i,nx≤i→h.get i=none
theorem Fr.e:Fr .e 0:=fun _ _=>rfl
theorem Fr.mono {h:T Obj}{n m:Nat} (hf:Fr h n) (hn:n≤m):Fr h m:=fun i hi=>hf i (Nat.le_trans hn hi)
theorem Fr.upd {h:T Obj}{n m i:Nat}{o:Option Obj} (hf:Fr h n) (hn:n≤m) (hi:i < m):Fr (h.upd i o) m:=fun j hj=>by
  rw[T.get_upd_ne _ _ (by omega)]; exact hf j (by omega)
theorem aZ.refl (h:T Obj):aZ h h:=fun _ _ e=>e
theorem aZ.trans {a b c:T Obj} (h1:aZ a b) (h2:aZ b c):aZ a c:=fun k o e=>h2 k o (h1 k o e)
theorem aZ.upd {h0 h:T Obj}{i:Nat}{o:Option Obj} (hs:aZ h0 h) (hi:h0.get i=none):aZ h0 (h.upd i o):=fun k x e=>by
  by_cases hk:k=i
  · subst hk; rw[hi] at e; cases e
  · rw[T.get_upd_ne _ _ hk]; exact hs k x e
theorem aZ.new {h0 h:T Obj}{n i:Nat}{o:Option Obj} (hf:Fr h0 n) (hi:n≤i) (hs:aZ h0 h):aZ h0 (h.upd i o):=hs.upd (hf i hi)
theorem bM {B:PT}{Q:KE} (Inv:Nat→dL→T Obj→Nat→Prop)
    (step:∀ n e h nx,Inv n e h nx→∀ Q':KE,(∀ m e' h' h1 nx',m < n→Inv m e' h' nx'→aZ h' h1→Q' .normal e' h1 nx')→(∀ x e' h' nx',x≠.normal→Q x e' h' nx'→Q' x e' h' nx')→B e h nx Q')
    {n:Nat} {e:dL} {h:T Obj} {nx:Nat} (h0:Inv n e h nx):dZ B e h nx Q:=by
  refine⟨n+1,?_⟩
  have key:∀ n,(∀ m,m < n→∀ k,m+1≤k→∀ e h nx,Inv m e h nx→aIc B k e h nx Q)→∀ k,n+1≤k→∀ e h nx,Inv n e h nx→aIc B k e h nx Q:=by
    intro n ih k hk e h nx hi
    cases k with
    | zero=>omega
    | succ k =>
      refine step n e h nx hi _ ?_ ?_
      · intro m e' h' h1 nx' hm hi' hs
        exact⟨h',hs,ih m hm k (by omega) _ _ _ hi'⟩
      · intro x e' h' nx' hx hq
        cases x with
        | normal=>exact absurd rfl hx
        | exit i=>exact hq
        | ret=>exact hq
  have all:∀ n,∀ k,n+1≤k→∀ e h nx,Inv n e h nx→aIc B k e h nx Q:=by
    intro n
    induction n using Nat.strongRecOn with
    | _ n ih=>exact key n ih
  exact all n _ (Nat.le_refl _) _ _ _ h0
def aIp (o:Option Obj) (off:Nat) (vs:List Value):Option Obj:=match o with
  | some (.cells c e f)=>if off+vs.length≤c.size then (if vs.all eA=true then some (.cells (over c.toList off vs).toArray e f) else none) else none
  | _=>none
theorem bW {c:Array Value}{e:TypeId}{f:Nat × Nat}{off:Nat}{vs:List Value} (h1:off+vs.length≤c.size) (h2:vs.all eA=true):aIp (some (.cells c e f)) off vs=some (.cells (over c.toList off vs).toArray e f):=by
  simp[aIp,h1,h2]
theorem cF (n:Nat) (h:T Obj) (id off z:Nat) (v:Value):bU n h (at_ id off z) v=if v.cells.size=n then (aIp (h.get id) off v.cells.toList).bind (fun o=>some (h.upd id (some o))) else none:=by
  unfold bU aIp
  simp only[asP,Option.bind]
  by_cases hn:v.cells.size=n
  · rw[if_pos hn,hn,Nat.beq_refl]
    simp only[lU]
    cases h.get id with
    | none=>rfl
    | some o =>
      cases o<;>try rfl
      rename_i c e f
      simp only[Array.length_toList]
      by_cases hle:off+v.cells.size≤c.size
      · rw[if_pos hle,Nat.ble_eq_true_of_le hle]
        cases v.cells.toList.all eA<;>rfl
      · rw[if_neg hle]
        cases hb:Nat.ble (off+v.cells.size) c.size with
        | true=>exact absurd (Nat.le_of_ble_eq_true hb) hle
        | false=>rfl
  · rw[if_neg hn]
    cases hb:Nat.beq v.cells.size n with
    | true=>exact absurd (Nat.eq_of_beq_eq_true hb) hn
    | false=>rfl
theorem aGz {l:List Value}{off:Nat} (v:Value) (h:off < l.length):over l off [v]=l.set off v:=by
  unfold over
  rw[List.set_eq_take_append_cons_drop,if_pos h]
  simp
theorem aL3 {l vs:List Value} (h:vs.length=l.length):over l 0 vs=vs:=by
  unfold over
  rw[List.drop_eq_nil_of_le (by omega)]; simp
theorem tl (l:List Value):l.toArray.toList=l:=rfl
theorem ts (l:List Value):l.toArray.size=l.length:=rfl
theorem bX {h:T Obj}{id off z:Nat}{v:Value}{l:List Value}{e:TypeId}{f:Nat × Nat} (hg:h.get id=some (.cells l.toArray e f)) (hi:off < l.length) (hv:eA v=true) (hc:v.cells=#[v]) :
    bU 1 h (at_ id off z) v=some (h.upd id (some (.cells (l.set off v).toArray e f))):=by
  rw[cF,hc,hg,if_pos (show #[v].size=1 from rfl),bW (by simp; omega) (by simp[hv])]
  simp[aGz v hi]
theorem nD {h:T Obj}{id z n:Nat}{v:Value}{l vs:List Value}{e:TypeId}{f:Nat × Nat} (hg:h.get id=some (.cells l.toArray e f)) (hc:v.cells=vs.toArray) (hn:vs.length=n) (hl:l.length=n) (hv:vs.all eA=true) :
    bU n h (at_ id 0 z) v=some (h.upd id (some (.cells vs.toArray e f))):=by
  rw[cF,hc,hg,if_pos (by simpa using hn),bW (by simp; omega) (by simpa using hv)]
  simp[aL3 (l:=l) (vs:=vs) (by omega)]
theorem dW {ro:Ro}{h:T Obj}{id z n:Nat}{l:List Value}{e:TypeId}{f:Nat × Nat} (hg:h.get id=some (.cells l.toArray e f)) (hl:l.length=n):loadA ro h n (at_ id 0 z)=some (.agg l.toArray):=by
  rw[cJ,hg]
  subst hl
  simp[rI]
theorem aV {ro:Ro}{h:T Obj}{id off z:Nat}{l:List Value}{e:TypeId}{f:Nat × Nat}{v:Value} (hg:h.get id=some (.cells l.toArray e f)) (hv:l[off]?=some v):load1 ro h (at_ id off z)=some v:=by
  rw[cV,hg]; exact hv
end V
end Go.Proofs.YtcaccnneblghgaaGreat
noncomputable section
namespace Go.Proofs.YtcaccnneblghgaaGreat
namespace V
section
variable {α:Type}
def fcN (n:Nat) (k:Nat→α):α:=match n with
  | 0=>k 0
  | m+1=>k (Nat.succ m)
theorem qJ (n:Nat) (k:Nat→α):fcN n k=k n:=by cases n<;>rfl
def fcI (n:Int) (k:Int→α):α:=match n with
  | .ofNat m=>fcN m fun m=>k (.ofNat m)
  | .negSucc m=>fcN m fun m=>k (.negSucc m)
theorem aSg (n:Int) (k:Int→α):fcI n k=k n:=by cases n<;>simp[fcI,qJ]
def fcA (a:Option Addr) (k:Option Addr→α):α:=match a with
  | none=>k none
  | some a=>fcN a.block fun b=>fcN a.off fun o=>match a.spot with
    | none=>k (some ⟨b,o,none⟩)
    | some z=>fcN z fun z=>k (some ⟨b,o,some z⟩)
theorem aPr (a:Option Addr) (k:Option Addr→α):fcA a k=k a:=by
  cases a with
  | none=>rfl
  | some a=>obtain⟨b,o,s⟩:=a; cases s<;>simp[fcA,qJ]
def fcB:List UInt8→(List UInt8→α)→α
  | [],k=>k []
  | b::r,k=>fcN b.toNat fun n=>fcB r fun r=>k (UInt8.ofNat n::r)
theorem aPs:∀ (l:List UInt8) (k:List UInt8→α),fcB l k=k l
  | [],k=>rfl
  | b::r,k=>by rw[fcB,qJ,aPs r]; simp
def fcC (v:Value) (k:Value→α):α:=match v with
  | .bool b=>match b with
    | true=>k (.bool true)
    | false=>k (.bool false)
  | .int kd n=>fcI n fun n=>k (.int kd n)
  | .string s=>fcB s.data.toList fun l=>k (.string ⟨⟨l⟩⟩)
  | .pointer a=>fcA a fun a=>k (.pointer a)
  | .slice a l c=>fcA a fun a=>fcN l fun l=>fcN c fun c=>k (.slice a l c)
  | .map r=>match r with
    | none=>k (.map none)
    | some r=>fcN r fun r=>k (.map (some r))
  | v=>k v
theorem aPt (v:Value) (k:Value→α):fcC v k=k v:=by
  cases v with
  | bool b=>cases b<;>rfl
  | int kd n=>simp[fcC,aSg]
  | string s=>simp[fcC,aPs]
  | pointer a=>simp[fcC,aPr]
  | slice a l c=>simp[fcC,aPr,qJ]
  | map r=>cases r<;>simp[fcC,qJ]
  | _=>rfl
def fcL:List Value→(List Value→α)→α
  | [],k=>k []
  | v::r,k=>fcC v fun v=>fcL r fun r=>k (v::r)
theorem aPv:∀ (l:List Value) (k:List Value→α),fcL l k=k l
  | [],k=>rfl
  | v::r,k=>by rw[fcL,aPt,aPv r]
def fcS:List Value→(List Value→α)→α
  | [],k=>k []
  | v::r,k=>fcS r fun r=>k (v::r)
theorem aJX:∀ (l:List Value) (k:List Value→α),fcS l k=k l
  | [],k=>rfl
  | v::r,k=>by rw[fcS,aJX r]
def aMk (v:Value) (k:Value→α):α:=match v with
  | .agg cs=>fcS cs.toList fun l=>k (.agg ⟨l⟩)
  | v=>fcC v k
theorem aFt (v:Value) (k:Value→α):aMk v k=k v:=by
  cases v with
  | agg cs=>simp[aMk,aJX]
  | _=>simp only[aMk,aPt]
def aR0:List Value→(List Value→α)→α
  | [],k=>k []
  | v::r,k=>aMk v fun v=>aR0 r fun r=>k (v::r)
theorem aNp:∀ (l:List Value) (k:List Value→α),aR0 l k=k l
  | [],k=>rfl
  | v::r,k=>by rw[aR0,aFt,aNp r]
def fcV (v:Value) (k:Value→α):α:=match v with
  | .tuple cs=>aR0 cs.toList fun l=>k (.tuple ⟨l⟩)
  | v=>aMk v k
theorem aJY (v:Value) (k:Value→α):fcV v k=k v:=by
  cases v with
  | tuple cs=>simp[fcV,aNp]
  | _=>simp only[fcV,aFt]
def fcE:List MapEntry→(List MapEntry→α)→α
  | [],k=>k []
  | e::r,k=>aMk e.key fun a=>aMk e.val fun b=>fcN e.born fun n=>fcE r fun r=>k (⟨a,b,n⟩::r)
theorem aPu:∀ (l:List MapEntry) (k:List MapEntry→α),fcE l k=k l
  | [],k=>rfl
  | v::r,k=>by rw[fcE,aFt,aFt,qJ,aPu r]
def fcO (o:Obj) (k:Obj→α):α:=match o with
  | .cells c e f=>fcS c.toList fun l=>k (.cells ⟨l⟩ e f)
  | .map es n=>fcE es.toList fun l=>fcN n fun n=>k (.map ⟨l⟩ n)
  | o=>k o
theorem aSh (o:Obj) (k:Obj→α):fcO o k=k o:=by
  cases o with
  | cells c e f=>simp[fcO,aJX]
  | map es n=>simp[fcO,aPu,qJ]
  | _=>rfl
def aRj {β:Type} (o:Option β) (f:Nat):Nat→(T β→α)→α:=Nat.rec (motive:=fun _=>Nat→(T β→α)→α) (fun _ K=>K .e)
  (fun _ ih k K=>Nat.rec (motive:=fun _=>α) (K (.n .e o .e)) (fun k' _=>Bool.rec (motive:=fun _=>α) (ih (Nat.div k' 2) fun r=>K (.n .e none r)) (ih (Nat.div k' 2) fun l=>K (.n l none .e)) (Nat.beq (Nat.mod k' 2) 0)) k) f
theorem aRk {β:Type} (o:Option β):∀ (f g k:Nat) (K:T β→α),k < f→k < g→aRj o f k K=K (T.updF o g .e k):=by
  intro f
  induction f with
  | zero=>intro g k K h; omega
  | succ f ih =>
    intro g k K h1 h2
    cases g with
    | zero=>omega
    | succ g =>
      cases k with
      | zero=>rfl
      | succ k =>
        show Bool.rec (motive:=fun _=>α) (aRj o f (k / 2) fun r=>K (.n .e none r)) (aRj o f (k / 2) fun l=>K (.n l none .e)) (Nat.beq (k % 2) 0)=_
        simp only[T.updF]
        rw[ih g _ _ (by omega) (by omega),ih g _ _ (by omega) (by omega)]
        cases Nat.beq (k % 2) 0<;>rfl
def aSU {β:Type} (o:Option β) (t:T β):Nat→(T β→α)→α:=T.rec (motive:=fun _=>Nat→(T β→α)→α) (fun k K=>aRj o (Nat.succ k) k K)
  (fun l v r gl gr k K=>Nat.rec (motive:=fun _=>α) (K (.n l o r)) (fun k' _=>Bool.rec (motive:=fun _=>α) (gr (Nat.div k' 2) fun r=>K (.n l v r)) (gl (Nat.div k' 2) fun l=>K (.n l v r)) (Nat.beq (Nat.mod k' 2) 0)) k) t
theorem aSV {β:Type} (o:Option β) (t:T β):∀ (g k:Nat) (K:T β→α),k < g→aSU o t k K=K (T.updF o g t k):=by
  induction t with
  | e=>intro g k K h; exact aRk o _ g k K (Nat.lt_succ_self _) h
  | n l v r ihl ihr =>
    intro g k K h
    cases g with
    | zero=>omega
    | succ g =>
      cases k with
      | zero=>rfl
      | succ k =>
        show Bool.rec (motive:=fun _=>α) (aSU o r (k / 2) fun r=>K (.n l v r)) (aSU o l (k / 2) fun l=>K (.n l v r)) (Nat.beq (k % 2) 0)=_
        simp only[T.updF]
        rw[ihl g _ _ (by omega),ihr g _ _ (by omega)]
        cases Nat.beq (k % 2) 0<;>rfl
def upK {β:Type} (t:T β) (k:Nat) (o:Option β) (K:T β→α):α:=aSU o t k K
theorem aEz {β:Type} (t:T β) (k:Nat) (o:Option β) (K:T β→α):upK t k o K=K (t.upd k o):=aSV o t _ k K (Nat.lt_succ_self _)
end
def bB {α:Type} (o:Option α) (K:α→Bool):Bool:=match o with
  | some a=>K a
  | none=>false
theorem gM {α:Type}{o:Option α}{K:α→Bool} (h:bB o K=true):∃ a,o=some a∧K a=true:=by
  cases o with
  | none=>cases h
  | some a=>exact⟨a,rfl,h⟩
abbrev KB:=Value→T Obj→Nat→Bool
abbrev uW:=FuncId→List Value→T Obj→Nat→KB→Bool
def aMs (less:Bool):Value→List Value→Option Value
  | .int k x,[]=>some (.int k x)
  | .int k x,.int k' y::r=>aMs less (.int k (match less,decide (y < x),decide (x < y) with
    | true,true,_=>y
    | true,false,_=>x
    | false,_,true=>y
    | false,_,false=>x)) r
  | _,_=>none
termination_by structural _ l=>l
theorem aNx (less:Bool):∀ (l:List Value) (v:Value),aA0 less (v::l)=aMs less v l:=by
  intro l
  induction l with
  | nil=>intro v; cases v<;>simp[aA0,aMs]
  | cons y r ih =>
    intro v
    cases v<;>cases y<;>(conv=>lhs; unfold aA0)<;>simp only[aMs,ih]
    rename_i k1 n1 k2 n2
    cases less<;>cases decide (n2 < n1)<;>cases decide (n1 < n2)<;>rfl
def aQY (less:Bool):List Value→Option Value
  | []=>none
  | v::l=>aMs less v l
theorem aJa (less:Bool) (l:List Value):aA0 less l=aQY less l:=by
  cases l with
  | nil=>simp[aA0,aQY]
  | cons v l=>exact aNx less l v
def aRo (P:Program) (ro:Ro) (t:T Value) (h:T Obj) (aid:Nat) (op:Op):Option (Value × Option Obj):=match op with
  | .call { callee:=.builtin .min,args,.. }=>(aAs t args.toList).bind fun vs=>(aQY true vs).bind fun v=>some (v,none)
  | .call { callee:=.builtin .max,args,.. }=>(aAs t args.toList).bind fun vs=>(aQY false vs).bind fun v=>some (v,none)
  | op=>lM P ro t h aid op
theorem aRp (P:Program) (ro:Ro) (t:T Value) (h:T Obj) (aid:Nat) (op:Op):aRo P ro t h aid op=lM P ro t h aid op:=by
  unfold aRo
  split
  · simp only[lM,fZ,aJa]
  · simp only[lM,fZ,aJa]
  · rfl
def aHx:List Value→Nat→List Value→(List Value→Bool)→Bool
  | l,0,[],k=>k l
  | _::r,0,v::vs,k=>aHx r 0 vs fun r=>k (v::r)
  | [],0,_::_,_=>false
  | x::r,n+1,vs,k=>fcN n fun n=>aHx r n vs fun r=>k (x::r)
  | [],_+1,_,_=>false
theorem aJl:∀ (l:List Value) (n:Nat) (vs:List Value) (k:List Value→Bool),aHx l n vs k=if n+vs.length≤l.length then k (over l n vs) else false
  | [],0,[],k=>by simp[aHx,over]
  | x::r,0,[],k=>by simp[aHx,over]
  | x::r,0,v::vs,k=>by
    rw[aHx,aJl r 0 vs]
    simp[over]
  | [],0,_::_,k=>by simp[aHx]
  | x::r,n+1,vs,k=>by
    rw[aHx,qJ,aJl r n vs]
    have e:n+1+vs.length≤(x::r).length ↔ n+vs.length≤r.length:=by simp; omega
    by_cases h:n+vs.length≤r.length
    · rw[if_pos h,if_pos (e.2 h)]
      have:n+1+vs.length=(n+vs.length)+1:=by omega
      simp[over,this]
    · rw[if_neg h,if_neg (fun h2=>h (e.1 h2))]
  | [],n+1,vs,k=>by simp[aHx]
def aEY (h:T Obj) (a:Addr) (vs:List Value) (K:T Obj→Bool):Bool :=
  match a.spot with
  | none=>false
  | some _=>match h.get a.block with
    | some (.cells c e f)=>match vs.all eA with
      | true=>aHx c.toList a.off vs fun l=>upK h a.block (some (.cells ⟨l⟩ e f)) K
      | false=>false
    | _=>false
theorem aF6 {h:T Obj}{a:Addr}{vs:List Value}{K:T Obj→Bool}:aEY h a vs K=bB (lU h a vs) K:=by
  unfold aEY lU
  cases a.spot with
  | none=>rfl
  | some z =>
    cases h.get a.block with
    | none=>rfl
    | some o =>
      cases o<;>try rfl
      simp only[aJl,aEz,Array.length_toList]
      rename_i c e f
      by_cases hb:a.off+vs.length≤c.size
      · rw[if_pos hb,Nat.ble_eq_true_of_le hb]
        cases vs.all eA<;>rfl
      · rw[if_neg hb]
        have:Nat.ble (a.off+vs.length) c.size=false:=by
          cases hq:Nat.ble (a.off+vs.length) c.size with
          | false=>rfl
          | true=>exact absurd (Nat.le_of_ble_eq_true hq) hb
        rw[this]
        cases vs.all eA<;>rfl
def aRm:List Value→Nat→(Value→Bool)→Bool
  | x::_,0,k=>k x
  | _::r,n+1,k=>aRm r n k
  | [],_,_=>false
theorem aNy:∀ (l:List Value) (n:Nat) (k:Value→Bool),aRm l n k=bB l[n]? k
  | x::_,0,k=>rfl
  | _::r,n+1,k=>by rw[aRm,aNy r n]; rfl
  | [],n,k=>by cases n<;>rfl
def aTq (l:List Value):Nat→(Value→Bool)→Bool:=List.rec (motive:=fun _=>Nat→(Value→Bool)→Bool) (fun _ _=>false) (fun x _ ih n k=>Nat.rec (motive:=fun _=>Bool) (k x) (fun m _=>ih m k) n) l
theorem aNz:∀ (l:List Value) (n:Nat) (k:Value→Bool),aTq l n k=aRm l n k
  | [],n,k=>rfl
  | x::_,0,k=>rfl
  | _::r,n+1,k=>aNz r n k
def aH8:List Value→Nat→(List Value→Bool)→Bool
  | _,0,k=>k []
  | x::r,n+1,k=>aH8 r n fun r=>k (x::r)
  | [],_+1,_=>false
theorem aH9:∀ (l:List Value) (n:Nat) (k:List Value→Bool),aH8 l n k=if n≤l.length then k (l.take n) else false
  | l,0,k=>by cases l<;>simp[aH8]
  | x::r,n+1,k=>by
    rw[aH8,aH9 r n]
    by_cases h:n≤r.length
    · rw[if_pos h,if_pos (by simp; omega)]; simp
    · rw[if_neg h,if_neg (by simp; omega)]
  | [],n+1,k=>by simp[aH8]
def aNt:List Value→Nat→Bool
  | [],0=>true
  | _::r,n+1=>aNt r n
  | _,_=>false
theorem aLC:∀ {l:List Value}{n:Nat},aNt l n=true→l.length=n
  | [],0,_=>rfl
  | _::r,n+1,h=>by rw[List.length_cons,aLC (l:=r) h]
  | [],_+1,h=>by cases h
  | _::_,0,h=>by cases h
def aI1:List Value→Nat→(List Value→Bool)→Bool
  | l,0,k=>k l
  | _::r,n+1,k=>aI1 r n k
  | [],_+1,_=>false
theorem aKh:∀ (l:List Value) (n:Nat) (k:List Value→Bool),aI1 l n k=if n≤l.length then k (l.drop n) else false
  | l,0,k=>by cases l<;>simp[aI1]
  | _::r,n+1,k=>by
    rw[aI1,aKh r n]
    by_cases h:n≤r.length
    · rw[if_pos h,if_pos (by simp; omega)]; rfl
    · rw[if_neg h,if_neg (by simp; omega)]
  | [],n+1,k=>by simp[aI1]
def aM9 (ro:Ro) (h:T Obj) (a:Addr) (n:Nat) (K:List Value→Bool):Bool :=
  match a.spot with
  | none=>bB (cellsAt ro h a n) K
  | some _=>match h.get a.block with
    | some (.cells c _ _)=>match a.off with
      | 0=>match aNt c.toList n with
        | true=>K c.toList
        | false=>aH8 c.toList n K
      | off+1=>aI1 c.toList (Nat.succ off) fun l=>aH8 l n K
    | _=>false
theorem aO1 {ro:Ro}{h:T Obj}{a:Addr}{n:Nat}{K:List Value→Bool}:aM9 ro h a n K=bB (cellsAt ro h a n) K:=by
  unfold aM9 cellsAt
  cases a.spot with
  | none=>rfl
  | some z =>
    cases h.get a.block with
    | none=>rfl
    | some o =>
      cases o<;>try rfl
      rename_i c e f
      have key:(if a.off+n≤c.size then K ((c.toList.drop a.off).take n) else false)=bB (match Nat.ble (a.off+n) c.size with | true=>some ((c.toList.drop a.off).take n) | false=>none) K:=by
        by_cases hb:a.off+n≤c.size
        · rw[if_pos hb,Nat.ble_eq_true_of_le hb]; rfl
        · rw[if_neg hb]
          have:Nat.ble (a.off+n) c.size=false:=by
            cases hq:Nat.ble (a.off+n) c.size with
            | false=>rfl
            | true=>exact absurd (Nat.le_of_ble_eq_true hq) hb
          rw[this]; rfl
      refine Eq.trans ?_ key
      simp only
      cases ho:a.off with
      | zero =>
        simp only[Nat.zero_add,List.drop_zero]
        cases hl:aNt c.toList n with
        | true =>
          have:=aLC hl
          rw[if_pos (by simpa using Nat.le_of_eq this.symm),List.take_of_length_le (by omega)]
        | false=>simp only[aH9,Array.length_toList]
      | succ off =>
        simp only[aKh,aH9,List.length_drop,Array.length_toList]
        by_cases h1:off+1≤c.size
        · rw[if_pos h1]
          by_cases h2:n≤c.size - (off+1)
          · rw[if_pos h2,if_pos (by omega)]
          · rw[if_neg h2,if_neg (by omega)]
        · rw[if_neg h1,if_neg (by omega)]
def aQT (P:Program) (ro:Ro) (h:T Obj) (t:TypeId) (a:Addr) (K:Value→Bool):Bool :=
  match isAgg P t with
  | some true=>bB (p6 P t) fun n=>aM9 ro h a n fun l=>K (.agg ⟨l⟩)
  | some false=>match a.spot with
    | none=>bB (qY P ro h t a) K
    | some _=>match h.get a.block with
      | some (.cells c _ _)=>aTq c.toList a.off K
      | _=>false
  | none=>false
theorem aQU {P:Program}{ro:Ro}{h:T Obj}{t:TypeId}{a:Addr}{K:Value→Bool}:aQT P ro h t a K=bB (qY P ro h t a) K:=by
  obtain⟨b,o,s⟩:=a
  unfold aQT
  cases hi:isAgg P t with
  | none=>simp only[qY,hi]; rfl
  | some x =>
    cases x with
    | true =>
      simp only[qY,hi]
      cases p6 P t with
      | none=>rfl
      | some n =>
        simp only[bB,Option.bind_some]
        rw[aO1]
        cases cellsAt ro h ⟨b,o,s⟩ n<;>rfl
    | false =>
      cases s with
      | none=>rfl
      | some z =>
        simp only
        have e:qY P ro h t ⟨b,o,some z⟩=load1 ro h (at_ b o z):=by
          simp only[qY,hi]; rfl
        rw[e,cV]
        cases h.get b with
        | none=>rfl
        | some x =>
          cases x<;>try rfl
          simp only[aNz,aNy]; rfl
def aN1 (P:Program) (h:T Obj) (t:TypeId) (a v:Value) (K:T Obj→Bool):Bool :=
  match a with
  | .pointer (some a)=>bB (p6 P t) fun n=>match Nat.beq v.cells.size n with
    | true=>aEY h a v.cells.toList K
    | false=>false
  | _=>false
theorem aPI {P:Program}{h:T Obj}{t:TypeId}{a v:Value}{K:T Obj→Bool}:aN1 P h t a v K=bB (aCG P h t a v) K:=by
  unfold aN1 aCG
  cases a<;>try rfl
  rename_i a
  cases a with
  | none=>rfl
  | some a =>
    cases p6 P t with
    | none=>rfl
    | some n =>
      simp only[bB,Option.bind]
      cases Nat.beq v.cells.size n with
      | true=>exact aF6
      | false=>rfl
def apB (r:Value × T Obj × Nat) (K:KB):Bool:=fcV r.1 fun v=>fcN r.2.2 fun n=>K v r.2.1 n
theorem aSa (r:Value × T Obj × Nat) (K:KB):apB r K=K r.1 r.2.1 r.2.2:=by simp[apB,aJY,qJ]
def aJH (P:Program) (ro:Ro) (h:T Obj) (nx:Nat) (ts:Array TypeId) (vs:List Value) (K:KB):Bool :=
  match ts[0]?,ts[1]?,vs with
  | some t0,some t1,[.slice base len cap,x]=>match iM P t0 with
    | some (.slice e)=>bB (tin P e) fun i=>bB (aBG P ro h e i.size i.bytes t1 x) fun s =>
      match Nat.ble (len+s.1) cap with
      | true=>match s.1 with
        | 0=>K (.slice base len cap) h nx
        | _+1=>match base with
          | none=>false
          | some a=>match a.spot with
            | none=>false
            | some z=>match Nat.beq z i.size with
              | true=>aEY h (fwd a (len*i.size)) s.2 fun h=>fcN (len+s.1) fun n=>K (.slice base n cap) h nx
              | false=>false
      | false=>bB (nF P e) fun zv=>match Nat.ble ((len+s.1)*i.bytes) oG,Nat.ble (len+s.1) oG,Nat.blt 0 i.size,Nat.beq zv.cells.size i.size&&s.2.all eA with
        | true,true,true,true=>bB (aJf ro h i.size base len) fun p =>
            fcS (p.1++s.2) fun l=>fcN (len+s.1) fun n=>upK p.2 nx (some (.cells ⟨l⟩ e)) fun h=>fcN (nx+1) fun nx'=>K (.slice (some (own nx i.size)) n n) h nx'
        | _,_,_,_=>false
    | _=>false
  | _,_,_=>false
theorem aM1 {P:Program}{ro:Ro}{h:T Obj}{nx:Nat}{ts:Array TypeId}{vs:List Value}{K:KB}:aJH P ro h nx ts vs K=bB (cZ P ro h nx ts vs) fun r=>K r.1 r.2.1 r.2.2:=by
  unfold aJH cZ
  cases ts[0]? with
  | none=>rfl
  | some t0 =>
    cases ts[1]? with
    | none=>rfl
    | some t1 =>
      match vs with
      | [.slice base len cap,x] =>
        simp only
        cases iM P t0 with
        | none=>rfl
        | some d =>
          cases d<;>try rfl
          rename_i e
          simp only
          cases tin P e with
          | none=>rfl
          | some i =>
            simp only[bB,Option.bind_some]
            cases aBG P ro h e i.size i.bytes t1 x with
            | none=>rfl
            | some s =>
              simp only[Option.bind_some]
              cases Nat.ble (len+s.1) cap with
              | true =>
                simp only
                cases s.1 with
                | zero=>rfl
                | succ q =>
                  cases base with
                  | none=>rfl
                  | some a =>
                    simp only
                    cases a.spot with
                    | none=>rfl
                    | some z =>
                      simp only
                      cases Nat.beq z i.size with
                      | true =>
                        simp only[aF6,qJ]
                        cases lU h (fwd a (len*i.size)) s.2<;>rfl
                      | false=>rfl
              | false =>
                simp only
                cases nF P e with
                | none=>rfl
                | some zv =>
                  simp only[Option.bind_some]
                  cases Nat.ble ((len+s.1)*i.bytes) oG<;>cases Nat.ble (len+s.1) oG<;>cases Nat.blt 0 i.size<;>cases Nat.beq zv.cells.size i.size&&s.2.all eA<;>try rfl
                  simp only
                  cases aJf ro h i.size base len with
                  | none=>rfl
                  | some p=>simp only[aJX,qJ,aEz]; rfl
      | []=>rfl
      | [v]=>cases v<;>rfl
      | .bool _::_::_ | .int _ _::_::_ | .float _ _::_::_ | .complex _ _ _::_::_ | .string _::_::_ | .pointer _::_::_ | .map _::_::_ | .chan _::_::_ | .func _ _ _::_::_ | .nilFunc::_::_ | .iface _ _::_::_ | .nilIface::_::_ | .agg _::_::_ | .tuple _::_::_=>rfl
      | .slice _ _ _::_::_::_=>rfl
def aTs (P:Program) (ro:Ro) (C:uW) (t:T Value) (h:T Obj) (nx:Nat) (op:Op) (K:KB):Bool :=
  match op with
  | .store ty a x=>bB (evl t a) fun av=>bB (evl t x) fun xv=>aN1 P h ty av xv fun h'=>K undef h' nx
  | .mapUpdate ty m k x | .insert ty m k x=>bB (evl t m) fun mv=>bB (evl t k) fun kv=>bB (evl t x) fun xv=>bB (aAZ P h ty mv kv xv) fun h'=>K undef h' nx
  | .call { callee:=.builtin b,args,argTypes }=>bB (aAs t args.toList) fun vs=>match b with
    | .append=>aJH P ro h nx argTypes vs K
    | .copy=>bB (aGW P ro h nx argTypes vs) fun r=>apB r K
    | .clear=>match vs,argTypes[0]? with
      | [m],some ty=>bB (iM P ty) fun _=>bB (aDL h m) fun h=>K (.tuple #[]) h nx
      | _,_=>false
    | _=>false
  | .call { callee:=.value f,args,.. }=>bB (evl t f) fun f=>bB (aAs t args.toList) fun vs=>match f with
    | .func (.func k) a b=>C k (a.toList++vs++b.toList) h nx K
    | _=>false
  | .convert s d x=>bB (evl t x) fun v=>bB (zQ P h s d v) fun r=>K r.1 r.2 nx
  | _=>false
def aRM (h:T Obj) (id:Nat) (o:Option Obj) (K:T Obj→Bool):Bool:=match o with
  | none=>K h
  | some o=>fcO o fun o=>upK h id (some o) K
theorem aRN (h:T Obj) (id:Nat) (o:Option Obj) (K:T Obj→Bool):aRM h id o K=K (aDG h id o):=by
  cases o with
  | none=>rfl
  | some o=>simp[aRM,aDG,aSh,aEz]
def aQ7 (P:Program) (ro:Ro) (C:uW) (t:T Value) (h:T Obj) (nx aid:Nat) (op:Op) (K:KB):Bool :=
  match jE op with
  | true=>aTs P ro C t h nx op K
  | false=>match op with
    | .load ty x=>bB (evl t x) fun v=>match v with
      | .pointer (some a)=>aQT P ro h ty a fun v=>K v h nx
      | _=>false
    | .move x=>bB (evl t x) fun v=>K v h nx
    | .assign x=>bB (evl t x) fun v=>K v h nx
    | op=>bB (aRo P ro t h aid op) fun r=>fcV r.1 fun v=>aRM h aid r.2 fun h'=>K v h' nx
def aLf (n:Nat) (t:T Value) (dst:Option Tmp) (v:Value) (K:T Value→Bool):Bool :=
  match dst with
  | none=>K t
  | some d=>match Nat.blt d n with
    | true=>upK t d (some v) K
    | false=>false
theorem aCY {n:Nat}{t:T Value}{dst:Option Tmp}{v:Value}{K:T Value→Bool} (h:aLf n t dst v K=true):∃ t',put n t dst v=some t'∧K t'=true:=by
  unfold aLf at h
  cases dst with
  | none=>exact⟨t,rfl,h⟩
  | some d =>
    simp only at h
    split at h
    · rename_i hb
      rw[aEz] at h
      exact⟨_,by simp only[put]; rw[hb],h⟩
    · cases h
def aMy (P:Program) (ro:Ro) (C:uW) (n:Nat) (ops:Array Oper):List Oper→T Value→T Obj→Nat→(T Value→T Obj→Nat→Bool)→Bool
  | [],t,h,nx,Q=>Q t h nx
  | o::r,t,h,nx,Q=>match wanted ops t o with
    | true=>fcN (nx+1) fun nx1=>aQ7 P ro C t h nx1 nx o.op fun v h' nx'=>aLf n t o.dst v fun t'=>aMy P ro C n ops r t' h' nx' Q
    | false=>aLf n t o.dst undef fun t'=>aMy P ro C n ops r t' h nx Q
def aTN (P:Program) (ro:Ro) (C:uW) (n:Nat) (ops:Array Oper) (l:List Oper):T Value→T Obj→Nat→(T Value→T Obj→Nat→Bool)→Bool:=List.rec (motive:=fun _=>T Value→T Obj→Nat→(T Value→T Obj→Nat→Bool)→Bool) (fun t h nx Q=>Q t h nx)
  (fun o _ ih t h nx Q=>Bool.rec (motive:=fun _=>Bool) (aLf n t o.dst undef fun t'=>ih t' h nx Q) (fcN (nx+1) fun nx1=>aQ7 P ro C t h nx1 nx o.op fun v h' nx'=>aLf n t o.dst v fun t'=>ih t' h' nx' Q) (wanted ops t o)) l
theorem aOA (P:Program) (ro:Ro) (C:uW) (n:Nat) (ops:Array Oper):∀ l:List Oper,aTN P ro C n ops l=aMy P ro C n ops l
  | []=>rfl
  | o::r=>by
    funext t h nx Q
    have ih:=aOA P ro C n ops r
    simp only[aMy]
    rw[← ih]
    show Bool.rec (motive:=fun _=>Bool) _ _ (wanted ops t o)=_
    cases wanted ops t o<;>rfl
def aRL (a b:Option Addr):Bool:=match a,b with
  | none,none=>true
  | some a,some b=>Nat.beq a.block b.block&&Nat.beq a.off b.off&&(match a.spot,b.spot with
    | none,none=>true
    | some x,some y=>Nat.beq x y
    | _,_=>false)
  | _,_=>false
theorem aN9 {a b:Option Addr} (h:aRL a b=true):a=b:=by
  unfold aRL at h
  split at h
  · rfl
  · rename_i a b
    obtain⟨b1,o1,s1⟩:=a
    obtain⟨b2,o2,s2⟩:=b
    simp only[Bool.and_eq_true] at h
    obtain⟨⟨h1,h2⟩,h3⟩:=h
    have:=Nat.eq_of_beq_eq_true h1
    have:=Nat.eq_of_beq_eq_true h2
    subst_vars
    split at h3
    · simp_all
    · have:=Nat.eq_of_beq_eq_true h3; simp_all
    · cases h3
  · cases h
def aJO (a b:Value):Bool:=match a,b with
  | .bool x,.bool y=>x==y
  | .int k x,.int k' y=>decide (k=k')&&decide (x=y)
  | .string x,.string y=>x.data.toList==y.data.toList
  | .pointer x,.pointer y=>aRL x y
  | .slice x l c,.slice y l' c'=>aRL x y&&Nat.beq l l'&&Nat.beq c c'
  | .map none,.map none=>true
  | .map (some x),.map (some y)=>Nat.beq x y
  | .nilFunc,.nilFunc=>true
  | .nilIface,.nilIface=>true
  | _,_=>false
theorem aIZ {a b:Value} (h:aJO a b=true):a=b:=by
  unfold aJO at h
  split at h
  · simp_all
  · simp_all
  · rename_i x y
    obtain⟨⟨x⟩⟩:=x
    obtain⟨⟨y⟩⟩:=y
    simp_all
  · rw[aN9 h]
  · simp only[Bool.and_eq_true] at h
    obtain⟨⟨h1,h2⟩,h3⟩:=h
    rw[aN9 h1,Nat.eq_of_beq_eq_true h2,Nat.eq_of_beq_eq_true h3]
  · rfl
  · rw[Nat.eq_of_beq_eq_true h]
  · rfl
  · rfl
  · cases h
def aDe:List Value→List Value→Bool
  | [],[]=>true
  | a::r,b::s=>aJO a b&&aDe r s
  | _,_=>false
theorem aDK:∀ {l m:List Value},aDe l m=true→l=m
  | [],[],_=>rfl
  | a::r,b::s,h=>by
    simp only[aDe,Bool.and_eq_true] at h
    rw[aIZ h.1,aDK h.2]
  | [],_::_,h=>by cases h
  | _::_,[],h=>by cases h
def aD7 (a b:Value):Bool:=match a,b with
  | .agg x,.agg y=>aDe x.toList y.toList
  | a,b=>aJO a b
theorem aAE {a b:Value} (h:aD7 a b=true):a=b:=by
  unfold aD7 at h
  split at h
  · rename_i x y
    obtain⟨x⟩:=x
    obtain⟨y⟩:=y
    have:=aDK h
    simp_all
  · exact aIZ h
def aNn:List MapEntry→List MapEntry→Bool
  | [],[]=>true
  | a::r,b::s=>aD7 a.key b.key&&aD7 a.val b.val&&Nat.beq a.born b.born&&aNn r s
  | _,_=>false
theorem aKi:∀ {l m:List MapEntry},aNn l m=true→l=m
  | [],[],_=>rfl
  | a::r,b::s,h=>by
    simp only[aNn,Bool.and_eq_true] at h
    obtain⟨a1,a2,a3⟩:=a
    obtain⟨b1,b2,b3⟩:=b
    have h1:=aAE h.1.1.1
    have h2:=aAE h.1.1.2
    have h3:=Nat.eq_of_beq_eq_true h.1.2
    have h4:=aKi h.2
    simp only at h1 h2 h3
    subst h1; subst h2; subst h3; rw[h4]
  | [],_::_,h=>by cases h
  | _::_,[],h=>by cases h
def aLX (a b:Option Obj):Bool:=match a,b with
  | some (.cells x e f),some (.cells y e' f')=>Nat.beq e e'&&(Nat.beq f.1 f'.1&&Nat.beq f.2 f'.2)&&aDe x.toList y.toList
  | some (.map x n),some (.map y n')=>Nat.beq n n'&&aNn x.toList y.toList
  | _,_=>false
theorem aGu {a b:Option Obj} (h:aLX a b=true):a=b∧a.isSome=true:=by
  unfold aLX at h
  split at h
  · rename_i x e f y e' f'
    obtain⟨x⟩:=x
    obtain⟨y⟩:=y
    obtain⟨f1,f2⟩:=f
    obtain⟨f1',f2'⟩:=f'
    simp only[Bool.and_eq_true] at h
    have h1:e=e':=Nat.eq_of_beq_eq_true h.1.1
    have h2:f1=f1':=Nat.eq_of_beq_eq_true h.1.2.1
    have h3:f2=f2':=Nat.eq_of_beq_eq_true h.1.2.2
    have h4:x=y:=aDK h.2
    subst h1; subst h2; subst h3; subst h4; exact⟨rfl,rfl⟩
  · rename_i x n y n'
    obtain⟨x⟩:=x
    obtain⟨y⟩:=y
    simp only[Bool.and_eq_true] at h
    have h1:n=n':=Nat.eq_of_beq_eq_true h.1
    have h2:x=y:=aKi h.2
    subst h1; subst h2; exact⟨rfl,rfl⟩
  · cases h
def aQn (b:Nat) (h h':T Obj):Bool:=aLX (h.get b) (h'.get b)
theorem aHW {b:Nat}{h h':T Obj} (e:aQn b h h'=true):same b h h':=aGu e
def aPY (b:List Nat) (i:Nat) (h h':T Obj):List (Nat × Nat)→Bool
  | []=>true
  | l::r=>match zT b l.1 i with
    | true=>aQn l.2 h h'&&aPY b i h h' r
    | false=>aPY b i h h' r
theorem aGC {b:List Nat}{i:Nat}{h h':T Obj}:∀ {ls:List (Nat × Nat)},aPY b i h h' ls=true→∀ l∈ls,zT b l.1 i=true→same l.2 h h'
  | [],_,l,hl,_=>by cases hl
  | a::r,e,l,hl,hf=>by
    unfold aPY at e
    rcases List.mem_cons.1 hl with rfl | hl
    · rw[hf] at e
      simp only[Bool.and_eq_true] at e
      exact aHW e.1
    · split at e
      · simp only[Bool.and_eq_true] at e
        exact aGC e.2 l hl hf
      · exact aGC e l hl hf
def aPZ (b:List Nat) (i a:Nat):List (Nat × T Obj × T Obj)→Bool
  | []=>true
  | m::r=>match zT b m.1 i with
    | true=>aQn a m.2.1 m.2.2&&aPZ b i a r
    | false=>aPZ b i a r
theorem aGD {b:List Nat}{i a:Nat}:∀ {ms:List (Nat × T Obj × T Obj)},aPZ b i a ms=true→∀ m∈ms,zT b m.1 i=true→same a m.2.1 m.2.2
  | [],_,l,hl,_=>by cases hl
  | x::r,e,l,hl,hf=>by
    unfold aPZ at e
    rcases List.mem_cons.1 hl with rfl | hl
    · rw[hf] at e
      simp only[Bool.and_eq_true] at e
      exact aHW e.1
    · split at e
      · simp only[Bool.and_eq_true] at e
        exact aGD e.2 l hl hf
      · exact aGD e l hl hf
def aEF (P:Program) (ro:Ro) (C:uW) (n:Nat) (ops:Array Oper) (b:List Nat) (n0:Nat):List Oper→Nat→List (Nat × Nat)→List (Nat × T Obj × T Obj)→T Value→T Obj→Nat→(T Value→T Obj→Nat→Bool)→Bool
  | [],_,_,_,t,h,nx,Q=>Q t h nx
  | o::r,i,ls,ms,t,h,nx,Q=>match wanted ops t o with
    | true=>fcN (n0+i) fun aid=>aQ7 P ro C t h nx aid o.op fun v h' nx'=>aLf n t o.dst v fun t'=>match jE o.op with
      | true=>aPY b i h h' ls&&aEF P ro C n ops b n0 r (i+1) ls ((i,h,h')::ms) t' h' nx' Q
      | false=>match rdB P t o.op with
        | some a=>aPZ b i a ms&&aEF P ro C n ops b n0 r (i+1) ((i,a)::ls) ms t' h' nx' Q
        | none=>aEF P ro C n ops b n0 r (i+1) ls ms t' h' nx' Q
    | false=>aLf n t o.dst undef fun t'=>aEF P ro C n ops b n0 r (i+1) ls ms t' h nx Q
def aJK (ops:Array Oper):List Nat:=CheckFast.beforeL ops.toList 0 []
theorem aRP (ops:Array Oper):aJK ops=(bef ops).toList:=by
  have:=CheckFast.beforeF_eq ops
  unfold aJK bef
  rw[← this]; rfl
abbrev QB:=Ex→T Value→T Obj→Nat→Bool
def aLM (B:T Value→T Obj→Nat→QB→Bool):Nat→T Value→T Obj→Nat→QB→Bool
  | 0,_,_,_,_=>false
  | k+1,t,h,nx,Q=>B t h nx fun x t h nx=>match x with
    | .normal=>aLM B k t h nx Q
    | .exit i=>Q (.exit i) t h nx
    | .ret=>Q .ret t h nx
def uX (P:Program) (ro:Ro) (C:uW) (n:Nat):Code→T Value→T Obj→Nat→QB→Bool
  | .skip,t,h,nx,Q=>Q .normal t h nx
  | .label _,t,h,nx,Q=>Q .normal t h nx
  | .ret,t,h,nx,Q=>Q .ret t h nx
  | .exit id,t,h,nx,Q=>Q (.exit id) t h nx
  | .seq a b,t,h,nx,Q=>uX P ro C n a t h nx fun x t h nx=>match x with
    | .normal=>uX P ro C n b t h nx Q
    | .exit i=>Q (.exit i) t h nx
    | .ret=>Q .ret t h nx
  | .cond c a b,t,h,nx,Q=>bB (evl t c) fun v=>match v with
    | .bool true=>uX P ro C n a t h nx Q
    | .bool false=>uX P ro C n b t h nx Q
    | _=>false
  | .block id b,t,h,nx,Q=>uX P ro C n b t h nx fun x t h nx=>match x with
    | .normal=>Q .normal t h nx
    | .exit i=>match Nat.beq i id with
      | true=>Q .normal t h nx
      | false=>Q (.exit i) t h nx
    | .ret=>Q .ret t h nx
  | .loop b,t,h,nx,Q=>aLM (uX P ro C n b) 100000 t h nx Q
  | .scope b,t,h,nx,Q=>uX P ro C n b t h nx Q
  | .region _ ops draw,t,h,nx,Q=>match draw with
    | false=>aMy P ro C n ops ops.toList t h nx (Q .normal)
    | true=>match aAN P ops (aJK ops) with
      | true=>fcN (nx+ops.size) fun nx'=>aEF P ro C n ops (aJK ops) nx ops.toList 0 [] [] t h nx' (Q .normal)
      | false=>false
  | _,_,_,_,_=>false
def aDh (P:Program) (ro:Ro) (C:uW) (n:Nat) (c:Code):T Value→T Obj→Nat→QB→Bool:=Code.rec (motive:=fun _=>T Value→T Obj→Nat→QB→Bool)
  (fun t h nx Q=>Q .normal t h nx)
  (fun _ ops draw t h nx Q=>Bool.rec (motive:=fun _=>Bool) (aTN P ro C n ops ops.toList t h nx (Q .normal))
    (Bool.rec (motive:=fun _=>Bool) false (fcN (nx+ops.size) fun nx'=>aEF P ro C n ops (aJK ops) nx ops.toList 0 [] [] t h nx' (Q .normal)) (aAN P ops (aJK ops))) draw)
  (fun _ _ ia ib t h nx Q=>ia t h nx fun x t h nx=>Ex.rec (motive:=fun _=>Bool) (ib t h nx Q) (fun i=>Q (.exit i) t h nx) (Q .ret t h nx) x)
  (fun c _ _ ia ib t h nx Q=>bB (evl t c) fun v=>match v with
    | .bool true=>ia t h nx Q
    | .bool false=>ib t h nx Q
    | _=>false)
  (fun id _ ib t h nx Q=>ib t h nx fun x t h nx=>Ex.rec (motive:=fun _=>Bool) (Q .normal t h nx) (fun i=>Bool.rec (motive:=fun _=>Bool) (Q (.exit i) t h nx) (Q .normal t h nx) (Nat.beq i id)) (Q .ret t h nx) x)
  (fun _ ib t h nx Q=>aLM ib 100000 t h nx Q)
  (fun _ _ _ _ _ _ _ _ _ _=>false)
  (fun id t h nx Q=>Q (.exit id) t h nx)
  (fun _ ib t h nx Q=>ib t h nx Q)
  (fun _ t h nx Q=>Q .normal t h nx)
  (fun _ _ _ _ _=>false)
  (fun t h nx Q=>Q .ret t h nx) (fun _ _ _ _ _=>false) c
theorem aPc (P:Program) (ro:Ro) (C:uW) (n:Nat) (c:Code):aDh P ro C n c=uX P ro C n c:=by
  induction c with
  | skip=>rfl
  | region id ops draw =>
    funext t h nx Q
    show Bool.rec (motive:=fun _=>Bool) (aTN P ro C n ops ops.toList t h nx (Q .normal)) (Bool.rec (motive:=fun _=>Bool) false (fcN (nx+ops.size) fun nx'=>aEF P ro C n ops (aJK ops) nx ops.toList 0 [] [] t h nx' (Q .normal)) (aAN P ops (aJK ops))) draw=_
    rw[aOA]
    simp only[uX]
    cases draw with
    | false=>rfl
    | true=>cases aAN P ops (aJK ops)<;>rfl
  | seq a b iha ihb =>
    funext t h nx Q
    show (aDh P ro C n a t h nx fun x t h nx=>Ex.rec (motive:=fun _=>Bool) (aDh P ro C n b t h nx Q) (fun i=>Q (.exit i) t h nx) (Q .ret t h nx) x)=_
    rw[iha,ihb]
    simp only[uX]
    congr 1
    funext x t h nx
    cases x<;>rfl
  | cond c a b iha ihb =>
    funext t h nx Q
    show (bB (evl t c) fun v=>match v with
      | .bool true=>aDh P ro C n a t h nx Q
      | .bool false=>aDh P ro C n b t h nx Q
      | _=>false)=_
    rw[iha,ihb]
    simp only[uX]
  | block id b ihb =>
    funext t h nx Q
    show (aDh P ro C n b t h nx fun x t h nx=>Ex.rec (motive:=fun _=>Bool) (Q .normal t h nx) (fun i=>Bool.rec (motive:=fun _=>Bool) (Q (.exit i) t h nx) (Q .normal t h nx) (Nat.beq i id)) (Q .ret t h nx) x)=_
    rw[ihb]
    simp only[uX]
    congr 1
    funext x t h nx
    cases x with
    | normal=>rfl
    | ret=>rfl
    | exit i=>simp only; cases Nat.beq i id<;>rfl
  | loop b ihb =>
    funext t h nx Q
    show aLM (aDh P ro C n b) 100000 t h nx Q=_
    rw[ihb]
    simp only[uX]
  | rangeFunc=>rfl
  | exit id=>rfl
  | scope b ihb =>
    funext t h nx Q
    show aDh P ro C n b t h nx Q=_
    rw[ihb]
    simp only[uX]
  | label l=>rfl
  | goto l=>rfl
  | ret=>rfl
  | refuse=>rfl
def aJT:List Value→Nat→T Value→(T Value→Bool)→Bool
  | [],_,t,K=>K t
  | v::vs,i,t,K=>upK t i (some v) fun t=>aJT vs (Nat.succ i) t K
theorem aI2:∀ (l:List Value) (i:Nat) (t:T Value) (K:T Value→Bool),aJT l i t K=K (aBR l i t)
  | [],i,t,K=>rfl
  | v::vs,i,t,K=>by rw[aJT,aEz,aI2 vs]; rfl
abbrev aOR:=FuncId→List Value→Option (Nat × Nat × Nat × TypeId × List Value)
abbrev aS9:=FuncId→List Value→T Obj→Nat→Option (Value × T Obj × Nat)
def aIX (P:Program) (ro:Ro) (O:aOR) (M:aS9):Nat→uW
  | 0,_,_,_,_,_=>false
  | k+1,f,args,h,nx,K=>match M f args h nx with
   | some r=>K r.1 r.2.1 r.2.2
   | none=>match O f args with
   | some (z,l,c,e,cs)=>fcN z fun z=>fcN l fun l=>fcN c fun c=>fcL cs fun cs=>upK h nx (some (.cells cs.toArray e)) fun h'=>K (.slice (some ⟨nx,0,some z⟩) l c) h' (Nat.succ nx)
   | none=>bB P.funcs[f]? fun fn=>bB fn.body fun body=>match Nat.ble args.length fn.ntmps with
    | true=>aJT args 0 .e fun t=>aDh P ro (aIX P ro O M k) fn.ntmps body t h nx fun x t h nx=>match x with
      | .exit _=>false
      | .normal=>bB (aEk P ro h t fn.results.toList) fun vs=>fcV (aEQ vs) fun v=>K v h nx
      | .ret=>bB (aEk P ro h t fn.results.toList) fun vs=>fcV (aEQ vs) fun v=>K v h nx
    | false=>false
section
variable {P:Program}{ro:Ro}
def aIQ (P:Program) (ro:Ro) (C:uW):Prop:=∀ f args h nx K,C f args h nx K=true→∃ k v h' nx',call P ro k f args h nx v h' nx'∧K v h' nx'=true
theorem aMw {C:uW} (hC:aIQ P ro C) {t:T Value}{h:T Obj}{nx:Nat}{op:Op}{K:KB} (hl:aTs P ro C t h nx op K=true) :
    ∃ k v h' nx',opL P ro (call P ro k) t h nx op v h' nx'∧K v h' nx'=true:=by
  cases op with
  | store ty a x =>
    obtain⟨a',h1,hl⟩:=gM hl
    obtain⟨x',h2,hl⟩:=gM hl
    rw[aPI] at hl
    obtain⟨h',h4,hl⟩:=gM hl
    exact⟨0,_,_,_,⟨a',x',h1,h2,h4,rfl,rfl⟩,hl⟩
  | mapUpdate ty m k x | insert ty m k x =>
    obtain⟨m',h1,hl⟩:=gM hl
    obtain⟨k',h2,hl⟩:=gM hl
    obtain⟨x',h3,hl⟩:=gM hl
    obtain⟨h',h4,hl⟩:=gM hl
    exact⟨0,_,_,_,⟨m',k',x',h1,h2,h3,h4,rfl,rfl⟩,hl⟩
  | call c =>
    obtain⟨callee,args,ts⟩:=c
    cases callee with
    | builtin b =>
      obtain⟨vs,h1,hl⟩:=gM hl
      cases b<;>try (exact Bool.noConfusion hl)
      case append =>
        simp only[aM1] at hl
        obtain⟨r,h2,hl⟩:=gM hl
        exact⟨0,_,_,_,⟨vs,h1,h2⟩,hl⟩
      case copy =>
        obtain⟨r,h2,hl⟩:=gM hl
        rw[aSa] at hl
        exact⟨0,_,_,_,⟨vs,h1,h2⟩,hl⟩
      case clear =>
        simp only at hl
        split at hl
        · rename_i m ty hty
          obtain⟨d,h2,hl⟩:=gM hl
          obtain⟨h',h3,hl⟩:=gM hl
          exact⟨0,_,_,_,⟨_,h1,m,ty,rfl,hty,by rw[h2]; rfl,h3,rfl,rfl⟩,hl⟩
        · cases hl
    | value f =>
      obtain⟨fv,h1,hl⟩:=gM hl
      obtain⟨vs,h2,hl⟩:=gM hl
      split at hl
      · rename_i k a b _
        obtain⟨k',v,h',nx',h3,h4⟩:=hC _ _ _ _ _ hl
        exact⟨k',v,h',nx',⟨k,a,b,vs,h1,h2,h3⟩,h4⟩
      · cases hl
    | invoke r m=>cases hl
  | convert s d x =>
    obtain⟨v,h1,hl⟩:=gM hl
    obtain⟨r,h2,hl⟩:=gM hl
    exact⟨0,_,_,_,⟨v,h1,h2,rfl⟩,hl⟩
  | _=>cases hl
theorem aGy {C:uW} (hC:aIQ P ro C) {t:T Value}{h:T Obj}{nx aid:Nat}{op:Op}{K:KB} (hl:aQ7 P ro C t h nx aid op K=true) :
    ∃ k v h' nx',opR P ro (call P ro k) t h nx aid op v h' nx'∧K v h' nx'=true:=by
  unfold aQ7 at hl
  unfold opR
  cases hq:jE op with
  | true=>rw[hq] at hl; exact aMw hC hl
  | false =>
    rw[hq] at hl
    have gen:∀ op,bB (aRo P ro t h aid op) (fun r=>fcV r.1 fun v=>aRM h aid r.2 fun h'=>K v h' nx)=true→∃ (v:Value) (h':T Obj) (nx':Nat),(∃ ob,lM P ro t h aid op=some (v,ob)∧h'=aDG h aid ob∧nx'=nx)∧K v h' nx'=true:=by
      intro op hl
      simp only[aJY,aRN,aRp] at hl
      obtain⟨r,h1,h2⟩:=gM hl
      exact⟨r.1,_,_,⟨r.2,h1,rfl,rfl⟩,h2⟩
    simp only at hl ⊢
    have key:∃ v h' nx',(∃ ob,lM P ro t h aid op=some (v,ob)∧h'=aDG h aid ob∧nx'=nx)∧K v h' nx'=true:=by
      split at hl
      · rename_i ty x
        obtain⟨v,h1,hl⟩:=gM hl
        split at hl
        · rename_i a
          rw[aQU] at hl
          obtain⟨u,h2,h3⟩:=gM hl
          exact⟨u,h,nx,⟨none,by simp only[lM]; rw[h1]; show (qY P ro h ty a).bind _=_; rw[h2]; rfl,rfl,rfl⟩,h3⟩
        · cases hl
      · obtain⟨v,h1,hl⟩:=gM hl
        exact⟨v,h,nx,⟨none,by simp only[lM]; rw[h1]; rfl,rfl,rfl⟩,hl⟩
      · obtain⟨v,h1,hl⟩:=gM hl
        exact⟨v,h,nx,⟨none,by simp only[lM]; rw[h1]; rfl,rfl,rfl⟩,hl⟩
      · exact gen _ hl
    obtain⟨v,h',nx',q1,q2⟩:=key
    exact⟨0,v,h',nx',q1,q2⟩
theorem aMz {C:uW} (hC:aIQ P ro C) {n:Nat}{ops:Array Oper}:∀ (l:List Oper) (t:T Value) (h:T Obj) (nx:Nat) (Q:T Value→T Obj→Nat→Bool),aMy P ro C n ops l t h nx Q=true →
    ∃ k s',aC3 P ro (call P ro k) n ops l ⟨t,h,nx⟩ s'∧Q s'.t s'.h s'.nx=true:=by
  intro l
  induction l with
  | nil=>intro t h nx Q hq; exact⟨0,_,rfl,hq⟩
  | cons o r ih =>
    intro t h nx Q hq
    simp only[aMy,qJ] at hq
    simp only[aC3]
    cases hw:wanted ops t o with
    | true =>
      rw[hw] at hq
      obtain⟨k1,v,h',nx',h1,h2⟩:=aGy hC hq
      obtain⟨t',h3,h4⟩:=aCY h2
      obtain⟨k2,s',h5,h6⟩:=ih _ _ _ _ h4
      exact⟨max k1 k2,s',⟨v,h',nx',t',wX (kF (Nat.le_max_left _ _)) h1,h3,aJj (kF (Nat.le_max_right _ _)) _ _ _ h5⟩,h6⟩
    | false =>
      rw[hw] at hq
      obtain⟨t',h3,h4⟩:=aCY hq
      obtain⟨k2,s',h5,h6⟩:=ih _ _ _ _ h4
      exact⟨k2,s',⟨t',h3,h5⟩,h6⟩
theorem aL0 {C:uW} (hC:aIQ P ro C) {n n0:Nat}{ops:Array Oper}:∀ (l:List Oper) (i:Nat) (ls:List (Nat × Nat)) (ms:List (Nat × T Obj × T Obj)) (t:T Value) (h:T Obj) (nx:Nat) (Q:T Value→T Obj→Nat→Bool),
    aEF P ro C n ops (bef ops).toList n0 l i ls ms t h nx Q=true→∃ k s',zY P ro (call P ro k) n ops n0 l i ls ms ⟨t,h,nx⟩ s'∧Q s'.t s'.h s'.nx=true:=by
  intro l
  induction l with
  | nil=>intro i ls ms t h nx Q hq; exact⟨0,_,rfl,hq⟩
  | cons o r ih =>
    intro i ls ms t h nx Q hq
    simp only[aEF,qJ] at hq
    simp only[zY]
    cases hw:wanted ops t o with
    | true =>
      rw[hw] at hq
      obtain⟨k1,v,h',nx',h1,h2⟩:=aGy hC hq
      obtain⟨t',h3,h4⟩:=aCY h2
      cases hl:jE o.op with
      | true =>
        rw[hl] at h4
        simp only[Bool.and_eq_true] at h4
        obtain⟨k2,s',h5,h6⟩:=ih _ _ _ _ _ _ _ h4.2
        refine⟨max k1 k2,s',⟨v,h',nx',t',wX (kF (Nat.le_max_left _ _)) h1,h3,?_,yF (kF (Nat.le_max_right _ _)) _ _ _ _ _ _ h5⟩,h6⟩
        intro q hq hf
        exact aGC h4.1 q hq (by rw[← aBY] at hf; exact hf)
      | false =>
        rw[hl] at h4
        simp only at h4
        cases hr:rdB P t o.op with
        | none =>
          rw[hr] at h4
          obtain⟨k2,s',h5,h6⟩:=ih _ _ _ _ _ _ _ h4
          exact⟨max k1 k2,s',⟨v,h',nx',t',wX (kF (Nat.le_max_left _ _)) h1,h3,yF (kF (Nat.le_max_right _ _)) _ _ _ _ _ _ h5⟩,h6⟩
        | some a =>
          rw[hr] at h4
          simp only[Bool.and_eq_true] at h4
          obtain⟨k2,s',h5,h6⟩:=ih _ _ _ _ _ _ _ h4.2
          refine⟨max k1 k2,s',⟨v,h',nx',t',wX (kF (Nat.le_max_left _ _)) h1,h3,?_,yF (kF (Nat.le_max_right _ _)) _ _ _ _ _ _ h5⟩,h6⟩
          intro q hq hf
          exact aGD h4.1 q hq (by rw[← aBY] at hf; exact hf)
    | false =>
      rw[hw] at hq
      obtain⟨t',h3,h4⟩:=aCY hq
      obtain⟨k2,s',h5,h6⟩:=ih _ _ _ _ _ _ _ h4
      exact⟨k2,s',⟨t',h3,h5⟩,h6⟩
def aS1 (P:Program) (ro:Ro) (n:Nat) (c:Code) (B:T Value→T Obj→Nat→QB→Bool):Prop :=
  ∀ t h nx Q,B t h nx Q=true→∃ k x s',code P ro k n c ⟨t,h,nx⟩ x s'∧Q x s'.t s'.h s'.nx=true
theorem aLN {n:Nat}{b:Code}{B:T Value→T Obj→Nat→QB→Bool} (hB:aS1 P ro n b B):∀ (j:Nat) (t:T Value) (h:T Obj) (nx:Nat) (Q:QB),aLM B j t h nx Q=true →
    ∃ k x s',code P ro k n (.loop b) ⟨t,h,nx⟩ x s'∧Q x s'.t s'.h s'.nx=true:=by
  intro j
  induction j with
  | zero=>intro t h nx Q hq; cases hq
  | succ j ih =>
    intro t h nx Q hq
    obtain⟨k1,x,s1,h1,h2⟩:=hB _ _ _ _ hq
    cases x with
    | normal =>
      obtain⟨k2,x,s2,h5,h6⟩:=ih _ _ _ _ h2
      exact⟨max k1 k2+1,x,s2,.inl ⟨s1,s1.h,vE (Nat.le_max_left _ _) _ _ _ _ _ h1,fun _ _ e=>e,vE (Nat.le_max_right _ _) _ _ _ _ _ h5⟩,h6⟩
    | exit id=>exact⟨k1+1,_,s1,.inr ⟨by simp,h1⟩,h2⟩
    | ret=>exact⟨k1+1,_,s1,.inr ⟨by simp,h1⟩,h2⟩
theorem aKa {C:uW} (hC:aIQ P ro C) {n:Nat}:∀ c:Code,aS1 P ro n c (uX P ro C n c):=by
  intro c
  induction c with
  | skip | label=>intro t h nx Q hp; exact⟨1,.normal,_,⟨rfl,rfl⟩,hp⟩
  | ret=>intro t h nx Q hp; exact⟨1,.ret,_,⟨rfl,rfl⟩,hp⟩
  | exit id=>intro t h nx Q hp; exact⟨1,.exit id,_,⟨rfl,rfl⟩,hp⟩
  | seq a b iha ihb =>
    intro t h nx Q hp
    obtain⟨k1,x,s1,h1,h2⟩:=iha _ _ _ _ hp
    cases x with
    | normal =>
      obtain⟨k2,x,s2,h5,h6⟩:=ihb _ _ _ _ h2
      exact⟨max k1 k2+1,x,s2,.inl ⟨s1,vE (Nat.le_max_left _ _) _ _ _ _ _ h1,vE (Nat.le_max_right _ _) _ _ _ _ _ h5⟩,h6⟩
    | exit id=>exact⟨k1+1,_,s1,.inr ⟨by simp,h1⟩,h2⟩
    | ret=>exact⟨k1+1,_,s1,.inr ⟨by simp,h1⟩,h2⟩
  | cond c a b iha ihb =>
    intro t h nx Q hp
    obtain⟨v,h1,h2⟩:=gM hp
    split at h2
    · obtain⟨k,x,s1,h3,h4⟩:=iha _ _ _ _ h2
      exact⟨k+1,x,s1,⟨true,h1,h3⟩,h4⟩
    · obtain⟨k,x,s1,h3,h4⟩:=ihb _ _ _ _ h2
      exact⟨k+1,x,s1,⟨false,h1,h3⟩,h4⟩
    · cases h2
  | block id b ihb =>
    intro t h nx Q hp
    obtain⟨k,x,s1,h1,h2⟩:=ihb _ _ _ _ hp
    cases x with
    | normal=>exact⟨k+1,_,s1,⟨_,h1,rfl⟩,h2⟩
    | ret=>exact⟨k+1,_,s1,⟨_,h1,rfl⟩,h2⟩
    | exit i =>
      refine⟨k+1,_,s1,⟨_,h1,rfl⟩,?_⟩
      simp only at h2 ⊢
      cases hb:Nat.beq i id with
      | true=>rw[hb] at h2; exact h2
      | false=>rw[hb] at h2; exact h2
  | loop b ihb=>intro t h nx Q hp; exact aLN ihb _ _ _ _ _ hp
  | scope b ihb =>
    intro t h nx Q hp
    obtain⟨k,x,s1,h1,h2⟩:=ihb _ _ _ _ hp
    exact⟨k+1,x,s1,h1,h2⟩
  | region id ops draw =>
    intro t h nx Q hp
    cases draw with
    | false =>
      obtain⟨k,s',h1,h2⟩:=aMz hC _ _ _ _ _ hp
      exact⟨k+1,.normal,s',⟨rfl,h1⟩,h2⟩
    | true =>
      simp only[uX] at hp
      rw[aRP,aG0] at hp
      cases hd:aAM P ops with
      | false=>rw[hd] at hp; cases hp
      | true =>
        rw[hd] at hp
        simp only[qJ] at hp
        obtain⟨k,s',h1,h2⟩:=aL0 hC _ _ _ _ _ _ _ _ hp
        exact⟨k+1,.normal,s',⟨rfl,hd,h1⟩,h2⟩
  | _=>intro t h nx Q hp; cases hp
theorem aFD {O:aOR}{M:aS9} (hO:∀ f args z l c e cs,O f args=some (z,l,c,e,cs)→aKT P f args z l c cs) (hM:∀ f args h nx v h' nx',M f args h nx=some (v,h',nx')→∃ j,call P ro j f args h nx v h' nx'):∀ k,aIQ P ro (aIX P ro O M k):=by
  intro k
  induction k with
  | zero=>intro f args h nx K hc; cases hc
  | succ k ih =>
    intro f args h nx K hc
    simp only[aIX] at hc
    cases hm:M f args h nx with
    | some r =>
      obtain⟨v,h',nx'⟩:=r
      rw[hm] at hc
      obtain⟨j,hj⟩:=hM _ _ _ _ _ _ _ hm
      exact⟨j,v,h',nx',hj,hc⟩
    | none =>
    rw[hm] at hc
    simp only at hc
    cases hq:O f args with
    | some r =>
      obtain⟨z,l,c,e,cs⟩:=r
      rw[hq] at hc
      simp only[qJ,aPv,aEz] at hc
      exact⟨0,_,_,_,.inr (.inr ⟨z,l,c,cs,e,hO _ _ _ _ _ _ _ hq,rfl,fun _ _ e=>e,rfl⟩),hc⟩
    | none =>
    rw[hq] at hc
    simp only at hc
    obtain⟨fn,h1,hc⟩:=gM hc
    obtain⟨body,h2,hc⟩:=gM hc
    split at hc
    · rename_i hb
      rw[aI2,aPc] at hc
      obtain⟨j,x,s,h3,h4⟩:=aKa ih body _ _ _ _ hc
      cases x with
      | exit i=>cases h4
      | normal =>
        obtain⟨vs,h5,h6⟩:=gM h4
        rw[aJY] at h6
        exact⟨j,_,_,_,.inl ⟨fn,body,.normal,s,vs,h1,h2,Nat.le_of_ble_eq_true hb,h3,.inl rfl,h5,rfl,fun _ _ e=>e,rfl⟩,h6⟩
      | ret =>
        obtain⟨vs,h5,h6⟩:=gM h4
        rw[aJY] at h6
        exact⟨j,_,_,_,.inl ⟨fn,body,.ret,s,vs,h1,h2,Nat.le_of_ble_eq_true hb,h3,.inr rfl,h5,rfl,fun _ _ e=>e,rfl⟩,h6⟩
    · cases hc
structure Cp where
  f:FuncId
  args:List Value
  h:T Obj
  nx:Nat
  v:Value
  h':T Obj
  nx':Nat
def wA (P:Program) (c:Cp):Prop:=∀ ro,∃ j,call P ro j c.f c.args c.h c.nx c.v c.h' c.nx'
def oEq (a b:Option Obj):Bool:=match a,b with
  | none,none=>true
  | a,b=>aLX a b
theorem aTH {a b:Option Obj} (h:oEq a b=true):a=b:=by
  unfold oEq at h
  split at h
  · rfl
  · exact (aGu h).1
def eqT:T Obj→T Obj→Bool
  | .e,.e=>true
  | .n l v r,.n l' v' r'=>oEq v v'&&(eqT l l'&&eqT r r')
  | _,_=>false
theorem aMi:∀ {a b:T Obj},eqT a b=true→a=b
  | .e,.e,_=>rfl
  | .n l v r,.n l' v' r',h=>by
    simp only[eqT,Bool.and_eq_true] at h
    rw[aTH h.1,aMi h.2.1,aMi h.2.2]
  | .e,.n ..,h=>by cases h
  | .n ..,.e,h=>by cases h
def aHd:List Value→List Value→Bool
  | [],[]=>true
  | a::r,b::s=>aD7 a b&&aHd r s
  | _,_=>false
theorem aFA:∀ {l m:List Value},aHd l m=true→l=m
  | [],[],_=>rfl
  | a::r,b::s,h=>by
    simp only[aHd,Bool.and_eq_true] at h
    rw[aAE h.1,aFA h.2]
  | [],_::_,h=>by cases h
  | _::_,[],h=>by cases h
def aRC (a b:Value):Bool:=match a,b with
  | .tuple x,.tuple y=>aHd x.toList y.toList
  | a,b=>aD7 a b
theorem aRD {a b:Value} (h:aRC a b=true):a=b:=by
  unfold aRC at h
  split at h
  · rename_i x y
    obtain⟨x⟩:=x
    obtain⟨y⟩:=y
    have:=aFA h
    simp_all
  · exact aAE h
def aQr:T Obj→(Nat→Option Obj)→Bool
  | .e,_=>true
  | .n l v r,g=>(match v with
    | none=>true
    | some o=>aLX (some o) (g 0))&&(aQr l (fun k=>g (2*k+1))&&aQr r (fun k=>g (2*k+2)))
theorem aH5:∀ {t:T Obj}{g:Nat→Option Obj},aQr t g=true→∀ k o,t.get k=some o→g k=some o
  | .e,g,_,k,o,h=>by rw[T.get_e] at h; cases h
  | .n l v r,g,hs,k,o,h=>by
    simp only[aQr,Bool.and_eq_true] at hs
    cases k with
    | zero =>
      have:v=some o:=h
      subst this
      exact (aGu hs.1).1.symm
    | succ k =>
      have h2:(Bool.rec (motive:=fun _=>Option Obj) (r.get (k / 2)) (l.get (k / 2)) (Nat.beq (k % 2) 0):Option Obj)=some o:=h
      cases hb:Nat.beq (k % 2) 0 with
      | true =>
        rw[hb] at h2
        have h3:=aH5 hs.2.1 _ _ h2
        have h4:=Nat.eq_of_beq_eq_true hb
        rw[show k+1=2*(k / 2)+1 by omega]
        exact h3
      | false =>
        rw[hb] at h2
        have h3:=aH5 hs.2.2 _ _ h2
        have h4:¬ k % 2=0:=fun e=>by rw[e] at hb; cases hb
        rw[show k+1=2*(k / 2)+2 by omega]
        exact h3
def cpM:List Cp→aS9
  | [],_,_,_,_=>none
  | c::r,f,args,h,nx=>match Nat.beq f c.f,Nat.beq nx c.nx with
    | true,true=>match aHd args c.args with
      | true=>match eqT h c.h with
        | true=>some (c.v,c.h',c.nx')
        | false=>none
      | false=>none
    | _,_=>cpM r f args h nx
theorem aMg {ro:Ro}:∀ {l:List Cp},(∀ c∈l,wA P c)→∀ f args h nx v h' nx',cpM l f args h nx=some (v,h',nx')→∃ j,call P ro j f args h nx v h' nx'
  | [],_,_,_,_,_,_,_,_,h=>by cases h
  | c::r,hl,f,args,h,nx,v,h',nx',he=>by
    unfold cpM at he
    split at he
    · rename_i e1 e2
      split at he
      · rename_i e3
        split at he
        · rename_i e4
          simp only[Option.some.injEq,Prod.mk.injEq] at he
          obtain⟨rfl,rfl,rfl⟩:=he
          have d1:f=c.f:=Nat.eq_of_beq_eq_true e1
          have d2:nx=c.nx:=Nat.eq_of_beq_eq_true e2
          rw[d1,d2,aFA e3,aMi e4]
          exact hl c (List.mem_cons_self ..) ro
        · cases he
      · cases he
    · exact aMg (fun c hc=>hl c (List.mem_cons_of_mem _ hc)) _ _ _ _ _ _ _ he
theorem mS {P:Program}:∀ c∈([]:List Cp),wA P c:=fun c h=>by cases h
theorem bV {P:Program}{a:Cp}{l:List Cp} (h:wA P a) (hl:∀ c∈l,wA P c):∀ c∈a::l,wA P c:=fun c hc=>by
  rcases List.mem_cons.1 hc with e | hc
  · rw[e]; exact h
  · exact hl c hc
def aTh (v0:Value) (h0:T Obj) (n0:Nat):KB:=fun v h nx=>aRC v v0&&(Nat.beq nx n0&&aQr h0 fun k=>h.get k)
def aTg (want:Value):KB:=fun v _ _=>aD7 v want
theorem aK5 {k:Nat}{f:FuncId}{args:List Value}{h h' h1:T Obj}{nx nx':Nat}{v:Value} (hc:call P ro k f args h nx v h' nx') (hs:aZ h1 h'):call P ro k f args h nx v h1 nx':=by
  rcases hc with ⟨fn,body,e,s,vs,g1,g2,g3,g4,g5,g6,g7,g8,g9⟩ | ⟨g1,g2,g3,g4⟩ | ⟨z,l,c,cs,e,g1,g2,g3,g4⟩
  · exact .inl ⟨fn,body,e,s,vs,g1,g2,g3,g4,g5,g6,g7,fun k o hk=>g8 k o (hs k o hk),g9⟩
  · exact .inr (.inl ⟨g1,g2,fun k o hk=>g3 k o (hs k o hk),g4⟩)
  · exact .inr (.inr ⟨z,l,c,cs,e,g1,g2,fun k o hk=>g3 k o (hs k o hk),g4⟩)
theorem xZ {O:aOR} (hO:∀ f args z l c e cs,O f args=some (z,l,c,e,cs)→aKT P f args z l c cs) {l:List Cp} (hl:∀ c∈l,wA P c) {k:Nat}{c:Cp} (hc:∀ ro,aIX P ro O (cpM l) k c.f c.args c.h c.nx (aTh c.v c.h' c.nx')=true):wA P c:=fun ro=>by
  obtain⟨j,v,h',nx',h1,h2⟩:=aFD hO (fun f args h nx v h' nx' e=>aMg hl f args h nx v h' nx' e) k _ _ _ _ _ (hc ro)
  simp only[aTh,Bool.and_eq_true] at h2
  rw[← aRD h2.1,← Nat.eq_of_beq_eq_true h2.2.1]
  exact⟨j,aK5 h1 fun k o hk=>aH5 h2.2.2 k o hk⟩
theorem aOZ {O:aOR} (hO:∀ f args z l c e cs,O f args=some (z,l,c,e,cs)→aKT P f args z l c cs) {l:List Cp} (hl:∀ c∈l,wA P c) {k:Nat}{f:FuncId}{args:List Value}{nx:Nat}{want:Value}{K:KV} (hc:aIX P ro O (cpM l) k f args .e nx (aTg want)=true) (hK:∀ n,K want .e n):aO P ro f args .e nx K:=by
  obtain⟨j,v,h',nx',h1,h2⟩:=aFD hO (fun f args h nx v h' nx' e=>aMg hl f args h nx v h' nx' e) k _ _ _ _ _ hc
  refine⟨j,v,.e,nx',aK5 h1 (fun k o hk=>by rw[T.get_e] at hk; cases hk),?_⟩
  rw[aAE h2]
  exact hK _
end
end V
end Go.Proofs.YtcaccnneblghgaaGreat
noncomputable section
namespace Go.Proofs.YtcaccnneblghgaaGreat
namespace V
theorem aTP {P:Program} (hz:hY P=true) (hn:pK P=true) (hm:P.follows .mixedOrders=true) {f:FuncId}{want:Value} (hf:flat want=true) (hb:((P.funcs[f]?).bind (·.body)).isSome=true)
    (he:∀ ro:Ro,aO P ro f [] .e 0 fun v _ _=>v=want):Orc P f want:=by
  refine⟨hf,?_,fun W=>?_⟩
  · cases hq:P.funcs[f]? with
    | none=>rw[hq] at hb; cases hb
    | some fn =>
      rw[hq] at hb
      refine⟨fn,rfl,?_⟩
      simp only[Option.bind_some] at hb
      cases hc:fn.body with
      | none=>rw[hc] at hb; cases hb
      | some b=>rfl
  · obtain⟨j,v,h',nx',hc,hv⟩:=he (qS W)
    subst hv
    have hs:SS (qS W) W.heap.size W (fun _=>none) .e 0 W:=⟨aHV W,fun _ _=>rfl⟩
    refine ((aDJ (ro:=qS W) (N:=W.heap.size) (w0:=W) hz hn hm _ _ _ _ _ _ _ hc).2 _ W #[] hs .nil).mono fun e W' ⟨v',φ',he,hst,hv⟩=>?_
    subst he
    exact⟨by rw[hv.of_flat hf],hst.size,fun b hb=>hst.frame b hb fun k B o r hk _=>absurd (T.get_e k) hk,hst.os,hst.tape,hst.output⟩
theorem aRu {P:Program} (hz:hY P=true) (hn:pK P=true) (hm:P.follows .mixedOrders=true) {O:aOR} (hO:∀ f args z l c e cs,O f args=some (z,l,c,e,cs)→aKT P f args z l c cs) {l:List Cp} (hl:∀ c∈l,wA P c) {f:FuncId}{want:Value}{k:Nat} (hf:flat want=true) (hb:((P.funcs[f]?).bind (·.body)).isSome=true)
    (he:∀ ro:Ro,aIX P ro O (cpM l) k f [] .e 0 (aTg want)=true):Orc P f want:=aTP hz hn hm hf hb fun ro=>aOZ hO hl (he ro) fun _=>rfl
theorem LR.rigid {N:Nat}{φ:gV}:∀ {l:List Value},l.all V.rigid=true→LR N φ l l
  | [],_=>.nil
  | x::l,h=>by
    simp only[List.all_cons,Bool.and_eq_true] at h
    refine .cons ?_ (LR.rigid h.2)
    have hx:=h.1
    cases x with
    | agg cs=>exact VR.aggL (LR.flat fun x hx'=>List.all_eq_true.1 (show cs.toList.all V.flat=true from hx) x hx')
    | _=>exact .flat hx
theorem aRs {P:Program} (hz:hY P=true) (hn:pK P=true) (hm:P.follows .mixedOrders=true) {f:FuncId}{args:List Value}{z l c:Nat}{cs:List Value} (hr:args.all rigid=true) (hf:cs.all flat=true) (hb:((P.funcs[f]?).bind (·.body)).isSome=true)
    (hc0:l≤c) (hc1:c*z=cs.length) (hc2:0 < c) (he:∀ ro:Ro,aO P ro f args .e 0 fun v h _=>∃ id e,v=.slice (some ⟨id,0,some z⟩) l c∧h.get id=some (.cells cs.toArray e)):aKT P f args z l c cs:=by
  refine⟨hr,hf,?_,fun W=>?_⟩
  · cases hq:P.funcs[f]? with
    | none=>rw[hq] at hb; cases hb
    | some fn =>
      rw[hq] at hb
      refine⟨fn,rfl,?_⟩
      simp only[Option.bind_some] at hb
      cases hc:fn.body with
      | none=>rw[hc] at hb; cases hb
      | some b=>rfl
  · obtain⟨j,v,h',nx',hc,id,e,rfl,hg⟩:=he (qS W)
    have hs:SS (qS W) W.heap.size W (fun _=>none) .e 0 W:=⟨aHV W,fun _ _=>rfl⟩
    refine ((aDJ (ro:=qS W) (N:=W.heap.size) (w0:=W) hz hn hm _ _ _ _ _ _ _ hc).2 _ W args.toArray hs (by simpa using LR.rigid hr)).mono fun en W' ⟨v',φ',he,hst,hv⟩=>?_
    subst he
    refine⟨?_,hst.size,fun b hb=>hst.frame b hb fun k B o r hk _=>absurd (T.get_e k) hk,hst.os,hst.tape,hst.output⟩
    obtain⟨B,b,r,o',p1,p2,p3⟩:=hst.ss.sim.own id _ hg
    have hB:W.heap.size≤B:=by
      rcases hst.img id B b r (by rw[hg]; simp) p1 with h1 | ⟨k0,o0,r0,h1,_⟩
      · exact h1
      · exact absurd (T.get_e k0) h1
    cases o'<;>first
      | exact p3.elim
      | skip
    rename_i C E F
    obtain⟨r1,r2,r3,r4⟩:=p3
    have hflat:∀ (i:Nat) (x:Value),cs[i]?=some x→C[b+i]?=some x:=fun i x hx=>by
      obtain⟨y,hy,hxy⟩:=r3 i x (by simpa using hx)
      rw[hy,hxy.of_flat (List.all_eq_true.1 hf x (List.mem_of_getElem? hx))]
    cases hv with
    | flat h=>cases h
    | sliceRo h _=>cases h
    | sliceOwn h1 h2 h3 h4 =>
      cases h2
      simp only at h1
      rw[p1] at h1
      cases h1
      exact⟨B,_,r,_,C,E,F,rfl,h3,by simpa using h4,hB,(hst.ss.sim.dom id B b r p1).2,p2,r1,by simpa using r2,hflat,r4⟩
    | sliceEnd h1 h2=>omega
    | sliceNo h=>cases h
end V
end Go.Proofs.YtcaccnneblghgaaGreat
namespace Go.Proofs.YtcaccnneblghgaaGreat
namespace V
attribute [local irreducible] tP aO aB
abbrev yC:FuncId:=7
abbrev yZ:FuncId:=10
abbrev aFe:FuncId:=12
abbrev aAU:FuncId:=13
abbrev yY:FuncId:=14
abbrev vL:FuncId:=17
abbrev aB0:FuncId:=20
abbrev y9:FuncId:=21
abbrev aB4:FuncId:=26
abbrev aHu:FuncId:=30
abbrev aHv:FuncId:=31
abbrev aJ2:FuncId:=32
abbrev aJ1:FuncId:=33
abbrev aCg:FuncId:=34
abbrev aBZ:FuncId:=36
abbrev jI:FuncId:=37
abbrev gD:FuncId:=38
abbrev aDN:FuncId:=39
abbrev kZ:FuncId:=42
abbrev vK:FuncId:=44
abbrev aAT:FuncId:=45
abbrev aB3:FuncId:=47
abbrev aGg:FuncId:=65
abbrev aGh:FuncId:=66
abbrev aGi:FuncId:=67
abbrev tT:FuncId:=69
abbrev jJ:FuncId:=70
abbrev fQ:FuncId:=71
abbrev yX:FuncId:=72
abbrev aDO:FuncId:=73
abbrev vI:FuncId:=74
abbrev yW:FuncId:=75
abbrev aDS:FuncId:=76
abbrev mE:FuncId:=78
abbrev wR:FuncId:=81
abbrev y6:FuncId:=82
abbrev tR:FuncId:=83
abbrev aB2:FuncId:=85
abbrev y7:FuncId:=102
abbrev uU:FuncId:=109
abbrev wS:FuncId:=110
abbrev gA:FuncId:=111
abbrev eP:FuncId:=112
abbrev aAP:FuncId:=113
abbrev o5:FuncId:=114
abbrev zA:FuncId:=115
abbrev wQ:FuncId:=116
abbrev oR:FuncId:=117
abbrev j8:FuncId:=118
abbrev gY:FuncId:=119
abbrev j9:FuncId:=120
abbrev y0:FuncId:=126
abbrev y8:FuncId:=127
abbrev yD:FuncId:=135
abbrev aAR:FuncId:=136
abbrev tQ:FuncId:=147
abbrev gB:FuncId:=152
abbrev aAO:FuncId:=153
abbrev vJ:FuncId:=154
abbrev fU:FuncId:=155
abbrev gW:FuncId:=156
abbrev pP:FuncId:=157
abbrev iC:FuncId:=164
abbrev yV:FuncId:=165
abbrev tS:FuncId:=166
abbrev aAS:FuncId:=167
abbrev aDR:FuncId:=171
abbrev aAQ:FuncId:=178
abbrev aB1:FuncId:=179
abbrev aDQ:FuncId:=180
abbrev gJ:FuncId:=182
abbrev rR:FuncId:=187
abbrev aDP:FuncId:=192
abbrev dY:TypeId:=3
abbrev jK:TypeId:=4
abbrev cI:TypeId:=5
abbrev sQ:TypeId:=9
abbrev lX:TypeId:=22
abbrev iA:TypeId:=28
abbrev fY:TypeId:=31
abbrev jZ:TypeId:=32
abbrev d4:TypeId:=34
abbrev bO:TypeId:=42
abbrev fE:TypeId:=43
abbrev a9:TypeId:=49
abbrev aAe:TypeId:=57
abbrev eM:TypeId:=59
abbrev pE:TypeId:=60
abbrev j5:TypeId:=61
abbrev cD:TypeId:=63
abbrev dX:TypeId:=65
abbrev gH:TypeId:=70
abbrev aY:TypeId:=72
abbrev eY:TypeId:=84
abbrev mN:TypeId:=95
abbrev kE:TypeId:=96
abbrev bE:TypeId:=98
abbrev j7:TypeId:=101
abbrev fX:TypeId:=111
abbrev nM:TypeId:=146
abbrev cE:TypeId:=148
abbrev iN:TypeId:=149
abbrev nQ:TypeId:=150
abbrev hU:TypeId:=158
abbrev bG:TypeId:=160
abbrev hN:TypeId:=161
abbrev bN:TypeId:=163
abbrev gU:TypeId:=164
abbrev aCJ:TypeId:=166
abbrev cG:TypeId:=168
abbrev fN:TypeId:=200
abbrev bR:TypeId:=202
abbrev eX:TypeId:=213
abbrev cT:TypeId:=218
@[irreducible] def pB (ro:Ro) (v0:Value) (h:T Obj) (nx:Nat) (K:KV):Prop:=aB (slB .eql v0 (Value.slice none 0 0)) fun a'=>aW a' (∃ h2,aZ h2 h∧K (Value.slice none 0 0) h2 (nx+4)) (aB (b7 Tryz.prog lX (nx+3) 0 []) fun r3=>eR h (nx+3) r3.2 fun h4=>aB (cZ Tryz.prog ro h4 (nx+6) #[lX,lX] [r3.1,v0]) fun r5=>∃ h6,aZ h6 r5.2.1∧K r5.1 h6 (r5.2.2+1))
theorem zzO{ro:Ro}{f:FuncId}{fn:Func}{vs:List Value}{h:T Obj}{nx:Nat}{K:KV}{X:Prop}(w:X)(h1:Tryz.prog.funcs[f]?=some fn:=by kernel_rfl)(h2:fn.body.isSome=true:=by kernel_rfl)(h3:Nat.ble vs.length fn.ntmps=true:=by kernel_rfl)(h4:tP Tryz.prog ro (aO Tryz.prog ro) fn vs h nx K=X:=by kernel_rfl):aO Tryz.prog ro f vs h nx K:=bC h1 h2 h3 (Eq.mpr h4 w)
theorem uM {ro:Ro}{v0:Value}{h:T Obj}{nx:Nat}{K:KV} (hw:pB ro v0 h nx K):aO Tryz.prog ro jI [v0] h nx K:=zzO (fn:=Tryz.f37) hw
@[irreducible] def uL (ro:Ro) (v0:Value) (h:T Obj) (nx:Nat) (K:KV):Prop:=aB (slB .eql v0 (Value.slice none 0 0)) fun a'=>aW a' (∃ h2,aZ h2 h∧K (Value.slice none 0 0) h2 (nx+4)) (aB (b7 Tryz.prog fY (nx+3) 0 []) fun r3=>eR h (nx+3) r3.2 fun h4=>aB (cZ Tryz.prog ro h4 (nx+6) #[fY,fY] [r3.1,v0]) fun r5=>∃ h6,aZ h6 r5.2.1∧K r5.1 h6 (r5.2.2+1))
theorem aAB {ro:Ro}{v0:Value}{h:T Obj}{nx:Nat}{K:KV} (hw:uL ro v0 h nx K):aO Tryz.prog ro gD [v0] h nx K:=zzO (fn:=Tryz.f38) hw
@[irreducible] def fD (ro:Ro) (K:KV):dL→T Obj→Nat→Prop:=fun e h nx=>∃ h4,aZ h4 h∧K (e 6) h4 (nx+2)
@[irreducible] def kB (ro:Ro):PT:=fun e h nx Q=>aB (aQ .lss (e 27) (e 26)) fun b'=>aW b' (aB (cQ 1 (e 25) (e 27)) fun c'=>aB (load1 ro h c') fun a'=>aB (cZ Tryz.prog ro h (nx+7) #[bO,bO] [(e 6),a']) fun r9=>aB (aQ .add (e 27) (Value.int IntKind.i64 1)) fun d'=>Q .normal (puts e [(28,b'),(29,c'),(30,a'),(8,a'),(31,(e 6)),(32,a'),(33,r9.1),(6,r9.1),(34,d'),(27,d')]) r9.2.1 (r9.2.2+3)) (Q (.exit 2) (puts e [(28,b')]) h (nx+1))
@[irreducible] def hG (ro:Ro) (K:KV):dL→T Obj→Nat→Prop:=fun e h nx=>aO Tryz.prog ro mE [(Value.slice none 0 0),(e 3)] h (nx+2) fun d' h2 n3=>aB (bS (e 0)) fun f'=>dZ (kB ro) (puts e [(23,(e 3)),(24,d'),(6,d'),(25,(e 0)),(26,f'),(27,(Value.int IntKind.i64 0))]) h2 (n3+4) fun g' a' b' c'=>gI g' (fD ro K a' b' c') (fun h'=>dH (Nat.beq h' 2) (fD ro K a' b' c') (False)) (∃ e',aZ e' b'∧K (a' 2) e' c')
@[irreducible] def kC (ro:Ro) (Q:KE):dL→T Obj→Nat→Prop:=fun e h nx=>aB (aQ .add (e 11) (Value.int IntKind.i64 1)) fun a'=>Q .normal (puts e [(22,a'),(11,a')]) h (nx+2)
@[irreducible] def pC (ro:Ro):PT:=fun e h nx Q=>aB (aQ .lss (e 11) (e 10)) fun c'=>aW c' (aB (cQ 1 (e 9) (e 11)) fun d'=>aB (load1 ro h d') fun a'=>aB (bS a') fun e'=>aB (aQ .add (e 3) e') fun b'=>aB (aQ .lss b' (Value.int IntKind.i64 0)) fun f'=>aW f' (False) (kC ro Q (puts e [(12,c'),(13,d'),(14,a'),(5,a'),(15,(e 3)),(16,a'),(17,e'),(18,b'),(3,b'),(19,b'),(20,f')]) h (nx+11))) (Q (.exit 0) (puts e [(12,c')]) h (nx+1))
@[irreducible] def rB (ro:Ro) (v0:Value) (h:T Obj) (nx:Nat) (K:KV):Prop:=aB (bS v0) fun e'=>dZ (pC ro) (puts (fT [v0]) [(2,(Value.slice none 0 0)),(3,(Value.int IntKind.i64 0)),(9,v0),(10,e'),(11,(Value.int IntKind.i64 0))]) h (nx+5) fun f' a' b' c'=>gI f' (hG ro K a' b' c') (fun g'=>dH (Nat.beq g' 0) (hG ro K a' b' c') (False)) (∃ d',aZ d' b'∧K (a' 2) d' c')
theorem xQ {ro:Ro}{v0:Value}{h:T Obj}{nx:Nat}{K:KV} (hw:rB ro v0 h nx K):aO Tryz.prog ro kZ [v0] h nx K:=zzO (fn:=Tryz.f42) hw
@[irreducible] def jD (ro:Ro) (K:KV):dL→T Obj→Nat→Prop:=fun e h nx=>∃ h1,aZ h1 h∧K (Value.int IntKind.i64 (-1)) h1 (nx+1)
@[irreducible] def mR (ro:Ro):PT:=fun e h nx Q=>aB (aQ .lss (e 8) (e 7)) fun a'=>aW a' (aB (cQ 1 (e 0) (e 8)) fun b'=>aB (load1 ro h b') fun c'=>aB (aFk .eql (e 1) c') fun d'=>aW d' (Q .ret (puts e [(9,a'),(10,(e 8)),(5,(e 8)),(11,(e 1)),(12,(e 0)),(13,(e 8)),(14,b'),(15,c'),(16,d'),(17,(e 8)),(4,(e 8))]) h (nx+11)) (aB (aQ .add (e 8) (Value.int IntKind.i64 1)) fun e'=>Q .normal (puts e [(9,a'),(10,(e 8)),(5,(e 8)),(11,(e 1)),(12,(e 0)),(13,(e 8)),(14,b'),(15,c'),(16,d'),(18,e'),(8,e')]) h (nx+11))) (Q (.exit 0) (puts e [(9,a')]) h (nx+1))
@[irreducible] def pD (ro:Ro) (v0 v1:Value) (h:T Obj) (nx:Nat) (K:KV):Prop:=aB (bS v0) fun c'=>dZ (mR ro) (puts (fT [v0,v1]) [(4,(Value.int IntKind.i64 0)),(6,v0),(7,c'),(8,(Value.int IntKind.i64 0))]) h (nx+4) fun d' e8 h9 a'=>gI d' (jD ro K e8 h9 a') (fun e'=>dH (Nat.beq e' 0) (jD ro K e8 h9 a') (False)) (∃ b',aZ b' h9∧K (e8 4) b' a')
theorem uO {ro:Ro}{v0 v1:Value}{h:T Obj}{nx:Nat}{K:KV} (hw:pD ro v0 v1 h nx K):aO Tryz.prog ro jJ [v0,v1] h nx K:=zzO (fn:=Tryz.f70) hw
@[irreducible] def iT (ro:Ro) (v0 v1:Value) (h:T Obj) (nx:Nat) (K:KV):Prop:=aO Tryz.prog ro gA [v0,v1] h (nx+4) fun a' h2 n3=>aB (aQ .geq a' (Value.int IntKind.i64 0)) fun b'=>∃ h5,aZ h5 h2∧K b' h5 (n3+2)
theorem m6 {ro:Ro}{v0 v1:Value}{h:T Obj}{nx:Nat}{K:KV} (hw:iT ro v0 v1 h nx K):aO Tryz.prog ro fQ [v0,v1] h nx K:=zzO (fn:=Tryz.f71) hw
@[irreducible] def nN (ro:Ro) (K:KV):dL→T Obj→Nat→Prop:=fun e h nx=>aB (loadA ro h 259 (e 1)) fun c'=>aB (fG Tryz.prog eX [(0,c')]) fun d'=>aB (nF Tryz.prog eX) fun e'=>dM h (nx+2) (.cells e'.cells eX) fun f'=>aB (bU 259 f' (ptr (nx+2)) d') fun a'=>aB (aT 258 (e 1)) fun g'=>aB (load1 ro a' g') fun h'=>aO Tryz.prog ro eP [h',(.func (.func wQ) #[] #[(ptr (nx+2))])] a' (nx+8) fun i' j' k'=>aB (unV .not i') fun l'=>∃ b',aZ b' j'∧K l' b' (k'+2)
@[irreducible] def yT (ro:Ro):PT:=fun e h nx Q=>aB (aQ .lss (e 47) (e 46)) fun d'=>aW d' (aB (cQ 2 (e 45) (e 47)) fun e'=>aB (loadA ro h 2 e') fun f'=>aB (nF Tryz.prog iN) fun S'=>dM h (nx+3) (.cells S'.cells iN) fun T'=>aB (bU 2 T' (ptr (nx+3)) f') fun g'=>aB (ixArr 2 1 (ptr (nx+3)) (Value.int IntKind.i64 0)) fun h'=>aB (load1 ro g' h') fun i'=>aB (aQ .lss i' (Value.int IntKind.i64 1)) fun a'=>bA a' false g' (nx+9) (fun U'=>aB (ixArr 2 1 (ptr (nx+3)) (Value.int IntKind.i64 0)) fun V'=>U' V' g' (nx+10)) fun j' k' z'=>bA a' false k' z' (fun W'=>aB (load1 ro k' j') fun X'=>W' X' k' (z'+1)) fun l' A' B'=>bA a' false A' B' (fun Y'=>aB (ixArr 2 1 (ptr (nx+3)) (Value.int IntKind.i64 1)) fun Z'=>Y' Z' A' (B'+1)) fun m' n' C'=>bA a' false n' C' (fun aa'=>aB (load1 ro n' m') fun ab'=>aa' ab' n' (C'+1)) fun o' D' E'=>bA a' false D' E' (fun ac'=>aB (aQ .gtr l' o') fun ad'=>ac' ad' D' (E'+1)) fun p' F' G'=>aB (cS a' (Value.bool true) p') fun b'=>bA b' false F' (G'+2) (fun ae'=>aB (ixArr 2 1 (ptr (nx+3)) (Value.int IntKind.i64 1)) fun af'=>ae' af' F' (G'+3)) fun q' r' H'=>bA b' false r' H' (fun ag'=>aB (load1 ro r' q') fun ah'=>ag' ah' r' (H'+1)) fun s' I' J'=>bA b' false I' J' (fun ai'=>aB (aQ .lss s' (Value.int IntKind.i64 2)) fun aj'=>ai' aj' I' (J'+1)) fun t' K' L'=>aB (cS b' (Value.bool true) t') fun c'=>bA c' false K' (L'+2) (fun ak'=>aB (ixArr 2 1 (ptr (nx+3)) (Value.int IntKind.i64 1)) fun al'=>ak' al' K' (L'+3)) fun u' v' M'=>bA c' false v' M' (fun am'=>aB (load1 ro v' u') fun an'=>am' an' v' (M'+1)) fun w' N' O'=>bA c' false N' O' (fun ao'=>aB (aQ .gtr w' (Value.int IntKind.i64 4096)) fun ap'=>ao' ap' N' (O'+1)) fun x' P' Q'=>aB (cS c' (Value.bool true) x') fun y'=>aW y' (Q .ret (puts e [(48,d'),(49,e'),(50,f'),(4,(ptr (nx+3))),(51,h'),(52,i'),(53,a'),(54,a'),(55,j'),(56,l'),(57,m'),(58,o'),(59,p'),(60,b'),(61,b'),(62,q'),(63,s'),(64,t'),(65,c'),(66,c'),(67,u'),(68,w'),(69,x'),(70,y'),(2,(Value.bool false))]) P' (Q'+2)) (aB (aQ .add (e 47) (Value.int IntKind.i64 1)) fun R'=>Q .normal (puts e [(48,d'),(49,e'),(50,f'),(4,(ptr (nx+3))),(51,h'),(52,i'),(53,a'),(54,a'),(55,j'),(56,l'),(57,m'),(58,o'),(59,p'),(60,b'),(61,b'),(62,q'),(63,s'),(64,t'),(65,c'),(66,c'),(67,u'),(68,w'),(69,x'),(70,y'),(71,R'),(47,R')]) P' (Q'+3))) (Q (.exit 0) (puts e [(48,d')]) h (nx+1))
@[irreducible] def aGI (ro:Ro) (v0:Value) (h:T Obj) (nx:Nat) (K:KV):Prop:=dM h nx (.cells (Value.cells v0) cD) fun h1=>aB (aT 0 (ptr nx)) fun p'=>aB (loadA ro h1 257 p') fun q'=>aO Tryz.prog ro zA [q'] h1 (nx+40) fun r' h5 n6=>aB (unV .not r') fun b'=>bA b' false h5 n6 (fun k8=>aB (aT 257 (ptr nx)) fun aP'=>k8 aP' h5 n6) fun s' e' t'=>bA b' false e' t' (fun aQ'=>aB (load1 ro e' s') fun aR'=>aQ' aR' e' t') fun u' v' w'=>bA b' false v' w' (fun aS'=>aB (bS u') fun aT'=>aS' aT' v' w') fun x' y' z'=>bA b' false y' z' (fun aU'=>aB (aQ .gtr x' (Value.int IntKind.i64 512)) fun aV'=>aU' aV' y' z') fun A' B' C'=>aB (cS b' (Value.bool true) A') fun c'=>bA c' false B' C' (fun aW'=>aB (aT 258 (ptr nx)) fun aX'=>aW' aX' B' C') fun D' f' E'=>bA c' false f' E' (fun aY'=>aB (load1 ro f' D') fun aZ'=>aY' aZ' f' E') fun F' G' H'=>bA c' false G' H' (fun a0'=>aB (bS F') fun a1'=>a0' a1' G' H') fun I' J' K'=>bA c' false J' K' (fun a2'=>aB (aQ .lss I' (Value.int IntKind.i64 1)) fun a3'=>a2' a3' J' K') fun L' M' N'=>aB (cS c' (Value.bool true) L') fun d'=>bA d' false M' N' (fun a4'=>aB (aT 258 (ptr nx)) fun a5'=>a4' a5' M' N') fun O' g' P'=>bA d' false g' P' (fun a6'=>aB (load1 ro g' O') fun a7'=>a6' a7' g' P') fun Q' R' S'=>bA d' false R' S' (fun a8'=>aB (bS Q') fun a9'=>a8' a9' R' S') fun T' U' V'=>bA d' false U' V' (fun ba'=>aB (aQ .gtr T' (Value.int IntKind.i64 256)) fun bb'=>ba' bb' U' V') fun W' X' Y'=>aB (cS d' (Value.bool true) W') fun a'=>bA a' false X' Y' (fun bc'=>aB (aT 258 (ptr nx)) fun bd'=>bc' bd' X' Y') fun Z' h' aa'=>bA a' false h' aa' (fun be'=>aB (load1 ro h' Z') fun bf'=>be' bf' h' aa') fun ab' ac' ad'=>bA a' false ac' ad' (fun bg'=>aB (cQ 4 ab' (Value.int IntKind.i64 0)) fun bh'=>bg' bh' ac' ad') fun ae' af' ag'=>bA a' false af' ag' (fun bi'=>aB (aT 0 ae') fun bj'=>bi' bj' af' ag') fun ah' i' ai'=>bA a' false i' ai' (fun bk'=>aB (load1 ro i' ah') fun bl'=>bk' bl' i' ai') fun aj' ak' al'=>bA a' false ak' al' (fun bm'=>aB (bS aj') fun bn'=>bm' bn' ak' al') fun am' an' ao'=>bA a' false an' ao' (fun bo'=>aB (aT 258 (ptr nx)) fun bp'=>bo' bp' an' ao') fun ap' j' aq'=>bA a' false j' aq' (fun bq'=>aB (load1 ro j' ap') fun br'=>bq' br' j' aq') fun ar' as' at'=>bA a' false as' at' (fun bs'=>aB (cQ 4 ar' (Value.int IntKind.i64 0)) fun bt'=>bs' bt' as' at') fun au' av' aw'=>bA a' false av' aw' (fun bu'=>aB (aT 1 au') fun bv'=>bu' bv' av' aw') fun ax' k' ay'=>bA a' false k' ay' (fun bw'=>aB (load1 ro k' ax') fun bx'=>bw' bx' k' ay') fun az' aA' aB'=>bA a' false aA' aB' (fun by'=>aB (bS az') fun bz'=>by' bz' aA' aB') fun aC' aD' aE'=>bA a' false aD' aE' (fun bA'=>aB (aQ .add am' aC') fun bB'=>bA' bB' aD' aE') fun aF' aG' aH'=>bA a' false aG' aH' (fun bC'=>aB (aQ .gtr aF' (Value.int IntKind.i64 0)) fun bD'=>bC' bD' aG' aH') fun aI' l' aJ'=>aB (cS a' (Value.bool true) aI') fun aK'=>aW aK' (∃ aL',aZ aL' l'∧K (Value.bool false) aL' (aJ'+1)) (aB (aT 257 (ptr nx)) fun aM'=>aB (load1 ro l' aM') fun aN'=>aB (bS aN') fun bE'=>dZ (yT ro) (puts (fT [v0]) [(1,(ptr nx)),(2,(Value.bool false)),(6,p'),(7,q'),(8,r'),(9,b'),(10,b'),(11,s'),(12,u'),(13,x'),(14,A'),(15,c'),(16,c'),(17,D'),(18,F'),(19,I'),(20,L'),(21,d'),(22,d'),(23,O'),(24,Q'),(25,T'),(26,W'),(27,a'),(28,a'),(29,Z'),(30,ab'),(31,ae'),(32,ah'),(33,aj'),(34,am'),(35,ap'),(36,ar'),(37,au'),(38,ax'),(39,az'),(40,aC'),(41,aF'),(42,aI'),(43,aK'),(44,aM'),(45,aN'),(46,bE'),(47,(Value.int IntKind.i64 0))]) l' (aJ'+4) fun bF' m' n' o'=>gI bF' (nN ro K m' n' o') (fun bG'=>dH (Nat.beq bG' 0) (nN ro K m' n' o') (False)) (∃ aO',aZ aO' n'∧K (m' 2) aO' o'))
theorem aHj {ro:Ro}{v0:Value}{h:T Obj}{nx:Nat}{K:KV} (hw:aGI ro v0 h nx K):aO Tryz.prog ro vI [v0] h nx K:=zzO (fn:=Tryz.f74) hw
@[irreducible] def iY (ro:Ro) (K:KV):dL→T Obj→Nat→Prop:=fun e h nx=>∃ h1,aZ h1 h∧K (e 0) h1 (nx+2)
@[irreducible] def lW (ro:Ro) (K:KV):dL→T Obj→Nat→Prop:=fun e h nx=>aB (fZ Tryz.prog h .cap #[bO] [(e 0)]) fun b'=>aB (bS (e 0)) fun c'=>aB (aQ .sub b' c') fun d'=>aB (aQ .sub (e 1) d') fun a'=>aB (aQ .gtr a' (Value.int IntKind.i64 0)) fun e'=>aW e' (aB (fZ Tryz.prog h .cap #[bO] [(e 0)]) fun f'=>aB (nX Tryz.prog bO (e 0) none (some f') none) fun g'=>aB (cZ Tryz.prog ro h (nx+16) #[bO,dY] [g',a']) fun r9=>aB (bS (e 0)) fun h'=>aB (nX Tryz.prog bO r9.1 none (some h') none) fun i'=>iY ro K (puts e [(8,(e 1)),(9,(e 0)),(10,b'),(11,(e 0)),(12,c'),(13,d'),(14,a'),(1,a'),(15,a'),(16,e'),(17,(e 0)),(18,(e 0)),(19,f'),(20,g'),(21,a'),(22,r9.1),(23,(e 0)),(24,h'),(25,i'),(0,i')]) r9.2.1 (r9.2.2+4)) (iY ro K (puts e [(8,(e 1)),(9,(e 0)),(10,b'),(11,(e 0)),(12,c'),(13,d'),(14,a'),(1,a'),(15,a'),(16,e')]) h (nx+10))
@[irreducible] def tC (ro:Ro) (v0 v1:Value) (h:T Obj) (nx:Nat) (K:KV):Prop:=aB (aQ .lss v1 (Value.int IntKind.i64 0)) fun a'=>aW a' (False) (lW ro K (puts (fT [v0,v1]) [(4,(Value.slice none 0 0)),(5,v1),(6,a')]) h (nx+3))
theorem zH {ro:Ro}{v0 v1:Value}{h:T Obj}{nx:Nat}{K:KV} (hw:tC ro v0 v1 h nx K):aO Tryz.prog ro mE [v0,v1] h nx K:=zzO (fn:=Tryz.f78) hw
@[irreducible] def xC (ro:Ro) (K:KV):dL→T Obj→Nat→Prop:=fun e h nx=>∃ h144,aZ h144 h∧K (Value.bool true) h144 (nx+1)
@[irreducible] def aBj (ro:Ro):PT:=fun e h nx Q=>aB (aT 258 (e 1)) fun a'=>aB (load1 ro h a') fun b'=>aB (bS b') fun c'=>aB (aQ .lss (e 5) c') fun d'=>aW d' (aB (loadA ro h 259 (e 1)) fun e'=>aB (aT 258 (e 1)) fun f'=>aB (load1 ro h f') fun g'=>aB (cQ 4 g' (e 5)) fun h'=>aB (loadA ro h 4 h') fun i'=>aO Tryz.prog ro y8 [e',i'] h (nx+13) fun j' l' m'=>aB (unV .not j') fun k'=>aW k' (Q .ret (puts e [(78,(e 5)),(79,a'),(80,b'),(81,c'),(82,d'),(85,e'),(86,f'),(87,g'),(88,(e 5)),(89,h'),(90,i'),(91,j'),(92,k'),(2,(Value.bool false))]) l' (m'+1)) (aB (aQ .add (e 5) (Value.int IntKind.i64 1)) fun n'=>Q .normal (puts e [(78,(e 5)),(79,a'),(80,b'),(81,c'),(82,d'),(85,e'),(86,f'),(87,g'),(88,(e 5)),(89,h'),(90,i'),(91,j'),(92,k'),(83,(e 5)),(84,n'),(5,n')]) l' (m'+3))) (Q (.exit 2) (puts e [(78,(e 5)),(79,a'),(80,b'),(81,c'),(82,d')]) h (nx+5))
@[irreducible] def rZ (ro:Ro) (K:KV):dL→T Obj→Nat→Prop:=fun e h nx=>dZ (aBj ro) (puts e [(5,(Value.int IntKind.i64 0))]) h (nx+1) fun x162 e159 h160 n161=>gI x162 (xC ro K e159 h160 n161) (fun i163=>dH (Nat.beq i163 2) (xC ro K e159 h160 n161) (False)) (∃ h164,aZ h164 h160∧K (e159 2) h164 n161)
@[irreducible] def aBk (ro:Ro):PT:=fun e h nx Q=>aB (aT 257 (e 1)) fun d'=>aB (load1 ro h d') fun e'=>aB (bS e') fun f'=>aB (aQ .lss (e 3) f') fun g'=>aW g' (aB (aT 257 (e 1)) fun h'=>aB (load1 ro h h') fun i'=>aB (cQ 2 i' (e 3)) fun j'=>aB (loadA ro h 2 j') fun k'=>aB (nF Tryz.prog iN) fun X'=>dM h (nx+10) (.cells X'.cells iN) fun Y'=>aB (bU 2 Y' (ptr (nx+10)) k') fun l'=>aB (ixArr 2 1 (ptr (nx+10)) (Value.int IntKind.i64 0)) fun m'=>aB (load1 ro l' m') fun n'=>aB (aQ .lss n' (Value.int IntKind.i64 1)) fun a'=>bA a' false l' (nx+16) (fun Z'=>aB (ixArr 2 1 (ptr (nx+10)) (Value.int IntKind.i64 0)) fun aa'=>Z' aa' l' (nx+17)) fun o' p' E'=>bA a' false p' E' (fun ab'=>aB (load1 ro p' o') fun ac'=>ab' ac' p' (E'+1)) fun q' F' G'=>bA a' false F' G' (fun ad'=>aB (ixArr 2 1 (ptr (nx+10)) (Value.int IntKind.i64 1)) fun ae'=>ad' ae' F' (G'+1)) fun r' s' H'=>bA a' false s' H' (fun af'=>aB (load1 ro s' r') fun ag'=>af' ag' s' (H'+1)) fun t' I' J'=>bA a' false I' J' (fun ah'=>aB (aQ .gtr q' t') fun ai'=>ah' ai' I' (J'+1)) fun u' K' L'=>aB (cS a' (Value.bool true) u') fun b'=>bA b' false K' (L'+2) (fun aj'=>aB (ixArr 2 1 (ptr (nx+10)) (Value.int IntKind.i64 1)) fun ak'=>aj' ak' K' (L'+3)) fun v' w' M'=>bA b' false w' M' (fun al'=>aB (load1 ro w' v') fun am'=>al' am' w' (M'+1)) fun x' N' O'=>bA b' false N' O' (fun an'=>aB (aQ .lss x' (Value.int IntKind.i64 2)) fun ao'=>an' ao' N' (O'+1)) fun y' P' Q'=>aB (cS b' (Value.bool true) y') fun c'=>bA c' false P' (Q'+2) (fun ap'=>aB (ixArr 2 1 (ptr (nx+10)) (Value.int IntKind.i64 1)) fun aq'=>ap' aq' P' (Q'+3)) fun z' A' R'=>bA c' false A' R' (fun ar'=>aB (load1 ro A' z') fun as'=>ar' as' A' (R'+1)) fun B' S' T'=>bA c' false S' T' (fun at'=>aB (aQ .gtr B' (Value.int IntKind.i64 4096)) fun au'=>at' au' S' (T'+1)) fun C' U' V'=>aB (cS c' (Value.bool true) C') fun D'=>aW D' (Q .ret (puts e [(46,(e 3)),(47,d'),(48,e'),(49,f'),(50,g'),(53,h'),(54,i'),(55,(e 3)),(56,j'),(57,k'),(4,(ptr (nx+10))),(58,m'),(59,n'),(60,a'),(61,a'),(62,o'),(63,q'),(64,r'),(65,t'),(66,u'),(67,b'),(68,b'),(69,v'),(70,x'),(71,y'),(72,c'),(73,c'),(74,z'),(75,B'),(76,C'),(77,D'),(2,(Value.bool false))]) U' (V'+2)) (aB (aQ .add (e 3) (Value.int IntKind.i64 1)) fun W'=>Q .normal (puts e [(46,(e 3)),(47,d'),(48,e'),(49,f'),(50,g'),(53,h'),(54,i'),(55,(e 3)),(56,j'),(57,k'),(4,(ptr (nx+10))),(58,m'),(59,n'),(60,a'),(61,a'),(62,o'),(63,q'),(64,r'),(65,t'),(66,u'),(67,b'),(68,b'),(69,v'),(70,x'),(71,y'),(72,c'),(73,c'),(74,z'),(75,B'),(76,C'),(77,D'),(51,(e 3)),(52,W'),(3,W')]) U' (V'+4))) (Q (.exit 0) (puts e [(46,(e 3)),(47,d'),(48,e'),(49,f'),(50,g')]) h (nx+5))
@[irreducible] def aFX (ro:Ro) (v0:Value) (h:T Obj) (nx:Nat) (K:KV):Prop:=dM h nx (.cells (Value.cells v0) cD) fun h1=>aB (aT 0 (ptr nx)) fun p'=>aB (loadA ro h1 257 p') fun q'=>aO Tryz.prog ro y0 [q'] h1 (nx+5) fun r' h5 n6=>aB (unV .not r') fun c'=>bA c' false h5 (n6+2) (fun k8=>aB (aT 257 (ptr nx)) fun aO'=>k8 aO' h5 (n6+3)) fun s' f' t'=>bA c' false f' t' (fun aP'=>aB (load1 ro f' s') fun aQ'=>aP' aQ' f' (t'+1)) fun u' v' w'=>bA c' false v' w' (fun aR'=>aB (bS u') fun aS'=>aR' aS' v' (w'+1)) fun x' y' z'=>bA c' false y' z' (fun aT'=>aB (aQ .gtr x' (Value.int IntKind.i64 512)) fun aU'=>aT' aU' y' (z'+1)) fun A' B' C'=>aB (cS c' (Value.bool true) A') fun d'=>bA d' false B' (C'+2) (fun aV'=>aB (aT 258 (ptr nx)) fun aW'=>aV' aW' B' (C'+3)) fun D' g' E'=>bA d' false g' E' (fun aX'=>aB (load1 ro g' D') fun aY'=>aX' aY' g' (E'+1)) fun F' G' H'=>bA d' false G' H' (fun aZ'=>aB (bS F') fun a0'=>aZ' a0' G' (H'+1)) fun I' J' K'=>bA d' false J' K' (fun a1'=>aB (aQ .lss I' (Value.int IntKind.i64 1)) fun a2'=>a1' a2' J' (K'+1)) fun L' M' N'=>aB (cS d' (Value.bool true) L') fun e'=>bA e' false M' (N'+2) (fun a3'=>aB (aT 258 (ptr nx)) fun a4'=>a3' a4' M' (N'+3)) fun O' h' P'=>bA e' false h' P' (fun a5'=>aB (load1 ro h' O') fun a6'=>a5' a6' h' (P'+1)) fun Q' R' S'=>bA e' false R' S' (fun a7'=>aB (bS Q') fun a8'=>a7' a8' R' (S'+1)) fun T' U' V'=>bA e' false U' V' (fun a9'=>aB (aQ .gtr T' (Value.int IntKind.i64 256)) fun ba'=>a9' ba' U' (V'+1)) fun W' X' Y'=>aB (cS e' (Value.bool true) W') fun a'=>bA a' false X' (Y'+2) (fun bb'=>aB (aT 258 (ptr nx)) fun bc'=>bb' bc' X' (Y'+3)) fun Z' i' aa'=>bA a' false i' aa' (fun bd'=>aB (load1 ro i' Z') fun be'=>bd' be' i' (aa'+1)) fun ab' ac' ad'=>bA a' false ac' ad' (fun bf'=>aB (cQ 4 ab' (Value.int IntKind.i64 0)) fun bg'=>bf' bg' ac' (ad'+1)) fun ae' af' ag'=>bA a' false af' ag' (fun bh'=>aB (aT 0 ae') fun bi'=>bh' bi' af' (ag'+1)) fun ah' j' ai'=>bA a' false j' ai' (fun bj'=>aB (load1 ro j' ah') fun bk'=>bj' bk' j' (ai'+1)) fun aj' ak' al'=>bA a' false ak' al' (fun bl'=>aB (bS aj') fun bm'=>bl' bm' ak' (al'+1)) fun am' an' ao'=>bA a' false an' ao' (fun bn'=>aB (aQ .gtr am' (Value.int IntKind.i64 0)) fun bo'=>bn' bo' an' (ao'+1)) fun ap' aq' ar'=>aB (cS a' (Value.bool true) ap') fun b'=>bA b' false aq' (ar'+2) (fun bp'=>aB (aT 258 (ptr nx)) fun bq'=>bp' bq' aq' (ar'+3)) fun as' k' at'=>bA b' false k' at' (fun br'=>aB (load1 ro k' as') fun bs'=>br' bs' k' (at'+1)) fun au' av' aw'=>bA b' false av' aw' (fun bt'=>aB (cQ 4 au' (Value.int IntKind.i64 0)) fun bu'=>bt' bu' av' (aw'+1)) fun ax' ay' az'=>bA b' false ay' az' (fun bv'=>aB (aT 1 ax') fun bw'=>bv' bw' ay' (az'+1)) fun aA' l' aB'=>bA b' false l' aB' (fun bx'=>aB (load1 ro l' aA') fun by'=>bx' by' l' (aB'+1)) fun aC' aD' aE'=>bA b' false aD' aE' (fun bz'=>aB (bS aC') fun bA'=>bz' bA' aD' (aE'+1)) fun aF' aG' aH'=>bA b' false aG' aH' (fun bB'=>aB (aQ .gtr aF' (Value.int IntKind.i64 0)) fun bC'=>bB' bC' aG' (aH'+1)) fun aI' aJ' aK'=>aB (cS b' (Value.bool true) aI') fun aL'=>aW aL' (∃ aM',aZ aM' aJ'∧K (Value.bool false) aM' (aK'+2)) (dZ (aBk ro) (puts (fT [v0]) [(1,(ptr nx)),(2,(Value.bool false)),(6,p'),(7,q'),(8,r'),(9,c'),(10,c'),(11,s'),(12,u'),(13,x'),(14,A'),(15,d'),(16,d'),(17,D'),(18,F'),(19,I'),(20,L'),(21,e'),(22,e'),(23,O'),(24,Q'),(25,T'),(26,W'),(27,a'),(28,a'),(29,Z'),(30,ab'),(31,ae'),(32,ah'),(33,aj'),(34,am'),(35,ap'),(36,b'),(37,b'),(38,as'),(39,au'),(40,ax'),(41,aA'),(42,aC'),(43,aF'),(44,aI'),(45,aL'),(3,(Value.int IntKind.i64 0))]) aJ' (aK'+2) fun bD' m' n' o'=>gI bD' (rZ ro K m' n' o') (fun bE'=>dH (Nat.beq bE' 0) (rZ ro K m' n' o') (False)) (∃ aN',aZ aN' n'∧K (m' 2) aN' o'))
theorem aHL {ro:Ro}{v0:Value}{h:T Obj}{nx:Nat}{K:KV} (hw:aFX ro v0 h nx K):aO Tryz.prog ro tR [v0] h nx K:=zzO (fn:=Tryz.f83) hw
@[irreducible] def xB (ro:Ro) (K:KV):dL→T Obj→Nat→Prop:=fun e h nx=>∃ h13,aZ h13 h∧K (e 3) h13 (nx+2)
@[irreducible] def aBi (ro:Ro):PT:=fun e h nx Q=>aB (aQ .lss (e 4) (e 0)) fun a'=>aW a' (aB (aQ .mul (e 3) (Value.int IntKind.i64 3)) fun b'=>aB (aQ .add (e 4) (Value.int IntKind.i64 1)) fun c'=>Q .normal (puts e [(11,(e 4)),(12,(e 0)),(13,a'),(16,(e 3)),(17,b'),(3,b'),(14,(e 4)),(15,c'),(4,c')]) h (nx+9)) (Q (.exit 0) (puts e [(11,(e 4)),(12,(e 0)),(13,a')]) h (nx+3))
@[irreducible] def aFW (ro:Ro) (v0:Value) (h:T Obj) (nx:Nat) (K:KV):Prop:=aB (aQ .lss v0 (Value.int IntKind.i64 0)) fun a'=>bA a' false h (nx+4) (fun k2=>k2 v0 h (nx+5)) fun e' h4 n5=>bA a' false h4 n5 (fun k6=>aB (aQ .gtr e' (Value.int IntKind.i64 3)) fun j'=>k6 j' h4 (n5+1)) fun f' h8 n9=>aB (cS a' (Value.bool true) f') fun g'=>aW g' (∃ h',aZ h' h8∧K (Value.int IntKind.i64 0) h' (n9+2)) (dZ (aBi ro) (puts (fT [v0]) [(2,(Value.int IntKind.i64 0)),(5,v0),(6,a'),(7,a'),(8,e'),(9,f'),(10,g'),(3,(Value.int IntKind.i64 1)),(4,(Value.int IntKind.i64 0))]) h8 (n9+3) fun k' b' c' d'=>gI k' (xB ro K b' c' d') (fun l'=>dH (Nat.beq l' 0) (xB ro K b' c' d') (False)) (∃ i',aZ i' c'∧K (b' 2) i' d'))
theorem aHK {ro:Ro}{v0:Value}{h:T Obj}{nx:Nat}{K:KV} (hw:aFW ro v0 h nx K):aO Tryz.prog ro y7 [v0] h nx K:=zzO (fn:=Tryz.f102) hw
@[irreducible] def fV (ro:Ro) (K:KV):dL→T Obj→Nat→Prop:=fun e h nx=>∃ h1,aZ h1 h∧K (Value.int IntKind.i64 (-1)) h1 (nx+1)
@[irreducible] def iV (ro:Ro):PT:=fun e h nx Q=>aB (aQ .lss (e 8) (e 7)) fun a'=>aW a' (aB (cQ 260 (e 0) (e 8)) fun b'=>aB (loadA ro h 260 b') fun c'=>aBK (aO Tryz.prog ro) (e 1) [c'] h (nx+9) fun d' h7 n8=>aW d' (Q .ret (puts e [(9,a'),(10,(e 8)),(5,(e 8)),(11,(e 1)),(12,(e 0)),(13,(e 8)),(14,b'),(15,c'),(16,d'),(17,(e 8)),(4,(e 8))]) h7 (n8+2)) (aB (aQ .add (e 8) (Value.int IntKind.i64 1)) fun e'=>Q .normal (puts e [(9,a'),(10,(e 8)),(5,(e 8)),(11,(e 1)),(12,(e 0)),(13,(e 8)),(14,b'),(15,c'),(16,d'),(18,e'),(8,e')]) h7 (n8+2))) (Q (.exit 0) (puts e [(9,a')]) h (nx+1))
@[irreducible] def jO (ro:Ro) (v0 v1:Value) (h:T Obj) (nx:Nat) (K:KV):Prop:=aB (bS v0) fun e'=>dZ (iV ro) (puts (fT [v0,v1]) [(4,(Value.int IntKind.i64 0)),(6,v0),(7,e'),(8,(Value.int IntKind.i64 0))]) h (nx+4) fun f' a' b' c'=>gI f' (fV ro K a' b' c') (fun g'=>dH (Nat.beq g' 0) (fV ro K a' b' c') (False)) (∃ d',aZ d' b'∧K (a' 4) d' c')
theorem oE {ro:Ro}{v0 v1:Value}{h:T Obj}{nx:Nat}{K:KV} (hw:jO ro v0 v1 h nx K):aO Tryz.prog ro gA [v0,v1] h nx K:=zzO (fn:=Tryz.f111) hw
@[irreducible] def iU (ro:Ro) (v0 v1:Value) (h:T Obj) (nx:Nat) (K:KV):Prop:=aO Tryz.prog ro gB [v0,v1] h (nx+4) fun a' h2 n3=>aB (aQ .geq a' (Value.int IntKind.i64 0)) fun b'=>∃ h5,aZ h5 h2∧K b' h5 (n3+2)
theorem nB {ro:Ro}{v0 v1:Value}{h:T Obj}{nx:Nat}{K:KV} (hw:iU ro v0 v1 h nx K):aO Tryz.prog ro eP [v0,v1] h nx K:=zzO (fn:=Tryz.f112) hw
@[irreducible] def kS (ro:Ro) (K:KV):dL→T Obj→Nat→Prop:=fun e h nx=>∃ h3,aZ h3 h∧K (e 3) h3 (nx+2)
@[irreducible] def tD (ro:Ro):PT:=fun e h nx Q=>aB (bS (e 0)) fun a'=>aB (aQ .lss (e 4) a') fun b'=>aW b' (aB (cQ 1 (e 0) (e 4)) fun c'=>aB (load1 ro h c') fun d'=>aB (fZ Tryz.prog h .max #[dY,dY] [(e 3),d']) fun e'=>aB (aQ .add (e 4) (Value.int IntKind.i64 1)) fun f'=>Q .normal (puts e [(12,(e 4)),(13,(e 0)),(14,a'),(15,b'),(18,(e 3)),(19,(e 0)),(20,(e 4)),(21,c'),(22,d'),(23,e'),(3,e'),(16,(e 4)),(17,f'),(4,f')]) h (nx+14)) (Q (.exit 0) (puts e [(12,(e 4)),(13,(e 0)),(14,a'),(15,b')]) h (nx+4))
@[irreducible] def nZ (ro:Ro) (K:KV):dL→T Obj→Nat→Prop:=fun e h nx=>aB (cQ 1 (e 0) (Value.int IntKind.i64 0)) fun d'=>aB (load1 ro h d') fun e'=>dZ (tD ro) (puts e [(9,(e 0)),(10,d'),(11,e'),(3,e'),(4,(Value.int IntKind.i64 1))]) h (nx+5) fun g' a' b' c'=>gI g' (kS ro K a' b' c') (fun h'=>dH (Nat.beq h' 0) (kS ro K a' b' c') (False)) (∃ f',aZ f' b'∧K (a' 2) f' c')
@[irreducible] def xS (ro:Ro) (v0:Value) (h:T Obj) (nx:Nat) (K:KV):Prop:=aB (bS v0) fun a'=>aB (aQ .lss a' (Value.int IntKind.i64 1)) fun b'=>aW b' (False) (nZ ro K (puts (fT [v0]) [(2,(Value.int IntKind.i64 0)),(5,v0),(6,a'),(7,b')]) h (nx+4))
theorem aBF {ro:Ro}{v0:Value}{h:T Obj}{nx:Nat}{K:KV} (hw:xS ro v0 h nx K):aO Tryz.prog ro o5 [v0] h nx K:=zzO (fn:=Tryz.f114) hw
@[irreducible] def xT (ro:Ro) (K:KV):dL→T Obj→Nat→Prop:=fun e h nx=>aB (aT 256 (e 1)) fun a'=>aB (load1 ro h a') fun b'=>aB (aQ .eql (e 3) b') fun c'=>∃ h5,aZ h5 h∧K c' h5 (nx+5)
@[irreducible] def sM (ro:Ro) (Q:KE):dL→T Obj→Nat→Prop:=fun e h nx=>aB (aQ .add (e 8) (Value.int IntKind.i64 1)) fun a'=>Q .normal (puts e [(23,a'),(8,a')]) h (nx+2)
@[irreducible] def aCE (ro:Ro):PT:=fun e h nx Q=>aB (aQ .lss (e 8) (Value.int IntKind.i64 256)) fun c'=>aW c' (aB (aR7 256 1 (e 7) (e 8)) fun a'=>aB (zP .i64 a') fun e'=>aB (aQ .gtr e' (e 3)) fun b'=>aW b' (Q .ret (puts e [(9,c'),(10,a'),(5,a'),(12,a'),(13,e'),(14,(e 3)),(15,b'),(11,b'),(2,(Value.bool false))]) h (nx+9)) (aB (zP .i64 a') fun f'=>aB (aQ .eql f' (e 3)) fun d'=>aW d' (aB (aQ .add (e 3) (Value.int IntKind.i64 1)) fun g'=>sM ro Q (puts e [(9,c'),(10,a'),(5,a'),(12,a'),(13,e'),(14,(e 3)),(15,b'),(11,b'),(17,a'),(18,f'),(19,(e 3)),(20,d'),(16,d'),(21,(e 3)),(22,g'),(3,g')]) h (nx+16)) (sM ro Q (puts e [(9,c'),(10,a'),(5,a'),(12,a'),(13,e'),(14,(e 3)),(15,b'),(11,b'),(17,a'),(18,f'),(19,(e 3)),(20,d'),(16,d')]) h (nx+13)))) (Q (.exit 0) (puts e [(9,c')]) h (nx+1))
@[irreducible] def aF5 (ro:Ro) (v0:Value) (h:T Obj) (nx:Nat) (K:KV):Prop:=dM h nx (.cells (Value.cells v0) eM) fun h1=>aB (aT 0 (ptr nx)) fun d'=>aB (loadA ro h1 256 d') fun f'=>dZ (aCE ro) (puts (fT [v0]) [(1,(ptr nx)),(2,(Value.bool false)),(3,(Value.int IntKind.i64 0)),(6,d'),(7,f'),(8,(Value.int IntKind.i64 0))]) h1 (nx+6) fun g' a' b' c'=>gI g' (xT ro K a' b' c') (fun h'=>dH (Nat.beq h' 0) (xT ro K a' b' c') (False)) (∃ e',aZ e' b'∧K (a' 2) e' c')
theorem aH1 {ro:Ro}{v0:Value}{h:T Obj}{nx:Nat}{K:KV} (hw:aF5 ro v0 h nx K):aO Tryz.prog ro zA [v0] h nx K:=zzO (fn:=Tryz.f115) hw
@[irreducible] def aDb (ro:Ro) (v0 v1:Value) (h:T Obj) (nx:Nat) (K:KV):Prop:=dM h nx (.cells (Value.cells v0) bG) fun h1=>aB (loadA ro h1 259 v1) fun a'=>aB (loadA ro h1 4 (ptr nx)) fun b'=>aO Tryz.prog ro oR [a',b'] h1 (nx+5) fun c' h5 n6=>aB (unV .not c') fun d'=>∃ h8,aZ h8 h5∧K d' h8 (n6+2)
theorem aFa {ro:Ro}{v0 v1:Value}{h:T Obj}{nx:Nat}{K:KV} (hw:aDb ro v0 v1 h nx K):aO Tryz.prog ro wQ [v0,v1] h nx K:=zzO (fn:=Tryz.f116) hw
@[irreducible] def nR (ro:Ro) (K:KV):dL→T Obj→Nat→Prop:=fun e h nx=>∃ h127,aZ h127 h∧K (Value.bool true) h127 (nx+1)
@[irreducible] def sS (ro:Ro):PT:=fun e h nx Q=>aB (aQ .lss (e 47) (e 46)) fun d'=>aW d' (aB (cQ 1 (e 45) (e 47)) fun e'=>aB (load1 ro h e') fun c'=>aB (aT 2 (e 3)) fun f'=>aB (load1 ro h f') fun g'=>aB (cQ 1 g' (e 47)) fun h'=>aB (load1 ro h h') fun i'=>aB (aQ .lss i' (Value.int IntKind.i64 (-1))) fun b'=>bA b' false h (nx+13) (fun ab'=>aB (aT 2 (e 3)) fun ac'=>ab' ac' h (nx+14)) fun j' x' B'=>bA b' false x' B' (fun ad'=>aB (load1 ro x' j') fun ae'=>ad' ae' x' (B'+1)) fun k' C' D'=>bA b' false C' D' (fun af'=>af' (e 47) C' (D'+1)) fun l' E' F'=>bA b' false E' F' (fun ag'=>aB (cQ 1 k' l') fun ah'=>ag' ah' E' (F'+1)) fun m' y' G'=>bA b' false y' G' (fun ai'=>aB (load1 ro y' m') fun aj'=>ai' aj' y' (G'+1)) fun n' H' I'=>bA b' false H' I' (fun ak'=>aB (aQ .geq n' (Value.int IntKind.i64 512)) fun al'=>ak' al' H' (I'+1)) fun o' J' K'=>aB (cS b' (Value.bool true) o') fun a'=>bA a' false J' (K'+2) (fun am'=>am' c' J' (K'+3)) fun p' L' M'=>bA a' false L' M' (fun an'=>aB (bS p') fun ao'=>an' ao' L' (M'+1)) fun q' N' O'=>bA a' false N' O' (fun ap'=>aB (aT 0 (e 2)) fun aq'=>ap' aq' N' (O'+1)) fun r' P' Q'=>bA a' false P' Q' (fun ar'=>aB (aT 0 r') fun as'=>ar' as' P' (Q'+1)) fun s' R' S'=>bA a' false R' S' (fun at'=>aB (aT 256 s') fun au'=>at' au' R' (S'+1)) fun t' z' T'=>bA a' false z' T' (fun av'=>aB (load1 ro z' t') fun aw'=>av' aw' z' (T'+1)) fun u' U' V'=>bA a' false U' V' (fun ax'=>aB (aQ .neq q' u') fun ay'=>ax' ay' U' (V'+1)) fun v' W' X'=>aB (cS a' (Value.bool true) v') fun w'=>aW w' (Q .ret (puts e [(48,d'),(49,(e 47)),(50,e'),(51,c'),(6,(e 47)),(7,c'),(52,f'),(53,g'),(54,(e 47)),(55,h'),(56,i'),(57,b'),(58,b'),(59,j'),(60,k'),(61,l'),(62,m'),(63,n'),(64,o'),(65,a'),(66,a'),(67,p'),(68,q'),(69,r'),(70,s'),(71,t'),(72,u'),(73,v'),(74,w'),(4,(Value.bool false))]) W' (X'+2)) (aO Tryz.prog ro fU [c',(.func (.func gW) #[] #[(e 2),(e 3)])] W' (X'+4) fun A' Y' Z'=>aW A' (Q .ret (puts e [(48,d'),(49,(e 47)),(50,e'),(51,c'),(6,(e 47)),(7,c'),(52,f'),(53,g'),(54,(e 47)),(55,h'),(56,i'),(57,b'),(58,b'),(59,j'),(60,k'),(61,l'),(62,m'),(63,n'),(64,o'),(65,a'),(66,a'),(67,p'),(68,q'),(69,r'),(70,s'),(71,t'),(72,u'),(73,v'),(74,w'),(75,c'),(76,(.func (.func gW) #[] #[(e 2),(e 3)])),(77,A'),(4,(Value.bool false))]) Y' (Z'+1)) (aB (aQ .add (e 47) (Value.int IntKind.i64 1)) fun aa'=>Q .normal (puts e [(48,d'),(49,(e 47)),(50,e'),(51,c'),(6,(e 47)),(7,c'),(52,f'),(53,g'),(54,(e 47)),(55,h'),(56,i'),(57,b'),(58,b'),(59,j'),(60,k'),(61,l'),(62,m'),(63,n'),(64,o'),(65,a'),(66,a'),(67,p'),(68,q'),(69,r'),(70,s'),(71,t'),(72,u'),(73,v'),(74,w'),(75,c'),(76,(.func (.func gW) #[] #[(e 2),(e 3)])),(77,A'),(78,aa'),(47,aa')]) Y' (Z'+2)))) (Q (.exit 0) (puts e [(48,d')]) h (nx+1))
@[irreducible] def wG (ro:Ro) (v0 v1:Value) (h:T Obj) (nx:Nat) (K:KV):Prop:=dM h nx (.cells (Value.cells v0) eX) fun h1=>dM h1 (nx+1) (.cells (Value.cells v1) bG) fun h2=>aB (aT 1 (ptr (nx+1))) fun o'=>aB (load1 ro h2 o') fun p'=>aB (bS p') fun q'=>aO Tryz.prog ro aAO [q'] h2 (nx+7) fun e' h7 n8=>aB (aQ .eql e' (Value.int IntKind.i64 0)) fun b'=>bA b' false h7 (n8+4) (fun aE'=>aB (aT 2 (ptr (nx+1))) fun aF'=>aE' aF' h7 (n8+5)) fun r' f' s'=>bA b' false f' s' (fun aG'=>aB (load1 ro f' r') fun aH'=>aG' aH' f' (s'+1)) fun t' u' v'=>bA b' false u' v' (fun aI'=>aB (bS t') fun aJ'=>aI' aJ' u' (v'+1)) fun w' x' y'=>bA b' false x' y' (fun aK'=>aK' e' x' (y'+1)) fun z' A' B'=>bA b' false A' B' (fun aL'=>aB (aQ .neq w' z') fun aM'=>aL' aM' A' (B'+1)) fun C' D' E'=>aB (cS b' (Value.bool true) C') fun c'=>bA c' false D' (E'+2) (fun aN'=>aB (aT 3 (ptr (nx+1))) fun aO'=>aN' aO' D' (E'+3)) fun F' g' G'=>bA c' false g' G' (fun aP'=>aB (load1 ro g' F') fun aQ'=>aP' aQ' g' (G'+1)) fun H' I' J'=>bA c' false I' J' (fun aR'=>aB (bS H') fun aS'=>aR' aS' I' (J'+1)) fun K' L' M'=>bA c' false L' M' (fun aT'=>aT' e' L' (M'+1)) fun N' O' P'=>bA c' false O' P' (fun aU'=>aB (aQ .neq K' N') fun aV'=>aU' aV' O' (P'+1)) fun Q' R' S'=>aB (cS c' (Value.bool true) Q') fun d'=>bA d' false R' (S'+2) (fun aW'=>aB (aT 0 (ptr (nx+1))) fun aX'=>aW' aX' R' (S'+3)) fun T' h' U'=>bA d' false h' U' (fun aY'=>aB (load1 ro h' T') fun aZ'=>aY' aZ' h' (U'+1)) fun V' W' X'=>bA d' false W' X' (fun a0'=>aO Tryz.prog ro vJ [V',(Value.int IntKind.i64 512)] W' (X'+1) fun a1' a2' a3'=>a0' a1' a2' a3') fun Y' Z' aa'=>bA d' false Z' aa' (fun a4'=>aB (unV .not Y') fun a5'=>a4' a5' Z' (aa'+1)) fun ab' ac' ad'=>aB (cS d' (Value.bool true) ab') fun a'=>bA a' false ac' (ad'+2) (fun a6'=>aB (aT 1 (ptr (nx+1))) fun a7'=>a6' a7' ac' (ad'+3)) fun ae' i' af'=>bA a' false i' af' (fun a8'=>aB (load1 ro i' ae') fun a9'=>a8' a9' i' (af'+1)) fun ag' ah' ai'=>bA a' false ah' ai' (fun ba'=>aB (aT 0 (ptr nx)) fun bb'=>ba' bb' ah' (ai'+1)) fun aj' ak' al'=>bA a' false ak' al' (fun bc'=>aB (aT 257 aj') fun bd'=>bc' bd' ak' (al'+1)) fun am' j' an'=>bA a' false j' an' (fun be'=>aB (load1 ro j' am') fun bf'=>be' bf' j' (an'+1)) fun ao' ap' aq'=>bA a' false ap' aq' (fun bg'=>aB (bS ao') fun bh'=>bg' bh' ap' (aq'+1)) fun ar' as' at'=>bA a' false as' at' (fun bi'=>aO Tryz.prog ro vJ [ag',ar'] as' (at'+1) fun bj' bk' bl'=>bi' bj' bk' bl') fun au' av' aw'=>bA a' false av' aw' (fun bm'=>aB (unV .not au') fun bn'=>bm' bn' av' (aw'+1)) fun ax' k' ay'=>aB (cS a' (Value.bool true) ax') fun az'=>aW az' (∃ aA',aZ aA' k'∧K (Value.bool false) aA' (ay'+2)) (aB (aT 3 (ptr (nx+1))) fun aB'=>aB (load1 ro k' aB') fun aC'=>aB (bS aC') fun bo'=>dZ (sS ro) (puts (fT [v0,v1]) [(2,(ptr nx)),(3,(ptr (nx+1))),(4,(Value.bool false)),(8,o'),(9,p'),(10,q'),(11,e'),(5,e'),(12,e'),(13,b'),(14,b'),(15,r'),(16,t'),(17,w'),(18,z'),(19,C'),(20,c'),(21,c'),(22,F'),(23,H'),(24,K'),(25,N'),(26,Q'),(27,d'),(28,d'),(29,T'),(30,V'),(31,Y'),(32,ab'),(33,a'),(34,a'),(35,ae'),(36,ag'),(37,aj'),(38,am'),(39,ao'),(40,ar'),(41,au'),(42,ax'),(43,az'),(44,aB'),(45,aC'),(46,bo'),(47,(Value.int IntKind.i64 0))]) k' (ay'+5) fun bp' l' m' n'=>gI bp' (nR ro K l' m' n') (fun bq'=>dH (Nat.beq bq' 0) (nR ro K l' m' n') (False)) (∃ aD',aZ aD' m'∧K (l' 4) aD' n'))
theorem aAq {ro:Ro}{v0 v1:Value}{h:T Obj}{nx:Nat}{K:KV} (hw:wG ro v0 v1 h nx K):aO Tryz.prog ro oR [v0,v1] h nx K:=zzO (fn:=Tryz.f117) hw
@[irreducible] def qB (ro:Ro) (v0:Value) (h:T Obj) (nx:Nat) (K:KV):Prop:=aB (slB .eql v0 (Value.slice none 0 0)) fun a'=>aW a' (∃ h2,aZ h2 h∧K (Value.slice none 0 0) h2 (nx+4)) (aB (b7 Tryz.prog pE (nx+3) 0 []) fun r3=>eR h (nx+3) r3.2 fun h4=>aB (cZ Tryz.prog ro h4 (nx+6) #[pE,pE] [r3.1,v0]) fun r5=>∃ h6,aZ h6 r5.2.1∧K r5.1 h6 (r5.2.2+1))
theorem vU {ro:Ro}{v0:Value}{h:T Obj}{nx:Nat}{K:KV} (hw:qB ro v0 h nx K):aO Tryz.prog ro j8 [v0] h nx K:=zzO (fn:=Tryz.f118) hw
@[irreducible] def mL (ro:Ro) (v0:Value) (h:T Obj) (nx:Nat) (K:KV):Prop:=aB (slB .eql v0 (Value.slice none 0 0)) fun a'=>aW a' (∃ h2,aZ h2 h∧K (Value.slice none 0 0) h2 (nx+4)) (aB (b7 Tryz.prog fN (nx+3) 0 []) fun r3=>eR h (nx+3) r3.2 fun h4=>aB (cZ Tryz.prog ro h4 (nx+6) #[fN,fN] [r3.1,v0]) fun r5=>∃ h6,aZ h6 r5.2.1∧K r5.1 h6 (r5.2.2+1))
theorem rG {ro:Ro}{v0:Value}{h:T Obj}{nx:Nat}{K:KV} (hw:mL ro v0 h nx K):aO Tryz.prog ro gY [v0] h nx K:=zzO (fn:=Tryz.f119) hw
@[irreducible] def qC (ro:Ro) (v0:Value) (h:T Obj) (nx:Nat) (K:KV):Prop:=aB (slB .eql v0 (Value.slice none 0 0)) fun a'=>aW a' (∃ h2,aZ h2 h∧K (Value.slice none 0 0) h2 (nx+4)) (aB (b7 Tryz.prog bO (nx+3) 0 []) fun r3=>eR h (nx+3) r3.2 fun h4=>aB (cZ Tryz.prog ro h4 (nx+6) #[bO,bO] [r3.1,v0]) fun r5=>∃ h6,aZ h6 r5.2.1∧K r5.1 h6 (r5.2.2+1))
theorem vV {ro:Ro}{v0:Value}{h:T Obj}{nx:Nat}{K:KV} (hw:qC ro v0 h nx K):aO Tryz.prog ro j9 [v0] h nx K:=zzO (fn:=Tryz.f120) hw
@[irreducible] def w8 (ro:Ro) (K:KV):dL→T Obj→Nat→Prop:=fun e h nx=>aB (aT 256 (e 1)) fun a'=>aB (load1 ro h a') fun b'=>aB (aQ .eql (e 3) b') fun c'=>∃ h5,aZ h5 h∧K c' h5 (nx+5)
@[irreducible] def rX (ro:Ro) (Q:KE):dL→T Obj→Nat→Prop:=fun e h nx=>aB (aQ .add (e 4) (Value.int IntKind.i64 1)) fun a'=>Q .normal (puts e [(7,(e 4)),(8,a'),(4,a')]) h (nx+3)
@[irreducible] def aBf (ro:Ro):PT:=fun e h nx Q=>aB (aQ .lss (e 4) (Value.int IntKind.i64 256)) fun a'=>aW a' (aB (aT 0 (e 1)) fun b'=>aB (ixArr 256 1 b' (e 4)) fun c'=>aB (load1 ro h c') fun d'=>aB (zP .i64 d') fun e'=>aB (aQ .gtr e' (e 3)) fun f'=>aW f' (Q .ret (puts e [(5,(e 4)),(6,a'),(9,(e 4)),(10,b'),(11,c'),(12,d'),(13,e'),(14,(e 3)),(15,f'),(2,(Value.bool false))]) h (nx+10)) (aB (aT 0 (e 1)) fun g'=>aB (ixArr 256 1 g' (e 4)) fun h'=>aB (load1 ro h h') fun i'=>aB (zP .i64 i') fun j'=>aB (aQ .eql j' (e 3)) fun k'=>aW k' (aB (aQ .add (e 3) (Value.int IntKind.i64 1)) fun l'=>rX ro Q (puts e [(5,(e 4)),(6,a'),(9,(e 4)),(10,b'),(11,c'),(12,d'),(13,e'),(14,(e 3)),(15,f'),(16,(e 4)),(17,g'),(18,h'),(19,i'),(20,j'),(21,(e 3)),(22,k'),(23,(e 3)),(24,l'),(3,l')]) h (nx+19)) (rX ro Q (puts e [(5,(e 4)),(6,a'),(9,(e 4)),(10,b'),(11,c'),(12,d'),(13,e'),(14,(e 3)),(15,f'),(16,(e 4)),(17,g'),(18,h'),(19,i'),(20,j'),(21,(e 3)),(22,k')]) h (nx+16)))) (Q (.exit 0) (puts e [(5,(e 4)),(6,a')]) h (nx+2))
@[irreducible] def aFU (ro:Ro) (v0:Value) (h:T Obj) (nx:Nat) (K:KV):Prop:=dM h nx (.cells (Value.cells v0) eM) fun h1=>dZ (aBf ro) (puts (fT [v0]) [(1,(ptr nx)),(2,(Value.bool false)),(3,(Value.int IntKind.i64 0)),(4,(Value.int IntKind.i64 0))]) h1 (nx+4) fun x22 e19 h20 n21=>gI x22 (w8 ro K e19 h20 n21) (fun i23=>dH (Nat.beq i23 0) (w8 ro K e19 h20 n21) (False)) (∃ h24,aZ h24 h20∧K (e19 2) h24 n21)
theorem aHG {ro:Ro}{v0:Value}{h:T Obj}{nx:Nat}{K:KV} (hw:aFU ro v0 h nx K):aO Tryz.prog ro y0 [v0] h nx K:=zzO (fn:=Tryz.f126) hw
@[irreducible] def xF (ro:Ro) (K:KV):dL→T Obj→Nat→Prop:=fun e h nx=>∃ h122,aZ h122 h∧K (Value.bool true) h122 (nx+1)
@[irreducible] def o8 (ro:Ro) (Q:KE):dL→T Obj→Nat→Prop:=fun e h nx=>aB (aQ .add (e 6) (Value.int IntKind.i64 1)) fun a'=>Q .normal (puts e [(46,(e 6)),(47,a'),(6,a')]) h (nx+3)
@[irreducible] def aBo (ro:Ro):PT:=fun e h nx Q=>aB (aT 3 (e 3)) fun a'=>aB (load1 ro h a') fun b'=>aB (cQ 1 b' (e 6)) fun c'=>aB (load1 ro h c') fun d'=>aB (bS d') fun e'=>aB (aQ .lss (e 7) e') fun f'=>aW f' (aB (loadA ro h 259 (e 2)) fun g'=>aB (loadA ro h 4 (e 3)) fun h'=>aB (aT 3 (e 3)) fun i'=>aB (load1 ro h i') fun j'=>aB (cQ 1 j' (e 6)) fun k'=>aB (load1 ro h k') fun l'=>aB (cQ 2 l' (e 7)) fun m'=>aB (loadA ro h 2 m') fun n'=>aO Tryz.prog ro aAS [g',h',n'] h (nx+20) fun o' q' r'=>aB (unV .not o') fun p'=>aW p' (Q .ret (puts e [(74,(e 7)),(75,a'),(76,b'),(77,(e 6)),(78,c'),(79,d'),(80,e'),(81,f'),(84,g'),(85,h'),(86,i'),(87,j'),(88,(e 6)),(89,k'),(90,l'),(91,(e 7)),(92,m'),(93,n'),(94,o'),(95,p'),(4,(Value.bool false))]) q' (r'+1)) (aB (aQ .add (e 7) (Value.int IntKind.i64 1)) fun s'=>Q .normal (puts e [(74,(e 7)),(75,a'),(76,b'),(77,(e 6)),(78,c'),(79,d'),(80,e'),(81,f'),(84,g'),(85,h'),(86,i'),(87,j'),(88,(e 6)),(89,k'),(90,l'),(91,(e 7)),(92,m'),(93,n'),(94,o'),(95,p'),(82,(e 7)),(83,s'),(7,s')]) q' (r'+3))) (Q (.exit 2) (puts e [(74,(e 7)),(75,a'),(76,b'),(77,(e 6)),(78,c'),(79,d'),(80,e'),(81,f')]) h (nx+8))
@[irreducible] def aBn (ro:Ro):PT:=fun e h nx Q=>aB (aQ .lss (e 6) (e 5)) fun f'=>aW f' (aB (aT 2 (e 3)) fun g'=>aB (load1 ro h g') fun h'=>aB (cQ 1 h' (e 6)) fun i'=>aB (load1 ro h i') fun j'=>aB (aQ .lss j' (Value.int IntKind.i64 (-1))) fun b'=>bA b' false h (nx+29) (fun ai'=>aB (aT 2 (e 3)) fun aj'=>ai' aj' h (nx+29)) fun k' l' H'=>bA b' false l' H' (fun ak'=>aB (load1 ro l' k') fun al'=>ak' al' l' H') fun m' I' J'=>bA b' false I' J' (fun am'=>am' (e 6) I' J') fun n' K' L'=>bA b' false K' L' (fun an'=>aB (cQ 1 m' n') fun ao'=>an' ao' K' L') fun o' p' M'=>bA b' false p' M' (fun ap'=>aB (load1 ro p' o') fun aq'=>ap' aq' p' M') fun q' N' O'=>bA b' false N' O' (fun ar'=>aB (aQ .geq q' (Value.int IntKind.i64 512)) fun as'=>ar' as' N' O') fun r' P' Q'=>aB (cS b' (Value.bool true) r') fun a'=>bA a' false P' Q' (fun at'=>aB (aT 3 (e 3)) fun au'=>at' au' P' Q') fun s' t' R'=>bA a' false t' R' (fun av'=>aB (load1 ro t' s') fun aw'=>av' aw' t' R') fun u' S' T'=>bA a' false S' T' (fun ax'=>ax' (e 6) S' T') fun v' U' V'=>bA a' false U' V' (fun ay'=>aB (cQ 1 u' v') fun az'=>ay' az' U' V') fun w' x' W'=>bA a' false x' W' (fun aA'=>aB (load1 ro x' w') fun aB'=>aA' aB' x' W') fun y' X' Y'=>bA a' false X' Y' (fun aC'=>aB (bS y') fun aD'=>aC' aD' X' Y') fun z' Z' aa'=>bA a' false Z' aa' (fun aE'=>aB (aT 0 (e 2)) fun aF'=>aE' aF' Z' aa') fun A' ab' ac'=>bA a' false ab' ac' (fun aG'=>aB (aT 256 A') fun aH'=>aG' aH' ab' ac') fun B' C' ad'=>bA a' false C' ad' (fun aI'=>aB (load1 ro C' B') fun aJ'=>aI' aJ' C' ad') fun D' ae' af'=>bA a' false ae' af' (fun aK'=>aB (aQ .neq z' D') fun aL'=>aK' aL' ae' af') fun E' ag' ah'=>aB (cS a' (Value.bool true) E') fun F'=>aW F' (Q .ret (puts e [(43,(e 6)),(44,(e 5)),(45,f'),(48,g'),(49,h'),(50,(e 6)),(51,i'),(52,j'),(53,b'),(54,b'),(55,k'),(56,m'),(57,n'),(58,o'),(59,q'),(60,r'),(61,a'),(62,a'),(63,s'),(64,u'),(65,v'),(66,w'),(67,y'),(68,z'),(69,A'),(70,B'),(71,D'),(72,E'),(73,F'),(4,(Value.bool false))]) ag' (ah'+1)) (dZ (aBo ro) (puts e [(43,(e 6)),(44,(e 5)),(45,f'),(48,g'),(49,h'),(50,(e 6)),(51,i'),(52,j'),(53,b'),(54,b'),(55,k'),(56,m'),(57,n'),(58,o'),(59,q'),(60,r'),(61,a'),(62,a'),(63,s'),(64,u'),(65,v'),(66,w'),(67,y'),(68,z'),(69,A'),(70,B'),(71,D'),(72,E'),(73,F'),(7,(Value.int IntKind.i64 0))]) ag' (ah'+1) fun aM' c' d' e'=>gI aM' (o8 ro Q c' d' e') (fun G'=>dH (Nat.beq G' 2) (o8 ro Q c' d' e') (dH (Nat.beq G' 1) (o8 ro Q c' d' e') (Q (.exit G') c' d' e'))) (Q .ret c' d' e'))) (Q (.exit 0) (puts e [(43,(e 6)),(44,(e 5)),(45,f')]) h (nx+3))
@[irreducible] def aF0 (ro:Ro) (v0 v1:Value) (h:T Obj) (nx:Nat) (K:KV):Prop:=dM h nx (.cells (Value.cells v0) cD) fun h1=>dM h1 (nx+1) (.cells (Value.cells v1) bG) fun h2=>aB (aT 1 (ptr (nx+1))) fun n'=>aB (load1 ro h2 n') fun o'=>aB (bS o') fun p'=>aO Tryz.prog ro y7 [p'] h2 (nx+7) fun e' h7 n8=>aB (aQ .eql e' (Value.int IntKind.i64 0)) fun d'=>bA d' false h7 (n8+4) (fun az'=>aB (aT 0 (ptr (nx+1))) fun aA'=>az' aA' h7 (n8+5)) fun q' f' r'=>bA d' false f' r' (fun aB'=>aB (load1 ro f' q') fun aC'=>aB' aC' f' (r'+1)) fun s' t' u'=>bA d' false t' u' (fun aD'=>aO Tryz.prog ro tS [s',(Value.int IntKind.i64 512)] t' (u'+1) fun aE' aF' aG'=>aD' aE' aF' aG') fun v' w' x'=>bA d' false w' x' (fun aH'=>aB (unV .not v') fun aI'=>aH' aI' w' (x'+1)) fun y' z' A'=>aB (cS d' (Value.bool true) y') fun a'=>bA a' false z' (A'+2) (fun aJ'=>aB (aT 1 (ptr (nx+1))) fun aK'=>aJ' aK' z' (A'+3)) fun B' g' C'=>bA a' false g' C' (fun aL'=>aB (load1 ro g' B') fun aM'=>aL' aM' g' (C'+1)) fun D' E' F'=>bA a' false E' F' (fun aN'=>aB (aT 257 (ptr nx)) fun aO'=>aN' aO' E' (F'+1)) fun G' h' H'=>bA a' false h' H' (fun aP'=>aB (load1 ro h' G') fun aQ'=>aP' aQ' h' (H'+1)) fun I' J' K'=>bA a' false J' K' (fun aR'=>aB (bS I') fun aS'=>aR' aS' J' (K'+1)) fun L' M' N'=>bA a' false M' N' (fun aT'=>aO Tryz.prog ro tS [D',L'] M' (N'+1) fun aU' aV' aW'=>aT' aU' aV' aW') fun O' P' Q'=>bA a' false P' Q' (fun aX'=>aB (unV .not O') fun aY'=>aX' aY' P' (Q'+1)) fun R' S' T'=>aB (cS a' (Value.bool true) R') fun b'=>bA b' false S' (T'+2) (fun aZ'=>aB (aT 2 (ptr (nx+1))) fun a0'=>aZ' a0' S' (T'+3)) fun U' i' V'=>bA b' false i' V' (fun a1'=>aB (load1 ro i' U') fun a2'=>a1' a2' i' (V'+1)) fun W' X' Y'=>bA b' false X' Y' (fun a3'=>aB (bS W') fun a4'=>a3' a4' X' (Y'+1)) fun Z' aa' ab'=>bA b' false aa' ab' (fun a5'=>a5' e' aa' (ab'+1)) fun ac' ad' ae'=>bA b' false ad' ae' (fun a6'=>aB (aQ .neq Z' ac') fun a7'=>a6' a7' ad' (ae'+1)) fun af' ag' ah'=>aB (cS b' (Value.bool true) af') fun c'=>bA c' false ag' (ah'+2) (fun a8'=>aB (aT 3 (ptr (nx+1))) fun a9'=>a8' a9' ag' (ah'+3)) fun ai' j' aj'=>bA c' false j' aj' (fun ba'=>aB (load1 ro j' ai') fun bb'=>ba' bb' j' (aj'+1)) fun ak' al' am'=>bA c' false al' am' (fun bc'=>aB (bS ak') fun bd'=>bc' bd' al' (am'+1)) fun an' ao' ap'=>bA c' false ao' ap' (fun be'=>be' e' ao' (ap'+1)) fun aq' ar' as'=>bA c' false ar' as' (fun bf'=>aB (aQ .neq an' aq') fun bg'=>bf' bg' ar' (as'+1)) fun at' au' av'=>aB (cS c' (Value.bool true) at') fun aw'=>aW aw' (∃ ax',aZ ax' au'∧K (Value.bool false) ax' (av'+2)) (dZ (aBn ro) (puts (fT [v0,v1]) [(2,(ptr nx)),(3,(ptr (nx+1))),(4,(Value.bool false)),(8,n'),(9,o'),(10,p'),(11,e'),(5,e'),(12,e'),(13,d'),(14,d'),(15,q'),(16,s'),(17,v'),(18,y'),(19,a'),(20,a'),(21,B'),(22,D'),(23,G'),(24,I'),(25,L'),(26,O'),(27,R'),(28,b'),(29,b'),(30,U'),(31,W'),(32,Z'),(33,ac'),(34,af'),(35,c'),(36,c'),(37,ai'),(38,ak'),(39,an'),(40,aq'),(41,at'),(42,aw'),(6,(Value.int IntKind.i64 0))]) au' (av'+2) fun bh' k' l' m'=>gI bh' (xF ro K k' l' m') (fun bi'=>dH (Nat.beq bi' 0) (xF ro K k' l' m') (False)) (∃ ay',aZ ay' l'∧K (k' 4) ay' m'))
theorem aHO {ro:Ro}{v0 v1:Value}{h:T Obj}{nx:Nat}{K:KV} (hw:aF0 ro v0 v1 h nx K):aO Tryz.prog ro y8 [v0,v1] h nx K:=zzO (fn:=Tryz.f127) hw
@[irreducible] def aIr (ro:Ro) (v0 v1:Value) (h:T Obj) (nx:Nat) (K:KV):Prop:=dM h nx (.cells (Value.cells v0) eY) fun h1=>aB (aQ .quo v1 (Value.int IntKind.u8 64)) fun a'=>aB (ixArr 4 1 (ptr nx) a') fun b'=>aB (load1 ro h1 b') fun c'=>aB (aQ .rem v1 (Value.int IntKind.u8 64)) fun d'=>aB (aQ .shr c' d') fun e'=>aB (aQ .rem e' (Value.int IntKind.u64 2)) fun f'=>aB (aQ .eql f' (Value.int IntKind.u64 1)) fun g'=>∃ h9,aZ h9 h1∧K g' h9 (nx+12)
theorem aJn {ro:Ro}{v0 v1:Value}{h:T Obj}{nx:Nat}{K:KV} (hw:aIr ro v0 v1 h nx K):aO Tryz.prog ro yD [v0,v1] h nx K:=zzO (fn:=Tryz.f135) hw
@[irreducible] def tW (ro:Ro) (K:KV):dL→T Obj→Nat→Prop:=fun e h nx=>aB (loadA ro h 4 (e 2)) fun a'=>aB (bU 4 h (e 4) a') fun h5=>aB (loadA ro h5 4 (e 4)) fun r6=>∃ h7,aZ h7 h5∧K r6 h7 (nx+2)
@[irreducible] def aHE (ro:Ro) (v0 v1:Value) (h:T Obj) (nx:Nat) (K:KV):Prop:=dM h nx (.cells (Value.cells v0) eY) fun h1=>aB (nF Tryz.prog eY) fun z2=>dM h1 (nx+1) (.cells z2.cells eY) fun h3=>aB (loadA ro h3 4 (ptr nx)) fun a'=>aO Tryz.prog ro yD [a',v1] h3 (nx+5) fun b' c' e'=>aB (unV .not b') fun d'=>aW d' (aB (aQ .quo v1 (Value.int IntKind.u8 64)) fun f'=>aB (aQ .quo v1 (Value.int IntKind.u8 64)) fun g'=>aB (ixArr 4 1 (ptr nx) g') fun h'=>aB (load1 ro c' h') fun i'=>aB (aQ .rem v1 (Value.int IntKind.u8 64)) fun j'=>aB (aQ .shl (Value.int IntKind.u64 1) j') fun k'=>aB (aQ .add i' k') fun l'=>aB (ixArr 4 1 (ptr nx) f') fun m'=>aB (bU 1 c' m' l') fun n'=>tW ro K (puts (fT [v0,v1]) [(2,(ptr nx)),(4,(ptr (nx+1))),(5,a'),(6,v1),(7,b'),(8,d'),(9,v1),(10,f'),(11,v1),(12,g'),(13,h'),(14,i'),(15,v1),(16,j'),(17,k'),(18,l'),(19,m')]) n' (e'+13)) (tW ro K (puts (fT [v0,v1]) [(2,(ptr nx)),(4,(ptr (nx+1))),(5,a'),(6,v1),(7,b'),(8,d')]) c' (e'+1))
theorem aHz {ro:Ro}{v0 v1:Value}{h:T Obj}{nx:Nat}{K:KV} (hw:aHE ro v0 v1 h nx K):aO Tryz.prog ro aAR [v0,v1] h nx K:=zzO (fn:=Tryz.f136) hw
@[irreducible] def w7 (ro:Ro) (K:KV):dL→T Obj→Nat→Prop:=fun e h nx=>∃ h22,aZ h22 h∧K (e 3) h22 (nx+2)
@[irreducible] def rW (ro:Ro) (Q:KE):dL→T Obj→Nat→Prop:=fun e h nx=>aB (aQ .add (e 4) (Value.int IntKind.i64 1)) fun a'=>Q .normal (puts e [(18,(e 4)),(19,a'),(4,a')]) h (nx+3)
@[irreducible] def aBe (ro:Ro):PT:=fun e h nx Q=>aB (aT 256 (e 1)) fun c'=>aB (load1 ro h c') fun d'=>aB (aQ .lss (e 4) d') fun e'=>aW e' (aB (loadA ro h 257 (e 1)) fun h'=>aO Tryz.prog ro aB1 [h',(e 4)] h (nx+7) fun i' q' r'=>aO Tryz.prog ro aAQ [i'] q' (r'+1) fun a' j' b'=>aB (bS a') fun k'=>aB (aQ .eql k' (Value.int IntKind.i64 0)) fun l'=>aW l' (aB (b7 Tryz.prog bO (b'+5) 1 [(0,(Value.int IntKind.u8 0))]) fun m'=>eR j' (b'+5) m'.2 fun s'=>aB (cZ Tryz.prog ro s' (b'+7) #[bO,bO] [(e 3),m'.1]) fun f'=>rW ro Q (puts e [(14,(e 4)),(15,c'),(16,d'),(17,e'),(20,h'),(21,(e 4)),(22,i'),(23,a'),(5,a'),(24,a'),(25,k'),(26,l'),(27,(e 3)),(28,m'.1),(29,f'.1),(3,f'.1)]) f'.2.1 (f'.2.2+1)) (aB (cQ 1 a' (Value.int IntKind.i64 0)) fun o'=>aB (load1 ro j' o') fun p'=>aB (b7 Tryz.prog bO (b'+8) 1 [(0,p')]) fun n'=>eR j' (b'+8) n'.2 fun t'=>aB (cZ Tryz.prog ro t' (b'+10) #[bO,bO] [(e 3),n'.1]) fun g'=>rW ro Q (puts e [(14,(e 4)),(15,c'),(16,d'),(17,e'),(20,h'),(21,(e 4)),(22,i'),(23,a'),(5,a'),(24,a'),(25,k'),(26,l'),(30,(e 3)),(31,a'),(32,o'),(33,p'),(34,n'.1),(35,g'.1),(3,g'.1)]) g'.2.1 (g'.2.2+1))) (Q (.exit 0) (puts e [(14,(e 4)),(15,c'),(16,d'),(17,e')]) h (nx+4))
@[irreducible] def aFT (ro:Ro) (v0:Value) (h:T Obj) (nx:Nat) (K:KV):Prop:=dM h nx (.cells (Value.cells v0) eM) fun h1=>aB (aT 256 (ptr nx)) fun e'=>aB (load1 ro h1 e') fun f'=>aB (aQ .lss f' (Value.int IntKind.i64 1)) fun a'=>bA a' false h1 (nx+6) (fun k5=>aB (aT 256 (ptr nx)) fun q'=>k5 q' h1 (nx+7)) fun g' h7 n8=>bA a' false h7 n8 (fun r'=>aB (load1 ro h7 g') fun s'=>r' s' h7 (n8+1)) fun h' i' j'=>bA a' false i' j' (fun t'=>aB (aQ .gtr h' (Value.int IntKind.i64 256)) fun u'=>t' u' i' (j'+1)) fun k' l' m'=>aB (cS a' (Value.bool true) k') fun n'=>aW n' (∃ o',aZ o' l'∧K (Value.slice none 0 0) o' (m'+2)) (dZ (aBe ro) (puts (fT [v0]) [(1,(ptr nx)),(2,(Value.slice none 0 0)),(6,e'),(7,f'),(8,a'),(9,a'),(10,g'),(11,h'),(12,k'),(13,n'),(3,(Value.slice none 0 0)),(4,(Value.int IntKind.i64 0))]) l' (m'+3) fun v' b' c' d'=>gI v' (w7 ro K b' c' d') (fun w'=>dH (Nat.beq w' 0) (w7 ro K b' c' d') (False)) (∃ p',aZ p' c'∧K (b' 2) p' d'))
theorem aHF {ro:Ro}{v0:Value}{h:T Obj}{nx:Nat}{K:KV} (hw:aFT ro v0 h nx K):aO Tryz.prog ro tQ [v0] h nx K:=zzO (fn:=Tryz.f147) hw
@[irreducible] def fW (ro:Ro) (K:KV):dL→T Obj→Nat→Prop:=fun e h nx=>∃ h1,aZ h1 h∧K (Value.int IntKind.i64 (-1)) h1 (nx+1)
@[irreducible] def iW (ro:Ro):PT:=fun e h nx Q=>aB (aQ .lss (e 8) (e 7)) fun a'=>aW a' (aB (cQ 4 (e 0) (e 8)) fun b'=>aB (loadA ro h 4 b') fun c'=>aBK (aO Tryz.prog ro) (e 1) [c'] h (nx+9) fun d' h7 n8=>aW d' (Q .ret (puts e [(9,a'),(10,(e 8)),(5,(e 8)),(11,(e 1)),(12,(e 0)),(13,(e 8)),(14,b'),(15,c'),(16,d'),(17,(e 8)),(4,(e 8))]) h7 (n8+2)) (aB (aQ .add (e 8) (Value.int IntKind.i64 1)) fun e'=>Q .normal (puts e [(9,a'),(10,(e 8)),(5,(e 8)),(11,(e 1)),(12,(e 0)),(13,(e 8)),(14,b'),(15,c'),(16,d'),(18,e'),(8,e')]) h7 (n8+2))) (Q (.exit 0) (puts e [(9,a')]) h (nx+1))
@[irreducible] def jP (ro:Ro) (v0 v1:Value) (h:T Obj) (nx:Nat) (K:KV):Prop:=aB (bS v0) fun e'=>dZ (iW ro) (puts (fT [v0,v1]) [(4,(Value.int IntKind.i64 0)),(6,v0),(7,e'),(8,(Value.int IntKind.i64 0))]) h (nx+4) fun f' a' b' c'=>gI f' (fW ro K a' b' c') (fun g'=>dH (Nat.beq g' 0) (fW ro K a' b' c') (False)) (∃ d',aZ d' b'∧K (a' 4) d' c')
theorem oF {ro:Ro}{v0 v1:Value}{h:T Obj}{nx:Nat}{K:KV} (hw:jP ro v0 v1 h nx K):aO Tryz.prog ro gB [v0,v1] h nx K:=zzO (fn:=Tryz.f152) hw
@[irreducible] def yS (ro:Ro) (K:KV):dL→T Obj→Nat→Prop:=fun e h nx=>∃ h13,aZ h13 h∧K (e 3) h13 (nx+2)
@[irreducible] def aC6 (ro:Ro):PT:=fun e h nx Q=>aB (aQ .lss (e 11) (e 10)) fun a'=>aW a' (aB (aQ .mul (e 3) (Value.int IntKind.i64 3)) fun b'=>aB (aQ .add (e 11) (Value.int IntKind.i64 1)) fun c'=>Q .normal (puts e [(12,a'),(13,(e 3)),(14,b'),(3,b'),(15,c'),(11,c')]) h (nx+6)) (Q (.exit 0) (puts e [(12,a')]) h (nx+1))
@[irreducible] def aGH (ro:Ro) (v0:Value) (h:T Obj) (nx:Nat) (K:KV):Prop:=aB (aQ .lss v0 (Value.int IntKind.i64 0)) fun a'=>bA a' false h (nx+4) (fun k2=>k2 v0 h (nx+5)) fun e' h4 n5=>bA a' false h4 n5 (fun k6=>aB (aQ .gtr e' (Value.int IntKind.i64 3)) fun j'=>k6 j' h4 (n5+1)) fun f' h8 n9=>aB (cS a' (Value.bool true) f') fun g'=>aW g' (∃ h',aZ h' h8∧K (Value.int IntKind.i64 0) h' (n9+2)) (dZ (aC6 ro) (puts (fT [v0]) [(2,(Value.int IntKind.i64 0)),(4,v0),(5,a'),(6,a'),(7,e'),(8,f'),(9,g'),(3,(Value.int IntKind.i64 1)),(10,v0),(11,(Value.int IntKind.i64 0))]) h8 (n9+4) fun k' b' c' d'=>gI k' (yS ro K b' c' d') (fun l'=>dH (Nat.beq l' 0) (yS ro K b' c' d') (False)) (∃ i',aZ i' c'∧K (b' 2) i' d'))
theorem aHi {ro:Ro}{v0:Value}{h:T Obj}{nx:Nat}{K:KV} (hw:aGH ro v0 h nx K):aO Tryz.prog ro aAO [v0] h nx K:=zzO (fn:=Tryz.f153) hw
@[irreducible] def yU (ro:Ro) (K:KV):dL→T Obj→Nat→Prop:=fun e h nx=>∃ h1,aZ h1 h∧K (Value.bool true) h1 (nx+1)
@[irreducible] def aC7 (ro:Ro):PT:=fun e h nx Q=>aB (aQ .lss (e 10) (e 9)) fun c'=>aW c' (aB (cQ 1 (e 8) (e 10)) fun d'=>aB (load1 ro h d') fun a'=>aB (aQ .leq a' (e 5)) fun b'=>bA b' false h (nx+8) (fun k7=>k7 a' h (nx+9)) fun e' h9 i'=>bA b' false h9 i' (fun o'=>o' (e 1) h9 (i'+1)) fun f' j' k'=>bA b' false j' k' (fun p'=>aB (aQ .geq e' f') fun q'=>p' q' j' (k'+1)) fun g' l' m'=>aB (cS b' (Value.bool true) g') fun h'=>aW h' (Q .ret (puts e [(11,c'),(12,d'),(13,a'),(7,a'),(14,a'),(15,(e 5)),(16,b'),(17,b'),(18,e'),(19,f'),(20,g'),(21,h'),(4,(Value.bool false))]) l' (m'+2)) (aB (aQ .add (e 10) (Value.int IntKind.i64 1)) fun n'=>Q .normal (puts e [(11,c'),(12,d'),(13,a'),(7,a'),(14,a'),(15,(e 5)),(16,b'),(17,b'),(18,e'),(19,f'),(20,g'),(21,h'),(22,a'),(5,a'),(23,n'),(10,n')]) l' (m'+5))) (Q (.exit 0) (puts e [(11,c')]) h (nx+1))
@[irreducible] def aGK (ro:Ro) (v0 v1:Value) (h:T Obj) (nx:Nat) (K:KV):Prop:=aB (bS v0) fun e'=>dZ (aC7 ro) (puts (fT [v0,v1]) [(4,(Value.bool false)),(5,(Value.int IntKind.i64 (-1))),(8,v0),(9,e'),(10,(Value.int IntKind.i64 0))]) h (nx+5) fun f' a' b' c'=>gI f' (yU ro K a' b' c') (fun g'=>dH (Nat.beq g' 0) (yU ro K a' b' c') (False)) (∃ d',aZ d' b'∧K (a' 4) d' c')
theorem aHk {ro:Ro}{v0 v1:Value}{h:T Obj}{nx:Nat}{K:KV} (hw:aGK ro v0 v1 h nx K):aO Tryz.prog ro vJ [v0,v1] h nx K:=zzO (fn:=Tryz.f154) hw
@[irreducible] def jG (ro:Ro) (v0 v1:Value) (h:T Obj) (nx:Nat) (K:KV):Prop:=aO Tryz.prog ro gJ [v0,v1] h (nx+4) fun a' h2 n3=>aB (aQ .geq a' (Value.int IntKind.i64 0)) fun b'=>∃ h5,aZ h5 h2∧K b' h5 (n3+2)
theorem nY {ro:Ro}{v0 v1:Value}{h:T Obj}{nx:Nat}{K:KV} (hw:jG ro v0 v1 h nx K):aO Tryz.prog ro fU [v0,v1] h nx K:=zzO (fn:=Tryz.f155) hw
@[irreducible] def t6 (ro:Ro) (v0 v1 v2:Value) (h:T Obj) (nx:Nat) (K:KV):Prop:=dM h nx (.cells (Value.cells v0) bR) fun h1=>aB (loadA ro h1 259 v1) fun a'=>aB (loadA ro h1 4 v2) fun b'=>aB (loadA ro h1 2 (ptr nx)) fun c'=>aO Tryz.prog ro pP [a',b',c'] h1 (nx+6) fun d' h6 n7=>aB (unV .not d') fun e'=>∃ h9,aZ h9 h6∧K e' h9 (n7+2)
theorem zM {ro:Ro}{v0 v1 v2:Value}{h:T Obj}{nx:Nat}{K:KV} (hw:t6 ro v0 v1 v2 h nx K):aO Tryz.prog ro gW [v0,v1,v2] h nx K:=zzO (fn:=Tryz.f156) hw
@[irreducible] def oJ (ro:Ro) (K:KV):dL→T Obj→Nat→Prop:=fun e h nx=>∃ h118,aZ h118 h∧K (Value.bool true) h118 (nx+1)
@[irreducible] def t5 (ro:Ro):PT:=fun e h nx Q=>aB (aQ .lss (e 46) (e 45)) fun e'=>aW e' (aB (cQ 1 (e 44) (e 46)) fun f'=>aB (load1 ro h f') fun b'=>aB (aQ .lss b' (Value.int IntKind.u8 1)) fun d'=>bA d' false h (nx+33) (fun as'=>as' b' h (nx+33)) fun g' G' H'=>bA d' false G' H' (fun at'=>aB (aQ .gtr g' (Value.int IntKind.u8 3)) fun au'=>at' au' G' H') fun h' I' J'=>aB (cS d' (Value.bool true) h') fun c'=>bA c' false I' J' (fun av'=>av' b' I' J') fun i' K' L'=>bA c' false K' L' (fun aw'=>aB (aQ .neq i' (Value.int IntKind.u8 3)) fun ax'=>aw' ax' K' L') fun j' M' N'=>bA c' false M' N' (fun ay'=>ay' j' M' N') fun a' O' P'=>bA a' true O' P' (fun az'=>aB (aT 1 (e 4)) fun aA'=>az' aA' O' P') fun k' l' Q'=>bA a' true l' Q' (fun aB'=>aB (load1 ro l' k') fun aC'=>aB' aC' l' Q') fun m' R' S'=>bA a' true R' S' (fun aD'=>aB (aT 0 (e 3)) fun aE'=>aD' aE' R' S') fun n' T' U'=>bA a' true T' U' (fun aF'=>aB (aT 258 n') fun aG'=>aF' aG' T' U') fun o' p' V'=>bA a' true p' V' (fun aH'=>aB (load1 ro p' o') fun aI'=>aH' aI' p' V') fun q' W' X'=>bA a' true W' X' (fun aJ'=>aB (aT 0 (e 5)) fun aK'=>aJ' aK' W' X') fun r' s' Y'=>bA a' true s' Y' (fun aL'=>aB (load1 ro s' r') fun aM'=>aL' aM' s' Y') fun t' Z' aa'=>bA a' true Z' aa' (fun aN'=>aB (cQ 4 q' t') fun aO'=>aN' aO' Z' aa') fun u' ab' ac'=>bA a' true ab' ac' (fun aP'=>aB (aT 1 u') fun aQ'=>aP' aQ' ab' ac') fun v' w' ad'=>bA a' true w' ad' (fun aR'=>aB (load1 ro w' v') fun aS'=>aR' aS' w' ad') fun x' ae' af'=>bA a' true ae' af' (fun aT'=>aT' (e 46) ae' af') fun y' ag' ah'=>bA a' true ag' ah' (fun aU'=>aB (cQ 1 x' y') fun aV'=>aU' aV' ag' ah') fun z' A' ai'=>bA a' true A' ai' (fun aW'=>aB (load1 ro A' z') fun aX'=>aW' aX' A' ai') fun B' aj' ak'=>bA a' true aj' ak' (fun aY'=>aO Tryz.prog ro iC [m',B'] aj' ak' fun aZ' a0' a1'=>aY' aZ' a0' a1') fun C' al' am'=>bA a' true al' am' (fun a2'=>aB (unV .not C') fun a3'=>a2' a3' al' am') fun D' an' ao'=>bA c' false an' ao' (fun a4'=>aB (cS a' D' (Value.bool false)) fun a5'=>a4' a5' an' ao') fun E' ap' aq'=>aB (cS c' (Value.bool true) E') fun F'=>aW F' (Q .ret (puts e [(47,e'),(48,(e 46)),(49,f'),(50,b'),(7,(e 46)),(8,b'),(51,b'),(52,d'),(53,d'),(54,g'),(55,h'),(56,c'),(57,c'),(58,i'),(59,j'),(60,a'),(61,k'),(62,m'),(63,n'),(64,o'),(65,q'),(66,r'),(67,t'),(68,u'),(69,v'),(70,x'),(71,y'),(72,z'),(73,B'),(74,C'),(75,D'),(76,E'),(77,F'),(6,(Value.bool false))]) ap' (aq'+1)) (aB (aQ .add (e 46) (Value.int IntKind.i64 1)) fun ar'=>Q .normal (puts e [(47,e'),(48,(e 46)),(49,f'),(50,b'),(7,(e 46)),(8,b'),(51,b'),(52,d'),(53,d'),(54,g'),(55,h'),(56,c'),(57,c'),(58,i'),(59,j'),(60,a'),(61,k'),(62,m'),(63,n'),(64,o'),(65,q'),(66,r'),(67,t'),(68,u'),(69,v'),(70,x'),(71,y'),(72,z'),(73,B'),(74,C'),(75,D'),(76,E'),(77,F'),(78,ar'),(46,ar')]) ap' (aq'+2))) (Q (.exit 0) (puts e [(47,e')]) h (nx+1))
@[irreducible] def xW (ro:Ro) (v0 v1 v2:Value) (h:T Obj) (nx:Nat) (K:KV):Prop:=dM h nx (.cells (Value.cells v0) eX) fun h1=>dM h1 (nx+1) (.cells (Value.cells v1) bG) fun h2=>dM h2 (nx+2) (.cells (Value.cells v2) bR) fun h3=>aB (aT 0 (ptr (nx+2))) fun m'=>aB (load1 ro h3 m') fun n'=>aB (aQ .eql n' (Value.int IntKind.i64 (-1))) fun o'=>aW o' (aB (aT 1 (ptr (nx+2))) fun ay'=>aB (load1 ro h3 ay') fun az'=>aB (bS az') fun aA'=>aB (aQ .eql aA' (Value.int IntKind.i64 0)) fun aB'=>∃ p',aZ p' h3∧K aB' p' (nx+12)) (aB (aT 0 (ptr (nx+2))) fun q'=>aB (load1 ro h3 q') fun r'=>aB (aQ .lss r' (Value.int IntKind.i64 1)) fun b'=>bA b' false h3 (nx+34) (fun aC'=>aB (aT 0 (ptr (nx+2))) fun aD'=>aC' aD' h3 (nx+34)) fun s' c' t'=>bA b' false c' t' (fun aE'=>aB (load1 ro c' s') fun aF'=>aE' aF' c' t') fun u' v' w'=>bA b' false v' w' (fun aG'=>aB (aT 0 (ptr nx)) fun aH'=>aG' aH' v' w') fun x' y' z'=>bA b' false y' z' (fun aI'=>aB (aT 258 x') fun aJ'=>aI' aJ' y' z') fun A' d' B'=>bA b' false d' B' (fun aK'=>aB (load1 ro d' A') fun aL'=>aK' aL' d' B') fun C' D' E'=>bA b' false D' E' (fun aM'=>aB (bS C') fun aN'=>aM' aN' D' E') fun F' G' H'=>bA b' false G' H' (fun aO'=>aB (aQ .geq u' F') fun aP'=>aO' aP' G' H') fun I' J' K'=>aB (cS b' (Value.bool true) I') fun a'=>bA a' false J' K' (fun aQ'=>aB (aT 1 (ptr (nx+2))) fun aR'=>aQ' aR' J' K') fun L' e' M'=>bA a' false e' M' (fun aS'=>aB (load1 ro e' L') fun aT'=>aS' aT' e' M') fun N' O' P'=>bA a' false O' P' (fun aU'=>aB (bS N') fun aV'=>aU' aV' O' P') fun Q' R' S'=>bA a' false R' S' (fun aW'=>aB (aT 0 (ptr nx)) fun aX'=>aW' aX' R' S') fun T' U' V'=>bA a' false U' V' (fun aY'=>aB (aT 258 T') fun aZ'=>aY' aZ' U' V') fun W' f' X'=>bA a' false f' X' (fun a0'=>aB (load1 ro f' W') fun a1'=>a0' a1' f' X') fun Y' Z' aa'=>bA a' false Z' aa' (fun a2'=>aB (aT 0 (ptr (nx+2))) fun a3'=>a2' a3' Z' aa') fun ab' g' ac'=>bA a' false g' ac' (fun a4'=>aB (load1 ro g' ab') fun a5'=>a4' a5' g' ac') fun ad' ae' af'=>bA a' false ae' af' (fun a6'=>aB (cQ 4 Y' ad') fun a7'=>a6' a7' ae' af') fun ag' ah' ai'=>bA a' false ah' ai' (fun a8'=>aB (aT 1 ag') fun a9'=>a8' a9' ah' ai') fun aj' h' ak'=>bA a' false h' ak' (fun ba'=>aB (load1 ro h' aj') fun bb'=>ba' bb' h' ak') fun al' am' an'=>bA a' false am' an' (fun bc'=>aB (bS al') fun bd'=>bc' bd' am' an') fun ao' ap' aq'=>bA a' false ap' aq' (fun be'=>aB (aQ .neq Q' ao') fun bf'=>be' bf' ap' aq') fun ar' i' as'=>aB (cS a' (Value.bool true) ar') fun at'=>aW at' (∃ au',aZ au' i'∧K (Value.bool false) au' (as'+1)) (aB (aT 1 (ptr (nx+2))) fun av'=>aB (load1 ro i' av') fun aw'=>aB (bS aw') fun bg'=>dZ (t5 ro) (puts (fT [v0,v1,v2]) [(3,(ptr nx)),(4,(ptr (nx+1))),(5,(ptr (nx+2))),(6,(Value.bool false)),(9,m'),(10,n'),(11,o'),(16,q'),(17,r'),(18,b'),(19,b'),(20,s'),(21,u'),(22,x'),(23,A'),(24,C'),(25,F'),(26,I'),(27,a'),(28,a'),(29,L'),(30,N'),(31,Q'),(32,T'),(33,W'),(34,Y'),(35,ab'),(36,ad'),(37,ag'),(38,aj'),(39,al'),(40,ao'),(41,ar'),(42,at'),(43,av'),(44,aw'),(45,bg'),(46,(Value.int IntKind.i64 0))]) i' (as'+4) fun bh' j' k' l'=>gI bh' (oJ ro K j' k' l') (fun bi'=>dH (Nat.beq bi' 0) (oJ ro K j' k' l') (False)) (∃ ax',aZ ax' k'∧K (j' 6) ax' l')))
theorem aBJ {ro:Ro}{v0 v1 v2:Value}{h:T Obj}{nx:Nat}{K:KV} (hw:xW ro v0 v1 v2 h nx K):aO Tryz.prog ro pP [v0,v1,v2] h nx K:=zzO (fn:=Tryz.f157) hw
@[irreducible] def rC (ro:Ro) (v0 v1:Value) (h:T Obj) (nx:Nat) (K:KV):Prop:=aO Tryz.prog ro rR [v0,v1] h (nx+4) fun a' h2 n3=>aB (aQ .geq a' (Value.int IntKind.i64 0)) fun b'=>∃ h5,aZ h5 h2∧K b' h5 (n3+2)
theorem xR {ro:Ro}{v0 v1:Value}{h:T Obj}{nx:Nat}{K:KV} (hw:rC ro v0 v1 h nx K):aO Tryz.prog ro iC [v0,v1] h nx K:=zzO (fn:=Tryz.f164) hw
@[irreducible] def xE (ro:Ro) (K:KV):dL→T Obj→Nat→Prop:=fun e h nx=>∃ h1,aZ h1 h∧K (Value.bool true) h1 (nx+1)
@[irreducible] def aBm (ro:Ro):PT:=fun e h nx Q=>aB (bS (e 0)) fun d'=>aB (aQ .lss (e 5) d') fun e'=>aW e' (aB (cQ 1 (e 0) (e 5)) fun f'=>aB (load1 ro h f') fun g'=>aB (aQ .lss g' (Value.int IntKind.i64 0)) fun b'=>bA b' false h (nx+33) (fun k7=>k7 (e 0) h (nx+33)) fun h' h9 E'=>bA b' false h9 E' (fun ap'=>ap' (e 5) h9 E') fun i' F' G'=>bA b' false F' G' (fun aq'=>aB (cQ 1 h' i') fun ar'=>aq' ar' F' G') fun j' k' H'=>bA b' false k' H' (fun as'=>aB (load1 ro k' j') fun at'=>as' at' k' H') fun l' I' J'=>bA b' false I' J' (fun au'=>au' (e 1) I' J') fun m' K' L'=>bA b' false K' L' (fun av'=>aB (aQ .geq l' m') fun aw'=>av' aw' K' L') fun n' M' N'=>aB (cS b' (Value.bool true) n') fun c'=>bA c' false M' N' (fun ax'=>ax' (e 5) M' N') fun o' O' P'=>bA c' false O' P' (fun ay'=>aB (aQ .gtr o' (Value.int IntKind.i64 0)) fun az'=>ay' az' O' P') fun p' Q' R'=>bA c' false Q' R' (fun aA'=>aA' p' Q' R') fun a' S' T'=>bA a' true S' T' (fun aB'=>aB' (e 0) S' T') fun q' U' V'=>bA a' true U' V' (fun aC'=>aC' (e 5) U' V') fun r' W' X'=>bA a' true W' X' (fun aD'=>aB (aQ .sub r' (Value.int IntKind.i64 1)) fun aE'=>aD' aE' W' X') fun s' Y' Z'=>bA a' true Y' Z' (fun aF'=>aB (cQ 1 q' s') fun aG'=>aF' aG' Y' Z') fun t' u' aa'=>bA a' true u' aa' (fun aH'=>aB (load1 ro u' t') fun aI'=>aH' aI' u' aa') fun v' ab' ac'=>bA a' true ab' ac' (fun aJ'=>aJ' (e 0) ab' ac') fun w' ad' ae'=>bA a' true ad' ae' (fun aK'=>aK' (e 5) ad' ae') fun x' af' ag'=>bA a' true af' ag' (fun aL'=>aB (cQ 1 w' x') fun aM'=>aL' aM' af' ag') fun y' z' ah'=>bA a' true z' ah' (fun aN'=>aB (load1 ro z' y') fun aO'=>aN' aO' z' ah') fun A' ai' aj'=>bA a' true ai' aj' (fun aP'=>aB (aQ .geq v' A') fun aQ'=>aP' aQ' ai' aj') fun B' ak' al'=>bA c' false ak' al' (fun aR'=>aB (cS a' B' (Value.bool false)) fun aS'=>aR' aS' ak' al') fun C' am' an'=>aB (cS c' (Value.bool true) C') fun D'=>aW D' (Q .ret (puts e [(6,(e 5)),(7,(e 0)),(8,d'),(9,e'),(12,(e 0)),(13,(e 5)),(14,f'),(15,g'),(16,b'),(17,b'),(18,h'),(19,i'),(20,j'),(21,l'),(22,m'),(23,n'),(24,c'),(25,c'),(26,o'),(27,p'),(28,a'),(29,q'),(30,r'),(31,s'),(32,t'),(33,v'),(34,w'),(35,x'),(36,y'),(37,A'),(38,B'),(39,C'),(40,D'),(4,(Value.bool false))]) am' (an'+1)) (aB (aQ .add (e 5) (Value.int IntKind.i64 1)) fun ao'=>Q .normal (puts e [(6,(e 5)),(7,(e 0)),(8,d'),(9,e'),(12,(e 0)),(13,(e 5)),(14,f'),(15,g'),(16,b'),(17,b'),(18,h'),(19,i'),(20,j'),(21,l'),(22,m'),(23,n'),(24,c'),(25,c'),(26,o'),(27,p'),(28,a'),(29,q'),(30,r'),(31,s'),(32,t'),(33,v'),(34,w'),(35,x'),(36,y'),(37,A'),(38,B'),(39,C'),(40,D'),(10,(e 5)),(11,ao'),(5,ao')]) am' (an'+3))) (Q (.exit 0) (puts e [(6,(e 5)),(7,(e 0)),(8,d'),(9,e')]) h (nx+4))
@[irreducible] def aFZ (ro:Ro) (v0 v1:Value) (h:T Obj) (nx:Nat) (K:KV):Prop:=dZ (aBm ro) (puts (fT [v0,v1]) [(4,(Value.bool false)),(5,(Value.int IntKind.i64 0))]) h (nx+2) fun x104 e101 h102 n103=>gI x104 (xE ro K e101 h102 n103) (fun i105=>dH (Nat.beq i105 0) (xE ro K e101 h102 n103) (False)) (∃ h106,aZ h106 h102∧K (e101 4) h106 n103)
theorem aHN {ro:Ro}{v0 v1:Value}{h:T Obj}{nx:Nat}{K:KV} (hw:aFZ ro v0 v1 h nx K):aO Tryz.prog ro tS [v0,v1] h nx K:=zzO (fn:=Tryz.f166) hw
@[irreducible] def zE (ro:Ro) (K:KV):dL→T Obj→Nat→Prop:=fun e h nx=>∃ h108,aZ h108 h∧K (Value.bool true) h108 (nx+1)
@[irreducible] def aCo (ro:Ro):PT:=fun e h nx Q=>aB (aT 1 (e 5)) fun d'=>aB (load1 ro h d') fun e'=>aB (bS e') fun f'=>aB (aQ .lss (e 7) f') fun g'=>aW g' (aB (aT 1 (e 5)) fun h'=>aB (load1 ro h h') fun i'=>aB (cQ 1 i' (e 7)) fun j'=>aB (load1 ro h j') fun k'=>aB (aQ .lss k' (Value.int IntKind.u8 1)) fun c'=>bA c' false h (nx+43) (fun aS'=>aB (aT 1 (e 5)) fun aT'=>aS' aT' h (nx+43)) fun l' m' W'=>bA c' false m' W' (fun aU'=>aB (load1 ro m' l') fun aV'=>aU' aV' m' W') fun n' X' Y'=>bA c' false X' Y' (fun aW'=>aW' (e 7) X' Y') fun o' Z' aa'=>bA c' false Z' aa' (fun aX'=>aB (cQ 1 n' o') fun aY'=>aX' aY' Z' aa') fun p' q' ab'=>bA c' false q' ab' (fun aZ'=>aB (load1 ro q' p') fun a0'=>aZ' a0' q' ab') fun r' ac' ad'=>bA c' false ac' ad' (fun a1'=>aB (aQ .gtr r' (Value.int IntKind.u8 3)) fun a2'=>a1' a2' ac' ad') fun s' ae' af'=>aB (cS c' (Value.bool true) s') fun b'=>bA b' false ae' af' (fun a3'=>aB (aT 1 (e 5)) fun a4'=>a3' a4' ae' af') fun t' u' ag'=>bA b' false u' ag' (fun a5'=>aB (load1 ro u' t') fun a6'=>a5' a6' u' ag') fun v' ah' ai'=>bA b' false ah' ai' (fun a7'=>a7' (e 7) ah' ai') fun w' aj' ak'=>bA b' false aj' ak' (fun a8'=>aB (cQ 1 v' w') fun a9'=>a8' a9' aj' ak') fun x' y' al'=>bA b' false y' al' (fun ba'=>aB (load1 ro y' x') fun bb'=>ba' bb' y' al') fun z' am' an'=>bA b' false am' an' (fun bc'=>aB (aQ .neq z' (Value.int IntKind.u8 3)) fun bd'=>bc' bd' am' an') fun A' ao' ap'=>bA b' false ao' ap' (fun be'=>be' A' ao' ap') fun a' aq' ar'=>bA a' true aq' ar' (fun bf'=>aB (aT 1 (e 4)) fun bg'=>bf' bg' aq' ar') fun B' C' as'=>bA a' true C' as' (fun bh'=>aB (load1 ro C' B') fun bi'=>bh' bi' C' as') fun D' at' au'=>bA a' true at' au' (fun bj'=>aB (aT 258 (e 3)) fun bk'=>bj' bk' at' au') fun E' F' av'=>bA a' true F' av' (fun bl'=>aB (load1 ro F' E') fun bm'=>bl' bm' F' av') fun G' aw' ax'=>bA a' true aw' ax' (fun bn'=>aB (aT 0 (e 5)) fun bo'=>bn' bo' aw' ax') fun H' I' ay'=>bA a' true I' ay' (fun bp'=>aB (load1 ro I' H') fun bq'=>bp' bq' I' ay') fun J' az' aA'=>bA a' true az' aA' (fun br'=>aB (cQ 4 G' J') fun bs'=>br' bs' az' aA') fun K' aB' aC'=>bA a' true aB' aC' (fun bt'=>aB (aT 1 K') fun bu'=>bt' bu' aB' aC') fun L' M' aD'=>bA a' true M' aD' (fun bv'=>aB (load1 ro M' L') fun bw'=>bv' bw' M' aD') fun N' aE' aF'=>bA a' true aE' aF' (fun bx'=>bx' (e 7) aE' aF') fun O' aG' aH'=>bA a' true aG' aH' (fun by'=>aB (cQ 1 N' O') fun bz'=>by' bz' aG' aH') fun P' Q' aI'=>bA a' true Q' aI' (fun bA'=>aB (load1 ro Q' P') fun bB'=>bA' bB' Q' aI') fun R' aJ' aK'=>bA a' true aJ' aK' (fun bC'=>aO Tryz.prog ro aDQ [D',R'] aJ' aK' fun bD' bE' bF'=>bC' bD' bE' bF') fun S' aL' aM'=>bA a' true aL' aM' (fun bG'=>aB (unV .not S') fun bH'=>bG' bH' aL' aM') fun T' aN' aO'=>bA b' false aN' aO' (fun bI'=>aB (cS a' T' (Value.bool false)) fun bJ'=>bI' bJ' aN' aO') fun U' aP' aQ'=>aB (cS b' (Value.bool true) U') fun V'=>aW V' (Q .ret (puts e [(40,(e 7)),(41,d'),(42,e'),(43,f'),(44,g'),(47,h'),(48,i'),(49,(e 7)),(50,j'),(51,k'),(52,c'),(53,c'),(54,l'),(55,n'),(56,o'),(57,p'),(58,r'),(59,s'),(60,b'),(61,b'),(62,t'),(63,v'),(64,w'),(65,x'),(66,z'),(67,A'),(68,a'),(69,B'),(70,D'),(71,E'),(72,G'),(73,H'),(74,J'),(75,K'),(76,L'),(77,N'),(78,O'),(79,P'),(80,R'),(81,S'),(82,T'),(83,U'),(84,V'),(6,(Value.bool false))]) aP' (aQ'+1)) (aB (aQ .add (e 7) (Value.int IntKind.i64 1)) fun aR'=>Q .normal (puts e [(40,(e 7)),(41,d'),(42,e'),(43,f'),(44,g'),(47,h'),(48,i'),(49,(e 7)),(50,j'),(51,k'),(52,c'),(53,c'),(54,l'),(55,n'),(56,o'),(57,p'),(58,r'),(59,s'),(60,b'),(61,b'),(62,t'),(63,v'),(64,w'),(65,x'),(66,z'),(67,A'),(68,a'),(69,B'),(70,D'),(71,E'),(72,G'),(73,H'),(74,J'),(75,K'),(76,L'),(77,N'),(78,O'),(79,P'),(80,R'),(81,S'),(82,T'),(83,U'),(84,V'),(45,(e 7)),(46,aR'),(7,aR')]) aP' (aQ'+3))) (Q (.exit 0) (puts e [(40,(e 7)),(41,d'),(42,e'),(43,f'),(44,g')]) h (nx+5))
@[irreducible] def aHM (ro:Ro) (v0 v1 v2:Value) (h:T Obj) (nx:Nat) (K:KV):Prop:=dM h nx (.cells (Value.cells v0) cD) fun h1=>dM h1 (nx+1) (.cells (Value.cells v1) bG) fun h2=>dM h2 (nx+2) (.cells (Value.cells v2) bR) fun h3=>aB (aT 0 (ptr (nx+2))) fun l'=>aB (load1 ro h3 l') fun m'=>aB (aQ .eql m' (Value.int IntKind.i64 (-1))) fun n'=>aW n' (aB (aT 1 (ptr (nx+2))) fun aq'=>aB (load1 ro h3 aq') fun ar'=>aB (bS ar') fun as'=>aB (aQ .eql as' (Value.int IntKind.i64 0)) fun at'=>∃ o',aZ o' h3∧K at' o' (nx+12)) (aB (aT 0 (ptr (nx+2))) fun p'=>aB (load1 ro h3 p') fun q'=>aB (aQ .lss q' (Value.int IntKind.i64 1)) fun b'=>bA b' false h3 (nx+32) (fun au'=>aB (aT 0 (ptr (nx+2))) fun av'=>au' av' h3 (nx+32)) fun r' c' s'=>bA b' false c' s' (fun aw'=>aB (load1 ro c' r') fun ax'=>aw' ax' c' s') fun t' u' v'=>bA b' false u' v' (fun ay'=>aB (aT 258 (ptr nx)) fun az'=>ay' az' u' v') fun w' d' x'=>bA b' false d' x' (fun aA'=>aB (load1 ro d' w') fun aB'=>aA' aB' d' x') fun y' z' A'=>bA b' false z' A' (fun aC'=>aB (bS y') fun aD'=>aC' aD' z' A') fun B' C' D'=>bA b' false C' D' (fun aE'=>aB (aQ .geq t' B') fun aF'=>aE' aF' C' D') fun E' F' G'=>aB (cS b' (Value.bool true) E') fun a'=>bA a' false F' G' (fun aG'=>aB (aT 1 (ptr (nx+2))) fun aH'=>aG' aH' F' G') fun H' e' I'=>bA a' false e' I' (fun aI'=>aB (load1 ro e' H') fun aJ'=>aI' aJ' e' I') fun J' K' L'=>bA a' false K' L' (fun aK'=>aB (bS J') fun aL'=>aK' aL' K' L') fun M' N' O'=>bA a' false N' O' (fun aM'=>aB (aT 258 (ptr nx)) fun aN'=>aM' aN' N' O') fun P' f' Q'=>bA a' false f' Q' (fun aO'=>aB (load1 ro f' P') fun aP'=>aO' aP' f' Q') fun R' S' T'=>bA a' false S' T' (fun aQ'=>aB (aT 0 (ptr (nx+2))) fun aR'=>aQ' aR' S' T') fun U' g' V'=>bA a' false g' V' (fun aS'=>aB (load1 ro g' U') fun aT'=>aS' aT' g' V') fun W' X' Y'=>bA a' false X' Y' (fun aU'=>aB (cQ 4 R' W') fun aV'=>aU' aV' X' Y') fun Z' aa' ab'=>bA a' false aa' ab' (fun aW'=>aB (aT 1 Z') fun aX'=>aW' aX' aa' ab') fun ac' h' ad'=>bA a' false h' ad' (fun aY'=>aB (load1 ro h' ac') fun aZ'=>aY' aZ' h' ad') fun ae' af' ag'=>bA a' false af' ag' (fun a0'=>aB (bS ae') fun a1'=>a0' a1' af' ag') fun ah' ai' aj'=>bA a' false ai' aj' (fun a2'=>aB (aQ .neq M' ah') fun a3'=>a2' a3' ai' aj') fun ak' al' am'=>aB (cS a' (Value.bool true) ak') fun an'=>aW an' (∃ ao',aZ ao' al'∧K (Value.bool false) ao' (am'+1)) (dZ (aCo ro) (puts (fT [v0,v1,v2]) [(3,(ptr nx)),(4,(ptr (nx+1))),(5,(ptr (nx+2))),(6,(Value.bool false)),(8,l'),(9,m'),(10,n'),(15,p'),(16,q'),(17,b'),(18,b'),(19,r'),(20,t'),(21,w'),(22,y'),(23,B'),(24,E'),(25,a'),(26,a'),(27,H'),(28,J'),(29,M'),(30,P'),(31,R'),(32,U'),(33,W'),(34,Z'),(35,ac'),(36,ae'),(37,ah'),(38,ak'),(39,an'),(7,(Value.int IntKind.i64 0))]) al' (am'+1) fun a4' i' j' k'=>gI a4' (zE ro K i' j' k') (fun a5'=>dH (Nat.beq a5' 0) (zE ro K i' j' k') (False)) (∃ ap',aZ ap' j'∧K (i' 6) ap' k')))
theorem aIG {ro:Ro}{v0 v1 v2:Value}{h:T Obj}{nx:Nat}{K:KV} (hw:aHM ro v0 v1 v2 h nx K):aO Tryz.prog ro aAS [v0,v1,v2] h nx K:=zzO (fn:=Tryz.f167) hw
@[irreducible] def zD (ro:Ro) (K:KV):dL→T Obj→Nat→Prop:=fun e h nx=>∃ h2,aZ h2 h∧K (e 3) h2 (nx+2)
@[irreducible] def tV (ro:Ro) (Q:KE):dL→T Obj→Nat→Prop:=fun e h nx=>aB (aQ .add (e 4) (Value.int IntKind.i64 1)) fun a'=>Q .normal (puts e [(7,(e 4)),(8,a'),(4,a')]) h (nx+3)
@[irreducible] def aCl (ro:Ro):PT:=fun e h nx Q=>aB (aQ .lss (e 4) (Value.int IntKind.i64 256)) fun a'=>aW a' (aB (loadA ro h 4 (e 1)) fun c'=>aB (zP .u8 (e 4)) fun d'=>aO Tryz.prog ro yD [c',d'] h (nx+6) fun e' h8 n9=>aW e' (aB (zP .u8 (e 4)) fun g'=>aB (b7 Tryz.prog bO (n9+3) 1 [(0,g')]) fun f'=>eR h8 (n9+3) f'.2 fun h'=>aB (cZ Tryz.prog ro h' (n9+5) #[bO,bO] [(e 3),f'.1]) fun b'=>tV ro Q (puts e [(5,(e 4)),(6,a'),(9,c'),(10,(e 4)),(11,d'),(12,e'),(13,(e 3)),(14,(e 4)),(15,g'),(16,f'.1),(17,b'.1),(3,b'.1)]) b'.2.1 (b'.2.2+1)) (tV ro Q (puts e [(5,(e 4)),(6,a'),(9,c'),(10,(e 4)),(11,d'),(12,e')]) h8 n9)) (Q (.exit 0) (puts e [(5,(e 4)),(6,a')]) h (nx+2))
@[irreducible] def aHD (ro:Ro) (v0:Value) (h:T Obj) (nx:Nat) (K:KV):Prop:=dM h nx (.cells (Value.cells v0) eY) fun h1=>dZ (aCl ro) (puts (fT [v0]) [(1,(ptr nx)),(2,(Value.slice none 0 0)),(3,(Value.slice none 0 0)),(4,(Value.int IntKind.i64 0))]) h1 (nx+4) fun x17 e14 h15 n16=>gI x17 (zD ro K e14 h15 n16) (fun i18=>dH (Nat.beq i18 0) (zD ro K e14 h15 n16) (False)) (∃ h19,aZ h19 h15∧K (e14 2) h19 n16)
theorem aHy {ro:Ro}{v0:Value}{h:T Obj}{nx:Nat}{K:KV} (hw:aHD ro v0 h nx K):aO Tryz.prog ro aAQ [v0] h nx K:=zzO (fn:=Tryz.f178) hw
@[irreducible] def aA3 (ro:Ro) (K:KV):dL→T Obj→Nat→Prop:=fun e h nx=>aO Tryz.prog ro aDP [(e 5)] h (nx+2) fun a' h5 n6=>aB (bU 4 h5 (e 4) a') fun h7=>aB (loadA ro h7 4 (e 4)) fun r8=>∃ h9,aZ h9 h7∧K r8 h9 (n6+1)
@[irreducible] def vR (ro:Ro) (Q:KE):dL→T Obj→Nat→Prop:=fun e h nx=>aB (aQ .add (e 6) (Value.int IntKind.i64 1)) fun a'=>Q .normal (puts e [(9,(e 6)),(10,a'),(6,a')]) h (nx+3)
@[irreducible] def aEH (ro:Ro):PT:=fun e h nx Q=>aB (aQ .lss (e 6) (Value.int IntKind.i64 256)) fun a'=>aW a' (aB (aT 0 (e 2)) fun c'=>aB (ixArr 256 1 c' (e 6)) fun d'=>aB (load1 ro h d') fun e'=>aB (zP .i64 e') fun f'=>aB (aQ .eql f' (e 1)) fun g'=>aW g' (aB (zP .u8 (e 6)) fun i'=>aB (b7 Tryz.prog bO (nx+12) 1 [(0,i')]) fun h'=>eR h (nx+12) h'.2 fun j'=>aB (cZ Tryz.prog ro j' (nx+14) #[bO,bO] [(e 5),h'.1]) fun b'=>vR ro Q (puts e [(7,(e 6)),(8,a'),(11,(e 6)),(12,c'),(13,d'),(14,e'),(15,f'),(16,(e 1)),(17,g'),(18,(e 5)),(19,(e 6)),(20,i'),(21,h'.1),(22,b'.1),(5,b'.1)]) b'.2.1 (b'.2.2+1)) (vR ro Q (puts e [(7,(e 6)),(8,a'),(11,(e 6)),(12,c'),(13,d'),(14,e'),(15,f'),(16,(e 1)),(17,g')]) h (nx+9))) (Q (.exit 0) (puts e [(7,(e 6)),(8,a')]) h (nx+2))
@[irreducible] def aIs (ro:Ro) (v0 v1:Value) (h:T Obj) (nx:Nat) (K:KV):Prop:=dM h nx (.cells (Value.cells v0) eM) fun h1=>aB (nF Tryz.prog eY) fun z2=>dM h1 (nx+1) (.cells z2.cells eY) fun h3=>dZ (aEH ro) (puts (fT [v0,v1]) [(2,(ptr nx)),(4,(ptr (nx+1))),(5,(Value.slice none 0 0)),(6,(Value.int IntKind.i64 0))]) h3 (nx+4) fun x24 e21 h22 n23=>gI x24 (aA3 ro K e21 h22 n23) (fun i25=>dH (Nat.beq i25 0) (aA3 ro K e21 h22 n23) (False)) (aB (loadA ro h22 4 (e21 4)) fun r26=>∃ h27,aZ h27 h22∧K r26 h27 n23)
theorem aJq {ro:Ro}{v0 v1:Value}{h:T Obj}{nx:Nat}{K:KV} (hw:aIs ro v0 v1 h nx K):aO Tryz.prog ro aB1 [v0,v1] h nx K:=zzO (fn:=Tryz.f179) hw
@[irreducible] def aBl (ro:Ro) (K:KV):dL→T Obj→Nat→Prop:=fun e h nx=>∃ h1,aZ h1 h∧K (Value.bool false) h1 (nx+1)
@[irreducible] def aFY (ro:Ro):PT:=fun e h nx Q=>aB (bS (e 0)) fun a'=>aB (aQ .lss (e 5) a') fun b'=>aW b' (aB (cQ 1 (e 0) (e 5)) fun c'=>aB (load1 ro h c') fun d'=>aB (aQ .eql d' (e 1)) fun e'=>aW e' (Q .ret (puts e [(6,(e 5)),(7,(e 0)),(8,a'),(9,b'),(12,(e 0)),(13,(e 5)),(14,c'),(15,d'),(16,(e 1)),(17,e'),(4,(Value.bool true))]) h (nx+11)) (aB (aQ .add (e 5) (Value.int IntKind.i64 1)) fun f'=>Q .normal (puts e [(6,(e 5)),(7,(e 0)),(8,a'),(9,b'),(12,(e 0)),(13,(e 5)),(14,c'),(15,d'),(16,(e 1)),(17,e'),(10,(e 5)),(11,f'),(5,f')]) h (nx+13))) (Q (.exit 0) (puts e [(6,(e 5)),(7,(e 0)),(8,a'),(9,b')]) h (nx+4))
@[irreducible] def aLn (ro:Ro) (v0 v1:Value) (h:T Obj) (nx:Nat) (K:KV):Prop:=dZ (aFY ro) (puts (fT [v0,v1]) [(4,(Value.bool false)),(5,(Value.int IntKind.i64 0))]) h (nx+2) fun x11 e8 h9 n10=>gI x11 (aBl ro K e8 h9 n10) (fun i12=>dH (Nat.beq i12 0) (aBl ro K e8 h9 n10) (False)) (∃ h13,aZ h13 h9∧K (e8 4) h13 n10)
theorem aLo {ro:Ro}{v0 v1:Value}{h:T Obj}{nx:Nat}{K:KV} (hw:aLn ro v0 v1 h nx K):aO Tryz.prog ro aDQ [v0,v1] h nx K:=zzO (fn:=Tryz.f180) hw
@[irreducible] def gE (ro:Ro) (K:KV):dL→T Obj→Nat→Prop:=fun e h nx=>∃ h1,aZ h1 h∧K (Value.int IntKind.i64 (-1)) h1 (nx+1)
@[irreducible] def jH (ro:Ro):PT:=fun e h nx Q=>aB (aQ .lss (e 8) (e 7)) fun a'=>aW a' (aB (cQ 2 (e 0) (e 8)) fun b'=>aB (loadA ro h 2 b') fun c'=>aBK (aO Tryz.prog ro) (e 1) [c'] h (nx+9) fun d' h7 n8=>aW d' (Q .ret (puts e [(9,a'),(10,(e 8)),(5,(e 8)),(11,(e 1)),(12,(e 0)),(13,(e 8)),(14,b'),(15,c'),(16,d'),(17,(e 8)),(4,(e 8))]) h7 (n8+2)) (aB (aQ .add (e 8) (Value.int IntKind.i64 1)) fun e'=>Q .normal (puts e [(9,a'),(10,(e 8)),(5,(e 8)),(11,(e 1)),(12,(e 0)),(13,(e 8)),(14,b'),(15,c'),(16,d'),(18,e'),(8,e')]) h7 (n8+2))) (Q (.exit 0) (puts e [(9,a')]) h (nx+1))
@[irreducible] def kD (ro:Ro) (v0 v1:Value) (h:T Obj) (nx:Nat) (K:KV):Prop:=aB (bS v0) fun e'=>dZ (jH ro) (puts (fT [v0,v1]) [(4,(Value.int IntKind.i64 0)),(6,v0),(7,e'),(8,(Value.int IntKind.i64 0))]) h (nx+4) fun f' a' b' c'=>gI f' (gE ro K a' b' c') (fun g'=>dH (Nat.beq g' 0) (gE ro K a' b' c') (False)) (∃ d',aZ d' b'∧K (a' 4) d' c')
theorem pM {ro:Ro}{v0 v1:Value}{h:T Obj}{nx:Nat}{K:KV} (hw:kD ro v0 v1 h nx K):aO Tryz.prog ro gJ [v0,v1] h nx K:=zzO (fn:=Tryz.f182) hw
@[irreducible] def mM (ro:Ro) (K:KV):dL→T Obj→Nat→Prop:=fun e h nx=>∃ h1,aZ h1 h∧K (Value.int IntKind.i64 (-1)) h1 (nx+1)
@[irreducible] def rD (ro:Ro):PT:=fun e h nx Q=>aB (aQ .lss (e 8) (e 7)) fun a'=>aW a' (aB (cQ 1 (e 0) (e 8)) fun b'=>aB (load1 ro h b') fun c'=>aB (aQ .eql (e 1) c') fun d'=>aW d' (Q .ret (puts e [(9,a'),(10,(e 8)),(5,(e 8)),(11,(e 1)),(12,(e 0)),(13,(e 8)),(14,b'),(15,c'),(16,d'),(17,(e 8)),(4,(e 8))]) h (nx+11)) (aB (aQ .add (e 8) (Value.int IntKind.i64 1)) fun e'=>Q .normal (puts e [(9,a'),(10,(e 8)),(5,(e 8)),(11,(e 1)),(12,(e 0)),(13,(e 8)),(14,b'),(15,c'),(16,d'),(18,e'),(8,e')]) h (nx+11))) (Q (.exit 0) (puts e [(9,a')]) h (nx+1))
@[irreducible] def uN (ro:Ro) (v0 v1:Value) (h:T Obj) (nx:Nat) (K:KV):Prop:=aB (bS v0) fun c'=>dZ (rD ro) (puts (fT [v0,v1]) [(4,(Value.int IntKind.i64 0)),(6,v0),(7,c'),(8,(Value.int IntKind.i64 0))]) h (nx+4) fun d' e8 h9 a'=>gI d' (mM ro K e8 h9 a') (fun e'=>dH (Nat.beq e' 0) (mM ro K e8 h9 a') (False)) (∃ b',aZ b' h9∧K (e8 4) b' a')
theorem aAC {ro:Ro}{v0 v1:Value}{h:T Obj}{nx:Nat}{K:KV} (hw:uN ro v0 v1 h nx K):aO Tryz.prog ro rR [v0,v1] h nx K:=zzO (fn:=Tryz.f187) hw
@[irreducible] def yG (ro:Ro) (K:KV):dL→T Obj→Nat→Prop:=fun e h nx=>aB (loadA ro h 4 (e 3)) fun b'=>aB (bU 4 h (e 2) b') fun h8=>aB (loadA ro h8 4 (e 2)) fun r9=>∃ a',aZ a' h8∧K r9 a' (nx+2)
@[irreducible] def aFS (ro:Ro):PT:=fun e h nx Q=>aB (bS (e 0)) fun a'=>aB (aQ .lss (e 4) a') fun b'=>aW b' (aB (loadA ro h 4 (e 3)) fun c'=>aB (cQ 1 (e 0) (e 4)) fun d'=>aB (load1 ro h d') fun e'=>aO Tryz.prog ro aAR [c',e'] h (nx+11) fun f' h' i'=>aB (bU 4 h' (e 3) f') fun j'=>aB (aQ .add (e 4) (Value.int IntKind.i64 1)) fun g'=>Q .normal (puts e [(6,(e 4)),(7,(e 0)),(8,a'),(9,b'),(12,c'),(13,(e 0)),(14,(e 4)),(15,d'),(16,e'),(17,f'),(10,(e 4)),(11,g'),(4,g')]) j' (i'+3)) (Q (.exit 0) (puts e [(6,(e 4)),(7,(e 0)),(8,a'),(9,b')]) h (nx+4))
@[irreducible] def aLh (ro:Ro) (v0:Value) (h:T Obj) (nx:Nat) (K:KV):Prop:=aB (nF Tryz.prog eY) fun z1=>dM h nx (.cells z1.cells eY) fun h2=>aB (fG Tryz.prog eY []) fun d'=>aB (nF Tryz.prog eY) fun z4=>dM h2 (nx+2) (.cells z4.cells eY) fun h5=>aB (bU 4 h5 (ptr (nx+2)) d') fun h6=>dZ (aFS ro) (puts (fT [v0]) [(2,(ptr nx)),(5,d'),(3,(ptr (nx+2))),(4,(Value.int IntKind.i64 0))]) h6 (nx+5) fun f' b' a' c'=>gI f' (yG ro K b' a' c') (fun g'=>dH (Nat.beq g' 0) (yG ro K b' a' c') (False)) (aB (loadA ro a' 4 (b' 2)) fun h'=>∃ e',aZ e' a'∧K h' e' c')
theorem aLi {ro:Ro}{v0:Value}{h:T Obj}{nx:Nat}{K:KV} (hw:aLh ro v0 h nx K):aO Tryz.prog ro aDP [v0] h nx K:=zzO (fn:=Tryz.f192) hw
end V
end Go.Proofs.YtcaccnneblghgaaGreat
noncomputable section
namespace Go.Proofs.YtcaccnneblghgaaGreat
namespace V
theorem aBM {ro:Ro}{h h':T Obj}{a:Addr}{n:Nat}{l:List Value} (hs:aZ h h') (hc:cellsAt ro h a n=some l):cellsAt ro h' a n=some l:=by
 unfold cellsAt at hc ⊢
 cases hsp:a.spot with
 | none=>rw[hsp] at hc; exact hc
 | some z =>
  rw[hsp] at hc
  simp only at hc ⊢
  cases hg:h.get a.block with
  | none=>rw[hg] at hc; cases hc
  | some o=>rw[hg] at hc; rw[hs _ _ hg]; exact hc
theorem aBy {ro:Ro}:∀ {n:Nat}{a:Addr}{l:List Value},roCells ro a n=some l→l.length=n
 | 0,a,l,h=>by cases h; rfl
 | n+1,a,l,h=>by
  obtain⟨v,h1,h⟩:=aP h
  obtain⟨r,h2,h⟩:=aP h
  cases h
  simp[aBy h2]
theorem aA9 {ro:Ro}:∀ {off n k:Nat}{a:Addr}{l:List Value},roCells ro a n=some l→a.spot=none→off+k≤n→roCells ro ⟨a.block,a.off+off,none⟩ k=some ((l.drop off).take k)
 | 0,n,0,a,l,h,hs,hk=>by simp[roCells]
 | 0,0,k+1,a,l,h,hs,hk=>by omega
 | 0,n+1,k+1,a,l,h,hs,hk=>by
  obtain⟨v,h1,h⟩:=aP h
  obtain⟨r,h2,h⟩:=aP h
  cases h
  have ih:=aA9 (off:=0) (k:=k) h2 rfl (by omega)
  have ha:(⟨a.block,a.off+0,none⟩:Addr)=a:=by cases a; simp_all
  rw[ha]
  simp only[roCells,h1,Option.bind_some]
  simp only[Nat.add_zero] at ih
  rw[ih]; simp
 | off+1,0,k,a,l,h,hs,hk=>by omega
 | off+1,n+1,k,a,l,h,hs,hk=>by
  obtain⟨v,h1,h⟩:=aP h
  obtain⟨r,h2,h⟩:=aP h
  cases h
  have ih:=aA9 (off:=off) (k:=k) h2 rfl (by omega)
  rw[show a.off+(off+1)=a.off+1+off by omega,List.drop_succ_cons]
  exact ih
theorem aHU {ro:Ro}:∀ {l:List Value}{a:Addr},a.spot=none→(∀ j x,l[j]?=some x→ro ⟨a.block,a.off+j,none⟩=some x)→roCells ro a l.length=some l
 | [],a,hs,h=>rfl
 | v::l,a,hs,h=>by
  have ha:(⟨a.block,a.off+0,none⟩:Addr)=a:=by cases a; simp_all
  have h0:=h 0 v rfl
  rw[ha] at h0
  have ih:=aHU (l:=l) (a:=⟨a.block,a.off+1,none⟩) rfl fun j x hx=>by
   have:=h (j+1) x (by simpa using hx)
   rw[show a.off+1+j=a.off+(j+1) by omega]; exact this
  simp[roCells,h0,ih]
theorem pG {ro:Ro}{h:T Obj}{a:Addr}{n off k:Nat}{l:List Value} (hc:cellsAt ro h a n=some l) (hk:off+k≤n):cellsAt ro h (elt a off) k=some ((l.drop off).take k):=by
 obtain⟨b,o,s⟩:=a
 cases s with
 | none=>exact aA9 (a:=⟨b,o,none⟩) hc rfl hk
 | some z =>
  rw[qW] at hc
  obtain⟨c,h1,h2⟩:=aP hc
  split at h2
  ·rename_i hle
   cases h2
   show cellsAt ro h ⟨b,o+off,some 0⟩ k=_
   rw[qW,h1]
   simp only[Option.bind_some]
   rw[if_pos (by omega),List.drop_take,List.drop_drop,List.take_take,Nat.min_eq_left (by omega)]
  ·cases h2
theorem mU {z:Nat}:∀ {l:List (List Value)},(∀ x∈l,x.length=z)→l.flatten.length=l.length*z∧∀ i x,l[i]?=some x→(l.flatten.drop (i*z)).take z=x
 | [],_=>⟨by simp,fun i x hx=>by simp at hx⟩
 | y::r,hz=>by
  have hy:=hz y (by simp)
  obtain⟨h1,h2⟩:=mU (l:=r) fun x hx=>hz x (by simp[hx])
  refine⟨by simp[h1,hy,Nat.add_mul]; omega,?_⟩
  intro i x hx
  cases i with
  | zero=>simp at hx; subst hx; subst hy; simp
  | succ i =>
   have:=h2 i x (by simpa using hx)
   rw[Nat.succ_mul,show i*z+z=y.length+i*z by omega,List.flatten_cons,List.drop_append,List.drop_eq_nil_of_le (Nat.le_add_right _ _)]
   simpa using this
theorem aDp {z:Nat}:∀ {l:List (List Value)} (n:Nat),(∀ x∈l,x.length=z)→l.flatten.take (n*z)=(l.take n).flatten
 | [],n,_=>by simp
 | y::r,0,_=>by simp
 | y::r,n+1,hz=>by
  have hy:=hz y (by simp)
  rw[List.take_succ_cons,List.flatten_cons,List.flatten_cons,Nat.succ_mul,show n*z+z=y.length+n*z by omega,List.take_append,List.take_of_length_le (Nat.le_add_right _ _),Nat.add_sub_cancel_left,
   aDp n fun x hx=>hz x (by simp[hx])]
def Sl (ro:Ro) (h:T Obj) (v:Value) (z:Nat) (l:List (List Value)):Prop :=
 (v=.slice none 0 0∧l=[])∨∃ a cap,v=.slice (some a) l.length cap∧l.length≤cap∧(a.spot=none∨a.spot=some z)∧(∀ x∈l,x.length=z)∧cellsAt ro h a (l.length*z)=some l.flatten
theorem Sl.at {ro:Ro}{h:T Obj}{a:Addr}{z:Nat}{l:List (List Value)} (hz:∀ x∈l,x.length=z) (hc:cellsAt ro h a (l.length*z)=some l.flatten):∀ i x,l[i]?=some x→x.length=z∧cellsAt ro h (elt a (i*z)) z=some x:=by
 intro i x hx
 refine⟨hz x (List.mem_of_getElem? hx),?_⟩
 have hi:=(List.getElem?_eq_some_iff.1 hx).1
 have:i*z+z≤l.length*z:=by rw[← Nat.succ_mul]; exact Nat.mul_le_mul_right _ hi
 rw[pG hc this,(mU hz).2 i x hx]
def i3 (z:Nat) (v:Value) (i:Nat):Value:=match v with
 | .slice (some a) _ _=>.pointer (some (elt a (i*z)))
 | _=>undef
section
variable {ro:Ro}{h h':T Obj}{v:Value}{z:Nat}{l:List (List Value)}
theorem Sl.nil:Sl ro h (.slice none 0 0) z []:=.inl ⟨rfl,rfl⟩
theorem Sl.sub (hs:aZ h h') (hl:Sl ro h v z l):Sl ro h' v z l:=by
 rcases hl with hl | ⟨a,cap,h1,h2,h3,h4⟩
 ·exact .inl hl
 ·exact .inr ⟨a,cap,h1,h2,h3,h4.1,aBM hs h4.2⟩
theorem Sl.len (hl:Sl ro h v z l):bS v=some (.int .i64 l.length):=by
 rcases hl with ⟨rfl,rfl⟩ | ⟨a,cap,rfl,_⟩<;>rfl
theorem Sl.ix (hl:Sl ro h v z l) (k:IntKind) {i:Nat} (hi:i < l.length):cQ z v (.int k (i:Int))=some (i3 z v i):=by
 rcases hl with ⟨rfl,rfl⟩ | ⟨a,cap,rfl,h2,h3,h4⟩
 ·simp at hi
 ·have hn:pL (.int k (i:Int))=some i:=by simp[pL]
  have hb:Nat.blt i l.length=true:=by simp[Nat.blt]; omega
  unfold cQ
  rw[hn]
  simp only[Option.bind,hb]
  rcases h3 with h3 | h3
  ·rw[h3]; simp[i3,elt,fwd,h3]
  ·rw[h3]; simp[i3,elt,h3]
theorem Sl.loadA (hl:Sl ro h v z l) {i:Nat}{x:List Value} (hx:l[i]?=some x):loadA ro h z (i3 z v i)=some (.agg x.toArray):=by
 rcases hl with ⟨rfl,rfl⟩ | ⟨a,cap,rfl,h2,h3,h4⟩
 ·simp at hx
 ·simp[V.loadA,i3,asP,(Sl.at h4.1 h4.2 i x hx).2]
theorem Sl.load1 (hl:Sl ro h v 1 l) {i:Nat}{x:Value} (hx:l[i]?=some [x]):load1 ro h (i3 1 v i)=some x:=by
 rcases hl with ⟨rfl,rfl⟩ | ⟨a,cap,rfl,h2,h3,h4⟩
 ·simp at hx
 ·have:=(Sl.at h4.1 h4.2 i _ hx).2
  simp only[V.load1,i3,asP,Option.bind,this]
theorem aPB {a:Addr}{n:Nat}{x:List Value} (hs:aZ h h') (hx:cellsAt ro h a n=some x):gZ (.pointer (some a)) h h':=by
 unfold gZ blk
 cases hz:a.spot with
 | none=>simp only[hz]
 | some z =>
  simp only[hz]
  unfold cellsAt at hx
  rw[hz] at hx
  cases hg:h.get a.block with
  | none=>rw[hg] at hx; cases hx
  | some o=>exact⟨by rw[hg,hs _ _ hg],by rw[hg]; rfl⟩
end
theorem eL {h h':T Obj}{id off z:Nat}{o:Obj} (hg:h.get id=some o) (hs:h'.get id=some o):gZ (at_ id off z) h h':=⟨by rw[hg,hs],by rw[hg]; rfl⟩
theorem Sl.own {ro:Ro}{h:T Obj}{id z cap:Nat}{l:List (List Value)}{e:TypeId}{f:Nat × Nat} (hg:h.get id=some (.cells l.flatten.toArray e f)) (hz:∀ x∈l,x.length=z) (hc:l.length≤cap):Sl ro h (.slice (some (V.own id z)) l.length cap) z l:=by
 refine .inr ⟨V.own id z,cap,rfl,hc,.inr rfl,hz,?_⟩
 have h1:=(mU hz).1
 show cellsAt ro h ⟨id,0,some z⟩ _=_
 rw[qW,hg,bP]
 simp only[Option.bind_some]
 rw[if_pos (by rw[h1]; omega),List.drop_zero,List.take_of_length_le (by rw[h1]; omega)]
theorem eE {i:Nat}{A:Prop}{B:Nat→Prop}{D:Prop} (h:B i):gI (.exit i) A B D:=h
theorem fP {A:Prop}{B:Nat→Prop}{D:Prop} (h:D):gI .ret A B D:=h
theorem dG {A B:Prop} (h:A):dH true A B:=h
theorem Sl.take {P:Program}{t e:TypeId}{ro:Ro}{h:T Obj}{v:Value}{z:Nat}{l:List (List Value)} (hl:Sl ro h v z l) (hu:iM P t=some (.slice e)) (hz:p6 P e=some z) (hz0:0 < z) {n:Nat} (hn:n≤l.length) (k:IntKind) :
  ∃ r,nX P t v none (some (.int k (n:Int))) none=some r∧Sl ro h r z (l.take n):=by
 have hnv:pL (.int k (n:Int))=some n:=by simp[pL]
 rcases hl with ⟨rfl,rfl⟩ | ⟨a,cap,rfl,h2,h3,h4⟩
 ·simp at hn; subst hn
  refine⟨.slice none 0 0,?_,.inl ⟨rfl,rfl⟩⟩
  unfold nX
  simp[hu,hz,kX,pL]
 ·have hb:Nat.ble n cap=true:=Nat.ble_eq_true_of_le (by omega)
  have hlen:(l.take n).length=n:=by rw[List.length_take]; omega
  refine⟨.slice (some a) n cap,?_,.inr ⟨a,cap,by rw[hlen],by rw[hlen]; omega,h3,fun x hx=>h4.1 x (List.mem_of_mem_take hx),?_⟩⟩
  ·unfold nX
   have hb1:Nat.ble n l.length=true:=Nat.ble_eq_true_of_le hn
   have hb0:Nat.ble 0 n=true:=Nat.ble_eq_true_of_le (Nat.zero_le _)
   have e0:fwd a (0*z)=a:=by simp[fwd]
   have e1:kX none cap cap=some cap:=rfl
   have e2:kX (some (.int k (n:Int))) l.length cap=some n:=by simp[kX,hnv,hb]
   have e3:kX none 0 n=some 0:=rfl
   simp only[hu,hz,Option.bind,e1,e2,e3,hb,Option.isNone,Bool.true_or,Nat.sub_zero]
   rcases h3 with h3 | h3
   ·simp only[h3]
    cases hc:Nat.beq cap 0 with
    | true=>simp only
    | false=>simp only[e0]
   ·simp only[h3,Nat.beq_refl,e0]
  ·have hk:0+n*z≤l.length*z:=by rw[Nat.zero_add]; exact Nat.mul_le_mul_right _ hn
   have:=pG h4.2 hk
   rw[List.drop_zero,aDp n h4.1] at this
   rw[hlen]
   rcases h3 with h3 | h3
   ·have e:elt a 0=a:=by obtain⟨b,o,sp⟩:=a; change sp=none at h3; subst h3; rfl
    rw[e] at this; exact this
   ·unfold cellsAt at this ⊢
    simp only[elt,h3,Option.map,Nat.add_zero] at this ⊢
    exact this
def Own (h:T Obj) (v:Value) (z:Nat) (e:TypeId) (l:List (List Value)) (lo hi:Nat):Prop :=
 (v=.slice none 0 0∧l=[])∨∃ id,lo≤id∧id < hi∧v=.slice (some (own id z)) l.length l.length∧(∀ x∈l,x.length=z)∧h.get id=some (.cells l.flatten.toArray e)
theorem Own.sl {ro:Ro}{h:T Obj}{v:Value}{z:Nat}{e:TypeId}{l:List (List Value)}{lo hi:Nat} (ho:Own h v z e l lo hi):Sl ro h v z l:=by
 rcases ho with ho | ⟨id,_,_,rfl,h4,h5⟩
 ·exact .inl ho
 ·exact Sl.own h5 h4 (Nat.le_refl _)
theorem Own.nil {h:T Obj}{z:Nat}{e:TypeId}{lo hi:Nat}:Own h (.slice none 0 0) z e [] lo hi:=.inl ⟨rfl,rfl⟩
theorem Own.keep {h h':T Obj}{v:Value}{z:Nat}{e:TypeId}{l:List (List Value)}{lo hi hi':Nat} (ho:Own h v z e l lo hi) (hh:hi≤hi') (hk:∀ id,lo≤id→id < hi→∀ o,h.get id=some o→h'.get id=some o):Own h' v z e l lo hi':=by
 rcases ho with ho | ⟨id,h1,h2,h3,h4,h5⟩
 ·exact .inl ho
 ·exact .inr ⟨id,h1,by omega,h3,h4,hk id h1 h2 _ h5⟩
theorem aAI {P:Program}{ro:Ro}{h:T Obj}{v x:Value}{z nx lo hi:Nat}{t e:TypeId}{i:TypeInfo}{zv:Value}{l m:List (List Value)} (ho:Own h v z e l lo hi) (hx:Sl ro h x z m) (hu:iM P t=some (.slice e)) (hi':tin P e=some i) (hz:i.size=z) (hz0:0 < z) (hzer:nF P e=some zv) (hzs:zv.cells.size=z)
  (hm:m≠[]) (hok:m.flatten.all eA=true) (hb:(l.length+m.length)*i.bytes≤oG) (hb2:l.length+m.length≤oG) (hlo:lo≤nx) (hnx:hi≤nx) :
  ∃ h',cZ P ro h nx #[t,t] [v,x]=some (.slice (some (own nx z)) (l++m).length (l++m).length,h',nx+1)∧Own h' (.slice (some (own nx z)) (l++m).length (l++m).length) z e (l++m) lo (nx+1) ∧
   (∀ k,(k < lo∨hi≤k)→k≠nx→h'.get k=h.get k)∧(∀ k,k≠nx→h'.get k=h.get k∨h'.get k=none):=by
 have hml:0 < m.length:=List.length_pos_iff.2 hm
 obtain⟨a,capx,rfl,hcx,hsx,hzx,hxc⟩:∃ a cap,x=.slice (some a) m.length cap∧m.length≤cap∧(a.spot=none∨a.spot=some z)∧(∀ x∈m,x.length=z)∧cellsAt ro h a (m.length*z)=some m.flatten:=by
  rcases hx with ⟨_,hx⟩ | hx
  ·exact absurd hx hm
  ·exact hx
 have hb1:Nat.ble ((l.length+m.length)*i.bytes) oG=true:=Nat.ble_eq_true_of_le hb
 have hb2':Nat.ble (l.length+m.length) oG=true:=Nat.ble_eq_true_of_le hb2
 have hb3:Nat.blt 0 z=true:=by simp[Nat.blt]; omega
 have hfull:Nat.ble (l.length+m.length) l.length=false:=by
  cases hq:Nat.ble (l.length+m.length) l.length with
  | false=>rfl
  | true=>have:=Nat.le_of_ble_eq_true hq; omega
 rcases ho with ⟨rfl,rfl⟩ | ⟨id,h1,h2,rfl,h4,h5⟩
 ·refine⟨h.upd nx (some (.cells m.flatten.toArray e)),?_,.inr ⟨nx,hlo,by omega,by simp,by simpa using hzx,by rw[T.get_upd_same]; simp⟩,fun k _ hk=>T.get_upd_ne _ _ hk,fun k hk=>.inl (T.get_upd_ne _ _ hk)⟩
  simp only[List.length_nil] at hb1 hb2' hfull
  simp only[cZ,List.getElem?_toArray,List.getElem?_cons_zero,List.getElem?_cons_succ,hu,hi',Option.bind_some,aBG,hz,hxc,hfull,hzer,hb1,hb2',hb3,hzs,Nat.beq_refl,hok,aJf]
  simp
 ·have hl:=(mU h4).1
  have hcl:cellsAt ro h ⟨id,0,some z⟩ (l.length*z)=some l.flatten:=by
   rw[qW,h5,bP]
   simp only[Option.bind_some]
   rw[if_pos (by rw[hl]; omega),List.drop_zero,List.take_of_length_le (by rw[hl]; omega)]
  refine⟨(h.upd id none).upd nx (some (.cells (l.flatten++m.flatten).toArray e)),?_,.inr ⟨nx,hlo,by omega,by simp,?_,by rw[T.get_upd_same]; simp⟩,?_,?_⟩
  ·simp only[cZ,List.getElem?_toArray,List.getElem?_cons_zero,List.getElem?_cons_succ,hu,hi',Option.bind_some,aBG,hz,hxc,hfull,hzer,hb1,hb2',hb3,hzs,Nat.beq_refl,hok,aJf,own,hcl]
   simp
  ·intro x hx
   rcases List.mem_append.1 hx with hx | hx
   ·exact h4 x hx
   ·exact hzx x hx
  ·intro k hk hne
   rw[T.get_upd_ne _ _ hne,T.get_upd_ne _ _ (by omega)]
  ·intro k hne
   rw[T.get_upd_ne _ _ hne]
   by_cases e:k=id
   ·subst e; right; rw[T.get_upd_same]
   ·left; rw[T.get_upd_ne _ _ e]
end V
end Go.Proofs.YtcaccnneblghgaaGreat
noncomputable section
namespace Go.Proofs.YtcaccnneblghgaaGreat
namespace V
theorem aRW {p:Prop}{dp:Decidable p}{A B:Prop} (h1:p→A) (h2:¬ p→B):aW (.bool (@decide p dp)) A B:=by
 by_cases hp:p
 ·rw[decide_eq_true hp]; exact h1 hp
 ·rw[decide_eq_false hp]; exact h2 hp
theorem kb {K:KV}{h:T Obj}{nx n:Nat}{b c:Bool} (hK:∀ n,nx≤n→K (.bool b) h n) (e:b=c) (hn:nx≤n):K (.bool c) h n:=by subst e; exact hK n hn
theorem ki {K:KV}{h:T Obj}{nx n:Nat}{k:IntKind}{b c:Int} (hK:∀ n,nx≤n→K (.int k b) h n) (e:b=c) (hn:nx≤n):K (.int k c) h n:=by subst e; exact hK n hn
section
variable {k:IntKind}{a b:Int}{K:Value→Prop}
theorem aLP (h:a < b) (hk:K (.bool true)):aB (aQ .lss (.int k a) (.int k b)) K:=by rw[bL,decide_eq_true h]; exact hk
theorem aLO (h:b≤a) (hk:K (.bool false)):aB (aQ .lss (.int k a) (.int k b)) K:=by rw[bL,decide_eq_false (by omega)]; exact hk
theorem dS (h1:a < b→K (.bool true)) (h2:b≤a→K (.bool false)):aB (aQ .lss (.int k a) (.int k b)) K:=by
 by_cases h:a < b
 ·exact aLP h (h1 h)
 ·exact aLO (by omega) (h2 (by omega))
theorem aTo (h:a≤b) (hk:K (.bool true)):aB (aQ .leq (.int k a) (.int k b)) K:=by rw[bK,decide_eq_true h]; exact hk
theorem aTn (h:b < a) (hk:K (.bool false)):aB (aQ .leq (.int k a) (.int k b)) K:=by rw[bK,decide_eq_false (by omega)]; exact hk
theorem aGn (h1:a≤b→K (.bool true)) (h2:b < a→K (.bool false)):aB (aQ .leq (.int k a) (.int k b)) K:=by
 by_cases h:a≤b
 ·exact aTo h (h1 h)
 ·exact aTn (by omega) (h2 (by omega))
theorem aIa (h:b < a) (hk:K (.bool true)):aB (aQ .gtr (.int k a) (.int k b)) K:=by rw[bJ,decide_eq_true h]; exact hk
theorem aI9 (h:a≤b) (hk:K (.bool false)):aB (aQ .gtr (.int k a) (.int k b)) K:=by rw[bJ,decide_eq_false (by omega)]; exact hk
theorem nH (h1:b < a→K (.bool true)) (h2:a≤b→K (.bool false)):aB (aQ .gtr (.int k a) (.int k b)) K:=by
 by_cases h:b < a
 ·exact aIa h (h1 h)
 ·exact aI9 (by omega) (h2 (by omega))
theorem aGe (h:b≤a) (hk:K (.bool true)):aB (aQ .geq (.int k a) (.int k b)) K:=by rw[bH,decide_eq_true h]; exact hk
theorem aGd (h:a < b) (hk:K (.bool false)):aB (aQ .geq (.int k a) (.int k b)) K:=by rw[bH,decide_eq_false (by omega)]; exact hk
theorem yB (h1:b≤a→K (.bool true)) (h2:a < b→K (.bool false)):aB (aQ .geq (.int k a) (.int k b)) K:=by
 by_cases h:b≤a
 ·exact aGe h (h1 h)
 ·exact aGd (by omega) (h2 (by omega))
theorem aI5 (h:a=b) (hk:K (.bool true)):aB (aQ .eql (.int k a) (.int k b)) K:=by rw[bD,decide_eq_true h]; exact hk
theorem aI3 (h:a≠b) (hk:K (.bool false)):aB (aQ .eql (.int k a) (.int k b)) K:=by rw[bD,decide_eq_false h]; exact hk
theorem uY (h1:a=b→K (.bool true)) (h2:a≠b→K (.bool false)):aB (aQ .eql (.int k a) (.int k b)) K:=by
 by_cases h:a=b
 ·exact aI5 h (h1 h)
 ·exact aI3 h (h2 h)
theorem aBa (h:a≠b) (hk:K (.bool true)):aB (aQ .neq (.int k a) (.int k b)) K:=by rw[bI,decide_eq_false h]; exact hk
theorem zX (h:a=b) (hk:K (.bool false)):aB (aQ .neq (.int k a) (.int k b)) K:=by rw[bI,decide_eq_true h]; exact hk
theorem uF (h1:a≠b→K (.bool true)) (h2:a=b→K (.bool false)):aB (aQ .neq (.int k a) (.int k b)) K:=by
 by_cases h:a=b
 ·exact zX h (h2 h)
 ·exact aBa h (h1 h)
end
theorem nO {ro:Ro}{h h':T Obj}{p v:Value} (hs:aZ h h') (hl:load1 ro h p=some v):load1 ro h' p=some v:=by
 unfold V.load1 at hl ⊢
 obtain⟨ad,y1,y2⟩:=aP hl
 rw[y1,Option.bind_some]
 cases hc:cellsAt ro h ad 1 with
 | none=>rw[hc] at y2; cases y2
 | some l=>rw[hc] at y2; rw[aBM hs hc]; exact y2
theorem vZ {ro:Ro}{h h':T Obj}{p v:Value}{n:Nat} (hs:aZ h h') (hl:loadA ro h n p=some v):loadA ro h' n p=some v:=by
 unfold V.loadA at hl ⊢
 obtain⟨ad,y1,y2⟩:=aP hl
 obtain⟨l9,y3,y4⟩:=aP y2
 rw[y1,Option.bind_some,aBM hs y3,Option.bind_some,y4]
def lL (l:List Int):List (List Value):=l.map fun b:Int=>[Value.int .i64 b]
theorem fB (l:List Int):(lL l).length=l.length:=by simp[lL]
theorem j6 {l:List Int}{i:Nat} (hi:i < l.length):(lL l)[i]?=some [.int .i64 l[i]]:=by simp[lL,hi]
def ZI (ro:Ro) (h:T Obj) (v:Value) (l:List Int):Prop:=Sl ro h v 1 (lL l)
section
variable {ro:Ro}{h h':T Obj}{v:Value}{l:List Int}
theorem ZI.sub (hs:aZ h h') (hl:ZI ro h v l):ZI ro h' v l:=Sl.sub hs hl
theorem ZI.len (hl:ZI ro h v l):bS v=some (.int .i64 l.length):=by have:=Sl.len hl; rwa [fB] at this
theorem ZI.ix (hl:ZI ro h v l) (k:IntKind) {i:Nat} (hi:i < l.length):cQ 1 v (.int k (i:Int))=some (i3 1 v i):=Sl.ix hl k (by rw[fB]; exact hi)
theorem ZI.ixI (hl:ZI ro h v l) (k:IntKind) {i:Int} (h0:0≤i) (hi:i < l.length):cQ 1 v (.int k i)=some (i3 1 v i.toNat):=by
 have:=hl.ix k (i:=i.toNat) (by omega)
 rwa [Int.toNat_of_nonneg h0] at this
theorem ZI.load (hl:ZI ro h v l) {i:Nat} (hi:i < l.length):load1 ro h (i3 1 v i)=some (.int .i64 l[i]):=Sl.load1 hl (j6 hi)
end
theorem ZI.load' {ro:Ro}{h:T Obj}{v:Value}{l:List Int} (hl:ZI ro h v l) {i:Nat}{x:Int} (hx:l[i]?=some x):load1 ro h (i3 1 v i)=some (.int .i64 x):=by
 obtain⟨hi,he⟩:=List.getElem?_eq_some_iff.1 hx
 rw[hl.load hi,he]
theorem Sl.ok {ro:Ro}{h:T Obj}{v:Value}{z:Nat}{cs:List (List Value)} (hl:Sl ro h v z cs):eA v=true:=by
 rcases hl with ⟨rfl,_⟩ | ⟨a,cap,rfl,_⟩<;>rfl
theorem ZI.ok {ro:Ro}{h:T Obj}{v:Value}{l:List Int} (hl:ZI ro h v l):eA v=true:=Sl.ok hl
theorem cU {α:Type}{l:List α}{k:Nat} (hk:k < l.length):l.drop k=l[k]::l.drop (k+1):=List.drop_eq_getElem_cons hk
theorem gG {α:Type}{l:List α}{k:Nat} (hk:l.length≤k):l.drop k=[]:=List.drop_eq_nil_of_le hk
def mT (z:Nat) (v:Value) (i k:Nat):Value:=match v with
 | .slice (some a) _ _=>.pointer (some (elt a (i*z+k)))
 | _=>undef
def iO {D:Type} (ro:Ro) (h:T Obj) (v:Value) (z:Nat) (R:List Value→D→Prop) (l:List D):Prop:=∃ cs,Sl ro h v z cs∧cs.length=l.length∧∀ (i:Nat) x d,cs[i]?=some x→l[i]?=some d→R x d
section
variable {D:Type}{ro:Ro}{h h':T Obj}{v:Value}{z:Nat}{R R':List Value→D→Prop}{l:List D}
theorem iO.imp (hl:iO ro h v z R l) (hR:∀ x d,R x d→R' x d):iO ro h v z R' l:=by
 obtain⟨cs,h1,h2,h3⟩:=hl
 exact⟨cs,h1,h2,fun i x d hx hd=>hR _ _ (h3 i x d hx hd)⟩
theorem iO.sub (hs:aZ h h') (hR:∀ x d,R x d→R' x d) (hl:iO ro h v z R l):iO ro h' v z R' l:=by
 obtain⟨cs,h1,h2,h3⟩:=hl
 exact⟨cs,h1.sub hs,h2,fun i x d hx hd=>hR _ _ (h3 i x d hx hd)⟩
theorem iO.len (hl:iO ro h v z R l):bS v=some (.int .i64 l.length):=by
 obtain⟨cs,h1,h2,h3⟩:=hl
 have:=h1.len
 rwa [h2] at this
theorem iO.ix (hl:iO ro h v z R l) (k:IntKind) {i:Nat} (hi:i < l.length):cQ z v (.int k (i:Int))=some (i3 z v i):=by
 obtain⟨cs,h1,h2,h3⟩:=hl
 exact h1.ix k (by omega)
theorem iO.ixI (hl:iO ro h v z R l) (k:IntKind) {i:Int} (h0:0≤i) (hi:i < l.length):cQ z v (.int k i)=some (i3 z v i.toNat):=by
 have:=hl.ix k (i:=i.toNat) (by omega)
 rwa [Int.toNat_of_nonneg h0] at this
theorem aNj (a:Addr) (i j:Nat):fwd (elt a i) j=elt a (i+j):=by
 obtain⟨b,o,s⟩:=a
 cases s<;>simp[fwd,elt,Nat.add_assoc]
theorem Sl.fwd {cs:List (List Value)} (hl:Sl ro h v z cs) {i:Nat} (hi:i < cs.length) (k:Nat):aT k (i3 z v i)=some (mT z v i k):=by
 rcases hl with ⟨rfl,rfl⟩ | ⟨a,cap,rfl,h2,h3,h4⟩
 ·simp at hi
 ·simp only[aT,i3,asP,Option.bind,mT,aNj]
theorem Sl.load1K {cs:List (List Value)} (hl:Sl ro h v z cs) {i k:Nat}{x:List Value}{w:Value} (hx:cs[i]?=some x) (hk:x[k]?=some w):V.load1 ro h (mT z v i k)=some w:=by
 rcases hl with ⟨rfl,rfl⟩ | ⟨a,cap,rfl,h2,h3,h4⟩
 ·simp at hx
 ·have h5:=(Sl.at h4.1 h4.2 i _ hx)
  have hkl:=(List.getElem?_eq_some_iff.1 hk).1
  have hi:=(List.getElem?_eq_some_iff.1 hx).1
  have h6:i*z+k+1≤cs.length*z:=by
   have:i*z+z≤cs.length*z:=by rw[← Nat.succ_mul]; exact Nat.mul_le_mul_right _ hi
   omega
  have h7:=pG h4.2 (off:=i*z+k) (k:=1) h6
  have h8:=(mU h4.1).2 i x hx
  have h9:(cs.flatten.drop (i*z+k)).take 1=[w]:=by
   have:(cs.flatten.drop (i*z+k))[0]?=some w:=by
    rw[← h8] at hk
    rw[List.getElem?_take,if_pos (by omega),List.getElem?_drop] at hk
    rw[List.getElem?_drop]; simpa using hk
   have h10:=aDF (l:=cs.flatten.drop (i*z+k)) (off:=0) this
   simpa using h10
  rw[h9] at h7
  simp only[V.load1,mT,asP,Option.bind,h7]
theorem iO.at (hl:iO ro h v z R l) {i:Nat} (hi:i < l.length):∃ x,R x l[i]∧x.length=z∧V.loadA ro h z (i3 z v i)=some (.agg x.toArray)∧(∀ k,aT k (i3 z v i)=some (mT z v i k))∧∀ k w,x[k]?=some w→V.load1 ro h (mT z v i k)=some w:=by
 obtain⟨cs,h1,h2,h3⟩:=hl
 have hx:cs[i]?=some (cs[i]'(by omega)):=List.getElem?_eq_getElem _
 refine⟨_,h3 i _ _ hx (List.getElem?_eq_getElem hi),?_,h1.loadA hx,fun k=>h1.fwd (by omega) k,fun k w hk=>h1.load1K hx hk⟩
 rcases h1 with ⟨rfl,rfl⟩ | ⟨a,cap,rfl,g2,g3,g4⟩
 ·simp at hx
 ·exact g4.1 _ (List.getElem_mem _)
theorem iO.at1 (hl:iO ro h v 1 R l) {i:Nat} (hi:i < l.length):∃ w,R [w] l[i]∧V.load1 ro h (i3 1 v i)=some w:=by
 obtain⟨cs,h1,h2,h3⟩:=hl
 have hx:cs[i]?=some (cs[i]'(by omega)):=List.getElem?_eq_getElem _
 have hz:(cs[i]'(by omega)).length=1:=by
  rcases h1 with ⟨rfl,rfl⟩ | ⟨a,cap,rfl,g2,g3,g4⟩
  ·simp at hx
  ·exact g4.1 _ (List.getElem_mem _)
 generalize cs[i]'(by omega)=x at hx hz
 match x,hz with
 | [w],_=>exact⟨w,h3 i _ _ hx (List.getElem?_eq_getElem hi),h1.load1 hx⟩
end
theorem Sl.loadAK {ro:Ro}{h:T Obj}{v:Value}{z:Nat}{cs:List (List Value)} (hl:Sl ro h v z cs) {i k m:Nat}{x:List Value} (hx:cs[i]?=some x) (hk:k+m≤x.length):V.loadA ro h m (mT z v i k)=some (.agg ((x.drop k).take m).toArray):=by
 rcases hl with ⟨rfl,rfl⟩ | ⟨a,cap,rfl,h2,h3,h4⟩
 ·simp at hx
 ·have h5:=(Sl.at h4.1 h4.2 i _ hx)
  have hi:=(List.getElem?_eq_some_iff.1 hx).1
  have h6:i*z+k+m≤cs.length*z:=by
   have:i*z+z≤cs.length*z:=by rw[← Nat.succ_mul]; exact Nat.mul_le_mul_right _ hi
   omega
  have h7:=pG h4.2 (off:=i*z+k) (k:=m) h6
  have h8:=(mU h4.1).2 i x hx
  have h9:(cs.flatten.drop (i*z+k)).take m=(x.drop k).take m:=by
   rw[← h8,List.drop_take,List.take_take,List.drop_drop,Nat.min_eq_left (by omega)]
  rw[h9] at h7
  simp only[V.loadA,mT,asP,Option.bind,h7]
theorem iO.loadAK {D:Type}{ro:Ro}{h:T Obj}{v:Value}{z:Nat}{R:List Value→D→Prop}{l:List D} (hl:iO ro h v z R l) {i:Nat} (hi:i < l.length):∃ x,R x l[i]∧∀ k m,k+m≤x.length→V.loadA ro h m (mT z v i k)=some (.agg ((x.drop k).take m).toArray):=by
 obtain⟨cs,h1,h2,h3⟩:=hl
 have hx:cs[i]?=some (cs[i]'(by omega)):=List.getElem?_eq_getElem _
 exact⟨_,h3 i _ _ hx (List.getElem?_eq_getElem hi),fun k m hk=>h1.loadAK hx hk⟩
theorem eZ {h:T Obj}{nx m:Nat}{v:Value}{ty:TypeId}{K:T Obj→Prop} (hf:Fr h m) (hm:m≤nx) (hK:∀ h',aZ h h'→Fr h' (nx+1)→h'.get nx=some (.cells (Value.cells v) ty)→(∀ k,k≠nx→h'.get k=h.get k)→K h'):dM h nx (.cells (Value.cells v) ty) K :=
 aE (hK _ ((aZ.refl h).new hf hm) ((hf.mono (show m≤nx+1 by omega)).upd (Nat.le_refl _) (by omega)) (by rw[T.get_upd_same]) fun k hk=>T.get_upd_ne _ _ hk)
theorem aDV {h:T Obj}{nx m:Nat}{o:Obj}{K:T Obj→Prop} (hf:Fr h m) (hm:m≤nx) (hK:∀ h',aZ h h'→Fr h' (nx+1)→h'.get nx=some o→(∀ k,k≠nx→h'.get k=h.get k)→K h'):dM h nx o K :=
 aE (hK _ ((aZ.refl h).new hf hm) ((hf.mono (show m≤nx+1 by omega)).upd (Nat.le_refl _) (by omega)) (by rw[T.get_upd_same]) fun k hk=>T.get_upd_ne _ _ hk)
theorem jB {P:Program}{h:T Obj}{a m n:Nat}{ty:TypeId}{zv v:Value}{x:List Value}{K:T Obj→Prop} (hz:nF P ty=some zv) (hzs:zv.cells.size=n) (hv:v.cells=x.toArray) (hx:x.length=n) (hok:x.all eA=true) (hf:Fr h m) (hm:m≤a)
  (hK:∀ h',aZ h h'→Fr h' (a+1)→h'.get a=some (.cells x.toArray ty)→(∀ k,k≠a→h'.get k=h.get k)→K h') :
  aB (nF P ty) fun z=>dM h a (.cells z.cells ty) fun h1=>aB (bU n h1 (ptr a) v) K:=by
 refine aA hz (aE (aA (nD (l:=zv.cells.toList) (vs:=x) (e:=ty) (f:=(0,0)) (by rw[T.get_upd_same]) hv hx (by simpa using hzs) hok) ?_))
 refine hK _ (((aZ.refl h).new hf hm).new hf hm) (((hf.mono (show m≤a+1 by omega)).upd (Nat.le_refl _) (by omega)).upd (Nat.le_refl _) (by omega)) (by rw[T.get_upd_same]) fun k hk=>?_
 rw[T.get_upd_ne _ _ hk,T.get_upd_ne _ _ hk]
theorem BB:(∀ (h:T Obj) (i:Nat) (o:Obj) (K:T Obj→Prop),dM h i o K=K (h.upd i (some o))) ∧
  (∀ (h:T Obj) (i:Nat) (o:Obj) (K:T Obj→Prop),eR h i (some o) K=K (h.upd i (some o))) ∧
  (∀ (h:T Obj) (i:Nat) (K:T Obj→Prop),eR h i none K=K h) ∧
  (∀ {α:Type} (a:α) (K:α→Prop),aB (some a) K=K a) ∧
  (∀ (A B:Prop),aW (.bool true) A B=A) ∧
  (∀ (A B:Prop),aW (.bool false) A B=B) ∧
  (∀ (h:T Obj) (nx:Nat) (A:KV→Prop) (K:KV),bA (.bool true) true h nx A K=A K) ∧
  (∀ (h:T Obj) (nx:Nat) (A:KV→Prop) (K:KV),bA (.bool false) false h nx A K=A K) ∧
  (∀ (h:T Obj) (nx:Nat) (A:KV→Prop) (K:KV),bA (.bool true) false h nx A K=K undef h nx) ∧
  (∀ (h:T Obj) (nx:Nat) (A:KV→Prop) (K:KV),bA (.bool false) true h nx A K=K undef h nx) ∧
  (∀ (A:Prop) (B:Nat→Prop) (D:Prop),gI .normal A B D=A) ∧
  (∀ (i:Nat) (A:Prop) (B:Nat→Prop) (D:Prop),gI (.exit i) A B D=B i) ∧
  (∀ (A:Prop) (B:Nat→Prop) (D:Prop),gI .ret A B D=D) ∧
  (∀ (A B:Prop),dH true A B=A) ∧
  (∀ (A B:Prop),dH false A B=B) ∧
  (∀ (cs:Array Value),Value.cells (.agg cs)=cs) ∧
  (∀ (k:IntKind) (n:Int),Value.cells (.int k n)=#[.int k n]) ∧
  (∀ (b:Bool),Value.cells (.bool b)=#[.bool b]) ∧
  (∀ (k:IntKind) (a b:Int),aQ .add (.int k a) (.int k b)=some (.int k (wr k (a+b)))) ∧
  (∀ (k:IntKind) (a b:Int),aQ .sub (.int k a) (.int k b)=some (.int k (wr k (a - b)))) ∧
  (∀ (k:IntKind) (a b:Int),aQ .mul (.int k a) (.int k b)=some (.int k (wr k (a*b)))) ∧
  (∀ (k:IntKind) {a b:Int} (ha:0≤a) (hb:0 < b),aQ .quo (.int k a) (.int k b)=some (.int k (wr k (a / b)))) ∧
  (∀ (k:IntKind) {a b:Int} (ha:0≤a) (hb:0 < b),aQ .rem (.int k a) (.int k b)=some (.int k (a % b))) ∧
  (∀ (k':IntKind) (a:Nat) {b:Int} (hb:0≤b) (hk:b≤64),aQ .shr (.int .u64 (a:Int)) (.int k' b)=some (.int .u64 ((a / 2 ^ b.toNat:Nat):Int))) ∧
  (∀ (k':IntKind) {b:Int} (hb:0≤b) (hk:b < 64),aQ .shl (.int .u64 1) (.int k' b)=some (.int .u64 ((2 ^ b.toNat:Nat):Int))) ∧
  (∀ {a b:Int} (ha:0≤a) (hb:0≤b) (ha':a≤18446744073709551615) (hb':b≤18446744073709551615),aQ .and (.int .u64 a) (.int .u64 b)=some (.int .u64 (Nat.land a.toNat b.toNat:Nat))) ∧
  (∀ {a b:Int} (ha:0≤a) (hb:0≤b) (ha':a≤18446744073709551615) (hb':b≤18446744073709551615),aQ .or (.int .u64 a) (.int .u64 b)=some (.int .u64 (Nat.lor a.toNat b.toNat:Nat))) ∧
  (∀ {a b:Int} (ha:0≤a) (hb:0≤b) (ha':a≤18446744073709551615) (hb':b≤18446744073709551615),aQ .xor (.int .u64 a) (.int .u64 b)=some (.int .u64 (Nat.xor a.toNat b.toNat:Nat))) ∧
  (∀ {n:Int} (h1:-9223372036854775808≤n) (h2:n≤9223372036854775807),wr .i64 n=n) ∧
  (∀ {n:Int} (h1:0≤n) (h2:n≤255),wr .u8 n=n) ∧
  (∀ {n:Int} (h1:0≤n) (h2:n≤18446744073709551615),wr .u64 n=n) ∧
  (∀ (k k':IntKind) (n:Int),zP k (.int k' n)=some (.int k (wr k n))) ∧
  (∀ (b:Bool),unV .not (.bool b)=some (.bool (!b))) ∧
  (∀ (a b:Bool),aGO .eql (.bool a) (.bool b)=some (.bool (a==b))) ∧
  (∀ (a b:Bool),aGO .neq (.bool a) (.bool b)=some (.bool (!(a==b)))) ∧
  (∀ (a b:Value),cS (.bool true) a b=some a) ∧
  (∀ (a b:Value),cS (.bool false) a b=some b) ∧
  (∀ (a:Option Addr) (n c:Nat),bS (.slice a n c)=some (.int .i64 n)) ∧
  (∀ (id:Nat),ptr id=at_ id 0 0) ∧
  (∀ (k id off z:Nat),aT k (at_ id off z)=some (at_ id (off+k) z)) ∧
  (∀ (n z id off y:Nat) (k:IntKind) {i:Int} (h0:0≤i) (h1:i < n),ixArr n z (at_ id off y) (.int k i)=some (at_ id (off+i.toNat*z) y)) ∧
  (∀ (ro:Ro) (h:T Obj) (id off z:Nat),load1 ro h (at_ id off z)=(rI (h.get id)).bind fun c=>c[off]?) ∧
  (∀ (ro:Ro) (h:T Obj) (n id off z:Nat),loadA ro h n (at_ id off z)=(rI (h.get id)).bind fun c=>if off+n≤c.length then some (.agg ((c.drop off).take n).toArray) else none) ∧
  (∀ (n:Nat) (h:T Obj) (id off z:Nat) (v:Value),bU n h (at_ id off z) v=if v.cells.size=n then (aIp (h.get id) off v.cells.toList).bind (fun o=>some (h.upd id (some o))) else none) ∧
  (∀ (c:Array Value) (e:TypeId) (f:Nat × Nat),rI (some (.cells c e f))=some c.toList) ∧
  (∀ {c:Array Value} {e:TypeId} {f:Nat × Nat} {off:Nat} {vs:List Value} (h1:off+vs.length≤c.size) (h2:vs.all eA=true),aIp (some (.cells c e f)) off vs=some (.cells (over c.toList off vs).toArray e f)) ∧
  (∀ (l:List Value),l.toArray.toList=l) ∧
  (∀ (l:List Value),l.toArray.size=l.length) :=
 ⟨@eG,@dF,@dE,@bY,@cM,@b8,@fL,@fH,@fK,@fJ,@cN,@dO,@eH,@c8,@cK,@Value.cells_agg,@cY,@cL,@cH,@dK,@dI,@dP,@dQ,@bT,@bQ,@cO,@dD,@cP,@dT,@gT,@fA,@dC,@eK,@dA,@dB,@cR,@cB,@cA,@fC,@eJ,@dR,@cV,@cJ,@cF,@bP,@bW,@tl,@ts⟩
theorem B2:(∀ (h:Decidable True),@decide True h=true)∧(∀ (h:Decidable False),@decide False h=false)∧((!true)=false)∧((!false)=true) ∧
  (∀ {α β:Type} (a:α) (f:α→Option β),(some a).bind f=f a)∧(∀ {α:Type} (t:T α) (k:Nat) (o:Option α),(t.upd k o).get k=o)∧(∀ {α:Type} (t:T α) {k i:Nat} (o:Option α),i≠k→(t.upd k o).get i=t.get i) ∧
  (∀ {α:Type} {c:Prop} {h:Decidable c} {a b:α},c→@ite α c h a b=a)∧(∀ n:Nat,0+n=n)∧(∀ n:Nat,n*1=n)∧(∀ n:Nat,n+0=n)∧(∀ n:Nat,(n:Int).toNat=n)∧(∀ n:Nat,n≤n) :=
 ⟨fun _=>decide_true ..,fun _=>decide_false ..,rfl,rfl,fun _ _=>rfl,T.get_upd_same,fun t _ _ o h=>T.get_upd_ne t o h,fun h=>if_pos h,Nat.zero_add,Nat.mul_one,fun _=>rfl,fun _=>rfl,Nat.le_refl⟩
theorem CC:(∀ {k:IntKind}{a b:Int},a < b→aQ .lss (.int k a) (.int k b)=some (.bool true))∧(∀ {k:IntKind}{a b:Int},b≤a→aQ .lss (.int k a) (.int k b)=some (.bool false)) ∧
  (∀ {k:IntKind} {a b:Int},a≤b→aQ .leq (.int k a) (.int k b)=some (.bool true))∧(∀ {k:IntKind} {a b:Int},b < a→aQ .leq (.int k a) (.int k b)=some (.bool false)) ∧
  (∀ {k:IntKind} {a b:Int},b < a→aQ .gtr (.int k a) (.int k b)=some (.bool true))∧(∀ {k:IntKind} {a b:Int},a≤b→aQ .gtr (.int k a) (.int k b)=some (.bool false)) ∧
  (∀ {k:IntKind} {a b:Int},b≤a→aQ .geq (.int k a) (.int k b)=some (.bool true))∧(∀ {k:IntKind} {a b:Int},a < b→aQ .geq (.int k a) (.int k b)=some (.bool false)) ∧
  (∀ {k:IntKind} {a b:Int},a=b→aQ .eql (.int k a) (.int k b)=some (.bool true))∧(∀ {k:IntKind} {a b:Int},a≠b→aQ .eql (.int k a) (.int k b)=some (.bool false)) ∧
  (∀ {k:IntKind} {a b:Int},a≠b→aQ .neq (.int k a) (.int k b)=some (.bool true))∧(∀ {k:IntKind} {a b:Int},a=b→aQ .neq (.int k a) (.int k b)=some (.bool false)):=by
 refine⟨?_,?_,?_,?_,?_,?_,?_,?_,?_,?_,?_,?_⟩<;>intro k a b h
 ·rw[bL,decide_eq_true h]
 ·rw[bL,decide_eq_false (by omega)]
 ·rw[bK,decide_eq_true h]
 ·rw[bK,decide_eq_false (by omega)]
 ·rw[bJ,decide_eq_true h]
 ·rw[bJ,decide_eq_false (by omega)]
 ·rw[bH,decide_eq_true h]
 ·rw[bH,decide_eq_false (by omega)]
 ·rw[bD,decide_eq_true h]
 ·rw[bD,decide_eq_false h]
 ·rw[bI,decide_eq_false h]; rfl
 ·rw[bI,decide_eq_true h]; rfl
end V
end Go.Proofs.YtcaccnneblghgaaGreat
noncomputable section
namespace Go.Proofs.YtcaccnneblghgaaGreat
namespace V
def jU:Value→Option Nat
 | .slice (some a) _ _=>some a.block
 | _=>none
def eD (h:T Obj) (v:Value) (z:Nat) (e:TypeId) (l:List (List Value)) (lo:Nat):Prop :=
 (v=.slice none 0 0∧l=[])∨∃ id,lo≤id∧v=.slice (some (own id z)) l.length l.length∧(∀ x∈l,x.length=z)∧h.get id=some (.cells l.flatten.toArray e)
theorem eD.nil {h:T Obj}{z:Nat}{e:TypeId}{lo:Nat}:eD h (.slice none 0 0) z e [] lo:=.inl ⟨rfl,rfl⟩
theorem eD.mono {h:T Obj}{v:Value}{z:Nat}{e:TypeId}{l:List (List Value)}{lo lo':Nat} (ho:eD h v z e l lo) (hl:lo'≤lo):eD h v z e l lo':=by
 rcases ho with ho | ⟨id,h1,h2⟩
 ·exact .inl ho
 ·exact .inr ⟨id,by omega,h2⟩
theorem eD.sl {ro:Ro}{h:T Obj}{v:Value}{z:Nat}{e:TypeId}{l:List (List Value)}{lo:Nat} (ho:eD h v z e l lo):Sl ro h v z l:=by
 rcases ho with ho | ⟨id,_,rfl,h4,h5⟩
 ·exact .inl ho
 ·exact Sl.own h5 h4 (Nat.le_refl _)
def Kp (v:Value) (h h':T Obj):Prop:=∀ k o,h.get k=some o→jU v≠some k→h'.get k=some o
theorem eD.keepS {h h':T Obj}{v:Value}{z:Nat}{e:TypeId}{l:List (List Value)}{lo:Nat} (ho:eD h v z e l lo) (hk:aZ h h'):eD h' v z e l lo:=by
 rcases ho with ho | ⟨id,h1,rfl,h4,h5⟩
 ·exact .inl ho
 ·exact .inr ⟨id,h1,rfl,h4,hk id _ h5⟩
theorem eD.ne {h:T Obj}{v:Value}{z:Nat}{e e':TypeId}{l:List (List Value)}{lo k:Nat}{c:Array Value}{f:Nat × Nat} (ho:eD h v z e l lo) (hk:h.get k=some (.cells c e' f)) (he:e'≠e):jU v≠some k:=by
 rcases ho with ⟨rfl,_⟩ | ⟨id,_,rfl,_,h5⟩
 ·intro h; cases h
 ·intro h
  have:id=k:=Option.some.inj h
  subst this
  rw[hk] at h5
  simp only[Option.some.injEq,Obj.cells.injEq] at h5
  exact he h5.2.1
theorem Fr.lt' {h:T Obj}{n k:Nat}{o:Obj} (hf:Fr h n) (hk:h.get k=some o):k < n:=by
 rcases Nat.lt_or_ge k n with h1 | h1
 ·exact h1
 ·rw[hf k h1] at hk; cases hk
theorem aNb {P:Program}{ro:Ro}{h:T Obj}{v x:Value}{z nx lo:Nat}{t e:TypeId}{i:TypeInfo}{zv:Value}{l m:List (List Value)} (ho:eD h v z e l lo) (hx:Sl ro h x z m) (hu:iM P t=some (.slice e)) (hi':tin P e=some i) (hz:i.size=z) (hz0:0 < z) (hzer:nF P e=some zv) (hzs:zv.cells.size=z)
  (hm:m≠[]) (hok:m.flatten.all eA=true) (hb:(l.length+m.length)*i.bytes≤oG) (hb2:l.length+m.length≤oG) (hlo:lo≤nx) (hf:Fr h nx) :
  ∃ h',cZ P ro h nx #[t,t] [v,x]=some (.slice (some (own nx z)) (l++m).length (l++m).length,h',nx+1)∧eD h' (.slice (some (own nx z)) (l++m).length (l++m).length) z e (l++m) lo∧Kp v h h'∧Fr h' (nx+1)∧(∀ k,k≠nx→h'.get k=h.get k∨h'.get k=none):=by
 have fin:∀ h':T Obj,(∀ k,k≠nx→h'.get k=h.get k∨h'.get k=none)→Fr h' (nx+1):=fun h' h2 k hk=>by
  rcases h2 k (by omega) with h3 | h3
  ·rw[h3]; exact hf k (by omega)
  ·exact h3
 rcases ho with ⟨rfl,rfl⟩ | ⟨id,h1,rfl,h4,h5⟩
 ·obtain⟨h',q1,q2,q3,q4⟩:=aAI (P:=P) (t:=t) (lo:=nx) (hi:=nx) (Own.nil (h:=h) (z:=z) (e:=e)) hx hu hi' hz hz0 hzer hzs hm hok (by simpa using hb) (by simpa using hb2) (Nat.le_refl _) (Nat.le_refl _)
  refine⟨h',q1,?_,fun k o hk _=>?_,fin h' q4,q4⟩
  ·rcases q2 with ⟨h6,_⟩ | ⟨id,h6,h7,h8,h9,h10⟩
   ·cases h6
   ·exact .inr ⟨id,by omega,h8,h9,h10⟩
  ·have:=hf.lt' hk
   rw[q3 k (.inl this) (by omega)]; exact hk
 ·have hid:=hf.lt' h5
  obtain⟨h',q1,q2,q3,q4⟩:=aAI (P:=P) (t:=t) (lo:=id) (hi:=id+1) (.inr ⟨id,Nat.le_refl _,by omega,rfl,h4,h5⟩:Own h _ z e l id (id+1)) hx hu hi' hz hz0 hzer hzs hm hok hb hb2 (show id≤nx by omega) (by omega)
  refine⟨h',q1,?_,fun k o hk hne=>?_,fin h' q4,q4⟩
  ·rcases q2 with ⟨h6,_⟩ | ⟨id2,h6,h7,h8,h9,h10⟩
   ·cases h6
   ·exact .inr ⟨id2,by omega,h8,h9,h10⟩
  ·have h7:=hf.lt' hk
   have h8:id≠k:=fun h=>hne (by rw[← h]; rfl)
   rw[q3 k (by omega) (by omega)]; exact hk
theorem aKX {P:Program}{ro:Ro}{h:T Obj}{v x:Value}{z nx lo:Nat}{t e:TypeId}{i:TypeInfo}{l:List (List Value)} (ho:eD h v z e l lo) (hx:Sl ro h x z []) (hu:iM P t=some (.slice e)) (hi':tin P e=some i) :
  cZ P ro h nx #[t,t] [v,x]=some (v,h,nx):=by
 obtain⟨a,len,rfl⟩:∃ a len,v=.slice a len len:=by
  rcases ho with ⟨rfl,_⟩ | ⟨id,_,rfl,_⟩
  ·exact⟨none,0,rfl⟩
  ·exact⟨_,_,rfl⟩
 have hs:aBG P ro h e i.size i.bytes t x=some (0,[]):=by
  rcases hx with ⟨rfl,_⟩ | ⟨a,cap,rfl,h2,h3,h4,h5⟩
  ·simp only[aBG,hu]
  ·have:cellsAt ro h a (0*i.size)=some []:=by
    have:cellsAt ro h a (0*z)=some []:=by simpa using h5
    rw[Nat.zero_mul] at this ⊢; exact this
   simp only[aBG,hu,List.length_nil,this,Option.bind]
 have hb:Nat.ble (len+0) len=true:=Nat.ble_eq_true_of_le (by omega)
 simp only[cZ,List.getElem?_toArray,List.getElem?_cons_zero,List.getElem?_cons_succ,hu,hi',Option.bind_some,hs,hb]
theorem aGF {P:Program}{ro:Ro}{h:T Obj}{v x:Value}{z nx lo:Nat}{t e:TypeId}{i:TypeInfo}{zv:Value}{l m:List (List Value)} (ho:eD h v z e l lo) (hx:Sl ro h x z m) (hu:iM P t=some (.slice e)) (hi':tin P e=some i) (hz:i.size=z) (hz0:0 < z) (hzer:nF P e=some zv) (hzs:zv.cells.size=z)
  (hok:m.flatten.all eA=true) (hb:(l.length+m.length)*i.bytes≤oG) (hb2:l.length+m.length≤oG) (hlo:lo≤nx) (hf:Fr h nx) :
  ∃ r h' n',cZ P ro h nx #[t,t] [v,x]=some (r,h',n')∧eD h' r z e (l++m) lo∧Kp v h h'∧nx≤n'∧Fr h' n'∧(jU r=none∨jU r=jU v∨jU r=some nx):=by
 cases m with
 | nil=>exact⟨v,h,nx,aKX ho hx hu hi',by rw[List.append_nil]; exact ho,(fun k o hk _=>hk),Nat.le_refl _,hf,.inr (.inl rfl)⟩
 | cons y m =>
  obtain⟨h',q1,q2,q3,q4,q5⟩:=aNb (P:=P) (t:=t) ho hx hu hi' hz hz0 hzer hzs (by simp) hok hb hb2 hlo hf
  exact⟨_,h',nx+1,q1,q2,q3,by omega,q4,.inr (.inr rfl)⟩
end V
end Go.Proofs.YtcaccnneblghgaaGreat
noncomputable section
namespace Go.Proofs.YtcaccnneblghgaaGreat
namespace V
open Go.Deep
theorem aBx {ro:Ro}:∀ {n m:Nat}{a:Addr}{l1 l2:List Value},a.spot=none→roCells ro a n=some l1→roCells ro ⟨a.block,a.off+n,none⟩ m=some l2→roCells ro a (n+m)=some (l1++l2)
 | 0,m,a,l1,l2,hs,h1,h2=>by
  cases h1
  have:(⟨a.block,a.off+0,none⟩:Addr)=a:=by cases a; simp_all
  rw[this] at h2
  simpa using h2
 | n+1,m,a,l1,l2,hs,h1,h2=>by
  obtain⟨v,g1,h1⟩:=aP h1
  obtain⟨r,g2,h1⟩:=aP h1
  cases h1
  have ih:=aBx (n:=n) (m:=m) (a:=⟨a.block,a.off+1,none⟩) rfl g2 (by rw[show a.off+1+n=a.off+(n+1) by omega]; exact h2)
  rw[show n+1+m=n+m+1 by omega]
  simp[roCells,g1,ih]
section
variable {H:Type}{enc:TypeId × Value→H}{P:Program}{W:World}
theorem aIj {N:Nat}:∀ {l l':List Value},mH N l=some l'→∀ {j:Nat}{y:Value},l'[j]?=some y→∃ x,l[j]?=some x∧aA1 N x=some y
 | [],l',h,j,y,hy=>by cases h; simp at hy
 | v::l,l',h,j,y,hy=>by
  obtain⟨v',h1,h⟩:=aP h
  obtain⟨r,h2,h⟩:=aP h
  cases h
  cases j with
  | zero=>simp at hy; subst hy; exact⟨v,rfl,h1⟩
  | succ j =>
   obtain⟨x,h3,h4⟩:=aIj h2 (j:=j) (by simpa using hy)
   exact⟨x,by simpa using h3,h4⟩
theorem aP9 {a:Addr}{n:Nat}{cs cs':List Value} (h:W.cells? 0 a n=some cs) (hn:mH W.heap.size cs=some cs') (ha:a.spot=none):roCells (qS W) a n=some cs':=by
 obtain⟨_,hlen,hg⟩:=World.cells?_some h
 have hl:=(aEC (φ:=fun _=>none) hn).length
 have:=aHU (ro:=qS W) (l:=cs') (a:=a) ha fun j y hy=>by
  obtain⟨x,hx,hxy⟩:=aIj hn hy
  have hj:j < n:=by rw[← hlen,← hl]; exact (List.getElem?_eq_some_iff.1 hy).1
  have hc:=hg j hj
  rw[wC ha,hx] at hc
  have hb:a.block < W.heap.size:=by
   rcases Nat.lt_or_ge a.block W.heap.size with h1 | h1
   ·exact h1
   ·simp[World.cell?,Array.getElem?_eq_none h1] at hc
  have hbb:Nat.blt a.block W.heap.size=true:=by simp[Nat.blt]; omega
  simp only[qS,hbb,hc,Option.bind,hxy]
 rw[hl,hlen] at this
 exact this
theorem aMu {N:Nat}{a:Addr}{l c:Nat} (hs:a.spot=none) (hb:a.block < N) (hc:0 < c):aA1 N (.slice (some a) l c)=some (.slice (some a) l c):=by
 have:Nat.blt a.block N=true:=by simp[Nat.blt]; omega
 cases c with
 | zero=>omega
 | succ c=>cases l<;>simp[aA1,hs,this]
theorem aRq {t e:TypeId}{z:Nat} (ht:P.underlying t=some (.slice e)) (hz:P.cellsOf e=z) (hz0:0 < z) {fuel:Nat}{cs:List Value}{x:DataW H × List MemPlace} (h:DataW.trod enc P W 0 (fun _=>true) true fuel t cs=some x)
  {El:List Value→Prop} (hel:∀ n cs' y,DataW.trod enc P W 0 (fun _=>true) true n e cs'=some y→∃ cs'',mH W.heap.size cs'=some cs''∧El cs'') :
  ∃ v v',cs=[v]∧aA1 W.heap.size v=some v'∧∃ l,Sl (qS W) .e v' z l∧∀ x∈l,El x:=by
 rcases open_slice ht h with ⟨rfl,_⟩ | ⟨a,len,cap,m,n,D,Pl,rfl,_,hle,_,hm,_,hx⟩
 ·exact⟨_,_,rfl,rfl,[],Sl.nil,fun x hx=>by cases hx⟩
 ·simp only[if_true] at hm
  subst hm
  refine⟨.slice (some a) len m,?_⟩
  rcases Nat.eq_zero_or_pos m with hc0 | hc0
  ·subst hc0
   obtain rfl:len=0:=by omega
   exact⟨.slice (some aJb) 0 0,rfl,rfl,[],.inr ⟨aJb,0,rfl,Nat.le_refl _,.inl rfl,by simp,by simp[cellsAt,aJb,roCells]⟩,fun x hx=>by cases hx⟩
  ·have h0:a.spot=none∧a.block < W.heap.size:=by
    obtain⟨cs',h1,_⟩:=hx 0 hc0
    rw[hz] at h1
    obtain⟨_,hl,hg⟩:=World.cells?_some h1
    have h2:=hg 0 hz0
    have h3:cs'[0]?=some (cs'[0]'(by omega)):=List.getElem?_eq_getElem (by omega)
    rw[h3] at h2
    have hsp:a.spot=none:=by
     have:=World.cell?_spot h2
     simpa [Addr.add] using this
    refine⟨hsp,?_⟩
    rcases Nat.lt_or_ge a.block W.heap.size with h4 | h4
    ·exact h4
    ·rw[wC hsp,wC rfl] at h2
     simp[World.cell?,Array.getElem?_eq_none h4] at h2
   obtain⟨hs,hb⟩:=h0
   refine⟨.slice (some a) len m,rfl,aMu hs hb hc0,?_⟩
   have key:∀ k,k≤len→∃ l:List (List Value),l.length=k∧(∀ x∈l,x.length=z)∧(∀ x∈l,El x)∧roCells (qS W) a (k*z)=some l.flatten:=by
    intro k
    induction k with
    | zero=>intro _; exact⟨[],rfl,by simp,by simp,by simp[roCells]⟩
    | succ k ih =>
     intro hk
     obtain⟨l,l1,l2,l3,l4⟩:=ih (by omega)
     obtain⟨cs',h1,h2⟩:=hx k (by omega)
     rw[hz] at h1
     obtain⟨cs'',h3,h4⟩:=hel _ _ _ h2
     have h5:=aP9 h1 h3 (by rw[wC hs])
     have hlen:cs''.length=z:=aBy h5
     rw[wC hs] at h5
     refine⟨l++[cs''],by simp[l1],?_,?_,?_⟩
     ·intro x hx2
      rcases List.mem_append.1 hx2 with h6 | h6
      ·exact l2 x h6
      ·simp at h6; subst h6; exact hlen
     ·intro x hx2
      rcases List.mem_append.1 hx2 with h6 | h6
      ·exact l3 x h6
      ·simp at h6; subst h6; exact h4
     ·rw[Nat.succ_mul]
      have:=aBx hs l4 h5
      simpa using this
   obtain⟨l,l1,l2,l3,l4⟩:=key len (Nat.le_refl _)
   refine⟨l,.inr ⟨a,m,by rw[l1],by omega,.inl hs,l2,?_⟩,l3⟩
   unfold cellsAt
   rw[hs,l1]
   exact l4
end
end V
end Go.Proofs.YtcaccnneblghgaaGreat