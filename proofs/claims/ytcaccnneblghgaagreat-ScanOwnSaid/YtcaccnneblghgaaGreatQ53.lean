/- Texts laid one behind the other: V3, G, W1.
   No condition. -/
import Derived.CheckFast
import Derived.Carry
import Derived.ProofKit
import Derived.SizedLaws
import Derived.JoinedCond
import Derived.Test.YtcaccnneblghgaaGreatProg
import Derived.KernelRfl
import Derived.Deep.Slices
import Derived.Test.YtcaccnneblghgaaGreatQ52
set_option linter.unusedVariables false
set_option linter.unusedSimpArgs false
noncomputable section
namespace Go.Proofs.YtcaccnneblghgaaGreat
namespace V
abbrev Env:=Nat→Value
def Env.put (e:Env) (d:Nat) (v:Value):Env:=fun i=>match Nat.beq i d with
  | true=>v
  | false=>e i
def aB {α:Type} (o:Option α) (K:α→Prop):Prop:=match o with
  | some a=>K a
  | none=>False
abbrev eM {α:Type} (o:Option α) (K:α→Prop):Prop:=match o with
  | some a=>K a
  | none=>False
abbrev evE (e:Env):Operand→Option Value
  | .tmp i=>some (e i)
  | .const v=>match flat v with
    | true=>some v
    | false=>none
  | .global _=>none
  | .func f=>some (.func (.func f) #[] #[])
abbrev aEt (e:Env):List Operand→Option (List Value)
  | []=>some []
  | x::r=>(evE e x).bind fun v=>(aEt e r).bind fun vs=>some (v::vs)
abbrev aMJ (e:Env):Option Operand→Option (Option Value)
  | none=>some none
  | some x=>(evE e x).bind fun v=>some (some v)
abbrev aMK (e:Env):List (Nat × Operand)→Option (List (Nat × Value))
  | []=>some []
  | x::r=>(evE e x.2).bind fun v=>(aMK e r).bind fun vs=>some ((x.1,v)::vs)
def asP:Value→Option Addr
  | .pointer (some a)=>some a
  | _=>none
def asAgg:Value→Option (Array Value)
  | .agg cs=>some cs
  | _=>none
def load1 (ro:Ro) (h:T Obj) (v:Value):Option Value:=(asP v).bind fun a=>match cellsAt ro h a 1 with
  | some [x]=>some x
  | _=>none
def loadA (ro:Ro) (h:T Obj) (n:Nat) (v:Value):Option Value:=(asP v).bind fun a=>(cellsAt ro h a n).bind fun l=>some (.agg l.toArray)
def aS (k:Nat) (v:Value):Option Value:=(asP v).bind fun a=>some (.pointer (some (fwd a k)))
def aQQ (off:Nat) (v:Value):Option Value:=(asAgg v).bind fun cs=>cs[off]?
def aQR (n off:Nat) (v:Value):Option Value:=(asAgg v).bind fun cs=>match Nat.ble (off+n) cs.size with
  | true=>some (.agg ((cs.toList.drop off).take n).toArray)
  | false=>none
def ixArr (n z:Nat) (x i:Value):Option Value:=(mH i).bind fun i=>(asP x).bind fun a=>match Nat.blt i n with
  | true=>some (.pointer (some (fwd a (i*z))))
  | false=>none
def cM (z:Nat) (x i:Value):Option Value:=(mH i).bind fun i=>match x with
  | .slice (some a) len _=>match Nat.blt i len with
    | true=>match a.spot with
      | none=>some (.pointer (some (fwd a (i*z))))
      | some z'=>match Nat.beq z z' with
        | true=>some (.pointer (some (elt a (i*z))))
        | false=>none
    | false=>none
  | _=>none
def aDp (x i:Value):Option Value:=(mH i).bind fun i=>match x with
  | .string s=>match s.data.toList[i]? with
    | some b=>some (.int .u8 b.toNat)
    | none=>none
  | _=>none
def aNp (n z:Nat) (x i:Value):Option Value:=(mH i).bind fun i=>(asAgg x).bind fun cs=>match Nat.blt i n with
  | true=>cs[i*z]?
  | false=>none
def aQV (n z:Nat) (x i:Value):Option Value:=(mH i).bind fun i=>(asAgg x).bind fun cs=>match Nat.blt i n,Nat.ble (i*z+z) cs.size with
  | true,true=>some (.agg ((cs.toList.drop (i*z)).take z).toArray)
  | _,_=>none
def aO (op:BinOp) (a b:Value):Option Value:=match a,b with
  | .int k x,.int k' y=>match op with
    | .shl | .shr=>aAi op k x y
    | _=>match decide (k=k') with
      | true=>rD op k x y
      | false=>none
  | _,_=>none
def aE8 (op:BinOp) (a b:Value):Option Value:=match a,b with
  | .string x,.string y=>aOX op x y
  | _,_=>none
def aFY (op:BinOp) (a b:Value):Option Value:=match op,a,b with
  | .eql,.bool x,.bool y=>some (.bool (x==y))
  | .neq,.bool x,.bool y=>some (.bool (!(x==y)))
  | _,_,_=>none
def aEl (ks:List Nat) (op:BinOp) (a b:Value):Option Value:=match a,b with
  | .agg xs,.agg ys=>match op with
    | .eql=>(dD ks xs.toList ys.toList).bind fun b=>some (.bool b)
    | .neq=>(dD ks xs.toList ys.toList).bind fun b=>some (.bool (!b))
    | _=>none
  | _,_=>none
def yA (op:BinOp) (a b:Value):Option Value:=match op,a,b with
  | .eql,.pointer none,.pointer y=>some (.bool y.isNone)
  | .eql,.pointer x,.pointer none=>some (.bool x.isNone)
  | .neq,.pointer none,.pointer y=>some (.bool (!y.isNone))
  | .neq,.pointer x,.pointer none=>some (.bool (!x.isNone))
  | _,_,_=>none
def slB (op:BinOp) (a b:Value):Option Value:=match op,a,b with
  | .eql,.slice none _ _,.slice y _ _=>some (.bool y.isNone)
  | .eql,.slice x _ _,.slice none _ _=>some (.bool x.isNone)
  | .neq,.slice none _ _,.slice y _ _=>some (.bool (!y.isNone))
  | .neq,.slice x _ _,.slice none _ _=>some (.bool (!x.isNone))
  | _,_,_=>none
def bO (c a b:Value):Option Value:=match c with
  | .bool true=>some a
  | .bool false=>some b
  | _=>none
def bN:Value→Option Value
  | .pointer (some a)=>some (.pointer (some a))
  | .func (.func f) a b=>some (.func (.func f) a b)
  | _=>none
def wO (k:IntKind):Value→Option Value
  | .int _ n=>some (.int k (wr k n))
  | _=>none
def nth (i:Nat):Value→Option Value
  | .tuple vs=>vs[i]?
  | _=>none
def bH:Value→Option Value
  | .slice _ n _=>some (.int .i64 n)
  | _=>none
def vZ:Value→Option Value
  | .string s=>some (.int .i64 s.size)
  | _=>none
def ptr (id:Nat):Value:=.pointer (some (own id 0))
def bV (n:Nat) (h:T Obj) (a v:Value):Option (T Obj):=(asP a).bind fun a=>match Nat.beq v.cells.size n with
  | true=>jN h a v.cells.toList
  | false=>none
abbrev KV:=Value→T Obj→Nat→Prop
abbrev aCK:=FuncId→List Value→T Obj→Nat→KV→Prop
abbrev ptQ (P:Program) (ro:Ro) (e:Env) (h:T Obj) (aid:Nat) (op:Op) (K:Value→Option Obj→Prop):Prop :=
  match op with
  | .move x | .assign x=>eM (evE e x) fun v=>K v none
  | .pick c a b=>eM (evE e c) fun c=>eM (evE e a) fun a=>eM (evE e b) fun b=>aB (bO c a b) fun v=>K v none
  | .alloc ty=>aB (zer P ty) fun z=>K (ptr aid) (some (.cells z.cells ty))
  | .box ty x=>eM (evE e x) fun v=>K (ptr aid) (some (.cells v.cells ty))
  | .build ty ps=>eM (aMK e ps.toList) fun vs=>aB (fJ P ty vs) fun v=>K v none
  | .buildSlice ty n ps=>eM (aMK e ps.toList) fun vs=>aB (bR P ty aid n vs) fun r=>K r.1 r.2
  | .load ty x=>eM (evE e x) fun v=>match isAgg P ty with
    | some true=>eM (siz P ty) fun n=>aB (loadA ro h n v) fun u=>K u none
    | some false=>aB (load1 ro h v) fun u=>K u none
    | none=>False
  | .nilCheck x=>eM (evE e x) fun v=>aB (bN v) fun v=>K v none
  | .binOp op ty x y _=>eM (evE e x) fun a=>eM (evE e y) fun b=>match und P ty with
    | some (.int _)=>aB (aO op a b) fun v=>K v none
    | some .string=>aB (aE8 op a b) fun v=>K v none
    | some .bool=>aB (aFY op a b) fun v=>K v none
    | some (.pointer _)=>aB (yA op a b) fun v=>K v none
    | some (.slice _)=>aB (slB op a b) fun v=>K v none
    | some (.struct _) | some (.array _ _)=>aB (dS P 20 ty) fun ks=>aB (aEl ks op a b) fun v=>K v none
    | _=>False
  | .unOp op _ x=>eM (evE e x) fun a=>aB (unV op a) fun v=>K v none
  | .convert s d x=>eM (evE e x) fun v=>match und P s,und P d with
    | some (.int _),some (.int k)=>aB (wO k v) fun v=>K v none
    | _,_=>aB (aCN P ro h aid s d v) fun r=>K r.1 r.2
  | .makeFunc (.func f) a b=>eM (aEt e a.toList) fun a=>eM (aEt e b.toList) fun b=>K (.func (.func f) a.toArray b.toArray) none
  | .makeMap _ none=>K (.map (some aid)) (some (.map #[] 0))
  | .makeSlice ty l c=>eM (evE e l) fun l=>eM (evE e c) fun c=>aB (aDx P ty aid l c) fun r=>K r.1 r.2
  | .slice ty x lo hi mx=>eM (evE e x) fun x=>eM (aMJ e lo) fun lo=>eM (aMJ e hi) fun hi=>eM (aMJ e mx) fun mx=>aB (lT P ty x lo hi mx) fun v=>K v none
  | .fieldAddr s x f=>eM (evE e x) fun v=>eM (aHi P s f) fun f=>eM (siz P f.type) fun n=>match n with
    | 0=>False
    | _+1=>aB (aS f.offset v) fun v=>K v none
  | .field ty x f=>eM (evE e x) fun v=>eM (aHi P ty f) fun f=>match isAgg P f.type with
    | some true=>eM (siz P f.type) fun n=>aB (aQR n f.offset v) fun v=>K v none
    | some false=>aB (aQQ f.offset v) fun v=>K v none
    | none=>False
  | .indexAddr ty x i=>eM (evE e x) fun x=>eM (evE e i) fun i=>match und P ty with
    | some (.array n el)=>eM (siz P el) fun z=>aB (ixArr n z x i) fun v=>K v none
    | some (.slice el)=>eM (siz P el) fun z=>aB (cM z x i) fun v=>K v none
    | _=>False
  | .index ty x i=>eM (evE e x) fun x=>eM (evE e i) fun i=>match und P ty with
    | some (.array n el)=>eM (siz P el) fun z=>match isAgg P el with
      | some true=>aB (aQV n z x i) fun v=>K v none
      | some false=>aB (aNp n z x i) fun v=>K v none
      | none=>False
    | some .string=>aB (aDp x i) fun v=>K v none
    | _=>False
  | .lookup ty x k ok=>eM (evE e x) fun x=>eM (evE e k) fun k=>aB (z9 P h ty x k ok) fun v=>K v none
  | .extract x i=>eM (evE e x) fun v=>aB (nth i v) fun v=>K v none
  | .call { callee:=.builtin b,args,argTypes }=>eM (aEt e args.toList) fun vs=>match b,vs,argTypes[0]? with
    | .len,[x],some ty=>match und P ty with
      | some .string=>aB (vZ x) fun v=>K v none
      | some (.slice _)=>aB (bH x) fun v=>K v none
      | _=>aB (aHv P h ty x) fun v=>K v none
    | _,_,_=>aB (eH P h b argTypes vs) fun v=>K v none
  | _=>False
def xK (C:aCK) (f:Value) (vs:List Value) (h:T Obj) (nx:Nat) (K:KV):Prop:=match f with
  | .func (.func k) a b=>C k (a.toList++vs++b.toList) h nx K
  | _=>False
abbrev ptL (P:Program) (ro:Ro) (C:aCK) (e:Env) (h:T Obj) (nx:Nat) (op:Op) (K:KV):Prop :=
  match op with
  | .store ty a x=>eM (evE e a) fun a=>eM (evE e x) fun x=>eM (siz P ty) fun n=>aB (bV n h a x) fun h=>K undef h nx
  | .mapUpdate ty m k x | .insert ty m k x=>eM (evE e m) fun m=>eM (evE e k) fun k=>eM (evE e x) fun x=>aB (v7 P h ty m k x) fun h=>K undef h nx
  | .call { callee:=.builtin b,args,argTypes }=>eM (aEt e args.toList) fun vs=>match b with
    | .append=>aB (cC P ro h nx argTypes vs) fun r=>K r.1 r.2.1 r.2.2
    | .copy=>aB (aD5 P ro h nx argTypes vs) fun r=>K r.1 r.2.1 r.2.2
    | .clear=>match vs,argTypes[0]? with
      | [m],some ty=>aB (und P ty) fun _=>aB (aA3 h m) fun h=>K (.tuple #[]) h nx
      | _,_=>False
    | _=>False
  | .call { callee:=.value f,args,.. }=>eM (evE e f) fun f=>eM (aEt e args.toList) fun vs=>xK C f vs h nx K
  | .convert s d x=>eM (evE e x) fun v=>aB (uU P h s d v) fun r=>K r.1 r.2 nx
  | _=>False
abbrev ptO (P:Program) (ro:Ro) (C:aCK) (e:Env) (h:T Obj) (nx aid:Nat) (op:Op) (K:KV):Prop :=
  match hE op with
  | true=>ptL P ro C e h nx op K
  | false=>ptQ P ro e h aid op fun v ob=>K v (aAW h aid ob) nx
def ifP (v:Value) (w:Bool) (h:T Obj) (nx:Nat) (A:KV→Prop) (K:KV):Prop:=match v with
  | .bool b=>match b==w with
    | true=>A K
    | false=>K undef h nx
  | _=>K undef h nx
abbrev Gd:=Option (Value × Bool)
abbrev aFz (g:Gd) (h:T Obj) (nx:Nat) (A:KV→Prop) (K:KV):Prop:=match g with
  | none=>A K
  | some vw=>ifP vw.1 vw.2 h nx A K
abbrev gdP (ops:Array Oper) (e:Env) (g:Option (Nat × Bool)) (K:Gd→Prop):Prop:=match g with
  | none=>K none
  | some (j,w)=>match (ops[j]?).bind (·.dst) with
    | some d=>K (some (e d,w))
    | none=>False
abbrev aLV (n:Nat) (e:Env) (d:Option Tmp) (v:Value) (K:Env→Prop):Prop:=match d with
  | none=>K e
  | some d=>match Nat.blt d n with
    | true=>K (e.put d v)
    | false=>False
abbrev aMx (P:Program) (ro:Ro) (C:aCK) (n:Nat) (ops:Array Oper):List Oper→Env→T Obj→Nat→(Env→T Obj→Nat→Prop)→Prop
  | [],e,h,nx,Q=>Q e h nx
  | o::l,e,h,nx,Q=>gdP ops e o.guard fun g=>aFz g h nx (fun K=>ptO P ro C e h (nx+1) nx o.op K) fun v h nx=>aLV n e o.dst v fun e=>aMx P ro C n ops l e h nx Q
def rdE (P:Program) (e:Env):Op→Option Value
  | .load _ x=>evE e x
  | .lookup _ x _ _=>evE e x
  | .convert s _ x=>match und P s with
    | some (.slice _)=>evE e x
    | _=>none
  | .call { callee:=.builtin _,args,argTypes }=>match (argTypes[0]?).bind (und P) with
    | some (.map _ _)=>match aEt e args.toList with
      | some [v]=>some v
      | _=>none
    | _=>none
  | _=>none
def jT (v:Value) (h h':T Obj):Prop:=match blk v with
  | some b=>same b h h'
  | none=>True
def onP (g:Gd) (X:Prop):Prop:=match g with
  | none=>X
  | some vw=>vw.1=.bool vw.2→X
def aMn:List Nat→Nat→Nat
  | [],_=>0
  | x::_,0=>x
  | _::r,n+1=>aMn r n
def uX (b:List Nat) (i j:Nat):Bool:=!(aMn b j).testBit i
abbrev aOP {α:Type} (K:List Nat→α):List Nat→List Nat→α
  | [],o=>K o
  | x::r,o=>aOP K r (x::o)
abbrev aKc {α:Type} (K:List Nat→α):List Oper→Nat→List Nat→α
  | [],_,acc=>aOP K acc []
  | o::l,j,acc=>CheckFast.force (CheckFast.one (fun i=>if i < j then acc.getD (j - 1 - i) 0 else 0) o) fun v=>aKc K l (j+1) (v::acc)
def vR (P:Program) (ops:Array Oper) (b:List Nat):Bool :=
  (List.range ops.size).all fun j=>match ops[j]? with
    | none=>false
    | some oj=>(oj.after.toList.all fun e=>!Region.binds .any e || decide (e.on < j))&&(List.range j).all fun i=>match ops[i]? with
      | none=>false
      | some oi=>match uX b i j with
        | false=>true
        | true=>uG P ops oi oj
abbrev aIc (b:List Nat) (i:Nat) (h h':T Obj):List (Nat × Gd × Value)→Prop→Prop
  | [],K=>K
  | q::ls,K=>match uX b q.1 i with
    | true=>onP q.2.1 (jT q.2.2 h h')∧aIc b i h h' ls K
    | false=>aIc b i h h' ls K
abbrev aId (b:List Nat) (i:Nat) (v:Value):List (Nat × Gd × T Obj × T Obj)→Prop→Prop
  | [],K=>K
  | q::ms,K=>match uX b q.1 i with
    | true=>onP q.2.1 (jT v q.2.2.1 q.2.2.2)∧aId b i v ms K
    | false=>aId b i v ms K
abbrev ptD (P:Program) (ro:Ro) (C:aCK) (n:Nat) (ops:Array Oper) (b:List Nat) (n0:Nat):List Oper→Nat→List (Nat × Gd × Value)→List (Nat × Gd × T Obj × T Obj)→Env→T Obj→Nat→(Env→T Obj→Nat→Prop)→Prop
  | [],_,_,_,e,h,nx,Q=>Q e h nx
  | o::l,i,ls,ms,e,h,nx,Q=>gdP ops e o.guard fun g=>match hE o.op with
    | true=>aFz g h nx (fun K=>ptO P ro C e h nx (n0+i) o.op fun v h' nx'=>aIc b i h h' ls (K v h' nx')) fun v h' nx'=>aLV n e o.dst v fun e=>ptD P ro C n ops b n0 l (i+1) ls ((i,g,h,h')::ms) e h' nx' Q
    | false=>match rdE P e o.op with
      | some a=>aFz g h nx (fun K=>ptO P ro C e h nx (n0+i) o.op fun v h' nx'=>aId b i a ms (K v h' nx')) fun v h' nx'=>aLV n e o.dst v fun e=>ptD P ro C n ops b n0 l (i+1) ((i,g,a)::ls) ms e h' nx' Q
      | none=>aFz g h nx (fun K=>ptO P ro C e h nx (n0+i) o.op K) fun v h' nx'=>aLV n e o.dst v fun e=>ptD P ro C n ops b n0 l (i+1) ls ms e h' nx' Q
def exP (x:Ex) (A:Prop) (B:Nat→Prop) (D:Prop):Prop:=match x with
  | .normal=>A
  | .exit i=>B i
  | .ret=>D
def cO (b:Bool) (A B:Prop):Prop:=match b with
  | true=>A
  | false=>B
abbrev exQ (x:Ex) (A:Prop) (B:Nat→Prop) (D:Prop):Prop:=match x with
  | .normal=>A
  | .exit i=>B i
  | .ret=>D
abbrev aQU (b:Bool) (A B:Prop):Prop:=match b with
  | true=>A
  | false=>B
abbrev KE:=Ex→Env→T Obj→Nat→Prop
abbrev PT:=Env→T Obj→Nat→KE→Prop
def aFa (B:PT):Nat→PT
  | 0=>fun _ _ _ _=>False
  | k+1=>fun e h nx Q=>B e h nx fun x e h nx=>exP x (∃ h',Sub h' h∧aFa B k e h' nx Q) (fun i=>Q (.exit i) e h nx) (Q .ret e h nx)
def dT (B:PT):PT:=fun e h nx Q=>∃ k,aFa B k e h nx Q
def aR (v:Value) (A B:Prop):Prop:=match v with
  | .bool true=>A
  | .bool false=>B
  | _=>False
abbrev pt (P:Program) (ro:Ro) (C:aCK) (n:Nat):Code→PT
  | .skip | .label _=>fun e h nx Q=>Q .normal e h nx
  | .ret=>fun e h nx Q=>Q .ret e h nx
  | .exit id=>fun e h nx Q=>Q (.exit id) e h nx
  | .seq a b=>fun e h nx Q=>pt P ro C n a e h nx fun x e h nx=>exQ x (pt P ro C n b e h nx Q) (fun i=>Q (.exit i) e h nx) (Q .ret e h nx)
  | .cond c a b=>fun e h nx Q=>eM (evE e c) fun v=>aR v (pt P ro C n a e h nx Q) (pt P ro C n b e h nx Q)
  | .block id b=>fun e h nx Q=>pt P ro C n b e h nx fun x e h nx=>exQ x (Q .normal e h nx) (fun i=>aQU (Nat.beq i id) (Q .normal e h nx) (Q (.exit i) e h nx)) (Q .ret e h nx)
  | .loop b=>dT (pt P ro C n b)
  | .scope b=>pt P ro C n b
  | .region _ ops draw=>fun e h nx Q=>match draw with
    | false=>aMx P ro C n ops ops.toList e h nx (Q .normal)
    | true=>aKc (fun b=>match vR P ops b with
      | true=>ptD P ro C n ops b nx ops.toList 0 [] [] e h (nx+ops.size) (Q .normal)
      | false=>False) ops.toList 0 []
  | _=>fun _ _ _ _=>False
abbrev aGt (P:Program) (ro:Ro) (e:Env) (h:T Obj):List ResultVar→(List Value→Prop)→Prop
  | [],K=>K []
  | .tmp i::r,K=>aGt P ro e h r fun vs=>K (e i::vs)
  | .cell a ty::r,K=>match isAgg P ty with
    | some true=>eM (siz P ty) fun n=>aB (loadA ro h n (e a)) fun v=>aGt P ro e h r fun vs=>K (v::vs)
    | some false=>aB (load1 ro h (e a)) fun v=>aGt P ro e h r fun vs=>K (v::vs)
    | none=>False
def gM (vs:List Value):Env:=fun i=>(vs[i]?).getD undef
abbrev aQD (P:Program) (ro:Ro) (rs:List ResultVar) (K:KV):KE:=fun x e h nx=>exQ x (aGt P ro e h rs fun vs=>∃ h',Sub h' h∧K (aB0 vs) h' nx) (fun _=>False) (aGt P ro e h rs fun vs=>∃ h',Sub h' h∧K (aB0 vs) h' nx)
def cT (h:T Obj) (aid:Nat) (o:Obj) (K:T Obj→Prop):Prop:=K (h.upd aid (some o))
def eQ (h:T Obj) (aid:Nat) (o:Option Obj) (K:T Obj→Prop):Prop:=K (aAW h aid o)
def puts:Env→List (Nat × Value)→Env
  | e,[]=>e
  | e,p::l=>puts (e.put p.1 p.2) l
def aLp (f:Func):Code:=f.body.getD .skip
def qR (P:Program) (ro:Ro) (C:aCK) (f:Func) (vs:List Value) (h:T Obj) (nx:Nat) (K:KV):Prop:=pt P ro C f.ntmps (aLp f) (gM vs) h nx (aQD P ro f.results.toList K)
def aN (P:Program) (ro:Ro):aCK:=fun f vs h nx K=>∃ k v h' nx',call P ro k f vs h nx v h' nx'∧K v h' nx'
end V
end Go.Proofs.YtcaccnneblghgaaGreat
noncomputable section
namespace Go.Proofs.YtcaccnneblghgaaGreat
namespace V
theorem aP {α:Type}{o:Option α}{K:α→Prop} (h:aB o K):∃ a,o=some a∧K a:=by
  cases o with
  | none=>exact h.elim
  | some a=>exact⟨a,rfl,h⟩
def gO (t:T Value):Env:=fun i=>(t.get i).getD undef
section
variable {P:Program}{ro:Ro}{t:T Value}{hp:T Obj}
theorem dO (x:Operand):evl t x=evE (gO t) x:=by cases x<;>rfl
theorem pR:∀ xs:List Operand,wY t xs=aEt (gO t) xs:=by
  intro xs
  induction xs with
  | nil=>rfl
  | cons x xs ih=>simp only[wY,aEt]; rw[dO,ih]
theorem aDb (x:Option Operand):aHa t x=aMJ (gO t) x:=by
  cases x with
  | none=>rfl
  | some x=>simp only[aHa,aMJ]; rw[dO]
theorem aHb:∀ xs:List (Nat × Operand),aGP t xs=aMK (gO t) xs:=by
  intro xs
  induction xs with
  | nil=>rfl
  | cons x xs ih=>simp only[aGP,aMK]; rw[dO,ih]
theorem aKu (d:Nat) (v:Value):gO (t.upd d (some v))=(gO t).put d v:=by
  funext i
  unfold gO Env.put
  rw[T.get_upd]
  by_cases e:i=d
  · subst e; simp
  · rw[if_neg e]
    cases hb:Nat.beq i d with
    | true=>exact absurd (Nat.eq_of_beq_eq_true hb) e
    | false=>rfl
theorem rV {v:Value}{a:Addr} (h:asP v=some a):v=.pointer (some a):=by
  unfold asP at h
  split at h
  · cases h; rfl
  · cases h
theorem vN {v:Value}{a:Array Value} (h:asAgg v=some a):v=.agg a:=by
  unfold asAgg at h
  split at h
  · cases h; rfl
  · cases h
theorem aLS {aid:Nat}{op:Op}{K:Value→Option Obj→Prop} (h:ptQ P ro (gO t) hp aid op K):∃ v ob,opQ P ro t hp aid op=some (v,ob)∧K v ob:=by
  cases op with
  | move x | assign x =>
    obtain⟨v,h1,h2⟩:=aP h
    exact⟨v,none,by simp only[opQ]; rw[dO,h1]; rfl,h2⟩
  | pick c a b =>
    obtain⟨c',h1,h⟩:=aP h
    obtain⟨a',h2,h⟩:=aP h
    obtain⟨b',h3,h⟩:=aP h
    obtain⟨v,h4,h⟩:=aP h
    refine⟨v,none,?_,h⟩
    simp only[opQ]; rw[dO,dO,dO,h1,h2,h3]
    unfold bO at h4
    split at h4<;>cases h4<;>rfl
  | alloc ty =>
    obtain⟨z,h1,h⟩:=aP h
    exact⟨_,_,by simp only[opQ]; rw[h1]; rfl,h⟩
  | box ty x =>
    obtain⟨v,h1,h⟩:=aP h
    exact⟨_,_,by simp only[opQ]; rw[dO,h1]; rfl,h⟩
  | build ty ps =>
    obtain⟨vs,h1,h⟩:=aP h
    obtain⟨v,h2,h⟩:=aP h
    exact⟨_,_,by simp only[opQ]; rw[aHb,h1]; show (fJ P ty vs).bind _=_; rw[h2]; rfl,h⟩
  | buildSlice ty n ps =>
    obtain⟨vs,h1,h⟩:=aP h
    obtain⟨r,h2,h⟩:=aP h
    exact⟨r.1,r.2,by simp only[opQ]; rw[aHb,h1]; exact h2,h⟩
  | load ty x =>
    obtain⟨v,h1,h⟩:=aP h
    split at h
    · rename_i hagg
      obtain⟨n,h2,h⟩:=aP h
      obtain⟨u,h3,h⟩:=aP h
      obtain⟨a,h4,h5⟩:=aM h3
      refine⟨u,none,?_,h⟩
      simp only[opQ]; rw[dO,h1,rV h4]
      show (nL P ro hp ty a).bind _=_
      unfold nL
      rw[hagg]
      show ((siz P ty).bind _).bind _=_
      rw[h2]
      show ((cellsAt ro hp a n).bind _).bind _=_
      rw[h5]; rfl
    · rename_i hagg
      obtain⟨u,h3,h⟩:=aP h
      obtain⟨a,h4,h5⟩:=aM h3
      refine⟨u,none,?_,h⟩
      simp only[opQ]; rw[dO,h1,rV h4]
      show (nL P ro hp ty a).bind _=_
      have:nL P ro hp ty a=some u:=by unfold nL; rw[hagg]; exact h5
      rw[this]; rfl
    · exact h.elim
  | nilCheck x =>
    obtain⟨v,h1,h⟩:=aP h
    obtain⟨u,h2,h⟩:=aP h
    refine⟨u,none,?_,h⟩
    simp only[opQ]; rw[dO,h1]
    unfold bN at h2
    split at h2<;>cases h2<;>rfl
  | binOp op ty x y yt =>
    obtain⟨a,h1,h⟩:=aP h
    obtain⟨b,h2,h⟩:=aP h
    have key:∃ v,aDX P op ty a b=some v∧K v none:=by
      split at h
      · obtain⟨v,h3,h⟩:=aP h
        refine⟨v,?_,h⟩
        unfold aO at h3
        split at h3
        · exact h3
        · cases h3
      · obtain⟨v,h3,h⟩:=aP h
        refine⟨v,?_,h⟩
        unfold aE8 at h3
        split at h3
        · exact h3
        · cases h3
      · rename_i hu
        obtain⟨v,h3,h⟩:=aP h
        refine⟨v,?_,h⟩
        unfold aFY at h3
        split at h3<;>cases h3<;>simp[aDX,zV,aCm,hu,aBP]
      · rename_i hu
        obtain⟨v,h3,h⟩:=aP h
        refine⟨v,?_,h⟩
        unfold yA at h3
        split at h3<;>cases h3<;>simp only[aDX,zV,aCm,hu,aBP,Option.bind]<;>(try rfl)<;>(cases ‹Option Addr›<;>rfl)
      · rename_i hu
        obtain⟨v,h3,h⟩:=aP h
        refine⟨v,?_,h⟩
        unfold slB at h3
        split at h3<;>cases h3<;>simp only[aDX,zV,aCm,hu,aBP,Option.bind]<;>(try rfl)<;>(cases ‹Option Addr›<;>rfl)
      · rename_i hu
        obtain⟨ks,h3,h⟩:=aP h
        obtain⟨v,h4,h⟩:=aP h
        refine⟨v,?_,h⟩
        have hagg:isAgg P ty=some true:=by unfold isAgg; rw[hu]
        unfold aEl at h4
        split at h4
        · split at h4
          · simp only[aDX,zV,aCm,hagg,h3]; exact h4
          · simp only[aDX,zV,aCm,hagg,h3]; exact h4
          · cases h4
        · cases h4
      · rename_i hu
        obtain⟨ks,h3,h⟩:=aP h
        obtain⟨v,h4,h⟩:=aP h
        refine⟨v,?_,h⟩
        have hagg:isAgg P ty=some true:=by unfold isAgg; rw[hu]
        unfold aEl at h4
        split at h4
        · split at h4
          · simp only[aDX,zV,aCm,hagg,h3]; exact h4
          · simp only[aDX,zV,aCm,hagg,h3]; exact h4
          · cases h4
        · cases h4
      · exact h.elim
    obtain⟨v,h3,h⟩:=key
    exact⟨v,none,by simp only[opQ]; rw[dO,dO,h1,h2]; show (aDX P op ty a b).bind _=_; rw[h3]; rfl,h⟩
  | unOp op ty x =>
    obtain⟨a,h1,h⟩:=aP h
    obtain⟨v,h2,h⟩:=aP h
    exact⟨v,none,by simp only[opQ]; rw[dO,h1]; show (unV op a).bind _=_; rw[h2]; rfl,h⟩
  | convert s d x =>
    obtain⟨a,h1,h⟩:=aP h
    have key:∃ r,aCN P ro hp aid s d a=some r∧K r.1 r.2:=by
      split at h
      · rename_i k1 k2 e1 e2
        obtain⟨v,h2,h⟩:=aP h
        refine⟨(v,none),?_,h⟩
        unfold wO at h2
        split at h2
        · cases h2; simp only[aCN,e1,e2]
        · cases h2
      · exact aP h
    obtain⟨r,h2,h⟩:=key
    exact⟨r.1,r.2,by simp only[opQ]; rw[dO,h1]; exact h2,h⟩
  | makeFunc fn a b =>
    cases fn with
    | func f =>
      obtain⟨a',h1,h⟩:=aP h
      obtain⟨b',h2,h⟩:=aP h
      exact⟨_,_,by simp only[opQ]; rw[pR,pR,h1,h2]; rfl,h⟩
    | _=>exact h.elim
  | makeMap mt r =>
    cases r with
    | none=>exact⟨_,_,rfl,h⟩
    | some r=>exact h.elim
  | makeSlice ty l c =>
    obtain⟨l',h1,h⟩:=aP h
    obtain⟨c',h2,h⟩:=aP h
    obtain⟨r,h3,h⟩:=aP h
    exact⟨r.1,r.2,by simp only[opQ]; rw[dO,dO,h1,h2]; exact h3,h⟩
  | slice ty x lo hi mx =>
    obtain⟨x',h1,h⟩:=aP h
    obtain⟨lo',h2,h⟩:=aP h
    obtain⟨hi',h3,h⟩:=aP h
    obtain⟨mx',h4,h⟩:=aP h
    obtain⟨v,h5,h⟩:=aP h
    exact⟨v,none,by simp only[opQ]; rw[dO,aDb,aDb,aDb,h1,h2,h3,h4]; show (lT P ty x' lo' hi' mx').bind _=_; rw[h5]; rfl,h⟩
  | fieldAddr s x f =>
    obtain⟨v,h1,h⟩:=aP h
    obtain⟨fd,h2,h⟩:=aP h
    obtain⟨n,h3,h⟩:=aP h
    split at h
    · exact h.elim
    · obtain⟨u,h4,h⟩:=aP h
      obtain⟨a,h5,h6⟩:=aM h4
      cases h6
      refine⟨_,none,?_,h⟩
      simp only[opQ]; rw[dO,h1,rV h5]
      show (aHi P s f).bind _=_
      rw[h2]
      show (siz P fd.type).bind _=_
      rw[h3]; rfl
  | field ty x f =>
    obtain⟨v,h1,h⟩:=aP h
    obtain⟨fd,h2,h⟩:=aP h
    have key:∃ cs u,v=.agg cs∧aAB P fd.type cs fd.offset=some u∧K u none:=by
      split at h
      · rename_i hagg
        obtain⟨n,h3,h⟩:=aP h
        obtain⟨u,h4,h⟩:=aP h
        obtain⟨cs,h5,h6⟩:=aM h4
        refine⟨cs,u,vN h5,?_,h⟩
        unfold aAB; rw[hagg]; show (siz P fd.type).bind _=_; rw[h3]; exact h6
      · rename_i hagg
        obtain⟨u,h4,h⟩:=aP h
        obtain⟨cs,h5,h6⟩:=aM h4
        refine⟨cs,u,vN h5,?_,h⟩
        unfold aAB; rw[hagg]; exact h6
      · exact h.elim
    obtain⟨cs,u,rfl,h3,h⟩:=key
    refine⟨u,none,?_,h⟩
    simp only[opQ]; rw[dO,h1]
    show (aHi P ty f).bind _=_
    rw[h2]
    show (aAB P fd.type cs fd.offset).bind _=_
    rw[h3]; rfl
  | indexAddr ty x i =>
    obtain⟨x',h1,h⟩:=aP h
    obtain⟨i',h2,h⟩:=aP h
    have key:∃ v,nH P ty x' i'=some v∧K v none:=by
      split at h
      · rename_i hu
        obtain⟨z,h3,h⟩:=aP h
        obtain⟨v,h4,h⟩:=aP h
        refine⟨v,?_,h⟩
        obtain⟨j,h5,h6⟩:=aM h4
        obtain⟨a,h7,h8⟩:=aM h6
        cases rV h7
        unfold nH
        rw[h5]
        show (match und P ty,Value.pointer (some a) with | _,_=>_)=_
        simp only[hu]; rw[h3]; exact h8
      · rename_i hu
        obtain⟨z,h3,h⟩:=aP h
        obtain⟨v,h4,h⟩:=aP h
        refine⟨v,?_,h⟩
        obtain⟨j,h5,h6⟩:=aM h4
        unfold nH
        rw[h5]
        simp only[Option.bind,hu]
        split at h6
        · simp only[h3]; exact h6
        · cases h6
      · exact h.elim
    obtain⟨v,h3,h⟩:=key
    exact⟨v,none,by simp only[opQ]; rw[dO,dO,h1,h2]; show (nH P ty x' i').bind _=_; rw[h3]; rfl,h⟩
  | index ty x i =>
    obtain⟨x',h1,h⟩:=aP h
    obtain⟨i',h2,h⟩:=aP h
    have key:∃ v,xZ P ty x' i'=some v∧K v none:=by
      split at h
      · rename_i el hu
        obtain⟨z,h3,h⟩:=aP h
        split at h
        · rename_i hagg
          obtain⟨v,h4,h⟩:=aP h
          refine⟨v,?_,h⟩
          obtain⟨j,h5,h6⟩:=aM h4
          obtain⟨a,h7,h8⟩:=aM h6
          cases vN h7
          unfold xZ
          rw[h5]
          simp only[Option.bind,hu,h3]
          split at h8
          · rename_i g1 g2
            rw[g1]; simp only[aAB,hagg]; rw[h3]; simp only[Option.bind]; rw[g2]; exact h8
          · cases h8
        · rename_i hagg
          obtain⟨v,h4,h⟩:=aP h
          refine⟨v,?_,h⟩
          obtain⟨j,h5,h6⟩:=aM h4
          obtain⟨a,h7,h8⟩:=aM h6
          cases vN h7
          unfold xZ
          rw[h5]
          simp only[Option.bind,hu,h3]
          split at h8
          · rename_i g1
            rw[g1]; simp only[aAB,hagg]; exact h8
          · cases h8
        · exact h.elim
      · rename_i hu
        obtain⟨v,h4,h⟩:=aP h
        refine⟨v,?_,h⟩
        obtain⟨j,h5,h6⟩:=aM h4
        unfold xZ
        rw[h5]
        simp only[Option.bind,hu]
        split at h6
        · exact h6
        · cases h6
      · exact h.elim
    obtain⟨v,h3,h⟩:=key
    exact⟨v,none,by simp only[opQ]; rw[dO,dO,h1,h2]; show (xZ P ty x' i').bind _=_; rw[h3]; rfl,h⟩
  | lookup ty x k ok =>
    obtain⟨x',h1,h⟩:=aP h
    obtain⟨k',h2,h⟩:=aP h
    obtain⟨v,h3,h⟩:=aP h
    exact⟨v,none,by simp only[opQ]; rw[dO,dO,h1,h2]; show (z9 P hp ty x' k' ok).bind _=_; rw[h3]; rfl,h⟩
  | extract x i =>
    obtain⟨v,h1,h⟩:=aP h
    obtain⟨u,h2,h⟩:=aP h
    refine⟨u,none,?_,h⟩
    simp only[opQ]; rw[dO,h1]
    unfold nth at h2
    split at h2
    · simp only[Option.bind]; rw[h2]
    · cases h2
  | call c =>
    obtain⟨callee,args,ts⟩:=c
    cases callee with
    | builtin b =>
      obtain⟨vs,h1,h⟩:=aP h
      have key:∃ v,eH P hp b ts vs=some v∧K v none:=by
        split at h
        · rename_i x ty hty hzz
          have hb:∀ v,aHv P hp ty x=some v→eH P hp .len ts [x]=some v:=by
            intro v hv
            unfold eH
            simp only
            rw[hty]; exact hv
          split at h
          · rename_i hu
            obtain⟨v,h2,h⟩:=aP h
            refine⟨v,hb v ?_,h⟩
            unfold vZ at h2
            split at h2
            · cases h2; simp only[aHv,hu]
            · cases h2
          · rename_i hu
            obtain⟨v,h2,h⟩:=aP h
            refine⟨v,hb v ?_,h⟩
            unfold bH at h2
            split at h2
            · cases h2; simp only[aHv,hu]
            · cases h2
          · obtain⟨v,h2,h⟩:=aP h
            exact⟨v,hb v h2,h⟩
        · exact aP h
      obtain⟨v,h2,h⟩:=key
      exact⟨v,none,by simp only[opQ]; rw[pR,h1]; show (eH P hp b ts vs).bind _=_; rw[h2]; rfl,h⟩
    | _=>exact h.elim
  | _=>exact h.elim
end
end V
end Go.Proofs.YtcaccnneblghgaaGreat
noncomputable section
namespace Go.Proofs.YtcaccnneblghgaaGreat
namespace V
def LeC (C C':kI):Prop:=∀ f args h nx v h' nx',C f args h nx v h' nx'→C' f args h nx v h' nx'
section
variable {P:Program}{ro:Ro}
theorem aP7 {C C':kI} (hC:LeC C C') {t:T Value}{h h':T Obj}{nx nx':Nat}{op:Op}{v:Value} (hl:opL P ro C t h nx op v h' nx'):opL P ro C' t h nx op v h' nx':=by
  cases op with
  | call c =>
    obtain⟨callee,args,ts⟩:=c
    cases callee with
    | value f =>
      obtain⟨k,a,b,vs,h1,h2,h3⟩:=hl
      exact⟨k,a,b,vs,h1,h2,hC _ _ _ _ _ _ _ h3⟩
    | builtin b=>exact hl
    | invoke r m=>exact hl
  | _=>exact hl
theorem sP {C C':kI} (hC:LeC C C') {t:T Value}{h h':T Obj}{nx aid nx':Nat}{op:Op}{v:Value} (hl:opR P ro C t h nx aid op v h' nx'):opR P ro C' t h nx aid op v h' nx':=by
  unfold opR at hl ⊢
  cases hq:hE op with
  | true=>rw[hq] at hl; exact aP7 hC hl
  | false=>rw[hq] at hl; exact hl
theorem aGi {C C':kI} (hC:LeC C C') {n:Nat}{ops:Array Oper}:∀ (l:List Oper) (s s':St),zN P ro C n ops l s s'→zN P ro C' n ops l s s':=by
  intro l
  induction l with
  | nil=>intro s s' h; exact h
  | cons o l ih =>
    intro s s' h
    simp only[zN] at h ⊢
    cases hw:wanted ops s.t o with
    | true=>rw[hw] at h; obtain⟨v,h',nx',t',h1,h2,h3⟩:=h; exact⟨v,h',nx',t',sP hC h1,h2,ih _ _ h3⟩
    | false=>rw[hw] at h; obtain⟨t',h1,h2⟩:=h; exact⟨t',h1,ih _ _ h2⟩
theorem tN {C C':kI} (hC:LeC C C') {n n0:Nat}{ops:Array Oper}:∀ (l:List Oper) (i:Nat) (ls:List (Nat × Nat)) (ms:List (Nat × T Obj × T Obj)) (s s':St),vD P ro C n ops n0 l i ls ms s s'→vD P ro C' n ops n0 l i ls ms s s':=by
  intro l
  induction l with
  | nil=>intro i ls ms s s' h; exact h
  | cons o l ih =>
    intro i ls ms s s' h
    simp only[vD] at h ⊢
    cases hw:wanted ops s.t o with
    | true =>
      rw[hw] at h; obtain⟨v,h',nx',t',h1,h2,h3⟩:=h
      refine⟨v,h',nx',t',sP hC h1,h2,?_⟩
      cases hq:hE o.op with
      | true=>rw[hq] at h3; exact⟨h3.1,ih _ _ _ _ _ h3.2⟩
      | false =>
        rw[hq] at h3
        simp only at h3 ⊢
        cases hla:rdB P s.t o.op with
        | none=>rw[hla] at h3; exact ih _ _ _ _ _ h3
        | some a=>rw[hla] at h3; exact⟨h3.1,ih _ _ _ _ _ h3.2⟩
    | false=>rw[hw] at h; obtain⟨t',h1,h2⟩:=h; exact⟨t',h1,ih _ _ _ _ _ h2⟩
def LeX (X X':xH):Prop:=∀ n c s e s',X n c s e s'→X' n c s e s'
theorem aD0 {X X':xH} (hX:LeX X X'):LeC (aDZ P ro X) (aDZ P ro X'):=by
  rintro f args h nx v h' nx' (⟨fn,body,e,s,vs,h1,h2,h3,h4,h5⟩ | ho)
  · exact .inl ⟨fn,body,e,s,vs,h1,h2,h3,hX _ _ _ _ _ h4,h5⟩
  · exact .inr ho
theorem aLv {X X':xH} (hX:LeX X X'):LeX (aHY P ro X) (aHY P ro X'):=by
  intro n c s e s' h
  cases c with
  | seq a b =>
    rcases h with ⟨s1,h1,h2⟩ | ⟨h1,h2⟩
    · exact .inl ⟨s1,hX _ _ _ _ _ h1,hX _ _ _ _ _ h2⟩
    · exact .inr ⟨h1,hX _ _ _ _ _ h2⟩
  | cond c a b=>obtain⟨v,h1,h2⟩:=h; exact⟨v,h1,hX _ _ _ _ _ h2⟩
  | block id b=>obtain⟨e1,h1,h2⟩:=h; exact⟨e1,hX _ _ _ _ _ h1,h2⟩
  | loop b =>
    rcases h with ⟨s1,hh,h1,h3,h2⟩ | ⟨h1,h2⟩
    · exact .inl ⟨s1,hh,hX _ _ _ _ _ h1,h3,hX _ _ _ _ _ h2⟩
    · exact .inr ⟨h1,hX _ _ _ _ _ h2⟩
  | scope b=>exact hX _ _ _ _ _ h
  | region id ops draw =>
    obtain⟨h1,h2⟩:=h
    refine⟨h1,?_⟩
    cases draw with
    | false=>exact aGi (aD0 hX) _ _ _ h2
    | true=>exact⟨h2.1,tN (aD0 hX) _ _ _ _ _ _ h2.2⟩
  | _=>exact h
theorem aKn:∀ k,LeX (code P ro k) (code P ro (k+1)):=by
  intro k
  induction k with
  | zero=>intro n c s e s' h; exact h.elim
  | succ k ih=>exact aLv ih
theorem qT {k k':Nat} (h:k≤k'):LeX (code P ro k) (code P ro k'):=by
  induction h with
  | refl=>intro n c s e s' h; exact h
  | step _ ih=>intro n c s e s' h; exact aKn _ _ _ _ _ _ (ih _ _ _ _ _ h)
theorem iX {k k':Nat} (h:k≤k'):LeC (call P ro k) (call P ro k'):=aD0 (qT h)
variable {t:T Value}{h:T Obj}{nx:Nat}
theorem aLR {op:Op}{K:KV} (hl:ptL P ro (aN P ro) (gO t) h nx op K):∃ k v h' nx',opL P ro (call P ro k) t h nx op v h' nx'∧K v h' nx':=by
  cases op with
  | store ty a x =>
    obtain⟨a',h1,hl⟩:=aP hl
    obtain⟨x',h2,hl⟩:=aP hl
    obtain⟨n,h3,hl⟩:=aP hl
    obtain⟨h',h4,hl⟩:=aP hl
    obtain⟨ad,h5,h6⟩:=aM h4
    refine⟨0,_,_,_,⟨a',x',by rw[dO]; exact h1,by rw[dO]; exact h2,?_,rfl,rfl⟩,hl⟩
    rw[rV h5]
    simp only[y0]
    rw[h3]; exact h6
  | mapUpdate ty m k x | insert ty m k x =>
    obtain⟨m',h1,hl⟩:=aP hl
    obtain⟨k',h2,hl⟩:=aP hl
    obtain⟨x',h3,hl⟩:=aP hl
    obtain⟨h',h4,hl⟩:=aP hl
    exact⟨0,_,_,_,⟨m',k',x',by rw[dO]; exact h1,by rw[dO]; exact h2,by rw[dO]; exact h3,h4,rfl,rfl⟩,hl⟩
  | call c =>
    obtain⟨callee,args,ts⟩:=c
    cases callee with
    | builtin b =>
      obtain⟨vs,h1,hl⟩:=aP hl
      cases b<;>try (exact hl.elim)
      case append =>
        obtain⟨r,h2,hl⟩:=aP hl
        exact⟨0,r.1,r.2.1,r.2.2,⟨vs,by rw[pR]; exact h1,h2⟩,hl⟩
      case clear =>
        simp only at hl
        split at hl
        · rename_i m ty hty
          obtain⟨u,h2,hl⟩:=aP hl
          obtain⟨h',h3,hl⟩:=aP hl
          exact⟨0,_,_,_,⟨_,by rw[pR]; exact h1,_,_,rfl,hty,by rw[h2]; rfl,h3,rfl,rfl⟩,hl⟩
        · exact hl.elim
      case copy =>
        obtain⟨r,h2,hl⟩:=aP hl
        exact⟨0,r.1,r.2.1,r.2.2,⟨vs,by rw[pR]; exact h1,h2⟩,hl⟩
    | value f =>
      obtain⟨fv,h1,hl⟩:=aP hl
      obtain⟨vs,h2,hl⟩:=aP hl
      unfold xK at hl
      split at hl
      · rename_i k a b _
        obtain⟨fu,v,h',nx',h3,h4⟩:=hl
        exact⟨fu,v,h',nx',⟨k,a,b,vs,by rw[dO]; exact h1,by rw[pR]; exact h2,h3⟩,h4⟩
      · exact hl.elim
    | invoke r m=>exact hl.elim
  | convert sx dx x =>
    obtain⟨x',h1,hl⟩:=aP hl
    obtain⟨r,h2,hl⟩:=aP hl
    exact⟨0,r.1,r.2,nx,⟨x',by rw[dO]; exact h1,h2,rfl⟩,hl⟩
  | _=>exact hl.elim
theorem zF {aid:Nat}{op:Op}{K:KV} (hl:ptO P ro (aN P ro) (gO t) h nx aid op K):∃ k v h' nx',opR P ro (call P ro k) t h nx aid op v h' nx'∧K v h' nx':=by
  unfold ptO at hl
  unfold opR
  cases hq:hE op with
  | true=>rw[hq] at hl; exact aLR hl
  | false =>
    rw[hq] at hl
    obtain⟨v,ob,h1,h2⟩:=aLS hl
    exact⟨0,v,_,nx,⟨ob,h1,rfl,rfl⟩,h2⟩
def aHk (g:Gd):Prop:=match g with
  | none=>True
  | some vw=>vw.1=.bool vw.2
theorem aIJ {g:Gd}{X:Prop} (h:onP g X) (hg:aHk g):X:=by
  cases g with
  | none=>exact h
  | some vw=>exact h hg
theorem aF8 {ops:Array Oper}{o:Oper}{F:Gd→Prop} (hg:gdP ops (gO t) o.guard F) :
    ∃ g,F g∧(∀ h nx A K,aFz g h nx A K→(wanted ops t o=true∧A K)∨(wanted ops t o=false∧K undef h nx))∧(wanted ops t o=true→aHk g):=by
  unfold gdP at hg
  unfold wanted
  cases hgd:o.guard with
  | none=>rw[hgd] at hg; exact⟨none,hg,fun h nx A K hA=>.inl ⟨rfl,hA⟩,fun _=>trivial⟩
  | some jw =>
    obtain⟨j,w⟩:=jw
    rw[hgd] at hg
    simp only at hg ⊢
    cases hd:(ops[j]?).bind (·.dst) with
    | none=>rw[hd] at hg; exact hg.elim
    | some d =>
      rw[hd] at hg
      simp only at hg ⊢
      refine⟨_,hg,?_,?_⟩
      · intro h nx A K hA
        unfold aFz ifP at hA
        simp only at hA
        split at hA
        · rename_i b hb
          have hb':t.get d=some (.bool b):=by
            unfold gO at hb
            cases ht:t.get d with
            | none=>rw[ht] at hb; cases hb
            | some v=>rw[ht] at hb; exact congrArg some hb
          rw[hb']
          simp only
          cases hbw:b==w with
          | true=>rw[hbw] at hA; exact .inl ⟨rfl,hA⟩
          | false=>rw[hbw] at hA; exact .inr ⟨rfl,hA⟩
        · rename_i hnb
          right
          refine⟨?_,hA⟩
          cases ht:t.get d with
          | none=>rfl
          | some v =>
            cases v with
            | bool b=>exact absurd (show gO t d=.bool b by unfold gO; rw[ht]; rfl) (hnb b)
            | _=>rfl
      · intro hw
        unfold aHk
        simp only
        split at hw
        · rename_i b hb
          have:b=w:=by simpa using hw
          subst this
          unfold gO; rw[hb]; rfl
        · cases hw
theorem lP {n:Nat}{d:Option Tmp}{v:Value}{K:Env→Prop} (hp:aLV n (gO t) d v K):∃ t',put n t d v=some t'∧K (gO t'):=by
  cases d with
  | none=>exact⟨t,rfl,hp⟩
  | some d =>
    unfold aLV at hp
    simp only at hp
    cases hb:Nat.blt d n with
    | true=>rw[hb] at hp; exact⟨t.upd d (some v),by simp only[put]; rw[hb],by rw[aKu]; exact hp⟩
    | false=>rw[hb] at hp; exact hp.elim
theorem aIT {n:Nat}{ops:Array Oper}:∀ (l:List Oper) (t:T Value) (h:T Obj) (nx:Nat) (Q:Env→T Obj→Nat→Prop),aMx P ro (aN P ro) n ops l (gO t) h nx Q →
    ∃ k s',zN P ro (call P ro k) n ops l ⟨t,h,nx⟩ s'∧Q (gO s'.t) s'.h s'.nx:=by
  intro l
  induction l with
  | nil=>intro t h nx Q hl; exact⟨0,_,rfl,hl⟩
  | cons o l ih =>
    intro t h nx Q hl
    obtain⟨g,h1,h2,_⟩:=aF8 hl
    simp only[zN]
    rcases h2 _ _ _ _ h1 with ⟨hw,hA⟩ | ⟨hw,hK⟩
    · obtain⟨k1,v,h',nx',h3,h4⟩:=zF hA
      obtain⟨t',h5,h6⟩:=lP h4
      obtain⟨k2,s',h7,h8⟩:=ih t' h' nx' Q h6
      refine⟨max k1 k2,s',?_,h8⟩
      rw[hw]
      exact⟨v,h',nx',t',sP (iX (Nat.le_max_left _ _)) h3,h5,aGi (iX (Nat.le_max_right _ _)) _ _ _ h7⟩
    · obtain⟨t',h5,h6⟩:=lP hK
      obtain⟨k2,s',h7,h8⟩:=ih t' h nx Q h6
      refine⟨k2,s',?_,h8⟩
      rw[hw]
      exact⟨t',h5,h7⟩
theorem aFi:∀ (l:List Nat) (i:Nat),aMn l i=l.getD i 0
  | [],_=>by simp[aMn]
  | _::_,0=>rfl
  | _::r,n+1=>by simp[aMn,aFi r n]
theorem xV (ops:Array Oper) (i j:Nat):uX (bef ops).toList i j=free (bef ops) i j:=by
  unfold uX free
  rw[aFi]; simp
theorem aD8 (ops:Array Oper):vR P ops (bef ops).toList=vQ P ops:=by
  unfold vR vQ
  simp only[xV]
  rfl
theorem aK0 {α:Type} (K:List Nat→α):∀ (l o:List Nat),aOP K l o=K (l.reverse++o)
  | [],o=>rfl
  | x::r,o=>by rw[aOP,aK0 K r]; simp
theorem aHN {α:Type} (K:List Nat→α):∀ (l:List Oper) (j:Nat) (acc:List Nat),aKc K l j acc=K (CheckFast.beforeL l j acc)
  | [],j,acc=>by rw[aKc,aK0,CheckFast.beforeL]; simp
  | o::r,j,acc=>by rw[aKc,CheckFast.force_eq,aHN K r,CheckFast.beforeL,CheckFast.force_eq]
theorem aNb {α:Type} (K:List Nat→α) (ops:Array Oper):aKc K ops.toList 0 []=K (bef ops).toList:=by
  rw[aHN]
  have:=CheckFast.beforeF_eq ops
  unfold bef
  rw[← this]
  rfl
theorem aJf {b:List Nat}{i:Nat}{h h':T Obj}{K:Prop}:∀ {lp:List (Nat × Gd × Value)},aIc b i h h' lp K→K∧∀ q∈lp,uX b q.1 i=true→onP q.2.1 (jT q.2.2 h h'):=by
  intro lp
  induction lp with
  | nil=>intro h; exact⟨h,fun q hq=>by cases hq⟩
  | cons q lp ih =>
    intro hs
    simp only[aIc] at hs
    cases hf:uX b q.1 i with
    | true =>
      rw[hf] at hs
      obtain⟨h1,h2⟩:=ih hs.2
      refine⟨h1,fun x hx hfx=>?_⟩
      rcases List.mem_cons.1 hx with rfl | hx
      · exact hs.1
      · exact h2 x hx hfx
    | false =>
      rw[hf] at hs
      obtain⟨h1,h2⟩:=ih hs
      refine⟨h1,fun x hx hfx=>?_⟩
      rcases List.mem_cons.1 hx with rfl | hx
      · rw[hf] at hfx; cases hfx
      · exact h2 x hx hfx
theorem aJg {b:List Nat}{i:Nat}{v:Value}{K:Prop}:∀ {mp:List (Nat × Gd × T Obj × T Obj)},aId b i v mp K→K∧∀ q∈mp,uX b q.1 i=true→onP q.2.1 (jT v q.2.2.1 q.2.2.2):=by
  intro mp
  induction mp with
  | nil=>intro h; exact⟨h,fun q hq=>by cases hq⟩
  | cons q mp ih =>
    intro hs
    simp only[aId] at hs
    cases hf:uX b q.1 i with
    | true =>
      rw[hf] at hs
      obtain⟨h1,h2⟩:=ih hs.2
      refine⟨h1,fun x hx hfx=>?_⟩
      rcases List.mem_cons.1 hx with rfl | hx
      · exact hs.1
      · exact h2 x hx hfx
    | false =>
      rw[hf] at hs
      obtain⟨h1,h2⟩:=ih hs
      refine⟨h1,fun x hx hfx=>?_⟩
      rcases List.mem_cons.1 hx with rfl | hx
      · rw[hf] at hfx; cases hfx
      · exact h2 x hx hfx
theorem aFp {t:T Value} (op:Op):aAD P t op=rdE P (gO t) op:=by
  cases op with
  | load ty x=>exact dO x
  | lookup ty x k ok=>exact dO x
  | convert sx dx x =>
    simp only[aAD,rdE]; rw[dO]
    cases und P sx with
    | none=>rfl
    | some d=>cases d<;>rfl
  | call c =>
    obtain⟨callee,args,ts⟩:=c
    cases callee with
    | builtin b =>
      simp only[aAD,rdE]; rw[pR]
      cases (ts[0]?).bind (und P) with
      | none=>rfl
      | some d =>
                  cases d<;>try rfl
                  all_goals (simp only; cases aEt (gO t) args.toList with
                    | none=>rfl
                    | some l=>cases l with
                      | nil=>rfl
                      | cons a r=>cases r<;>rfl)
    | _=>rfl
  | _=>rfl
def RL (ls:List (Nat × Nat)) (lp:List (Nat × Gd × Value)):Prop:=∀ q∈ls,∃ g v,(q.1,g,v)∈lp∧aHk g∧blk v=some q.2
def RM (ms:List (Nat × T Obj × T Obj)) (mp:List (Nat × Gd × T Obj × T Obj)):Prop:=∀ q∈ms,∃ g,(q.1,g,q.2)∈mp∧aHk g
theorem RL.more {ls:List (Nat × Nat)}{lp:List (Nat × Gd × Value)} (h:RL ls lp) (x:Nat × Gd × Value):RL ls (x::lp):=fun q hq=>by
  obtain⟨g,v,h1,h2⟩:=h q hq
  exact⟨g,v,List.mem_cons_of_mem _ h1,h2⟩
theorem RM.more {ms:List (Nat × T Obj × T Obj)}{mp:List (Nat × Gd × T Obj × T Obj)} (h:RM ms mp) (x:Nat × Gd × T Obj × T Obj):RM ms (x::mp):=fun q hq=>by
  obtain⟨g,h1,h2⟩:=h q hq
  exact⟨g,List.mem_cons_of_mem _ h1,h2⟩
theorem aLQ {n n0:Nat}{ops:Array Oper}:∀ (l:List Oper) (i:Nat) (ls:List (Nat × Nat)) (ms:List (Nat × T Obj × T Obj)) (lp:List (Nat × Gd × Value)) (mp:List (Nat × Gd × T Obj × T Obj)) (t:T Value) (h:T Obj) (nx:Nat) (Q:Env→T Obj→Nat→Prop),
    RL ls lp→RM ms mp→ptD P ro (aN P ro) n ops (bef ops).toList n0 l i lp mp (gO t) h nx Q→∃ k s',vD P ro (call P ro k) n ops n0 l i ls ms ⟨t,h,nx⟩ s'∧Q (gO s'.t) s'.h s'.nx:=by
  intro l
  induction l with
  | nil=>intro i ls ms lp mp t h nx Q _ _ hl; exact⟨0,_,rfl,hl⟩
  | cons o l ih =>
    intro i ls ms lp mp t h nx Q hrl hrm hl
    obtain⟨g,h1,h2,hgt⟩:=aF8 hl
    simp only[vD]
    cases hq:hE o.op with
    | true =>
      rw[hq] at h1
      simp only at h1
      rcases h2 _ _ _ _ h1 with ⟨hw,hA⟩ | ⟨hw,hK⟩
      · obtain⟨k1,v,h',nx',h3,h4⟩:=zF hA
        obtain⟨h4,hsame⟩:=aJf h4
        obtain⟨t',h5,h6⟩:=lP h4
        obtain⟨k2,s',h7,h8⟩:=ih (i+1) ls ((i,h,h')::ms) lp ((i,g,h,h')::mp) t' h' nx' Q hrl (fun q hq=>by
          rcases List.mem_cons.1 hq with rfl | hq
          · exact⟨g,by simp,hgt hw⟩
          · obtain⟨g',e1,e2⟩:=hrm q hq
            exact⟨g',List.mem_cons_of_mem _ e1,e2⟩) h6
        refine⟨max k1 k2,s',?_,h8⟩
        rw[hw]
        refine⟨v,h',nx',t',sP (iX (Nat.le_max_left _ _)) h3,h5,?_,tN (iX (Nat.le_max_right _ _)) _ _ _ _ _ _ h7⟩
        intro q hqm hf
        obtain⟨g',v',e1,e2,e3⟩:=hrl q hqm
        have:=aIJ (hsame _ e1 (by rw[xV]; exact hf)) e2
        unfold jT at this
        simp only[e3] at this
        exact this
      · obtain⟨t',h5,h6⟩:=lP hK
        obtain⟨k2,s',h7,h8⟩:=ih (i+1) ls ms lp ((i,g,h,h)::mp) t' h nx Q hrl (hrm.more _) h6
        refine⟨k2,s',?_,h8⟩
        rw[hw]
        exact⟨t',h5,h7⟩
    | false =>
      rw[hq] at h1
      simp only at h1
      cases hloc:rdE P (gO t) o.op with
      | some a =>
        rw[hloc] at h1
        simp only at h1
        rcases h2 _ _ _ _ h1 with ⟨hw,hA⟩ | ⟨hw,hK⟩
        · obtain⟨k1,v,h',nx',h3,h4⟩:=zF hA
          obtain⟨h4,hsame⟩:=aJg h4
          obtain⟨t',h5,h6⟩:=lP h4
          cases hla:rdB P t o.op with
          | none =>
            obtain⟨k2,s',h7,h8⟩:=ih (i+1) ls ms ((i,g,a)::lp) mp t' h' nx' Q (hrl.more _) hrm h6
            refine⟨max k1 k2,s',?_,h8⟩
            rw[hw]
            exact⟨v,h',nx',t',sP (iX (Nat.le_max_left _ _)) h3,h5,tN (iX (Nat.le_max_right _ _)) _ _ _ _ _ _ h7⟩
          | some ad =>
            have ha:blk a=some ad:=by
              unfold rdB at hla
              rw[aFp,hloc] at hla
              exact hla
            obtain⟨k2,s',h7,h8⟩:=ih (i+1) ((i,ad)::ls) ms ((i,g,a)::lp) mp t' h' nx' Q (fun q hq=>by
              rcases List.mem_cons.1 hq with rfl | hq
              · exact⟨g,a,by simp,hgt hw,ha⟩
              · obtain⟨g',v',e1,e2⟩:=hrl q hq
                exact⟨g',v',List.mem_cons_of_mem _ e1,e2⟩) hrm h6
            refine⟨max k1 k2,s',?_,h8⟩
            rw[hw]
            refine⟨v,h',nx',t',sP (iX (Nat.le_max_left _ _)) h3,h5,?_,tN (iX (Nat.le_max_right _ _)) _ _ _ _ _ _ h7⟩
            intro q hqm hf
            obtain⟨g',e1,e2⟩:=hrm q hqm
            have:=aIJ (hsame _ e1 (by rw[xV]; exact hf)) e2
            unfold jT at this
            simp only[ha] at this
            exact this
        · obtain⟨t',h5,h6⟩:=lP hK
          obtain⟨k2,s',h7,h8⟩:=ih (i+1) ls ms ((i,g,a)::lp) mp t' h nx Q (hrl.more _) hrm h6
          refine⟨k2,s',?_,h8⟩
          rw[hw]
          exact⟨t',h5,h7⟩
      | none =>
        rw[hloc] at h1
        simp only at h1
        have hla:rdB P t o.op=none:=by
          unfold rdB
          rw[aFp,hloc]; rfl
        rcases h2 _ _ _ _ h1 with ⟨hw,hA⟩ | ⟨hw,hK⟩
        · obtain⟨k1,v,h',nx',h3,h4⟩:=zF hA
          obtain⟨t',h5,h6⟩:=lP h4
          obtain⟨k2,s',h7,h8⟩:=ih (i+1) ls ms lp mp t' h' nx' Q hrl hrm h6
          refine⟨max k1 k2,s',?_,h8⟩
          rw[hw,hla]
          exact⟨v,h',nx',t',sP (iX (Nat.le_max_left _ _)) h3,h5,tN (iX (Nat.le_max_right _ _)) _ _ _ _ _ _ h7⟩
        · obtain⟨t',h5,h6⟩:=lP hK
          obtain⟨k2,s',h7,h8⟩:=ih (i+1) ls ms lp mp t' h nx Q hrl hrm h6
          refine⟨k2,s',?_,h8⟩
          rw[hw]
          exact⟨t',h5,h7⟩
def aLd (P:Program) (ro:Ro) (n:Nat) (c:Code) (t:T Value) (h:T Obj) (nx:Nat) (Q:KE):Prop:=∃ k x s',code P ro k n c ⟨t,h,nx⟩ x s'∧Q x (gO s'.t) s'.h s'.nx
theorem aHr {n:Nat}{b:Code} (ihb:∀ (t:T Value) (h:T Obj) (nx:Nat) (Q:KE),pt P ro (aN P ro) n b (gO t) h nx Q→aLd P ro n b t h nx Q) :
    ∀ (j:Nat) (t:T Value) (h:T Obj) (nx:Nat) (Q:KE),aFa (pt P ro (aN P ro) n b) j (gO t) h nx Q→aLd P ro n (.loop b) t h nx Q:=by
  intro j
  induction j with
  | zero=>intro t h nx Q hi; exact hi.elim
  | succ j ih =>
    intro t h nx Q hi
    obtain⟨k1,x,s1,h1,h2⟩:=ihb _ _ _ _ hi
    cases x with
    | normal =>
      obtain⟨hh,h3,h4⟩:=h2
      obtain⟨k2,x,s2,h5,h6⟩:=ih s1.t hh s1.nx Q h4
      exact⟨max k1 k2+1,x,s2,.inl ⟨s1,hh,qT (Nat.le_max_left _ _) _ _ _ _ _ h1,h3,qT (Nat.le_max_right _ _) _ _ _ _ _ h5⟩,h6⟩
    | exit id=>exact⟨k1+1,_,s1,.inr ⟨by simp,h1⟩,h2⟩
    | ret=>exact⟨k1+1,_,s1,.inr ⟨by simp,h1⟩,h2⟩
theorem aMy {n:Nat}:∀ (c:Code) (t:T Value) (h:T Obj) (nx:Nat) (Q:KE),pt P ro (aN P ro) n c (gO t) h nx Q→aLd P ro n c t h nx Q:=by
  intro c
  induction c with
  | skip | label=>intro t h nx Q hp; exact⟨1,.normal,_,⟨rfl,rfl⟩,hp⟩
  | ret=>intro t h nx Q hp; exact⟨1,.ret,_,⟨rfl,rfl⟩,hp⟩
  | exit id=>intro t h nx Q hp; exact⟨1,.exit id,_,⟨rfl,rfl⟩,hp⟩
  | seq a b iha ihb =>
    intro t h nx Q hp
    obtain⟨k1,x,s1,h1,h2⟩:=iha _ _ _ _ hp
    cases x with
    | normal =>
      obtain⟨k2,x,s2,h5,h6⟩:=ihb _ _ _ _ h2
      exact⟨max k1 k2+1,x,s2,.inl ⟨s1,qT (Nat.le_max_left _ _) _ _ _ _ _ h1,qT (Nat.le_max_right _ _) _ _ _ _ _ h5⟩,h6⟩
    | exit id=>exact⟨k1+1,_,s1,.inr ⟨by simp,h1⟩,h2⟩
    | ret=>exact⟨k1+1,_,s1,.inr ⟨by simp,h1⟩,h2⟩
  | cond c a b iha ihb =>
    intro t h nx Q hp
    obtain⟨v,h1,h2⟩:=aP hp
    rw[← dO] at h1
    unfold aR at h2
    split at h2
    · obtain⟨k,x,s1,h3,h4⟩:=iha _ _ _ _ h2
      exact⟨k+1,x,s1,⟨true,h1,h3⟩,h4⟩
    · obtain⟨k,x,s1,h3,h4⟩:=ihb _ _ _ _ h2
      exact⟨k+1,x,s1,⟨false,h1,h3⟩,h4⟩
    · exact h2.elim
  | block id b ihb =>
    intro t h nx Q hp
    obtain⟨k,x,s1,h1,h2⟩:=ihb _ _ _ _ hp
    cases x with
    | normal=>exact⟨k+1,_,s1,⟨_,h1,rfl⟩,h2⟩
    | ret=>exact⟨k+1,_,s1,⟨_,h1,rfl⟩,h2⟩
    | exit i =>
      refine⟨k+1,_,s1,⟨_,h1,rfl⟩,?_⟩
      have h2:cO (Nat.beq i id) (Q .normal (gO s1.t) s1.h s1.nx) (Q (.exit i) (gO s1.t) s1.h s1.nx):=h2
      simp only at ⊢
      cases hb:Nat.beq i id with
      | true=>rw[hb] at h2; exact h2
      | false=>rw[hb] at h2; exact h2
  | loop b ihb =>
    rintro t h nx Q ⟨j,hp⟩
    exact aHr ihb j t h nx Q hp
  | scope b ihb =>
    intro t h nx Q hp
    obtain⟨k,x,s1,h1,h2⟩:=ihb _ _ _ _ hp
    exact⟨k+1,x,s1,h1,h2⟩
  | region id ops draw =>
    intro t h nx Q hp
    cases draw with
    | false =>
      obtain⟨k,s',h1,h2⟩:=aIT _ _ _ _ _ hp
      exact⟨k+1,.normal,s',⟨rfl,h1⟩,h2⟩
    | true =>
      simp only[pt] at hp
      rw[aNb,aD8] at hp
      cases hd:vQ P ops with
      | false=>rw[hd] at hp; exact hp.elim
      | true =>
        rw[hd] at hp
        obtain⟨k,s',h1,h2⟩:=aLQ (P:=P) (ro:=ro) ops.toList 0 [] [] [] [] t h (nx+ops.size) (Q .normal) (fun q hq=>by cases hq) (fun q hq=>by cases hq) hp
        exact⟨k+1,.normal,s',⟨rfl,hd,h1⟩,h2⟩
  | _=>intro t h nx Q hp; exact hp.elim
theorem aJ8 {t:T Value}{h:T Obj}:∀ (rs:List ResultVar) (K:List Value→Prop),aGt P ro (gO t) h rs K→∃ vs,aBx P ro h t rs=some vs∧K vs:=by
  intro rs
  induction rs with
  | nil=>intro K hr; exact⟨[],rfl,hr⟩
  | cons r rs ih =>
    intro K hr
    cases r with
    | tmp i =>
      obtain⟨vs,h1,h2⟩:=ih _ hr
      exact⟨_,by simp only[aBx]; rw[h1]; rfl,h2⟩
    | cell a ty =>
      have key:∃ ad v,gO t a=.pointer (some ad)∧nL P ro h ty ad=some v∧aGt P ro (gO t) h rs fun vs=>K (v::vs):=by
        simp only[aGt] at hr
        split at hr
        · rename_i hagg
          obtain⟨n,h1,hr⟩:=aP hr
          obtain⟨v,h2,hr⟩:=aP hr
          obtain⟨ad,h3,h4⟩:=aM h2
          exact⟨ad,v,rV h3,by unfold nL; rw[hagg]; show (siz P ty).bind _=_; rw[h1]; exact h4,hr⟩
        · rename_i hagg
          obtain⟨v,h2,hr⟩:=aP hr
          obtain⟨ad,h3,h4⟩:=aM h2
          exact⟨ad,v,rV h3,by unfold nL; rw[hagg]; exact h4,hr⟩
        · exact hr.elim
      obtain⟨ad,v,h1,h2,h3⟩:=key
      obtain⟨vs,h4,h5⟩:=ih _ h3
      refine⟨_,?_,h5⟩
      simp only[aBx]
      have:(t.get a).getD undef=.pointer (some ad):=h1
      rw[this]
      simp only
      rw[h2,h4]; rfl
theorem aH8 {vs:List Value}:gO (xP vs 0 .e)=gM vs:=by
  funext i
  unfold gO gM
  rw[aDa]
  by_cases hi:i < vs.length
  · rw[if_pos (by omega),Nat.sub_zero]
  · rw[if_neg (by omega),T.get_e,List.getElem?_eq_none (by omega)]
theorem aLs {f:FuncId}{fn:Func}{body:Code}{vs:List Value}{K:KV} (h1:P.funcs[f]?=some fn) (h2:fn.body=some body) (h3:Nat.ble vs.length fn.ntmps=true)
    (hp:pt P ro (aN P ro) fn.ntmps body (gM vs) h nx (aQD P ro fn.results.toList K)):aN P ro f vs h nx K:=by
  rw[← aH8] at hp
  obtain⟨k,x,s',h4,h5⟩:=aMy _ _ _ _ _ hp
  have key:(x=.normal∨x=.ret)∧aGt P ro (gO s'.t) s'.h fn.results.toList fun vs=>∃ h',Sub h' s'.h∧K (aB0 vs) h' s'.nx:=by
    cases x with
    | exit id=>exact h5.elim
    | normal=>exact⟨.inl rfl,h5⟩
    | ret=>exact⟨.inr rfl,h5⟩
  obtain⟨hx,hr⟩:=key
  obtain⟨ws,h6,h',h7,h8⟩:=aJ8 _ _ hr
  exact⟨k,aB0 ws,h',s'.nx,.inl ⟨fn,body,x,s',ws,h1,h2,Nat.le_of_ble_eq_true h3,h4,hx,h6,rfl,h7,rfl⟩,h8⟩
theorem aKk {f:FuncId}{v:Value}{K:KV} (ho:Orc P f v) (hK:K v h nx):aN P ro f [] h nx K:=⟨0,v,h,nx,.inr (.inl ⟨rfl,ho,fun _ _ e=>e,rfl⟩),hK⟩
theorem bA {f:FuncId}{fn:Func}{vs:List Value}{K:KV} (h1:P.funcs[f]?=some fn) (h2:fn.body.isSome=true) (h3:Nat.ble vs.length fn.ntmps=true)
    (hp:qR P ro (aN P ro) fn vs h nx K):aN P ro f vs h nx K:=by
  cases hb:fn.body with
  | none=>rw[hb] at h2; cases h2
  | some b =>
    refine aLs h1 hb h3 ?_
    unfold qR aLp at hp
    rw[hb] at hp
    exact hp
end
end V
end Go.Proofs.YtcaccnneblghgaaGreat
noncomputable section
namespace Go.Proofs.YtcaccnneblghgaaGreat
namespace V
open Go.RowKit
def aG9:Addr:=⟨0,0,none⟩
def wA (N:Nat):Value→Option Value
  | .slice (some a) 0 0=>some (.slice (some aG9) 0 0)
  | .slice (some a) l c=>match a.spot,Nat.blt a.block N with
    | none,true=>some (.slice (some a) l c)
    | _,_=>none
  | .pointer (some a)=>match a.spot,Nat.blt a.block N with
    | none,true=>some (.pointer (some a))
    | _,_=>none
  | v=>match flat v with
    | true=>some v
    | false=>none
theorem aGa {N:Nat}{φ:Phi}{v v':Value} (h:wA N v=some v'):VR N φ v' v:=by
  unfold wA at h
  split at h
  · cases h; exact .sliceNo rfl
  · split at h
    · rename_i h1 h2
      cases h; exact .sliceRo h1 (by have:=h2; simp[Nat.blt] at this; omega)
    · cases h
  · split at h
    · rename_i h1 h2
      cases h; exact .ptrRo h1 (by have:=h2; simp[Nat.blt] at this; omega)
    · cases h
  · split at h
    · rename_i hf; cases h; exact .flat hf
    · cases h
def nI (W:World):Ro:=fun a=>match a.spot,Nat.blt a.block W.heap.size with
  | none,true=>(W.cell? a).bind (wA W.heap.size)
  | _,_=>none
theorem aE1 (W:World):Sim (nI W) W.heap.size (fun _=>none) W (T.e:T Obj).get W where
  n:=rfl
  le:=Nat.le_refl _
  old:=fun _ _=>rfl
  dom:=fun k B o r h=>by cases h
  inj:=fun k k' B o r B' o' r' h=>by rw[T.get_e] at h; exact absurd rfl h
  own:=fun k o h=>by rw[T.get_e] at h; cases h
  ro:=fun a v h=>by
    unfold nI at h
    split at h
    · rename_i h1 h2
      obtain⟨v',h3,h4⟩:=aM h
      exact⟨h1,by have:=h2; simp[Nat.blt] at this; omega,v',h3,aGa h4⟩
    · cases h
def kD (N:Nat):List Value→Option (List Value)
  | []=>some []
  | v::l=>(wA N v).bind fun v=>(kD N l).bind fun l=>some (v::l)
inductive Arg (N:Nat):Value→Value→Prop where
  | one {v v':Value} (h:wA N v=some v'):Arg N v' v
  | agg {cs:Array Value} {l:List Value} (h:kD N cs.toList=some l):Arg N (.agg l.toArray) (.agg cs)
theorem aBQ {N:Nat}{φ:Phi}:∀ {l l':List Value},kD N l=some l'→LR N φ l' l
  | [],l',h=>by cases h; exact .nil
  | v::l,l',h=>by
    obtain⟨v',h1,h⟩:=aM h
    obtain⟨r,h2,h⟩:=aM h
    cases h
    exact .cons (aGa h1) (aBQ h2)
theorem Arg.vr {N:Nat}{φ:Phi}{v v':Value} (h:Arg N v v'):VR N φ v v':=by
  cases h with
  | one h=>exact aGa h
  | agg h=>exact .agg (by have:=(aBQ (φ:=φ) h).length; simpa using this) fun i x y hx hy=>(aBQ h).get i x y (by simpa using hx) (by simpa using hy)
inductive Args (N:Nat):List Value→List Value→Prop where
  | nil:Args N [] []
  | cons {v v':Value} {l l':List Value} (h:Arg N v v') (t:Args N l l'):Args N (v::l) (v'::l')
theorem Args.lr {N:Nat}{φ:Phi}{l l':List Value} (h:Args N l l'):LR N φ l l':=by
  induction h with
  | nil=>exact .nil
  | cons h _ ih=>exact .cons h.vr ih
def aPv (P:Program) (W:World) (f:FuncId) (vs:List Value):Prop:=aN P (nI W) f vs .e 0 fun v _ _=>v=.bool true
theorem aJh {P:Program} (hz:gF P=true) (hn:mG P=true) (hm:P.follows .mixedOrders=true) {W:World}{f:FuncId}{vs:List Value}{args:Array Value}
    (ha:Args W.heap.size vs args.toList) (h:aPv P W f vs):Calls P f args W fun e W'=>e=.returned (.bool true)∧Below W.heap.size W W':=by
  obtain⟨k,v,h',nx',hc,rfl⟩:=h
  have hs:SS (nI W) W.heap.size W (fun _=>none) .e 0 W:=⟨aE1 W,fun _ _=>rfl⟩
  refine ((aA1 (ro:=nI W) (N:=W.heap.size) (w0:=W) hz hn hm _ _ _ _ _ _ _ hc).2 _ W args hs ha.lr).mono fun e W' ⟨v',φ',he,hst,hv⟩=>?_
  subst he
  refine⟨by rw[hv.of_flat rfl],⟨hst.os,hst.tape,hst.output,hst.size,fun b hb=>hst.frame b hb fun k B o r hk _=>absurd (T.get_e k) hk⟩⟩
section
open Go.ChangeShapes Go.WideShapes Go.ChangeAt
variable {H:Type}{enc:TypeId × Value→H}{P:Program}
theorem aFQ {W W':World} (hl:laidOutB P=true) (hb:Below W.heap.size W W'):∀ (ts:List TypeId) (vs:List Value) (ds:List (DataW H)) (ps:List MemPlace),
    (∀ t∈ts,P.readableRec t=true∧t < P.types.size)→(∀ x∈ps,x.block < W.heap.size) →
    DataW.TrodAll enc P W 0 (fun _=>true) true ts vs ds ps→DataW.TrodAll enc P W' 0 (fun b=>decide (b < W.heap.size)) true ts vs ds ps:=by
  intro ts
  induction ts with
  | nil =>
    intro vs ds ps _ _ h
    cases vs with
    | nil=>cases ds with
      | nil=>exact h
      | cons _ _=>exact h.elim
    | cons _ _=>exact h.elim
  | cons t ts ih =>
    intro vs ds ps hr hp h
    cases vs with
    | nil=>exact h.elim
    | cons v vs =>
      cases ds with
      | nil=>exact h.elim
      | cons d ds =>
        obtain⟨p,q,h1,h2,rfl⟩:=h
        exact⟨p,q,Below.trod hl (hr t (by simp)).1 (hr t (by simp)).2 h1 hb (fun x hx=>hp x (by simp[hx])),ih _ _ _ (fun t ht=>hr t (by simp[ht])) (fun x hx=>hp x (by simp[hx])) h2,rfl⟩
theorem aM7 {fn:Func}{s:ChangeSpec}{tb:TypeId}{W W':World}{args:Array Value}{ds gs:List (DataW H)}{before:List MemPlace}
    (hl:laidOutB P=true) (hrow0:(fn.params.toList.all fun t=>P.readableRec t&&decide (t < P.types.size))=true) (hres:fn.resultTypes=#[tb]) (htb:P.underlying tb=some .bool) (hvars:s.vars=[])
    (hW:DataW.Whole enc P fn.params.toList s.vars false W args.toList ds gs before) (hb:Below W.heap.size W W')
    (hfn:s.fn H (ds++gs)={ results:=[.lit (.bool true)],args:=ds,vars:=[] }) :
    s.post enc P fn false true false false W args (.bool true) W':=by
  have hrow:∀ t∈fn.params.toList,P.readableRec t=true∧t < P.types.size:=fun t ht=>by
    have:=List.all_eq_true.1 hrow0 t ht
    simpa using this
  have hW':=hW
  obtain⟨p,q,hA,hV,rfl,hfz,hnd⟩:=hW
  refine⟨ds,gs,p++q,[],p,[],hW',?_,?_,?_,hb.frame _,fun h=>by cases h⟩
  · rw[hfn,hres]
    exact trodAll_mk1 (shut_bool htb _)
  · rw[hfn]
    exact aFQ hl hb _ _ _ _ hrow (fun x hx=>by have:=hW'.lt x (by simp[hx]); simpa using this) hA
  · rw[hfn,hvars]; exact rfl
end
end V
end Go.Proofs.YtcaccnneblghgaaGreat
noncomputable section
namespace Go.Proofs.YtcaccnneblghgaaGreat
namespace V
theorem bW {α:Type} (a:α) (K:α→Prop):aB (some a) K=K a:=rfl
theorem cH (A B:Prop):aR (.bool true) A B=A:=rfl
theorem bY (A B:Prop):aR (.bool false) A B=B:=rfl
theorem gC (h:T Obj) (nx:Nat) (A:KV→Prop) (K:KV):ifP (.bool true) true h nx A K=A K:=rfl
theorem f8 (h:T Obj) (nx:Nat) (A:KV→Prop) (K:KV):ifP (.bool false) false h nx A K=A K:=rfl
theorem gB (h:T Obj) (nx:Nat) (A:KV→Prop) (K:KV):ifP (.bool true) false h nx A K=K undef h nx:=rfl
theorem gA (h:T Obj) (nx:Nat) (A:KV→Prop) (K:KV):ifP (.bool false) true h nx A K=K undef h nx:=rfl
theorem eO (h:T Obj) (i:Nat) (o:Obj) (K:T Obj→Prop):cT h i o K=K (h.upd i (some o)):=rfl
theorem dH (h:T Obj) (i:Nat) (o:Obj) (K:T Obj→Prop):eQ h i (some o) K=K (h.upd i (some o)):=rfl
theorem dG (h:T Obj) (i:Nat) (K:T Obj→Prop):eQ h i none K=K h:=rfl
theorem cI (A:Prop) (B:Nat→Prop) (D:Prop):exP .normal A B D=A:=rfl
theorem dU (i:Nat) (A:Prop) (B:Nat→Prop) (D:Prop):exP (.exit i) A B D=B i:=rfl
theorem eT (A:Prop) (B:Nat→Prop) (D:Prop):exP .ret A B D=D:=rfl
theorem cZ (A B:Prop):cO true A B=A:=rfl
theorem cF (A B:Prop):cO false A B=B:=rfl
theorem aA {α:Type}{o:Option α}{a:α}{K:α→Prop} (h:o=some a) (k:K a):aB o K:=by rw[h]; exact k
theorem aD {h:T Obj}{i:Nat}{o:Obj}{K:T Obj→Prop} (k:K (h.upd i (some o))):cT h i o K:=k
theorem aE {h:T Obj}{i:Nat}{o:Obj}{K:T Obj→Prop} (k:K (h.upd i (some o))):eQ h i (some o) K:=k
theorem aC {h:T Obj}{i:Nat}{K:T Obj→Prop} (k:K h):eQ h i none K:=k
theorem aG {A B:Prop} (k:A):aR (.bool true) A B:=k
theorem aF {A B:Prop} (k:B):aR (.bool false) A B:=k
theorem iO {b:Bool}{A B:Prop} (h:b=true) (k:A):aR (.bool b) A B:=by subst h; exact k
theorem iN {b:Bool}{A B:Prop} (h:b=false) (k:B):aR (.bool b) A B:=by subst h; exact k
theorem aK {h:T Obj}{nx:Nat}{A:KV→Prop}{K:KV} (k:A K):ifP (.bool true) true h nx A K:=k
theorem aH {h:T Obj}{nx:Nat}{A:KV→Prop}{K:KV} (k:A K):ifP (.bool false) false h nx A K:=k
theorem aJ {h:T Obj}{nx:Nat}{A:KV→Prop}{K:KV} (k:K undef h nx):ifP (.bool true) false h nx A K:=k
theorem aI {h:T Obj}{nx:Nat}{A:KV→Prop}{K:KV} (k:K undef h nx):ifP (.bool false) true h nx A K:=k
theorem aL {w:Bool}{h:T Obj}{nx:Nat}{A:KV→Prop}{K:KV} (k:K undef h nx):ifP undef w h nx A K:=k
theorem fB {n:Int} (h1:-9223372036854775808≤n) (h2:n≤9223372036854775807):wr .i64 n=n:=by simp[wr,h1,h2]
theorem i6 {n:Int} (h1:0≤n) (h2:n≤255):wr .u8 n=n:=by simp[wr,h1,h2]
theorem fR {n:Int} (h1:0≤n) (h2:n≤18446744073709551615):wr .u64 n=n:=by simp[wr,h1,h2]
theorem dK (k:IntKind) (a b:Int):aO .add (.int k a) (.int k b)=some (.int k (wr k (a+b))):=by simp[aO,rD]
theorem dX (k:IntKind) (a b:Int):aO .sub (.int k a) (.int k b)=some (.int k (wr k (a - b))):=by simp[aO,rD]
theorem dQ (k:IntKind) (a b:Int):aO .mul (.int k a) (.int k b)=some (.int k (wr k (a*b))):=by simp[aO,rD]
theorem dV (k:IntKind) {a b:Int} (ha:0≤a) (hb:0 < b):aO .quo (.int k a) (.int k b)=some (.int k (wr k (a / b))):=by
  have:b≠0:=by omega
  simp[aO,rD,this,Int.tdiv_eq_ediv_of_nonneg ha]
theorem dW (k:IntKind) {a b:Int} (ha:0≤a) (hb:0 < b):aO .rem (.int k a) (.int k b)=some (.int k (a % b)):=by
  have:b≠0:=by omega
  simp[aO,rD,this,Int.tmod_eq_emod_of_nonneg ha]
theorem aT (k:IntKind) (a b:Int):aO .eql (.int k a) (.int k b)=some (.bool (decide (a=b))):=by simp[aO,rD]
theorem aU (k:IntKind) (a b:Int):aO .neq (.int k a) (.int k b)=some (.bool (!decide (a=b))):=by simp[aO,rD]
theorem aY (k:IntKind) (a b:Int):aO .lss (.int k a) (.int k b)=some (.bool (decide (a < b))):=by simp[aO,rD]
theorem aX (k:IntKind) (a b:Int):aO .leq (.int k a) (.int k b)=some (.bool (decide (a≤b))):=by simp[aO,rD]
theorem aW (k:IntKind) (a b:Int):aO .gtr (.int k a) (.int k b)=some (.bool (decide (b < a))):=by simp[aO,rD]
theorem aV (k:IntKind) (a b:Int):aO .geq (.int k a) (.int k b)=some (.bool (decide (b≤a))):=by simp[aO,rD]
theorem aMX (k k':IntKind) {a b:Int} (hb:0≤b):aO .shr (.int k a) (.int k' b)=some (.int k (a.fdiv ((2 ^ (min b.toNat k.bits):Nat):Int))):=by simp[aO,aAi,hb]
theorem aMW (k k':IntKind) {a b:Int} (hb:0≤b):aO .shl (.int k a) (.int k' b)=some (.int k (wr k (a*((2 ^ (min b.toNat k.bits):Nat):Int)))):=by simp[aO,aAi,hb]
theorem cJ {a b:Int} (ha:0≤a) (hb:0≤b) (ha':a≤18446744073709551615) (hb':b≤18446744073709551615):aO .and (.int .u64 a) (.int .u64 b)=some (.int .u64 (Nat.land a.toNat b.toNat:Nat)):=by simp[aO,rD,wM,ha,hb,ha',hb']
theorem dE {a b:Int} (ha:0≤a) (hb:0≤b) (ha':a≤18446744073709551615) (hb':b≤18446744073709551615):aO .or (.int .u64 a) (.int .u64 b)=some (.int .u64 (Nat.lor a.toNat b.toNat:Nat)):=by simp[aO,rD,wM,ha,hb,ha',hb']
theorem cK {a b:Int} (ha:0≤a) (hb:0≤b) (ha':a≤18446744073709551615) (hb':b≤18446744073709551615):aO .xor (.int .u64 a) (.int .u64 b)=some (.int .u64 (Nat.xor a.toNat b.toNat:Nat)):=by simp[aO,rD,wM,ha,hb,ha',hb']
theorem dC (k k':IntKind) (n:Int):wO k (.int k' n)=some (.int k (wr k n)):=rfl
theorem eW (b:Bool):unV .not (.bool b)=some (.bool (!b)):=rfl
theorem dA (a b:Bool):aFY .eql (.bool a) (.bool b)=some (.bool (a==b)):=rfl
theorem dB (a b:Bool):aFY .neq (.bool a) (.bool b)=some (.bool (!(a==b))):=rfl
theorem cL (a b:Value):bO (.bool true) a b=some a:=rfl
theorem cA (a b:Value):bO (.bool false) a b=some b:=rfl
theorem bZ (a:Option Addr) (n c:Nat):bH (.slice a n c)=some (.int .i64 n):=rfl
abbrev at_ (id off z:Nat):Value:=.pointer (some ⟨id,off,some z⟩)
theorem fU (id:Nat):ptr id=at_ id 0 0:=rfl
theorem eU (k id off z:Nat):aS k (at_ id off z)=some (at_ id (off+k) z):=rfl
def nU:Option Obj→Option (List Value)
  | some (.cells c _ _)=>some c.toList
  | _=>none
theorem bG (c:Array Value) (e:TypeId) (f:Nat × Nat):nU (some (.cells c e f))=some c.toList:=rfl
theorem aAV {l:List Value}{off:Nat}{v:Value} (h:l[off]?=some v):(l.drop off).take 1=[v]:=by
  have hl:=(List.getElem?_eq_some_iff.1 h).1
  rw[List.drop_eq_getElem_cons hl]
  have:=(List.getElem?_eq_some_iff.1 h).2
  simp[this]
theorem nJ (ro:Ro) (h:T Obj) (id off z n:Nat):cellsAt ro h ⟨id,off,some z⟩ n=(nU (h.get id)).bind fun c=>if off+n≤c.length then some ((c.drop off).take n) else none:=by
  unfold cellsAt nU
  simp only
  cases h.get id with
  | none=>rfl
  | some o =>
    cases o<;>try rfl
    rename_i c e f
    simp only[Option.bind,Array.length_toList]
    by_cases hle:off+n≤c.size
    · rw[if_pos hle,Nat.ble_eq_true_of_le hle]
    · rw[if_neg hle]
      cases hb:Nat.ble (off+n) c.size with
      | true=>exact absurd (Nat.le_of_ble_eq_true hb) hle
      | false=>rfl
theorem cP (ro:Ro) (h:T Obj) (id off z:Nat):load1 ro h (at_ id off z)=(nU (h.get id)).bind fun c=>c[off]?:=by
  unfold load1
  simp only[asP,Option.bind,nJ]
  cases hc:nU (h.get id) with
  | none=>rfl
  | some c =>
    simp only
    by_cases hle:off+1≤c.length
    · rw[if_pos hle]
      have hg:c[off]?=some c[off]:=List.getElem?_eq_getElem (by omega)
      rw[aAV hg,hg]
    · rw[if_neg hle,List.getElem?_eq_none (by omega)]
theorem cD (ro:Ro) (h:T Obj) (n id off z:Nat):loadA ro h n (at_ id off z)=(nU (h.get id)).bind fun c=>if off+n≤c.length then some (.agg ((c.drop off).take n).toArray) else none:=by
  unfold loadA
  simp only[asP,Option.bind,nJ]
  cases nU (h.get id) with
  | none=>rfl
  | some c=>by_cases hle:off+n≤c.length<;>simp[hle]
theorem dY (n z id off y:Nat) (k:IntKind) {i:Int} (h0:0≤i) (h1:i < n):ixArr n z (at_ id off y) (.int k i)=some (at_ id (off+i.toNat*z) y):=by
  have hn:mH (.int k i)=some i.toNat:=by simp[mH,h0]
  have:Nat.blt i.toNat n=true:=by simp[Nat.blt]; omega
  simp[ixArr,hn,asP,this,fwd]
theorem Value.cells_agg (cs:Array Value):Value.cells (.agg cs)=cs:=rfl
theorem cR (k:IntKind) (n:Int):Value.cells (.int k n)=#[.int k n]:=rfl
theorem cG (b:Bool):Value.cells (.bool b)=#[.bool b]:=rfl
theorem aG1 (k k':IntKind) (a:Nat) {b:Int} (hb:0≤b) (hk:b≤k.bits):aO .shr (.int k (a:Int)) (.int k' b)=some (.int k ((a / 2 ^ b.toNat:Nat):Int)):=by
  rw[aMX _ _ hb]
  have:min b.toNat k.bits=b.toNat:=Nat.min_eq_left (by omega)
  rw[this,Int.ofNat_fdiv]
theorem bQ (k':IntKind) (a:Nat) {b:Int} (hb:0≤b) (hk:b≤64):aO .shr (.int .u64 (a:Int)) (.int k' b)=some (.int .u64 ((a / 2 ^ b.toNat:Nat):Int)):=aG1 _ _ a hb hk
theorem aG0 (k':IntKind) (a:Nat) {b:Int} (hb:0≤b) (hk:b≤64):aO .shl (.int .u64 (a:Int)) (.int k' b)=some (.int .u64 (wr .u64 ((a*2 ^ b.toNat:Nat):Int))):=by
  rw[aMW _ _ hb]
  have:min b.toNat IntKind.u64.bits=b.toNat:=Nat.min_eq_left (by have:IntKind.u64.bits=64:=rfl; omega)
  rw[this]; simp
theorem bL (k':IntKind) {b:Int} (hb:0≤b) (hk:b < 64):aO .shl (.int .u64 1) (.int k' b)=some (.int .u64 ((2 ^ b.toNat:Nat):Int)):=by
  have h:=aG0 k' 1 hb (by omega)
  have h2:2 ^ b.toNat < 2 ^ 64:=Nat.pow_lt_pow_right (by decide) (by omega)
  have h3:(((1*2 ^ b.toNat:Nat)):Int)≤18446744073709551615:=by omega
  rw[fR (by omega) h3,Nat.one_mul] at h
  exact h
def Fr (h:T Obj) (nx:Nat):Prop:=∀ i,nx≤i→h.get i=none
theorem Fr.e:Fr .e 0:=fun _ _=>rfl
theorem Fr.mono {h:T Obj}{n m:Nat} (hf:Fr h n) (hn:n≤m):Fr h m:=fun i hi=>hf i (Nat.le_trans hn hi)
theorem Fr.upd {h:T Obj}{n m i:Nat}{o:Option Obj} (hf:Fr h n) (hn:n≤m) (hi:i < m):Fr (h.upd i o) m:=fun j hj=>by
  rw[T.get_upd_ne _ _ (by omega)]; exact hf j (by omega)
theorem Fr.sub {h h':T Obj}{n:Nat} (hf:Fr h n) (hs:Sub h' h):Fr h' n:=fun i hi=>by
  cases e:h'.get i with
  | none=>rfl
  | some o=>have:=hs i o e; rw[hf i hi] at this; cases this
theorem Sub.refl (h:T Obj):Sub h h:=fun _ _ e=>e
theorem Sub.trans {a b c:T Obj} (h1:Sub a b) (h2:Sub b c):Sub a c:=fun k o e=>h2 k o (h1 k o e)
theorem Sub.upd {h0 h:T Obj}{i:Nat}{o:Option Obj} (hs:Sub h0 h) (hi:h0.get i=none):Sub h0 (h.upd i o):=fun k x e=>by
  by_cases hk:k=i
  · subst hk; rw[hi] at e; cases e
  · rw[T.get_upd_ne _ _ hk]; exact hs k x e
theorem Sub.new {h0 h:T Obj}{n i:Nat}{o:Option Obj} (hf:Fr h0 n) (hi:n≤i) (hs:Sub h0 h):Sub h0 (h.upd i o):=hs.upd (hf i hi)
theorem bE {B:PT}{Q:KE} (Inv:Nat→Env→T Obj→Nat→Prop)
    (step:∀ n e h nx,Inv n e h nx→∀ Q':KE,(∀ m e' h' h1 nx',m < n→Inv m e' h' nx'→Sub h' h1→Q' .normal e' h1 nx')→(∀ x e' h' nx',x≠.normal→Q x e' h' nx'→Q' x e' h' nx')→B e h nx Q')
    {n:Nat} {e:Env} {h:T Obj} {nx:Nat} (h0:Inv n e h nx):dT B e h nx Q:=by
  refine⟨n+1,?_⟩
  have key:∀ n,(∀ m,m < n→∀ k,m+1≤k→∀ e h nx,Inv m e h nx→aFa B k e h nx Q)→∀ k,n+1≤k→∀ e h nx,Inv n e h nx→aFa B k e h nx Q:=by
    intro n ih k hk e h nx hi
    cases k with
    | zero=>omega
    | succ k =>
      refine step n e h nx hi _ ?_ ?_
      · intro m e' h' h1 nx' hm hi' hs
        exact⟨h',hs,ih m hm k (by omega) _ _ _ hi'⟩
      · intro x e' h' nx' hx hq
        cases x with
        | normal=>exact absurd rfl hx
        | exit i=>exact hq
        | ret=>exact hq
  have all:∀ n,∀ k,n+1≤k→∀ e h nx,Inv n e h nx→aFa B k e h nx Q:=by
    intro n
    induction n using Nat.strongRecOn with
    | _ n ih=>exact key n ih
  exact all n _ (Nat.le_refl _) _ _ _ h0
def aFn (o:Option Obj) (off:Nat) (vs:List Value):Option Obj:=match o with
  | some (.cells c e f)=>if off+vs.length≤c.size then (if vs.all cU=true then some (.cells (over c.toList off vs).toArray e f) else none) else none
  | _=>none
theorem bT {c:Array Value}{e:TypeId}{f:Nat × Nat}{off:Nat}{vs:List Value} (h1:off+vs.length≤c.size) (h2:vs.all cU=true):aFn (some (.cells c e f)) off vs=some (.cells (over c.toList off vs).toArray e f):=by
  simp[aFn,h1,h2]
theorem cB (n:Nat) (h:T Obj) (id off z:Nat) (v:Value):bV n h (at_ id off z) v=if v.cells.size=n then (aFn (h.get id) off v.cells.toList).bind (fun o=>some (h.upd id (some o))) else none:=by
  unfold bV aFn
  simp only[asP,Option.bind]
  by_cases hn:v.cells.size=n
  · rw[if_pos hn,hn,Nat.beq_refl]
    simp only[jN]
    cases h.get id with
    | none=>rfl
    | some o =>
      cases o<;>try rfl
      rename_i c e f
      simp only[Array.length_toList]
      by_cases hle:off+v.cells.size≤c.size
      · rw[if_pos hle,Nat.ble_eq_true_of_le hle]
        cases v.cells.toList.all cU<;>rfl
      · rw[if_neg hle]
        cases hb:Nat.ble (off+v.cells.size) c.size with
        | true=>exact absurd (Nat.le_of_ble_eq_true hb) hle
        | false=>rfl
  · rw[if_neg hn]
    cases hb:Nat.beq v.cells.size n with
    | true=>exact absurd (Nat.eq_of_beq_eq_true hb) hn
    | false=>rfl
theorem aEF {l:List Value}{off:Nat} (v:Value) (h:off < l.length):over l off [v]=l.set off v:=by
  unfold over
  rw[List.set_eq_take_append_cons_drop,if_pos h]
  simp
theorem aIO {l vs:List Value} (h:vs.length=l.length):over l 0 vs=vs:=by
  unfold over
  rw[List.drop_eq_nil_of_le (by omega)]; simp
theorem tl (l:List Value):l.toArray.toList=l:=rfl
theorem ts (l:List Value):l.toArray.size=l.length:=rfl
theorem dJ {h:T Obj}{id off z:Nat}{v:Value}{l:List Value}{e:TypeId}{f:Nat × Nat} (hg:h.get id=some (.cells l.toArray e f)) (hi:off < l.length) (hv:cU v=true) (hc:v.cells=#[v]) :
    bV 1 h (at_ id off z) v=some (h.upd id (some (.cells (l.set off v).toArray e f))):=by
  rw[cB,hc,hg,if_pos (show #[v].size=1 from rfl),bT (by simp; omega) (by simp[hv])]
  simp[aEF v hi]
theorem lX {h:T Obj}{id z n:Nat}{v:Value}{l vs:List Value}{e:TypeId}{f:Nat × Nat} (hg:h.get id=some (.cells l.toArray e f)) (hc:v.cells=vs.toArray) (hn:vs.length=n) (hl:l.length=n) (hv:vs.all cU=true) :
    bV n h (at_ id 0 z) v=some (h.upd id (some (.cells vs.toArray e f))):=by
  rw[cB,hc,hg,if_pos (by simpa using hn),bT (by simp; omega) (by simpa using hv)]
  simp[aIO (l:=l) (vs:=vs) (by omega)]
theorem dF {ro:Ro}{h:T Obj}{id z n:Nat}{l:List Value}{e:TypeId}{f:Nat × Nat} (hg:h.get id=some (.cells l.toArray e f)) (hl:l.length=n):loadA ro h n (at_ id 0 z)=some (.agg l.toArray):=by
  rw[cD,hg]
  subst hl
  simp[nU]
theorem aZ {ro:Ro}{h:T Obj}{id off z:Nat}{l:List Value}{e:TypeId}{f:Nat × Nat}{v:Value} (hg:h.get id=some (.cells l.toArray e f)) (hv:l[off]?=some v):load1 ro h (at_ id off z)=some v:=by
  rw[cP,hg]; exact hv
end V
end Go.Proofs.YtcaccnneblghgaaGreat
noncomputable section
namespace Go.Proofs.YtcaccnneblghgaaGreat
namespace V
section
variable {α:Type}
def fcN (n:Nat) (k:Nat→α):α:=match n with
  | 0=>k 0
  | m+1=>k (Nat.succ m)
theorem nE (n:Nat) (k:Nat→α):fcN n k=k n:=by cases n<;>rfl
def fcI (n:Int) (k:Int→α):α:=match n with
  | .ofNat m=>fcN m fun m=>k (.ofNat m)
  | .negSucc m=>fcN m fun m=>k (.negSucc m)
theorem aPB (n:Int) (k:Int→α):fcI n k=k n:=by cases n<;>simp[fcI,nE]
def fcA (a:Option Addr) (k:Option Addr→α):α:=match a with
  | none=>k none
  | some a=>fcN a.block fun b=>fcN a.off fun o=>match a.spot with
    | none=>k (some ⟨b,o,none⟩)
    | some z=>fcN z fun z=>k (some ⟨b,o,some z⟩)
theorem aML (a:Option Addr) (k:Option Addr→α):fcA a k=k a:=by
  cases a with
  | none=>rfl
  | some a=>obtain⟨b,o,s⟩:=a; cases s<;>simp[fcA,nE]
def fcB:List UInt8→(List UInt8→α)→α
  | [],k=>k []
  | b::r,k=>fcN b.toNat fun n=>fcB r fun r=>k (UInt8.ofNat n::r)
theorem aMM:∀ (l:List UInt8) (k:List UInt8→α),fcB l k=k l
  | [],k=>rfl
  | b::r,k=>by rw[fcB,nE,aMM r]; simp
def fcC (v:Value) (k:Value→α):α:=match v with
  | .bool b=>match b with
    | true=>k (.bool true)
    | false=>k (.bool false)
  | .int kd n=>fcI n fun n=>k (.int kd n)
  | .string s=>fcB s.data.toList fun l=>k (.string ⟨⟨l⟩⟩)
  | .pointer a=>fcA a fun a=>k (.pointer a)
  | .slice a l c=>fcA a fun a=>fcN l fun l=>fcN c fun c=>k (.slice a l c)
  | .map r=>match r with
    | none=>k (.map none)
    | some r=>fcN r fun r=>k (.map (some r))
  | v=>k v
theorem aMN (v:Value) (k:Value→α):fcC v k=k v:=by
  cases v with
  | bool b=>cases b<;>rfl
  | int kd n=>simp[fcC,aPB]
  | string s=>simp[fcC,aMM]
  | pointer a=>simp[fcC,aML]
  | slice a l c=>simp[fcC,aML,nE]
  | map r=>cases r<;>simp[fcC,nE]
  | _=>rfl
def fcL:List Value→(List Value→α)→α
  | [],k=>k []
  | v::r,k=>fcC v fun v=>fcL r fun r=>k (v::r)
theorem aMP:∀ (l:List Value) (k:List Value→α),fcL l k=k l
  | [],k=>rfl
  | v::r,k=>by rw[fcL,aMN,aMP r]
def fcS:List Value→(List Value→α)→α
  | [],k=>k []
  | v::r,k=>fcS r fun r=>k (v::r)
theorem aGS:∀ (l:List Value) (k:List Value→α),fcS l k=k l
  | [],k=>rfl
  | v::r,k=>by rw[fcS,aGS r]
def aJM (v:Value) (k:Value→α):α:=match v with
  | .agg cs=>fcS cs.toList fun l=>k (.agg ⟨l⟩)
  | v=>fcC v k
theorem aDE (v:Value) (k:Value→α):aJM v k=k v:=by
  cases v with
  | agg cs=>simp[aJM,aGS]
  | _=>simp only[aJM,aMN]
def aNj:List Value→(List Value→α)→α
  | [],k=>k []
  | v::r,k=>aJM v fun v=>aNj r fun r=>k (v::r)
theorem aKL:∀ (l:List Value) (k:List Value→α),aNj l k=k l
  | [],k=>rfl
  | v::r,k=>by rw[aNj,aDE,aKL r]
def fcV (v:Value) (k:Value→α):α:=match v with
  | .tuple cs=>aNj cs.toList fun l=>k (.tuple ⟨l⟩)
  | v=>aJM v k
theorem aGT (v:Value) (k:Value→α):fcV v k=k v:=by
  cases v with
  | tuple cs=>simp[fcV,aKL]
  | _=>simp only[fcV,aDE]
def fcE:List MapEntry→(List MapEntry→α)→α
  | [],k=>k []
  | e::r,k=>aJM e.key fun a=>aJM e.val fun b=>fcN e.born fun n=>fcE r fun r=>k (⟨a,b,n⟩::r)
theorem aMO:∀ (l:List MapEntry) (k:List MapEntry→α),fcE l k=k l
  | [],k=>rfl
  | v::r,k=>by rw[fcE,aDE,aDE,nE,aMO r]
def fcO (o:Obj) (k:Obj→α):α:=match o with
  | .cells c e f=>fcS c.toList fun l=>k (.cells ⟨l⟩ e f)
  | .map es n=>fcE es.toList fun l=>fcN n fun n=>k (.map ⟨l⟩ n)
  | o=>k o
theorem aPC (o:Obj) (k:Obj→α):fcO o k=k o:=by
  cases o with
  | cells c e f=>simp[fcO,aGS]
  | map es n=>simp[fcO,aMO,nE]
  | _=>rfl
def aOC {β:Type} (o:Option β) (f:Nat):Nat→(T β→α)→α:=Nat.rec (motive:=fun _=>Nat→(T β→α)→α) (fun _ K=>K .e)
  (fun _ ih k K=>Nat.rec (motive:=fun _=>α) (K (.n .e o .e)) (fun k' _=>Bool.rec (motive:=fun _=>α) (ih (Nat.div k' 2) fun r=>K (.n .e none r)) (ih (Nat.div k' 2) fun l=>K (.n l none .e)) (Nat.beq (Nat.mod k' 2) 0)) k) f
theorem aOD {β:Type} (o:Option β):∀ (f g k:Nat) (K:T β→α),k < f→k < g→aOC o f k K=K (T.updF o g .e k):=by
  intro f
  induction f with
  | zero=>intro g k K h; omega
  | succ f ih =>
    intro g k K h1 h2
    cases g with
    | zero=>omega
    | succ g =>
      cases k with
      | zero=>rfl
      | succ k =>
        show Bool.rec (motive:=fun _=>α) (aOC o f (k / 2) fun r=>K (.n .e none r)) (aOC o f (k / 2) fun l=>K (.n l none .e)) (Nat.beq (k % 2) 0)=_
        simp only[T.updF]
        rw[ih g _ _ (by omega) (by omega),ih g _ _ (by omega) (by omega)]
        cases Nat.beq (k % 2) 0<;>rfl
def aOb {β:Type} (o:Option β) (t:T β):Nat→(T β→α)→α:=T.rec (motive:=fun _=>Nat→(T β→α)→α) (fun k K=>aOC o (Nat.succ k) k K)
  (fun l v r gl gr k K=>Nat.rec (motive:=fun _=>α) (K (.n l o r)) (fun k' _=>Bool.rec (motive:=fun _=>α) (gr (Nat.div k' 2) fun r=>K (.n l v r)) (gl (Nat.div k' 2) fun l=>K (.n l v r)) (Nat.beq (Nat.mod k' 2) 0)) k) t
theorem aOc {β:Type} (o:Option β) (t:T β):∀ (g k:Nat) (K:T β→α),k < g→aOb o t k K=K (T.updF o g t k):=by
  induction t with
  | e=>intro g k K h; exact aOD o _ g k K (Nat.lt_succ_self _) h
  | n l v r ihl ihr =>
    intro g k K h
    cases g with
    | zero=>omega
    | succ g =>
      cases k with
      | zero=>rfl
      | succ k =>
        show Bool.rec (motive:=fun _=>α) (aOb o r (k / 2) fun r=>K (.n l v r)) (aOb o l (k / 2) fun l=>K (.n l v r)) (Nat.beq (k % 2) 0)=_
        simp only[T.updF]
        rw[ihl g _ _ (by omega),ihr g _ _ (by omega)]
        cases Nat.beq (k % 2) 0<;>rfl
def upK {β:Type} (t:T β) (k:Nat) (o:Option β) (K:T β→α):α:=aOb o t k K
theorem aCH {β:Type} (t:T β) (k:Nat) (o:Option β) (K:T β→α):upK t k o K=K (t.upd k o):=aOc o t _ k K (Nat.lt_succ_self _)
end
def bB {α:Type} (o:Option α) (K:α→Bool):Bool:=match o with
  | some a=>K a
  | none=>false
theorem fM {α:Type}{o:Option α}{K:α→Bool} (h:bB o K=true):∃ a,o=some a∧K a=true:=by
  cases o with
  | none=>cases h
  | some a=>exact⟨a,rfl,h⟩
abbrev KB:=Value→T Obj→Nat→Bool
abbrev qM:=FuncId→List Value→T Obj→Nat→KB→Bool
def aIF (less:Bool):Value→List Value→Option Value
  | .int k x,[]=>some (.int k x)
  | .int k x,.int k' y::r=>aIF less (.int k (match less,decide (y < x),decide (x < y) with
    | true,true,_=>y
    | true,false,_=>x
    | false,_,true=>y
    | false,_,false=>x)) r
  | _,_=>none
termination_by structural _ l=>l
theorem aG6 (less:Bool):∀ (l:List Value) (v:Value),v8 less (v::l)=aIF less v l:=by
  intro l
  induction l with
  | nil=>intro v; cases v<;>simp[v8,aIF]
  | cons y r ih =>
    intro v
    cases v<;>cases y<;>(conv=>lhs; unfold v8)<;>simp only[aIF,ih]
    rename_i k1 n1 k2 n2
    cases less<;>cases decide (n2 < n1)<;>cases decide (n1 < n2)<;>rfl
def aMj (less:Bool):List Value→Option Value
  | []=>none
  | v::l=>aIF less v l
theorem aG7 (less:Bool) (l:List Value):v8 less l=aMj less l:=by
  cases l with
  | nil=>simp[v8,aMj]
  | cons v l=>exact aG6 less l v
def aOF (P:Program) (ro:Ro) (t:T Value) (h:T Obj) (aid:Nat) (op:Op):Option (Value × Option Obj):=match op with
  | .call { callee:=.builtin .min,args,.. }=>(wY t args.toList).bind fun vs=>(aMj true vs).bind fun v=>some (v,none)
  | .call { callee:=.builtin .max,args,.. }=>(wY t args.toList).bind fun vs=>(aMj false vs).bind fun v=>some (v,none)
  | op=>opQ P ro t h aid op
theorem aOG (P:Program) (ro:Ro) (t:T Value) (h:T Obj) (aid:Nat) (op:Op):aOF P ro t h aid op=opQ P ro t h aid op:=by
  unfold aOF
  split
  · simp only[opQ,eH,aG7]
  · simp only[opQ,eH,aG7]
  · rfl
def aFA:List Value→Nat→List Value→(List Value→Bool)→Bool
  | l,0,[],k=>k l
  | _::r,0,v::vs,k=>aFA r 0 vs fun r=>k (v::r)
  | [],0,_::_,_=>false
  | x::r,n+1,vs,k=>fcN n fun n=>aFA r n vs fun r=>k (x::r)
  | [],_+1,_,_=>false
theorem aGm:∀ (l:List Value) (n:Nat) (vs:List Value) (k:List Value→Bool),aFA l n vs k=if n+vs.length≤l.length then k (over l n vs) else false
  | [],0,[],k=>by simp[aFA,over]
  | x::r,0,[],k=>by simp[aFA,over]
  | x::r,0,v::vs,k=>by
    rw[aFA,aGm r 0 vs]
    simp[over]
  | [],0,_::_,k=>by simp[aFA]
  | x::r,n+1,vs,k=>by
    rw[aFA,nE,aGm r n vs]
    have e:n+1+vs.length≤(x::r).length ↔ n+vs.length≤r.length:=by simp; omega
    by_cases h:n+vs.length≤r.length
    · rw[if_pos h,if_pos (e.2 h)]
      have:n+1+vs.length=(n+vs.length)+1:=by omega
      simp[over,this]
    · rw[if_neg h,if_neg (fun h2=>h (e.1 h2))]
  | [],n+1,vs,k=>by simp[aFA]
def aB7 (h:T Obj) (a:Addr) (vs:List Value) (K:T Obj→Bool):Bool :=
  match a.spot with
  | none=>false
  | some _=>match h.get a.block with
    | some (.cells c e f)=>match vs.all cU with
      | true=>aFA c.toList a.off vs fun l=>upK h a.block (some (.cells ⟨l⟩ e f)) K
      | false=>false
    | _=>false
theorem aCg {h:T Obj}{a:Addr}{vs:List Value}{K:T Obj→Bool}:aB7 h a vs K=bB (jN h a vs) K:=by
  unfold aB7 jN
  cases a.spot with
  | none=>rfl
  | some z =>
    cases h.get a.block with
    | none=>rfl
    | some o =>
      cases o<;>try rfl
      simp only[aGm,aCH,Array.length_toList]
      rename_i c e f
      by_cases hb:a.off+vs.length≤c.size
      · rw[if_pos hb,Nat.ble_eq_true_of_le hb]
        cases vs.all cU<;>rfl
      · rw[if_neg hb]
        have:Nat.ble (a.off+vs.length) c.size=false:=by
          cases hq:Nat.ble (a.off+vs.length) c.size with
          | false=>rfl
          | true=>exact absurd (Nat.le_of_ble_eq_true hq) hb
        rw[this]
        cases vs.all cU<;>rfl
def aOE:List Value→Nat→(Value→Bool)→Bool
  | x::_,0,k=>k x
  | _::r,n+1,k=>aOE r n k
  | [],_,_=>false
theorem aKT:∀ (l:List Value) (n:Nat) (k:Value→Bool),aOE l n k=bB l[n]? k
  | x::_,0,k=>rfl
  | _::r,n+1,k=>by rw[aOE,aKT r n]; rfl
  | [],n,k=>by cases n<;>rfl
def aQL (l:List Value):Nat→(Value→Bool)→Bool:=List.rec (motive:=fun _=>Nat→(Value→Bool)→Bool) (fun _ _=>false) (fun x _ ih n k=>Nat.rec (motive:=fun _=>Bool) (k x) (fun m _=>ih m k) n) l
theorem aKU:∀ (l:List Value) (n:Nat) (k:Value→Bool),aQL l n k=aOE l n k
  | [],n,k=>rfl
  | x::_,0,k=>rfl
  | _::r,n+1,k=>aKU r n k
def aEd:List Value→Nat→(List Value→Bool)→Bool
  | _,0,k=>k []
  | x::r,n+1,k=>aEd r n fun r=>k (x::r)
  | [],_+1,_=>false
theorem aEe:∀ (l:List Value) (n:Nat) (k:List Value→Bool),aEd l n k=if n≤l.length then k (l.take n) else false
  | l,0,k=>by cases l<;>simp[aEd]
  | x::r,n+1,k=>by
    rw[aEd,aEe r n]
    by_cases h:n≤r.length
    · rw[if_pos h,if_pos (by simp; omega)]; simp
    · rw[if_neg h,if_neg (by simp; omega)]
  | [],n+1,k=>by simp[aEd]
def aKQ:List Value→Nat→Bool
  | [],0=>true
  | _::r,n+1=>aKQ r n
  | _,_=>false
theorem aHq:∀ {l:List Value}{n:Nat},aKQ l n=true→l.length=n
  | [],0,_=>rfl
  | _::r,n+1,h=>by rw[List.length_cons,aHq (l:=r) h]
  | [],_+1,h=>by cases h
  | _::_,0,h=>by cases h
def aF3:List Value→Nat→(List Value→Bool)→Bool
  | l,0,k=>k l
  | _::r,n+1,k=>aF3 r n k
  | [],_+1,_=>false
theorem aH6:∀ (l:List Value) (n:Nat) (k:List Value→Bool),aF3 l n k=if n≤l.length then k (l.drop n) else false
  | l,0,k=>by cases l<;>simp[aF3]
  | _::r,n+1,k=>by
    rw[aF3,aH6 r n]
    by_cases h:n≤r.length
    · rw[if_pos h,if_pos (by simp; omega)]; rfl
    · rw[if_neg h,if_neg (by simp; omega)]
  | [],n+1,k=>by simp[aF3]
def aIz (ro:Ro) (h:T Obj) (a:Addr) (n:Nat) (K:List Value→Bool):Bool :=
  match a.spot with
  | none=>bB (cellsAt ro h a n) K
  | some _=>match h.get a.block with
    | some (.cells c _ _)=>match a.off with
      | 0=>match aKQ c.toList n with
        | true=>K c.toList
        | false=>aEd c.toList n K
      | off+1=>aF3 c.toList (Nat.succ off) fun l=>aEd l n K
    | _=>false
theorem aKl {ro:Ro}{h:T Obj}{a:Addr}{n:Nat}{K:List Value→Bool}:aIz ro h a n K=bB (cellsAt ro h a n) K:=by
  unfold aIz cellsAt
  cases a.spot with
  | none=>rfl
  | some z =>
    cases h.get a.block with
    | none=>rfl
    | some o =>
      cases o<;>try rfl
      rename_i c e f
      have key:(if a.off+n≤c.size then K ((c.toList.drop a.off).take n) else false)=bB (match Nat.ble (a.off+n) c.size with | true=>some ((c.toList.drop a.off).take n) | false=>none) K:=by
        by_cases hb:a.off+n≤c.size
        · rw[if_pos hb,Nat.ble_eq_true_of_le hb]; rfl
        · rw[if_neg hb]
          have:Nat.ble (a.off+n) c.size=false:=by
            cases hq:Nat.ble (a.off+n) c.size with
            | false=>rfl
            | true=>exact absurd (Nat.le_of_ble_eq_true hq) hb
          rw[this]; rfl
      refine Eq.trans ?_ key
      simp only
      cases ho:a.off with
      | zero =>
        simp only[Nat.zero_add,List.drop_zero]
        cases hl:aKQ c.toList n with
        | true =>
          have:=aHq hl
          rw[if_pos (by simpa using Nat.le_of_eq this.symm),List.take_of_length_le (by omega)]
        | false=>simp only[aEe,Array.length_toList]
      | succ off =>
        simp only[aH6,aEe,List.length_drop,Array.length_toList]
        by_cases h1:off+1≤c.size
        · rw[if_pos h1]
          by_cases h2:n≤c.size - (off+1)
          · rw[if_pos h2,if_pos (by omega)]
          · rw[if_neg h2,if_neg (by omega)]
        · rw[if_neg h1,if_neg (by omega)]
def aMd (P:Program) (ro:Ro) (h:T Obj) (t:TypeId) (a:Addr) (K:Value→Bool):Bool :=
  match isAgg P t with
  | some true=>bB (siz P t) fun n=>aIz ro h a n fun l=>K (.agg ⟨l⟩)
  | some false=>match a.spot with
    | none=>bB (nL P ro h t a) K
    | some _=>match h.get a.block with
      | some (.cells c _ _)=>aQL c.toList a.off K
      | _=>false
  | none=>false
theorem aMe {P:Program}{ro:Ro}{h:T Obj}{t:TypeId}{a:Addr}{K:Value→Bool}:aMd P ro h t a K=bB (nL P ro h t a) K:=by
  obtain⟨b,o,s⟩:=a
  unfold aMd
  cases hi:isAgg P t with
  | none=>simp only[nL,hi]; rfl
  | some x =>
    cases x with
    | true =>
      simp only[nL,hi]
      cases siz P t with
      | none=>rfl
      | some n =>
        simp only[bB,Option.bind_some]
        rw[aKl]
        cases cellsAt ro h ⟨b,o,s⟩ n<;>rfl
    | false =>
      cases s with
      | none=>rfl
      | some z =>
        simp only
        have e:nL P ro h t ⟨b,o,some z⟩=load1 ro h (at_ b o z):=by
          simp only[nL,hi]; rfl
        rw[e,cP]
        cases h.get b with
        | none=>rfl
        | some x =>
          cases x<;>try rfl
          simp only[aKU,aKT]; rfl
def aJm (P:Program) (h:T Obj) (t:TypeId) (a v:Value) (K:T Obj→Bool):Bool :=
  match a with
  | .pointer (some a)=>bB (siz P t) fun n=>match Nat.beq v.cells.size n with
    | true=>aB7 h a v.cells.toList K
    | false=>false
  | _=>false
theorem aL4 {P:Program}{h:T Obj}{t:TypeId}{a v:Value}{K:T Obj→Bool}:aJm P h t a v K=bB (y0 P h t a v) K:=by
  unfold aJm y0
  cases a<;>try rfl
  rename_i a
  cases a with
  | none=>rfl
  | some a =>
    cases siz P t with
    | none=>rfl
    | some n =>
      simp only[bB,Option.bind]
      cases Nat.beq v.cells.size n with
      | true=>exact aCg
      | false=>rfl
def apB (r:Value × T Obj × Nat) (K:KB):Bool:=fcV r.1 fun v=>fcN r.2.2 fun n=>K v r.2.1 n
theorem aOv (r:Value × T Obj × Nat) (K:KB):apB r K=K r.1 r.2.1 r.2.2:=by simp[apB,aGT,nE]
def aGD (P:Program) (ro:Ro) (h:T Obj) (nx:Nat) (ts:Array TypeId) (vs:List Value) (K:KB):Bool :=
  match ts[0]?,ts[1]?,vs with
  | some t0,some t1,[.slice base len cap,x]=>match und P t0 with
    | some (.slice e)=>bB (tin P e) fun i=>bB (xF P ro h e i.size i.bytes t1 x) fun s =>
      match Nat.ble (len+s.1) cap with
      | true=>match s.1 with
        | 0=>K (.slice base len cap) h nx
        | _+1=>match base with
          | none=>false
          | some a=>match a.spot with
            | none=>false
            | some z=>match Nat.beq z i.size with
              | true=>aB7 h (fwd a (len*i.size)) s.2 fun h=>fcN (len+s.1) fun n=>K (.slice base n cap) h nx
              | false=>false
      | false=>bB (zer P e) fun zv=>match Nat.ble ((len+s.1)*i.bytes) big,Nat.ble (len+s.1) big,Nat.blt 0 i.size,Nat.beq zv.cells.size i.size&&s.2.all cU with
        | true,true,true,true=>bB (aGf ro h i.size base len) fun p =>
            fcS (p.1++s.2) fun l=>fcN (len+s.1) fun n=>upK p.2 nx (some (.cells ⟨l⟩ e)) fun h=>fcN (nx+1) fun nx'=>K (.slice (some (own nx i.size)) n n) h nx'
        | _,_,_,_=>false
    | _=>false
  | _,_,_=>false
theorem aIu {P:Program}{ro:Ro}{h:T Obj}{nx:Nat}{ts:Array TypeId}{vs:List Value}{K:KB}:aGD P ro h nx ts vs K=bB (cC P ro h nx ts vs) fun r=>K r.1 r.2.1 r.2.2:=by
  unfold aGD cC
  cases ts[0]? with
  | none=>rfl
  | some t0 =>
    cases ts[1]? with
    | none=>rfl
    | some t1 =>
      match vs with
      | [.slice base len cap,x] =>
        simp only
        cases und P t0 with
        | none=>rfl
        | some d =>
          cases d<;>try rfl
          rename_i e
          simp only
          cases tin P e with
          | none=>rfl
          | some i =>
            simp only[bB,Option.bind_some]
            cases xF P ro h e i.size i.bytes t1 x with
            | none=>rfl
            | some s =>
              simp only[Option.bind_some]
              cases Nat.ble (len+s.1) cap with
              | true =>
                simp only
                cases s.1 with
                | zero=>rfl
                | succ q =>
                  cases base with
                  | none=>rfl
                  | some a =>
                    simp only
                    cases a.spot with
                    | none=>rfl
                    | some z =>
                      simp only
                      cases Nat.beq z i.size with
                      | true =>
                        simp only[aCg,nE]
                        cases jN h (fwd a (len*i.size)) s.2<;>rfl
                      | false=>rfl
              | false =>
                simp only
                cases zer P e with
                | none=>rfl
                | some zv =>
                  simp only[Option.bind_some]
                  cases Nat.ble ((len+s.1)*i.bytes) big<;>cases Nat.ble (len+s.1) big<;>cases Nat.blt 0 i.size<;>cases Nat.beq zv.cells.size i.size&&s.2.all cU<;>try rfl
                  simp only
                  cases aGf ro h i.size base len with
                  | none=>rfl
                  | some p=>simp only[aGS,nE,aCH]; rfl
      | []=>rfl
      | [v]=>cases v<;>rfl
      | .bool _::_::_ | .int _ _::_::_ | .float _ _::_::_ | .complex _ _ _::_::_ | .string _::_::_ | .pointer _::_::_ | .map _::_::_ | .chan _::_::_ | .func _ _ _::_::_ | .nilFunc::_::_ | .iface _ _::_::_ | .nilIface::_::_ | .agg _::_::_ | .tuple _::_::_=>rfl
      | .slice _ _ _::_::_::_=>rfl
def aQN (P:Program) (ro:Ro) (C:qM) (t:T Value) (h:T Obj) (nx:Nat) (op:Op) (K:KB):Bool :=
  match op with
  | .store ty a x=>bB (evl t a) fun av=>bB (evl t x) fun xv=>aJm P h ty av xv fun h'=>K undef h' nx
  | .mapUpdate ty m k x | .insert ty m k x=>bB (evl t m) fun mv=>bB (evl t k) fun kv=>bB (evl t x) fun xv=>bB (v7 P h ty mv kv xv) fun h'=>K undef h' nx
  | .call { callee:=.builtin b,args,argTypes }=>bB (wY t args.toList) fun vs=>match b with
    | .append=>aGD P ro h nx argTypes vs K
    | .copy=>bB (aD5 P ro h nx argTypes vs) fun r=>apB r K
    | .clear=>match vs,argTypes[0]? with
      | [m],some ty=>bB (und P ty) fun _=>bB (aA3 h m) fun h=>K (.tuple #[]) h nx
      | _,_=>false
    | _=>false
  | .call { callee:=.value f,args,.. }=>bB (evl t f) fun f=>bB (wY t args.toList) fun vs=>match f with
    | .func (.func k) a b=>C k (a.toList++vs++b.toList) h nx K
    | _=>false
  | .convert s d x=>bB (evl t x) fun v=>bB (uU P h s d v) fun r=>K r.1 r.2 nx
  | _=>false
def aN7 (h:T Obj) (id:Nat) (o:Option Obj) (K:T Obj→Bool):Bool:=match o with
  | none=>K h
  | some o=>fcO o fun o=>upK h id (some o) K
theorem aN8 (h:T Obj) (id:Nat) (o:Option Obj) (K:T Obj→Bool):aN7 h id o K=K (aAW h id o):=by
  cases o with
  | none=>rfl
  | some o=>simp[aN7,aAW,aPC,aCH]
def aMs (P:Program) (ro:Ro) (C:qM) (t:T Value) (h:T Obj) (nx aid:Nat) (op:Op) (K:KB):Bool :=
  match hE op with
  | true=>aQN P ro C t h nx op K
  | false=>match op with
    | .load ty x=>bB (evl t x) fun v=>match v with
      | .pointer (some a)=>aMd P ro h ty a fun v=>K v h nx
      | _=>false
    | .move x=>bB (evl t x) fun v=>K v h nx
    | .assign x=>bB (evl t x) fun v=>K v h nx
    | op=>bB (aOF P ro t h aid op) fun r=>fcV r.1 fun v=>aN7 h aid r.2 fun h'=>K v h' nx
def aIY (n:Nat) (t:T Value) (dst:Option Tmp) (v:Value) (K:T Value→Bool):Bool :=
  match dst with
  | none=>K t
  | some d=>match Nat.blt d n with
    | true=>upK t d (some v) K
    | false=>false
theorem zG {n:Nat}{t:T Value}{dst:Option Tmp}{v:Value}{K:T Value→Bool} (h:aIY n t dst v K=true):∃ t',put n t dst v=some t'∧K t'=true:=by
  unfold aIY at h
  cases dst with
  | none=>exact⟨t,rfl,h⟩
  | some d =>
    simp only at h
    split at h
    · rename_i hb
      rw[aCH] at h
      exact⟨_,by simp only[put]; rw[hb],h⟩
    · cases h
def aJY (P:Program) (ro:Ro) (C:qM) (n:Nat) (ops:Array Oper):List Oper→T Value→T Obj→Nat→(T Value→T Obj→Nat→Bool)→Bool
  | [],t,h,nx,Q=>Q t h nx
  | o::r,t,h,nx,Q=>match wanted ops t o with
    | true=>fcN (nx+1) fun nx1=>aMs P ro C t h nx1 nx o.op fun v h' nx'=>aIY n t o.dst v fun t'=>aJY P ro C n ops r t' h' nx' Q
    | false=>aIY n t o.dst undef fun t'=>aJY P ro C n ops r t' h nx Q
def aP9 (P:Program) (ro:Ro) (C:qM) (n:Nat) (ops:Array Oper) (l:List Oper):T Value→T Obj→Nat→(T Value→T Obj→Nat→Bool)→Bool:=List.rec (motive:=fun _=>T Value→T Obj→Nat→(T Value→T Obj→Nat→Bool)→Bool) (fun t h nx Q=>Q t h nx)
  (fun o _ ih t h nx Q=>Bool.rec (motive:=fun _=>Bool) (aIY n t o.dst undef fun t'=>ih t' h nx Q) (fcN (nx+1) fun nx1=>aMs P ro C t h nx1 nx o.op fun v h' nx'=>aIY n t o.dst v fun t'=>ih t' h' nx' Q) (wanted ops t o)) l
theorem aKV (P:Program) (ro:Ro) (C:qM) (n:Nat) (ops:Array Oper):∀ l:List Oper,aP9 P ro C n ops l=aJY P ro C n ops l
  | []=>rfl
  | o::r=>by
    funext t h nx Q
    have ih:=aKV P ro C n ops r
    simp only[aJY]
    rw[← ih]
    show Bool.rec (motive:=fun _=>Bool) _ _ (wanted ops t o)=_
    cases wanted ops t o<;>rfl
def aN6 (a b:Option Addr):Bool:=match a,b with
  | none,none=>true
  | some a,some b=>Nat.beq a.block b.block&&Nat.beq a.off b.off&&(match a.spot,b.spot with
    | none,none=>true
    | some x,some y=>Nat.beq x y
    | _,_=>false)
  | _,_=>false
theorem aJt {a b:Option Addr} (h:aN6 a b=true):a=b:=by
  unfold aN6 at h
  split at h
  · rfl
  · rename_i a b
    obtain⟨b1,o1,s1⟩:=a
    obtain⟨b2,o2,s2⟩:=b
    simp only[Bool.and_eq_true] at h
    obtain⟨⟨h1,h2⟩,h3⟩:=h
    have:=Nat.eq_of_beq_eq_true h1
    have:=Nat.eq_of_beq_eq_true h2
    subst_vars
    split at h3
    · simp_all
    · have:=Nat.eq_of_beq_eq_true h3; simp_all
    · cases h3
  · cases h
def aGK (a b:Value):Bool:=match a,b with
  | .bool x,.bool y=>x==y
  | .int k x,.int k' y=>decide (k=k')&&decide (x=y)
  | .string x,.string y=>x.data.toList==y.data.toList
  | .pointer x,.pointer y=>aN6 x y
  | .slice x l c,.slice y l' c'=>aN6 x y&&Nat.beq l l'&&Nat.beq c c'
  | .map none,.map none=>true
  | .map (some x),.map (some y)=>Nat.beq x y
  | .nilFunc,.nilFunc=>true
  | .nilIface,.nilIface=>true
  | _,_=>false
theorem aF1 {a b:Value} (h:aGK a b=true):a=b:=by
  unfold aGK at h
  split at h
  · simp_all
  · simp_all
  · rename_i x y
    obtain⟨⟨x⟩⟩:=x
    obtain⟨⟨y⟩⟩:=y
    simp_all
  · rw[aJt h]
  · simp only[Bool.and_eq_true] at h
    obtain⟨⟨h1,h2⟩,h3⟩:=h
    rw[aJt h1,Nat.eq_of_beq_eq_true h2,Nat.eq_of_beq_eq_true h3]
  · rfl
  · rw[Nat.eq_of_beq_eq_true h]
  · rfl
  · rfl
  · cases h
def aAr:List Value→List Value→Bool
  | [],[]=>true
  | a::r,b::s=>aGK a b&&aAr r s
  | _,_=>false
theorem aA2:∀ {l m:List Value},aAr l m=true→l=m
  | [],[],_=>rfl
  | a::r,b::s,h=>by
    simp only[aAr,Bool.and_eq_true] at h
    rw[aF1 h.1,aA2 h.2]
  | [],_::_,h=>by cases h
  | _::_,[],h=>by cases h
def aAm (a b:Value):Bool:=match a,b with
  | .agg x,.agg y=>aAr x.toList y.toList
  | a,b=>aGK a b
theorem vK {a b:Value} (h:aAm a b=true):a=b:=by
  unfold aAm at h
  split at h
  · rename_i x y
    obtain⟨x⟩:=x
    obtain⟨y⟩:=y
    have:=aA2 h
    simp_all
  · exact aF1 h
def aKH:List MapEntry→List MapEntry→Bool
  | [],[]=>true
  | a::r,b::s=>aAm a.key b.key&&aAm a.val b.val&&Nat.beq a.born b.born&&aKH r s
  | _,_=>false
theorem aH7:∀ {l m:List MapEntry},aKH l m=true→l=m
  | [],[],_=>rfl
  | a::r,b::s,h=>by
    simp only[aKH,Bool.and_eq_true] at h
    obtain⟨a1,a2,a3⟩:=a
    obtain⟨b1,b2,b3⟩:=b
    have h1:=vK h.1.1.1
    have h2:=vK h.1.1.2
    have h3:=Nat.eq_of_beq_eq_true h.1.2
    have h4:=aH7 h.2
    simp only at h1 h2 h3
    subst h1; subst h2; subst h3; rw[h4]
  | [],_::_,h=>by cases h
  | _::_,[],h=>by cases h
def aII (a b:Option Obj):Bool:=match a,b with
  | some (.cells x e f),some (.cells y e' f')=>Nat.beq e e'&&(Nat.beq f.1 f'.1&&Nat.beq f.2 f'.2)&&aAr x.toList y.toList
  | some (.map x n),some (.map y n')=>Nat.beq n n'&&aKH x.toList y.toList
  | _,_=>false
theorem aDz {a b:Option Obj} (h:aII a b=true):a=b∧a.isSome=true:=by
  unfold aII at h
  split at h
  · rename_i x e f y e' f'
    obtain⟨x⟩:=x
    obtain⟨y⟩:=y
    obtain⟨f1,f2⟩:=f
    obtain⟨f1',f2'⟩:=f'
    simp only[Bool.and_eq_true] at h
    have h1:e=e':=Nat.eq_of_beq_eq_true h.1.1
    have h2:f1=f1':=Nat.eq_of_beq_eq_true h.1.2.1
    have h3:f2=f2':=Nat.eq_of_beq_eq_true h.1.2.2
    have h4:x=y:=aA2 h.2
    subst h1; subst h2; subst h3; subst h4; exact⟨rfl,rfl⟩
  · rename_i x n y n'
    obtain⟨x⟩:=x
    obtain⟨y⟩:=y
    simp only[Bool.and_eq_true] at h
    have h1:n=n':=Nat.eq_of_beq_eq_true h.1
    have h2:x=y:=aH7 h.2
    subst h1; subst h2; exact⟨rfl,rfl⟩
  · cases h
def aNF (b:Nat) (h h':T Obj):Bool:=aII (h.get b) (h'.get b)
theorem aE2 {b:Nat}{h h':T Obj} (e:aNF b h h'=true):same b h h':=aDz e
def aLi (b:List Nat) (i:Nat) (h h':T Obj):List (Nat × Nat)→Bool
  | []=>true
  | l::r=>match uX b l.1 i with
    | true=>aNF l.2 h h'&&aLi b i h h' r
    | false=>aLi b i h h' r
theorem aDP {b:List Nat}{i:Nat}{h h':T Obj}:∀ {ls:List (Nat × Nat)},aLi b i h h' ls=true→∀ l∈ls,uX b l.1 i=true→same l.2 h h'
  | [],_,l,hl,_=>by cases hl
  | a::r,e,l,hl,hf=>by
    unfold aLi at e
    rcases List.mem_cons.1 hl with rfl | hl
    · rw[hf] at e
      simp only[Bool.and_eq_true] at e
      exact aE2 e.1
    · split at e
      · simp only[Bool.and_eq_true] at e
        exact aDP e.2 l hl hf
      · exact aDP e l hl hf
def aLj (b:List Nat) (i a:Nat):List (Nat × T Obj × T Obj)→Bool
  | []=>true
  | m::r=>match uX b m.1 i with
    | true=>aNF a m.2.1 m.2.2&&aLj b i a r
    | false=>aLj b i a r
theorem aDQ {b:List Nat}{i a:Nat}:∀ {ms:List (Nat × T Obj × T Obj)},aLj b i a ms=true→∀ m∈ms,uX b m.1 i=true→same a m.2.1 m.2.2
  | [],_,l,hl,_=>by cases hl
  | x::r,e,l,hl,hf=>by
    unfold aLj at e
    rcases List.mem_cons.1 hl with rfl | hl
    · rw[hf] at e
      simp only[Bool.and_eq_true] at e
      exact aE2 e.1
    · split at e
      · simp only[Bool.and_eq_true] at e
        exact aDQ e.2 l hl hf
      · exact aDQ e l hl hf
def aBT (P:Program) (ro:Ro) (C:qM) (n:Nat) (ops:Array Oper) (b:List Nat) (n0:Nat):List Oper→Nat→List (Nat × Nat)→List (Nat × T Obj × T Obj)→T Value→T Obj→Nat→(T Value→T Obj→Nat→Bool)→Bool
  | [],_,_,_,t,h,nx,Q=>Q t h nx
  | o::r,i,ls,ms,t,h,nx,Q=>match wanted ops t o with
    | true=>fcN (n0+i) fun aid=>aMs P ro C t h nx aid o.op fun v h' nx'=>aIY n t o.dst v fun t'=>match hE o.op with
      | true=>aLi b i h h' ls&&aBT P ro C n ops b n0 r (i+1) ls ((i,h,h')::ms) t' h' nx' Q
      | false=>match rdB P t o.op with
        | some a=>aLj b i a ms&&aBT P ro C n ops b n0 r (i+1) ((i,a)::ls) ms t' h' nx' Q
        | none=>aBT P ro C n ops b n0 r (i+1) ls ms t' h' nx' Q
    | false=>aIY n t o.dst undef fun t'=>aBT P ro C n ops b n0 r (i+1) ls ms t' h nx Q
def aGG (ops:Array Oper):List Nat:=CheckFast.beforeL ops.toList 0 []
theorem aNa (ops:Array Oper):aGG ops=(bef ops).toList:=by
  have:=CheckFast.beforeF_eq ops
  unfold aGG bef
  rw[← this]; rfl
abbrev QB:=Ex→T Value→T Obj→Nat→Bool
def aHz (B:T Value→T Obj→Nat→QB→Bool):Nat→T Value→T Obj→Nat→QB→Bool
  | 0,_,_,_,_=>false
  | k+1,t,h,nx,Q=>B t h nx fun x t h nx=>match x with
    | .normal=>aHz B k t h nx Q
    | .exit i=>Q (.exit i) t h nx
    | .ret=>Q .ret t h nx
def qO (P:Program) (ro:Ro) (C:qM) (n:Nat):Code→T Value→T Obj→Nat→QB→Bool
  | .skip,t,h,nx,Q=>Q .normal t h nx
  | .label _,t,h,nx,Q=>Q .normal t h nx
  | .ret,t,h,nx,Q=>Q .ret t h nx
  | .exit id,t,h,nx,Q=>Q (.exit id) t h nx
  | .seq a b,t,h,nx,Q=>qO P ro C n a t h nx fun x t h nx=>match x with
    | .normal=>qO P ro C n b t h nx Q
    | .exit i=>Q (.exit i) t h nx
    | .ret=>Q .ret t h nx
  | .cond c a b,t,h,nx,Q=>bB (evl t c) fun v=>match v with
    | .bool true=>qO P ro C n a t h nx Q
    | .bool false=>qO P ro C n b t h nx Q
    | _=>false
  | .block id b,t,h,nx,Q=>qO P ro C n b t h nx fun x t h nx=>match x with
    | .normal=>Q .normal t h nx
    | .exit i=>match Nat.beq i id with
      | true=>Q .normal t h nx
      | false=>Q (.exit i) t h nx
    | .ret=>Q .ret t h nx
  | .loop b,t,h,nx,Q=>aHz (qO P ro C n b) 100000 t h nx Q
  | .scope b,t,h,nx,Q=>qO P ro C n b t h nx Q
  | .region _ ops draw,t,h,nx,Q=>match draw with
    | false=>aJY P ro C n ops ops.toList t h nx (Q .normal)
    | true=>match vR P ops (aGG ops) with
      | true=>fcN (nx+ops.size) fun nx'=>aBT P ro C n ops (aGG ops) nx ops.toList 0 [] [] t h nx' (Q .normal)
      | false=>false
  | _,_,_,_,_=>false
def aAu (P:Program) (ro:Ro) (C:qM) (n:Nat) (c:Code):T Value→T Obj→Nat→QB→Bool:=Code.rec (motive:=fun _=>T Value→T Obj→Nat→QB→Bool)
  (fun t h nx Q=>Q .normal t h nx)
  (fun _ ops draw t h nx Q=>Bool.rec (motive:=fun _=>Bool) (aP9 P ro C n ops ops.toList t h nx (Q .normal))
    (Bool.rec (motive:=fun _=>Bool) false (fcN (nx+ops.size) fun nx'=>aBT P ro C n ops (aGG ops) nx ops.toList 0 [] [] t h nx' (Q .normal)) (vR P ops (aGG ops))) draw)
  (fun _ _ ia ib t h nx Q=>ia t h nx fun x t h nx=>Ex.rec (motive:=fun _=>Bool) (ib t h nx Q) (fun i=>Q (.exit i) t h nx) (Q .ret t h nx) x)
  (fun c _ _ ia ib t h nx Q=>bB (evl t c) fun v=>match v with
    | .bool true=>ia t h nx Q
    | .bool false=>ib t h nx Q
    | _=>false)
  (fun id _ ib t h nx Q=>ib t h nx fun x t h nx=>Ex.rec (motive:=fun _=>Bool) (Q .normal t h nx) (fun i=>Bool.rec (motive:=fun _=>Bool) (Q (.exit i) t h nx) (Q .normal t h nx) (Nat.beq i id)) (Q .ret t h nx) x)
  (fun _ ib t h nx Q=>aHz ib 100000 t h nx Q)
  (fun _ _ _ _ _ _ _ _ _ _=>false)
  (fun id t h nx Q=>Q (.exit id) t h nx)
  (fun _ ib t h nx Q=>ib t h nx Q)
  (fun _ t h nx Q=>Q .normal t h nx)
  (fun _ _ _ _ _=>false)
  (fun t h nx Q=>Q .ret t h nx) (fun _ _ _ _ _=>false) c
theorem aLw (P:Program) (ro:Ro) (C:qM) (n:Nat) (c:Code):aAu P ro C n c=qO P ro C n c:=by
  induction c with
  | skip=>rfl
  | region id ops draw =>
    funext t h nx Q
    show Bool.rec (motive:=fun _=>Bool) (aP9 P ro C n ops ops.toList t h nx (Q .normal)) (Bool.rec (motive:=fun _=>Bool) false (fcN (nx+ops.size) fun nx'=>aBT P ro C n ops (aGG ops) nx ops.toList 0 [] [] t h nx' (Q .normal)) (vR P ops (aGG ops))) draw=_
    rw[aKV]
    simp only[qO]
    cases draw with
    | false=>rfl
    | true=>cases vR P ops (aGG ops)<;>rfl
  | seq a b iha ihb =>
    funext t h nx Q
    show (aAu P ro C n a t h nx fun x t h nx=>Ex.rec (motive:=fun _=>Bool) (aAu P ro C n b t h nx Q) (fun i=>Q (.exit i) t h nx) (Q .ret t h nx) x)=_
    rw[iha,ihb]
    simp only[qO]
    congr 1
    funext x t h nx
    cases x<;>rfl
  | cond c a b iha ihb =>
    funext t h nx Q
    show (bB (evl t c) fun v=>match v with
      | .bool true=>aAu P ro C n a t h nx Q
      | .bool false=>aAu P ro C n b t h nx Q
      | _=>false)=_
    rw[iha,ihb]
    simp only[qO]
  | block id b ihb =>
    funext t h nx Q
    show (aAu P ro C n b t h nx fun x t h nx=>Ex.rec (motive:=fun _=>Bool) (Q .normal t h nx) (fun i=>Bool.rec (motive:=fun _=>Bool) (Q (.exit i) t h nx) (Q .normal t h nx) (Nat.beq i id)) (Q .ret t h nx) x)=_
    rw[ihb]
    simp only[qO]
    congr 1
    funext x t h nx
    cases x with
    | normal=>rfl
    | ret=>rfl
    | exit i=>simp only; cases Nat.beq i id<;>rfl
  | loop b ihb =>
    funext t h nx Q
    show aHz (aAu P ro C n b) 100000 t h nx Q=_
    rw[ihb]
    simp only[qO]
  | rangeFunc=>rfl
  | exit id=>rfl
  | scope b ihb =>
    funext t h nx Q
    show aAu P ro C n b t h nx Q=_
    rw[ihb]
    simp only[qO]
  | label l=>rfl
  | goto l=>rfl
  | ret=>rfl
  | refuse=>rfl
def aGO:List Value→Nat→T Value→(T Value→Bool)→Bool
  | [],_,t,K=>K t
  | v::vs,i,t,K=>upK t i (some v) fun t=>aGO vs (Nat.succ i) t K
theorem aF4:∀ (l:List Value) (i:Nat) (t:T Value) (K:T Value→Bool),aGO l i t K=K (xP l i t)
  | [],i,t,K=>rfl
  | v::vs,i,t,K=>by rw[aGO,aCH,aF4 vs]; rfl
abbrev aK9:=FuncId→List Value→Option (Nat × Nat × Nat × TypeId × List Value)
abbrev aOu:=FuncId→List Value→T Obj→Nat→Option (Value × T Obj × Nat)
def aFZ (P:Program) (ro:Ro) (O:aK9) (M:aOu):Nat→qM
  | 0,_,_,_,_,_=>false
  | k+1,f,args,h,nx,K=>match M f args h nx with
   | some r=>K r.1 r.2.1 r.2.2
   | none=>match O f args with
   | some (z,l,c,e,cs)=>fcN z fun z=>fcN l fun l=>fcN c fun c=>fcL cs fun cs=>upK h nx (some (.cells cs.toArray e)) fun h'=>K (.slice (some ⟨nx,0,some z⟩) l c) h' (Nat.succ nx)
   | none=>bB P.funcs[f]? fun fn=>bB fn.body fun body=>match Nat.ble args.length fn.ntmps with
    | true=>aGO args 0 .e fun t=>aAu P ro (aFZ P ro O M k) fn.ntmps body t h nx fun x t h nx=>match x with
      | .exit _=>false
      | .normal=>bB (aBx P ro h t fn.results.toList) fun vs=>fcV (aB0 vs) fun v=>K v h nx
      | .ret=>bB (aBx P ro h t fn.results.toList) fun vs=>fcV (aB0 vs) fun v=>K v h nx
    | false=>false
section
variable {P:Program}{ro:Ro}
def aFS (P:Program) (ro:Ro) (C:qM):Prop:=∀ f args h nx K,C f args h nx K=true→∃ k v h' nx',call P ro k f args h nx v h' nx'∧K v h' nx'=true
theorem aJX {C:qM} (hC:aFS P ro C) {t:T Value}{h:T Obj}{nx:Nat}{op:Op}{K:KB} (hl:aQN P ro C t h nx op K=true) :
    ∃ k v h' nx',opL P ro (call P ro k) t h nx op v h' nx'∧K v h' nx'=true:=by
  cases op with
  | store ty a x =>
    obtain⟨a',h1,hl⟩:=fM hl
    obtain⟨x',h2,hl⟩:=fM hl
    rw[aL4] at hl
    obtain⟨h',h4,hl⟩:=fM hl
    exact⟨0,_,_,_,⟨a',x',h1,h2,h4,rfl,rfl⟩,hl⟩
  | mapUpdate ty m k x | insert ty m k x =>
    obtain⟨m',h1,hl⟩:=fM hl
    obtain⟨k',h2,hl⟩:=fM hl
    obtain⟨x',h3,hl⟩:=fM hl
    obtain⟨h',h4,hl⟩:=fM hl
    exact⟨0,_,_,_,⟨m',k',x',h1,h2,h3,h4,rfl,rfl⟩,hl⟩
  | call c =>
    obtain⟨callee,args,ts⟩:=c
    cases callee with
    | builtin b =>
      obtain⟨vs,h1,hl⟩:=fM hl
      cases b<;>try (exact Bool.noConfusion hl)
      case append =>
        simp only[aIu] at hl
        obtain⟨r,h2,hl⟩:=fM hl
        exact⟨0,_,_,_,⟨vs,h1,h2⟩,hl⟩
      case copy =>
        obtain⟨r,h2,hl⟩:=fM hl
        rw[aOv] at hl
        exact⟨0,_,_,_,⟨vs,h1,h2⟩,hl⟩
      case clear =>
        simp only at hl
        split at hl
        · rename_i m ty hty
          obtain⟨d,h2,hl⟩:=fM hl
          obtain⟨h',h3,hl⟩:=fM hl
          exact⟨0,_,_,_,⟨_,h1,m,ty,rfl,hty,by rw[h2]; rfl,h3,rfl,rfl⟩,hl⟩
        · cases hl
    | value f =>
      obtain⟨fv,h1,hl⟩:=fM hl
      obtain⟨vs,h2,hl⟩:=fM hl
      split at hl
      · rename_i k a b _
        obtain⟨k',v,h',nx',h3,h4⟩:=hC _ _ _ _ _ hl
        exact⟨k',v,h',nx',⟨k,a,b,vs,h1,h2,h3⟩,h4⟩
      · cases hl
    | invoke r m=>cases hl
  | convert s d x =>
    obtain⟨v,h1,hl⟩:=fM hl
    obtain⟨r,h2,hl⟩:=fM hl
    exact⟨0,_,_,_,⟨v,h1,h2,rfl⟩,hl⟩
  | _=>cases hl
theorem aED {C:qM} (hC:aFS P ro C) {t:T Value}{h:T Obj}{nx aid:Nat}{op:Op}{K:KB} (hl:aMs P ro C t h nx aid op K=true) :
    ∃ k v h' nx',opR P ro (call P ro k) t h nx aid op v h' nx'∧K v h' nx'=true:=by
  unfold aMs at hl
  unfold opR
  cases hq:hE op with
  | true=>rw[hq] at hl; exact aJX hC hl
  | false =>
    rw[hq] at hl
    have gen:∀ op,bB (aOF P ro t h aid op) (fun r=>fcV r.1 fun v=>aN7 h aid r.2 fun h'=>K v h' nx)=true→∃ (v:Value) (h':T Obj) (nx':Nat),(∃ ob,opQ P ro t h aid op=some (v,ob)∧h'=aAW h aid ob∧nx'=nx)∧K v h' nx'=true:=by
      intro op hl
      simp only[aGT,aN8,aOG] at hl
      obtain⟨r,h1,h2⟩:=fM hl
      exact⟨r.1,_,_,⟨r.2,h1,rfl,rfl⟩,h2⟩
    simp only at hl ⊢
    have key:∃ v h' nx',(∃ ob,opQ P ro t h aid op=some (v,ob)∧h'=aAW h aid ob∧nx'=nx)∧K v h' nx'=true:=by
      split at hl
      · rename_i ty x
        obtain⟨v,h1,hl⟩:=fM hl
        split at hl
        · rename_i a
          rw[aMe] at hl
          obtain⟨u,h2,h3⟩:=fM hl
          exact⟨u,h,nx,⟨none,by simp only[opQ]; rw[h1]; show (nL P ro h ty a).bind _=_; rw[h2]; rfl,rfl,rfl⟩,h3⟩
        · cases hl
      · obtain⟨v,h1,hl⟩:=fM hl
        exact⟨v,h,nx,⟨none,by simp only[opQ]; rw[h1]; rfl,rfl,rfl⟩,hl⟩
      · obtain⟨v,h1,hl⟩:=fM hl
        exact⟨v,h,nx,⟨none,by simp only[opQ]; rw[h1]; rfl,rfl,rfl⟩,hl⟩
      · exact gen _ hl
    obtain⟨v,h',nx',q1,q2⟩:=key
    exact⟨0,v,h',nx',q1,q2⟩
theorem aJZ {C:qM} (hC:aFS P ro C) {n:Nat}{ops:Array Oper}:∀ (l:List Oper) (t:T Value) (h:T Obj) (nx:Nat) (Q:T Value→T Obj→Nat→Bool),aJY P ro C n ops l t h nx Q=true →
    ∃ k s',zN P ro (call P ro k) n ops l ⟨t,h,nx⟩ s'∧Q s'.t s'.h s'.nx=true:=by
  intro l
  induction l with
  | nil=>intro t h nx Q hq; exact⟨0,_,rfl,hq⟩
  | cons o r ih =>
    intro t h nx Q hq
    simp only[aJY,nE] at hq
    simp only[zN]
    cases hw:wanted ops t o with
    | true =>
      rw[hw] at hq
      obtain⟨k1,v,h',nx',h1,h2⟩:=aED hC hq
      obtain⟨t',h3,h4⟩:=zG h2
      obtain⟨k2,s',h5,h6⟩:=ih _ _ _ _ h4
      exact⟨max k1 k2,s',⟨v,h',nx',t',sP (iX (Nat.le_max_left _ _)) h1,h3,aGi (iX (Nat.le_max_right _ _)) _ _ _ h5⟩,h6⟩
    | false =>
      rw[hw] at hq
      obtain⟨t',h3,h4⟩:=zG hq
      obtain⟨k2,s',h5,h6⟩:=ih _ _ _ _ h4
      exact⟨k2,s',⟨t',h3,h5⟩,h6⟩
theorem aIL {C:qM} (hC:aFS P ro C) {n n0:Nat}{ops:Array Oper}:∀ (l:List Oper) (i:Nat) (ls:List (Nat × Nat)) (ms:List (Nat × T Obj × T Obj)) (t:T Value) (h:T Obj) (nx:Nat) (Q:T Value→T Obj→Nat→Bool),
    aBT P ro C n ops (bef ops).toList n0 l i ls ms t h nx Q=true→∃ k s',vD P ro (call P ro k) n ops n0 l i ls ms ⟨t,h,nx⟩ s'∧Q s'.t s'.h s'.nx=true:=by
  intro l
  induction l with
  | nil=>intro i ls ms t h nx Q hq; exact⟨0,_,rfl,hq⟩
  | cons o r ih =>
    intro i ls ms t h nx Q hq
    simp only[aBT,nE] at hq
    simp only[vD]
    cases hw:wanted ops t o with
    | true =>
      rw[hw] at hq
      obtain⟨k1,v,h',nx',h1,h2⟩:=aED hC hq
      obtain⟨t',h3,h4⟩:=zG h2
      cases hl:hE o.op with
      | true =>
        rw[hl] at h4
        simp only[Bool.and_eq_true] at h4
        obtain⟨k2,s',h5,h6⟩:=ih _ _ _ _ _ _ _ h4.2
        refine⟨max k1 k2,s',⟨v,h',nx',t',sP (iX (Nat.le_max_left _ _)) h1,h3,?_,tN (iX (Nat.le_max_right _ _)) _ _ _ _ _ _ h5⟩,h6⟩
        intro q hq hf
        exact aDP h4.1 q hq (by rw[← xV] at hf; exact hf)
      | false =>
        rw[hl] at h4
        simp only at h4
        cases hr:rdB P t o.op with
        | none =>
          rw[hr] at h4
          obtain⟨k2,s',h5,h6⟩:=ih _ _ _ _ _ _ _ h4
          exact⟨max k1 k2,s',⟨v,h',nx',t',sP (iX (Nat.le_max_left _ _)) h1,h3,tN (iX (Nat.le_max_right _ _)) _ _ _ _ _ _ h5⟩,h6⟩
        | some a =>
          rw[hr] at h4
          simp only[Bool.and_eq_true] at h4
          obtain⟨k2,s',h5,h6⟩:=ih _ _ _ _ _ _ _ h4.2
          refine⟨max k1 k2,s',⟨v,h',nx',t',sP (iX (Nat.le_max_left _ _)) h1,h3,?_,tN (iX (Nat.le_max_right _ _)) _ _ _ _ _ _ h5⟩,h6⟩
          intro q hq hf
          exact aDQ h4.1 q hq (by rw[← xV] at hf; exact hf)
    | false =>
      rw[hw] at hq
      obtain⟨t',h3,h4⟩:=zG hq
      obtain⟨k2,s',h5,h6⟩:=ih _ _ _ _ _ _ _ h4
      exact⟨k2,s',⟨t',h3,h5⟩,h6⟩
def aOj (P:Program) (ro:Ro) (n:Nat) (c:Code) (B:T Value→T Obj→Nat→QB→Bool):Prop :=
  ∀ t h nx Q,B t h nx Q=true→∃ k x s',code P ro k n c ⟨t,h,nx⟩ x s'∧Q x s'.t s'.h s'.nx=true
theorem aIA {n:Nat}{b:Code}{B:T Value→T Obj→Nat→QB→Bool} (hB:aOj P ro n b B):∀ (j:Nat) (t:T Value) (h:T Obj) (nx:Nat) (Q:QB),aHz B j t h nx Q=true →
    ∃ k x s',code P ro k n (.loop b) ⟨t,h,nx⟩ x s'∧Q x s'.t s'.h s'.nx=true:=by
  intro j
  induction j with
  | zero=>intro t h nx Q hq; cases hq
  | succ j ih =>
    intro t h nx Q hq
    obtain⟨k1,x,s1,h1,h2⟩:=hB _ _ _ _ hq
    cases x with
    | normal =>
      obtain⟨k2,x,s2,h5,h6⟩:=ih _ _ _ _ h2
      exact⟨max k1 k2+1,x,s2,.inl ⟨s1,s1.h,qT (Nat.le_max_left _ _) _ _ _ _ _ h1,fun _ _ e=>e,qT (Nat.le_max_right _ _) _ _ _ _ _ h5⟩,h6⟩
    | exit id=>exact⟨k1+1,_,s1,.inr ⟨by simp,h1⟩,h2⟩
    | ret=>exact⟨k1+1,_,s1,.inr ⟨by simp,h1⟩,h2⟩
theorem aHZ {C:qM} (hC:aFS P ro C) {n:Nat}:∀ c:Code,aOj P ro n c (qO P ro C n c):=by
  intro c
  induction c with
  | skip | label=>intro t h nx Q hp; exact⟨1,.normal,_,⟨rfl,rfl⟩,hp⟩
  | ret=>intro t h nx Q hp; exact⟨1,.ret,_,⟨rfl,rfl⟩,hp⟩
  | exit id=>intro t h nx Q hp; exact⟨1,.exit id,_,⟨rfl,rfl⟩,hp⟩
  | seq a b iha ihb =>
    intro t h nx Q hp
    obtain⟨k1,x,s1,h1,h2⟩:=iha _ _ _ _ hp
    cases x with
    | normal =>
      obtain⟨k2,x,s2,h5,h6⟩:=ihb _ _ _ _ h2
      exact⟨max k1 k2+1,x,s2,.inl ⟨s1,qT (Nat.le_max_left _ _) _ _ _ _ _ h1,qT (Nat.le_max_right _ _) _ _ _ _ _ h5⟩,h6⟩
    | exit id=>exact⟨k1+1,_,s1,.inr ⟨by simp,h1⟩,h2⟩
    | ret=>exact⟨k1+1,_,s1,.inr ⟨by simp,h1⟩,h2⟩
  | cond c a b iha ihb =>
    intro t h nx Q hp
    obtain⟨v,h1,h2⟩:=fM hp
    split at h2
    · obtain⟨k,x,s1,h3,h4⟩:=iha _ _ _ _ h2
      exact⟨k+1,x,s1,⟨true,h1,h3⟩,h4⟩
    · obtain⟨k,x,s1,h3,h4⟩:=ihb _ _ _ _ h2
      exact⟨k+1,x,s1,⟨false,h1,h3⟩,h4⟩
    · cases h2
  | block id b ihb =>
    intro t h nx Q hp
    obtain⟨k,x,s1,h1,h2⟩:=ihb _ _ _ _ hp
    cases x with
    | normal=>exact⟨k+1,_,s1,⟨_,h1,rfl⟩,h2⟩
    | ret=>exact⟨k+1,_,s1,⟨_,h1,rfl⟩,h2⟩
    | exit i =>
      refine⟨k+1,_,s1,⟨_,h1,rfl⟩,?_⟩
      simp only at h2 ⊢
      cases hb:Nat.beq i id with
      | true=>rw[hb] at h2; exact h2
      | false=>rw[hb] at h2; exact h2
  | loop b ihb=>intro t h nx Q hp; exact aIA ihb _ _ _ _ _ hp
  | scope b ihb =>
    intro t h nx Q hp
    obtain⟨k,x,s1,h1,h2⟩:=ihb _ _ _ _ hp
    exact⟨k+1,x,s1,h1,h2⟩
  | region id ops draw =>
    intro t h nx Q hp
    cases draw with
    | false =>
      obtain⟨k,s',h1,h2⟩:=aJZ hC _ _ _ _ _ hp
      exact⟨k+1,.normal,s',⟨rfl,h1⟩,h2⟩
    | true =>
      simp only[qO] at hp
      rw[aNa,aD8] at hp
      cases hd:vQ P ops with
      | false=>rw[hd] at hp; cases hp
      | true =>
        rw[hd] at hp
        simp only[nE] at hp
        obtain⟨k,s',h1,h2⟩:=aIL hC _ _ _ _ _ _ _ _ hp
        exact⟨k+1,.normal,s',⟨rfl,hd,h1⟩,h2⟩
  | _=>intro t h nx Q hp; cases hp
theorem aCL {O:aK9}{M:aOu} (hO:∀ f args z l c e cs,O f args=some (z,l,c,e,cs)→aHH P f args z l c cs) (hM:∀ f args h nx v h' nx',M f args h nx=some (v,h',nx')→∃ j,call P ro j f args h nx v h' nx'):∀ k,aFS P ro (aFZ P ro O M k):=by
  intro k
  induction k with
  | zero=>intro f args h nx K hc; cases hc
  | succ k ih =>
    intro f args h nx K hc
    simp only[aFZ] at hc
    cases hm:M f args h nx with
    | some r =>
      obtain⟨v,h',nx'⟩:=r
      rw[hm] at hc
      obtain⟨j,hj⟩:=hM _ _ _ _ _ _ _ hm
      exact⟨j,v,h',nx',hj,hc⟩
    | none =>
    rw[hm] at hc
    simp only at hc
    cases hq:O f args with
    | some r =>
      obtain⟨z,l,c,e,cs⟩:=r
      rw[hq] at hc
      simp only[nE,aMP,aCH] at hc
      exact⟨0,_,_,_,.inr (.inr ⟨z,l,c,cs,e,hO _ _ _ _ _ _ _ hq,rfl,fun _ _ e=>e,rfl⟩),hc⟩
    | none =>
    rw[hq] at hc
    simp only at hc
    obtain⟨fn,h1,hc⟩:=fM hc
    obtain⟨body,h2,hc⟩:=fM hc
    split at hc
    · rename_i hb
      rw[aF4,aLw] at hc
      obtain⟨j,x,s,h3,h4⟩:=aHZ ih body _ _ _ _ hc
      cases x with
      | exit i=>cases h4
      | normal =>
        obtain⟨vs,h5,h6⟩:=fM h4
        rw[aGT] at h6
        exact⟨j,_,_,_,.inl ⟨fn,body,.normal,s,vs,h1,h2,Nat.le_of_ble_eq_true hb,h3,.inl rfl,h5,rfl,fun _ _ e=>e,rfl⟩,h6⟩
      | ret =>
        obtain⟨vs,h5,h6⟩:=fM h4
        rw[aGT] at h6
        exact⟨j,_,_,_,.inl ⟨fn,body,.ret,s,vs,h1,h2,Nat.le_of_ble_eq_true hb,h3,.inr rfl,h5,rfl,fun _ _ e=>e,rfl⟩,h6⟩
    · cases hc
structure Cp where
  f:FuncId
  args:List Value
  h:T Obj
  nx:Nat
  v:Value
  h':T Obj
  nx':Nat
def rR (P:Program) (c:Cp):Prop:=∀ ro,∃ j,call P ro j c.f c.args c.h c.nx c.v c.h' c.nx'
def oEq (a b:Option Obj):Bool:=match a,b with
  | none,none=>true
  | a,b=>aII a b
theorem aP3 {a b:Option Obj} (h:oEq a b=true):a=b:=by
  unfold oEq at h
  split at h
  · rfl
  · exact (aDz h).1
def eqT:T Obj→T Obj→Bool
  | .e,.e=>true
  | .n l v r,.n l' v' r'=>oEq v v'&&(eqT l l'&&eqT r r')
  | _,_=>false
theorem aJK:∀ {a b:T Obj},eqT a b=true→a=b
  | .e,.e,_=>rfl
  | .n l v r,.n l' v' r',h=>by
    simp only[eqT,Bool.and_eq_true] at h
    rw[aP3 h.1,aJK h.2.1,aJK h.2.2]
  | .e,.n ..,h=>by cases h
  | .n ..,.e,h=>by cases h
def aEg:List Value→List Value→Bool
  | [],[]=>true
  | a::r,b::s=>aAm a b&&aEg r s
  | _,_=>false
theorem aCI:∀ {l m:List Value},aEg l m=true→l=m
  | [],[],_=>rfl
  | a::r,b::s,h=>by
    simp only[aEg,Bool.and_eq_true] at h
    rw[vK h.1,aCI h.2]
  | [],_::_,h=>by cases h
  | _::_,[],h=>by cases h
def aNZ (a b:Value):Bool:=match a,b with
  | .tuple x,.tuple y=>aEg x.toList y.toList
  | a,b=>aAm a b
theorem aN0 {a b:Value} (h:aNZ a b=true):a=b:=by
  unfold aNZ at h
  split at h
  · rename_i x y
    obtain⟨x⟩:=x
    obtain⟨y⟩:=y
    have:=aCI h
    simp_all
  · exact vK h
def aNM:T Obj→(Nat→Option Obj)→Bool
  | .e,_=>true
  | .n l v r,g=>(match v with
    | none=>true
    | some o=>aII (some o) (g 0))&&(aNM l (fun k=>g (2*k+1))&&aNM r (fun k=>g (2*k+2)))
theorem aEa:∀ {t:T Obj}{g:Nat→Option Obj},aNM t g=true→∀ k o,t.get k=some o→g k=some o
  | .e,g,_,k,o,h=>by rw[T.get_e] at h; cases h
  | .n l v r,g,hs,k,o,h=>by
    simp only[aNM,Bool.and_eq_true] at hs
    cases k with
    | zero =>
      have:v=some o:=h
      subst this
      exact (aDz hs.1).1.symm
    | succ k =>
      have h2:(Bool.rec (motive:=fun _=>Option Obj) (r.get (k / 2)) (l.get (k / 2)) (Nat.beq (k % 2) 0):Option Obj)=some o:=h
      cases hb:Nat.beq (k % 2) 0 with
      | true =>
        rw[hb] at h2
        have h3:=aEa hs.2.1 _ _ h2
        have h4:=Nat.eq_of_beq_eq_true hb
        rw[show k+1=2*(k / 2)+1 by omega]
        exact h3
      | false =>
        rw[hb] at h2
        have h3:=aEa hs.2.2 _ _ h2
        have h4:¬ k % 2=0:=fun e=>by rw[e] at hb; cases hb
        rw[show k+1=2*(k / 2)+2 by omega]
        exact h3
def cpM:List Cp→aOu
  | [],_,_,_,_=>none
  | c::r,f,args,h,nx=>match Nat.beq f c.f,Nat.beq nx c.nx with
    | true,true=>match aEg args c.args with
      | true=>match eqT h c.h with
        | true=>some (c.v,c.h',c.nx')
        | false=>none
      | false=>none
    | _,_=>cpM r f args h nx
theorem aJG {ro:Ro}:∀ {l:List Cp},(∀ c∈l,rR P c)→∀ f args h nx v h' nx',cpM l f args h nx=some (v,h',nx')→∃ j,call P ro j f args h nx v h' nx'
  | [],_,_,_,_,_,_,_,_,h=>by cases h
  | c::r,hl,f,args,h,nx,v,h',nx',he=>by
    unfold cpM at he
    split at he
    · rename_i e1 e2
      split at he
      · rename_i e3
        split at he
        · rename_i e4
          simp only[Option.some.injEq,Prod.mk.injEq] at he
          obtain⟨rfl,rfl,rfl⟩:=he
          have d1:f=c.f:=Nat.eq_of_beq_eq_true e1
          have d2:nx=c.nx:=Nat.eq_of_beq_eq_true e2
          rw[d1,d2,aCI e3,aJK e4]
          exact hl c (List.mem_cons_self ..) ro
        · cases he
      · cases he
    · exact aJG (fun c hc=>hl c (List.mem_cons_of_mem _ hc)) _ _ _ _ _ _ _ he
theorem kM {P:Program}:∀ c∈([]:List Cp),rR P c:=fun c h=>by cases h
theorem bF {P:Program}{a:Cp}{l:List Cp} (h:rR P a) (hl:∀ c∈l,rR P c):∀ c∈a::l,rR P c:=fun c hc=>by
  rcases List.mem_cons.1 hc with e | hc
  · rw[e]; exact h
  · exact hl c hc
def aQC (v0:Value) (h0:T Obj) (n0:Nat):KB:=fun v h nx=>aNZ v v0&&(Nat.beq nx n0&&aNM h0 fun k=>h.get k)
def aQB (want:Value):KB:=fun v _ _=>aAm v want
theorem aHT {k:Nat}{f:FuncId}{args:List Value}{h h' h1:T Obj}{nx nx':Nat}{v:Value} (hc:call P ro k f args h nx v h' nx') (hs:Sub h1 h'):call P ro k f args h nx v h1 nx':=by
  rcases hc with ⟨fn,body,e,s,vs,g1,g2,g3,g4,g5,g6,g7,g8,g9⟩ | ⟨g1,g2,g3,g4⟩ | ⟨z,l,c,cs,e,g1,g2,g3,g4⟩
  · exact .inl ⟨fn,body,e,s,vs,g1,g2,g3,g4,g5,g6,g7,fun k o hk=>g8 k o (hs k o hk),g9⟩
  · exact .inr (.inl ⟨g1,g2,fun k o hk=>g3 k o (hs k o hk),g4⟩)
  · exact .inr (.inr ⟨z,l,c,cs,e,g1,g2,fun k o hk=>g3 k o (hs k o hk),g4⟩)
theorem tF {O:aK9} (hO:∀ f args z l c e cs,O f args=some (z,l,c,e,cs)→aHH P f args z l c cs) {l:List Cp} (hl:∀ c∈l,rR P c) {k:Nat}{c:Cp} (hc:∀ ro,aFZ P ro O (cpM l) k c.f c.args c.h c.nx (aQC c.v c.h' c.nx')=true):rR P c:=fun ro=>by
  obtain⟨j,v,h',nx',h1,h2⟩:=aCL hO (fun f args h nx v h' nx' e=>aJG hl f args h nx v h' nx' e) k _ _ _ _ _ (hc ro)
  simp only[aQC,Bool.and_eq_true] at h2
  rw[← aN0 h2.1,← Nat.eq_of_beq_eq_true h2.2.1]
  exact⟨j,aHT h1 fun k o hk=>aEa h2.2.2 k o hk⟩
theorem aKj {O:aK9} (hO:∀ f args z l c e cs,O f args=some (z,l,c,e,cs)→aHH P f args z l c cs) {l:List Cp} (hl:∀ c∈l,rR P c) {k:Nat}{f:FuncId}{args:List Value}{nx:Nat}{want:Value}{K:KV} (hc:aFZ P ro O (cpM l) k f args .e nx (aQB want)=true) (hK:∀ n,K want .e n):aN P ro f args .e nx K:=by
  obtain⟨j,v,h',nx',h1,h2⟩:=aCL hO (fun f args h nx v h' nx' e=>aJG hl f args h nx v h' nx' e) k _ _ _ _ _ hc
  refine⟨j,v,.e,nx',aHT h1 (fun k o hk=>by rw[T.get_e] at hk; cases hk),?_⟩
  rw[vK h2]
  exact hK _
end
end V
end Go.Proofs.YtcaccnneblghgaaGreat
noncomputable section
namespace Go.Proofs.YtcaccnneblghgaaGreat
namespace V
theorem aPb {P:Program} (hz:gF P=true) (hn:mG P=true) (hm:P.follows .mixedOrders=true) {f:FuncId}{want:Value} (hf:flat want=true) (hb:((P.funcs[f]?).bind (·.body)).isSome=true)
    (he:∀ ro:Ro,aN P ro f [] .e 0 fun v _ _=>v=want):Orc P f want:=by
  refine⟨hf,?_,fun W=>?_⟩
  · cases hq:P.funcs[f]? with
    | none=>rw[hq] at hb; cases hb
    | some fn =>
      rw[hq] at hb
      refine⟨fn,rfl,?_⟩
      simp only[Option.bind_some] at hb
      cases hc:fn.body with
      | none=>rw[hc] at hb; cases hb
      | some b=>rfl
  · obtain⟨j,v,h',nx',hc,hv⟩:=he (nI W)
    subst hv
    have hs:SS (nI W) W.heap.size W (fun _=>none) .e 0 W:=⟨aE1 W,fun _ _=>rfl⟩
    refine ((aA1 (ro:=nI W) (N:=W.heap.size) (w0:=W) hz hn hm _ _ _ _ _ _ _ hc).2 _ W #[] hs .nil).mono fun e W' ⟨v',φ',he,hst,hv⟩=>?_
    subst he
    exact⟨by rw[hv.of_flat hf],hst.size,fun b hb=>hst.frame b hb fun k B o r hk _=>absurd (T.get_e k) hk,hst.os,hst.tape,hst.output⟩
theorem aOK {P:Program} (hz:gF P=true) (hn:mG P=true) (hm:P.follows .mixedOrders=true) {O:aK9} (hO:∀ f args z l c e cs,O f args=some (z,l,c,e,cs)→aHH P f args z l c cs) {l:List Cp} (hl:∀ c∈l,rR P c) {f:FuncId}{want:Value}{k:Nat} (hf:flat want=true) (hb:((P.funcs[f]?).bind (·.body)).isSome=true)
    (he:∀ ro:Ro,aFZ P ro O (cpM l) k f [] .e 0 (aQB want)=true):Orc P f want:=aPb hz hn hm hf hb fun ro=>aKj hO hl (he ro) fun _=>rfl
theorem LR.rigid {N:Nat}{φ:Phi}:∀ {l:List Value},l.all V.rigid=true→LR N φ l l
  | [],_=>.nil
  | x::l,h=>by
    simp only[List.all_cons,Bool.and_eq_true] at h
    refine .cons ?_ (LR.rigid h.2)
    have hx:=h.1
    cases x with
    | agg cs=>exact VR.aggL (LR.flat fun x hx'=>List.all_eq_true.1 (show cs.toList.all V.flat=true from hx) x hx')
    | _=>exact .flat hx
theorem aOI {P:Program} (hz:gF P=true) (hn:mG P=true) (hm:P.follows .mixedOrders=true) {f:FuncId}{args:List Value}{z l c:Nat}{cs:List Value} (hr:args.all rigid=true) (hf:cs.all flat=true) (hb:((P.funcs[f]?).bind (·.body)).isSome=true)
    (hc0:l≤c) (hc1:c*z=cs.length) (hc2:0 < c) (he:∀ ro:Ro,aN P ro f args .e 0 fun v h _=>∃ id e,v=.slice (some ⟨id,0,some z⟩) l c∧h.get id=some (.cells cs.toArray e)):aHH P f args z l c cs:=by
  refine⟨hr,hf,?_,fun W=>?_⟩
  · cases hq:P.funcs[f]? with
    | none=>rw[hq] at hb; cases hb
    | some fn =>
      rw[hq] at hb
      refine⟨fn,rfl,?_⟩
      simp only[Option.bind_some] at hb
      cases hc:fn.body with
      | none=>rw[hc] at hb; cases hb
      | some b=>rfl
  · obtain⟨j,v,h',nx',hc,id,e,rfl,hg⟩:=he (nI W)
    have hs:SS (nI W) W.heap.size W (fun _=>none) .e 0 W:=⟨aE1 W,fun _ _=>rfl⟩
    refine ((aA1 (ro:=nI W) (N:=W.heap.size) (w0:=W) hz hn hm _ _ _ _ _ _ _ hc).2 _ W args.toArray hs (by simpa using LR.rigid hr)).mono fun en W' ⟨v',φ',he,hst,hv⟩=>?_
    subst he
    refine⟨?_,hst.size,fun b hb=>hst.frame b hb fun k B o r hk _=>absurd (T.get_e k) hk,hst.os,hst.tape,hst.output⟩
    obtain⟨B,b,r,o',p1,p2,p3⟩:=hst.ss.sim.own id _ hg
    have hB:W.heap.size≤B:=by
      rcases hst.img id B b r (by rw[hg]; simp) p1 with h1 | ⟨k0,o0,r0,h1,_⟩
      · exact h1
      · exact absurd (T.get_e k0) h1
    cases o'<;>first
      | exact p3.elim
      | skip
    rename_i C E F
    obtain⟨r1,r2,r3,r4⟩:=p3
    have hflat:∀ (i:Nat) (x:Value),cs[i]?=some x→C[b+i]?=some x:=fun i x hx=>by
      obtain⟨y,hy,hxy⟩:=r3 i x (by simpa using hx)
      rw[hy,hxy.of_flat (List.all_eq_true.1 hf x (List.mem_of_getElem? hx))]
    cases hv with
    | flat h=>cases h
    | sliceRo h _=>cases h
    | sliceOwn h1 h2 h3 h4 =>
      cases h2
      simp only at h1
      rw[p1] at h1
      cases h1
      exact⟨B,_,r,_,C,E,F,rfl,h3,by simpa using h4,hB,(hst.ss.sim.dom id B b r p1).2,p2,r1,by simpa using r2,hflat,r4⟩
    | sliceEnd h1 h2=>omega
    | sliceNo h=>cases h
end V
end Go.Proofs.YtcaccnneblghgaaGreat
namespace Go.Proofs.YtcaccnneblghgaaGreat
namespace V
attribute [local irreducible] qR aN aB
abbrev wQ:FuncId:=5
abbrev t6:FuncId:=10
abbrev aCo:FuncId:=12
abbrev pA:FuncId:=13
abbrev pE:FuncId:=14
abbrev rC:FuncId:=17
abbrev xX:FuncId:=20
abbrev uE:FuncId:=21
abbrev aEy:FuncId:=30
abbrev aEz:FuncId:=31
abbrev aGZ:FuncId:=32
abbrev aGY:FuncId:=33
abbrev zY:FuncId:=34
abbrev xW:FuncId:=36
abbrev hN:FuncId:=37
abbrev fE:FuncId:=38
abbrev aA4:FuncId:=39
abbrev jA:FuncId:=42
abbrev rB:FuncId:=44
abbrev vX:FuncId:=45
abbrev aDm:FuncId:=65
abbrev aDn:FuncId:=66
abbrev aDo:FuncId:=67
abbrev pH:FuncId:=69
abbrev hU:FuncId:=70
abbrev eN:FuncId:=71
abbrev t5:FuncId:=72
abbrev aA5:FuncId:=73
abbrev qZ:FuncId:=74
abbrev tZ:FuncId:=75
abbrev aA8:FuncId:=76
abbrev j8:FuncId:=78
abbrev sM:FuncId:=81
abbrev uA:FuncId:=82
abbrev uC:FuncId:=83
abbrev uB:FuncId:=102
abbrev qK:FuncId:=109
abbrev sN:FuncId:=110
abbrev fC:FuncId:=111
abbrev dP:FuncId:=112
abbrev vT:FuncId:=113
abbrev lO:FuncId:=114
abbrev uF:FuncId:=115
abbrev sL:FuncId:=116
abbrev lL:FuncId:=117
abbrev iQ:FuncId:=118
abbrev fZ:FuncId:=119
abbrev iR:FuncId:=120
abbrev t7:FuncId:=126
abbrev uD:FuncId:=127
abbrev tM:FuncId:=135
abbrev vV:FuncId:=136
abbrev pF:FuncId:=147
abbrev fD:FuncId:=152
abbrev vS:FuncId:=153
abbrev rA:FuncId:=154
abbrev eX:FuncId:=155
abbrev fX:FuncId:=156
abbrev mO:FuncId:=157
abbrev gI:FuncId:=164
abbrev tY:FuncId:=165
abbrev pG:FuncId:=166
abbrev vW:FuncId:=167
abbrev vU:FuncId:=178
abbrev xY:FuncId:=179
abbrev aA7:FuncId:=180
abbrev fK:FuncId:=182
abbrev oB:FuncId:=187
abbrev aA6:FuncId:=192
abbrev dR:TypeId:=3
abbrev aEh:TypeId:=4
abbrev bS:TypeId:=5
abbrev oU:TypeId:=9
abbrev jQ:TypeId:=22
abbrev fN:TypeId:=28
abbrev i4:TypeId:=31
abbrev iH:TypeId:=32
abbrev dI:TypeId:=34
abbrev a9:TypeId:=42
abbrev iJ:TypeId:=43
abbrev bI:TypeId:=49
abbrev wK:TypeId:=57
abbrev dN:TypeId:=59
abbrev lZ:TypeId:=60
abbrev iI:TypeId:=61
abbrev bK:TypeId:=63
abbrev cN:TypeId:=65
abbrev eB:TypeId:=84
abbrev kH:TypeId:=95
abbrev iW:TypeId:=96
abbrev aQ:TypeId:=98
abbrev iL:TypeId:=101
abbrev kU:TypeId:=146
abbrev bJ:TypeId:=148
abbrev gL:TypeId:=149
abbrev kW:TypeId:=150
abbrev gE:TypeId:=158
abbrev bD:TypeId:=160
abbrev i3:TypeId:=163
abbrev kS:TypeId:=168
abbrev eL:TypeId:=200
abbrev cE:TypeId:=202
abbrev dZ:TypeId:=213
abbrev bM:TypeId:=218
@[irreducible] def lU (ro:Ro) (v0:Value) (h:T Obj) (nx:Nat) (K:KV):Prop:=aB (slB .eql v0 (Value.slice none 0 0)) fun a'=>aR a' (∃ h2,Sub h2 h∧K (Value.slice none 0 0) h2 (nx+4)) (aB (bR Tryz.prog jQ (nx+3) 0 []) fun r3=>eQ h (nx+3) r3.2 fun h4=>aB (cC Tryz.prog ro h4 (nx+6) #[jQ,jQ] [r3.1,v0]) fun r5=>∃ h6,Sub h6 r5.2.1∧K r5.1 h6 (r5.2.2+1))
theorem qA {ro:Ro}{v0:Value}{h:T Obj}{nx:Nat}{K:KV} (hw:lU ro v0 h nx K):aN Tryz.prog ro hN [v0] h nx K:=bA (P:=Tryz.prog) (fn:=Tryz.f37) (by kernel_rfl) (by kernel_rfl) (by kernel_rfl) (Eq.mpr (by kernel_rfl) hw)
@[irreducible] def p9 (ro:Ro) (v0:Value) (h:T Obj) (nx:Nat) (K:KV):Prop:=aB (slB .eql v0 (Value.slice none 0 0)) fun a'=>aR a' (∃ h2,Sub h2 h∧K (Value.slice none 0 0) h2 (nx+4)) (aB (bR Tryz.prog i4 (nx+3) 0 []) fun r3=>eQ h (nx+3) r3.2 fun h4=>aB (cC Tryz.prog ro h4 (nx+6) #[i4,i4] [r3.1,v0]) fun r5=>∃ h6,Sub h6 r5.2.1∧K r5.1 h6 (r5.2.2+1))
theorem vH {ro:Ro}{v0:Value}{h:T Obj}{nx:Nat}{K:KV} (hw:p9 ro v0 h nx K):aN Tryz.prog ro fE [v0] h nx K:=bA (P:=Tryz.prog) (fn:=Tryz.f38) (by kernel_rfl) (by kernel_rfl) (by kernel_rfl) (Eq.mpr (by kernel_rfl) hw)
@[irreducible] def eE (ro:Ro) (K:KV):Env→T Obj→Nat→Prop:=fun e h nx=>∃ h4,Sub h4 h∧K (e 6) h4 (nx+2)
@[irreducible] def iT (ro:Ro):PT:=fun e h nx Q=>aB (aO .lss (e 27) (e 26)) fun b'=>aR b' (aB (cM 1 (e 25) (e 27)) fun c'=>aB (load1 ro h c') fun a'=>aB (cC Tryz.prog ro h (nx+7) #[a9,a9] [(e 6),a']) fun r9=>aB (aO .add (e 27) (Value.int IntKind.i64 1)) fun d'=>Q .normal (puts e [(28,b'),(29,c'),(30,a'),(8,a'),(31,(e 6)),(32,a'),(33,r9.1),(6,r9.1),(34,d'),(27,d')]) r9.2.1 (r9.2.2+3)) (Q (.exit 2) (puts e [(28,b')]) h (nx+1))
@[irreducible] def gD (ro:Ro) (K:KV):Env→T Obj→Nat→Prop:=fun e h nx=>aN Tryz.prog ro j8 [(Value.slice none 0 0),(e 3)] h (nx+2) fun d' h2 n3=>aB (bH (e 0)) fun f'=>dT (iT ro) (puts e [(23,(e 3)),(24,d'),(6,d'),(25,(e 0)),(26,f'),(27,(Value.int IntKind.i64 0))]) h2 (n3+4) fun g' a' b' c'=>exP g' (eE ro K a' b' c') (fun h'=>cO (Nat.beq h' 2) (eE ro K a' b' c') (False)) (∃ e',Sub e' b'∧K (a' 2) e' c')
@[irreducible] def iU (ro:Ro) (Q:KE):Env→T Obj→Nat→Prop:=fun e h nx=>aB (aO .add (e 11) (Value.int IntKind.i64 1)) fun a'=>Q .normal (puts e [(22,a'),(11,a')]) h (nx+2)
@[irreducible] def lV (ro:Ro):PT:=fun e h nx Q=>aB (aO .lss (e 11) (e 10)) fun c'=>aR c' (aB (cM 1 (e 9) (e 11)) fun d'=>aB (load1 ro h d') fun a'=>aB (bH a') fun e'=>aB (aO .add (e 3) e') fun b'=>aB (aO .lss b' (Value.int IntKind.i64 0)) fun f'=>aR f' (False) (iU ro Q (puts e [(12,c'),(13,d'),(14,a'),(5,a'),(15,(e 3)),(16,a'),(17,e'),(18,b'),(3,b'),(19,b'),(20,f')]) h (nx+11))) (Q (.exit 0) (puts e [(12,c')]) h (nx+1))
@[irreducible] def nN (ro:Ro) (v0:Value) (h:T Obj) (nx:Nat) (K:KV):Prop:=aB (bH v0) fun e'=>dT (lV ro) (puts (gM [v0]) [(2,(Value.slice none 0 0)),(3,(Value.int IntKind.i64 0)),(9,v0),(10,e'),(11,(Value.int IntKind.i64 0))]) h (nx+5) fun f' a' b' c'=>exP f' (gD ro K a' b' c') (fun g'=>cO (Nat.beq g' 0) (gD ro K a' b' c') (False)) (∃ d',Sub d' b'∧K (a' 2) d' c')
theorem s6 {ro:Ro}{v0:Value}{h:T Obj}{nx:Nat}{K:KV} (hw:nN ro v0 h nx K):aN Tryz.prog ro jA [v0] h nx K:=bA (P:=Tryz.prog) (fn:=Tryz.f42) (by kernel_rfl) (by kernel_rfl) (by kernel_rfl) (Eq.mpr (by kernel_rfl) hw)
@[irreducible] def gZ (ro:Ro) (K:KV):Env→T Obj→Nat→Prop:=fun e h nx=>∃ h1,Sub h1 h∧K (Value.int IntKind.i64 (-1)) h1 (nx+1)
@[irreducible] def kL (ro:Ro):PT:=fun e h nx Q=>aB (aO .lss (e 8) (e 7)) fun a'=>aR a' (aB (cM 1 (e 0) (e 8)) fun b'=>aB (load1 ro h b') fun c'=>aB (aE8 .eql (e 1) c') fun d'=>aR d' (Q .ret (puts e [(9,a'),(10,(e 8)),(5,(e 8)),(11,(e 1)),(12,(e 0)),(13,(e 8)),(14,b'),(15,c'),(16,d'),(17,(e 8)),(4,(e 8))]) h (nx+11)) (aB (aO .add (e 8) (Value.int IntKind.i64 1)) fun e'=>Q .normal (puts e [(9,a'),(10,(e 8)),(5,(e 8)),(11,(e 1)),(12,(e 0)),(13,(e 8)),(14,b'),(15,c'),(16,d'),(18,e'),(8,e')]) h (nx+11))) (Q (.exit 0) (puts e [(9,a')]) h (nx+1))
@[irreducible] def lW (ro:Ro) (v0 v1:Value) (h:T Obj) (nx:Nat) (K:KV):Prop:=aB (bH v0) fun c'=>dT (kL ro) (puts (gM [v0,v1]) [(4,(Value.int IntKind.i64 0)),(6,v0),(7,c'),(8,(Value.int IntKind.i64 0))]) h (nx+4) fun d' e8 h9 a'=>exP d' (gZ ro K e8 h9 a') (fun e'=>cO (Nat.beq e' 0) (gZ ro K e8 h9 a') (False)) (∃ b',Sub b' h9∧K (e8 4) b' a')
theorem qC {ro:Ro}{v0 v1:Value}{h:T Obj}{nx:Nat}{K:KV} (hw:lW ro v0 v1 h nx K):aN Tryz.prog ro hU [v0,v1] h nx K:=bA (P:=Tryz.prog) (fn:=Tryz.f70) (by kernel_rfl) (by kernel_rfl) (by kernel_rfl) (Eq.mpr (by kernel_rfl) hw)
@[irreducible] def gP (ro:Ro) (v0 v1:Value) (h:T Obj) (nx:Nat) (K:KV):Prop:=aN Tryz.prog ro fC [v0,v1] h (nx+4) fun a' h2 n3=>aB (aO .geq a' (Value.int IntKind.i64 0)) fun b'=>∃ h5,Sub h5 h2∧K b' h5 (n3+2)
theorem kQ {ro:Ro}{v0 v1:Value}{h:T Obj}{nx:Nat}{K:KV} (hw:gP ro v0 v1 h nx K):aN Tryz.prog ro eN [v0,v1] h nx K:=bA (P:=Tryz.prog) (fn:=Tryz.f71) (by kernel_rfl) (by kernel_rfl) (by kernel_rfl) (Eq.mpr (by kernel_rfl) hw)
@[irreducible] def kV (ro:Ro) (K:KV):Env→T Obj→Nat→Prop:=fun e h nx=>aB (loadA ro h 259 (e 1)) fun c'=>aB (fJ Tryz.prog dZ [(0,c')]) fun d'=>aB (zer Tryz.prog dZ) fun e'=>cT h (nx+2) (.cells e'.cells dZ) fun f'=>aB (bV 259 f' (ptr (nx+2)) d') fun a'=>aB (aS 258 (e 1)) fun g'=>aB (load1 ro a' g') fun h'=>aN Tryz.prog ro dP [h',(.func (.func sL) #[] #[(ptr (nx+2))])] a' (nx+8) fun i' j' k'=>aB (unV .not i') fun l'=>∃ b',Sub b' j'∧K l' b' (k'+2)
@[irreducible] def tW (ro:Ro):PT:=fun e h nx Q=>aB (aO .lss (e 47) (e 46)) fun d'=>aR d' (aB (cM 2 (e 45) (e 47)) fun e'=>aB (loadA ro h 2 e') fun f'=>aB (zer Tryz.prog gL) fun S'=>cT h (nx+3) (.cells S'.cells gL) fun T'=>aB (bV 2 T' (ptr (nx+3)) f') fun g'=>aB (ixArr 2 1 (ptr (nx+3)) (Value.int IntKind.i64 0)) fun h'=>aB (load1 ro g' h') fun i'=>aB (aO .lss i' (Value.int IntKind.i64 1)) fun a'=>ifP a' false g' (nx+9) (fun U'=>aB (ixArr 2 1 (ptr (nx+3)) (Value.int IntKind.i64 0)) fun V'=>U' V' g' (nx+10)) fun j' k' z'=>ifP a' false k' z' (fun W'=>aB (load1 ro k' j') fun X'=>W' X' k' (z'+1)) fun l' A' B'=>ifP a' false A' B' (fun Y'=>aB (ixArr 2 1 (ptr (nx+3)) (Value.int IntKind.i64 1)) fun Z'=>Y' Z' A' (B'+1)) fun m' n' C'=>ifP a' false n' C' (fun aa'=>aB (load1 ro n' m') fun ab'=>aa' ab' n' (C'+1)) fun o' D' E'=>ifP a' false D' E' (fun ac'=>aB (aO .gtr l' o') fun ad'=>ac' ad' D' (E'+1)) fun p' F' G'=>aB (bO a' (Value.bool true) p') fun b'=>ifP b' false F' (G'+2) (fun ae'=>aB (ixArr 2 1 (ptr (nx+3)) (Value.int IntKind.i64 1)) fun af'=>ae' af' F' (G'+3)) fun q' r' H'=>ifP b' false r' H' (fun ag'=>aB (load1 ro r' q') fun ah'=>ag' ah' r' (H'+1)) fun s' I' J'=>ifP b' false I' J' (fun ai'=>aB (aO .lss s' (Value.int IntKind.i64 2)) fun aj'=>ai' aj' I' (J'+1)) fun t' K' L'=>aB (bO b' (Value.bool true) t') fun c'=>ifP c' false K' (L'+2) (fun ak'=>aB (ixArr 2 1 (ptr (nx+3)) (Value.int IntKind.i64 1)) fun al'=>ak' al' K' (L'+3)) fun u' v' M'=>ifP c' false v' M' (fun am'=>aB (load1 ro v' u') fun an'=>am' an' v' (M'+1)) fun w' N' O'=>ifP c' false N' O' (fun ao'=>aB (aO .gtr w' (Value.int IntKind.i64 4096)) fun ap'=>ao' ap' N' (O'+1)) fun x' P' Q'=>aB (bO c' (Value.bool true) x') fun y'=>aR y' (Q .ret (puts e [(48,d'),(49,e'),(50,f'),(4,(ptr (nx+3))),(51,h'),(52,i'),(53,a'),(54,a'),(55,j'),(56,l'),(57,m'),(58,o'),(59,p'),(60,b'),(61,b'),(62,q'),(63,s'),(64,t'),(65,c'),(66,c'),(67,u'),(68,w'),(69,x'),(70,y'),(2,(Value.bool false))]) P' (Q'+2)) (aB (aO .add (e 47) (Value.int IntKind.i64 1)) fun R'=>Q .normal (puts e [(48,d'),(49,e'),(50,f'),(4,(ptr (nx+3))),(51,h'),(52,i'),(53,a'),(54,a'),(55,j'),(56,l'),(57,m'),(58,o'),(59,p'),(60,b'),(61,b'),(62,q'),(63,s'),(64,t'),(65,c'),(66,c'),(67,u'),(68,w'),(69,x'),(70,y'),(71,R'),(47,R')]) P' (Q'+3))) (Q (.exit 0) (puts e [(48,d')]) h (nx+1))
@[irreducible] def aDT (ro:Ro) (v0:Value) (h:T Obj) (nx:Nat) (K:KV):Prop:=cT h nx (.cells (Value.cells v0) bK) fun h1=>aB (aS 0 (ptr nx)) fun p'=>aB (loadA ro h1 257 p') fun q'=>aN Tryz.prog ro uF [q'] h1 (nx+40) fun r' h5 n6=>aB (unV .not r') fun b'=>ifP b' false h5 n6 (fun k8=>aB (aS 257 (ptr nx)) fun aP'=>k8 aP' h5 n6) fun s' e' t'=>ifP b' false e' t' (fun aQ'=>aB (load1 ro e' s') fun aR'=>aQ' aR' e' t') fun u' v' w'=>ifP b' false v' w' (fun aS'=>aB (bH u') fun aT'=>aS' aT' v' w') fun x' y' z'=>ifP b' false y' z' (fun aU'=>aB (aO .gtr x' (Value.int IntKind.i64 512)) fun aV'=>aU' aV' y' z') fun A' B' C'=>aB (bO b' (Value.bool true) A') fun c'=>ifP c' false B' C' (fun aW'=>aB (aS 258 (ptr nx)) fun aX'=>aW' aX' B' C') fun D' f' E'=>ifP c' false f' E' (fun aY'=>aB (load1 ro f' D') fun aZ'=>aY' aZ' f' E') fun F' G' H'=>ifP c' false G' H' (fun a0'=>aB (bH F') fun a1'=>a0' a1' G' H') fun I' J' K'=>ifP c' false J' K' (fun a2'=>aB (aO .lss I' (Value.int IntKind.i64 1)) fun a3'=>a2' a3' J' K') fun L' M' N'=>aB (bO c' (Value.bool true) L') fun d'=>ifP d' false M' N' (fun a4'=>aB (aS 258 (ptr nx)) fun a5'=>a4' a5' M' N') fun O' g' P'=>ifP d' false g' P' (fun a6'=>aB (load1 ro g' O') fun a7'=>a6' a7' g' P') fun Q' R' S'=>ifP d' false R' S' (fun a8'=>aB (bH Q') fun a9'=>a8' a9' R' S') fun T' U' V'=>ifP d' false U' V' (fun ba'=>aB (aO .gtr T' (Value.int IntKind.i64 256)) fun bb'=>ba' bb' U' V') fun W' X' Y'=>aB (bO d' (Value.bool true) W') fun a'=>ifP a' false X' Y' (fun bc'=>aB (aS 258 (ptr nx)) fun bd'=>bc' bd' X' Y') fun Z' h' aa'=>ifP a' false h' aa' (fun be'=>aB (load1 ro h' Z') fun bf'=>be' bf' h' aa') fun ab' ac' ad'=>ifP a' false ac' ad' (fun bg'=>aB (cM 4 ab' (Value.int IntKind.i64 0)) fun bh'=>bg' bh' ac' ad') fun ae' af' ag'=>ifP a' false af' ag' (fun bi'=>aB (aS 0 ae') fun bj'=>bi' bj' af' ag') fun ah' i' ai'=>ifP a' false i' ai' (fun bk'=>aB (load1 ro i' ah') fun bl'=>bk' bl' i' ai') fun aj' ak' al'=>ifP a' false ak' al' (fun bm'=>aB (bH aj') fun bn'=>bm' bn' ak' al') fun am' an' ao'=>ifP a' false an' ao' (fun bo'=>aB (aS 258 (ptr nx)) fun bp'=>bo' bp' an' ao') fun ap' j' aq'=>ifP a' false j' aq' (fun bq'=>aB (load1 ro j' ap') fun br'=>bq' br' j' aq') fun ar' as' at'=>ifP a' false as' at' (fun bs'=>aB (cM 4 ar' (Value.int IntKind.i64 0)) fun bt'=>bs' bt' as' at') fun au' av' aw'=>ifP a' false av' aw' (fun bu'=>aB (aS 1 au') fun bv'=>bu' bv' av' aw') fun ax' k' ay'=>ifP a' false k' ay' (fun bw'=>aB (load1 ro k' ax') fun bx'=>bw' bx' k' ay') fun az' aA' aB'=>ifP a' false aA' aB' (fun by'=>aB (bH az') fun bz'=>by' bz' aA' aB') fun aC' aD' aE'=>ifP a' false aD' aE' (fun bA'=>aB (aO .add am' aC') fun bB'=>bA' bB' aD' aE') fun aF' aG' aH'=>ifP a' false aG' aH' (fun bC'=>aB (aO .gtr aF' (Value.int IntKind.i64 0)) fun bD'=>bC' bD' aG' aH') fun aI' l' aJ'=>aB (bO a' (Value.bool true) aI') fun aK'=>aR aK' (∃ aL',Sub aL' l'∧K (Value.bool false) aL' (aJ'+1)) (aB (aS 257 (ptr nx)) fun aM'=>aB (load1 ro l' aM') fun aN'=>aB (bH aN') fun bE'=>dT (tW ro) (puts (gM [v0]) [(1,(ptr nx)),(2,(Value.bool false)),(6,p'),(7,q'),(8,r'),(9,b'),(10,b'),(11,s'),(12,u'),(13,x'),(14,A'),(15,c'),(16,c'),(17,D'),(18,F'),(19,I'),(20,L'),(21,d'),(22,d'),(23,O'),(24,Q'),(25,T'),(26,W'),(27,a'),(28,a'),(29,Z'),(30,ab'),(31,ae'),(32,ah'),(33,aj'),(34,am'),(35,ap'),(36,ar'),(37,au'),(38,ax'),(39,az'),(40,aC'),(41,aF'),(42,aI'),(43,aK'),(44,aM'),(45,aN'),(46,bE'),(47,(Value.int IntKind.i64 0))]) l' (aJ'+4) fun bF' m' n' o'=>exP bF' (kV ro K m' n' o') (fun bG'=>cO (Nat.beq bG' 0) (kV ro K m' n' o') (False)) (∃ aO',Sub aO' n'∧K (m' 2) aO' o'))
theorem aEn {ro:Ro}{v0:Value}{h:T Obj}{nx:Nat}{K:KV} (hw:aDT ro v0 h nx K):aN Tryz.prog ro qZ [v0] h nx K:=bA (P:=Tryz.prog) (fn:=Tryz.f74) (by kernel_rfl) (by kernel_rfl) (by kernel_rfl) (Eq.mpr (by kernel_rfl) hw)
@[irreducible] def gT (ro:Ro) (K:KV):Env→T Obj→Nat→Prop:=fun e h nx=>∃ h1,Sub h1 h∧K (e 0) h1 (nx+2)
@[irreducible] def jP (ro:Ro) (K:KV):Env→T Obj→Nat→Prop:=fun e h nx=>aB (eH Tryz.prog h .cap #[a9] [(e 0)]) fun b'=>aB (bH (e 0)) fun c'=>aB (aO .sub b' c') fun d'=>aB (aO .sub (e 1) d') fun a'=>aB (aO .gtr a' (Value.int IntKind.i64 0)) fun e'=>aR e' (aB (eH Tryz.prog h .cap #[a9] [(e 0)]) fun f'=>aB (lT Tryz.prog a9 (e 0) none (some f') none) fun g'=>aB (cC Tryz.prog ro h (nx+16) #[a9,dR] [g',a']) fun r9=>aB (bH (e 0)) fun h'=>aB (lT Tryz.prog a9 r9.1 none (some h') none) fun i'=>gT ro K (puts e [(8,(e 1)),(9,(e 0)),(10,b'),(11,(e 0)),(12,c'),(13,d'),(14,a'),(1,a'),(15,a'),(16,e'),(17,(e 0)),(18,(e 0)),(19,f'),(20,g'),(21,a'),(22,r9.1),(23,(e 0)),(24,h'),(25,i'),(0,i')]) r9.2.1 (r9.2.2+4)) (gT ro K (puts e [(8,(e 1)),(9,(e 0)),(10,b'),(11,(e 0)),(12,c'),(13,d'),(14,a'),(1,a'),(15,a'),(16,e')]) h (nx+10))
@[irreducible] def o5 (ro:Ro) (v0 v1:Value) (h:T Obj) (nx:Nat) (K:KV):Prop:=aB (aO .lss v1 (Value.int IntKind.i64 0)) fun a'=>aR a' (False) (jP ro K (puts (gM [v0,v1]) [(4,(Value.slice none 0 0)),(5,v1),(6,a')]) h (nx+3))
theorem uK {ro:Ro}{v0 v1:Value}{h:T Obj}{nx:Nat}{K:KV} (hw:o5 ro v0 v1 h nx K):aN Tryz.prog ro j8 [v0,v1] h nx K:=bA (P:=Tryz.prog) (fn:=Tryz.f78) (by kernel_rfl) (by kernel_rfl) (by kernel_rfl) (Eq.mpr (by kernel_rfl) hw)
@[irreducible] def sW (ro:Ro) (K:KV):Env→T Obj→Nat→Prop:=fun e h nx=>∃ h144,Sub h144 h∧K (Value.bool true) h144 (nx+1)
@[irreducible] def yF (ro:Ro):PT:=fun e h nx Q=>aB (aS 258 (e 1)) fun a'=>aB (load1 ro h a') fun b'=>aB (bH b') fun c'=>aB (aO .lss (e 5) c') fun d'=>aR d' (aB (loadA ro h 259 (e 1)) fun e'=>aB (aS 258 (e 1)) fun f'=>aB (load1 ro h f') fun g'=>aB (cM 4 g' (e 5)) fun h'=>aB (loadA ro h 4 h') fun i'=>aN Tryz.prog ro uD [e',i'] h (nx+13) fun j' l' m'=>aB (unV .not j') fun k'=>aR k' (Q .ret (puts e [(78,(e 5)),(79,a'),(80,b'),(81,c'),(82,d'),(85,e'),(86,f'),(87,g'),(88,(e 5)),(89,h'),(90,i'),(91,j'),(92,k'),(2,(Value.bool false))]) l' (m'+1)) (aB (aO .add (e 5) (Value.int IntKind.i64 1)) fun n'=>Q .normal (puts e [(78,(e 5)),(79,a'),(80,b'),(81,c'),(82,d'),(85,e'),(86,f'),(87,g'),(88,(e 5)),(89,h'),(90,i'),(91,j'),(92,k'),(83,(e 5)),(84,n'),(5,n')]) l' (m'+3))) (Q (.exit 2) (puts e [(78,(e 5)),(79,a'),(80,b'),(81,c'),(82,d')]) h (nx+5))
@[irreducible] def oI (ro:Ro) (K:KV):Env→T Obj→Nat→Prop:=fun e h nx=>dT (yF ro) (puts e [(5,(Value.int IntKind.i64 0))]) h (nx+1) fun x162 e159 h160 n161=>exP x162 (sW ro K e159 h160 n161) (fun i163=>cO (Nat.beq i163 2) (sW ro K e159 h160 n161) (False)) (∃ h164,Sub h164 h160∧K (e159 2) h164 n161)
@[irreducible] def yG (ro:Ro):PT:=fun e h nx Q=>aB (aS 257 (e 1)) fun d'=>aB (load1 ro h d') fun e'=>aB (bH e') fun f'=>aB (aO .lss (e 3) f') fun g'=>aR g' (aB (aS 257 (e 1)) fun h'=>aB (load1 ro h h') fun i'=>aB (cM 2 i' (e 3)) fun j'=>aB (loadA ro h 2 j') fun k'=>aB (zer Tryz.prog gL) fun X'=>cT h (nx+10) (.cells X'.cells gL) fun Y'=>aB (bV 2 Y' (ptr (nx+10)) k') fun l'=>aB (ixArr 2 1 (ptr (nx+10)) (Value.int IntKind.i64 0)) fun m'=>aB (load1 ro l' m') fun n'=>aB (aO .lss n' (Value.int IntKind.i64 1)) fun a'=>ifP a' false l' (nx+16) (fun Z'=>aB (ixArr 2 1 (ptr (nx+10)) (Value.int IntKind.i64 0)) fun aa'=>Z' aa' l' (nx+17)) fun o' p' E'=>ifP a' false p' E' (fun ab'=>aB (load1 ro p' o') fun ac'=>ab' ac' p' (E'+1)) fun q' F' G'=>ifP a' false F' G' (fun ad'=>aB (ixArr 2 1 (ptr (nx+10)) (Value.int IntKind.i64 1)) fun ae'=>ad' ae' F' (G'+1)) fun r' s' H'=>ifP a' false s' H' (fun af'=>aB (load1 ro s' r') fun ag'=>af' ag' s' (H'+1)) fun t' I' J'=>ifP a' false I' J' (fun ah'=>aB (aO .gtr q' t') fun ai'=>ah' ai' I' (J'+1)) fun u' K' L'=>aB (bO a' (Value.bool true) u') fun b'=>ifP b' false K' (L'+2) (fun aj'=>aB (ixArr 2 1 (ptr (nx+10)) (Value.int IntKind.i64 1)) fun ak'=>aj' ak' K' (L'+3)) fun v' w' M'=>ifP b' false w' M' (fun al'=>aB (load1 ro w' v') fun am'=>al' am' w' (M'+1)) fun x' N' O'=>ifP b' false N' O' (fun an'=>aB (aO .lss x' (Value.int IntKind.i64 2)) fun ao'=>an' ao' N' (O'+1)) fun y' P' Q'=>aB (bO b' (Value.bool true) y') fun c'=>ifP c' false P' (Q'+2) (fun ap'=>aB (ixArr 2 1 (ptr (nx+10)) (Value.int IntKind.i64 1)) fun aq'=>ap' aq' P' (Q'+3)) fun z' A' R'=>ifP c' false A' R' (fun ar'=>aB (load1 ro A' z') fun as'=>ar' as' A' (R'+1)) fun B' S' T'=>ifP c' false S' T' (fun at'=>aB (aO .gtr B' (Value.int IntKind.i64 4096)) fun au'=>at' au' S' (T'+1)) fun C' U' V'=>aB (bO c' (Value.bool true) C') fun D'=>aR D' (Q .ret (puts e [(46,(e 3)),(47,d'),(48,e'),(49,f'),(50,g'),(53,h'),(54,i'),(55,(e 3)),(56,j'),(57,k'),(4,(ptr (nx+10))),(58,m'),(59,n'),(60,a'),(61,a'),(62,o'),(63,q'),(64,r'),(65,t'),(66,u'),(67,b'),(68,b'),(69,v'),(70,x'),(71,y'),(72,c'),(73,c'),(74,z'),(75,B'),(76,C'),(77,D'),(2,(Value.bool false))]) U' (V'+2)) (aB (aO .add (e 3) (Value.int IntKind.i64 1)) fun W'=>Q .normal (puts e [(46,(e 3)),(47,d'),(48,e'),(49,f'),(50,g'),(53,h'),(54,i'),(55,(e 3)),(56,j'),(57,k'),(4,(ptr (nx+10))),(58,m'),(59,n'),(60,a'),(61,a'),(62,o'),(63,q'),(64,r'),(65,t'),(66,u'),(67,b'),(68,b'),(69,v'),(70,x'),(71,y'),(72,c'),(73,c'),(74,z'),(75,B'),(76,C'),(77,D'),(51,(e 3)),(52,W'),(3,W')]) U' (V'+4))) (Q (.exit 0) (puts e [(46,(e 3)),(47,d'),(48,e'),(49,f'),(50,g')]) h (nx+5))
@[irreducible] def aC7 (ro:Ro) (v0:Value) (h:T Obj) (nx:Nat) (K:KV):Prop:=cT h nx (.cells (Value.cells v0) bK) fun h1=>aB (aS 0 (ptr nx)) fun p'=>aB (loadA ro h1 257 p') fun q'=>aN Tryz.prog ro t7 [q'] h1 (nx+5) fun r' h5 n6=>aB (unV .not r') fun c'=>ifP c' false h5 (n6+2) (fun k8=>aB (aS 257 (ptr nx)) fun aO'=>k8 aO' h5 (n6+3)) fun s' f' t'=>ifP c' false f' t' (fun aP'=>aB (load1 ro f' s') fun aQ'=>aP' aQ' f' (t'+1)) fun u' v' w'=>ifP c' false v' w' (fun aR'=>aB (bH u') fun aS'=>aR' aS' v' (w'+1)) fun x' y' z'=>ifP c' false y' z' (fun aT'=>aB (aO .gtr x' (Value.int IntKind.i64 512)) fun aU'=>aT' aU' y' (z'+1)) fun A' B' C'=>aB (bO c' (Value.bool true) A') fun d'=>ifP d' false B' (C'+2) (fun aV'=>aB (aS 258 (ptr nx)) fun aW'=>aV' aW' B' (C'+3)) fun D' g' E'=>ifP d' false g' E' (fun aX'=>aB (load1 ro g' D') fun aY'=>aX' aY' g' (E'+1)) fun F' G' H'=>ifP d' false G' H' (fun aZ'=>aB (bH F') fun a0'=>aZ' a0' G' (H'+1)) fun I' J' K'=>ifP d' false J' K' (fun a1'=>aB (aO .lss I' (Value.int IntKind.i64 1)) fun a2'=>a1' a2' J' (K'+1)) fun L' M' N'=>aB (bO d' (Value.bool true) L') fun e'=>ifP e' false M' (N'+2) (fun a3'=>aB (aS 258 (ptr nx)) fun a4'=>a3' a4' M' (N'+3)) fun O' h' P'=>ifP e' false h' P' (fun a5'=>aB (load1 ro h' O') fun a6'=>a5' a6' h' (P'+1)) fun Q' R' S'=>ifP e' false R' S' (fun a7'=>aB (bH Q') fun a8'=>a7' a8' R' (S'+1)) fun T' U' V'=>ifP e' false U' V' (fun a9'=>aB (aO .gtr T' (Value.int IntKind.i64 256)) fun ba'=>a9' ba' U' (V'+1)) fun W' X' Y'=>aB (bO e' (Value.bool true) W') fun a'=>ifP a' false X' (Y'+2) (fun bb'=>aB (aS 258 (ptr nx)) fun bc'=>bb' bc' X' (Y'+3)) fun Z' i' aa'=>ifP a' false i' aa' (fun bd'=>aB (load1 ro i' Z') fun be'=>bd' be' i' (aa'+1)) fun ab' ac' ad'=>ifP a' false ac' ad' (fun bf'=>aB (cM 4 ab' (Value.int IntKind.i64 0)) fun bg'=>bf' bg' ac' (ad'+1)) fun ae' af' ag'=>ifP a' false af' ag' (fun bh'=>aB (aS 0 ae') fun bi'=>bh' bi' af' (ag'+1)) fun ah' j' ai'=>ifP a' false j' ai' (fun bj'=>aB (load1 ro j' ah') fun bk'=>bj' bk' j' (ai'+1)) fun aj' ak' al'=>ifP a' false ak' al' (fun bl'=>aB (bH aj') fun bm'=>bl' bm' ak' (al'+1)) fun am' an' ao'=>ifP a' false an' ao' (fun bn'=>aB (aO .gtr am' (Value.int IntKind.i64 0)) fun bo'=>bn' bo' an' (ao'+1)) fun ap' aq' ar'=>aB (bO a' (Value.bool true) ap') fun b'=>ifP b' false aq' (ar'+2) (fun bp'=>aB (aS 258 (ptr nx)) fun bq'=>bp' bq' aq' (ar'+3)) fun as' k' at'=>ifP b' false k' at' (fun br'=>aB (load1 ro k' as') fun bs'=>br' bs' k' (at'+1)) fun au' av' aw'=>ifP b' false av' aw' (fun bt'=>aB (cM 4 au' (Value.int IntKind.i64 0)) fun bu'=>bt' bu' av' (aw'+1)) fun ax' ay' az'=>ifP b' false ay' az' (fun bv'=>aB (aS 1 ax') fun bw'=>bv' bw' ay' (az'+1)) fun aA' l' aB'=>ifP b' false l' aB' (fun bx'=>aB (load1 ro l' aA') fun by'=>bx' by' l' (aB'+1)) fun aC' aD' aE'=>ifP b' false aD' aE' (fun bz'=>aB (bH aC') fun bA'=>bz' bA' aD' (aE'+1)) fun aF' aG' aH'=>ifP b' false aG' aH' (fun bB'=>aB (aO .gtr aF' (Value.int IntKind.i64 0)) fun bC'=>bB' bC' aG' (aH'+1)) fun aI' aJ' aK'=>aB (bO b' (Value.bool true) aI') fun aL'=>aR aL' (∃ aM',Sub aM' aJ'∧K (Value.bool false) aM' (aK'+2)) (dT (yG ro) (puts (gM [v0]) [(1,(ptr nx)),(2,(Value.bool false)),(6,p'),(7,q'),(8,r'),(9,c'),(10,c'),(11,s'),(12,u'),(13,x'),(14,A'),(15,d'),(16,d'),(17,D'),(18,F'),(19,I'),(20,L'),(21,e'),(22,e'),(23,O'),(24,Q'),(25,T'),(26,W'),(27,a'),(28,a'),(29,Z'),(30,ab'),(31,ae'),(32,ah'),(33,aj'),(34,am'),(35,ap'),(36,b'),(37,b'),(38,as'),(39,au'),(40,ax'),(41,aA'),(42,aC'),(43,aF'),(44,aI'),(45,aL'),(3,(Value.int IntKind.i64 0))]) aJ' (aK'+2) fun bD' m' n' o'=>exP bD' (oI ro K m' n' o') (fun bE'=>cO (Nat.beq bE' 0) (oI ro K m' n' o') (False)) (∃ aN',Sub aN' n'∧K (m' 2) aN' o'))
theorem aEQ {ro:Ro}{v0:Value}{h:T Obj}{nx:Nat}{K:KV} (hw:aC7 ro v0 h nx K):aN Tryz.prog ro uC [v0] h nx K:=bA (P:=Tryz.prog) (fn:=Tryz.f83) (by kernel_rfl) (by kernel_rfl) (by kernel_rfl) (Eq.mpr (by kernel_rfl) hw)
@[irreducible] def sV (ro:Ro) (K:KV):Env→T Obj→Nat→Prop:=fun e h nx=>∃ h13,Sub h13 h∧K (e 3) h13 (nx+2)
@[irreducible] def yE (ro:Ro):PT:=fun e h nx Q=>aB (aO .lss (e 4) (e 0)) fun a'=>aR a' (aB (aO .mul (e 3) (Value.int IntKind.i64 3)) fun b'=>aB (aO .add (e 4) (Value.int IntKind.i64 1)) fun c'=>Q .normal (puts e [(11,(e 4)),(12,(e 0)),(13,a'),(16,(e 3)),(17,b'),(3,b'),(14,(e 4)),(15,c'),(4,c')]) h (nx+9)) (Q (.exit 0) (puts e [(11,(e 4)),(12,(e 0)),(13,a')]) h (nx+3))
@[irreducible] def aC6 (ro:Ro) (v0:Value) (h:T Obj) (nx:Nat) (K:KV):Prop:=aB (aO .lss v0 (Value.int IntKind.i64 0)) fun a'=>ifP a' false h (nx+4) (fun k2=>k2 v0 h (nx+5)) fun e' h4 n5=>ifP a' false h4 n5 (fun k6=>aB (aO .gtr e' (Value.int IntKind.i64 3)) fun j'=>k6 j' h4 (n5+1)) fun f' h8 n9=>aB (bO a' (Value.bool true) f') fun g'=>aR g' (∃ h',Sub h' h8∧K (Value.int IntKind.i64 0) h' (n9+2)) (dT (yE ro) (puts (gM [v0]) [(2,(Value.int IntKind.i64 0)),(5,v0),(6,a'),(7,a'),(8,e'),(9,f'),(10,g'),(3,(Value.int IntKind.i64 1)),(4,(Value.int IntKind.i64 0))]) h8 (n9+3) fun k' b' c' d'=>exP k' (sV ro K b' c' d') (fun l'=>cO (Nat.beq l' 0) (sV ro K b' c' d') (False)) (∃ i',Sub i' c'∧K (b' 2) i' d'))
theorem aEP {ro:Ro}{v0:Value}{h:T Obj}{nx:Nat}{K:KV} (hw:aC6 ro v0 h nx K):aN Tryz.prog ro uB [v0] h nx K:=bA (P:=Tryz.prog) (fn:=Tryz.f102) (by kernel_rfl) (by kernel_rfl) (by kernel_rfl) (Eq.mpr (by kernel_rfl) hw)
@[irreducible] def eZ (ro:Ro) (K:KV):Env→T Obj→Nat→Prop:=fun e h nx=>∃ h1,Sub h1 h∧K (Value.int IntKind.i64 (-1)) h1 (nx+1)
@[irreducible] def gR (ro:Ro):PT:=fun e h nx Q=>aB (aO .lss (e 8) (e 7)) fun a'=>aR a' (aB (cM 260 (e 0) (e 8)) fun b'=>aB (loadA ro h 260 b') fun c'=>xK (aN Tryz.prog ro) (e 1) [c'] h (nx+9) fun d' h7 n8=>aR d' (Q .ret (puts e [(9,a'),(10,(e 8)),(5,(e 8)),(11,(e 1)),(12,(e 0)),(13,(e 8)),(14,b'),(15,c'),(16,d'),(17,(e 8)),(4,(e 8))]) h7 (n8+2)) (aB (aO .add (e 8) (Value.int IntKind.i64 1)) fun e'=>Q .normal (puts e [(9,a'),(10,(e 8)),(5,(e 8)),(11,(e 1)),(12,(e 0)),(13,(e 8)),(14,b'),(15,c'),(16,d'),(18,e'),(8,e')]) h7 (n8+2))) (Q (.exit 0) (puts e [(9,a')]) h (nx+1))
@[irreducible] def iB (ro:Ro) (v0 v1:Value) (h:T Obj) (nx:Nat) (K:KV):Prop:=aB (bH v0) fun e'=>dT (gR ro) (puts (gM [v0,v1]) [(4,(Value.int IntKind.i64 0)),(6,v0),(7,e'),(8,(Value.int IntKind.i64 0))]) h (nx+4) fun f' a' b' c'=>exP f' (eZ ro K a' b' c') (fun g'=>cO (Nat.beq g' 0) (eZ ro K a' b' c') (False)) (∃ d',Sub d' b'∧K (a' 4) d' c')
theorem lD {ro:Ro}{v0 v1:Value}{h:T Obj}{nx:Nat}{K:KV} (hw:iB ro v0 v1 h nx K):aN Tryz.prog ro fC [v0,v1] h nx K:=bA (P:=Tryz.prog) (fn:=Tryz.f111) (by kernel_rfl) (by kernel_rfl) (by kernel_rfl) (Eq.mpr (by kernel_rfl) hw)
@[irreducible] def gQ (ro:Ro) (v0 v1:Value) (h:T Obj) (nx:Nat) (K:KV):Prop:=aN Tryz.prog ro fD [v0,v1] h (nx+4) fun a' h2 n3=>aB (aO .geq a' (Value.int IntKind.i64 0)) fun b'=>∃ h5,Sub h5 h2∧K b' h5 (n3+2)
theorem kR {ro:Ro}{v0 v1:Value}{h:T Obj}{nx:Nat}{K:KV} (hw:gQ ro v0 v1 h nx K):aN Tryz.prog ro dP [v0,v1] h nx K:=bA (P:=Tryz.prog) (fn:=Tryz.f112) (by kernel_rfl) (by kernel_rfl) (by kernel_rfl) (Eq.mpr (by kernel_rfl) hw)
@[irreducible] def i0 (ro:Ro) (K:KV):Env→T Obj→Nat→Prop:=fun e h nx=>∃ h3,Sub h3 h∧K (e 3) h3 (nx+2)
@[irreducible] def o6 (ro:Ro):PT:=fun e h nx Q=>aB (bH (e 0)) fun a'=>aB (aO .lss (e 4) a') fun b'=>aR b' (aB (cM 1 (e 0) (e 4)) fun c'=>aB (load1 ro h c') fun d'=>aB (eH Tryz.prog h .max #[dR,dR] [(e 3),d']) fun e'=>aB (aO .add (e 4) (Value.int IntKind.i64 1)) fun f'=>Q .normal (puts e [(12,(e 4)),(13,(e 0)),(14,a'),(15,b'),(18,(e 3)),(19,(e 0)),(20,(e 4)),(21,c'),(22,d'),(23,e'),(3,e'),(16,(e 4)),(17,f'),(4,f')]) h (nx+14)) (Q (.exit 0) (puts e [(12,(e 4)),(13,(e 0)),(14,a'),(15,b')]) h (nx+4))
@[irreducible] def lA (ro:Ro) (K:KV):Env→T Obj→Nat→Prop:=fun e h nx=>aB (cM 1 (e 0) (Value.int IntKind.i64 0)) fun d'=>aB (load1 ro h d') fun e'=>dT (o6 ro) (puts e [(9,(e 0)),(10,d'),(11,e'),(3,e'),(4,(Value.int IntKind.i64 1))]) h (nx+5) fun g' a' b' c'=>exP g' (i0 ro K a' b' c') (fun h'=>cO (Nat.beq h' 0) (i0 ro K a' b' c') (False)) (∃ f',Sub f' b'∧K (a' 2) f' c')
@[irreducible] def s8 (ro:Ro) (v0:Value) (h:T Obj) (nx:Nat) (K:KV):Prop:=aB (bH v0) fun a'=>aB (aO .lss a' (Value.int IntKind.i64 1)) fun b'=>aR b' (False) (lA ro K (puts (gM [v0]) [(2,(Value.int IntKind.i64 0)),(5,v0),(6,a'),(7,b')]) h (nx+4))
theorem xE {ro:Ro}{v0:Value}{h:T Obj}{nx:Nat}{K:KV} (hw:s8 ro v0 h nx K):aN Tryz.prog ro lO [v0] h nx K:=bA (P:=Tryz.prog) (fn:=Tryz.f114) (by kernel_rfl) (by kernel_rfl) (by kernel_rfl) (Eq.mpr (by kernel_rfl) hw)
@[irreducible] def s9 (ro:Ro) (K:KV):Env→T Obj→Nat→Prop:=fun e h nx=>aB (aS 256 (e 1)) fun a'=>aB (load1 ro h a') fun b'=>aB (aO .eql (e 3) b') fun c'=>∃ h5,Sub h5 h∧K c' h5 (nx+5)
@[irreducible] def oP (ro:Ro) (Q:KE):Env→T Obj→Nat→Prop:=fun e h nx=>aB (aO .add (e 8) (Value.int IntKind.i64 1)) fun a'=>Q .normal (puts e [(23,a'),(8,a')]) h (nx+2)
@[irreducible] def yY (ro:Ro):PT:=fun e h nx Q=>aB (aO .lss (e 8) (Value.int IntKind.i64 256)) fun c'=>aR c' (aB (aNp 256 1 (e 7) (e 8)) fun a'=>aB (wO .i64 a') fun e'=>aB (aO .gtr e' (e 3)) fun b'=>aR b' (Q .ret (puts e [(9,c'),(10,a'),(5,a'),(12,a'),(13,e'),(14,(e 3)),(15,b'),(11,b'),(2,(Value.bool false))]) h (nx+9)) (aB (wO .i64 a') fun f'=>aB (aO .eql f' (e 3)) fun d'=>aR d' (aB (aO .add (e 3) (Value.int IntKind.i64 1)) fun g'=>oP ro Q (puts e [(9,c'),(10,a'),(5,a'),(12,a'),(13,e'),(14,(e 3)),(15,b'),(11,b'),(17,a'),(18,f'),(19,(e 3)),(20,d'),(16,d'),(21,(e 3)),(22,g'),(3,g')]) h (nx+16)) (oP ro Q (puts e [(9,c'),(10,a'),(5,a'),(12,a'),(13,e'),(14,(e 3)),(15,b'),(11,b'),(17,a'),(18,f'),(19,(e 3)),(20,d'),(16,d')]) h (nx+13)))) (Q (.exit 0) (puts e [(9,c')]) h (nx+1))
@[irreducible] def aCf (ro:Ro) (v0:Value) (h:T Obj) (nx:Nat) (K:KV):Prop:=cT h nx (.cells (Value.cells v0) dN) fun h1=>aB (aS 0 (ptr nx)) fun d'=>aB (loadA ro h1 256 d') fun f'=>dT (yY ro) (puts (gM [v0]) [(1,(ptr nx)),(2,(Value.bool false)),(3,(Value.int IntKind.i64 0)),(6,d'),(7,f'),(8,(Value.int IntKind.i64 0))]) h1 (nx+6) fun g' a' b' c'=>exP g' (s9 ro K a' b' c') (fun h'=>cO (Nat.beq h' 0) (s9 ro K a' b' c') (False)) (∃ e',Sub e' b'∧K (a' 2) e' c')
theorem aE6 {ro:Ro}{v0:Value}{h:T Obj}{nx:Nat}{K:KV} (hw:aCf ro v0 h nx K):aN Tryz.prog ro uF [v0] h nx K:=bA (P:=Tryz.prog) (fn:=Tryz.f115) (by kernel_rfl) (by kernel_rfl) (by kernel_rfl) (Eq.mpr (by kernel_rfl) hw)
@[irreducible] def aAo (ro:Ro) (v0 v1:Value) (h:T Obj) (nx:Nat) (K:KV):Prop:=cT h nx (.cells (Value.cells v0) bD) fun h1=>aB (loadA ro h1 259 v1) fun a'=>aB (loadA ro h1 4 (ptr nx)) fun b'=>aN Tryz.prog ro lL [a',b'] h1 (nx+5) fun c' h5 n6=>aB (unV .not c') fun d'=>∃ h8,Sub h8 h5∧K d' h8 (n6+2)
theorem aCk {ro:Ro}{v0 v1:Value}{h:T Obj}{nx:Nat}{K:KV} (hw:aAo ro v0 v1 h nx K):aN Tryz.prog ro sL [v0,v1] h nx K:=bA (P:=Tryz.prog) (fn:=Tryz.f116) (by kernel_rfl) (by kernel_rfl) (by kernel_rfl) (Eq.mpr (by kernel_rfl) hw)
@[irreducible] def kX (ro:Ro) (K:KV):Env→T Obj→Nat→Prop:=fun e h nx=>∃ h127,Sub h127 h∧K (Value.bool true) h127 (nx+1)
@[irreducible] def oV (ro:Ro):PT:=fun e h nx Q=>aB (aO .lss (e 47) (e 46)) fun d'=>aR d' (aB (cM 1 (e 45) (e 47)) fun e'=>aB (load1 ro h e') fun c'=>aB (aS 2 (e 3)) fun f'=>aB (load1 ro h f') fun g'=>aB (cM 1 g' (e 47)) fun h'=>aB (load1 ro h h') fun i'=>aB (aO .lss i' (Value.int IntKind.i64 (-1))) fun b'=>ifP b' false h (nx+13) (fun ab'=>aB (aS 2 (e 3)) fun ac'=>ab' ac' h (nx+14)) fun j' x' B'=>ifP b' false x' B' (fun ad'=>aB (load1 ro x' j') fun ae'=>ad' ae' x' (B'+1)) fun k' C' D'=>ifP b' false C' D' (fun af'=>af' (e 47) C' (D'+1)) fun l' E' F'=>ifP b' false E' F' (fun ag'=>aB (cM 1 k' l') fun ah'=>ag' ah' E' (F'+1)) fun m' y' G'=>ifP b' false y' G' (fun ai'=>aB (load1 ro y' m') fun aj'=>ai' aj' y' (G'+1)) fun n' H' I'=>ifP b' false H' I' (fun ak'=>aB (aO .geq n' (Value.int IntKind.i64 512)) fun al'=>ak' al' H' (I'+1)) fun o' J' K'=>aB (bO b' (Value.bool true) o') fun a'=>ifP a' false J' (K'+2) (fun am'=>am' c' J' (K'+3)) fun p' L' M'=>ifP a' false L' M' (fun an'=>aB (bH p') fun ao'=>an' ao' L' (M'+1)) fun q' N' O'=>ifP a' false N' O' (fun ap'=>aB (aS 0 (e 2)) fun aq'=>ap' aq' N' (O'+1)) fun r' P' Q'=>ifP a' false P' Q' (fun ar'=>aB (aS 0 r') fun as'=>ar' as' P' (Q'+1)) fun s' R' S'=>ifP a' false R' S' (fun at'=>aB (aS 256 s') fun au'=>at' au' R' (S'+1)) fun t' z' T'=>ifP a' false z' T' (fun av'=>aB (load1 ro z' t') fun aw'=>av' aw' z' (T'+1)) fun u' U' V'=>ifP a' false U' V' (fun ax'=>aB (aO .neq q' u') fun ay'=>ax' ay' U' (V'+1)) fun v' W' X'=>aB (bO a' (Value.bool true) v') fun w'=>aR w' (Q .ret (puts e [(48,d'),(49,(e 47)),(50,e'),(51,c'),(6,(e 47)),(7,c'),(52,f'),(53,g'),(54,(e 47)),(55,h'),(56,i'),(57,b'),(58,b'),(59,j'),(60,k'),(61,l'),(62,m'),(63,n'),(64,o'),(65,a'),(66,a'),(67,p'),(68,q'),(69,r'),(70,s'),(71,t'),(72,u'),(73,v'),(74,w'),(4,(Value.bool false))]) W' (X'+2)) (aN Tryz.prog ro eX [c',(.func (.func fX) #[] #[(e 2),(e 3)])] W' (X'+4) fun A' Y' Z'=>aR A' (Q .ret (puts e [(48,d'),(49,(e 47)),(50,e'),(51,c'),(6,(e 47)),(7,c'),(52,f'),(53,g'),(54,(e 47)),(55,h'),(56,i'),(57,b'),(58,b'),(59,j'),(60,k'),(61,l'),(62,m'),(63,n'),(64,o'),(65,a'),(66,a'),(67,p'),(68,q'),(69,r'),(70,s'),(71,t'),(72,u'),(73,v'),(74,w'),(75,c'),(76,(.func (.func fX) #[] #[(e 2),(e 3)])),(77,A'),(4,(Value.bool false))]) Y' (Z'+1)) (aB (aO .add (e 47) (Value.int IntKind.i64 1)) fun aa'=>Q .normal (puts e [(48,d'),(49,(e 47)),(50,e'),(51,c'),(6,(e 47)),(7,c'),(52,f'),(53,g'),(54,(e 47)),(55,h'),(56,i'),(57,b'),(58,b'),(59,j'),(60,k'),(61,l'),(62,m'),(63,n'),(64,o'),(65,a'),(66,a'),(67,p'),(68,q'),(69,r'),(70,s'),(71,t'),(72,u'),(73,v'),(74,w'),(75,c'),(76,(.func (.func fX) #[] #[(e 2),(e 3)])),(77,A'),(78,aa'),(47,aa')]) Y' (Z'+2)))) (Q (.exit 0) (puts e [(48,d')]) h (nx+1))
@[irreducible] def rX (ro:Ro) (v0 v1:Value) (h:T Obj) (nx:Nat) (K:KV):Prop:=cT h nx (.cells (Value.cells v0) dZ) fun h1=>cT h1 (nx+1) (.cells (Value.cells v1) bD) fun h2=>aB (aS 1 (ptr (nx+1))) fun o'=>aB (load1 ro h2 o') fun p'=>aB (bH p') fun q'=>aN Tryz.prog ro vS [q'] h2 (nx+7) fun e' h7 n8=>aB (aO .eql e' (Value.int IntKind.i64 0)) fun b'=>ifP b' false h7 (n8+4) (fun aE'=>aB (aS 2 (ptr (nx+1))) fun aF'=>aE' aF' h7 (n8+5)) fun r' f' s'=>ifP b' false f' s' (fun aG'=>aB (load1 ro f' r') fun aH'=>aG' aH' f' (s'+1)) fun t' u' v'=>ifP b' false u' v' (fun aI'=>aB (bH t') fun aJ'=>aI' aJ' u' (v'+1)) fun w' x' y'=>ifP b' false x' y' (fun aK'=>aK' e' x' (y'+1)) fun z' A' B'=>ifP b' false A' B' (fun aL'=>aB (aO .neq w' z') fun aM'=>aL' aM' A' (B'+1)) fun C' D' E'=>aB (bO b' (Value.bool true) C') fun c'=>ifP c' false D' (E'+2) (fun aN'=>aB (aS 3 (ptr (nx+1))) fun aO'=>aN' aO' D' (E'+3)) fun F' g' G'=>ifP c' false g' G' (fun aP'=>aB (load1 ro g' F') fun aQ'=>aP' aQ' g' (G'+1)) fun H' I' J'=>ifP c' false I' J' (fun aR'=>aB (bH H') fun aS'=>aR' aS' I' (J'+1)) fun K' L' M'=>ifP c' false L' M' (fun aT'=>aT' e' L' (M'+1)) fun N' O' P'=>ifP c' false O' P' (fun aU'=>aB (aO .neq K' N') fun aV'=>aU' aV' O' (P'+1)) fun Q' R' S'=>aB (bO c' (Value.bool true) Q') fun d'=>ifP d' false R' (S'+2) (fun aW'=>aB (aS 0 (ptr (nx+1))) fun aX'=>aW' aX' R' (S'+3)) fun T' h' U'=>ifP d' false h' U' (fun aY'=>aB (load1 ro h' T') fun aZ'=>aY' aZ' h' (U'+1)) fun V' W' X'=>ifP d' false W' X' (fun a0'=>aN Tryz.prog ro rA [V',(Value.int IntKind.i64 512)] W' (X'+1) fun a1' a2' a3'=>a0' a1' a2' a3') fun Y' Z' aa'=>ifP d' false Z' aa' (fun a4'=>aB (unV .not Y') fun a5'=>a4' a5' Z' (aa'+1)) fun ab' ac' ad'=>aB (bO d' (Value.bool true) ab') fun a'=>ifP a' false ac' (ad'+2) (fun a6'=>aB (aS 1 (ptr (nx+1))) fun a7'=>a6' a7' ac' (ad'+3)) fun ae' i' af'=>ifP a' false i' af' (fun a8'=>aB (load1 ro i' ae') fun a9'=>a8' a9' i' (af'+1)) fun ag' ah' ai'=>ifP a' false ah' ai' (fun ba'=>aB (aS 0 (ptr nx)) fun bb'=>ba' bb' ah' (ai'+1)) fun aj' ak' al'=>ifP a' false ak' al' (fun bc'=>aB (aS 257 aj') fun bd'=>bc' bd' ak' (al'+1)) fun am' j' an'=>ifP a' false j' an' (fun be'=>aB (load1 ro j' am') fun bf'=>be' bf' j' (an'+1)) fun ao' ap' aq'=>ifP a' false ap' aq' (fun bg'=>aB (bH ao') fun bh'=>bg' bh' ap' (aq'+1)) fun ar' as' at'=>ifP a' false as' at' (fun bi'=>aN Tryz.prog ro rA [ag',ar'] as' (at'+1) fun bj' bk' bl'=>bi' bj' bk' bl') fun au' av' aw'=>ifP a' false av' aw' (fun bm'=>aB (unV .not au') fun bn'=>bm' bn' av' (aw'+1)) fun ax' k' ay'=>aB (bO a' (Value.bool true) ax') fun az'=>aR az' (∃ aA',Sub aA' k'∧K (Value.bool false) aA' (ay'+2)) (aB (aS 3 (ptr (nx+1))) fun aB'=>aB (load1 ro k' aB') fun aC'=>aB (bH aC') fun bo'=>dT (oV ro) (puts (gM [v0,v1]) [(2,(ptr nx)),(3,(ptr (nx+1))),(4,(Value.bool false)),(8,o'),(9,p'),(10,q'),(11,e'),(5,e'),(12,e'),(13,b'),(14,b'),(15,r'),(16,t'),(17,w'),(18,z'),(19,C'),(20,c'),(21,c'),(22,F'),(23,H'),(24,K'),(25,N'),(26,Q'),(27,d'),(28,d'),(29,T'),(30,V'),(31,Y'),(32,ab'),(33,a'),(34,a'),(35,ae'),(36,ag'),(37,aj'),(38,am'),(39,ao'),(40,ar'),(41,au'),(42,ax'),(43,az'),(44,aB'),(45,aC'),(46,bo'),(47,(Value.int IntKind.i64 0))]) k' (ay'+5) fun bp' l' m' n'=>exP bp' (kX ro K l' m' n') (fun bq'=>cO (Nat.beq bq' 0) (kX ro K l' m' n') (False)) (∃ aD',Sub aD' m'∧K (l' 4) aD' n'))
theorem wX {ro:Ro}{v0 v1:Value}{h:T Obj}{nx:Nat}{K:KV} (hw:rX ro v0 v1 h nx K):aN Tryz.prog ro lL [v0,v1] h nx K:=bA (P:=Tryz.prog) (fn:=Tryz.f117) (by kernel_rfl) (by kernel_rfl) (by kernel_rfl) (Eq.mpr (by kernel_rfl) hw)
@[irreducible] def mZ (ro:Ro) (v0:Value) (h:T Obj) (nx:Nat) (K:KV):Prop:=aB (slB .eql v0 (Value.slice none 0 0)) fun a'=>aR a' (∃ h2,Sub h2 h∧K (Value.slice none 0 0) h2 (nx+4)) (aB (bR Tryz.prog lZ (nx+3) 0 []) fun r3=>eQ h (nx+3) r3.2 fun h4=>aB (cC Tryz.prog ro h4 (nx+6) #[lZ,lZ] [r3.1,v0]) fun r5=>∃ h6,Sub h6 r5.2.1∧K r5.1 h6 (r5.2.2+1))
theorem rJ {ro:Ro}{v0:Value}{h:T Obj}{nx:Nat}{K:KV} (hw:mZ ro v0 h nx K):aN Tryz.prog ro iQ [v0] h nx K:=bA (P:=Tryz.prog) (fn:=Tryz.f118) (by kernel_rfl) (by kernel_rfl) (by kernel_rfl) (Eq.mpr (by kernel_rfl) hw)
@[irreducible] def kF (ro:Ro) (v0:Value) (h:T Obj) (nx:Nat) (K:KV):Prop:=aB (slB .eql v0 (Value.slice none 0 0)) fun a'=>aR a' (∃ h2,Sub h2 h∧K (Value.slice none 0 0) h2 (nx+4)) (aB (bR Tryz.prog eL (nx+3) 0 []) fun r3=>eQ h (nx+3) r3.2 fun h4=>aB (cC Tryz.prog ro h4 (nx+6) #[eL,eL] [r3.1,v0]) fun r5=>∃ h6,Sub h6 r5.2.1∧K r5.1 h6 (r5.2.2+1))
theorem nS {ro:Ro}{v0:Value}{h:T Obj}{nx:Nat}{K:KV} (hw:kF ro v0 h nx K):aN Tryz.prog ro fZ [v0] h nx K:=bA (P:=Tryz.prog) (fn:=Tryz.f119) (by kernel_rfl) (by kernel_rfl) (by kernel_rfl) (Eq.mpr (by kernel_rfl) hw)
@[irreducible] def m5 (ro:Ro) (v0:Value) (h:T Obj) (nx:Nat) (K:KV):Prop:=aB (slB .eql v0 (Value.slice none 0 0)) fun a'=>aR a' (∃ h2,Sub h2 h∧K (Value.slice none 0 0) h2 (nx+4)) (aB (bR Tryz.prog a9 (nx+3) 0 []) fun r3=>eQ h (nx+3) r3.2 fun h4=>aB (cC Tryz.prog ro h4 (nx+6) #[a9,a9] [r3.1,v0]) fun r5=>∃ h6,Sub h6 r5.2.1∧K r5.1 h6 (r5.2.2+1))
theorem rK {ro:Ro}{v0:Value}{h:T Obj}{nx:Nat}{K:KV} (hw:m5 ro v0 h nx K):aN Tryz.prog ro iR [v0] h nx K:=bA (P:=Tryz.prog) (fn:=Tryz.f120) (by kernel_rfl) (by kernel_rfl) (by kernel_rfl) (Eq.mpr (by kernel_rfl) hw)
@[irreducible] def sU (ro:Ro) (K:KV):Env→T Obj→Nat→Prop:=fun e h nx=>aB (aS 256 (e 1)) fun a'=>aB (load1 ro h a') fun b'=>aB (aO .eql (e 3) b') fun c'=>∃ h5,Sub h5 h∧K c' h5 (nx+5)
@[irreducible] def oH (ro:Ro) (Q:KE):Env→T Obj→Nat→Prop:=fun e h nx=>aB (aO .add (e 4) (Value.int IntKind.i64 1)) fun a'=>Q .normal (puts e [(7,(e 4)),(8,a'),(4,a')]) h (nx+3)
@[irreducible] def yD (ro:Ro):PT:=fun e h nx Q=>aB (aO .lss (e 4) (Value.int IntKind.i64 256)) fun a'=>aR a' (aB (aS 0 (e 1)) fun b'=>aB (ixArr 256 1 b' (e 4)) fun c'=>aB (load1 ro h c') fun d'=>aB (wO .i64 d') fun e'=>aB (aO .gtr e' (e 3)) fun f'=>aR f' (Q .ret (puts e [(5,(e 4)),(6,a'),(9,(e 4)),(10,b'),(11,c'),(12,d'),(13,e'),(14,(e 3)),(15,f'),(2,(Value.bool false))]) h (nx+10)) (aB (aS 0 (e 1)) fun g'=>aB (ixArr 256 1 g' (e 4)) fun h'=>aB (load1 ro h h') fun i'=>aB (wO .i64 i') fun j'=>aB (aO .eql j' (e 3)) fun k'=>aR k' (aB (aO .add (e 3) (Value.int IntKind.i64 1)) fun l'=>oH ro Q (puts e [(5,(e 4)),(6,a'),(9,(e 4)),(10,b'),(11,c'),(12,d'),(13,e'),(14,(e 3)),(15,f'),(16,(e 4)),(17,g'),(18,h'),(19,i'),(20,j'),(21,(e 3)),(22,k'),(23,(e 3)),(24,l'),(3,l')]) h (nx+19)) (oH ro Q (puts e [(5,(e 4)),(6,a'),(9,(e 4)),(10,b'),(11,c'),(12,d'),(13,e'),(14,(e 3)),(15,f'),(16,(e 4)),(17,g'),(18,h'),(19,i'),(20,j'),(21,(e 3)),(22,k')]) h (nx+16)))) (Q (.exit 0) (puts e [(5,(e 4)),(6,a')]) h (nx+2))
@[irreducible] def aC4 (ro:Ro) (v0:Value) (h:T Obj) (nx:Nat) (K:KV):Prop:=cT h nx (.cells (Value.cells v0) dN) fun h1=>dT (yD ro) (puts (gM [v0]) [(1,(ptr nx)),(2,(Value.bool false)),(3,(Value.int IntKind.i64 0)),(4,(Value.int IntKind.i64 0))]) h1 (nx+4) fun x22 e19 h20 n21=>exP x22 (sU ro K e19 h20 n21) (fun i23=>cO (Nat.beq i23 0) (sU ro K e19 h20 n21) (False)) (∃ h24,Sub h24 h20∧K (e19 2) h24 n21)
theorem aEL {ro:Ro}{v0:Value}{h:T Obj}{nx:Nat}{K:KV} (hw:aC4 ro v0 h nx K):aN Tryz.prog ro t7 [v0] h nx K:=bA (P:=Tryz.prog) (fn:=Tryz.f126) (by kernel_rfl) (by kernel_rfl) (by kernel_rfl) (Eq.mpr (by kernel_rfl) hw)
@[irreducible] def sY (ro:Ro) (K:KV):Env→T Obj→Nat→Prop:=fun e h nx=>∃ h122,Sub h122 h∧K (Value.bool true) h122 (nx+1)
@[irreducible] def lQ (ro:Ro) (Q:KE):Env→T Obj→Nat→Prop:=fun e h nx=>aB (aO .add (e 6) (Value.int IntKind.i64 1)) fun a'=>Q .normal (puts e [(46,(e 6)),(47,a'),(6,a')]) h (nx+3)
@[irreducible] def yK (ro:Ro):PT:=fun e h nx Q=>aB (aS 3 (e 3)) fun a'=>aB (load1 ro h a') fun b'=>aB (cM 1 b' (e 6)) fun c'=>aB (load1 ro h c') fun d'=>aB (bH d') fun e'=>aB (aO .lss (e 7) e') fun f'=>aR f' (aB (loadA ro h 259 (e 2)) fun g'=>aB (loadA ro h 4 (e 3)) fun h'=>aB (aS 3 (e 3)) fun i'=>aB (load1 ro h i') fun j'=>aB (cM 1 j' (e 6)) fun k'=>aB (load1 ro h k') fun l'=>aB (cM 2 l' (e 7)) fun m'=>aB (loadA ro h 2 m') fun n'=>aN Tryz.prog ro vW [g',h',n'] h (nx+20) fun o' q' r'=>aB (unV .not o') fun p'=>aR p' (Q .ret (puts e [(74,(e 7)),(75,a'),(76,b'),(77,(e 6)),(78,c'),(79,d'),(80,e'),(81,f'),(84,g'),(85,h'),(86,i'),(87,j'),(88,(e 6)),(89,k'),(90,l'),(91,(e 7)),(92,m'),(93,n'),(94,o'),(95,p'),(4,(Value.bool false))]) q' (r'+1)) (aB (aO .add (e 7) (Value.int IntKind.i64 1)) fun s'=>Q .normal (puts e [(74,(e 7)),(75,a'),(76,b'),(77,(e 6)),(78,c'),(79,d'),(80,e'),(81,f'),(84,g'),(85,h'),(86,i'),(87,j'),(88,(e 6)),(89,k'),(90,l'),(91,(e 7)),(92,m'),(93,n'),(94,o'),(95,p'),(82,(e 7)),(83,s'),(7,s')]) q' (r'+3))) (Q (.exit 2) (puts e [(74,(e 7)),(75,a'),(76,b'),(77,(e 6)),(78,c'),(79,d'),(80,e'),(81,f')]) h (nx+8))
@[irreducible] def yJ (ro:Ro):PT:=fun e h nx Q=>aB (aO .lss (e 6) (e 5)) fun f'=>aR f' (aB (aS 2 (e 3)) fun g'=>aB (load1 ro h g') fun h'=>aB (cM 1 h' (e 6)) fun i'=>aB (load1 ro h i') fun j'=>aB (aO .lss j' (Value.int IntKind.i64 (-1))) fun b'=>ifP b' false h (nx+29) (fun ai'=>aB (aS 2 (e 3)) fun aj'=>ai' aj' h (nx+29)) fun k' l' H'=>ifP b' false l' H' (fun ak'=>aB (load1 ro l' k') fun al'=>ak' al' l' H') fun m' I' J'=>ifP b' false I' J' (fun am'=>am' (e 6) I' J') fun n' K' L'=>ifP b' false K' L' (fun an'=>aB (cM 1 m' n') fun ao'=>an' ao' K' L') fun o' p' M'=>ifP b' false p' M' (fun ap'=>aB (load1 ro p' o') fun aq'=>ap' aq' p' M') fun q' N' O'=>ifP b' false N' O' (fun ar'=>aB (aO .geq q' (Value.int IntKind.i64 512)) fun as'=>ar' as' N' O') fun r' P' Q'=>aB (bO b' (Value.bool true) r') fun a'=>ifP a' false P' Q' (fun at'=>aB (aS 3 (e 3)) fun au'=>at' au' P' Q') fun s' t' R'=>ifP a' false t' R' (fun av'=>aB (load1 ro t' s') fun aw'=>av' aw' t' R') fun u' S' T'=>ifP a' false S' T' (fun ax'=>ax' (e 6) S' T') fun v' U' V'=>ifP a' false U' V' (fun ay'=>aB (cM 1 u' v') fun az'=>ay' az' U' V') fun w' x' W'=>ifP a' false x' W' (fun aA'=>aB (load1 ro x' w') fun aB'=>aA' aB' x' W') fun y' X' Y'=>ifP a' false X' Y' (fun aC'=>aB (bH y') fun aD'=>aC' aD' X' Y') fun z' Z' aa'=>ifP a' false Z' aa' (fun aE'=>aB (aS 0 (e 2)) fun aF'=>aE' aF' Z' aa') fun A' ab' ac'=>ifP a' false ab' ac' (fun aG'=>aB (aS 256 A') fun aH'=>aG' aH' ab' ac') fun B' C' ad'=>ifP a' false C' ad' (fun aI'=>aB (load1 ro C' B') fun aJ'=>aI' aJ' C' ad') fun D' ae' af'=>ifP a' false ae' af' (fun aK'=>aB (aO .neq z' D') fun aL'=>aK' aL' ae' af') fun E' ag' ah'=>aB (bO a' (Value.bool true) E') fun F'=>aR F' (Q .ret (puts e [(43,(e 6)),(44,(e 5)),(45,f'),(48,g'),(49,h'),(50,(e 6)),(51,i'),(52,j'),(53,b'),(54,b'),(55,k'),(56,m'),(57,n'),(58,o'),(59,q'),(60,r'),(61,a'),(62,a'),(63,s'),(64,u'),(65,v'),(66,w'),(67,y'),(68,z'),(69,A'),(70,B'),(71,D'),(72,E'),(73,F'),(4,(Value.bool false))]) ag' (ah'+1)) (dT (yK ro) (puts e [(43,(e 6)),(44,(e 5)),(45,f'),(48,g'),(49,h'),(50,(e 6)),(51,i'),(52,j'),(53,b'),(54,b'),(55,k'),(56,m'),(57,n'),(58,o'),(59,q'),(60,r'),(61,a'),(62,a'),(63,s'),(64,u'),(65,v'),(66,w'),(67,y'),(68,z'),(69,A'),(70,B'),(71,D'),(72,E'),(73,F'),(7,(Value.int IntKind.i64 0))]) ag' (ah'+1) fun aM' c' d' e'=>exP aM' (lQ ro Q c' d' e') (fun G'=>cO (Nat.beq G' 2) (lQ ro Q c' d' e') (cO (Nat.beq G' 1) (lQ ro Q c' d' e') (Q (.exit G') c' d' e'))) (Q .ret c' d' e'))) (Q (.exit 0) (puts e [(43,(e 6)),(44,(e 5)),(45,f')]) h (nx+3))
@[irreducible] def aCa (ro:Ro) (v0 v1:Value) (h:T Obj) (nx:Nat) (K:KV):Prop:=cT h nx (.cells (Value.cells v0) bK) fun h1=>cT h1 (nx+1) (.cells (Value.cells v1) bD) fun h2=>aB (aS 1 (ptr (nx+1))) fun n'=>aB (load1 ro h2 n') fun o'=>aB (bH o') fun p'=>aN Tryz.prog ro uB [p'] h2 (nx+7) fun e' h7 n8=>aB (aO .eql e' (Value.int IntKind.i64 0)) fun d'=>ifP d' false h7 (n8+4) (fun az'=>aB (aS 0 (ptr (nx+1))) fun aA'=>az' aA' h7 (n8+5)) fun q' f' r'=>ifP d' false f' r' (fun aB'=>aB (load1 ro f' q') fun aC'=>aB' aC' f' (r'+1)) fun s' t' u'=>ifP d' false t' u' (fun aD'=>aN Tryz.prog ro pG [s',(Value.int IntKind.i64 512)] t' (u'+1) fun aE' aF' aG'=>aD' aE' aF' aG') fun v' w' x'=>ifP d' false w' x' (fun aH'=>aB (unV .not v') fun aI'=>aH' aI' w' (x'+1)) fun y' z' A'=>aB (bO d' (Value.bool true) y') fun a'=>ifP a' false z' (A'+2) (fun aJ'=>aB (aS 1 (ptr (nx+1))) fun aK'=>aJ' aK' z' (A'+3)) fun B' g' C'=>ifP a' false g' C' (fun aL'=>aB (load1 ro g' B') fun aM'=>aL' aM' g' (C'+1)) fun D' E' F'=>ifP a' false E' F' (fun aN'=>aB (aS 257 (ptr nx)) fun aO'=>aN' aO' E' (F'+1)) fun G' h' H'=>ifP a' false h' H' (fun aP'=>aB (load1 ro h' G') fun aQ'=>aP' aQ' h' (H'+1)) fun I' J' K'=>ifP a' false J' K' (fun aR'=>aB (bH I') fun aS'=>aR' aS' J' (K'+1)) fun L' M' N'=>ifP a' false M' N' (fun aT'=>aN Tryz.prog ro pG [D',L'] M' (N'+1) fun aU' aV' aW'=>aT' aU' aV' aW') fun O' P' Q'=>ifP a' false P' Q' (fun aX'=>aB (unV .not O') fun aY'=>aX' aY' P' (Q'+1)) fun R' S' T'=>aB (bO a' (Value.bool true) R') fun b'=>ifP b' false S' (T'+2) (fun aZ'=>aB (aS 2 (ptr (nx+1))) fun a0'=>aZ' a0' S' (T'+3)) fun U' i' V'=>ifP b' false i' V' (fun a1'=>aB (load1 ro i' U') fun a2'=>a1' a2' i' (V'+1)) fun W' X' Y'=>ifP b' false X' Y' (fun a3'=>aB (bH W') fun a4'=>a3' a4' X' (Y'+1)) fun Z' aa' ab'=>ifP b' false aa' ab' (fun a5'=>a5' e' aa' (ab'+1)) fun ac' ad' ae'=>ifP b' false ad' ae' (fun a6'=>aB (aO .neq Z' ac') fun a7'=>a6' a7' ad' (ae'+1)) fun af' ag' ah'=>aB (bO b' (Value.bool true) af') fun c'=>ifP c' false ag' (ah'+2) (fun a8'=>aB (aS 3 (ptr (nx+1))) fun a9'=>a8' a9' ag' (ah'+3)) fun ai' j' aj'=>ifP c' false j' aj' (fun ba'=>aB (load1 ro j' ai') fun bb'=>ba' bb' j' (aj'+1)) fun ak' al' am'=>ifP c' false al' am' (fun bc'=>aB (bH ak') fun bd'=>bc' bd' al' (am'+1)) fun an' ao' ap'=>ifP c' false ao' ap' (fun be'=>be' e' ao' (ap'+1)) fun aq' ar' as'=>ifP c' false ar' as' (fun bf'=>aB (aO .neq an' aq') fun bg'=>bf' bg' ar' (as'+1)) fun at' au' av'=>aB (bO c' (Value.bool true) at') fun aw'=>aR aw' (∃ ax',Sub ax' au'∧K (Value.bool false) ax' (av'+2)) (dT (yJ ro) (puts (gM [v0,v1]) [(2,(ptr nx)),(3,(ptr (nx+1))),(4,(Value.bool false)),(8,n'),(9,o'),(10,p'),(11,e'),(5,e'),(12,e'),(13,d'),(14,d'),(15,q'),(16,s'),(17,v'),(18,y'),(19,a'),(20,a'),(21,B'),(22,D'),(23,G'),(24,I'),(25,L'),(26,O'),(27,R'),(28,b'),(29,b'),(30,U'),(31,W'),(32,Z'),(33,ac'),(34,af'),(35,c'),(36,c'),(37,ai'),(38,ak'),(39,an'),(40,aq'),(41,at'),(42,aw'),(6,(Value.int IntKind.i64 0))]) au' (av'+2) fun bh' k' l' m'=>exP bh' (sY ro K k' l' m') (fun bi'=>cO (Nat.beq bi' 0) (sY ro K k' l' m') (False)) (∃ ay',Sub ay' l'∧K (k' 4) ay' m'))
theorem aET {ro:Ro}{v0 v1:Value}{h:T Obj}{nx:Nat}{K:KV} (hw:aCa ro v0 v1 h nx K):aN Tryz.prog ro uD [v0,v1] h nx K:=bA (P:=Tryz.prog) (fn:=Tryz.f127) (by kernel_rfl) (by kernel_rfl) (by kernel_rfl) (Eq.mpr (by kernel_rfl) hw)
@[irreducible] def aFq (ro:Ro) (v0 v1:Value) (h:T Obj) (nx:Nat) (K:KV):Prop:=cT h nx (.cells (Value.cells v0) eB) fun h1=>aB (aO .quo v1 (Value.int IntKind.u8 64)) fun a'=>aB (ixArr 4 1 (ptr nx) a') fun b'=>aB (load1 ro h1 b') fun c'=>aB (aO .rem v1 (Value.int IntKind.u8 64)) fun d'=>aB (aO .shr c' d') fun e'=>aB (aO .rem e' (Value.int IntKind.u64 2)) fun f'=>aB (aO .eql f' (Value.int IntKind.u64 1)) fun g'=>∃ h9,Sub h9 h1∧K g' h9 (nx+12)
theorem aGn {ro:Ro}{v0 v1:Value}{h:T Obj}{nx:Nat}{K:KV} (hw:aFq ro v0 v1 h nx K):aN Tryz.prog ro tM [v0,v1] h nx K:=bA (P:=Tryz.prog) (fn:=Tryz.f135) (by kernel_rfl) (by kernel_rfl) (by kernel_rfl) (Eq.mpr (by kernel_rfl) hw)
@[irreducible] def pK (ro:Ro) (K:KV):Env→T Obj→Nat→Prop:=fun e h nx=>aB (loadA ro h 4 (e 2)) fun a'=>aB (bV 4 h (e 4) a') fun h5=>aB (loadA ro h5 4 (e 4)) fun r6=>∃ h7,Sub h7 h5∧K r6 h7 (nx+2)
@[irreducible] def aEJ (ro:Ro) (v0 v1:Value) (h:T Obj) (nx:Nat) (K:KV):Prop:=cT h nx (.cells (Value.cells v0) eB) fun h1=>aB (zer Tryz.prog eB) fun z2=>cT h1 (nx+1) (.cells z2.cells eB) fun h3=>aB (loadA ro h3 4 (ptr nx)) fun a'=>aN Tryz.prog ro tM [a',v1] h3 (nx+5) fun b' c' e'=>aB (unV .not b') fun d'=>aR d' (aB (aO .quo v1 (Value.int IntKind.u8 64)) fun f'=>aB (aO .quo v1 (Value.int IntKind.u8 64)) fun g'=>aB (ixArr 4 1 (ptr nx) g') fun h'=>aB (load1 ro c' h') fun i'=>aB (aO .rem v1 (Value.int IntKind.u8 64)) fun j'=>aB (aO .shl (Value.int IntKind.u64 1) j') fun k'=>aB (aO .add i' k') fun l'=>aB (ixArr 4 1 (ptr nx) f') fun m'=>aB (bV 1 c' m' l') fun n'=>pK ro K (puts (gM [v0,v1]) [(2,(ptr nx)),(4,(ptr (nx+1))),(5,a'),(6,v1),(7,b'),(8,d'),(9,v1),(10,f'),(11,v1),(12,g'),(13,h'),(14,i'),(15,v1),(16,j'),(17,k'),(18,l'),(19,m')]) n' (e'+13)) (pK ro K (puts (gM [v0,v1]) [(2,(ptr nx)),(4,(ptr (nx+1))),(5,a'),(6,v1),(7,b'),(8,d')]) c' (e'+1))
theorem aFC {ro:Ro}{v0 v1:Value}{h:T Obj}{nx:Nat}{K:KV} (hw:aEJ ro v0 v1 h nx K):aN Tryz.prog ro vV [v0,v1] h nx K:=bA (P:=Tryz.prog) (fn:=Tryz.f136) (by kernel_rfl) (by kernel_rfl) (by kernel_rfl) (Eq.mpr (by kernel_rfl) hw)
@[irreducible] def sT (ro:Ro) (K:KV):Env→T Obj→Nat→Prop:=fun e h nx=>∃ h22,Sub h22 h∧K (e 3) h22 (nx+2)
@[irreducible] def oG (ro:Ro) (Q:KE):Env→T Obj→Nat→Prop:=fun e h nx=>aB (aO .add (e 4) (Value.int IntKind.i64 1)) fun a'=>Q .normal (puts e [(18,(e 4)),(19,a'),(4,a')]) h (nx+3)
@[irreducible] def yC (ro:Ro):PT:=fun e h nx Q=>aB (aS 256 (e 1)) fun c'=>aB (load1 ro h c') fun d'=>aB (aO .lss (e 4) d') fun e'=>aR e' (aB (loadA ro h 257 (e 1)) fun h'=>aN Tryz.prog ro xY [h',(e 4)] h (nx+7) fun i' q' r'=>aN Tryz.prog ro vU [i'] q' (r'+1) fun a' j' b'=>aB (bH a') fun k'=>aB (aO .eql k' (Value.int IntKind.i64 0)) fun l'=>aR l' (aB (bR Tryz.prog a9 (b'+5) 1 [(0,(Value.int IntKind.u8 0))]) fun m'=>eQ j' (b'+5) m'.2 fun s'=>aB (cC Tryz.prog ro s' (b'+7) #[a9,a9] [(e 3),m'.1]) fun f'=>oG ro Q (puts e [(14,(e 4)),(15,c'),(16,d'),(17,e'),(20,h'),(21,(e 4)),(22,i'),(23,a'),(5,a'),(24,a'),(25,k'),(26,l'),(27,(e 3)),(28,m'.1),(29,f'.1),(3,f'.1)]) f'.2.1 (f'.2.2+1)) (aB (cM 1 a' (Value.int IntKind.i64 0)) fun o'=>aB (load1 ro j' o') fun p'=>aB (bR Tryz.prog a9 (b'+8) 1 [(0,p')]) fun n'=>eQ j' (b'+8) n'.2 fun t'=>aB (cC Tryz.prog ro t' (b'+10) #[a9,a9] [(e 3),n'.1]) fun g'=>oG ro Q (puts e [(14,(e 4)),(15,c'),(16,d'),(17,e'),(20,h'),(21,(e 4)),(22,i'),(23,a'),(5,a'),(24,a'),(25,k'),(26,l'),(30,(e 3)),(31,a'),(32,o'),(33,p'),(34,n'.1),(35,g'.1),(3,g'.1)]) g'.2.1 (g'.2.2+1))) (Q (.exit 0) (puts e [(14,(e 4)),(15,c'),(16,d'),(17,e')]) h (nx+4))
@[irreducible] def aC3 (ro:Ro) (v0:Value) (h:T Obj) (nx:Nat) (K:KV):Prop:=cT h nx (.cells (Value.cells v0) dN) fun h1=>aB (aS 256 (ptr nx)) fun e'=>aB (load1 ro h1 e') fun f'=>aB (aO .lss f' (Value.int IntKind.i64 1)) fun a'=>ifP a' false h1 (nx+6) (fun k5=>aB (aS 256 (ptr nx)) fun q'=>k5 q' h1 (nx+7)) fun g' h7 n8=>ifP a' false h7 n8 (fun r'=>aB (load1 ro h7 g') fun s'=>r' s' h7 (n8+1)) fun h' i' j'=>ifP a' false i' j' (fun t'=>aB (aO .gtr h' (Value.int IntKind.i64 256)) fun u'=>t' u' i' (j'+1)) fun k' l' m'=>aB (bO a' (Value.bool true) k') fun n'=>aR n' (∃ o',Sub o' l'∧K (Value.slice none 0 0) o' (m'+2)) (dT (yC ro) (puts (gM [v0]) [(1,(ptr nx)),(2,(Value.slice none 0 0)),(6,e'),(7,f'),(8,a'),(9,a'),(10,g'),(11,h'),(12,k'),(13,n'),(3,(Value.slice none 0 0)),(4,(Value.int IntKind.i64 0))]) l' (m'+3) fun v' b' c' d'=>exP v' (sT ro K b' c' d') (fun w'=>cO (Nat.beq w' 0) (sT ro K b' c' d') (False)) (∃ p',Sub p' c'∧K (b' 2) p' d'))
theorem aEK {ro:Ro}{v0:Value}{h:T Obj}{nx:Nat}{K:KV} (hw:aC3 ro v0 h nx K):aN Tryz.prog ro pF [v0] h nx K:=bA (P:=Tryz.prog) (fn:=Tryz.f147) (by kernel_rfl) (by kernel_rfl) (by kernel_rfl) (Eq.mpr (by kernel_rfl) hw)
@[irreducible] def fA (ro:Ro) (K:KV):Env→T Obj→Nat→Prop:=fun e h nx=>∃ h1,Sub h1 h∧K (Value.int IntKind.i64 (-1)) h1 (nx+1)
@[irreducible] def gS (ro:Ro):PT:=fun e h nx Q=>aB (aO .lss (e 8) (e 7)) fun a'=>aR a' (aB (cM 4 (e 0) (e 8)) fun b'=>aB (loadA ro h 4 b') fun c'=>xK (aN Tryz.prog ro) (e 1) [c'] h (nx+9) fun d' h7 n8=>aR d' (Q .ret (puts e [(9,a'),(10,(e 8)),(5,(e 8)),(11,(e 1)),(12,(e 0)),(13,(e 8)),(14,b'),(15,c'),(16,d'),(17,(e 8)),(4,(e 8))]) h7 (n8+2)) (aB (aO .add (e 8) (Value.int IntKind.i64 1)) fun e'=>Q .normal (puts e [(9,a'),(10,(e 8)),(5,(e 8)),(11,(e 1)),(12,(e 0)),(13,(e 8)),(14,b'),(15,c'),(16,d'),(18,e'),(8,e')]) h7 (n8+2))) (Q (.exit 0) (puts e [(9,a')]) h (nx+1))
@[irreducible] def iC (ro:Ro) (v0 v1:Value) (h:T Obj) (nx:Nat) (K:KV):Prop:=aB (bH v0) fun e'=>dT (gS ro) (puts (gM [v0,v1]) [(4,(Value.int IntKind.i64 0)),(6,v0),(7,e'),(8,(Value.int IntKind.i64 0))]) h (nx+4) fun f' a' b' c'=>exP f' (fA ro K a' b' c') (fun g'=>cO (Nat.beq g' 0) (fA ro K a' b' c') (False)) (∃ d',Sub d' b'∧K (a' 4) d' c')
theorem lE {ro:Ro}{v0 v1:Value}{h:T Obj}{nx:Nat}{K:KV} (hw:iC ro v0 v1 h nx K):aN Tryz.prog ro fD [v0,v1] h nx K:=bA (P:=Tryz.prog) (fn:=Tryz.f152) (by kernel_rfl) (by kernel_rfl) (by kernel_rfl) (Eq.mpr (by kernel_rfl) hw)
@[irreducible] def tV (ro:Ro) (K:KV):Env→T Obj→Nat→Prop:=fun e h nx=>∃ h13,Sub h13 h∧K (e 3) h13 (nx+2)
@[irreducible] def zQ (ro:Ro):PT:=fun e h nx Q=>aB (aO .lss (e 11) (e 10)) fun a'=>aR a' (aB (aO .mul (e 3) (Value.int IntKind.i64 3)) fun b'=>aB (aO .add (e 11) (Value.int IntKind.i64 1)) fun c'=>Q .normal (puts e [(12,a'),(13,(e 3)),(14,b'),(3,b'),(15,c'),(11,c')]) h (nx+6)) (Q (.exit 0) (puts e [(12,a')]) h (nx+1))
@[irreducible] def aDS (ro:Ro) (v0:Value) (h:T Obj) (nx:Nat) (K:KV):Prop:=aB (aO .lss v0 (Value.int IntKind.i64 0)) fun a'=>ifP a' false h (nx+4) (fun k2=>k2 v0 h (nx+5)) fun e' h4 n5=>ifP a' false h4 n5 (fun k6=>aB (aO .gtr e' (Value.int IntKind.i64 3)) fun j'=>k6 j' h4 (n5+1)) fun f' h8 n9=>aB (bO a' (Value.bool true) f') fun g'=>aR g' (∃ h',Sub h' h8∧K (Value.int IntKind.i64 0) h' (n9+2)) (dT (zQ ro) (puts (gM [v0]) [(2,(Value.int IntKind.i64 0)),(4,v0),(5,a'),(6,a'),(7,e'),(8,f'),(9,g'),(3,(Value.int IntKind.i64 1)),(10,v0),(11,(Value.int IntKind.i64 0))]) h8 (n9+4) fun k' b' c' d'=>exP k' (tV ro K b' c' d') (fun l'=>cO (Nat.beq l' 0) (tV ro K b' c' d') (False)) (∃ i',Sub i' c'∧K (b' 2) i' d'))
theorem aEm {ro:Ro}{v0:Value}{h:T Obj}{nx:Nat}{K:KV} (hw:aDS ro v0 h nx K):aN Tryz.prog ro vS [v0] h nx K:=bA (P:=Tryz.prog) (fn:=Tryz.f153) (by kernel_rfl) (by kernel_rfl) (by kernel_rfl) (Eq.mpr (by kernel_rfl) hw)
@[irreducible] def tX (ro:Ro) (K:KV):Env→T Obj→Nat→Prop:=fun e h nx=>∃ h1,Sub h1 h∧K (Value.bool true) h1 (nx+1)
@[irreducible] def zR (ro:Ro):PT:=fun e h nx Q=>aB (aO .lss (e 10) (e 9)) fun c'=>aR c' (aB (cM 1 (e 8) (e 10)) fun d'=>aB (load1 ro h d') fun a'=>aB (aO .leq a' (e 5)) fun b'=>ifP b' false h (nx+8) (fun k7=>k7 a' h (nx+9)) fun e' h9 i'=>ifP b' false h9 i' (fun o'=>o' (e 1) h9 (i'+1)) fun f' j' k'=>ifP b' false j' k' (fun p'=>aB (aO .geq e' f') fun q'=>p' q' j' (k'+1)) fun g' l' m'=>aB (bO b' (Value.bool true) g') fun h'=>aR h' (Q .ret (puts e [(11,c'),(12,d'),(13,a'),(7,a'),(14,a'),(15,(e 5)),(16,b'),(17,b'),(18,e'),(19,f'),(20,g'),(21,h'),(4,(Value.bool false))]) l' (m'+2)) (aB (aO .add (e 10) (Value.int IntKind.i64 1)) fun n'=>Q .normal (puts e [(11,c'),(12,d'),(13,a'),(7,a'),(14,a'),(15,(e 5)),(16,b'),(17,b'),(18,e'),(19,f'),(20,g'),(21,h'),(22,a'),(5,a'),(23,n'),(10,n')]) l' (m'+5))) (Q (.exit 0) (puts e [(11,c')]) h (nx+1))
@[irreducible] def aDV (ro:Ro) (v0 v1:Value) (h:T Obj) (nx:Nat) (K:KV):Prop:=aB (bH v0) fun e'=>dT (zR ro) (puts (gM [v0,v1]) [(4,(Value.bool false)),(5,(Value.int IntKind.i64 (-1))),(8,v0),(9,e'),(10,(Value.int IntKind.i64 0))]) h (nx+5) fun f' a' b' c'=>exP f' (tX ro K a' b' c') (fun g'=>cO (Nat.beq g' 0) (tX ro K a' b' c') (False)) (∃ d',Sub d' b'∧K (a' 4) d' c')
theorem aEo {ro:Ro}{v0 v1:Value}{h:T Obj}{nx:Nat}{K:KV} (hw:aDV ro v0 v1 h nx K):aN Tryz.prog ro rA [v0,v1] h nx K:=bA (P:=Tryz.prog) (fn:=Tryz.f154) (by kernel_rfl) (by kernel_rfl) (by kernel_rfl) (Eq.mpr (by kernel_rfl) hw)
@[irreducible] def hG (ro:Ro) (v0 v1:Value) (h:T Obj) (nx:Nat) (K:KV):Prop:=aN Tryz.prog ro fK [v0,v1] h (nx+4) fun a' h2 n3=>aB (aO .geq a' (Value.int IntKind.i64 0)) fun b'=>∃ h5,Sub h5 h2∧K b' h5 (n3+2)
theorem k9 {ro:Ro}{v0 v1:Value}{h:T Obj}{nx:Nat}{K:KV} (hw:hG ro v0 v1 h nx K):aN Tryz.prog ro eX [v0,v1] h nx K:=bA (P:=Tryz.prog) (fn:=Tryz.f155) (by kernel_rfl) (by kernel_rfl) (by kernel_rfl) (Eq.mpr (by kernel_rfl) hw)
@[irreducible] def pQ (ro:Ro) (v0 v1 v2:Value) (h:T Obj) (nx:Nat) (K:KV):Prop:=cT h nx (.cells (Value.cells v0) cE) fun h1=>aB (loadA ro h1 259 v1) fun a'=>aB (loadA ro h1 4 v2) fun b'=>aB (loadA ro h1 2 (ptr nx)) fun c'=>aN Tryz.prog ro mO [a',b',c'] h1 (nx+6) fun d' h6 n7=>aB (unV .not d') fun e'=>∃ h9,Sub h9 h6∧K e' h9 (n7+2)
theorem uR {ro:Ro}{v0 v1 v2:Value}{h:T Obj}{nx:Nat}{K:KV} (hw:pQ ro v0 v1 v2 h nx K):aN Tryz.prog ro fX [v0,v1,v2] h nx K:=bA (P:=Tryz.prog) (fn:=Tryz.f156) (by kernel_rfl) (by kernel_rfl) (by kernel_rfl) (Eq.mpr (by kernel_rfl) hw)
@[irreducible] def lG (ro:Ro) (K:KV):Env→T Obj→Nat→Prop:=fun e h nx=>∃ h118,Sub h118 h∧K (Value.bool true) h118 (nx+1)
@[irreducible] def pP (ro:Ro):PT:=fun e h nx Q=>aB (aO .lss (e 46) (e 45)) fun e'=>aR e' (aB (cM 1 (e 44) (e 46)) fun f'=>aB (load1 ro h f') fun b'=>aB (aO .lss b' (Value.int IntKind.u8 1)) fun d'=>ifP d' false h (nx+33) (fun as'=>as' b' h (nx+33)) fun g' G' H'=>ifP d' false G' H' (fun at'=>aB (aO .gtr g' (Value.int IntKind.u8 3)) fun au'=>at' au' G' H') fun h' I' J'=>aB (bO d' (Value.bool true) h') fun c'=>ifP c' false I' J' (fun av'=>av' b' I' J') fun i' K' L'=>ifP c' false K' L' (fun aw'=>aB (aO .neq i' (Value.int IntKind.u8 3)) fun ax'=>aw' ax' K' L') fun j' M' N'=>ifP c' false M' N' (fun ay'=>ay' j' M' N') fun a' O' P'=>ifP a' true O' P' (fun az'=>aB (aS 1 (e 4)) fun aA'=>az' aA' O' P') fun k' l' Q'=>ifP a' true l' Q' (fun aB'=>aB (load1 ro l' k') fun aC'=>aB' aC' l' Q') fun m' R' S'=>ifP a' true R' S' (fun aD'=>aB (aS 0 (e 3)) fun aE'=>aD' aE' R' S') fun n' T' U'=>ifP a' true T' U' (fun aF'=>aB (aS 258 n') fun aG'=>aF' aG' T' U') fun o' p' V'=>ifP a' true p' V' (fun aH'=>aB (load1 ro p' o') fun aI'=>aH' aI' p' V') fun q' W' X'=>ifP a' true W' X' (fun aJ'=>aB (aS 0 (e 5)) fun aK'=>aJ' aK' W' X') fun r' s' Y'=>ifP a' true s' Y' (fun aL'=>aB (load1 ro s' r') fun aM'=>aL' aM' s' Y') fun t' Z' aa'=>ifP a' true Z' aa' (fun aN'=>aB (cM 4 q' t') fun aO'=>aN' aO' Z' aa') fun u' ab' ac'=>ifP a' true ab' ac' (fun aP'=>aB (aS 1 u') fun aQ'=>aP' aQ' ab' ac') fun v' w' ad'=>ifP a' true w' ad' (fun aR'=>aB (load1 ro w' v') fun aS'=>aR' aS' w' ad') fun x' ae' af'=>ifP a' true ae' af' (fun aT'=>aT' (e 46) ae' af') fun y' ag' ah'=>ifP a' true ag' ah' (fun aU'=>aB (cM 1 x' y') fun aV'=>aU' aV' ag' ah') fun z' A' ai'=>ifP a' true A' ai' (fun aW'=>aB (load1 ro A' z') fun aX'=>aW' aX' A' ai') fun B' aj' ak'=>ifP a' true aj' ak' (fun aY'=>aN Tryz.prog ro gI [m',B'] aj' ak' fun aZ' a0' a1'=>aY' aZ' a0' a1') fun C' al' am'=>ifP a' true al' am' (fun a2'=>aB (unV .not C') fun a3'=>a2' a3' al' am') fun D' an' ao'=>ifP c' false an' ao' (fun a4'=>aB (bO a' D' (Value.bool false)) fun a5'=>a4' a5' an' ao') fun E' ap' aq'=>aB (bO c' (Value.bool true) E') fun F'=>aR F' (Q .ret (puts e [(47,e'),(48,(e 46)),(49,f'),(50,b'),(7,(e 46)),(8,b'),(51,b'),(52,d'),(53,d'),(54,g'),(55,h'),(56,c'),(57,c'),(58,i'),(59,j'),(60,a'),(61,k'),(62,m'),(63,n'),(64,o'),(65,q'),(66,r'),(67,t'),(68,u'),(69,v'),(70,x'),(71,y'),(72,z'),(73,B'),(74,C'),(75,D'),(76,E'),(77,F'),(6,(Value.bool false))]) ap' (aq'+1)) (aB (aO .add (e 46) (Value.int IntKind.i64 1)) fun ar'=>Q .normal (puts e [(47,e'),(48,(e 46)),(49,f'),(50,b'),(7,(e 46)),(8,b'),(51,b'),(52,d'),(53,d'),(54,g'),(55,h'),(56,c'),(57,c'),(58,i'),(59,j'),(60,a'),(61,k'),(62,m'),(63,n'),(64,o'),(65,q'),(66,r'),(67,t'),(68,u'),(69,v'),(70,x'),(71,y'),(72,z'),(73,B'),(74,C'),(75,D'),(76,E'),(77,F'),(78,ar'),(46,ar')]) ap' (aq'+2))) (Q (.exit 0) (puts e [(47,e')]) h (nx+1))
@[irreducible] def tD (ro:Ro) (v0 v1 v2:Value) (h:T Obj) (nx:Nat) (K:KV):Prop:=cT h nx (.cells (Value.cells v0) dZ) fun h1=>cT h1 (nx+1) (.cells (Value.cells v1) bD) fun h2=>cT h2 (nx+2) (.cells (Value.cells v2) cE) fun h3=>aB (aS 0 (ptr (nx+2))) fun m'=>aB (load1 ro h3 m') fun n'=>aB (aO .eql n' (Value.int IntKind.i64 (-1))) fun o'=>aR o' (aB (aS 1 (ptr (nx+2))) fun ay'=>aB (load1 ro h3 ay') fun az'=>aB (bH az') fun aA'=>aB (aO .eql aA' (Value.int IntKind.i64 0)) fun aB'=>∃ p',Sub p' h3∧K aB' p' (nx+12)) (aB (aS 0 (ptr (nx+2))) fun q'=>aB (load1 ro h3 q') fun r'=>aB (aO .lss r' (Value.int IntKind.i64 1)) fun b'=>ifP b' false h3 (nx+34) (fun aC'=>aB (aS 0 (ptr (nx+2))) fun aD'=>aC' aD' h3 (nx+34)) fun s' c' t'=>ifP b' false c' t' (fun aE'=>aB (load1 ro c' s') fun aF'=>aE' aF' c' t') fun u' v' w'=>ifP b' false v' w' (fun aG'=>aB (aS 0 (ptr nx)) fun aH'=>aG' aH' v' w') fun x' y' z'=>ifP b' false y' z' (fun aI'=>aB (aS 258 x') fun aJ'=>aI' aJ' y' z') fun A' d' B'=>ifP b' false d' B' (fun aK'=>aB (load1 ro d' A') fun aL'=>aK' aL' d' B') fun C' D' E'=>ifP b' false D' E' (fun aM'=>aB (bH C') fun aN'=>aM' aN' D' E') fun F' G' H'=>ifP b' false G' H' (fun aO'=>aB (aO .geq u' F') fun aP'=>aO' aP' G' H') fun I' J' K'=>aB (bO b' (Value.bool true) I') fun a'=>ifP a' false J' K' (fun aQ'=>aB (aS 1 (ptr (nx+2))) fun aR'=>aQ' aR' J' K') fun L' e' M'=>ifP a' false e' M' (fun aS'=>aB (load1 ro e' L') fun aT'=>aS' aT' e' M') fun N' O' P'=>ifP a' false O' P' (fun aU'=>aB (bH N') fun aV'=>aU' aV' O' P') fun Q' R' S'=>ifP a' false R' S' (fun aW'=>aB (aS 0 (ptr nx)) fun aX'=>aW' aX' R' S') fun T' U' V'=>ifP a' false U' V' (fun aY'=>aB (aS 258 T') fun aZ'=>aY' aZ' U' V') fun W' f' X'=>ifP a' false f' X' (fun a0'=>aB (load1 ro f' W') fun a1'=>a0' a1' f' X') fun Y' Z' aa'=>ifP a' false Z' aa' (fun a2'=>aB (aS 0 (ptr (nx+2))) fun a3'=>a2' a3' Z' aa') fun ab' g' ac'=>ifP a' false g' ac' (fun a4'=>aB (load1 ro g' ab') fun a5'=>a4' a5' g' ac') fun ad' ae' af'=>ifP a' false ae' af' (fun a6'=>aB (cM 4 Y' ad') fun a7'=>a6' a7' ae' af') fun ag' ah' ai'=>ifP a' false ah' ai' (fun a8'=>aB (aS 1 ag') fun a9'=>a8' a9' ah' ai') fun aj' h' ak'=>ifP a' false h' ak' (fun ba'=>aB (load1 ro h' aj') fun bb'=>ba' bb' h' ak') fun al' am' an'=>ifP a' false am' an' (fun bc'=>aB (bH al') fun bd'=>bc' bd' am' an') fun ao' ap' aq'=>ifP a' false ap' aq' (fun be'=>aB (aO .neq Q' ao') fun bf'=>be' bf' ap' aq') fun ar' i' as'=>aB (bO a' (Value.bool true) ar') fun at'=>aR at' (∃ au',Sub au' i'∧K (Value.bool false) au' (as'+1)) (aB (aS 1 (ptr (nx+2))) fun av'=>aB (load1 ro i' av') fun aw'=>aB (bH aw') fun bg'=>dT (pP ro) (puts (gM [v0,v1,v2]) [(3,(ptr nx)),(4,(ptr (nx+1))),(5,(ptr (nx+2))),(6,(Value.bool false)),(9,m'),(10,n'),(11,o'),(16,q'),(17,r'),(18,b'),(19,b'),(20,s'),(21,u'),(22,x'),(23,A'),(24,C'),(25,F'),(26,I'),(27,a'),(28,a'),(29,L'),(30,N'),(31,Q'),(32,T'),(33,W'),(34,Y'),(35,ab'),(36,ad'),(37,ag'),(38,aj'),(39,al'),(40,ao'),(41,ar'),(42,at'),(43,av'),(44,aw'),(45,bg'),(46,(Value.int IntKind.i64 0))]) i' (as'+4) fun bh' j' k' l'=>exP bh' (lG ro K j' k' l') (fun bi'=>cO (Nat.beq bi' 0) (lG ro K j' k' l') (False)) (∃ ax',Sub ax' k'∧K (j' 6) ax' l')))
theorem xJ {ro:Ro}{v0 v1 v2:Value}{h:T Obj}{nx:Nat}{K:KV} (hw:tD ro v0 v1 v2 h nx K):aN Tryz.prog ro mO [v0,v1,v2] h nx K:=bA (P:=Tryz.prog) (fn:=Tryz.f157) (by kernel_rfl) (by kernel_rfl) (by kernel_rfl) (Eq.mpr (by kernel_rfl) hw)
@[irreducible] def nO (ro:Ro) (v0 v1:Value) (h:T Obj) (nx:Nat) (K:KV):Prop:=aN Tryz.prog ro oB [v0,v1] h (nx+4) fun a' h2 n3=>aB (aO .geq a' (Value.int IntKind.i64 0)) fun b'=>∃ h5,Sub h5 h2∧K b' h5 (n3+2)
theorem s7 {ro:Ro}{v0 v1:Value}{h:T Obj}{nx:Nat}{K:KV} (hw:nO ro v0 v1 h nx K):aN Tryz.prog ro gI [v0,v1] h nx K:=bA (P:=Tryz.prog) (fn:=Tryz.f164) (by kernel_rfl) (by kernel_rfl) (by kernel_rfl) (Eq.mpr (by kernel_rfl) hw)
@[irreducible] def sX (ro:Ro) (K:KV):Env→T Obj→Nat→Prop:=fun e h nx=>∃ h1,Sub h1 h∧K (Value.bool true) h1 (nx+1)
@[irreducible] def yI (ro:Ro):PT:=fun e h nx Q=>aB (bH (e 0)) fun d'=>aB (aO .lss (e 5) d') fun e'=>aR e' (aB (cM 1 (e 0) (e 5)) fun f'=>aB (load1 ro h f') fun g'=>aB (aO .lss g' (Value.int IntKind.i64 0)) fun b'=>ifP b' false h (nx+33) (fun k7=>k7 (e 0) h (nx+33)) fun h' h9 E'=>ifP b' false h9 E' (fun ap'=>ap' (e 5) h9 E') fun i' F' G'=>ifP b' false F' G' (fun aq'=>aB (cM 1 h' i') fun ar'=>aq' ar' F' G') fun j' k' H'=>ifP b' false k' H' (fun as'=>aB (load1 ro k' j') fun at'=>as' at' k' H') fun l' I' J'=>ifP b' false I' J' (fun au'=>au' (e 1) I' J') fun m' K' L'=>ifP b' false K' L' (fun av'=>aB (aO .geq l' m') fun aw'=>av' aw' K' L') fun n' M' N'=>aB (bO b' (Value.bool true) n') fun c'=>ifP c' false M' N' (fun ax'=>ax' (e 5) M' N') fun o' O' P'=>ifP c' false O' P' (fun ay'=>aB (aO .gtr o' (Value.int IntKind.i64 0)) fun az'=>ay' az' O' P') fun p' Q' R'=>ifP c' false Q' R' (fun aA'=>aA' p' Q' R') fun a' S' T'=>ifP a' true S' T' (fun aB'=>aB' (e 0) S' T') fun q' U' V'=>ifP a' true U' V' (fun aC'=>aC' (e 5) U' V') fun r' W' X'=>ifP a' true W' X' (fun aD'=>aB (aO .sub r' (Value.int IntKind.i64 1)) fun aE'=>aD' aE' W' X') fun s' Y' Z'=>ifP a' true Y' Z' (fun aF'=>aB (cM 1 q' s') fun aG'=>aF' aG' Y' Z') fun t' u' aa'=>ifP a' true u' aa' (fun aH'=>aB (load1 ro u' t') fun aI'=>aH' aI' u' aa') fun v' ab' ac'=>ifP a' true ab' ac' (fun aJ'=>aJ' (e 0) ab' ac') fun w' ad' ae'=>ifP a' true ad' ae' (fun aK'=>aK' (e 5) ad' ae') fun x' af' ag'=>ifP a' true af' ag' (fun aL'=>aB (cM 1 w' x') fun aM'=>aL' aM' af' ag') fun y' z' ah'=>ifP a' true z' ah' (fun aN'=>aB (load1 ro z' y') fun aO'=>aN' aO' z' ah') fun A' ai' aj'=>ifP a' true ai' aj' (fun aP'=>aB (aO .geq v' A') fun aQ'=>aP' aQ' ai' aj') fun B' ak' al'=>ifP c' false ak' al' (fun aR'=>aB (bO a' B' (Value.bool false)) fun aS'=>aR' aS' ak' al') fun C' am' an'=>aB (bO c' (Value.bool true) C') fun D'=>aR D' (Q .ret (puts e [(6,(e 5)),(7,(e 0)),(8,d'),(9,e'),(12,(e 0)),(13,(e 5)),(14,f'),(15,g'),(16,b'),(17,b'),(18,h'),(19,i'),(20,j'),(21,l'),(22,m'),(23,n'),(24,c'),(25,c'),(26,o'),(27,p'),(28,a'),(29,q'),(30,r'),(31,s'),(32,t'),(33,v'),(34,w'),(35,x'),(36,y'),(37,A'),(38,B'),(39,C'),(40,D'),(4,(Value.bool false))]) am' (an'+1)) (aB (aO .add (e 5) (Value.int IntKind.i64 1)) fun ao'=>Q .normal (puts e [(6,(e 5)),(7,(e 0)),(8,d'),(9,e'),(12,(e 0)),(13,(e 5)),(14,f'),(15,g'),(16,b'),(17,b'),(18,h'),(19,i'),(20,j'),(21,l'),(22,m'),(23,n'),(24,c'),(25,c'),(26,o'),(27,p'),(28,a'),(29,q'),(30,r'),(31,s'),(32,t'),(33,v'),(34,w'),(35,x'),(36,y'),(37,A'),(38,B'),(39,C'),(40,D'),(10,(e 5)),(11,ao'),(5,ao')]) am' (an'+3))) (Q (.exit 0) (puts e [(6,(e 5)),(7,(e 0)),(8,d'),(9,e')]) h (nx+4))
@[irreducible] def aC9 (ro:Ro) (v0 v1:Value) (h:T Obj) (nx:Nat) (K:KV):Prop:=dT (yI ro) (puts (gM [v0,v1]) [(4,(Value.bool false)),(5,(Value.int IntKind.i64 0))]) h (nx+2) fun x104 e101 h102 n103=>exP x104 (sX ro K e101 h102 n103) (fun i105=>cO (Nat.beq i105 0) (sX ro K e101 h102 n103) (False)) (∃ h106,Sub h106 h102∧K (e101 4) h106 n103)
theorem aES {ro:Ro}{v0 v1:Value}{h:T Obj}{nx:Nat}{K:KV} (hw:aC9 ro v0 v1 h nx K):aN Tryz.prog ro pG [v0,v1] h nx K:=bA (P:=Tryz.prog) (fn:=Tryz.f166) (by kernel_rfl) (by kernel_rfl) (by kernel_rfl) (Eq.mpr (by kernel_rfl) hw)
@[irreducible] def uI (ro:Ro) (K:KV):Env→T Obj→Nat→Prop:=fun e h nx=>∃ h108,Sub h108 h∧K (Value.bool true) h108 (nx+1)
@[irreducible] def aAG (ro:Ro):PT:=fun e h nx Q=>aB (aS 1 (e 5)) fun d'=>aB (load1 ro h d') fun e'=>aB (bH e') fun f'=>aB (aO .lss (e 7) f') fun g'=>aR g' (aB (aS 1 (e 5)) fun h'=>aB (load1 ro h h') fun i'=>aB (cM 1 i' (e 7)) fun j'=>aB (load1 ro h j') fun k'=>aB (aO .lss k' (Value.int IntKind.u8 1)) fun c'=>ifP c' false h (nx+43) (fun aS'=>aB (aS 1 (e 5)) fun aT'=>aS' aT' h (nx+43)) fun l' m' W'=>ifP c' false m' W' (fun aU'=>aB (load1 ro m' l') fun aV'=>aU' aV' m' W') fun n' X' Y'=>ifP c' false X' Y' (fun aW'=>aW' (e 7) X' Y') fun o' Z' aa'=>ifP c' false Z' aa' (fun aX'=>aB (cM 1 n' o') fun aY'=>aX' aY' Z' aa') fun p' q' ab'=>ifP c' false q' ab' (fun aZ'=>aB (load1 ro q' p') fun a0'=>aZ' a0' q' ab') fun r' ac' ad'=>ifP c' false ac' ad' (fun a1'=>aB (aO .gtr r' (Value.int IntKind.u8 3)) fun a2'=>a1' a2' ac' ad') fun s' ae' af'=>aB (bO c' (Value.bool true) s') fun b'=>ifP b' false ae' af' (fun a3'=>aB (aS 1 (e 5)) fun a4'=>a3' a4' ae' af') fun t' u' ag'=>ifP b' false u' ag' (fun a5'=>aB (load1 ro u' t') fun a6'=>a5' a6' u' ag') fun v' ah' ai'=>ifP b' false ah' ai' (fun a7'=>a7' (e 7) ah' ai') fun w' aj' ak'=>ifP b' false aj' ak' (fun a8'=>aB (cM 1 v' w') fun a9'=>a8' a9' aj' ak') fun x' y' al'=>ifP b' false y' al' (fun ba'=>aB (load1 ro y' x') fun bb'=>ba' bb' y' al') fun z' am' an'=>ifP b' false am' an' (fun bc'=>aB (aO .neq z' (Value.int IntKind.u8 3)) fun bd'=>bc' bd' am' an') fun A' ao' ap'=>ifP b' false ao' ap' (fun be'=>be' A' ao' ap') fun a' aq' ar'=>ifP a' true aq' ar' (fun bf'=>aB (aS 1 (e 4)) fun bg'=>bf' bg' aq' ar') fun B' C' as'=>ifP a' true C' as' (fun bh'=>aB (load1 ro C' B') fun bi'=>bh' bi' C' as') fun D' at' au'=>ifP a' true at' au' (fun bj'=>aB (aS 258 (e 3)) fun bk'=>bj' bk' at' au') fun E' F' av'=>ifP a' true F' av' (fun bl'=>aB (load1 ro F' E') fun bm'=>bl' bm' F' av') fun G' aw' ax'=>ifP a' true aw' ax' (fun bn'=>aB (aS 0 (e 5)) fun bo'=>bn' bo' aw' ax') fun H' I' ay'=>ifP a' true I' ay' (fun bp'=>aB (load1 ro I' H') fun bq'=>bp' bq' I' ay') fun J' az' aA'=>ifP a' true az' aA' (fun br'=>aB (cM 4 G' J') fun bs'=>br' bs' az' aA') fun K' aB' aC'=>ifP a' true aB' aC' (fun bt'=>aB (aS 1 K') fun bu'=>bt' bu' aB' aC') fun L' M' aD'=>ifP a' true M' aD' (fun bv'=>aB (load1 ro M' L') fun bw'=>bv' bw' M' aD') fun N' aE' aF'=>ifP a' true aE' aF' (fun bx'=>bx' (e 7) aE' aF') fun O' aG' aH'=>ifP a' true aG' aH' (fun by'=>aB (cM 1 N' O') fun bz'=>by' bz' aG' aH') fun P' Q' aI'=>ifP a' true Q' aI' (fun bA'=>aB (load1 ro Q' P') fun bB'=>bA' bB' Q' aI') fun R' aJ' aK'=>ifP a' true aJ' aK' (fun bC'=>aN Tryz.prog ro aA7 [D',R'] aJ' aK' fun bD' bE' bF'=>bC' bD' bE' bF') fun S' aL' aM'=>ifP a' true aL' aM' (fun bG'=>aB (unV .not S') fun bH'=>bG' bH' aL' aM') fun T' aN' aO'=>ifP b' false aN' aO' (fun bI'=>aB (bO a' T' (Value.bool false)) fun bJ'=>bI' bJ' aN' aO') fun U' aP' aQ'=>aB (bO b' (Value.bool true) U') fun V'=>aR V' (Q .ret (puts e [(40,(e 7)),(41,d'),(42,e'),(43,f'),(44,g'),(47,h'),(48,i'),(49,(e 7)),(50,j'),(51,k'),(52,c'),(53,c'),(54,l'),(55,n'),(56,o'),(57,p'),(58,r'),(59,s'),(60,b'),(61,b'),(62,t'),(63,v'),(64,w'),(65,x'),(66,z'),(67,A'),(68,a'),(69,B'),(70,D'),(71,E'),(72,G'),(73,H'),(74,J'),(75,K'),(76,L'),(77,N'),(78,O'),(79,P'),(80,R'),(81,S'),(82,T'),(83,U'),(84,V'),(6,(Value.bool false))]) aP' (aQ'+1)) (aB (aO .add (e 7) (Value.int IntKind.i64 1)) fun aR'=>Q .normal (puts e [(40,(e 7)),(41,d'),(42,e'),(43,f'),(44,g'),(47,h'),(48,i'),(49,(e 7)),(50,j'),(51,k'),(52,c'),(53,c'),(54,l'),(55,n'),(56,o'),(57,p'),(58,r'),(59,s'),(60,b'),(61,b'),(62,t'),(63,v'),(64,w'),(65,x'),(66,z'),(67,A'),(68,a'),(69,B'),(70,D'),(71,E'),(72,G'),(73,H'),(74,J'),(75,K'),(76,L'),(77,N'),(78,O'),(79,P'),(80,R'),(81,S'),(82,T'),(83,U'),(84,V'),(45,(e 7)),(46,aR'),(7,aR')]) aP' (aQ'+3))) (Q (.exit 0) (puts e [(40,(e 7)),(41,d'),(42,e'),(43,f'),(44,g')]) h (nx+5))
@[irreducible] def aER (ro:Ro) (v0 v1 v2:Value) (h:T Obj) (nx:Nat) (K:KV):Prop:=cT h nx (.cells (Value.cells v0) bK) fun h1=>cT h1 (nx+1) (.cells (Value.cells v1) bD) fun h2=>cT h2 (nx+2) (.cells (Value.cells v2) cE) fun h3=>aB (aS 0 (ptr (nx+2))) fun l'=>aB (load1 ro h3 l') fun m'=>aB (aO .eql m' (Value.int IntKind.i64 (-1))) fun n'=>aR n' (aB (aS 1 (ptr (nx+2))) fun aq'=>aB (load1 ro h3 aq') fun ar'=>aB (bH ar') fun as'=>aB (aO .eql as' (Value.int IntKind.i64 0)) fun at'=>∃ o',Sub o' h3∧K at' o' (nx+12)) (aB (aS 0 (ptr (nx+2))) fun p'=>aB (load1 ro h3 p') fun q'=>aB (aO .lss q' (Value.int IntKind.i64 1)) fun b'=>ifP b' false h3 (nx+32) (fun au'=>aB (aS 0 (ptr (nx+2))) fun av'=>au' av' h3 (nx+32)) fun r' c' s'=>ifP b' false c' s' (fun aw'=>aB (load1 ro c' r') fun ax'=>aw' ax' c' s') fun t' u' v'=>ifP b' false u' v' (fun ay'=>aB (aS 258 (ptr nx)) fun az'=>ay' az' u' v') fun w' d' x'=>ifP b' false d' x' (fun aA'=>aB (load1 ro d' w') fun aB'=>aA' aB' d' x') fun y' z' A'=>ifP b' false z' A' (fun aC'=>aB (bH y') fun aD'=>aC' aD' z' A') fun B' C' D'=>ifP b' false C' D' (fun aE'=>aB (aO .geq t' B') fun aF'=>aE' aF' C' D') fun E' F' G'=>aB (bO b' (Value.bool true) E') fun a'=>ifP a' false F' G' (fun aG'=>aB (aS 1 (ptr (nx+2))) fun aH'=>aG' aH' F' G') fun H' e' I'=>ifP a' false e' I' (fun aI'=>aB (load1 ro e' H') fun aJ'=>aI' aJ' e' I') fun J' K' L'=>ifP a' false K' L' (fun aK'=>aB (bH J') fun aL'=>aK' aL' K' L') fun M' N' O'=>ifP a' false N' O' (fun aM'=>aB (aS 258 (ptr nx)) fun aN'=>aM' aN' N' O') fun P' f' Q'=>ifP a' false f' Q' (fun aO'=>aB (load1 ro f' P') fun aP'=>aO' aP' f' Q') fun R' S' T'=>ifP a' false S' T' (fun aQ'=>aB (aS 0 (ptr (nx+2))) fun aR'=>aQ' aR' S' T') fun U' g' V'=>ifP a' false g' V' (fun aS'=>aB (load1 ro g' U') fun aT'=>aS' aT' g' V') fun W' X' Y'=>ifP a' false X' Y' (fun aU'=>aB (cM 4 R' W') fun aV'=>aU' aV' X' Y') fun Z' aa' ab'=>ifP a' false aa' ab' (fun aW'=>aB (aS 1 Z') fun aX'=>aW' aX' aa' ab') fun ac' h' ad'=>ifP a' false h' ad' (fun aY'=>aB (load1 ro h' ac') fun aZ'=>aY' aZ' h' ad') fun ae' af' ag'=>ifP a' false af' ag' (fun a0'=>aB (bH ae') fun a1'=>a0' a1' af' ag') fun ah' ai' aj'=>ifP a' false ai' aj' (fun a2'=>aB (aO .neq M' ah') fun a3'=>a2' a3' ai' aj') fun ak' al' am'=>aB (bO a' (Value.bool true) ak') fun an'=>aR an' (∃ ao',Sub ao' al'∧K (Value.bool false) ao' (am'+1)) (dT (aAG ro) (puts (gM [v0,v1,v2]) [(3,(ptr nx)),(4,(ptr (nx+1))),(5,(ptr (nx+2))),(6,(Value.bool false)),(8,l'),(9,m'),(10,n'),(15,p'),(16,q'),(17,b'),(18,b'),(19,r'),(20,t'),(21,w'),(22,y'),(23,B'),(24,E'),(25,a'),(26,a'),(27,H'),(28,J'),(29,M'),(30,P'),(31,R'),(32,U'),(33,W'),(34,Z'),(35,ac'),(36,ae'),(37,ah'),(38,ak'),(39,an'),(7,(Value.int IntKind.i64 0))]) al' (am'+1) fun a4' i' j' k'=>exP a4' (uI ro K i' j' k') (fun a5'=>cO (Nat.beq a5' 0) (uI ro K i' j' k') (False)) (∃ ap',Sub ap' j'∧K (i' 6) ap' k')))
theorem aFJ {ro:Ro}{v0 v1 v2:Value}{h:T Obj}{nx:Nat}{K:KV} (hw:aER ro v0 v1 v2 h nx K):aN Tryz.prog ro vW [v0,v1,v2] h nx K:=bA (P:=Tryz.prog) (fn:=Tryz.f167) (by kernel_rfl) (by kernel_rfl) (by kernel_rfl) (Eq.mpr (by kernel_rfl) hw)
@[irreducible] def uH (ro:Ro) (K:KV):Env→T Obj→Nat→Prop:=fun e h nx=>∃ h2,Sub h2 h∧K (e 3) h2 (nx+2)
@[irreducible] def pJ (ro:Ro) (Q:KE):Env→T Obj→Nat→Prop:=fun e h nx=>aB (aO .add (e 4) (Value.int IntKind.i64 1)) fun a'=>Q .normal (puts e [(7,(e 4)),(8,a'),(4,a')]) h (nx+3)
@[irreducible] def aAE (ro:Ro):PT:=fun e h nx Q=>aB (aO .lss (e 4) (Value.int IntKind.i64 256)) fun a'=>aR a' (aB (loadA ro h 4 (e 1)) fun c'=>aB (wO .u8 (e 4)) fun d'=>aN Tryz.prog ro tM [c',d'] h (nx+6) fun e' h8 n9=>aR e' (aB (wO .u8 (e 4)) fun g'=>aB (bR Tryz.prog a9 (n9+3) 1 [(0,g')]) fun f'=>eQ h8 (n9+3) f'.2 fun h'=>aB (cC Tryz.prog ro h' (n9+5) #[a9,a9] [(e 3),f'.1]) fun b'=>pJ ro Q (puts e [(5,(e 4)),(6,a'),(9,c'),(10,(e 4)),(11,d'),(12,e'),(13,(e 3)),(14,(e 4)),(15,g'),(16,f'.1),(17,b'.1),(3,b'.1)]) b'.2.1 (b'.2.2+1)) (pJ ro Q (puts e [(5,(e 4)),(6,a'),(9,c'),(10,(e 4)),(11,d'),(12,e')]) h8 n9)) (Q (.exit 0) (puts e [(5,(e 4)),(6,a')]) h (nx+2))
@[irreducible] def aEI (ro:Ro) (v0:Value) (h:T Obj) (nx:Nat) (K:KV):Prop:=cT h nx (.cells (Value.cells v0) eB) fun h1=>dT (aAE ro) (puts (gM [v0]) [(1,(ptr nx)),(2,(Value.slice none 0 0)),(3,(Value.slice none 0 0)),(4,(Value.int IntKind.i64 0))]) h1 (nx+4) fun x17 e14 h15 n16=>exP x17 (uH ro K e14 h15 n16) (fun i18=>cO (Nat.beq i18 0) (uH ro K e14 h15 n16) (False)) (∃ h19,Sub h19 h15∧K (e14 2) h19 n16)
theorem aFB {ro:Ro}{v0:Value}{h:T Obj}{nx:Nat}{K:KV} (hw:aEI ro v0 h nx K):aN Tryz.prog ro vU [v0] h nx K:=bA (P:=Tryz.prog) (fn:=Tryz.f178) (by kernel_rfl) (by kernel_rfl) (by kernel_rfl) (Eq.mpr (by kernel_rfl) hw)
@[irreducible] def wC (ro:Ro) (K:KV):Env→T Obj→Nat→Prop:=fun e h nx=>aN Tryz.prog ro aA6 [(e 5)] h (nx+2) fun a' h5 n6=>aB (bV 4 h5 (e 4) a') fun h7=>aB (loadA ro h7 4 (e 4)) fun r8=>∃ h9,Sub h9 h7∧K r8 h9 (n6+1)
@[irreducible] def rH (ro:Ro) (Q:KE):Env→T Obj→Nat→Prop:=fun e h nx=>aB (aO .add (e 6) (Value.int IntKind.i64 1)) fun a'=>Q .normal (puts e [(9,(e 6)),(10,a'),(6,a')]) h (nx+3)
@[irreducible] def aBW (ro:Ro):PT:=fun e h nx Q=>aB (aO .lss (e 6) (Value.int IntKind.i64 256)) fun a'=>aR a' (aB (aS 0 (e 2)) fun c'=>aB (ixArr 256 1 c' (e 6)) fun d'=>aB (load1 ro h d') fun e'=>aB (wO .i64 e') fun f'=>aB (aO .eql f' (e 1)) fun g'=>aR g' (aB (wO .u8 (e 6)) fun i'=>aB (bR Tryz.prog a9 (nx+12) 1 [(0,i')]) fun h'=>eQ h (nx+12) h'.2 fun j'=>aB (cC Tryz.prog ro j' (nx+14) #[a9,a9] [(e 5),h'.1]) fun b'=>rH ro Q (puts e [(7,(e 6)),(8,a'),(11,(e 6)),(12,c'),(13,d'),(14,e'),(15,f'),(16,(e 1)),(17,g'),(18,(e 5)),(19,(e 6)),(20,i'),(21,h'.1),(22,b'.1),(5,b'.1)]) b'.2.1 (b'.2.2+1)) (rH ro Q (puts e [(7,(e 6)),(8,a'),(11,(e 6)),(12,c'),(13,d'),(14,e'),(15,f'),(16,(e 1)),(17,g')]) h (nx+9))) (Q (.exit 0) (puts e [(7,(e 6)),(8,a')]) h (nx+2))
@[irreducible] def aFr (ro:Ro) (v0 v1:Value) (h:T Obj) (nx:Nat) (K:KV):Prop:=cT h nx (.cells (Value.cells v0) dN) fun h1=>aB (zer Tryz.prog eB) fun z2=>cT h1 (nx+1) (.cells z2.cells eB) fun h3=>dT (aBW ro) (puts (gM [v0,v1]) [(2,(ptr nx)),(4,(ptr (nx+1))),(5,(Value.slice none 0 0)),(6,(Value.int IntKind.i64 0))]) h3 (nx+4) fun x24 e21 h22 n23=>exP x24 (wC ro K e21 h22 n23) (fun i25=>cO (Nat.beq i25 0) (wC ro K e21 h22 n23) (False)) (aB (loadA ro h22 4 (e21 4)) fun r26=>∃ h27,Sub h27 h22∧K r26 h27 n23)
theorem aGq {ro:Ro}{v0 v1:Value}{h:T Obj}{nx:Nat}{K:KV} (hw:aFr ro v0 v1 h nx K):aN Tryz.prog ro xY [v0,v1] h nx K:=bA (P:=Tryz.prog) (fn:=Tryz.f179) (by kernel_rfl) (by kernel_rfl) (by kernel_rfl) (Eq.mpr (by kernel_rfl) hw)
@[irreducible] def yH (ro:Ro) (K:KV):Env→T Obj→Nat→Prop:=fun e h nx=>∃ h1,Sub h1 h∧K (Value.bool false) h1 (nx+1)
@[irreducible] def aC8 (ro:Ro):PT:=fun e h nx Q=>aB (bH (e 0)) fun a'=>aB (aO .lss (e 5) a') fun b'=>aR b' (aB (cM 1 (e 0) (e 5)) fun c'=>aB (load1 ro h c') fun d'=>aB (aO .eql d' (e 1)) fun e'=>aR e' (Q .ret (puts e [(6,(e 5)),(7,(e 0)),(8,a'),(9,b'),(12,(e 0)),(13,(e 5)),(14,c'),(15,d'),(16,(e 1)),(17,e'),(4,(Value.bool true))]) h (nx+11)) (aB (aO .add (e 5) (Value.int IntKind.i64 1)) fun f'=>Q .normal (puts e [(6,(e 5)),(7,(e 0)),(8,a'),(9,b'),(12,(e 0)),(13,(e 5)),(14,c'),(15,d'),(16,(e 1)),(17,e'),(10,(e 5)),(11,f'),(5,f')]) h (nx+13))) (Q (.exit 0) (puts e [(6,(e 5)),(7,(e 0)),(8,a'),(9,b')]) h (nx+4))
@[irreducible] def aI3 (ro:Ro) (v0 v1:Value) (h:T Obj) (nx:Nat) (K:KV):Prop:=dT (aC8 ro) (puts (gM [v0,v1]) [(4,(Value.bool false)),(5,(Value.int IntKind.i64 0))]) h (nx+2) fun x11 e8 h9 n10=>exP x11 (yH ro K e8 h9 n10) (fun i12=>cO (Nat.beq i12 0) (yH ro K e8 h9 n10) (False)) (∃ h13,Sub h13 h9∧K (e8 4) h13 n10)
theorem aI4 {ro:Ro}{v0 v1:Value}{h:T Obj}{nx:Nat}{K:KV} (hw:aI3 ro v0 v1 h nx K):aN Tryz.prog ro aA7 [v0,v1] h nx K:=bA (P:=Tryz.prog) (fn:=Tryz.f180) (by kernel_rfl) (by kernel_rfl) (by kernel_rfl) (Eq.mpr (by kernel_rfl) hw)
@[irreducible] def fF (ro:Ro) (K:KV):Env→T Obj→Nat→Prop:=fun e h nx=>∃ h1,Sub h1 h∧K (Value.int IntKind.i64 (-1)) h1 (nx+1)
@[irreducible] def hJ (ro:Ro):PT:=fun e h nx Q=>aB (aO .lss (e 8) (e 7)) fun a'=>aR a' (aB (cM 2 (e 0) (e 8)) fun b'=>aB (loadA ro h 2 b') fun c'=>xK (aN Tryz.prog ro) (e 1) [c'] h (nx+9) fun d' h7 n8=>aR d' (Q .ret (puts e [(9,a'),(10,(e 8)),(5,(e 8)),(11,(e 1)),(12,(e 0)),(13,(e 8)),(14,b'),(15,c'),(16,d'),(17,(e 8)),(4,(e 8))]) h7 (n8+2)) (aB (aO .add (e 8) (Value.int IntKind.i64 1)) fun e'=>Q .normal (puts e [(9,a'),(10,(e 8)),(5,(e 8)),(11,(e 1)),(12,(e 0)),(13,(e 8)),(14,b'),(15,c'),(16,d'),(18,e'),(8,e')]) h7 (n8+2))) (Q (.exit 0) (puts e [(9,a')]) h (nx+1))
@[irreducible] def iV (ro:Ro) (v0 v1:Value) (h:T Obj) (nx:Nat) (K:KV):Prop:=aB (bH v0) fun e'=>dT (hJ ro) (puts (gM [v0,v1]) [(4,(Value.int IntKind.i64 0)),(6,v0),(7,e'),(8,(Value.int IntKind.i64 0))]) h (nx+4) fun f' a' b' c'=>exP f' (fF ro K a' b' c') (fun g'=>cO (Nat.beq g' 0) (fF ro K a' b' c') (False)) (∃ d',Sub d' b'∧K (a' 4) d' c')
theorem mI {ro:Ro}{v0 v1:Value}{h:T Obj}{nx:Nat}{K:KV} (hw:iV ro v0 v1 h nx K):aN Tryz.prog ro fK [v0,v1] h nx K:=bA (P:=Tryz.prog) (fn:=Tryz.f182) (by kernel_rfl) (by kernel_rfl) (by kernel_rfl) (Eq.mpr (by kernel_rfl) hw)
@[irreducible] def kG (ro:Ro) (K:KV):Env→T Obj→Nat→Prop:=fun e h nx=>∃ h1,Sub h1 h∧K (Value.int IntKind.i64 (-1)) h1 (nx+1)
@[irreducible] def nP (ro:Ro):PT:=fun e h nx Q=>aB (aO .lss (e 8) (e 7)) fun a'=>aR a' (aB (cM 1 (e 0) (e 8)) fun b'=>aB (load1 ro h b') fun c'=>aB (aO .eql (e 1) c') fun d'=>aR d' (Q .ret (puts e [(9,a'),(10,(e 8)),(5,(e 8)),(11,(e 1)),(12,(e 0)),(13,(e 8)),(14,b'),(15,c'),(16,d'),(17,(e 8)),(4,(e 8))]) h (nx+11)) (aB (aO .add (e 8) (Value.int IntKind.i64 1)) fun e'=>Q .normal (puts e [(9,a'),(10,(e 8)),(5,(e 8)),(11,(e 1)),(12,(e 0)),(13,(e 8)),(14,b'),(15,c'),(16,d'),(18,e'),(8,e')]) h (nx+11))) (Q (.exit 0) (puts e [(9,a')]) h (nx+1))
@[irreducible] def qB (ro:Ro) (v0 v1:Value) (h:T Obj) (nx:Nat) (K:KV):Prop:=aB (bH v0) fun c'=>dT (nP ro) (puts (gM [v0,v1]) [(4,(Value.int IntKind.i64 0)),(6,v0),(7,c'),(8,(Value.int IntKind.i64 0))]) h (nx+4) fun d' e8 h9 a'=>exP d' (kG ro K e8 h9 a') (fun e'=>cO (Nat.beq e' 0) (kG ro K e8 h9 a') (False)) (∃ b',Sub b' h9∧K (e8 4) b' a')
theorem vI {ro:Ro}{v0 v1:Value}{h:T Obj}{nx:Nat}{K:KV} (hw:qB ro v0 v1 h nx K):aN Tryz.prog ro oB [v0,v1] h nx K:=bA (P:=Tryz.prog) (fn:=Tryz.f187) (by kernel_rfl) (by kernel_rfl) (by kernel_rfl) (Eq.mpr (by kernel_rfl) hw)
@[irreducible] def tO (ro:Ro) (K:KV):Env→T Obj→Nat→Prop:=fun e h nx=>aB (loadA ro h 4 (e 3)) fun b'=>aB (bV 4 h (e 2) b') fun h8=>aB (loadA ro h8 4 (e 2)) fun r9=>∃ a',Sub a' h8∧K r9 a' (nx+2)
@[irreducible] def aC2 (ro:Ro):PT:=fun e h nx Q=>aB (bH (e 0)) fun a'=>aB (aO .lss (e 4) a') fun b'=>aR b' (aB (loadA ro h 4 (e 3)) fun c'=>aB (cM 1 (e 0) (e 4)) fun d'=>aB (load1 ro h d') fun e'=>aN Tryz.prog ro vV [c',e'] h (nx+11) fun f' h' i'=>aB (bV 4 h' (e 3) f') fun j'=>aB (aO .add (e 4) (Value.int IntKind.i64 1)) fun g'=>Q .normal (puts e [(6,(e 4)),(7,(e 0)),(8,a'),(9,b'),(12,c'),(13,(e 0)),(14,(e 4)),(15,d'),(16,e'),(17,f'),(10,(e 4)),(11,g'),(4,g')]) j' (i'+3)) (Q (.exit 0) (puts e [(6,(e 4)),(7,(e 0)),(8,a'),(9,b')]) h (nx+4))
@[irreducible] def aI0 (ro:Ro) (v0:Value) (h:T Obj) (nx:Nat) (K:KV):Prop:=aB (zer Tryz.prog eB) fun z1=>cT h nx (.cells z1.cells eB) fun h2=>aB (fJ Tryz.prog eB []) fun d'=>aB (zer Tryz.prog eB) fun z4=>cT h2 (nx+2) (.cells z4.cells eB) fun h5=>aB (bV 4 h5 (ptr (nx+2)) d') fun h6=>dT (aC2 ro) (puts (gM [v0]) [(2,(ptr nx)),(5,d'),(3,(ptr (nx+2))),(4,(Value.int IntKind.i64 0))]) h6 (nx+5) fun f' b' a' c'=>exP f' (tO ro K b' a' c') (fun g'=>cO (Nat.beq g' 0) (tO ro K b' a' c') (False)) (aB (loadA ro a' 4 (b' 2)) fun h'=>∃ e',Sub e' a'∧K h' e' c')
theorem aI1 {ro:Ro}{v0:Value}{h:T Obj}{nx:Nat}{K:KV} (hw:aI0 ro v0 h nx K):aN Tryz.prog ro aA6 [v0] h nx K:=bA (P:=Tryz.prog) (fn:=Tryz.f192) (by kernel_rfl) (by kernel_rfl) (by kernel_rfl) (Eq.mpr (by kernel_rfl) hw)
end V
end Go.Proofs.YtcaccnneblghgaaGreat
noncomputable section
namespace Go.Proofs.YtcaccnneblghgaaGreat
namespace V
theorem xM {ro:Ro}{h h':T Obj}{a:Addr}{n:Nat}{l:List Value} (hs:Sub h h') (hc:cellsAt ro h a n=some l):cellsAt ro h' a n=some l:=by
 unfold cellsAt at hc ⊢
 cases hsp:a.spot with
 | none=>rw[hsp] at hc; exact hc
 | some z =>
  rw[hsp] at hc
  simp only at hc ⊢
  cases hg:h.get a.block with
  | none=>rw[hg] at hc; cases hc
  | some o=>rw[hg] at hc; rw[hs _ _ hg]; exact hc
theorem yQ {ro:Ro}:∀ {n:Nat}{a:Addr}{l:List Value},roCells ro a n=some l→l.length=n
 | 0,a,l,h=>by cases h; rfl
 | n+1,a,l,h=>by
  obtain⟨v,h1,h⟩:=aM h
  obtain⟨r,h2,h⟩:=aM h
  cases h
  simp[yQ h2]
theorem wF {ro:Ro}:∀ {off n k:Nat}{a:Addr}{l:List Value},roCells ro a n=some l→a.spot=none→off+k≤n→roCells ro ⟨a.block,a.off+off,none⟩ k=some ((l.drop off).take k)
 | 0,n,0,a,l,h,hs,hk=>by simp[roCells]
 | 0,0,k+1,a,l,h,hs,hk=>by omega
 | 0,n+1,k+1,a,l,h,hs,hk=>by
  obtain⟨v,h1,h⟩:=aM h
  obtain⟨r,h2,h⟩:=aM h
  cases h
  have ih:=wF (off:=0) (k:=k) h2 rfl (by omega)
  have ha:(⟨a.block,a.off+0,none⟩:Addr)=a:=by cases a; simp_all
  rw[ha]
  simp only[roCells,h1,Option.bind_some]
  simp only[Nat.add_zero] at ih
  rw[ih]; simp
 | off+1,0,k,a,l,h,hs,hk=>by omega
 | off+1,n+1,k,a,l,h,hs,hk=>by
  obtain⟨v,h1,h⟩:=aM h
  obtain⟨r,h2,h⟩:=aM h
  cases h
  have ih:=wF (off:=off) (k:=k) h2 rfl (by omega)
  rw[show a.off+(off+1)=a.off+1+off by omega,List.drop_succ_cons]
  exact ih
theorem aE0 {ro:Ro}:∀ {l:List Value}{a:Addr},a.spot=none→(∀ j x,l[j]?=some x→ro ⟨a.block,a.off+j,none⟩=some x)→roCells ro a l.length=some l
 | [],a,hs,h=>rfl
 | v::l,a,hs,h=>by
  have ha:(⟨a.block,a.off+0,none⟩:Addr)=a:=by cases a; simp_all
  have h0:=h 0 v rfl
  rw[ha] at h0
  have ih:=aE0 (l:=l) (a:=⟨a.block,a.off+1,none⟩) rfl fun j x hx=>by
   have:=h (j+1) x (by simpa using hx)
   rw[show a.off+1+j=a.off+(j+1) by omega]; exact this
  simp[roCells,h0,ih]
theorem nT {ro:Ro}{h:T Obj}{a:Addr}{n off k:Nat}{l:List Value} (hc:cellsAt ro h a n=some l) (hk:off+k≤n):cellsAt ro h (elt a off) k=some ((l.drop off).take k):=by
 obtain⟨b,o,s⟩:=a
 cases s with
 | none=>exact wF (a:=⟨b,o,none⟩) hc rfl hk
 | some z =>
  rw[nJ] at hc
  obtain⟨c,h1,h2⟩:=aM hc
  split at h2
  ·rename_i hle
   cases h2
   show cellsAt ro h ⟨b,o+off,some 0⟩ k=_
   rw[nJ,h1]
   simp only[Option.bind_some]
   rw[if_pos (by omega),List.drop_take,List.drop_drop,List.take_take,Nat.min_eq_left (by omega)]
  ·cases h2
theorem mA {z:Nat}:∀ {l:List (List Value)},(∀ x∈l,x.length=z)→l.flatten.length=l.length*z∧∀ i x,l[i]?=some x→(l.flatten.drop (i*z)).take z=x
 | [],_=>⟨by simp,fun i x hx=>by simp at hx⟩
 | y::r,hz=>by
  have hy:=hz y (by simp)
  obtain⟨h1,h2⟩:=mA (l:=r) fun x hx=>hz x (by simp[hx])
  refine⟨by simp[h1,hy,Nat.add_mul]; omega,?_⟩
  intro i x hx
  cases i with
  | zero=>simp at hx; subst hx; subst hy; simp
  | succ i =>
   have:=h2 i x (by simpa using hx)
   rw[Nat.succ_mul,show i*z+z=y.length+i*z by omega,List.flatten_cons,List.drop_append,List.drop_eq_nil_of_le (Nat.le_add_right _ _)]
   simpa using this
theorem aBE {z:Nat}:∀ {l:List (List Value)} (n:Nat),(∀ x∈l,x.length=z)→l.flatten.take (n*z)=(l.take n).flatten
 | [],n,_=>by simp
 | y::r,0,_=>by simp
 | y::r,n+1,hz=>by
  have hy:=hz y (by simp)
  rw[List.take_succ_cons,List.flatten_cons,List.flatten_cons,Nat.succ_mul,show n*z+z=y.length+n*z by omega,List.take_append,List.take_of_length_le (Nat.le_add_right _ _),Nat.add_sub_cancel_left,
   aBE n fun x hx=>hz x (by simp[hx])]
def Sl (ro:Ro) (h:T Obj) (v:Value) (z:Nat) (l:List (List Value)):Prop :=
 (v=.slice none 0 0∧l=[])∨∃ a cap,v=.slice (some a) l.length cap∧l.length≤cap∧(a.spot=none∨a.spot=some z)∧(∀ x∈l,x.length=z)∧cellsAt ro h a (l.length*z)=some l.flatten
theorem Sl.at {ro:Ro}{h:T Obj}{a:Addr}{z:Nat}{l:List (List Value)} (hz:∀ x∈l,x.length=z) (hc:cellsAt ro h a (l.length*z)=some l.flatten):∀ i x,l[i]?=some x→x.length=z∧cellsAt ro h (elt a (i*z)) z=some x:=by
 intro i x hx
 refine⟨hz x (List.mem_of_getElem? hx),?_⟩
 have hi:=(List.getElem?_eq_some_iff.1 hx).1
 have:i*z+z≤l.length*z:=by rw[← Nat.succ_mul]; exact Nat.mul_le_mul_right _ hi
 rw[nT hc this,(mA hz).2 i x hx]
def iP (z:Nat) (v:Value) (i:Nat):Value:=match v with
 | .slice (some a) _ _=>.pointer (some (elt a (i*z)))
 | _=>undef
section
variable {ro:Ro}{h h':T Obj}{v:Value}{z:Nat}{l:List (List Value)}
theorem Sl.nil:Sl ro h (.slice none 0 0) z []:=.inl ⟨rfl,rfl⟩
theorem Sl.sub (hs:Sub h h') (hl:Sl ro h v z l):Sl ro h' v z l:=by
 rcases hl with hl | ⟨a,cap,h1,h2,h3,h4⟩
 ·exact .inl hl
 ·exact .inr ⟨a,cap,h1,h2,h3,h4.1,xM hs h4.2⟩
theorem Sl.len (hl:Sl ro h v z l):bH v=some (.int .i64 l.length):=by
 rcases hl with ⟨rfl,rfl⟩ | ⟨a,cap,rfl,_⟩<;>rfl
theorem Sl.ix (hl:Sl ro h v z l) (k:IntKind) {i:Nat} (hi:i < l.length):cM z v (.int k (i:Int))=some (iP z v i):=by
 rcases hl with ⟨rfl,rfl⟩ | ⟨a,cap,rfl,h2,h3,h4⟩
 ·simp at hi
 ·have hn:mH (.int k (i:Int))=some i:=by simp[mH]
  have hb:Nat.blt i l.length=true:=by simp[Nat.blt]; omega
  unfold cM
  rw[hn]
  simp only[Option.bind,hb]
  rcases h3 with h3 | h3
  ·rw[h3]; simp[iP,elt,fwd,h3]
  ·rw[h3]; simp[iP,elt,h3]
theorem Sl.loadA (hl:Sl ro h v z l) {i:Nat}{x:List Value} (hx:l[i]?=some x):loadA ro h z (iP z v i)=some (.agg x.toArray):=by
 rcases hl with ⟨rfl,rfl⟩ | ⟨a,cap,rfl,h2,h3,h4⟩
 ·simp at hx
 ·simp[V.loadA,iP,asP,(Sl.at h4.1 h4.2 i x hx).2]
theorem Sl.load1 (hl:Sl ro h v 1 l) {i:Nat}{x:Value} (hx:l[i]?=some [x]):load1 ro h (iP 1 v i)=some x:=by
 rcases hl with ⟨rfl,rfl⟩ | ⟨a,cap,rfl,h2,h3,h4⟩
 ·simp at hx
 ·have:=(Sl.at h4.1 h4.2 i _ hx).2
  simp only[V.load1,iP,asP,Option.bind,this]
theorem aLX {a:Addr}{n:Nat}{x:List Value} (hs:Sub h h') (hx:cellsAt ro h a n=some x):jT (.pointer (some a)) h h':=by
 unfold jT blk
 cases hz:a.spot with
 | none=>simp only[hz]
 | some z =>
  simp only[hz]
  unfold cellsAt at hx
  rw[hz] at hx
  cases hg:h.get a.block with
  | none=>rw[hg] at hx; cases hx
  | some o=>exact⟨by rw[hg,hs _ _ hg],by rw[hg]; rfl⟩
theorem Sl.same (hs:Sub h h') (hl:Sl ro h v z l) {i:Nat} (hi:i < l.length):jT (iP z v i) h h':=by
 rcases hl with ⟨rfl,rfl⟩ | ⟨b,cap,rfl,h2,h3,h4⟩
 ·simp at hi
 ·exact aLX hs (Sl.at h4.1 h4.2 i _ (List.getElem?_eq_getElem hi)).2
end
theorem fT {h h':T Obj}{id off z:Nat}{o:Obj} (hg:h.get id=some o) (hs:h'.get id=some o):jT (at_ id off z) h h':=⟨by rw[hg,hs],by rw[hg]; rfl⟩
theorem Sl.own {ro:Ro}{h:T Obj}{id z cap:Nat}{l:List (List Value)}{e:TypeId}{f:Nat × Nat} (hg:h.get id=some (.cells l.flatten.toArray e f)) (hz:∀ x∈l,x.length=z) (hc:l.length≤cap):Sl ro h (.slice (some (V.own id z)) l.length cap) z l:=by
 refine .inr ⟨V.own id z,cap,rfl,hc,.inr rfl,hz,?_⟩
 have h1:=(mA hz).1
 show cellsAt ro h ⟨id,0,some z⟩ _=_
 rw[nJ,hg,bG]
 simp only[Option.bind_some]
 rw[if_pos (by rw[h1]; omega),List.drop_zero,List.take_of_length_le (by rw[h1]; omega)]
theorem eD {i:Nat}{A:Prop}{B:Nat→Prop}{D:Prop} (h:B i):exP (.exit i) A B D:=h
theorem eS {A:Prop}{B:Nat→Prop}{D:Prop} (h:D):exP .ret A B D:=h
theorem cQ {A B:Prop} (h:A):cO true A B:=h
theorem Sl.take {P:Program}{t e:TypeId}{ro:Ro}{h:T Obj}{v:Value}{z:Nat}{l:List (List Value)} (hl:Sl ro h v z l) (hu:und P t=some (.slice e)) (hz:siz P e=some z) (hz0:0 < z) {n:Nat} (hn:n≤l.length) (k:IntKind) :
  ∃ r,lT P t v none (some (.int k (n:Int))) none=some r∧Sl ro h r z (l.take n):=by
 have hnv:mH (.int k (n:Int))=some n:=by simp[mH]
 rcases hl with ⟨rfl,rfl⟩ | ⟨a,cap,rfl,h2,h3,h4⟩
 ·simp at hn; subst hn
  refine⟨.slice none 0 0,?_,.inl ⟨rfl,rfl⟩⟩
  unfold lT
  simp[hu,hz,i8,mH]
 ·have hb:Nat.ble n cap=true:=Nat.ble_eq_true_of_le (by omega)
  have hlen:(l.take n).length=n:=by rw[List.length_take]; omega
  refine⟨.slice (some a) n cap,?_,.inr ⟨a,cap,by rw[hlen],by rw[hlen]; omega,h3,fun x hx=>h4.1 x (List.mem_of_mem_take hx),?_⟩⟩
  ·unfold lT
   have hb1:Nat.ble n l.length=true:=Nat.ble_eq_true_of_le hn
   have hb0:Nat.ble 0 n=true:=Nat.ble_eq_true_of_le (Nat.zero_le _)
   have e0:fwd a (0*z)=a:=by simp[fwd]
   have e1:i8 none cap cap=some cap:=rfl
   have e2:i8 (some (.int k (n:Int))) l.length cap=some n:=by simp[i8,hnv,hb]
   have e3:i8 none 0 n=some 0:=rfl
   simp only[hu,hz,Option.bind,e1,e2,e3,hb,Option.isNone,Bool.true_or,Nat.sub_zero]
   rcases h3 with h3 | h3
   ·simp only[h3]
    cases hc:Nat.beq cap 0 with
    | true=>simp only
    | false=>simp only[e0]
   ·simp only[h3,Nat.beq_refl,e0]
  ·have hk:0+n*z≤l.length*z:=by rw[Nat.zero_add]; exact Nat.mul_le_mul_right _ hn
   have:=nT h4.2 hk
   rw[List.drop_zero,aBE n h4.1] at this
   rw[hlen]
   rcases h3 with h3 | h3
   ·have e:elt a 0=a:=by obtain⟨b,o,sp⟩:=a; change sp=none at h3; subst h3; rfl
    rw[e] at this; exact this
   ·unfold cellsAt at this ⊢
    simp only[elt,h3,Option.map,Nat.add_zero] at this ⊢
    exact this
def Own (h:T Obj) (v:Value) (z:Nat) (e:TypeId) (l:List (List Value)) (lo hi:Nat):Prop :=
 (v=.slice none 0 0∧l=[])∨∃ id,lo≤id∧id < hi∧v=.slice (some (own id z)) l.length l.length∧(∀ x∈l,x.length=z)∧h.get id=some (.cells l.flatten.toArray e)
theorem Own.sl {ro:Ro}{h:T Obj}{v:Value}{z:Nat}{e:TypeId}{l:List (List Value)}{lo hi:Nat} (ho:Own h v z e l lo hi):Sl ro h v z l:=by
 rcases ho with ho | ⟨id,_,_,rfl,h4,h5⟩
 ·exact .inl ho
 ·exact Sl.own h5 h4 (Nat.le_refl _)
theorem Own.nil {h:T Obj}{z:Nat}{e:TypeId}{lo hi:Nat}:Own h (.slice none 0 0) z e [] lo hi:=.inl ⟨rfl,rfl⟩
theorem Own.keep {h h':T Obj}{v:Value}{z:Nat}{e:TypeId}{l:List (List Value)}{lo hi hi':Nat} (ho:Own h v z e l lo hi) (hh:hi≤hi') (hk:∀ id,lo≤id→id < hi→∀ o,h.get id=some o→h'.get id=some o):Own h' v z e l lo hi':=by
 rcases ho with ho | ⟨id,h1,h2,h3,h4,h5⟩
 ·exact .inl ho
 ·exact .inr ⟨id,h1,by omega,h3,h4,hk id h1 h2 _ h5⟩
theorem aAY {P:Program}{ro:Ro}{h:T Obj}{v x:Value}{z nx lo hi:Nat}{t e:TypeId}{i:TypeInfo}{zv:Value}{l m:List (List Value)} (ho:Own h v z e l lo hi) (hx:Sl ro h x z m) (hu:und P t=some (.slice e)) (hi':tin P e=some i) (hz:i.size=z) (hz0:0 < z) (hzer:zer P e=some zv) (hzs:zv.cells.size=z)
  (hm:m≠[]) (hok:m.flatten.all cU=true) (hb:(l.length+m.length)*i.bytes≤big) (hb2:l.length+m.length≤big) (hlo:lo≤nx) (hnx:hi≤nx) :
  ∃ h',cC P ro h nx #[t,t] [v,x]=some (.slice (some (own nx z)) (l++m).length (l++m).length,h',nx+1)∧Own h' (.slice (some (own nx z)) (l++m).length (l++m).length) z e (l++m) lo (nx+1) ∧
   (∀ k,(k < lo∨hi≤k)→k≠nx→h'.get k=h.get k)∧(∀ k,k≠nx→h'.get k=h.get k∨h'.get k=none):=by
 have hml:0 < m.length:=List.length_pos_iff.2 hm
 obtain⟨a,capx,rfl,hcx,hsx,hzx,hxc⟩:∃ a cap,x=.slice (some a) m.length cap∧m.length≤cap∧(a.spot=none∨a.spot=some z)∧(∀ x∈m,x.length=z)∧cellsAt ro h a (m.length*z)=some m.flatten:=by
  rcases hx with ⟨_,hx⟩ | hx
  ·exact absurd hx hm
  ·exact hx
 have hb1:Nat.ble ((l.length+m.length)*i.bytes) big=true:=Nat.ble_eq_true_of_le hb
 have hb2':Nat.ble (l.length+m.length) big=true:=Nat.ble_eq_true_of_le hb2
 have hb3:Nat.blt 0 z=true:=by simp[Nat.blt]; omega
 have hfull:Nat.ble (l.length+m.length) l.length=false:=by
  cases hq:Nat.ble (l.length+m.length) l.length with
  | false=>rfl
  | true=>have:=Nat.le_of_ble_eq_true hq; omega
 rcases ho with ⟨rfl,rfl⟩ | ⟨id,h1,h2,rfl,h4,h5⟩
 ·refine⟨h.upd nx (some (.cells m.flatten.toArray e)),?_,.inr ⟨nx,hlo,by omega,by simp,by simpa using hzx,by rw[T.get_upd_same]; simp⟩,fun k _ hk=>T.get_upd_ne _ _ hk,fun k hk=>.inl (T.get_upd_ne _ _ hk)⟩
  simp only[List.length_nil] at hb1 hb2' hfull
  simp only[cC,List.getElem?_toArray,List.getElem?_cons_zero,List.getElem?_cons_succ,hu,hi',Option.bind_some,xF,hz,hxc,hfull,hzer,hb1,hb2',hb3,hzs,Nat.beq_refl,hok,aGf]
  simp
 ·have hl:=(mA h4).1
  have hcl:cellsAt ro h ⟨id,0,some z⟩ (l.length*z)=some l.flatten:=by
   rw[nJ,h5,bG]
   simp only[Option.bind_some]
   rw[if_pos (by rw[hl]; omega),List.drop_zero,List.take_of_length_le (by rw[hl]; omega)]
  refine⟨(h.upd id none).upd nx (some (.cells (l.flatten++m.flatten).toArray e)),?_,.inr ⟨nx,hlo,by omega,by simp,?_,by rw[T.get_upd_same]; simp⟩,?_,?_⟩
  ·simp only[cC,List.getElem?_toArray,List.getElem?_cons_zero,List.getElem?_cons_succ,hu,hi',Option.bind_some,xF,hz,hxc,hfull,hzer,hb1,hb2',hb3,hzs,Nat.beq_refl,hok,aGf,own,hcl]
   simp
  ·intro x hx
   rcases List.mem_append.1 hx with hx | hx
   ·exact h4 x hx
   ·exact hzx x hx
  ·intro k hk hne
   rw[T.get_upd_ne _ _ hne,T.get_upd_ne _ _ (by omega)]
  ·intro k hne
   rw[T.get_upd_ne _ _ hne]
   by_cases e:k=id
   ·subst e; right; rw[T.get_upd_same]
   ·left; rw[T.get_upd_ne _ _ e]
end V
end Go.Proofs.YtcaccnneblghgaaGreat
noncomputable section
namespace Go.Proofs.YtcaccnneblghgaaGreat
namespace V
theorem aNf {p:Prop}{dp:Decidable p}{A B:Prop} (h1:p→A) (h2:¬ p→B):aR (.bool (@decide p dp)) A B:=by
 by_cases hp:p
 ·rw[decide_eq_true hp]; exact h1 hp
 ·rw[decide_eq_false hp]; exact h2 hp
theorem kb {K:KV}{h:T Obj}{nx n:Nat}{b c:Bool} (hK:∀ n,nx≤n→K (.bool b) h n) (e:b=c) (hn:nx≤n):K (.bool c) h n:=by subst e; exact hK n hn
theorem ki {K:KV}{h:T Obj}{nx n:Nat}{k:IntKind}{b c:Int} (hK:∀ n,nx≤n→K (.int k b) h n) (e:b=c) (hn:nx≤n):K (.int k c) h n:=by subst e; exact hK n hn
section
variable {k:IntKind}{a b:Int}{K:Value→Prop}
theorem aOr (h:a < b) (hk:K (.bool true)):aB (aO .lss (.int k a) (.int k b)) K:=by rw[aY,decide_eq_true h]; exact hk
theorem aOq (h:b≤a) (hk:K (.bool false)):aB (aO .lss (.int k a) (.int k b)) K:=by rw[aY,decide_eq_false (by omega)]; exact hk
theorem cV (h1:a < b→K (.bool true)) (h2:b≤a→K (.bool false)):aB (aO .lss (.int k a) (.int k b)) K:=by
 by_cases h:a < b
 ·exact aOr h (h1 h)
 ·exact aOq (by omega) (h2 (by omega))
theorem aQJ (h:a≤b) (hk:K (.bool true)):aB (aO .leq (.int k a) (.int k b)) K:=by rw[aX,decide_eq_true h]; exact hk
theorem aQI (h:b < a) (hk:K (.bool false)):aB (aO .leq (.int k a) (.int k b)) K:=by rw[aX,decide_eq_false (by omega)]; exact hk
theorem aDt (h1:a≤b→K (.bool true)) (h2:b < a→K (.bool false)):aB (aO .leq (.int k a) (.int k b)) K:=by
 by_cases h:a≤b
 ·exact aQJ h (h1 h)
 ·exact aQI (by omega) (h2 (by omega))
theorem aKO (h:b < a) (hk:K (.bool true)):aB (aO .gtr (.int k a) (.int k b)) K:=by rw[aW,decide_eq_true h]; exact hk
theorem aKN (h:a≤b) (hk:K (.bool false)):aB (aO .gtr (.int k a) (.int k b)) K:=by rw[aW,decide_eq_false (by omega)]; exact hk
theorem lK (h1:b < a→K (.bool true)) (h2:a≤b→K (.bool false)):aB (aO .gtr (.int k a) (.int k b)) K:=by
 by_cases h:b < a
 ·exact aKO h (h1 h)
 ·exact aKN (by omega) (h2 (by omega))
theorem aOp (h:b≤a) (hk:K (.bool true)):aB (aO .geq (.int k a) (.int k b)) K:=by rw[aV,decide_eq_true h]; exact hk
theorem aOo (h:a < b) (hk:K (.bool false)):aB (aO .geq (.int k a) (.int k b)) K:=by rw[aV,decide_eq_false (by omega)]; exact hk
theorem uY (h1:b≤a→K (.bool true)) (h2:a < b→K (.bool false)):aB (aO .geq (.int k a) (.int k b)) K:=by
 by_cases h:b≤a
 ·exact aOp h (h1 h)
 ·exact aOo (by omega) (h2 (by omega))
theorem aKJ (h:a=b) (hk:K (.bool true)):aB (aO .eql (.int k a) (.int k b)) K:=by rw[aT,decide_eq_true h]; exact hk
theorem aKI (h:a≠b) (hk:K (.bool false)):aB (aO .eql (.int k a) (.int k b)) K:=by rw[aT,decide_eq_false h]; exact hk
theorem sD (h1:a=b→K (.bool true)) (h2:a≠b→K (.bool false)):aB (aO .eql (.int k a) (.int k b)) K:=by
 by_cases h:a=b
 ·exact aKJ h (h1 h)
 ·exact aKI h (h2 h)
theorem aFf (h:a≠b) (hk:K (.bool true)):aB (aO .neq (.int k a) (.int k b)) K:=by rw[aU,decide_eq_false h]; exact hk
theorem aAA (h:a=b) (hk:K (.bool false)):aB (aO .neq (.int k a) (.int k b)) K:=by rw[aU,decide_eq_true h]; exact hk
theorem pW (h1:a≠b→K (.bool true)) (h2:a=b→K (.bool false)):aB (aO .neq (.int k a) (.int k b)) K:=by
 by_cases h:a=b
 ·exact aAA h (h2 h)
 ·exact aFf h (h1 h)
end
theorem aBr {ro:Ro}{h h':T Obj}{p v:Value} (hs:Sub h h') (hl:load1 ro h p=some v):load1 ro h' p=some v:=by
 unfold V.load1 at hl ⊢
 obtain⟨ad,y1,y2⟩:=aM hl
 rw[y1,Option.bind_some]
 cases hc:cellsAt ro h ad 1 with
 | none=>rw[hc] at y2; cases y2
 | some l=>rw[hc] at y2; rw[xM hs hc]; exact y2
theorem aBs {ro:Ro}{h h':T Obj}{p v:Value}{n:Nat} (hs:Sub h h') (hl:loadA ro h n p=some v):loadA ro h' n p=some v:=by
 unfold V.loadA at hl ⊢
 obtain⟨ad,y1,y2⟩:=aM hl
 obtain⟨l9,y3,y4⟩:=aM y2
 rw[y1,Option.bind_some,xM hs y3,Option.bind_some,y4]
def kK (l:List Int):List (List Value):=l.map fun b:Int=>[Value.int .i64 b]
theorem eP (l:List Int):(kK l).length=l.length:=by simp[kK]
theorem j9 {l:List Int}{i:Nat} (hi:i < l.length):(kK l)[i]?=some [.int .i64 l[i]]:=by simp[kK,hi]
def ZI (ro:Ro) (h:T Obj) (v:Value) (l:List Int):Prop:=Sl ro h v 1 (kK l)
section
variable {ro:Ro}{h h':T Obj}{v:Value}{l:List Int}
theorem ZI.sub (hs:Sub h h') (hl:ZI ro h v l):ZI ro h' v l:=Sl.sub hs hl
theorem ZI.len (hl:ZI ro h v l):bH v=some (.int .i64 l.length):=by have:=Sl.len hl; rwa [eP] at this
theorem ZI.ix (hl:ZI ro h v l) (k:IntKind) {i:Nat} (hi:i < l.length):cM 1 v (.int k (i:Int))=some (iP 1 v i):=Sl.ix hl k (by rw[eP]; exact hi)
theorem ZI.ixI (hl:ZI ro h v l) (k:IntKind) {i:Int} (h0:0≤i) (hi:i < l.length):cM 1 v (.int k i)=some (iP 1 v i.toNat):=by
 have:=hl.ix k (i:=i.toNat) (by omega)
 rwa [Int.toNat_of_nonneg h0] at this
theorem ZI.load (hl:ZI ro h v l) {i:Nat} (hi:i < l.length):load1 ro h (iP 1 v i)=some (.int .i64 l[i]):=Sl.load1 hl (j9 hi)
end
theorem ZI.load' {ro:Ro}{h:T Obj}{v:Value}{l:List Int} (hl:ZI ro h v l) {i:Nat}{x:Int} (hx:l[i]?=some x):load1 ro h (iP 1 v i)=some (.int .i64 x):=by
 obtain⟨hi,he⟩:=List.getElem?_eq_some_iff.1 hx
 rw[hl.load hi,he]
theorem Sl.ok {ro:Ro}{h:T Obj}{v:Value}{z:Nat}{cs:List (List Value)} (hl:Sl ro h v z cs):cU v=true:=by
 rcases hl with ⟨rfl,_⟩ | ⟨a,cap,rfl,_⟩<;>rfl
theorem ZI.ok {ro:Ro}{h:T Obj}{v:Value}{l:List Int} (hl:ZI ro h v l):cU v=true:=Sl.ok hl
theorem bX {α:Type}{l:List α}{k:Nat} (hk:k < l.length):l.drop k=l[k]::l.drop (k+1):=List.drop_eq_getElem_cons hk
theorem gJ {α:Type}{l:List α}{k:Nat} (hk:l.length≤k):l.drop k=[]:=List.drop_eq_nil_of_le hk
def o7 (z:Nat) (v:Value) (i k:Nat):Value:=match v with
 | .slice (some a) _ _=>.pointer (some (elt a (i*z+k)))
 | _=>undef
def SlR {D:Type} (ro:Ro) (h:T Obj) (v:Value) (z:Nat) (R:List Value→D→Prop) (l:List D):Prop:=∃ cs,Sl ro h v z cs∧cs.length=l.length∧∀ (i:Nat) x d,cs[i]?=some x→l[i]?=some d→R x d
section
variable {D:Type}{ro:Ro}{h h':T Obj}{v:Value}{z:Nat}{R R':List Value→D→Prop}{l:List D}
theorem SlR.imp (hl:SlR ro h v z R l) (hR:∀ x d,R x d→R' x d):SlR ro h v z R' l:=by
 obtain⟨cs,h1,h2,h3⟩:=hl
 exact⟨cs,h1,h2,fun i x d hx hd=>hR _ _ (h3 i x d hx hd)⟩
theorem SlR.sub (hs:Sub h h') (hR:∀ x d,R x d→R' x d) (hl:SlR ro h v z R l):SlR ro h' v z R' l:=by
 obtain⟨cs,h1,h2,h3⟩:=hl
 exact⟨cs,h1.sub hs,h2,fun i x d hx hd=>hR _ _ (h3 i x d hx hd)⟩
theorem SlR.nil:SlR ro h (.slice none 0 0) z R ([]:List D):=⟨[],Sl.nil,rfl,fun i x d hx=>by simp at hx⟩
theorem SlR.len (hl:SlR ro h v z R l):bH v=some (.int .i64 l.length):=by
 obtain⟨cs,h1,h2,h3⟩:=hl
 have:=h1.len
 rwa [h2] at this
theorem SlR.ix (hl:SlR ro h v z R l) (k:IntKind) {i:Nat} (hi:i < l.length):cM z v (.int k (i:Int))=some (iP z v i):=by
 obtain⟨cs,h1,h2,h3⟩:=hl
 exact h1.ix k (by omega)
theorem SlR.ixI (hl:SlR ro h v z R l) (k:IntKind) {i:Int} (h0:0≤i) (hi:i < l.length):cM z v (.int k i)=some (iP z v i.toNat):=by
 have:=hl.ix k (i:=i.toNat) (by omega)
 rwa [Int.toNat_of_nonneg h0] at this
theorem aKD (a:Addr) (i j:Nat):fwd (elt a i) j=elt a (i+j):=by
 obtain⟨b,o,s⟩:=a
 cases s<;>simp[fwd,elt,Nat.add_assoc]
theorem Sl.fwd {cs:List (List Value)} (hl:Sl ro h v z cs) {i:Nat} (hi:i < cs.length) (k:Nat):aS k (iP z v i)=some (o7 z v i k):=by
 rcases hl with ⟨rfl,rfl⟩ | ⟨a,cap,rfl,h2,h3,h4⟩
 ·simp at hi
 ·simp only[aS,iP,asP,Option.bind,o7,aKD]
theorem Sl.load1K {cs:List (List Value)} (hl:Sl ro h v z cs) {i k:Nat}{x:List Value}{w:Value} (hx:cs[i]?=some x) (hk:x[k]?=some w):V.load1 ro h (o7 z v i k)=some w:=by
 rcases hl with ⟨rfl,rfl⟩ | ⟨a,cap,rfl,h2,h3,h4⟩
 ·simp at hx
 ·have h5:=(Sl.at h4.1 h4.2 i _ hx)
  have hkl:=(List.getElem?_eq_some_iff.1 hk).1
  have hi:=(List.getElem?_eq_some_iff.1 hx).1
  have h6:i*z+k+1≤cs.length*z:=by
   have:i*z+z≤cs.length*z:=by rw[← Nat.succ_mul]; exact Nat.mul_le_mul_right _ hi
   omega
  have h7:=nT h4.2 (off:=i*z+k) (k:=1) h6
  have h8:=(mA h4.1).2 i x hx
  have h9:(cs.flatten.drop (i*z+k)).take 1=[w]:=by
   have:(cs.flatten.drop (i*z+k))[0]?=some w:=by
    rw[← h8] at hk
    rw[List.getElem?_take,if_pos (by omega),List.getElem?_drop] at hk
    rw[List.getElem?_drop]; simpa using hk
   have h10:=aAV (l:=cs.flatten.drop (i*z+k)) (off:=0) this
   simpa using h10
  rw[h9] at h7
  simp only[V.load1,o7,asP,Option.bind,h7]
theorem SlR.at (hl:SlR ro h v z R l) {i:Nat} (hi:i < l.length):∃ x,R x l[i]∧x.length=z∧V.loadA ro h z (iP z v i)=some (.agg x.toArray)∧(∀ k,aS k (iP z v i)=some (o7 z v i k))∧∀ k w,x[k]?=some w→V.load1 ro h (o7 z v i k)=some w:=by
 obtain⟨cs,h1,h2,h3⟩:=hl
 have hx:cs[i]?=some (cs[i]'(by omega)):=List.getElem?_eq_getElem _
 refine⟨_,h3 i _ _ hx (List.getElem?_eq_getElem hi),?_,h1.loadA hx,fun k=>h1.fwd (by omega) k,fun k w hk=>h1.load1K hx hk⟩
 rcases h1 with ⟨rfl,rfl⟩ | ⟨a,cap,rfl,g2,g3,g4⟩
 ·simp at hx
 ·exact g4.1 _ (List.getElem_mem _)
theorem SlR.at1 (hl:SlR ro h v 1 R l) {i:Nat} (hi:i < l.length):∃ w,R [w] l[i]∧V.load1 ro h (iP 1 v i)=some w:=by
 obtain⟨cs,h1,h2,h3⟩:=hl
 have hx:cs[i]?=some (cs[i]'(by omega)):=List.getElem?_eq_getElem _
 have hz:(cs[i]'(by omega)).length=1:=by
  rcases h1 with ⟨rfl,rfl⟩ | ⟨a,cap,rfl,g2,g3,g4⟩
  ·simp at hx
  ·exact g4.1 _ (List.getElem_mem _)
 generalize cs[i]'(by omega)=x at hx hz
 match x,hz with
 | [w],_=>exact⟨w,h3 i _ _ hx (List.getElem?_eq_getElem hi),h1.load1 hx⟩
end
theorem SlR.same {D:Type}{ro:Ro}{h h':T Obj}{v:Value}{z:Nat}{R:List Value→D→Prop}{l:List D} (hl:SlR ro h v z R l) (hs:Sub h h') {i:Nat} (hi:i < l.length):jT (iP z v i) h h':=by
 obtain⟨cs,h1,h2,h3⟩:=hl
 exact h1.same hs (by omega)
theorem eJ {h:T Obj}{nx m:Nat}{v:Value}{ty:TypeId}{K:T Obj→Prop} (hf:Fr h m) (hm:m≤nx) (hK:∀ h',Sub h h'→Fr h' (nx+1)→h'.get nx=some (.cells (Value.cells v) ty)→(∀ k,k≠nx→h'.get k=h.get k)→K h'):cT h nx (.cells (Value.cells v) ty) K :=
 aD (hK _ ((Sub.refl h).new hf hm) ((hf.mono (show m≤nx+1 by omega)).upd (Nat.le_refl _) (by omega)) (by rw[T.get_upd_same]) fun k hk=>T.get_upd_ne _ _ hk)
theorem aGd {h:T Obj}{nx m:Nat}{o:Obj}{K:T Obj→Prop} (hf:Fr h m) (hm:m≤nx) (hK:∀ h',Sub h h'→Fr h' (nx+1)→h'.get nx=some o→(∀ k,k≠nx→h'.get k=h.get k)→K h'):cT h nx o K :=
 aD (hK _ ((Sub.refl h).new hf hm) ((hf.mono (show m≤nx+1 by omega)).upd (Nat.le_refl _) (by omega)) (by rw[T.get_upd_same]) fun k hk=>T.get_upd_ne _ _ hk)
theorem kA {P:Program}{h:T Obj}{a m n:Nat}{ty:TypeId}{zv v:Value}{x:List Value}{K:T Obj→Prop} (hz:zer P ty=some zv) (hzs:zv.cells.size=n) (hv:v.cells=x.toArray) (hx:x.length=n) (hok:x.all cU=true) (hf:Fr h m) (hm:m≤a)
  (hK:∀ h',Sub h h'→Fr h' (a+1)→h'.get a=some (.cells x.toArray ty)→(∀ k,k≠a→h'.get k=h.get k)→K h') :
  aB (zer P ty) fun z=>cT h a (.cells z.cells ty) fun h1=>aB (bV n h1 (ptr a) v) K:=by
 refine aA hz (aD (aA (lX (l:=zv.cells.toList) (vs:=x) (e:=ty) (f:=(0,0)) (by rw[T.get_upd_same]) hv hx (by simpa using hzs) hok) ?_))
 refine hK _ (((Sub.refl h).new hf hm).new hf hm) (((hf.mono (show m≤a+1 by omega)).upd (Nat.le_refl _) (by omega)).upd (Nat.le_refl _) (by omega)) (by rw[T.get_upd_same]) fun k hk=>?_
 rw[T.get_upd_ne _ _ hk,T.get_upd_ne _ _ hk]
theorem BB:(∀ (h:T Obj) (i:Nat) (o:Obj) (K:T Obj→Prop),cT h i o K=K (h.upd i (some o))) ∧
  (∀ (h:T Obj) (i:Nat) (o:Obj) (K:T Obj→Prop),eQ h i (some o) K=K (h.upd i (some o))) ∧
  (∀ (h:T Obj) (i:Nat) (K:T Obj→Prop),eQ h i none K=K h) ∧
  (∀ {α:Type} (a:α) (K:α→Prop),aB (some a) K=K a) ∧
  (∀ (A B:Prop),aR (.bool true) A B=A) ∧
  (∀ (A B:Prop),aR (.bool false) A B=B) ∧
  (∀ (h:T Obj) (nx:Nat) (A:KV→Prop) (K:KV),ifP (.bool true) true h nx A K=A K) ∧
  (∀ (h:T Obj) (nx:Nat) (A:KV→Prop) (K:KV),ifP (.bool false) false h nx A K=A K) ∧
  (∀ (h:T Obj) (nx:Nat) (A:KV→Prop) (K:KV),ifP (.bool true) false h nx A K=K undef h nx) ∧
  (∀ (h:T Obj) (nx:Nat) (A:KV→Prop) (K:KV),ifP (.bool false) true h nx A K=K undef h nx) ∧
  (∀ (A:Prop) (B:Nat→Prop) (D:Prop),exP .normal A B D=A) ∧
  (∀ (i:Nat) (A:Prop) (B:Nat→Prop) (D:Prop),exP (.exit i) A B D=B i) ∧
  (∀ (A:Prop) (B:Nat→Prop) (D:Prop),exP .ret A B D=D) ∧
  (∀ (A B:Prop),cO true A B=A) ∧
  (∀ (A B:Prop),cO false A B=B) ∧
  (∀ (cs:Array Value),Value.cells (.agg cs)=cs) ∧
  (∀ (k:IntKind) (n:Int),Value.cells (.int k n)=#[.int k n]) ∧
  (∀ (b:Bool),Value.cells (.bool b)=#[.bool b]) ∧
  (∀ (k:IntKind) (a b:Int),aO .add (.int k a) (.int k b)=some (.int k (wr k (a+b)))) ∧
  (∀ (k:IntKind) (a b:Int),aO .sub (.int k a) (.int k b)=some (.int k (wr k (a - b)))) ∧
  (∀ (k:IntKind) (a b:Int),aO .mul (.int k a) (.int k b)=some (.int k (wr k (a*b)))) ∧
  (∀ (k:IntKind) {a b:Int} (ha:0≤a) (hb:0 < b),aO .quo (.int k a) (.int k b)=some (.int k (wr k (a / b)))) ∧
  (∀ (k:IntKind) {a b:Int} (ha:0≤a) (hb:0 < b),aO .rem (.int k a) (.int k b)=some (.int k (a % b))) ∧
  (∀ (k':IntKind) (a:Nat) {b:Int} (hb:0≤b) (hk:b≤64),aO .shr (.int .u64 (a:Int)) (.int k' b)=some (.int .u64 ((a / 2 ^ b.toNat:Nat):Int))) ∧
  (∀ (k':IntKind) {b:Int} (hb:0≤b) (hk:b < 64),aO .shl (.int .u64 1) (.int k' b)=some (.int .u64 ((2 ^ b.toNat:Nat):Int))) ∧
  (∀ {a b:Int} (ha:0≤a) (hb:0≤b) (ha':a≤18446744073709551615) (hb':b≤18446744073709551615),aO .and (.int .u64 a) (.int .u64 b)=some (.int .u64 (Nat.land a.toNat b.toNat:Nat))) ∧
  (∀ {a b:Int} (ha:0≤a) (hb:0≤b) (ha':a≤18446744073709551615) (hb':b≤18446744073709551615),aO .or (.int .u64 a) (.int .u64 b)=some (.int .u64 (Nat.lor a.toNat b.toNat:Nat))) ∧
  (∀ {a b:Int} (ha:0≤a) (hb:0≤b) (ha':a≤18446744073709551615) (hb':b≤18446744073709551615),aO .xor (.int .u64 a) (.int .u64 b)=some (.int .u64 (Nat.xor a.toNat b.toNat:Nat))) ∧
  (∀ {n:Int} (h1:-9223372036854775808≤n) (h2:n≤9223372036854775807),wr .i64 n=n) ∧
  (∀ {n:Int} (h1:0≤n) (h2:n≤255),wr .u8 n=n) ∧
  (∀ {n:Int} (h1:0≤n) (h2:n≤18446744073709551615),wr .u64 n=n) ∧
  (∀ (k k':IntKind) (n:Int),wO k (.int k' n)=some (.int k (wr k n))) ∧
  (∀ (b:Bool),unV .not (.bool b)=some (.bool (!b))) ∧
  (∀ (a b:Bool),aFY .eql (.bool a) (.bool b)=some (.bool (a==b))) ∧
  (∀ (a b:Bool),aFY .neq (.bool a) (.bool b)=some (.bool (!(a==b)))) ∧
  (∀ (a b:Value),bO (.bool true) a b=some a) ∧
  (∀ (a b:Value),bO (.bool false) a b=some b) ∧
  (∀ (a:Option Addr) (n c:Nat),bH (.slice a n c)=some (.int .i64 n)) ∧
  (∀ (id:Nat),ptr id=at_ id 0 0) ∧
  (∀ (k id off z:Nat),aS k (at_ id off z)=some (at_ id (off+k) z)) ∧
  (∀ (n z id off y:Nat) (k:IntKind) {i:Int} (h0:0≤i) (h1:i < n),ixArr n z (at_ id off y) (.int k i)=some (at_ id (off+i.toNat*z) y)) ∧
  (∀ (ro:Ro) (h:T Obj) (id off z:Nat),load1 ro h (at_ id off z)=(nU (h.get id)).bind fun c=>c[off]?) ∧
  (∀ (ro:Ro) (h:T Obj) (n id off z:Nat),loadA ro h n (at_ id off z)=(nU (h.get id)).bind fun c=>if off+n≤c.length then some (.agg ((c.drop off).take n).toArray) else none) ∧
  (∀ (n:Nat) (h:T Obj) (id off z:Nat) (v:Value),bV n h (at_ id off z) v=if v.cells.size=n then (aFn (h.get id) off v.cells.toList).bind (fun o=>some (h.upd id (some o))) else none) ∧
  (∀ (c:Array Value) (e:TypeId) (f:Nat × Nat),nU (some (.cells c e f))=some c.toList) ∧
  (∀ {c:Array Value} {e:TypeId} {f:Nat × Nat} {off:Nat} {vs:List Value} (h1:off+vs.length≤c.size) (h2:vs.all cU=true),aFn (some (.cells c e f)) off vs=some (.cells (over c.toList off vs).toArray e f)) ∧
  (∀ (l:List Value),l.toArray.toList=l) ∧
  (∀ (l:List Value),l.toArray.size=l.length) :=
 ⟨@eO,@dH,@dG,@bW,@cH,@bY,@gC,@f8,@gB,@gA,@cI,@dU,@eT,@cZ,@cF,@Value.cells_agg,@cR,@cG,@dK,@dX,@dQ,@dV,@dW,@bQ,@bL,@cJ,@dE,@cK,@fB,@i6,@fR,@dC,@eW,@dA,@dB,@cL,@cA,@bZ,@fU,@eU,@dY,@cP,@cD,@cB,@bG,@bT,@tl,@ts⟩
theorem B2:(∀ (h:Decidable True),@decide True h=true)∧(∀ (h:Decidable False),@decide False h=false)∧((!true)=false)∧((!false)=true) ∧
  (∀ {α β:Type} (a:α) (f:α→Option β),(some a).bind f=f a)∧(∀ {α:Type} (t:T α) (k:Nat) (o:Option α),(t.upd k o).get k=o)∧(∀ {α:Type} (t:T α) {k i:Nat} (o:Option α),i≠k→(t.upd k o).get i=t.get i) ∧
  (∀ {α:Type} {c:Prop} {h:Decidable c} {a b:α},c→@ite α c h a b=a)∧(∀ n:Nat,0+n=n)∧(∀ n:Nat,n*1=n)∧(∀ n:Nat,n+0=n)∧(∀ n:Nat,(n:Int).toNat=n)∧(∀ n:Nat,n≤n) :=
 ⟨fun _=>decide_true ..,fun _=>decide_false ..,rfl,rfl,fun _ _=>rfl,T.get_upd_same,fun t _ _ o h=>T.get_upd_ne t o h,fun h=>if_pos h,Nat.zero_add,Nat.mul_one,fun _=>rfl,fun _=>rfl,Nat.le_refl⟩
theorem CC:(∀ {k:IntKind}{a b:Int},a < b→aO .lss (.int k a) (.int k b)=some (.bool true))∧(∀ {k:IntKind}{a b:Int},b≤a→aO .lss (.int k a) (.int k b)=some (.bool false)) ∧
  (∀ {k:IntKind} {a b:Int},a≤b→aO .leq (.int k a) (.int k b)=some (.bool true))∧(∀ {k:IntKind} {a b:Int},b < a→aO .leq (.int k a) (.int k b)=some (.bool false)) ∧
  (∀ {k:IntKind} {a b:Int},b < a→aO .gtr (.int k a) (.int k b)=some (.bool true))∧(∀ {k:IntKind} {a b:Int},a≤b→aO .gtr (.int k a) (.int k b)=some (.bool false)) ∧
  (∀ {k:IntKind} {a b:Int},b≤a→aO .geq (.int k a) (.int k b)=some (.bool true))∧(∀ {k:IntKind} {a b:Int},a < b→aO .geq (.int k a) (.int k b)=some (.bool false)) ∧
  (∀ {k:IntKind} {a b:Int},a=b→aO .eql (.int k a) (.int k b)=some (.bool true))∧(∀ {k:IntKind} {a b:Int},a≠b→aO .eql (.int k a) (.int k b)=some (.bool false)) ∧
  (∀ {k:IntKind} {a b:Int},a≠b→aO .neq (.int k a) (.int k b)=some (.bool true))∧(∀ {k:IntKind} {a b:Int},a=b→aO .neq (.int k a) (.int k b)=some (.bool false)):=by
 refine⟨?_,?_,?_,?_,?_,?_,?_,?_,?_,?_,?_,?_⟩<;>intro k a b h
 ·rw[aY,decide_eq_true h]
 ·rw[aY,decide_eq_false (by omega)]
 ·rw[aX,decide_eq_true h]
 ·rw[aX,decide_eq_false (by omega)]
 ·rw[aW,decide_eq_true h]
 ·rw[aW,decide_eq_false (by omega)]
 ·rw[aV,decide_eq_true h]
 ·rw[aV,decide_eq_false (by omega)]
 ·rw[aT,decide_eq_true h]
 ·rw[aT,decide_eq_false h]
 ·rw[aU,decide_eq_false h]; rfl
 ·rw[aU,decide_eq_true h]; rfl
end V
end Go.Proofs.YtcaccnneblghgaaGreat
noncomputable section
namespace Go.Proofs.YtcaccnneblghgaaGreat
namespace V
def iK:Value→Option Nat
 | .slice (some a) _ _=>some a.block
 | _=>none
def cW (h:T Obj) (v:Value) (z:Nat) (e:TypeId) (l:List (List Value)) (lo:Nat):Prop :=
 (v=.slice none 0 0∧l=[])∨∃ id,lo≤id∧v=.slice (some (own id z)) l.length l.length∧(∀ x∈l,x.length=z)∧h.get id=some (.cells l.flatten.toArray e)
theorem cW.nil {h:T Obj}{z:Nat}{e:TypeId}{lo:Nat}:cW h (.slice none 0 0) z e [] lo:=.inl ⟨rfl,rfl⟩
theorem cW.mono {h:T Obj}{v:Value}{z:Nat}{e:TypeId}{l:List (List Value)}{lo lo':Nat} (ho:cW h v z e l lo) (hl:lo'≤lo):cW h v z e l lo':=by
 rcases ho with ho | ⟨id,h1,h2⟩
 ·exact .inl ho
 ·exact .inr ⟨id,by omega,h2⟩
theorem cW.sl {ro:Ro}{h:T Obj}{v:Value}{z:Nat}{e:TypeId}{l:List (List Value)}{lo:Nat} (ho:cW h v z e l lo):Sl ro h v z l:=by
 rcases ho with ho | ⟨id,_,rfl,h4,h5⟩
 ·exact .inl ho
 ·exact Sl.own h5 h4 (Nat.le_refl _)
def Kp (v:Value) (h h':T Obj):Prop:=∀ k o,h.get k=some o→iK v≠some k→h'.get k=some o
theorem Sub.kp {v:Value}{h h':T Obj} (hs:Sub h h'):Kp v h h':=fun k o hk _=>hs k o hk
theorem Kp.trans {v:Value}{a b c:T Obj} (h1:Kp v a b) (h2:Sub b c):Kp v a c:=fun k o hk hv=>h2 k o (h1 k o hk hv)
theorem cW.keep {h h':T Obj}{v w:Value}{z:Nat}{e:TypeId}{l:List (List Value)}{lo:Nat} (ho:cW h v z e l lo) (hk:Kp w h h') (hne:∀ id,iK v=some id→iK w≠some id):cW h' v z e l lo:=by
 rcases ho with ho | ⟨id,h1,rfl,h4,h5⟩
 ·exact .inl ho
 ·exact .inr ⟨id,h1,rfl,h4,hk id _ h5 (hne id rfl)⟩
theorem cW.keepS {h h':T Obj}{v:Value}{z:Nat}{e:TypeId}{l:List (List Value)}{lo:Nat} (ho:cW h v z e l lo) (hk:Sub h h'):cW h' v z e l lo:=by
 rcases ho with ho | ⟨id,h1,rfl,h4,h5⟩
 ·exact .inl ho
 ·exact .inr ⟨id,h1,rfl,h4,hk id _ h5⟩
theorem cW.ne {h:T Obj}{v:Value}{z:Nat}{e e':TypeId}{l:List (List Value)}{lo k:Nat}{c:Array Value}{f:Nat × Nat} (ho:cW h v z e l lo) (hk:h.get k=some (.cells c e' f)) (he:e'≠e):iK v≠some k:=by
 rcases ho with ⟨rfl,_⟩ | ⟨id,_,rfl,_,h5⟩
 ·intro h; cases h
 ·intro h
  have:id=k:=Option.some.inj h
  subst this
  rw[hk] at h5
  simp only[Option.some.injEq,Obj.cells.injEq] at h5
  exact he h5.2.1
theorem cW.lt {h:T Obj}{v:Value}{z:Nat}{e:TypeId}{l:List (List Value)}{lo k:Nat} (ho:cW h v z e l lo) (hk:k < lo):iK v≠some k:=by
 rcases ho with ⟨rfl,_⟩ | ⟨id,h1,rfl,_,h5⟩
 ·intro h; cases h
 ·intro h
  have:id=k:=Option.some.inj h
  omega
theorem Fr.lt' {h:T Obj}{n k:Nat}{o:Obj} (hf:Fr h n) (hk:h.get k=some o):k < n:=by
 rcases Nat.lt_or_ge k n with h1 | h1
 ·exact h1
 ·rw[hf k h1] at hk; cases hk
theorem cW.sub {h0 h h':T Obj}{v:Value}{z:Nat}{e:TypeId}{l:List (List Value)}{lo n0:Nat} (ho:cW h v z e l lo) (hk:Kp v h h') (hf:Fr h0 n0) (hn:n0≤lo) (hs:Sub h0 h):Sub h0 h':=fun k o hk0=>hk k o (hs k o hk0) (ho.lt (by have:=hf.lt' hk0; omega))
theorem aJu {P:Program}{ro:Ro}{h:T Obj}{v x:Value}{z nx lo:Nat}{t e:TypeId}{i:TypeInfo}{zv:Value}{l m:List (List Value)} (ho:cW h v z e l lo) (hx:Sl ro h x z m) (hu:und P t=some (.slice e)) (hi':tin P e=some i) (hz:i.size=z) (hz0:0 < z) (hzer:zer P e=some zv) (hzs:zv.cells.size=z)
  (hm:m≠[]) (hok:m.flatten.all cU=true) (hb:(l.length+m.length)*i.bytes≤big) (hb2:l.length+m.length≤big) (hlo:lo≤nx) (hf:Fr h nx) :
  ∃ h',cC P ro h nx #[t,t] [v,x]=some (.slice (some (own nx z)) (l++m).length (l++m).length,h',nx+1)∧cW h' (.slice (some (own nx z)) (l++m).length (l++m).length) z e (l++m) lo∧Kp v h h'∧Fr h' (nx+1)∧(∀ k,k≠nx→h'.get k=h.get k∨h'.get k=none):=by
 have fin:∀ h':T Obj,(∀ k,k≠nx→h'.get k=h.get k∨h'.get k=none)→Fr h' (nx+1):=fun h' h2 k hk=>by
  rcases h2 k (by omega) with h3 | h3
  ·rw[h3]; exact hf k (by omega)
  ·exact h3
 rcases ho with ⟨rfl,rfl⟩ | ⟨id,h1,rfl,h4,h5⟩
 ·obtain⟨h',q1,q2,q3,q4⟩:=aAY (P:=P) (t:=t) (lo:=nx) (hi:=nx) (Own.nil (h:=h) (z:=z) (e:=e)) hx hu hi' hz hz0 hzer hzs hm hok (by simpa using hb) (by simpa using hb2) (Nat.le_refl _) (Nat.le_refl _)
  refine⟨h',q1,?_,fun k o hk _=>?_,fin h' q4,q4⟩
  ·rcases q2 with ⟨h6,_⟩ | ⟨id,h6,h7,h8,h9,h10⟩
   ·cases h6
   ·exact .inr ⟨id,by omega,h8,h9,h10⟩
  ·have:=hf.lt' hk
   rw[q3 k (.inl this) (by omega)]; exact hk
 ·have hid:=hf.lt' h5
  obtain⟨h',q1,q2,q3,q4⟩:=aAY (P:=P) (t:=t) (lo:=id) (hi:=id+1) (.inr ⟨id,Nat.le_refl _,by omega,rfl,h4,h5⟩:Own h _ z e l id (id+1)) hx hu hi' hz hz0 hzer hzs hm hok hb hb2 (show id≤nx by omega) (by omega)
  refine⟨h',q1,?_,fun k o hk hne=>?_,fin h' q4,q4⟩
  ·rcases q2 with ⟨h6,_⟩ | ⟨id2,h6,h7,h8,h9,h10⟩
   ·cases h6
   ·exact .inr ⟨id2,by omega,h8,h9,h10⟩
  ·have h7:=hf.lt' hk
   have h8:id≠k:=fun h=>hne (by rw[← h]; rfl)
   rw[q3 k (by omega) (by omega)]; exact hk
theorem aHL {P:Program}{ro:Ro}{h:T Obj}{v x:Value}{z nx lo:Nat}{t e:TypeId}{i:TypeInfo}{l:List (List Value)} (ho:cW h v z e l lo) (hx:Sl ro h x z []) (hu:und P t=some (.slice e)) (hi':tin P e=some i) :
  cC P ro h nx #[t,t] [v,x]=some (v,h,nx):=by
 obtain⟨a,len,rfl⟩:∃ a len,v=.slice a len len:=by
  rcases ho with ⟨rfl,_⟩ | ⟨id,_,rfl,_⟩
  ·exact⟨none,0,rfl⟩
  ·exact⟨_,_,rfl⟩
 have hs:xF P ro h e i.size i.bytes t x=some (0,[]):=by
  rcases hx with ⟨rfl,_⟩ | ⟨a,cap,rfl,h2,h3,h4,h5⟩
  ·simp only[xF,hu]
  ·have:cellsAt ro h a (0*i.size)=some []:=by
    have:cellsAt ro h a (0*z)=some []:=by simpa using h5
    rw[Nat.zero_mul] at this ⊢; exact this
   simp only[xF,hu,List.length_nil,this,Option.bind]
 have hb:Nat.ble (len+0) len=true:=Nat.ble_eq_true_of_le (by omega)
 simp only[cC,List.getElem?_toArray,List.getElem?_cons_zero,List.getElem?_cons_succ,hu,hi',Option.bind_some,hs,hb]
theorem aDR {P:Program}{ro:Ro}{h:T Obj}{v x:Value}{z nx lo:Nat}{t e:TypeId}{i:TypeInfo}{zv:Value}{l m:List (List Value)} (ho:cW h v z e l lo) (hx:Sl ro h x z m) (hu:und P t=some (.slice e)) (hi':tin P e=some i) (hz:i.size=z) (hz0:0 < z) (hzer:zer P e=some zv) (hzs:zv.cells.size=z)
  (hok:m.flatten.all cU=true) (hb:(l.length+m.length)*i.bytes≤big) (hb2:l.length+m.length≤big) (hlo:lo≤nx) (hf:Fr h nx) :
  ∃ r h' n',cC P ro h nx #[t,t] [v,x]=some (r,h',n')∧cW h' r z e (l++m) lo∧Kp v h h'∧nx≤n'∧Fr h' n'∧(iK r=none∨iK r=iK v∨iK r=some nx):=by
 cases m with
 | nil=>exact⟨v,h,nx,aHL ho hx hu hi',by rw[List.append_nil]; exact ho,(fun k o hk _=>hk),Nat.le_refl _,hf,.inr (.inl rfl)⟩
 | cons y m =>
  obtain⟨h',q1,q2,q3,q4,q5⟩:=aJu (P:=P) (t:=t) ho hx hu hi' hz hz0 hzer hzs (by simp) hok hb hb2 hlo hf
  exact⟨_,h',nx+1,q1,q2,q3,by omega,q4,.inr (.inr rfl)⟩
end V
end Go.Proofs.YtcaccnneblghgaaGreat
noncomputable section
namespace Go.Proofs.YtcaccnneblghgaaGreat
namespace V
open Go.Deep
theorem yP {ro:Ro}:∀ {n m:Nat}{a:Addr}{l1 l2:List Value},a.spot=none→roCells ro a n=some l1→roCells ro ⟨a.block,a.off+n,none⟩ m=some l2→roCells ro a (n+m)=some (l1++l2)
 | 0,m,a,l1,l2,hs,h1,h2=>by
  cases h1
  have:(⟨a.block,a.off+0,none⟩:Addr)=a:=by cases a; simp_all
  rw[this] at h2
  simpa using h2
 | n+1,m,a,l1,l2,hs,h1,h2=>by
  obtain⟨v,g1,h1⟩:=aM h1
  obtain⟨r,g2,h1⟩:=aM h1
  cases h1
  have ih:=yP (n:=n) (m:=m) (a:=⟨a.block,a.off+1,none⟩) rfl g2 (by rw[show a.off+1+n=a.off+(n+1) by omega]; exact h2)
  rw[show n+1+m=n+m+1 by omega]
  simp[roCells,g1,ih]
section
variable {H:Type}{enc:TypeId × Value→H}{P:Program}{W:World}
theorem aFh {N:Nat}:∀ {l l':List Value},kD N l=some l'→∀ {j:Nat}{y:Value},l'[j]?=some y→∃ x,l[j]?=some x∧wA N x=some y
 | [],l',h,j,y,hy=>by cases h; simp at hy
 | v::l,l',h,j,y,hy=>by
  obtain⟨v',h1,h⟩:=aM h
  obtain⟨r,h2,h⟩:=aM h
  cases h
  cases j with
  | zero=>simp at hy; subst hy; exact⟨v,rfl,h1⟩
  | succ j =>
   obtain⟨x,h3,h4⟩:=aFh h2 (j:=j) (by simpa using hy)
   exact⟨x,by simpa using h3,h4⟩
theorem aLt {a:Addr}{n:Nat}{cs cs':List Value} (h:W.cells? 0 a n=some cs) (hn:kD W.heap.size cs=some cs') (ha:a.spot=none):roCells (nI W) a n=some cs':=by
 obtain⟨_,hlen,hg⟩:=World.cells?_some h
 have hl:=(aBQ (φ:=fun _=>none) hn).length
 have:=aE0 (ro:=nI W) (l:=cs') (a:=a) ha fun j y hy=>by
  obtain⟨x,hx,hxy⟩:=aFh hn hy
  have hj:j < n:=by rw[← hlen,← hl]; exact (List.getElem?_eq_some_iff.1 hy).1
  have hc:=hg j hj
  rw[rU ha,hx] at hc
  have hb:a.block < W.heap.size:=by
   rcases Nat.lt_or_ge a.block W.heap.size with h1 | h1
   ·exact h1
   ·simp[World.cell?,Array.getElem?_eq_none h1] at hc
  have hbb:Nat.blt a.block W.heap.size=true:=by simp[Nat.blt]; omega
  simp only[nI,hbb,hc,Option.bind,hxy]
 rw[hl,hlen] at this
 exact this
theorem aJU {N:Nat}{a:Addr}{l c:Nat} (hs:a.spot=none) (hb:a.block < N) (hc:0 < c):wA N (.slice (some a) l c)=some (.slice (some a) l c):=by
 have:Nat.blt a.block N=true:=by simp[Nat.blt]; omega
 cases c with
 | zero=>omega
 | succ c=>cases l<;>simp[wA,hs,this]
theorem aOH {t e:TypeId}{z:Nat} (ht:P.underlying t=some (.slice e)) (hz:P.cellsOf e=z) (hz0:0 < z) {fuel:Nat}{cs:List Value}{x:DataW H × List MemPlace} (h:DataW.trod enc P W 0 (fun _=>true) true fuel t cs=some x)
  {El:List Value→Prop} (hel:∀ n cs' y,DataW.trod enc P W 0 (fun _=>true) true n e cs'=some y→∃ cs'',kD W.heap.size cs'=some cs''∧El cs'') :
  ∃ v v',cs=[v]∧wA W.heap.size v=some v'∧∃ l,Sl (nI W) .e v' z l∧∀ x∈l,El x:=by
 rcases open_slice ht h with ⟨rfl,_⟩ | ⟨a,len,cap,m,n,D,Pl,rfl,_,hle,_,hm,_,hx⟩
 ·exact⟨_,_,rfl,rfl,[],Sl.nil,fun x hx=>by cases hx⟩
 ·simp only[if_true] at hm
  subst hm
  refine⟨.slice (some a) len m,?_⟩
  rcases Nat.eq_zero_or_pos m with hc0 | hc0
  ·subst hc0
   obtain rfl:len=0:=by omega
   exact⟨.slice (some aG9) 0 0,rfl,rfl,[],.inr ⟨aG9,0,rfl,Nat.le_refl _,.inl rfl,by simp,by simp[cellsAt,aG9,roCells]⟩,fun x hx=>by cases hx⟩
  ·have h0:a.spot=none∧a.block < W.heap.size:=by
    obtain⟨cs',h1,_⟩:=hx 0 hc0
    rw[hz] at h1
    obtain⟨_,hl,hg⟩:=World.cells?_some h1
    have h2:=hg 0 hz0
    have h3:cs'[0]?=some (cs'[0]'(by omega)):=List.getElem?_eq_getElem (by omega)
    rw[h3] at h2
    have hsp:a.spot=none:=by
     have:=World.cell?_spot h2
     simpa [Addr.add] using this
    refine⟨hsp,?_⟩
    rcases Nat.lt_or_ge a.block W.heap.size with h4 | h4
    ·exact h4
    ·rw[rU hsp,rU rfl] at h2
     simp[World.cell?,Array.getElem?_eq_none h4] at h2
   obtain⟨hs,hb⟩:=h0
   refine⟨.slice (some a) len m,rfl,aJU hs hb hc0,?_⟩
   have key:∀ k,k≤len→∃ l:List (List Value),l.length=k∧(∀ x∈l,x.length=z)∧(∀ x∈l,El x)∧roCells (nI W) a (k*z)=some l.flatten:=by
    intro k
    induction k with
    | zero=>intro _; exact⟨[],rfl,by simp,by simp,by simp[roCells]⟩
    | succ k ih =>
     intro hk
     obtain⟨l,l1,l2,l3,l4⟩:=ih (by omega)
     obtain⟨cs',h1,h2⟩:=hx k (by omega)
     rw[hz] at h1
     obtain⟨cs'',h3,h4⟩:=hel _ _ _ h2
     have h5:=aLt h1 h3 (by rw[rU hs])
     have hlen:cs''.length=z:=yQ h5
     rw[rU hs] at h5
     refine⟨l++[cs''],by simp[l1],?_,?_,?_⟩
     ·intro x hx2
      rcases List.mem_append.1 hx2 with h6 | h6
      ·exact l2 x h6
      ·simp at h6; subst h6; exact hlen
     ·intro x hx2
      rcases List.mem_append.1 hx2 with h6 | h6
      ·exact l3 x h6
      ·simp at h6; subst h6; exact h4
     ·rw[Nat.succ_mul]
      have:=yP hs l4 h5
      simpa using this
   obtain⟨l,l1,l2,l3,l4⟩:=key len (Nat.le_refl _)
   refine⟨l,.inr ⟨a,m,by rw[l1],by omega,.inl hs,l2,?_⟩,l3⟩
   unfold cellsAt
   rw[hs,l1]
   exact l4
end
theorem zzB{α:Type}{o:Option α}{a:α}{K:α→Prop}(k:K a)(h:o=some a:=by simp (disch:=first|omega|exact nnN _|assumption) only [BB,B2,↓reduceIte,Nat.reduceLeDiff,Nat.reduceAdd,CC]<;>rfl):aB o K:=aA h k
end V
end Go.Proofs.YtcaccnneblghgaaGreat