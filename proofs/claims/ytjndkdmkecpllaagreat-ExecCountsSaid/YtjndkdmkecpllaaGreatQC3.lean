/- Texts laid one behind the other: V3, G, W1.
   No condition. -/
import Derived.CheckFast
import Derived.Carry
import Derived.ProofKit
import Derived.SizedLaws
import Derived.JoinedCond
import Derived.Test.YtjndkdmkecpllaaGreatProg
import Derived.KernelRfl
import Derived.Deep.Slices
import Derived.Test.YtjndkdmkecpllaaGreatQC2
set_option linter.unusedVariables false
set_option linter.unusedSimpArgs false
set_option linter.unusedVariables false
set_option linter.unusedSimpArgs false
noncomputable section
namespace Go.Proofs.YtjndkdmkecpllaaGreat
namespace V
abbrev Env:=Nat→Value
def Env.put (e:Env) (d:Nat) (v:Value):Env:=fun i=>match Nat.beq i d with
  | true=>v
  | false=>e i
def aA {α:Type} (o:Option α) (K:α→Prop):Prop:=match o with
  | some a=>K a
  | none=>False
abbrev eC {α:Type} (o:Option α) (K:α→Prop):Prop:=match o with
  | some a=>K a
  | none=>False
abbrev evE (e:Env):Operand→Option Value
  | .tmp i=>some (e i)
  | .const v=>match flat v with
    | true=>some v
    | false=>none
  | .global _=>none
  | .func f=>some (.func (.func f) #[] #[])
abbrev aDi (e:Env):List Operand→Option (List Value)
  | []=>some []
  | x::r=>(evE e x).bind fun v=>(aDi e r).bind fun vs=>some (v::vs)
abbrev aKu (e:Env):Option Operand→Option (Option Value)
  | none=>some none
  | some x=>(evE e x).bind fun v=>some (some v)
abbrev aKv (e:Env):List (Nat × Operand)→Option (List (Nat × Value))
  | []=>some []
  | x::r=>(evE e x.2).bind fun v=>(aKv e r).bind fun vs=>some ((x.1,v)::vs)
def asP:Value→Option Addr
  | .pointer (some a)=>some a
  | _=>none
def asAgg:Value→Option (Array Value)
  | .agg cs=>some cs
  | _=>none
def load1 (ro:Ro) (h:T Obj) (v:Value):Option Value:=(asP v).bind fun a=>match cellsAt ro h a 1 with
  | some [x]=>some x
  | _=>none
def loadA (ro:Ro) (h:T Obj) (n:Nat) (v:Value):Option Value:=(asP v).bind fun a=>(cellsAt ro h a n).bind fun l=>some (.agg l.toArray)
def aY (k:Nat) (v:Value):Option Value:=(asP v).bind fun a=>some (.pointer (some (fwd a k)))
def aPL (off:Nat) (v:Value):Option Value:=(asAgg v).bind fun cs=>cs[off]?
def aPM (n off:Nat) (v:Value):Option Value:=(asAgg v).bind fun cs=>match Nat.ble (off+n) cs.size with
  | true=>some (.agg ((cs.toList.drop off).take n).toArray)
  | false=>none
def ixArr (n z:Nat) (x i:Value):Option Value:=(mE i).bind fun i=>(asP x).bind fun a=>match Nat.blt i n with
  | true=>some (.pointer (some (fwd a (i*z))))
  | false=>none
def dI (z:Nat) (x i:Value):Option Value:=(mE i).bind fun i=>match x with
  | .slice (some a) len _=>match Nat.blt i len with
    | true=>match a.spot with
      | none=>some (.pointer (some (fwd a (i*z))))
      | some z'=>match Nat.beq z z' with
        | true=>some (.pointer (some (elt a (i*z))))
        | false=>none
    | false=>none
  | _=>none
def aOy (x i:Value):Option Value:=(mE i).bind fun i=>match x with
  | .string s=>match s.data.toList[i]? with
    | some b=>some (.int .u8 b.toNat)
    | none=>none
  | _=>none
def aMs (n z:Nat) (x i:Value):Option Value:=(mE i).bind fun i=>(asAgg x).bind fun cs=>match Nat.blt i n with
  | true=>cs[i*z]?
  | false=>none
def aPS (n z:Nat) (x i:Value):Option Value:=(mE i).bind fun i=>(asAgg x).bind fun cs=>match Nat.blt i n,Nat.ble (i*z+z) cs.size with
  | true,true=>some (.agg ((cs.toList.drop (i*z)).take z).toArray)
  | _,_=>none
def aX (op:BinOp) (a b:Value):Option Value:=match a,b with
  | .int k x,.int k' y=>match op with
    | .shl | .shr=>aAK op k x y
    | _=>match decide (k=k') with
      | true=>qR op k x y
      | false=>none
  | _,_=>none
def aPP (op:BinOp) (a b:Value):Option Value:=match a,b with
  | .string x,.string y=>aNc op x y
  | _,_=>none
def aAP (op:BinOp) (a b:Value):Option Value:=match op,a,b with
  | .eql,.bool x,.bool y=>some (.bool (x==y))
  | .neq,.bool x,.bool y=>some (.bool (!(x==y)))
  | _,_,_=>none
def aHe (ks:List Nat) (op:BinOp) (a b:Value):Option Value:=match a,b with
  | .agg xs,.agg ys=>match op with
    | .eql=>(dG ks xs.toList ys.toList).bind fun b=>some (.bool b)
    | .neq=>(dG ks xs.toList ys.toList).bind fun b=>some (.bool (!b))
    | _=>none
  | _,_=>none
def aAd (op:BinOp) (a b:Value):Option Value:=match op,a,b with
  | .eql,.pointer none,.pointer y=>some (.bool y.isNone)
  | .eql,.pointer x,.pointer none=>some (.bool x.isNone)
  | .neq,.pointer none,.pointer y=>some (.bool (!y.isNone))
  | .neq,.pointer x,.pointer none=>some (.bool (!x.isNone))
  | _,_,_=>none
def slB (op:BinOp) (a b:Value):Option Value:=match op,a,b with
  | .eql,.slice none _ _,.slice y _ _=>some (.bool y.isNone)
  | .eql,.slice x _ _,.slice none _ _=>some (.bool x.isNone)
  | .neq,.slice none _ _,.slice y _ _=>some (.bool (!y.isNone))
  | .neq,.slice x _ _,.slice none _ _=>some (.bool (!x.isNone))
  | _,_,_=>none
def dK (c a b:Value):Option Value:=match c with
  | .bool true=>some a
  | .bool false=>some b
  | _=>none
def bW:Value→Option Value
  | .pointer (some a)=>some (.pointer (some a))
  | .func (.func f) a b=>some (.func (.func f) a b)
  | _=>none
def pK (k:IntKind):Value→Option Value
  | .int _ n=>some (.int k (wr k n))
  | _=>none
def nth (i:Nat):Value→Option Value
  | .tuple vs=>vs[i]?
  | _=>none
def cU:Value→Option Value
  | .slice _ n _=>some (.int .i64 n)
  | _=>none
def aLQ:Value→Option Value
  | .string s=>some (.int .i64 s.size)
  | _=>none
def ptr (id:Nat):Value:=.pointer (some (own id 0))
def bY (n:Nat) (h:T Obj) (a v:Value):Option (T Obj):=(asP a).bind fun a=>match Nat.beq v.cells.size n with
  | true=>jM h a v.cells.toList
  | false=>none
abbrev KV:=Value→T Obj→Nat→Prop
abbrev aB3:=FuncId→List Value→T Obj→Nat→KV→Prop
abbrev ptQ (P:Program) (ro:Ro) (e:Env) (h:T Obj) (aid:Nat) (op:Op) (K:Value→Option Obj→Prop):Prop :=
  match op with
  | .move x | .assign x=>eC (evE e x) fun v=>K v none
  | .pick c a b=>eC (evE e c) fun c=>eC (evE e a) fun a=>eC (evE e b) fun b=>aA (dK c a b) fun v=>K v none
  | .alloc ty=>aA (zer P ty) fun z=>K (ptr aid) (some (.cells z.cells ty))
  | .box ty x=>eC (evE e x) fun v=>K (ptr aid) (some (.cells v.cells ty))
  | .build ty ps=>eC (aKv e ps.toList) fun vs=>aA (dF P ty vs) fun v=>K v none
  | .buildSlice ty n ps=>eC (aKv e ps.toList) fun vs=>aA (a7 P ty aid n vs) fun r=>K r.1 r.2
  | .load ty x=>eC (evE e x) fun v=>match isAgg P ty with
    | some true=>eC (siz P ty) fun n=>aA (loadA ro h n v) fun u=>K u none
    | some false=>aA (load1 ro h v) fun u=>K u none
    | none=>False
  | .nilCheck x=>eC (evE e x) fun v=>aA (bW v) fun v=>K v none
  | .binOp op ty x y _=>eC (evE e x) fun a=>eC (evE e y) fun b=>match und P ty with
    | some (.int _)=>aA (aX op a b) fun v=>K v none
    | some .string=>aA (aPP op a b) fun v=>K v none
    | some .bool=>aA (aAP op a b) fun v=>K v none
    | some (.pointer _)=>aA (aAd op a b) fun v=>K v none
    | some (.slice _)=>aA (slB op a b) fun v=>K v none
    | some (.struct _) | some (.array _ _)=>aA (dL P 20 ty) fun ks=>aA (aHe ks op a b) fun v=>K v none
    | _=>False
  | .unOp op _ x=>eC (evE e x) fun a=>aA (unV op a) fun v=>K v none
  | .convert s d x=>eC (evE e x) fun v=>match und P s,und P d with
    | some (.int _),some (.int k)=>aA (pK k v) fun v=>K v none
    | _,_=>aA (aBb P ro h aid s d v) fun r=>K r.1 r.2
  | .makeFunc (.func f) a b=>eC (aDi e a.toList) fun a=>eC (aDi e b.toList) fun b=>K (.func (.func f) a.toArray b.toArray) none
  | .makeMap _ none=>K (.map (some aid)) (some (.map #[] 0))
  | .makeSlice ty l c=>eC (evE e l) fun l=>eC (evE e c) fun c=>aA (aCm P ty aid l c) fun r=>K r.1 r.2
  | .slice ty x lo hi mx=>eC (evE e x) fun x=>eC (aKu e lo) fun lo=>eC (aKu e hi) fun hi=>eC (aKu e mx) fun mx=>aA (xT P ty x lo hi mx) fun v=>K v none
  | .fieldAddr s x f=>eC (evE e x) fun v=>eC (aGZ P s f) fun f=>eC (siz P f.type) fun n=>match n with
    | 0=>False
    | _+1=>aA (aY f.offset v) fun v=>K v none
  | .field ty x f=>eC (evE e x) fun v=>eC (aGZ P ty f) fun f=>match isAgg P f.type with
    | some true=>eC (siz P f.type) fun n=>aA (aPM n f.offset v) fun v=>K v none
    | some false=>aA (aPL f.offset v) fun v=>K v none
    | none=>False
  | .indexAddr ty x i=>eC (evE e x) fun x=>eC (evE e i) fun i=>match und P ty with
    | some (.array n el)=>eC (siz P el) fun z=>aA (ixArr n z x i) fun v=>K v none
    | some (.slice el)=>eC (siz P el) fun z=>aA (dI z x i) fun v=>K v none
    | _=>False
  | .index ty x i=>eC (evE e x) fun x=>eC (evE e i) fun i=>match und P ty with
    | some (.array n el)=>eC (siz P el) fun z=>match isAgg P el with
      | some true=>aA (aPS n z x i) fun v=>K v none
      | some false=>aA (aMs n z x i) fun v=>K v none
      | none=>False
    | some .string=>aA (aOy x i) fun v=>K v none
    | _=>False
  | .lookup ty x k ok=>eC (evE e x) fun x=>eC (evE e k) fun k=>aA (y0 P h ty x k ok) fun v=>K v none
  | .extract x i=>eC (evE e x) fun v=>aA (nth i v) fun v=>K v none
  | .call { callee:=.builtin b,args,argTypes }=>eC (aDi e args.toList) fun vs=>match b,vs,argTypes[0]? with
    | .len,[x],some ty=>match und P ty with
      | some .string=>aA (aLQ x) fun v=>K v none
      | some (.slice _)=>aA (cU x) fun v=>K v none
      | _=>aA (aG7 P h ty x) fun v=>K v none
    | _,_,_=>aA (iU P h b argTypes vs) fun v=>K v none
  | _=>False
def aB7 (C:aB3) (f:Value) (vs:List Value) (h:T Obj) (nx:Nat) (K:KV):Prop:=match f with
  | .func (.func k) a b=>C k (a.toList++vs++b.toList) h nx K
  | _=>False
abbrev ptL (P:Program) (ro:Ro) (C:aB3) (e:Env) (h:T Obj) (nx:Nat) (op:Op) (K:KV):Prop :=
  match op with
  | .store ty a x=>eC (evE e a) fun a=>eC (evE e x) fun x=>eC (siz P ty) fun n=>aA (bY n h a x) fun h=>K undef h nx
  | .mapUpdate ty m k x | .insert ty m k x=>eC (evE e m) fun m=>eC (evE e k) fun k=>eC (evE e x) fun x=>aA (uK P h ty m k x) fun h=>K undef h nx
  | .call { callee:=.builtin b,args,argTypes }=>eC (aDi e args.toList) fun vs=>match b with
    | .append=>aA (bX P ro h nx argTypes vs) fun r=>K r.1 r.2.1 r.2.2
    | .copy=>aA (aC0 P ro h nx argTypes vs) fun r=>K r.1 r.2.1 r.2.2
    | .clear=>match vs,argTypes[0]? with
      | [m],some ty=>aA (und P ty) fun _=>aA (zQ h m) fun h=>K (.tuple #[]) h nx
      | _,_=>False
    | _=>False
  | .call { callee:=.value f,args,.. }=>eC (evE e f) fun f=>eC (aDi e args.toList) fun vs=>aB7 C f vs h nx K
  | .convert s d x=>eC (evE e x) fun v=>aA (tC P h s d v) fun r=>K r.1 r.2 nx
  | _=>False
abbrev ptO (P:Program) (ro:Ro) (C:aB3) (e:Env) (h:T Obj) (nx aid:Nat) (op:Op) (K:KV):Prop :=
  match gH op with
  | true=>ptL P ro C e h nx op K
  | false=>ptQ P ro e h aid op fun v ob=>K v (zI h aid ob) nx
def ifP (v:Value) (w:Bool) (h:T Obj) (nx:Nat) (A:KV→Prop) (K:KV):Prop:=match v with
  | .bool b=>match b==w with
    | true=>A K
    | false=>K undef h nx
  | _=>K undef h nx
abbrev Gd:=Option (Value × Bool)
abbrev aEl (g:Gd) (h:T Obj) (nx:Nat) (A:KV→Prop) (K:KV):Prop:=match g with
  | none=>A K
  | some vw=>ifP vw.1 vw.2 h nx A K
abbrev gdP (ops:Array Oper) (e:Env) (g:Option (Nat × Bool)) (K:Gd→Prop):Prop:=match g with
  | none=>K none
  | some (j,w)=>match (ops[j]?).bind (·.dst) with
    | some d=>K (some (e d,w))
    | none=>False
abbrev aKS (n:Nat) (e:Env) (d:Option Tmp) (v:Value) (K:Env→Prop):Prop:=match d with
  | none=>K e
  | some d=>match Nat.blt d n with
    | true=>K (e.put d v)
    | false=>False
abbrev aLx (P:Program) (ro:Ro) (C:aB3) (n:Nat) (ops:Array Oper):List Oper→Env→T Obj→Nat→(Env→T Obj→Nat→Prop)→Prop
  | [],e,h,nx,Q=>Q e h nx
  | o::l,e,h,nx,Q=>gdP ops e o.guard fun g=>aEl g h nx (fun K=>ptO P ro C e h (nx+1) nx o.op K) fun v h nx=>aKS n e o.dst v fun e=>aLx P ro C n ops l e h nx Q
def rdE (P:Program) (e:Env):Op→Option Value
  | .load _ x=>evE e x
  | .lookup _ x _ _=>evE e x
  | .convert s _ x=>match und P s with
    | some (.slice _)=>evE e x
    | _=>none
  | .call { callee:=.builtin _,args,argTypes }=>match (argTypes[0]?).bind (und P) with
    | some (.map _ _)=>match aDi e args.toList with
      | some [v]=>some v
      | _=>none
    | _=>none
  | _=>none
def nR (v:Value) (h h':T Obj):Prop:=match blk v with
  | some b=>same b h h'
  | none=>True
def onP (g:Gd) (X:Prop):Prop:=match g with
  | none=>X
  | some vw=>vw.1=.bool vw.2→X
def aLc:List Nat→Nat→Nat
  | [],_=>0
  | x::_,0=>x
  | _::r,n+1=>aLc r n
def tF (b:List Nat) (i j:Nat):Bool:=!(aLc b j).testBit i
abbrev aN1 {α:Type} (K:List Nat→α):List Nat→List Nat→α
  | [],o=>K o
  | x::r,o=>aN1 K r (x::o)
abbrev aJ0 {α:Type} (K:List Nat→α):List Oper→Nat→List Nat→α
  | [],_,acc=>aN1 K acc []
  | o::l,j,acc=>CheckFast.force (CheckFast.one (fun i=>if i < j then acc.getD (j - 1 - i) 0 else 0) o) fun v=>aJ0 K l (j+1) (v::acc)
def uC (P:Program) (ops:Array Oper) (b:List Nat):Bool :=
  (List.range ops.size).all fun j=>match ops[j]? with
    | none=>false
    | some oj=>(oj.after.toList.all fun e=>!Region.binds .any e || decide (e.on < j))&&(List.range j).all fun i=>match ops[i]? with
      | none=>false
      | some oi=>match tF b i j with
        | false=>true
        | true=>sN P ops oi oj
abbrev aHZ (b:List Nat) (i:Nat) (h h':T Obj):List (Nat × Gd × Value)→Prop→Prop
  | [],K=>K
  | q::ls,K=>match tF b q.1 i with
    | true=>onP q.2.1 (nR q.2.2 h h')∧aHZ b i h h' ls K
    | false=>aHZ b i h h' ls K
abbrev aH0 (b:List Nat) (i:Nat) (v:Value):List (Nat × Gd × T Obj × T Obj)→Prop→Prop
  | [],K=>K
  | q::ms,K=>match tF b q.1 i with
    | true=>onP q.2.1 (nR v q.2.2.1 q.2.2.2)∧aH0 b i v ms K
    | false=>aH0 b i v ms K
abbrev ptD (P:Program) (ro:Ro) (C:aB3) (n:Nat) (ops:Array Oper) (b:List Nat) (n0:Nat):List Oper→Nat→List (Nat × Gd × Value)→List (Nat × Gd × T Obj × T Obj)→Env→T Obj→Nat→(Env→T Obj→Nat→Prop)→Prop
  | [],_,_,_,e,h,nx,Q=>Q e h nx
  | o::l,i,ls,ms,e,h,nx,Q=>gdP ops e o.guard fun g=>match gH o.op with
    | true=>aEl g h nx (fun K=>ptO P ro C e h nx (n0+i) o.op fun v h' nx'=>aHZ b i h h' ls (K v h' nx')) fun v h' nx'=>aKS n e o.dst v fun e=>ptD P ro C n ops b n0 l (i+1) ls ((i,g,h,h')::ms) e h' nx' Q
    | false=>match rdE P e o.op with
      | some a=>aEl g h nx (fun K=>ptO P ro C e h nx (n0+i) o.op fun v h' nx'=>aH0 b i a ms (K v h' nx')) fun v h' nx'=>aKS n e o.dst v fun e=>ptD P ro C n ops b n0 l (i+1) ((i,g,a)::ls) ms e h' nx' Q
      | none=>aEl g h nx (fun K=>ptO P ro C e h nx (n0+i) o.op K) fun v h' nx'=>aKS n e o.dst v fun e=>ptD P ro C n ops b n0 l (i+1) ls ms e h' nx' Q
def exP (x:Ex) (A:Prop) (B:Nat→Prop) (D:Prop):Prop:=match x with
  | .normal=>A
  | .exit i=>B i
  | .ret=>D
def d8 (b:Bool) (A B:Prop):Prop:=match b with
  | true=>A
  | false=>B
abbrev exQ (x:Ex) (A:Prop) (B:Nat→Prop) (D:Prop):Prop:=match x with
  | .normal=>A
  | .exit i=>B i
  | .ret=>D
abbrev aPR (b:Bool) (A B:Prop):Prop:=match b with
  | true=>A
  | false=>B
abbrev KE:=Ex→Env→T Obj→Nat→Prop
abbrev PT:=Env→T Obj→Nat→KE→Prop
def aEZ (B:PT):Nat→PT
  | 0=>fun _ _ _ _=>False
  | k+1=>fun e h nx Q=>B e h nx fun x e h nx=>exP x (∃ h',Sub h' h∧aEZ B k e h' nx Q) (fun i=>Q (.exit i) e h nx) (Q .ret e h nx)
def d5 (B:PT):PT:=fun e h nx Q=>∃ k,aEZ B k e h nx Q
def aZ (v:Value) (A B:Prop):Prop:=match v with
  | .bool true=>A
  | .bool false=>B
  | _=>False
abbrev pt (P:Program) (ro:Ro) (C:aB3) (n:Nat):Code→PT
  | .skip | .label _=>fun e h nx Q=>Q .normal e h nx
  | .ret=>fun e h nx Q=>Q .ret e h nx
  | .exit id=>fun e h nx Q=>Q (.exit id) e h nx
  | .seq a b=>fun e h nx Q=>pt P ro C n a e h nx fun x e h nx=>exQ x (pt P ro C n b e h nx Q) (fun i=>Q (.exit i) e h nx) (Q .ret e h nx)
  | .cond c a b=>fun e h nx Q=>eC (evE e c) fun v=>aZ v (pt P ro C n a e h nx Q) (pt P ro C n b e h nx Q)
  | .block id b=>fun e h nx Q=>pt P ro C n b e h nx fun x e h nx=>exQ x (Q .normal e h nx) (fun i=>aPR (Nat.beq i id) (Q .normal e h nx) (Q (.exit i) e h nx)) (Q .ret e h nx)
  | .loop b=>d5 (pt P ro C n b)
  | .scope b=>pt P ro C n b
  | .region _ ops draw=>fun e h nx Q=>match draw with
    | false=>aLx P ro C n ops ops.toList e h nx (Q .normal)
    | true=>aJ0 (fun b=>match uC P ops b with
      | true=>ptD P ro C n ops b nx ops.toList 0 [] [] e h (nx+ops.size) (Q .normal)
      | false=>False) ops.toList 0 []
  | _=>fun _ _ _ _=>False
abbrev aFb (P:Program) (ro:Ro) (e:Env) (h:T Obj):List ResultVar→(List Value→Prop)→Prop
  | [],K=>K []
  | .tmp i::r,K=>aFb P ro e h r fun vs=>K (e i::vs)
  | .cell a ty::r,K=>match isAgg P ty with
    | some true=>eC (siz P ty) fun n=>aA (loadA ro h n (e a)) fun v=>aFb P ro e h r fun vs=>K (v::vs)
    | some false=>aA (load1 ro h (e a)) fun v=>aFb P ro e h r fun vs=>K (v::vs)
    | none=>False
def i3 (vs:List Value):Env:=fun i=>(vs[i]?).getD undef
abbrev aOt (P:Program) (ro:Ro) (rs:List ResultVar) (K:KV):KE:=fun x e h nx=>exQ x (aFb P ro e h rs fun vs=>∃ h',Sub h' h∧K (aAg vs) h' nx) (fun _=>False) (aFb P ro e h rs fun vs=>∃ h',Sub h' h∧K (aAg vs) h' nx)
def d4 (h:T Obj) (aid:Nat) (o:Obj) (K:T Obj→Prop):Prop:=K (h.upd aid (some o))
def eG (h:T Obj) (aid:Nat) (o:Option Obj) (K:T Obj→Prop):Prop:=K (zI h aid o)
def puts:Env→List (Nat × Value)→Env
  | e,[]=>e
  | e,p::l=>puts (e.put p.1 p.2) l
def aKh (f:Func):Code:=f.body.getD .skip
def bJ (P:Program) (ro:Ro) (C:aB3) (f:Func) (vs:List Value) (h:T Obj) (nx:Nat) (K:KV):Prop:=pt P ro C f.ntmps (aKh f) (i3 vs) h nx (aOt P ro f.results.toList K)
def aN (P:Program) (ro:Ro):aB3:=fun f vs h nx K=>∃ k v h' nx',call P ro k f vs h nx v h' nx'∧K v h' nx'
end V
end Go.Proofs.YtjndkdmkecpllaaGreat
set_option linter.unusedVariables false
set_option linter.unusedSimpArgs false
noncomputable section
namespace Go.Proofs.YtjndkdmkecpllaaGreat
namespace V
theorem aQ {α:Type} {o:Option α} {K:α→Prop} (h:aA o K):∃ a,o=some a∧K a:=by
  cases o with
  | none=>exact h.elim
  | some a=>exact ⟨a,rfl,h⟩
def fZ (t:T Value):Env:=fun i=>(t.get i).getD undef
section
variable {P:Program} {ro:Ro} {t:T Value} {hp:T Obj}
theorem dH (x:Operand):evl t x=evE (fZ t) x:=by cases x<;>rfl
theorem oV:∀ xs:List Operand,vE t xs=aDi (fZ t) xs:=by
  intro xs
  induction xs with
  | nil=>rfl
  | cons x xs ih=>simp only [vE,aDi]; rw [dH,ih]
theorem aC4 (x:Option Operand):aGT t x=aKu (fZ t) x:=by
  cases x with
  | none=>rfl
  | some x=>simp only [aGT,aKu]; rw [dH]
theorem aGU:∀ xs:List (Nat × Operand),aFE t xs=aKv (fZ t) xs:=by
  intro xs
  induction xs with
  | nil=>rfl
  | cons x xs ih=>simp only [aFE,aKv]; rw [dH,ih]
theorem aJk (d:Nat) (v:Value):fZ (t.upd d (some v))=(fZ t).put d v:=by
  funext i
  unfold fZ Env.put
  rw [T.get_upd]
  by_cases e:i=d
  · subst e; simp
  · rw [if_neg e]
    cases hb:Nat.beq i d with
    | true=>exact absurd (Nat.eq_of_beq_eq_true hb) e
    | false=>rfl
theorem qI {v:Value} {a:Addr} (h:asP v=some a):v=.pointer (some a):=by
  unfold asP at h
  split at h
  · cases h; rfl
  · cases h
theorem tV {v:Value} {a:Array Value} (h:asAgg v=some a):v=.agg a:=by
  unfold asAgg at h
  split at h
  · cases h; rfl
  · cases h
theorem aKQ {aid:Nat} {op:Op} {K:Value→Option Obj→Prop} (h:ptQ P ro (fZ t) hp aid op K):∃ v ob,opQ P ro t hp aid op=some (v,ob)∧K v ob:=by
  cases op with
  | move x | assign x =>
    obtain ⟨v,h1,h2⟩:=aQ h
    exact ⟨v,none,by simp only [opQ]; rw [dH,h1]; rfl,h2⟩
  | pick c a b =>
    obtain ⟨c',h1,h⟩:=aQ h
    obtain ⟨a',h2,h⟩:=aQ h
    obtain ⟨b',h3,h⟩:=aQ h
    obtain ⟨v,h4,h⟩:=aQ h
    refine ⟨v,none,?_,h⟩
    simp only [opQ]; rw [dH,dH,dH,h1,h2,h3]
    unfold dK at h4
    split at h4<;>cases h4<;>rfl
  | alloc ty =>
    obtain ⟨z,h1,h⟩:=aQ h
    exact ⟨_,_,by simp only [opQ]; rw [h1]; rfl,h⟩
  | box ty x =>
    obtain ⟨v,h1,h⟩:=aQ h
    exact ⟨_,_,by simp only [opQ]; rw [dH,h1]; rfl,h⟩
  | build ty ps =>
    obtain ⟨vs,h1,h⟩:=aQ h
    obtain ⟨v,h2,h⟩:=aQ h
    exact ⟨_,_,by simp only [opQ]; rw [aGU,h1]; show (dF P ty vs).bind _=_; rw [h2]; rfl,h⟩
  | buildSlice ty n ps =>
    obtain ⟨vs,h1,h⟩:=aQ h
    obtain ⟨r,h2,h⟩:=aQ h
    exact ⟨r.1,r.2,by simp only [opQ]; rw [aGU,h1]; exact h2,h⟩
  | load ty x =>
    obtain ⟨v,h1,h⟩:=aQ h
    split at h
    · rename_i hagg
      obtain ⟨n,h2,h⟩:=aQ h
      obtain ⟨u,h3,h⟩:=aQ h
      obtain ⟨a,h4,h5⟩:=aM h3
      refine ⟨u,none,?_,h⟩
      simp only [opQ]; rw [dH,h1,qI h4]
      show (mP P ro hp ty a).bind _=_
      unfold mP
      rw [hagg]
      show ((siz P ty).bind _).bind _=_
      rw [h2]
      show ((cellsAt ro hp a n).bind _).bind _=_
      rw [h5]; rfl
    · rename_i hagg
      obtain ⟨u,h3,h⟩:=aQ h
      obtain ⟨a,h4,h5⟩:=aM h3
      refine ⟨u,none,?_,h⟩
      simp only [opQ]; rw [dH,h1,qI h4]
      show (mP P ro hp ty a).bind _=_
      have:mP P ro hp ty a=some u:=by unfold mP; rw [hagg]; exact h5
      rw [this]; rfl
    · exact h.elim
  | nilCheck x =>
    obtain ⟨v,h1,h⟩:=aQ h
    obtain ⟨u,h2,h⟩:=aQ h
    refine ⟨u,none,?_,h⟩
    simp only [opQ]; rw [dH,h1]
    unfold bW at h2
    split at h2<;>cases h2<;>rfl
  | binOp op ty x y yt =>
    obtain ⟨a,h1,h⟩:=aQ h
    obtain ⟨b,h2,h⟩:=aQ h
    have key:∃ v,aCQ P op ty a b=some v∧K v none:=by
      split at h
      · obtain ⟨v,h3,h⟩:=aQ h
        refine ⟨v,?_,h⟩
        unfold aX at h3
        split at h3
        · exact h3
        · cases h3
      · obtain ⟨v,h3,h⟩:=aQ h
        refine ⟨v,?_,h⟩
        unfold aPP at h3
        split at h3
        · exact h3
        · cases h3
      · rename_i hu
        obtain ⟨v,h3,h⟩:=aQ h
        refine ⟨v,?_,h⟩
        unfold aAP at h3
        split at h3<;>cases h3<;>simp [aCQ,yW,aBw,hu,aA6]
      · rename_i hu
        obtain ⟨v,h3,h⟩:=aQ h
        refine ⟨v,?_,h⟩
        unfold aAd at h3
        split at h3<;>cases h3<;>simp only [aCQ,yW,aBw,hu,aA6,Option.bind]<;>(try rfl)<;>(cases ‹Option Addr›<;>rfl)
      · rename_i hu
        obtain ⟨v,h3,h⟩:=aQ h
        refine ⟨v,?_,h⟩
        unfold slB at h3
        split at h3<;>cases h3<;>simp only [aCQ,yW,aBw,hu,aA6,Option.bind]<;>(try rfl)<;>(cases ‹Option Addr›<;>rfl)
      · rename_i hu
        obtain ⟨ks,h3,h⟩:=aQ h
        obtain ⟨v,h4,h⟩:=aQ h
        refine ⟨v,?_,h⟩
        have hagg:isAgg P ty=some true:=by unfold isAgg; rw [hu]
        unfold aHe at h4
        split at h4
        · split at h4
          · simp only [aCQ,yW,aBw,hagg,h3]; exact h4
          · simp only [aCQ,yW,aBw,hagg,h3]; exact h4
          · cases h4
        · cases h4
      · rename_i hu
        obtain ⟨ks,h3,h⟩:=aQ h
        obtain ⟨v,h4,h⟩:=aQ h
        refine ⟨v,?_,h⟩
        have hagg:isAgg P ty=some true:=by unfold isAgg; rw [hu]
        unfold aHe at h4
        split at h4
        · split at h4
          · simp only [aCQ,yW,aBw,hagg,h3]; exact h4
          · simp only [aCQ,yW,aBw,hagg,h3]; exact h4
          · cases h4
        · cases h4
      · exact h.elim
    obtain ⟨v,h3,h⟩:=key
    exact ⟨v,none,by simp only [opQ]; rw [dH,dH,h1,h2]; show (aCQ P op ty a b).bind _=_; rw [h3]; rfl,h⟩
  | unOp op ty x =>
    obtain ⟨a,h1,h⟩:=aQ h
    obtain ⟨v,h2,h⟩:=aQ h
    exact ⟨v,none,by simp only [opQ]; rw [dH,h1]; show (unV op a).bind _=_; rw [h2]; rfl,h⟩
  | convert s d x =>
    obtain ⟨a,h1,h⟩:=aQ h
    have key:∃ r,aBb P ro hp aid s d a=some r∧K r.1 r.2:=by
      split at h
      · rename_i k1 k2 e1 e2
        obtain ⟨v,h2,h⟩:=aQ h
        refine ⟨(v,none),?_,h⟩
        unfold pK at h2
        split at h2
        · cases h2; simp only [aBb,e1,e2]
        · cases h2
      · exact aQ h
    obtain ⟨r,h2,h⟩:=key
    exact ⟨r.1,r.2,by simp only [opQ]; rw [dH,h1]; exact h2,h⟩
  | makeFunc fn a b =>
    cases fn with
    | func f =>
      obtain ⟨a',h1,h⟩:=aQ h
      obtain ⟨b',h2,h⟩:=aQ h
      exact ⟨_,_,by simp only [opQ]; rw [oV,oV,h1,h2]; rfl,h⟩
    | _=>exact h.elim
  | makeMap mt r =>
    cases r with
    | none=>exact ⟨_,_,rfl,h⟩
    | some r=>exact h.elim
  | makeSlice ty l c =>
    obtain ⟨l',h1,h⟩:=aQ h
    obtain ⟨c',h2,h⟩:=aQ h
    obtain ⟨r,h3,h⟩:=aQ h
    exact ⟨r.1,r.2,by simp only [opQ]; rw [dH,dH,h1,h2]; exact h3,h⟩
  | slice ty x lo hi mx =>
    obtain ⟨x',h1,h⟩:=aQ h
    obtain ⟨lo',h2,h⟩:=aQ h
    obtain ⟨hi',h3,h⟩:=aQ h
    obtain ⟨mx',h4,h⟩:=aQ h
    obtain ⟨v,h5,h⟩:=aQ h
    exact ⟨v,none,by simp only [opQ]; rw [dH,aC4,aC4,aC4,h1,h2,h3,h4]; show (xT P ty x' lo' hi' mx').bind _=_; rw [h5]; rfl,h⟩
  | fieldAddr s x f =>
    obtain ⟨v,h1,h⟩:=aQ h
    obtain ⟨fd,h2,h⟩:=aQ h
    obtain ⟨n,h3,h⟩:=aQ h
    split at h
    · exact h.elim
    · obtain ⟨u,h4,h⟩:=aQ h
      obtain ⟨a,h5,h6⟩:=aM h4
      cases h6
      refine ⟨_,none,?_,h⟩
      simp only [opQ]; rw [dH,h1,qI h5]
      show (aGZ P s f).bind _=_
      rw [h2]
      show (siz P fd.type).bind _=_
      rw [h3]; rfl
  | field ty x f =>
    obtain ⟨v,h1,h⟩:=aQ h
    obtain ⟨fd,h2,h⟩:=aQ h
    have key:∃ cs u,v=.agg cs∧y7 P fd.type cs fd.offset=some u∧K u none:=by
      split at h
      · rename_i hagg
        obtain ⟨n,h3,h⟩:=aQ h
        obtain ⟨u,h4,h⟩:=aQ h
        obtain ⟨cs,h5,h6⟩:=aM h4
        refine ⟨cs,u,tV h5,?_,h⟩
        unfold y7; rw [hagg]; show (siz P fd.type).bind _=_; rw [h3]; exact h6
      · rename_i hagg
        obtain ⟨u,h4,h⟩:=aQ h
        obtain ⟨cs,h5,h6⟩:=aM h4
        refine ⟨cs,u,tV h5,?_,h⟩
        unfold y7; rw [hagg]; exact h6
      · exact h.elim
    obtain ⟨cs,u,rfl,h3,h⟩:=key
    refine ⟨u,none,?_,h⟩
    simp only [opQ]; rw [dH,h1]
    show (aGZ P ty f).bind _=_
    rw [h2]
    show (y7 P fd.type cs fd.offset).bind _=_
    rw [h3]; rfl
  | indexAddr ty x i =>
    obtain ⟨x',h1,h⟩:=aQ h
    obtain ⟨i',h2,h⟩:=aQ h
    have key:∃ v,mD P ty x' i'=some v∧K v none:=by
      split at h
      · rename_i hu
        obtain ⟨z,h3,h⟩:=aQ h
        obtain ⟨v,h4,h⟩:=aQ h
        refine ⟨v,?_,h⟩
        obtain ⟨j,h5,h6⟩:=aM h4
        obtain ⟨a,h7,h8⟩:=aM h6
        cases qI h7
        unfold mD
        rw [h5]
        show (match und P ty,Value.pointer (some a) with | _,_=>_)=_
        simp only [hu]; rw [h3]; exact h8
      · rename_i hu
        obtain ⟨z,h3,h⟩:=aQ h
        obtain ⟨v,h4,h⟩:=aQ h
        refine ⟨v,?_,h⟩
        obtain ⟨j,h5,h6⟩:=aM h4
        unfold mD
        rw [h5]
        simp only [Option.bind,hu]
        split at h6
        · simp only [h3]; exact h6
        · cases h6
      · exact h.elim
    obtain ⟨v,h3,h⟩:=key
    exact ⟨v,none,by simp only [opQ]; rw [dH,dH,h1,h2]; show (mD P ty x' i').bind _=_; rw [h3]; rfl,h⟩
  | index ty x i =>
    obtain ⟨x',h1,h⟩:=aQ h
    obtain ⟨i',h2,h⟩:=aQ h
    have key:∃ v,wP P ty x' i'=some v∧K v none:=by
      split at h
      · rename_i el hu
        obtain ⟨z,h3,h⟩:=aQ h
        split at h
        · rename_i hagg
          obtain ⟨v,h4,h⟩:=aQ h
          refine ⟨v,?_,h⟩
          obtain ⟨j,h5,h6⟩:=aM h4
          obtain ⟨a,h7,h8⟩:=aM h6
          cases tV h7
          unfold wP
          rw [h5]
          simp only [Option.bind,hu,h3]
          split at h8
          · rename_i g1 g2
            rw [g1]; simp only [y7,hagg]; rw [h3]; simp only [Option.bind]; rw [g2]; exact h8
          · cases h8
        · rename_i hagg
          obtain ⟨v,h4,h⟩:=aQ h
          refine ⟨v,?_,h⟩
          obtain ⟨j,h5,h6⟩:=aM h4
          obtain ⟨a,h7,h8⟩:=aM h6
          cases tV h7
          unfold wP
          rw [h5]
          simp only [Option.bind,hu,h3]
          split at h8
          · rename_i g1
            rw [g1]; simp only [y7,hagg]; exact h8
          · cases h8
        · exact h.elim
      · rename_i hu
        obtain ⟨v,h4,h⟩:=aQ h
        refine ⟨v,?_,h⟩
        obtain ⟨j,h5,h6⟩:=aM h4
        unfold wP
        rw [h5]
        simp only [Option.bind,hu]
        split at h6
        · exact h6
        · cases h6
      · exact h.elim
    obtain ⟨v,h3,h⟩:=key
    exact ⟨v,none,by simp only [opQ]; rw [dH,dH,h1,h2]; show (wP P ty x' i').bind _=_; rw [h3]; rfl,h⟩
  | lookup ty x k ok =>
    obtain ⟨x',h1,h⟩:=aQ h
    obtain ⟨k',h2,h⟩:=aQ h
    obtain ⟨v,h3,h⟩:=aQ h
    exact ⟨v,none,by simp only [opQ]; rw [dH,dH,h1,h2]; show (y0 P hp ty x' k' ok).bind _=_; rw [h3]; rfl,h⟩
  | extract x i =>
    obtain ⟨v,h1,h⟩:=aQ h
    obtain ⟨u,h2,h⟩:=aQ h
    refine ⟨u,none,?_,h⟩
    simp only [opQ]; rw [dH,h1]
    unfold nth at h2
    split at h2
    · simp only [Option.bind]; rw [h2]
    · cases h2
  | call c =>
    obtain ⟨callee,args,ts⟩:=c
    cases callee with
    | builtin b =>
      obtain ⟨vs,h1,h⟩:=aQ h
      have key:∃ v,iU P hp b ts vs=some v∧K v none:=by
        split at h
        · rename_i x ty hty hzz
          have hb:∀ v,aG7 P hp ty x=some v→iU P hp .len ts [x]=some v:=by
            intro v hv
            unfold iU
            simp only
            rw [hty]; exact hv
          split at h
          · rename_i hu
            obtain ⟨v,h2,h⟩:=aQ h
            refine ⟨v,hb v ?_,h⟩
            unfold aLQ at h2
            split at h2
            · cases h2; simp only [aG7,hu]
            · cases h2
          · rename_i hu
            obtain ⟨v,h2,h⟩:=aQ h
            refine ⟨v,hb v ?_,h⟩
            unfold cU at h2
            split at h2
            · cases h2; simp only [aG7,hu]
            · cases h2
          · obtain ⟨v,h2,h⟩:=aQ h
            exact ⟨v,hb v h2,h⟩
        · exact aQ h
      obtain ⟨v,h2,h⟩:=key
      exact ⟨v,none,by simp only [opQ]; rw [oV,h1]; show (iU P hp b ts vs).bind _=_; rw [h2]; rfl,h⟩
    | _=>exact h.elim
  | _=>exact h.elim
end
end V
end Go.Proofs.YtjndkdmkecpllaaGreat
set_option linter.unusedVariables false
set_option linter.unusedSimpArgs false
noncomputable section
namespace Go.Proofs.YtjndkdmkecpllaaGreat
namespace V
def LeC (C C':i4):Prop:=∀ f args h nx v h' nx',C f args h nx v h' nx'→C' f args h nx v h' nx'
section
variable {P:Program} {ro:Ro}
theorem aO0 {C C':i4} (hC:LeC C C') {t:T Value} {h h':T Obj} {nx nx':Nat} {op:Op} {v:Value} (hl:opL P ro C t h nx op v h' nx'):opL P ro C' t h nx op v h' nx':=by
  cases op with
  | call c =>
    obtain ⟨callee,args,ts⟩:=c
    cases callee with
    | value f =>
      obtain ⟨k,a,b,vs,h1,h2,h3⟩:=hl
      exact ⟨k,a,b,vs,h1,h2,hC _ _ _ _ _ _ _ h3⟩
    | builtin b=>exact hl
    | invoke r m=>exact hl
  | _=>exact hl
theorem qS {C C':i4} (hC:LeC C C') {t:T Value} {h h':T Obj} {nx aid nx':Nat} {op:Op} {v:Value} (hl:opR P ro C t h nx aid op v h' nx'):opR P ro C' t h nx aid op v h' nx':=by
  unfold opR at hl ⊢
  cases hq:gH op with
  | true=>rw [hq] at hl; exact aO0 hC hl
  | false=>rw [hq] at hl; exact hl
theorem aFV {C C':i4} (hC:LeC C C') {n:Nat} {ops:Array Oper}:∀ (l:List Oper) (s s':St),yO P ro C n ops l s s'→yO P ro C' n ops l s s':=by
  intro l
  induction l with
  | nil=>intro s s' h; exact h
  | cons o l ih =>
    intro s s' h
    simp only [yO] at h ⊢
    cases hw:wanted ops s.t o with
    | true=>rw [hw] at h; obtain ⟨v,h',nx',t',h1,h2,h3⟩:=h; exact ⟨v,h',nx',t',qS hC h1,h2,ih _ _ h3⟩
    | false=>rw [hw] at h; obtain ⟨t',h1,h2⟩:=h; exact ⟨t',h1,ih _ _ h2⟩
theorem rQ {C C':i4} (hC:LeC C C') {n n0:Nat} {ops:Array Oper}:∀ (l:List Oper) (i:Nat) (ls:List (Nat × Nat)) (ms:List (Nat × T Obj × T Obj)) (s s':St),tI P ro C n ops n0 l i ls ms s s'→tI P ro C' n ops n0 l i ls ms s s':=by
  intro l
  induction l with
  | nil=>intro i ls ms s s' h; exact h
  | cons o l ih =>
    intro i ls ms s s' h
    simp only [tI] at h ⊢
    cases hw:wanted ops s.t o with
    | true =>
      rw [hw] at h; obtain ⟨v,h',nx',t',h1,h2,h3⟩:=h
      refine ⟨v,h',nx',t',qS hC h1,h2,?_⟩
      cases hq:gH o.op with
      | true=>rw [hq] at h3; exact ⟨h3.1,ih _ _ _ _ _ h3.2⟩
      | false =>
        rw [hq] at h3
        simp only at h3 ⊢
        cases hla:rdB P s.t o.op with
        | none=>rw [hla] at h3; exact ih _ _ _ _ _ h3
        | some a=>rw [hla] at h3; exact ⟨h3.1,ih _ _ _ _ _ h3.2⟩
    | false=>rw [hw] at h; obtain ⟨t',h1,h2⟩:=h; exact ⟨t',h1,ih _ _ _ _ _ h2⟩
def LeX (X X':vW):Prop:=∀ n c s e s',X n c s e s'→X' n c s e s'
theorem aCT {X X':vW} (hX:LeX X X'):LeC (aCS P ro X) (aCS P ro X'):=by
  rintro f args h nx v h' nx' (⟨fn,body,e,s,vs,h1,h2,h3,h4,h5⟩ | ho)
  · exact .inl ⟨fn,body,e,s,vs,h1,h2,h3,hX _ _ _ _ _ h4,h5⟩
  · exact .inr ho
theorem aKo {X X':vW} (hX:LeX X X'):LeX (aGL P ro X) (aGL P ro X'):=by
  intro n c s e s' h
  cases c with
  | seq a b =>
    rcases h with ⟨s1,h1,h2⟩ | ⟨h1,h2⟩
    · exact .inl ⟨s1,hX _ _ _ _ _ h1,hX _ _ _ _ _ h2⟩
    · exact .inr ⟨h1,hX _ _ _ _ _ h2⟩
  | cond c a b=>obtain ⟨v,h1,h2⟩:=h; exact ⟨v,h1,hX _ _ _ _ _ h2⟩
  | block id b=>obtain ⟨e1,h1,h2⟩:=h; exact ⟨e1,hX _ _ _ _ _ h1,h2⟩
  | loop b =>
    rcases h with ⟨s1,hh,h1,h3,h2⟩ | ⟨h1,h2⟩
    · exact .inl ⟨s1,hh,hX _ _ _ _ _ h1,h3,hX _ _ _ _ _ h2⟩
    · exact .inr ⟨h1,hX _ _ _ _ _ h2⟩
  | scope b=>exact hX _ _ _ _ _ h
  | region id ops draw =>
    obtain ⟨h1,h2⟩:=h
    refine ⟨h1,?_⟩
    cases draw with
    | false=>exact aFV (aCT hX) _ _ _ h2
    | true=>exact ⟨h2.1,rQ (aCT hX) _ _ _ _ _ _ h2.2⟩
  | _=>exact h
theorem aJd:∀ k,LeX (code P ro k) (code P ro (k+1)):=by
  intro k
  induction k with
  | zero=>intro n c s e s' h; exact h.elim
  | succ k ih=>exact aKo ih
theorem pP {k k':Nat} (h:k≤k'):LeX (code P ro k) (code P ro k'):=by
  induction h with
  | refl=>intro n c s e s' h; exact h
  | step _ ih=>intro n c s e s' h; exact aJd _ _ _ _ _ _ (ih _ _ _ _ _ h)
theorem gV {k k':Nat} (h:k≤k'):LeC (call P ro k) (call P ro k'):=aCT (pP h)
variable {t:T Value} {h:T Obj} {nx:Nat}
theorem aKP {op:Op} {K:KV} (hl:ptL P ro (aN P ro) (fZ t) h nx op K):∃ k v h' nx',opL P ro (call P ro k) t h nx op v h' nx'∧K v h' nx':=by
  cases op with
  | store ty a x =>
    obtain ⟨a',h1,hl⟩:=aQ hl
    obtain ⟨x',h2,hl⟩:=aQ hl
    obtain ⟨n,h3,hl⟩:=aQ hl
    obtain ⟨h',h4,hl⟩:=aQ hl
    obtain ⟨ad,h5,h6⟩:=aM h4
    refine ⟨0,_,_,_,⟨a',x',by rw [dH]; exact h1,by rw [dH]; exact h2,?_,rfl,rfl⟩,hl⟩
    rw [qI h5]
    simp only [xY]
    rw [h3]; exact h6
  | mapUpdate ty m k x | insert ty m k x =>
    obtain ⟨m',h1,hl⟩:=aQ hl
    obtain ⟨k',h2,hl⟩:=aQ hl
    obtain ⟨x',h3,hl⟩:=aQ hl
    obtain ⟨h',h4,hl⟩:=aQ hl
    exact ⟨0,_,_,_,⟨m',k',x',by rw [dH]; exact h1,by rw [dH]; exact h2,by rw [dH]; exact h3,h4,rfl,rfl⟩,hl⟩
  | call c =>
    obtain ⟨callee,args,ts⟩:=c
    cases callee with
    | builtin b =>
      obtain ⟨vs,h1,hl⟩:=aQ hl
      cases b<;>try (exact hl.elim)
      case append =>
        obtain ⟨r,h2,hl⟩:=aQ hl
        exact ⟨0,r.1,r.2.1,r.2.2,⟨vs,by rw [oV]; exact h1,h2⟩,hl⟩
      case clear =>
        simp only at hl
        split at hl
        · rename_i m ty hty
          obtain ⟨u,h2,hl⟩:=aQ hl
          obtain ⟨h',h3,hl⟩:=aQ hl
          exact ⟨0,_,_,_,⟨_,by rw [oV]; exact h1,_,_,rfl,hty,by rw [h2]; rfl,h3,rfl,rfl⟩,hl⟩
        · exact hl.elim
      case copy =>
        obtain ⟨r,h2,hl⟩:=aQ hl
        exact ⟨0,r.1,r.2.1,r.2.2,⟨vs,by rw [oV]; exact h1,h2⟩,hl⟩
    | value f =>
      obtain ⟨fv,h1,hl⟩:=aQ hl
      obtain ⟨vs,h2,hl⟩:=aQ hl
      unfold aB7 at hl
      split at hl
      · rename_i k a b _
        obtain ⟨fu,v,h',nx',h3,h4⟩:=hl
        exact ⟨fu,v,h',nx',⟨k,a,b,vs,by rw [dH]; exact h1,by rw [oV]; exact h2,h3⟩,h4⟩
      · exact hl.elim
    | invoke r m=>exact hl.elim
  | convert sx dx x =>
    obtain ⟨x',h1,hl⟩:=aQ hl
    obtain ⟨r,h2,hl⟩:=aQ hl
    exact ⟨0,r.1,r.2,nx,⟨x',by rw [dH]; exact h1,h2,rfl⟩,hl⟩
  | _=>exact hl.elim
theorem yH {aid:Nat} {op:Op} {K:KV} (hl:ptO P ro (aN P ro) (fZ t) h nx aid op K):∃ k v h' nx',opR P ro (call P ro k) t h nx aid op v h' nx'∧K v h' nx':=by
  unfold ptO at hl
  unfold opR
  cases hq:gH op with
  | true=>rw [hq] at hl; exact aKP hl
  | false =>
    rw [hq] at hl
    obtain ⟨v,ob,h1,h2⟩:=aKQ hl
    exact ⟨0,v,_,nx,⟨ob,h1,rfl,rfl⟩,h2⟩
def aG2 (g:Gd):Prop:=match g with
  | none=>True
  | some vw=>vw.1=.bool vw.2
theorem aGl {g:Gd} {X:Prop} (h:onP g X) (hg:aG2 g):X:=by
  cases g with
  | none=>exact h
  | some vw=>exact h hg
theorem aEX {ops:Array Oper} {o:Oper} {F:Gd→Prop} (hg:gdP ops (fZ t) o.guard F) :
    ∃ g,F g∧(∀ h nx A K,aEl g h nx A K→(wanted ops t o=true∧A K)∨(wanted ops t o=false∧K undef h nx))∧(wanted ops t o=true→aG2 g):=by
  unfold gdP at hg
  unfold wanted
  cases hgd:o.guard with
  | none=>rw [hgd] at hg; exact ⟨none,hg,fun h nx A K hA=>.inl ⟨rfl,hA⟩,fun _=>trivial⟩
  | some jw =>
    obtain ⟨j,w⟩:=jw
    rw [hgd] at hg
    simp only at hg ⊢
    cases hd:(ops[j]?).bind (·.dst) with
    | none=>rw [hd] at hg; exact hg.elim
    | some d =>
      rw [hd] at hg
      simp only at hg ⊢
      refine ⟨_,hg,?_,?_⟩
      · intro h nx A K hA
        unfold aEl ifP at hA
        simp only at hA
        split at hA
        · rename_i b hb
          have hb':t.get d=some (.bool b):=by
            unfold fZ at hb
            cases ht:t.get d with
            | none=>rw [ht] at hb; cases hb
            | some v=>rw [ht] at hb; exact congrArg some hb
          rw [hb']
          simp only
          cases hbw:b==w with
          | true=>rw [hbw] at hA; exact .inl ⟨rfl,hA⟩
          | false=>rw [hbw] at hA; exact .inr ⟨rfl,hA⟩
        · rename_i hnb
          right
          refine ⟨?_,hA⟩
          cases ht:t.get d with
          | none=>rfl
          | some v =>
            cases v with
            | bool b=>exact absurd (show fZ t d=.bool b by unfold fZ; rw [ht]; rfl) (hnb b)
            | _=>rfl
      · intro hw
        unfold aG2
        simp only
        split at hw
        · rename_i b hb
          have:b=w:=by simpa using hw
          subst this
          unfold fZ; rw [hb]; rfl
        · cases hw
theorem kU {n:Nat} {d:Option Tmp} {v:Value} {K:Env→Prop} (hp:aKS n (fZ t) d v K):∃ t',put n t d v=some t'∧K (fZ t'):=by
  cases d with
  | none=>exact ⟨t,rfl,hp⟩
  | some d =>
    unfold aKS at hp
    simp only at hp
    cases hb:Nat.blt d n with
    | true=>rw [hb] at hp; exact ⟨t.upd d (some v),by simp only [put]; rw [hb],by rw [aJk]; exact hp⟩
    | false=>rw [hb] at hp; exact hp.elim
theorem aGw {n:Nat} {ops:Array Oper}:∀ (l:List Oper) (t:T Value) (h:T Obj) (nx:Nat) (Q:Env→T Obj→Nat→Prop),aLx P ro (aN P ro) n ops l (fZ t) h nx Q →
    ∃ k s',yO P ro (call P ro k) n ops l ⟨t,h,nx⟩ s'∧Q (fZ s'.t) s'.h s'.nx:=by
  intro l
  induction l with
  | nil=>intro t h nx Q hl; exact ⟨0,_,rfl,hl⟩
  | cons o l ih =>
    intro t h nx Q hl
    obtain ⟨g,h1,h2,_⟩:=aEX hl
    simp only [yO]
    rcases h2 _ _ _ _ h1 with ⟨hw,hA⟩ | ⟨hw,hK⟩
    · obtain ⟨k1,v,h',nx',h3,h4⟩:=yH hA
      obtain ⟨t',h5,h6⟩:=kU h4
      obtain ⟨k2,s',h7,h8⟩:=ih t' h' nx' Q h6
      refine ⟨max k1 k2,s',?_,h8⟩
      rw [hw]
      exact ⟨v,h',nx',t',qS (gV (Nat.le_max_left _ _)) h3,h5,aFV (gV (Nat.le_max_right _ _)) _ _ _ h7⟩
    · obtain ⟨t',h5,h6⟩:=kU hK
      obtain ⟨k2,s',h7,h8⟩:=ih t' h nx Q h6
      refine ⟨k2,s',?_,h8⟩
      rw [hw]
      exact ⟨t',h5,h7⟩
theorem aE4:∀ (l:List Nat) (i:Nat),aLc l i=l.getD i 0
  | [],_=>by simp [aLc]
  | _::_,0=>rfl
  | _::r,n+1=>by simp [aLc,aE4 r n]
theorem wN (ops:Array Oper) (i j:Nat):tF (bef ops).toList i j=free (bef ops) i j:=by
  unfold tF free
  rw [aE4]; simp
theorem aC2 (ops:Array Oper):uC P ops (bef ops).toList=uB P ops:=by
  unfold uC uB
  simp only [wN]
  rfl
theorem aJP {α:Type} (K:List Nat→α):∀ (l o:List Nat),aN1 K l o=K (l.reverse++o)
  | [],o=>rfl
  | x::r,o=>by rw [aN1,aJP K r]; simp
theorem aFz {α:Type} (K:List Nat→α):∀ (l:List Oper) (j:Nat) (acc:List Nat),aJ0 K l j acc=K (CheckFast.beforeL l j acc)
  | [],j,acc=>by rw [aJ0,aJP,CheckFast.beforeL]; simp
  | o::r,j,acc=>by rw [aJ0,CheckFast.force_eq,aFz K r,CheckFast.beforeL,CheckFast.force_eq]
theorem aMd {α:Type} (K:List Nat→α) (ops:Array Oper):aJ0 K ops.toList 0 []=K (bef ops).toList:=by
  rw [aFz]
  have:=CheckFast.beforeF_eq ops
  unfold bef
  rw [← this]
  rfl
theorem aI7 {b:List Nat} {i:Nat} {h h':T Obj} {K:Prop}:∀ {lp:List (Nat × Gd × Value)},aHZ b i h h' lp K→K∧∀ q∈lp,tF b q.1 i=true→onP q.2.1 (nR q.2.2 h h'):=by
  intro lp
  induction lp with
  | nil=>intro h; exact ⟨h,fun q hq=>by cases hq⟩
  | cons q lp ih =>
    intro hs
    simp only [aHZ] at hs
    cases hf:tF b q.1 i with
    | true =>
      rw [hf] at hs
      obtain ⟨h1,h2⟩:=ih hs.2
      refine ⟨h1,fun x hx hfx=>?_⟩
      rcases List.mem_cons.1 hx with rfl | hx
      · exact hs.1
      · exact h2 x hx hfx
    | false =>
      rw [hf] at hs
      obtain ⟨h1,h2⟩:=ih hs
      refine ⟨h1,fun x hx hfx=>?_⟩
      rcases List.mem_cons.1 hx with rfl | hx
      · rw [hf] at hfx; cases hfx
      · exact h2 x hx hfx
theorem aI8 {b:List Nat} {i:Nat} {v:Value} {K:Prop}:∀ {mp:List (Nat × Gd × T Obj × T Obj)},aH0 b i v mp K→K∧∀ q∈mp,tF b q.1 i=true→onP q.2.1 (nR v q.2.2.1 q.2.2.2):=by
  intro mp
  induction mp with
  | nil=>intro h; exact ⟨h,fun q hq=>by cases hq⟩
  | cons q mp ih =>
    intro hs
    simp only [aH0] at hs
    cases hf:tF b q.1 i with
    | true =>
      rw [hf] at hs
      obtain ⟨h1,h2⟩:=ih hs.2
      refine ⟨h1,fun x hx hfx=>?_⟩
      rcases List.mem_cons.1 hx with rfl | hx
      · exact hs.1
      · exact h2 x hx hfx
    | false =>
      rw [hf] at hs
      obtain ⟨h1,h2⟩:=ih hs
      refine ⟨h1,fun x hx hfx=>?_⟩
      rcases List.mem_cons.1 hx with rfl | hx
      · rw [hf] at hfx; cases hfx
      · exact h2 x hx hfx
theorem aEa {t:T Value} (op:Op):y9 P t op=rdE P (fZ t) op:=by
  cases op with
  | load ty x=>exact dH x
  | lookup ty x k ok=>exact dH x
  | convert sx dx x =>
    simp only [y9,rdE]; rw [dH]
    cases und P sx with
    | none=>rfl
    | some d=>cases d<;>rfl
  | call c =>
    obtain ⟨callee,args,ts⟩:=c
    cases callee with
    | builtin b =>
      simp only [y9,rdE]; rw [oV]
      cases (ts[0]?).bind (und P) with
      | none=>rfl
      | some d =>
                  cases d<;>try rfl
                  all_goals (simp only; cases aDi (fZ t) args.toList with
                    | none=>rfl
                    | some l=>cases l with
                      | nil=>rfl
                      | cons a r=>cases r<;>rfl)
    | _=>rfl
  | _=>rfl
def RL (ls:List (Nat × Nat)) (lp:List (Nat × Gd × Value)):Prop:=∀ q∈ls,∃ g v,(q.1,g,v)∈lp∧aG2 g∧blk v=some q.2
def RM (ms:List (Nat × T Obj × T Obj)) (mp:List (Nat × Gd × T Obj × T Obj)):Prop:=∀ q∈ms,∃ g,(q.1,g,q.2)∈mp∧aG2 g
theorem RL.more {ls:List (Nat × Nat)} {lp:List (Nat × Gd × Value)} (h:RL ls lp) (x:Nat × Gd × Value):RL ls (x::lp):=fun q hq=>by
  obtain ⟨g,v,h1,h2⟩:=h q hq
  exact ⟨g,v,List.mem_cons_of_mem _ h1,h2⟩
theorem RM.more {ms:List (Nat × T Obj × T Obj)} {mp:List (Nat × Gd × T Obj × T Obj)} (h:RM ms mp) (x:Nat × Gd × T Obj × T Obj):RM ms (x::mp):=fun q hq=>by
  obtain ⟨g,h1,h2⟩:=h q hq
  exact ⟨g,List.mem_cons_of_mem _ h1,h2⟩
theorem aKO {n n0:Nat} {ops:Array Oper}:∀ (l:List Oper) (i:Nat) (ls:List (Nat × Nat)) (ms:List (Nat × T Obj × T Obj)) (lp:List (Nat × Gd × Value)) (mp:List (Nat × Gd × T Obj × T Obj)) (t:T Value) (h:T Obj) (nx:Nat) (Q:Env→T Obj→Nat→Prop),
    RL ls lp→RM ms mp→ptD P ro (aN P ro) n ops (bef ops).toList n0 l i lp mp (fZ t) h nx Q→∃ k s',tI P ro (call P ro k) n ops n0 l i ls ms ⟨t,h,nx⟩ s'∧Q (fZ s'.t) s'.h s'.nx:=by
  intro l
  induction l with
  | nil=>intro i ls ms lp mp t h nx Q _ _ hl; exact ⟨0,_,rfl,hl⟩
  | cons o l ih =>
    intro i ls ms lp mp t h nx Q hrl hrm hl
    obtain ⟨g,h1,h2,hgt⟩:=aEX hl
    simp only [tI]
    cases hq:gH o.op with
    | true =>
      rw [hq] at h1
      simp only at h1
      rcases h2 _ _ _ _ h1 with ⟨hw,hA⟩ | ⟨hw,hK⟩
      · obtain ⟨k1,v,h',nx',h3,h4⟩:=yH hA
        obtain ⟨h4,hsame⟩:=aI7 h4
        obtain ⟨t',h5,h6⟩:=kU h4
        obtain ⟨k2,s',h7,h8⟩:=ih (i+1) ls ((i,h,h')::ms) lp ((i,g,h,h')::mp) t' h' nx' Q hrl (fun q hq=>by
          rcases List.mem_cons.1 hq with rfl | hq
          · exact ⟨g,by simp,hgt hw⟩
          · obtain ⟨g',e1,e2⟩:=hrm q hq
            exact ⟨g',List.mem_cons_of_mem _ e1,e2⟩) h6
        refine ⟨max k1 k2,s',?_,h8⟩
        rw [hw]
        refine ⟨v,h',nx',t',qS (gV (Nat.le_max_left _ _)) h3,h5,?_,rQ (gV (Nat.le_max_right _ _)) _ _ _ _ _ _ h7⟩
        intro q hqm hf
        obtain ⟨g',v',e1,e2,e3⟩:=hrl q hqm
        have:=aGl (hsame _ e1 (by rw [wN]; exact hf)) e2
        unfold nR at this
        simp only [e3] at this
        exact this
      · obtain ⟨t',h5,h6⟩:=kU hK
        obtain ⟨k2,s',h7,h8⟩:=ih (i+1) ls ms lp ((i,g,h,h)::mp) t' h nx Q hrl (hrm.more _) h6
        refine ⟨k2,s',?_,h8⟩
        rw [hw]
        exact ⟨t',h5,h7⟩
    | false =>
      rw [hq] at h1
      simp only at h1
      cases hloc:rdE P (fZ t) o.op with
      | some a =>
        rw [hloc] at h1
        simp only at h1
        rcases h2 _ _ _ _ h1 with ⟨hw,hA⟩ | ⟨hw,hK⟩
        · obtain ⟨k1,v,h',nx',h3,h4⟩:=yH hA
          obtain ⟨h4,hsame⟩:=aI8 h4
          obtain ⟨t',h5,h6⟩:=kU h4
          cases hla:rdB P t o.op with
          | none =>
            obtain ⟨k2,s',h7,h8⟩:=ih (i+1) ls ms ((i,g,a)::lp) mp t' h' nx' Q (hrl.more _) hrm h6
            refine ⟨max k1 k2,s',?_,h8⟩
            rw [hw]
            exact ⟨v,h',nx',t',qS (gV (Nat.le_max_left _ _)) h3,h5,rQ (gV (Nat.le_max_right _ _)) _ _ _ _ _ _ h7⟩
          | some ad =>
            have ha:blk a=some ad:=by
              unfold rdB at hla
              rw [aEa,hloc] at hla
              exact hla
            obtain ⟨k2,s',h7,h8⟩:=ih (i+1) ((i,ad)::ls) ms ((i,g,a)::lp) mp t' h' nx' Q (fun q hq=>by
              rcases List.mem_cons.1 hq with rfl | hq
              · exact ⟨g,a,by simp,hgt hw,ha⟩
              · obtain ⟨g',v',e1,e2⟩:=hrl q hq
                exact ⟨g',v',List.mem_cons_of_mem _ e1,e2⟩) hrm h6
            refine ⟨max k1 k2,s',?_,h8⟩
            rw [hw]
            refine ⟨v,h',nx',t',qS (gV (Nat.le_max_left _ _)) h3,h5,?_,rQ (gV (Nat.le_max_right _ _)) _ _ _ _ _ _ h7⟩
            intro q hqm hf
            obtain ⟨g',e1,e2⟩:=hrm q hqm
            have:=aGl (hsame _ e1 (by rw [wN]; exact hf)) e2
            unfold nR at this
            simp only [ha] at this
            exact this
        · obtain ⟨t',h5,h6⟩:=kU hK
          obtain ⟨k2,s',h7,h8⟩:=ih (i+1) ls ms ((i,g,a)::lp) mp t' h nx Q (hrl.more _) hrm h6
          refine ⟨k2,s',?_,h8⟩
          rw [hw]
          exact ⟨t',h5,h7⟩
      | none =>
        rw [hloc] at h1
        simp only at h1
        have hla:rdB P t o.op=none:=by
          unfold rdB
          rw [aEa,hloc]; rfl
        rcases h2 _ _ _ _ h1 with ⟨hw,hA⟩ | ⟨hw,hK⟩
        · obtain ⟨k1,v,h',nx',h3,h4⟩:=yH hA
          obtain ⟨t',h5,h6⟩:=kU h4
          obtain ⟨k2,s',h7,h8⟩:=ih (i+1) ls ms lp mp t' h' nx' Q hrl hrm h6
          refine ⟨max k1 k2,s',?_,h8⟩
          rw [hw,hla]
          exact ⟨v,h',nx',t',qS (gV (Nat.le_max_left _ _)) h3,h5,rQ (gV (Nat.le_max_right _ _)) _ _ _ _ _ _ h7⟩
        · obtain ⟨t',h5,h6⟩:=kU hK
          obtain ⟨k2,s',h7,h8⟩:=ih (i+1) ls ms lp mp t' h nx Q hrl hrm h6
          refine ⟨k2,s',?_,h8⟩
          rw [hw]
          exact ⟨t',h5,h7⟩
def aKa (P:Program) (ro:Ro) (n:Nat) (c:Code) (t:T Value) (h:T Obj) (nx:Nat) (Q:KE):Prop:=∃ k x s',code P ro k n c ⟨t,h,nx⟩ x s'∧Q x (fZ s'.t) s'.h s'.nx
theorem aG6 {n:Nat} {b:Code} (ihb:∀ (t:T Value) (h:T Obj) (nx:Nat) (Q:KE),pt P ro (aN P ro) n b (fZ t) h nx Q→aKa P ro n b t h nx Q) :
    ∀ (j:Nat) (t:T Value) (h:T Obj) (nx:Nat) (Q:KE),aEZ (pt P ro (aN P ro) n b) j (fZ t) h nx Q→aKa P ro n (.loop b) t h nx Q:=by
  intro j
  induction j with
  | zero=>intro t h nx Q hi; exact hi.elim
  | succ j ih =>
    intro t h nx Q hi
    obtain ⟨k1,x,s1,h1,h2⟩:=ihb _ _ _ _ hi
    cases x with
    | normal =>
      obtain ⟨hh,h3,h4⟩:=h2
      obtain ⟨k2,x,s2,h5,h6⟩:=ih s1.t hh s1.nx Q h4
      exact ⟨max k1 k2+1,x,s2,.inl ⟨s1,hh,pP (Nat.le_max_left _ _) _ _ _ _ _ h1,h3,pP (Nat.le_max_right _ _) _ _ _ _ _ h5⟩,h6⟩
    | exit id=>exact ⟨k1+1,_,s1,.inr ⟨by simp,h1⟩,h2⟩
    | ret=>exact ⟨k1+1,_,s1,.inr ⟨by simp,h1⟩,h2⟩
theorem aLy {n:Nat}:∀ (c:Code) (t:T Value) (h:T Obj) (nx:Nat) (Q:KE),pt P ro (aN P ro) n c (fZ t) h nx Q→aKa P ro n c t h nx Q:=by
  intro c
  induction c with
  | skip | label=>intro t h nx Q hp; exact ⟨1,.normal,_,⟨rfl,rfl⟩,hp⟩
  | ret=>intro t h nx Q hp; exact ⟨1,.ret,_,⟨rfl,rfl⟩,hp⟩
  | exit id=>intro t h nx Q hp; exact ⟨1,.exit id,_,⟨rfl,rfl⟩,hp⟩
  | seq a b iha ihb =>
    intro t h nx Q hp
    obtain ⟨k1,x,s1,h1,h2⟩:=iha _ _ _ _ hp
    cases x with
    | normal =>
      obtain ⟨k2,x,s2,h5,h6⟩:=ihb _ _ _ _ h2
      exact ⟨max k1 k2+1,x,s2,.inl ⟨s1,pP (Nat.le_max_left _ _) _ _ _ _ _ h1,pP (Nat.le_max_right _ _) _ _ _ _ _ h5⟩,h6⟩
    | exit id=>exact ⟨k1+1,_,s1,.inr ⟨by simp,h1⟩,h2⟩
    | ret=>exact ⟨k1+1,_,s1,.inr ⟨by simp,h1⟩,h2⟩
  | cond c a b iha ihb =>
    intro t h nx Q hp
    obtain ⟨v,h1,h2⟩:=aQ hp
    rw [← dH] at h1
    unfold aZ at h2
    split at h2
    · obtain ⟨k,x,s1,h3,h4⟩:=iha _ _ _ _ h2
      exact ⟨k+1,x,s1,⟨true,h1,h3⟩,h4⟩
    · obtain ⟨k,x,s1,h3,h4⟩:=ihb _ _ _ _ h2
      exact ⟨k+1,x,s1,⟨false,h1,h3⟩,h4⟩
    · exact h2.elim
  | block id b ihb =>
    intro t h nx Q hp
    obtain ⟨k,x,s1,h1,h2⟩:=ihb _ _ _ _ hp
    cases x with
    | normal=>exact ⟨k+1,_,s1,⟨_,h1,rfl⟩,h2⟩
    | ret=>exact ⟨k+1,_,s1,⟨_,h1,rfl⟩,h2⟩
    | exit i =>
      refine ⟨k+1,_,s1,⟨_,h1,rfl⟩,?_⟩
      have h2:d8 (Nat.beq i id) (Q .normal (fZ s1.t) s1.h s1.nx) (Q (.exit i) (fZ s1.t) s1.h s1.nx):=h2
      simp only at ⊢
      cases hb:Nat.beq i id with
      | true=>rw [hb] at h2; exact h2
      | false=>rw [hb] at h2; exact h2
  | loop b ihb =>
    rintro t h nx Q ⟨j,hp⟩
    exact aG6 ihb j t h nx Q hp
  | scope b ihb =>
    intro t h nx Q hp
    obtain ⟨k,x,s1,h1,h2⟩:=ihb _ _ _ _ hp
    exact ⟨k+1,x,s1,h1,h2⟩
  | region id ops draw =>
    intro t h nx Q hp
    cases draw with
    | false =>
      obtain ⟨k,s',h1,h2⟩:=aGw _ _ _ _ _ hp
      exact ⟨k+1,.normal,s',⟨rfl,h1⟩,h2⟩
    | true =>
      simp only [pt] at hp
      rw [aMd,aC2] at hp
      cases hd:uB P ops with
      | false=>rw [hd] at hp; exact hp.elim
      | true =>
        rw [hd] at hp
        obtain ⟨k,s',h1,h2⟩:=aKO (P:=P) (ro:=ro) ops.toList 0 [] [] [] [] t h (nx+ops.size) (Q .normal) (fun q hq=>by cases hq) (fun q hq=>by cases hq) hp
        exact ⟨k+1,.normal,s',⟨rfl,hd,h1⟩,h2⟩
  | _=>intro t h nx Q hp; exact hp.elim
theorem aI0 {t:T Value} {h:T Obj}:∀ (rs:List ResultVar) (K:List Value→Prop),aFb P ro (fZ t) h rs K→∃ vs,aBM P ro h t rs=some vs∧K vs:=by
  intro rs
  induction rs with
  | nil=>intro K hr; exact ⟨[],rfl,hr⟩
  | cons r rs ih =>
    intro K hr
    cases r with
    | tmp i =>
      obtain ⟨vs,h1,h2⟩:=ih _ hr
      exact ⟨_,by simp only [aBM]; rw [h1]; rfl,h2⟩
    | cell a ty =>
      have key:∃ ad v,fZ t a=.pointer (some ad)∧mP P ro h ty ad=some v∧aFb P ro (fZ t) h rs fun vs=>K (v::vs):=by
        simp only [aFb] at hr
        split at hr
        · rename_i hagg
          obtain ⟨n,h1,hr⟩:=aQ hr
          obtain ⟨v,h2,hr⟩:=aQ hr
          obtain ⟨ad,h3,h4⟩:=aM h2
          exact ⟨ad,v,qI h3,by unfold mP; rw [hagg]; show (siz P ty).bind _=_; rw [h1]; exact h4,hr⟩
        · rename_i hagg
          obtain ⟨v,h2,hr⟩:=aQ hr
          obtain ⟨ad,h3,h4⟩:=aM h2
          exact ⟨ad,v,qI h3,by unfold mP; rw [hagg]; exact h4,hr⟩
        · exact hr.elim
      obtain ⟨ad,v,h1,h2,h3⟩:=key
      obtain ⟨vs,h4,h5⟩:=ih _ h3
      refine ⟨_,?_,h5⟩
      simp only [aBM]
      have:(t.get a).getD undef=.pointer (some ad):=h1
      rw [this]
      simp only
      rw [h2,h4]; rfl
theorem aGR {vs:List Value}:fZ (wC vs 0 .e)=i3 vs:=by
  funext i
  unfold fZ i3
  rw [aC3]
  by_cases hi:i < vs.length
  · rw [if_pos (by omega),Nat.sub_zero]
  · rw [if_neg (by omega),T.get_e,List.getElem?_eq_none (by omega)]
theorem aKk {f:FuncId} {fn:Func} {body:Code} {vs:List Value} {K:KV} (h1:P.funcs[f]?=some fn) (h2:fn.body=some body) (h3:Nat.ble vs.length fn.ntmps=true)
    (hp:pt P ro (aN P ro) fn.ntmps body (i3 vs) h nx (aOt P ro fn.results.toList K)):aN P ro f vs h nx K:=by
  rw [← aGR] at hp
  obtain ⟨k,x,s',h4,h5⟩:=aLy _ _ _ _ _ hp
  have key:(x=.normal∨x=.ret)∧aFb P ro (fZ s'.t) s'.h fn.results.toList fun vs=>∃ h',Sub h' s'.h∧K (aAg vs) h' s'.nx:=by
    cases x with
    | exit id=>exact h5.elim
    | normal=>exact ⟨.inl rfl,h5⟩
    | ret=>exact ⟨.inr rfl,h5⟩
  obtain ⟨hx,hr⟩:=key
  obtain ⟨ws,h6,h',h7,h8⟩:=aI0 _ _ hr
  exact ⟨k,aAg ws,h',s'.nx,.inl ⟨fn,body,x,s',ws,h1,h2,Nat.le_of_ble_eq_true h3,h4,hx,h6,rfl,h7,rfl⟩,h8⟩
theorem aJ7 {f:FuncId} {v:Value} {K:KV} (ho:Orc P f v) (hK:K v h nx):aN P ro f [] h nx K:=⟨0,v,h,nx,.inr (.inl ⟨rfl,ho,fun _ _ e=>e,rfl⟩),hK⟩
theorem bF {f:FuncId} {fn:Func} {vs:List Value} {K:KV} (h1:P.funcs[f]?=some fn) (h2:fn.body.isSome=true) (h3:Nat.ble vs.length fn.ntmps=true)
    (hp:bJ P ro (aN P ro) fn vs h nx K):aN P ro f vs h nx K:=by
  cases hb:fn.body with
  | none=>rw [hb] at h2; cases h2
  | some b =>
    refine aKk h1 hb h3 ?_
    unfold bJ aKh at hp
    rw [hb] at hp
    exact hp
end
end V
end Go.Proofs.YtjndkdmkecpllaaGreat
set_option linter.unusedVariables false
set_option linter.unusedSimpArgs false
noncomputable section
namespace Go.Proofs.YtjndkdmkecpllaaGreat
namespace V
open Go.RowKit
def aOT:Addr:=⟨0,0,none⟩
def aLa (N:Nat):Value→Option Value
  | .slice (some a) 0 0=>some (.slice (some aOT) 0 0)
  | .slice (some a) l c=>match a.spot,Nat.blt a.block N with
    | none,true=>some (.slice (some a) l c)
    | _,_=>none
  | .pointer (some a)=>match a.spot,Nat.blt a.block N with
    | none,true=>some (.pointer (some a))
    | _,_=>none
  | v=>match flat v with
    | true=>some v
    | false=>none
theorem aFQ {N:Nat} {φ:Phi} {v v':Value} (h:aLa N v=some v'):VR N φ v' v:=by
  unfold aLa at h
  split at h
  · cases h; exact .sliceNo rfl
  · split at h
    · rename_i h1 h2
      cases h; exact .sliceRo h1 (by have:=h2; simp [Nat.blt] at this; omega)
    · cases h
  · split at h
    · rename_i h1 h2
      cases h; exact .ptrRo h1 (by have:=h2; simp [Nat.blt] at this; omega)
    · cases h
  · split at h
    · rename_i hf; cases h; exact .flat hf
    · cases h
def aDR (W:World):Ro:=fun a=>match a.spot,Nat.blt a.block W.heap.size with
  | none,true=>(W.cell? a).bind (aLa W.heap.size)
  | _,_=>none
theorem aDS (W:World):Sim (aDR W) W.heap.size (fun _=>none) W (T.e:T Obj).get W where
  n:=rfl
  le:=Nat.le_refl _
  old:=fun _ _=>rfl
  dom:=fun k B o r h=>by cases h
  inj:=fun k k' B o r B' o' r' h=>by rw [T.get_e] at h; exact absurd rfl h
  own:=fun k o h=>by rw [T.get_e] at h; cases h
  ro:=fun a v h=>by
    unfold aDR at h
    split at h
    · rename_i h1 h2
      obtain ⟨v',h3,h4⟩:=aM h
      exact ⟨h1,by have:=h2; simp [Nat.blt] at this; omega,v',h3,aFQ h4⟩
    · cases h
def aLb (N:Nat):List Value→Option (List Value)
  | []=>some []
  | v::l=>(aLa N v).bind fun v=>(aLb N l).bind fun l=>some (v::l)
inductive Arg (N:Nat):Value→Value→Prop where
  | one {v v':Value} (h:aLa N v=some v'):Arg N v' v
  | agg {cs:Array Value} {l:List Value} (h:aLb N cs.toList=some l):Arg N (.agg l.toArray) (.agg cs)
theorem aCo {N:Nat} {φ:Phi}:∀ {l l':List Value},aLb N l=some l'→LR N φ l' l
  | [],l',h=>by cases h; exact .nil
  | v::l,l',h=>by
    obtain ⟨v',h1,h⟩:=aM h
    obtain ⟨r,h2,h⟩:=aM h
    cases h
    exact .cons (aFQ h1) (aCo h2)
theorem Arg.vr {N:Nat} {φ:Phi} {v v':Value} (h:Arg N v v'):VR N φ v v':=by
  cases h with
  | one h=>exact aFQ h
  | agg h=>exact .agg (by have:=(aCo (φ:=φ) h).length; simpa using this) fun i x y hx hy=>(aCo h).get i x y (by simpa using hx) (by simpa using hy)
inductive Args (N:Nat):List Value→List Value→Prop where
  | nil:Args N [] []
  | cons {v v':Value} {l l':List Value} (h:Arg N v v') (t:Args N l l'):Args N (v::l) (v'::l')
theorem Args.lr {N:Nat} {φ:Phi} {l l':List Value} (h:Args N l l'):LR N φ l l':=by
  induction h with
  | nil=>exact .nil
  | cons h _ ih=>exact .cons h.vr ih
def aOo (P:Program) (W:World) (f:FuncId) (vs:List Value):Prop:=aN P (aDR W) f vs .e 0 fun v _ _=>v=.bool true
theorem aI9 {P:Program} (hz:fL P=true) (hn:lB P=true) (hm:P.follows .mixedOrders=true) {W:World} {f:FuncId} {vs:List Value} {args:Array Value}
    (ha:Args W.heap.size vs args.toList) (h:aOo P W f vs):Calls P f args W fun e W'=>e=.returned (.bool true)∧Below W.heap.size W W':=by
  obtain ⟨k,v,h',nx',hc,rfl⟩:=h
  have hs:SS (aDR W) W.heap.size W (fun _=>none) .e 0 W:=⟨aDS W,fun _ _=>rfl⟩
  refine ((zO (ro:=aDR W) (N:=W.heap.size) (w0:=W) hz hn hm _ _ _ _ _ _ _ hc).2 _ W args hs ha.lr).mono fun e W' ⟨v',φ',he,hst,hv⟩=>?_
  subst he
  refine ⟨by rw [hv.of_flat rfl],⟨hst.os,hst.tape,hst.output,hst.size,fun b hb=>hst.frame b hb fun k B o r hk _=>absurd (T.get_e k) hk⟩⟩
section
open Go.ChangeShapes Go.WideShapes Go.ChangeAt
variable {H:Type} {enc:TypeId × Value→H} {P:Program}
theorem aEA {W W':World} (hl:laidOutB P=true) (hb:Below W.heap.size W W'):∀ (ts:List TypeId) (vs:List Value) (ds:List (DataW H)) (ps:List MemPlace),
    (∀ t∈ts,P.readableRec t=true∧t < P.types.size)→(∀ x∈ps,x.block < W.heap.size) →
    DataW.TrodAll enc P W 0 (fun _=>true) true ts vs ds ps→DataW.TrodAll enc P W' 0 (fun b=>decide (b < W.heap.size)) true ts vs ds ps:=by
  intro ts
  induction ts with
  | nil =>
    intro vs ds ps _ _ h
    cases vs with
    | nil=>cases ds with
      | nil=>exact h
      | cons _ _=>exact h.elim
    | cons _ _=>exact h.elim
  | cons t ts ih =>
    intro vs ds ps hr hp h
    cases vs with
    | nil=>exact h.elim
    | cons v vs =>
      cases ds with
      | nil=>exact h.elim
      | cons d ds =>
        obtain ⟨p,q,h1,h2,rfl⟩:=h
        exact ⟨p,q,Below.trod hl (hr t (by simp)).1 (hr t (by simp)).2 h1 hb (fun x hx=>hp x (by simp [hx])),ih _ _ _ (fun t ht=>hr t (by simp [ht])) (fun x hx=>hp x (by simp [hx])) h2,rfl⟩
theorem aLP {fn:Func} {s:ChangeSpec} {tb:TypeId} {W W':World} {args:Array Value} {ds gs:List (DataW H)} {before:List MemPlace}
    (hl:laidOutB P=true) (hrow0:(fn.params.toList.all fun t=>P.readableRec t&&decide (t < P.types.size))=true) (hres:fn.resultTypes=#[tb]) (htb:P.underlying tb=some .bool) (hvars:s.vars=[])
    (hW:DataW.Whole enc P fn.params.toList s.vars false W args.toList ds gs before) (hb:Below W.heap.size W W')
    (hfn:s.fn H (ds++gs)={ results:=[.lit (.bool true)],args:=ds,vars:=[] }) :
    s.post enc P fn false true false false W args (.bool true) W':=by
  have hrow:∀ t∈fn.params.toList,P.readableRec t=true∧t < P.types.size:=fun t ht=>by
    have:=List.all_eq_true.1 hrow0 t ht
    simpa using this
  have hW':=hW
  obtain ⟨p,q,hA,hV,rfl,hfz,hnd⟩:=hW
  refine ⟨ds,gs,p++q,[],p,[],hW',?_,?_,?_,hb.frame _,fun h=>by cases h⟩
  · rw [hfn,hres]
    exact trodAll_mk1 (shut_bool htb _)
  · rw [hfn]
    exact aEA hl hb _ _ _ _ hrow (fun x hx=>by have:=hW'.lt x (by simp [hx]); simpa using this) hA
  · rw [hfn,hvars]; exact rfl
end
end V
end Go.Proofs.YtjndkdmkecpllaaGreat
set_option linter.unusedVariables false
set_option linter.unusedSimpArgs false
noncomputable section
namespace Go.Proofs.YtjndkdmkecpllaaGreat
namespace V
theorem bL {α:Type} (a:α) (K:α→Prop):aA (some a) K=K a:=rfl
theorem b9 (A B:Prop):aZ (.bool true) A B=A:=rfl
theorem bO (A B:Prop):aZ (.bool false) A B=B:=rfl
theorem eY (h:T Obj) (nx:Nat) (A:KV→Prop) (K:KV):ifP (.bool true) true h nx A K=A K:=rfl
theorem eV (h:T Obj) (nx:Nat) (A:KV→Prop) (K:KV):ifP (.bool false) false h nx A K=A K:=rfl
theorem eX (h:T Obj) (nx:Nat) (A:KV→Prop) (K:KV):ifP (.bool true) false h nx A K=K undef h nx:=rfl
theorem eW (h:T Obj) (nx:Nat) (A:KV→Prop) (K:KV):ifP (.bool false) true h nx A K=K undef h nx:=rfl
theorem dP (h:T Obj) (i:Nat) (o:Obj) (K:T Obj→Prop):d4 h i o K=K (h.upd i (some o)):=rfl
theorem cT (h:T Obj) (i:Nat) (o:Obj) (K:T Obj→Prop):eG h i (some o) K=K (h.upd i (some o)):=rfl
theorem cS (h:T Obj) (i:Nat) (K:T Obj→Prop):eG h i none K=K h:=rfl
theorem cA (A:Prop) (B:Nat→Prop) (D:Prop):exP .normal A B D=A:=rfl
theorem c7 (i:Nat) (A:Prop) (B:Nat→Prop) (D:Prop):exP (.exit i) A B D=B i:=rfl
theorem dV (A:Prop) (B:Nat→Prop) (D:Prop):exP .ret A B D=D:=rfl
theorem cM (A B:Prop):d8 true A B=A:=rfl
theorem b7 (A B:Prop):d8 false A B=B:=rfl
theorem aB {α:Type} {o:Option α} {a:α} {K:α→Prop} (h:o=some a) (k:K a):aA o K:=by rw [h]; exact k
theorem aD {h:T Obj} {i:Nat} {o:Obj} {K:T Obj→Prop} (k:K (h.upd i (some o))):d4 h i o K:=k
theorem aE {h:T Obj} {i:Nat} {o:Obj} {K:T Obj→Prop} (k:K (h.upd i (some o))):eG h i (some o) K:=k
theorem aC {h:T Obj} {i:Nat} {K:T Obj→Prop} (k:K h):eG h i none K:=k
theorem aG {A B:Prop} (k:A):aZ (.bool true) A B:=k
theorem aF {A B:Prop} (k:B):aZ (.bool false) A B:=k
theorem fS {b:Bool} {A B:Prop} (h:b=true) (k:A):aZ (.bool b) A B:=by subst h; exact k
theorem fR {b:Bool} {A B:Prop} (h:b=false) (k:B):aZ (.bool b) A B:=by subst h; exact k
theorem aH {h:T Obj} {nx:Nat} {A:KV→Prop} {K:KV} (k:A K):ifP (.bool true) true h nx A K:=k
theorem aI {h:T Obj} {nx:Nat} {A:KV→Prop} {K:KV} (k:A K):ifP (.bool false) false h nx A K:=k
theorem aK {h:T Obj} {nx:Nat} {A:KV→Prop} {K:KV} (k:K undef h nx):ifP (.bool true) false h nx A K:=k
theorem aJ {h:T Obj} {nx:Nat} {A:KV→Prop} {K:KV} (k:K undef h nx):ifP (.bool false) true h nx A K:=k
theorem aL {w:Bool} {h:T Obj} {nx:Nat} {A:KV→Prop} {K:KV} (k:K undef h nx):ifP undef w h nx A K:=k
theorem dJ {n:Int} (h1:-9223372036854775808≤n) (h2:n≤9223372036854775807):wr .i64 n=n:=by simp [wr,h1,h2]
theorem gJ {n:Int} (h1:0≤n) (h2:n≤255):wr .u8 n=n:=by simp [wr,h1,h2]
theorem eP {n:Int} (h1:0≤n) (h2:n≤18446744073709551615):wr .u64 n=n:=by simp [wr,h1,h2]
theorem cK (k:IntKind) (a b:Int):aX .add (.int k a) (.int k b)=some (.int k (wr k (a+b))):=by simp [aX,qR]
theorem dC (k:IntKind) (a b:Int):aX .sub (.int k a) (.int k b)=some (.int k (wr k (a - b))):=by simp [aX,qR]
theorem cX (k:IntKind) (a b:Int):aX .mul (.int k a) (.int k b)=some (.int k (wr k (a*b))):=by simp [aX,qR]
theorem c8 (k:IntKind) {a b:Int} (ha:0≤a) (hb:0 < b):aX .quo (.int k a) (.int k b)=some (.int k (wr k (a / b))):=by
  have:b≠0:=by omega
  simp [aX,qR,this,Int.tdiv_eq_ediv_of_nonneg ha]
theorem cW (k:IntKind) {a b:Int} (ha:0≤a) (hb:0 < b):aX .rem (.int k a) (.int k b)=some (.int k (a % b)):=by
  have:b≠0:=by omega
  simp [aX,qR,this,Int.tmod_eq_emod_of_nonneg ha]
theorem aR (k:IntKind) (a b:Int):aX .eql (.int k a) (.int k b)=some (.bool (decide (a=b))):=by simp [aX,qR]
theorem aS (k:IntKind) (a b:Int):aX .neq (.int k a) (.int k b)=some (.bool (!decide (a=b))):=by simp [aX,qR]
theorem aW (k:IntKind) (a b:Int):aX .lss (.int k a) (.int k b)=some (.bool (decide (a < b))):=by simp [aX,qR]
theorem aV (k:IntKind) (a b:Int):aX .leq (.int k a) (.int k b)=some (.bool (decide (a≤b))):=by simp [aX,qR]
theorem aU (k:IntKind) (a b:Int):aX .gtr (.int k a) (.int k b)=some (.bool (decide (b < a))):=by simp [aX,qR]
theorem aT (k:IntKind) (a b:Int):aX .geq (.int k a) (.int k b)=some (.bool (decide (b≤a))):=by simp [aX,qR]
theorem aLJ (k k':IntKind) {a b:Int} (hb:0≤b):aX .shr (.int k a) (.int k' b)=some (.int k (a.fdiv ((2 ^ (min b.toNat k.bits):Nat):Int))):=by simp [aX,aAK,hb]
theorem aLI (k k':IntKind) {a b:Int} (hb:0≤b):aX .shl (.int k a) (.int k' b)=some (.int k (wr k (a*((2 ^ (min b.toNat k.bits):Nat):Int)))):=by simp [aX,aAK,hb]
theorem cB {a b:Int} (ha:0≤a) (hb:0≤b) (ha':a≤18446744073709551615) (hb':b≤18446744073709551615):aX .and (.int .u64 a) (.int .u64 b)=some (.int .u64 (Nat.land a.toNat b.toNat:Nat)):=by simp [aX,qR,yT,ha,hb,ha',hb']
theorem cQ {a b:Int} (ha:0≤a) (hb:0≤b) (ha':a≤18446744073709551615) (hb':b≤18446744073709551615):aX .or (.int .u64 a) (.int .u64 b)=some (.int .u64 (Nat.lor a.toNat b.toNat:Nat)):=by simp [aX,qR,yT,ha,hb,ha',hb']
theorem cC {a b:Int} (ha:0≤a) (hb:0≤b) (ha':a≤18446744073709551615) (hb':b≤18446744073709551615):aX .xor (.int .u64 a) (.int .u64 b)=some (.int .u64 (Nat.xor a.toNat b.toNat:Nat)):=by simp [aX,qR,yT,ha,hb,ha',hb']
theorem cH (k k':IntKind) (n:Int):pK k (.int k' n)=some (.int k (wr k n)):=rfl
theorem dX (b:Bool):unV .not (.bool b)=some (.bool (!b)):=rfl
theorem cN (a b:Bool):aAP .eql (.bool a) (.bool b)=some (.bool (a==b)):=rfl
theorem cO (a b:Bool):aAP .neq (.bool a) (.bool b)=some (.bool (!(a==b))):=rfl
theorem cD (a b:Value):dK (.bool true) a b=some a:=rfl
theorem bQ (a b:Value):dK (.bool false) a b=some b:=rfl
theorem bP (a:Option Addr) (n c:Nat):cU (.slice a n c)=some (.int .i64 n):=rfl
abbrev at_ (id off z:Nat):Value:=.pointer (some ⟨id,off,some z⟩)
theorem eR (id:Nat):ptr id=at_ id 0 0:=rfl
theorem dW (k id off z:Nat):aY k (at_ id off z)=some (at_ id (off+k) z):=rfl
def m6:Option Obj→Option (List Value)
  | some (.cells c _ _)=>some c.toList
  | _=>none
theorem bA (c:Array Value) (e:TypeId) (f:Nat × Nat):m6 (some (.cells c e f))=some c.toList:=rfl
theorem zF {l:List Value} {off:Nat} {v:Value} (h:l[off]?=some v):(l.drop off).take 1=[v]:=by
  have hl:=(List.getElem?_eq_some_iff.1 h).1
  rw [List.drop_eq_getElem_cons hl]
  have:=(List.getElem?_eq_some_iff.1 h).2
  simp [this]
theorem mL (ro:Ro) (h:T Obj) (id off z n:Nat):cellsAt ro h ⟨id,off,some z⟩ n=(m6 (h.get id)).bind fun c=>if off+n≤c.length then some ((c.drop off).take n) else none:=by
  unfold cellsAt m6
  simp only
  cases h.get id with
  | none=>rfl
  | some o =>
    cases o<;>try rfl
    rename_i c e f
    simp only [Option.bind,Array.length_toList]
    by_cases hle:off+n≤c.size
    · rw [if_pos hle,Nat.ble_eq_true_of_le hle]
    · rw [if_neg hle]
      cases hb:Nat.ble (off+n) c.size with
      | true=>exact absurd (Nat.le_of_ble_eq_true hb) hle
      | false=>rfl
theorem cI (ro:Ro) (h:T Obj) (id off z:Nat):load1 ro h (at_ id off z)=(m6 (h.get id)).bind fun c=>c[off]?:=by
  unfold load1
  simp only [asP,Option.bind,mL]
  cases hc:m6 (h.get id) with
  | none=>rfl
  | some c =>
    simp only
    by_cases hle:off+1≤c.length
    · rw [if_pos hle]
      have hg:c[off]?=some c[off]:=List.getElem?_eq_getElem (by omega)
      rw [zF hg,hg]
    · rw [if_neg hle,List.getElem?_eq_none (by omega)]
theorem bZ (ro:Ro) (h:T Obj) (n id off z:Nat):loadA ro h n (at_ id off z)=(m6 (h.get id)).bind fun c=>if off+n≤c.length then some (.agg ((c.drop off).take n).toArray) else none:=by
  unfold loadA
  simp only [asP,Option.bind,mL]
  cases m6 (h.get id) with
  | none=>rfl
  | some c=>by_cases hle:off+n≤c.length<;>simp [hle]
theorem dA (n z id off y:Nat) (k:IntKind) {i:Int} (h0:0≤i) (h1:i < n):ixArr n z (at_ id off y) (.int k i)=some (at_ id (off+i.toNat*z) y):=by
  have hn:mE (.int k i)=some i.toNat:=by simp [mE,h0]
  have:Nat.blt i.toNat n=true:=by simp [Nat.blt]; omega
  simp [ixArr,hn,asP,this,fwd]
theorem Value.cells_agg (cs:Array Value):Value.cells (.agg cs)=cs:=rfl
theorem cP (k:IntKind) (n:Int):Value.cells (.int k n)=#[.int k n]:=rfl
theorem b8 (b:Bool):Value.cells (.bool b)=#[.bool b]:=rfl
theorem aFK (k k':IntKind) (a:Nat) {b:Int} (hb:0≤b) (hk:b≤k.bits):aX .shr (.int k (a:Int)) (.int k' b)=some (.int k ((a / 2 ^ b.toNat:Nat):Int)):=by
  rw [aLJ _ _ hb]
  have:min b.toNat k.bits=b.toNat:=Nat.min_eq_left (by omega)
  rw [this,Int.ofNat_fdiv]
theorem bH (k':IntKind) (a:Nat) {b:Int} (hb:0≤b) (hk:b≤64):aX .shr (.int .u64 (a:Int)) (.int k' b)=some (.int .u64 ((a / 2 ^ b.toNat:Nat):Int)):=aFK _ _ a hb hk
theorem aFJ (k':IntKind) (a:Nat) {b:Int} (hb:0≤b) (hk:b≤64):aX .shl (.int .u64 (a:Int)) (.int k' b)=some (.int .u64 (wr .u64 ((a*2 ^ b.toNat:Nat):Int))):=by
  rw [aLI _ _ hb]
  have:min b.toNat IntKind.u64.bits=b.toNat:=Nat.min_eq_left (by have:IntKind.u64.bits=64:=rfl; omega)
  rw [this]; simp
theorem bD (k':IntKind) {b:Int} (hb:0≤b) (hk:b < 64):aX .shl (.int .u64 1) (.int k' b)=some (.int .u64 ((2 ^ b.toNat:Nat):Int)):=by
  have h:=aFJ k' 1 hb (by omega)
  have h2:2 ^ b.toNat < 2 ^ 64:=Nat.pow_lt_pow_right (by decide) (by omega)
  have h3:(((1*2 ^ b.toNat:Nat)):Int)≤18446744073709551615:=by omega
  rw [eP (by omega) h3,Nat.one_mul] at h
  exact h
def Fr (h:T Obj) (nx:Nat):Prop:=∀ i,nx≤i→h.get i=none
theorem Fr.e:Fr .e 0:=fun _ _=>rfl
theorem Fr.mono {h:T Obj} {n m:Nat} (hf:Fr h n) (hn:n≤m):Fr h m:=fun i hi=>hf i (Nat.le_trans hn hi)
theorem Fr.upd {h:T Obj} {n m i:Nat} {o:Option Obj} (hf:Fr h n) (hn:n≤m) (hi:i < m):Fr (h.upd i o) m:=fun j hj=>by
  rw [T.get_upd_ne _ _ (by omega)]; exact hf j (by omega)
theorem Fr.sub {h h':T Obj} {n:Nat} (hf:Fr h n) (hs:Sub h' h):Fr h' n:=fun i hi=>by
  cases e:h'.get i with
  | none=>rfl
  | some o=>have:=hs i o e; rw [hf i hi] at this; cases this
theorem Sub.refl (h:T Obj):Sub h h:=fun _ _ e=>e
theorem Sub.trans {a b c:T Obj} (h1:Sub a b) (h2:Sub b c):Sub a c:=fun k o e=>h2 k o (h1 k o e)
theorem Sub.upd {h0 h:T Obj} {i:Nat} {o:Option Obj} (hs:Sub h0 h) (hi:h0.get i=none):Sub h0 (h.upd i o):=fun k x e=>by
  by_cases hk:k=i
  · subst hk; rw [hi] at e; cases e
  · rw [T.get_upd_ne _ _ hk]; exact hs k x e
theorem Sub.new {h0 h:T Obj} {n i:Nat} {o:Option Obj} (hf:Fr h0 n) (hi:n≤i) (hs:Sub h0 h):Sub h0 (h.upd i o):=hs.upd (hf i hi)
theorem bI {B:PT} {Q:KE} (Inv:Nat→Env→T Obj→Nat→Prop)
    (step:∀ n e h nx,Inv n e h nx→∀ Q':KE,(∀ m e' h' h1 nx',m < n→Inv m e' h' nx'→Sub h' h1→Q' .normal e' h1 nx')→(∀ x e' h' nx',x≠.normal→Q x e' h' nx'→Q' x e' h' nx')→B e h nx Q')
    {n:Nat} {e:Env} {h:T Obj} {nx:Nat} (h0:Inv n e h nx):d5 B e h nx Q:=by
  refine ⟨n+1,?_⟩
  have key:∀ n,(∀ m,m < n→∀ k,m+1≤k→∀ e h nx,Inv m e h nx→aEZ B k e h nx Q)→∀ k,n+1≤k→∀ e h nx,Inv n e h nx→aEZ B k e h nx Q:=by
    intro n ih k hk e h nx hi
    cases k with
    | zero=>omega
    | succ k =>
      refine step n e h nx hi _ ?_ ?_
      · intro m e' h' h1 nx' hm hi' hs
        exact ⟨h',hs,ih m hm k (by omega) _ _ _ hi'⟩
      · intro x e' h' nx' hx hq
        cases x with
        | normal=>exact absurd rfl hx
        | exit i=>exact hq
        | ret=>exact hq
  have all:∀ n,∀ k,n+1≤k→∀ e h nx,Inv n e h nx→aEZ B k e h nx Q:=by
    intro n
    induction n using Nat.strongRecOn with
    | _ n ih=>exact key n ih
  exact all n _ (Nat.le_refl _) _ _ _ h0
def aE8 (o:Option Obj) (off:Nat) (vs:List Value):Option Obj:=match o with
  | some (.cells c e f)=>if off+vs.length≤c.size then (if vs.all bT=true then some (.cells (over c.toList off vs).toArray e f) else none) else none
  | _=>none
theorem bK {c:Array Value} {e:TypeId} {f:Nat × Nat} {off:Nat} {vs:List Value} (h1:off+vs.length≤c.size) (h2:vs.all bT=true):aE8 (some (.cells c e f)) off vs=some (.cells (over c.toList off vs).toArray e f):=by
  simp [aE8,h1,h2]
theorem bU (n:Nat) (h:T Obj) (id off z:Nat) (v:Value):bY n h (at_ id off z) v=if v.cells.size=n then (aE8 (h.get id) off v.cells.toList).bind (fun o=>some (h.upd id (some o))) else none:=by
  unfold bY aE8
  simp only [asP,Option.bind]
  by_cases hn:v.cells.size=n
  · rw [if_pos hn,hn,Nat.beq_refl]
    simp only [jM]
    cases h.get id with
    | none=>rfl
    | some o =>
      cases o<;>try rfl
      rename_i c e f
      simp only [Array.length_toList]
      by_cases hle:off+v.cells.size≤c.size
      · rw [if_pos hle,Nat.ble_eq_true_of_le hle]
        cases v.cells.toList.all bT<;>rfl
      · rw [if_neg hle]
        cases hb:Nat.ble (off+v.cells.size) c.size with
        | true=>exact absurd (Nat.le_of_ble_eq_true hb) hle
        | false=>rfl
  · rw [if_neg hn]
    cases hb:Nat.beq v.cells.size n with
    | true=>exact absurd (Nat.eq_of_beq_eq_true hb) hn
    | false=>rfl
theorem aCt {l:List Value} {off:Nat} (v:Value) (h:off < l.length):over l off [v]=l.set off v:=by
  unfold over
  rw [List.set_eq_take_append_cons_drop,if_pos h]
  simp
theorem aGs {l vs:List Value} (h:vs.length=l.length):over l 0 vs=vs:=by
  unfold over
  rw [List.drop_eq_nil_of_le (by omega)]; simp
theorem tl (l:List Value):l.toArray.toList=l:=rfl
theorem ts (l:List Value):l.toArray.size=l.length:=rfl
theorem dZ {h:T Obj} {id off z:Nat} {v:Value} {l:List Value} {e:TypeId} {f:Nat × Nat} (hg:h.get id=some (.cells l.toArray e f)) (hi:off < l.length) (hv:bT v=true) (hc:v.cells=#[v]) :
    bY 1 h (at_ id off z) v=some (h.upd id (some (.cells (l.set off v).toArray e f))):=by
  rw [bU,hc,hg,if_pos (show #[v].size=1 from rfl),bK (by simp; omega) (by simp [hv])]
  simp [aCt v hi]
theorem fB {h:T Obj} {id z n:Nat} {v:Value} {l vs:List Value} {e:TypeId} {f:Nat × Nat} (hg:h.get id=some (.cells l.toArray e f)) (hc:v.cells=vs.toArray) (hn:vs.length=n) (hl:l.length=n) (hv:vs.all bT=true) :
    bY n h (at_ id 0 z) v=some (h.upd id (some (.cells vs.toArray e f))):=by
  rw [bU,hc,hg,if_pos (by simpa using hn),bK (by simp; omega) (by simpa using hv)]
  simp [aGs (l:=l) (vs:=vs) (by omega)]
theorem cR {ro:Ro} {h:T Obj} {id z n:Nat} {l:List Value} {e:TypeId} {f:Nat × Nat} (hg:h.get id=some (.cells l.toArray e f)) (hl:l.length=n):loadA ro h n (at_ id 0 z)=some (.agg l.toArray):=by
  rw [bZ,hg]
  subst hl
  simp [m6]
theorem fM {ro:Ro} {h:T Obj} {id off z:Nat} {l:List Value} {e:TypeId} {f:Nat × Nat} {v:Value} (hg:h.get id=some (.cells l.toArray e f)) (hv:l[off]?=some v):load1 ro h (at_ id off z)=some v:=by
  rw [cI,hg]; exact hv
end V
end Go.Proofs.YtjndkdmkecpllaaGreat
set_option linter.unusedVariables false
set_option linter.unusedSimpArgs false
noncomputable section
namespace Go.Proofs.YtjndkdmkecpllaaGreat
namespace V
section
variable {α:Type}
def fcN (n:Nat) (k:Nat→α):α:=match n with
  | 0=>k 0
  | m+1=>k (Nat.succ m)
theorem mC (n:Nat) (k:Nat→α):fcN n k=k n:=by cases n<;>rfl
def fcI (n:Int) (k:Int→α):α:=match n with
  | .ofNat m=>fcN m fun m=>k (.ofNat m)
  | .negSucc m=>fcN m fun m=>k (.negSucc m)
theorem aOF (n:Int) (k:Int→α):fcI n k=k n:=by cases n<;>simp [fcI,mC]
def fcA (a:Option Addr) (k:Option Addr→α):α:=match a with
  | none=>k none
  | some a=>fcN a.block fun b=>fcN a.off fun o=>match a.spot with
    | none=>k (some ⟨b,o,none⟩)
    | some z=>fcN z fun z=>k (some ⟨b,o,some z⟩)
theorem aKw (a:Option Addr) (k:Option Addr→α):fcA a k=k a:=by
  cases a with
  | none=>rfl
  | some a=>obtain ⟨b,o,s⟩:=a; cases s<;>simp [fcA,mC]
def fcB:List UInt8→(List UInt8→α)→α
  | [],k=>k []
  | b::r,k=>fcN b.toNat fun n=>fcB r fun r=>k (UInt8.ofNat n::r)
theorem aKx:∀ (l:List UInt8) (k:List UInt8→α),fcB l k=k l
  | [],k=>rfl
  | b::r,k=>by rw [fcB,mC,aKx r]; simp
def fcC (v:Value) (k:Value→α):α:=match v with
  | .bool b=>match b with
    | true=>k (.bool true)
    | false=>k (.bool false)
  | .int kd n=>fcI n fun n=>k (.int kd n)
  | .string s=>fcB s.data.toList fun l=>k (.string ⟨⟨l⟩⟩)
  | .pointer a=>fcA a fun a=>k (.pointer a)
  | .slice a l c=>fcA a fun a=>fcN l fun l=>fcN c fun c=>k (.slice a l c)
  | .map r=>match r with
    | none=>k (.map none)
    | some r=>fcN r fun r=>k (.map (some r))
  | v=>k v
theorem aKy (v:Value) (k:Value→α):fcC v k=k v:=by
  cases v with
  | bool b=>cases b<;>rfl
  | int kd n=>simp [fcC,aOF]
  | string s=>simp [fcC,aKx]
  | pointer a=>simp [fcC,aKw]
  | slice a l c=>simp [fcC,aKw,mC]
  | map r=>cases r<;>simp [fcC,mC]
  | _=>rfl
def fcL:List Value→(List Value→α)→α
  | [],k=>k []
  | v::r,k=>fcC v fun v=>fcL r fun r=>k (v::r)
theorem aLA:∀ (l:List Value) (k:List Value→α),fcL l k=k l
  | [],k=>rfl
  | v::r,k=>by rw [fcL,aKy,aLA r]
def fcS:List Value→(List Value→α)→α
  | [],k=>k []
  | v::r,k=>fcS r fun r=>k (v::r)
theorem aFG:∀ (l:List Value) (k:List Value→α),fcS l k=k l
  | [],k=>rfl
  | v::r,k=>by rw [fcS,aFG r]
def aIE (v:Value) (k:Value→α):α:=match v with
  | .agg cs=>fcS cs.toList fun l=>k (.agg ⟨l⟩)
  | v=>fcC v k
theorem aCD (v:Value) (k:Value→α):aIE v k=k v:=by
  cases v with
  | agg cs=>simp [aIE,aFG]
  | _=>simp only [aIE,aKy]
def aMn:List Value→(List Value→α)→α
  | [],k=>k []
  | v::r,k=>aIE v fun v=>aMn r fun r=>k (v::r)
theorem aIx:∀ (l:List Value) (k:List Value→α),aMn l k=k l
  | [],k=>rfl
  | v::r,k=>by rw [aMn,aCD,aIx r]
def fcV (v:Value) (k:Value→α):α:=match v with
  | .tuple cs=>aMn cs.toList fun l=>k (.tuple ⟨l⟩)
  | v=>aIE v k
theorem aFH (v:Value) (k:Value→α):fcV v k=k v:=by
  cases v with
  | tuple cs=>simp [fcV,aIx]
  | _=>simp only [fcV,aCD]
def fcE:List MapEntry→(List MapEntry→α)→α
  | [],k=>k []
  | e::r,k=>aIE e.key fun a=>aIE e.val fun b=>fcN e.born fun n=>fcE r fun r=>k (⟨a,b,n⟩::r)
theorem aKz:∀ (l:List MapEntry) (k:List MapEntry→α),fcE l k=k l
  | [],k=>rfl
  | v::r,k=>by rw [fcE,aCD,aCD,mC,aKz r]
def fcO (o:Obj) (k:Obj→α):α:=match o with
  | .cells c e f=>fcS c.toList fun l=>k (.cells ⟨l⟩ e f)
  | .map es n=>fcE es.toList fun l=>fcN n fun n=>k (.map ⟨l⟩ n)
  | o=>k o
theorem aOG (o:Obj) (k:Obj→α):fcO o k=k o:=by
  cases o with
  | cells c e f=>simp [fcO,aFG]
  | map es n=>simp [fcO,aKz,mC]
  | _=>rfl
def aNK {β:Type} (o:Option β) (f:Nat):Nat→(T β→α)→α:=Nat.rec (motive:=fun _=>Nat→(T β→α)→α) (fun _ K=>K .e)
  (fun _ ih k K=>Nat.rec (motive:=fun _=>α) (K (.n .e o .e)) (fun k' _=>Bool.rec (motive:=fun _=>α) (ih (Nat.div k' 2) fun r=>K (.n .e none r)) (ih (Nat.div k' 2) fun l=>K (.n l none .e)) (Nat.beq (Nat.mod k' 2) 0)) k) f
theorem aNL {β:Type} (o:Option β):∀ (f g k:Nat) (K:T β→α),k < f→k < g→aNK o f k K=K (T.updF o g .e k):=by
  intro f
  induction f with
  | zero=>intro g k K h; omega
  | succ f ih =>
    intro g k K h1 h2
    cases g with
    | zero=>omega
    | succ g =>
      cases k with
      | zero=>rfl
      | succ k =>
        show Bool.rec (motive:=fun _=>α) (aNK o f (k / 2) fun r=>K (.n .e none r)) (aNK o f (k / 2) fun l=>K (.n l none .e)) (Nat.beq (k % 2) 0)=_
        simp only [T.updF]
        rw [ih g _ _ (by omega) (by omega),ih g _ _ (by omega) (by omega)]
        cases Nat.beq (k % 2) 0<;>rfl
def aNo {β:Type} (o:Option β) (t:T β):Nat→(T β→α)→α:=T.rec (motive:=fun _=>Nat→(T β→α)→α) (fun k K=>aNK o (Nat.succ k) k K)
  (fun l v r gl gr k K=>Nat.rec (motive:=fun _=>α) (K (.n l o r)) (fun k' _=>Bool.rec (motive:=fun _=>α) (gr (Nat.div k' 2) fun r=>K (.n l v r)) (gl (Nat.div k' 2) fun l=>K (.n l v r)) (Nat.beq (Nat.mod k' 2) 0)) k) t
theorem aNp {β:Type} (o:Option β) (t:T β):∀ (g k:Nat) (K:T β→α),k < g→aNo o t k K=K (T.updF o g t k):=by
  induction t with
  | e=>intro g k K h; exact aNL o _ g k K (Nat.lt_succ_self _) h
  | n l v r ihl ihr =>
    intro g k K h
    cases g with
    | zero=>omega
    | succ g =>
      cases k with
      | zero=>rfl
      | succ k =>
        show Bool.rec (motive:=fun _=>α) (aNo o r (k / 2) fun r=>K (.n l v r)) (aNo o l (k / 2) fun l=>K (.n l v r)) (Nat.beq (k % 2) 0)=_
        simp only [T.updF]
        rw [ihl g _ _ (by omega),ihr g _ _ (by omega)]
        cases Nat.beq (k % 2) 0<;>rfl
def upK {β:Type} (t:T β) (k:Nat) (o:Option β) (K:T β→α):α:=aNo o t k K
theorem aB0 {β:Type} (t:T β) (k:Nat) (o:Option β) (K:T β→α):upK t k o K=K (t.upd k o):=aNp o t _ k K (Nat.lt_succ_self _)
end
def bB {α:Type} (o:Option α) (K:α→Bool):Bool:=match o with
  | some a=>K a
  | none=>false
theorem fC {α:Type} {o:Option α} {K:α→Bool} (h:bB o K=true):∃ a,o=some a∧K a=true:=by
  cases o with
  | none=>cases h
  | some a=>exact ⟨a,rfl,h⟩
abbrev KB:=Value→T Obj→Nat→Bool
abbrev pI:=FuncId→List Value→T Obj→Nat→KB→Bool
def aL5 (less:Bool):Value→List Value→Option Value
  | .int k x,[]=>some (.int k x)
  | .int k x,.int k' y::r=>aL5 less (.int k (match less,decide (y < x),decide (x < y) with
    | true,true,_=>y
    | true,false,_=>x
    | false,_,true=>y
    | false,_,false=>x)) r
  | _,_=>none
termination_by structural _ l=>l
theorem aNG (less:Bool):∀ (l:List Value) (v:Value),uL less (v::l)=aL5 less v l:=by
  intro l
  induction l with
  | nil=>intro v; cases v<;>simp [uL,aL5]
  | cons y r ih =>
    intro v
    cases v<;>cases y<;>(conv=>lhs; unfold uL)<;>simp only [aL5,ih]
    rename_i k1 n1 k2 n2
    cases less<;>cases decide (n2 < n1)<;>cases decide (n1 < n2)<;>rfl
def aNH (less:Bool):List Value→Option Value
  | []=>none
  | v::l=>aL5 less v l
theorem aJD (less:Bool) (l:List Value):uL less l=aNH less l:=by
  cases l with
  | nil=>simp [uL,aNH]
  | cons v l=>exact aNG less l v
def aNR (P:Program) (ro:Ro) (t:T Value) (h:T Obj) (aid:Nat) (op:Op):Option (Value × Option Obj):=match op with
  | .call { callee:=.builtin .min,args,.. }=>(vE t args.toList).bind fun vs=>(aNH true vs).bind fun v=>some (v,none)
  | .call { callee:=.builtin .max,args,.. }=>(vE t args.toList).bind fun vs=>(aNH false vs).bind fun v=>some (v,none)
  | op=>opQ P ro t h aid op
theorem aNS (P:Program) (ro:Ro) (t:T Value) (h:T Obj) (aid:Nat) (op:Op):aNR P ro t h aid op=opQ P ro t h aid op:=by
  unfold aNR
  split
  · simp only [opQ,iU,aJD]
  · simp only [opQ,iU,aJD]
  · rfl
def aDo:List Value→Nat→List Value→(List Value→Bool)→Bool
  | l,0,[],k=>k l
  | _::r,0,v::vs,k=>aDo r 0 vs fun r=>k (v::r)
  | [],0,_::_,_=>false
  | x::r,n+1,vs,k=>fcN n fun n=>aDo r n vs fun r=>k (x::r)
  | [],_+1,_,_=>false
theorem aFY:∀ (l:List Value) (n:Nat) (vs:List Value) (k:List Value→Bool),aDo l n vs k=if n+vs.length≤l.length then k (over l n vs) else false
  | [],0,[],k=>by simp [aDo,over]
  | x::r,0,[],k=>by simp [aDo,over]
  | x::r,0,v::vs,k=>by
    rw [aDo,aFY r 0 vs]
    simp [over]
  | [],0,_::_,k=>by simp [aDo]
  | x::r,n+1,vs,k=>by
    rw [aDo,mC,aFY r n vs]
    have e:n+1+vs.length≤(x::r).length ↔ n+vs.length≤r.length:=by simp; omega
    by_cases h:n+vs.length≤r.length
    · rw [if_pos h,if_pos (e.2 h)]
      have:n+1+vs.length=(n+vs.length)+1:=by omega
      simp [over,this]
    · rw [if_neg h,if_neg (fun h2=>h (e.1 h2))]
  | [],n+1,vs,k=>by simp [aDo]
def aAr (h:T Obj) (a:Addr) (vs:List Value) (K:T Obj→Bool):Bool :=
  match a.spot with
  | none=>false
  | some _=>match h.get a.block with
    | some (.cells c e f)=>match vs.all bT with
      | true=>aDo c.toList a.off vs fun l=>upK h a.block (some (.cells ⟨l⟩ e f)) K
      | false=>false
    | _=>false
theorem aBr {h:T Obj} {a:Addr} {vs:List Value} {K:T Obj→Bool}:aAr h a vs K=bB (jM h a vs) K:=by
  unfold aAr jM
  cases a.spot with
  | none=>rfl
  | some z =>
    cases h.get a.block with
    | none=>rfl
    | some o =>
      cases o<;>try rfl
      simp only [aFY,aB0,Array.length_toList]
      rename_i c e f
      by_cases hb:a.off+vs.length≤c.size
      · rw [if_pos hb,Nat.ble_eq_true_of_le hb]
        cases vs.all bT<;>rfl
      · rw [if_neg hb]
        have:Nat.ble (a.off+vs.length) c.size=false:=by
          cases hq:Nat.ble (a.off+vs.length) c.size with
          | false=>rfl
          | true=>exact absurd (Nat.le_of_ble_eq_true hq) hb
        rw [this]
        cases vs.all bT<;>rfl
def aNM:List Value→Nat→(Value→Bool)→Bool
  | x::_,0,k=>k x
  | _::r,n+1,k=>aNM r n k
  | [],_,_=>false
theorem aJF:∀ (l:List Value) (n:Nat) (k:Value→Bool),aNM l n k=bB l[n]? k
  | x::_,0,k=>rfl
  | _::r,n+1,k=>by rw [aNM,aJF r n]; rfl
  | [],n,k=>by cases n<;>rfl
def aPF (l:List Value):Nat→(Value→Bool)→Bool:=List.rec (motive:=fun _=>Nat→(Value→Bool)→Bool) (fun _ _=>false) (fun x _ ih n k=>Nat.rec (motive:=fun _=>Bool) (k x) (fun m _=>ih m k) n) l
theorem aJG:∀ (l:List Value) (n:Nat) (k:Value→Bool),aPF l n k=aNM l n k
  | [],n,k=>rfl
  | x::_,0,k=>rfl
  | _::r,n+1,k=>aJG r n k
def aDZ:List Value→Nat→(List Value→Bool)→Bool
  | _,0,k=>k []
  | x::r,n+1,k=>aDZ r n fun r=>k (x::r)
  | [],_+1,_=>false
theorem aD0:∀ (l:List Value) (n:Nat) (k:List Value→Bool),aDZ l n k=if n≤l.length then k (l.take n) else false
  | l,0,k=>by cases l<;>simp [aDZ]
  | x::r,n+1,k=>by
    rw [aDZ,aD0 r n]
    by_cases h:n≤r.length
    · rw [if_pos h,if_pos (by simp; omega)]; simp
    · rw [if_neg h,if_neg (by simp; omega)]
  | [],n+1,k=>by simp [aDZ]
def aJB:List Value→Nat→Bool
  | [],0=>true
  | _::r,n+1=>aJB r n
  | _,_=>false
theorem aG5:∀ {l:List Value} {n:Nat},aJB l n=true→l.length=n
  | [],0,_=>rfl
  | _::r,n+1,h=>by rw [List.length_cons,aG5 (l:=r) h]
  | [],_+1,h=>by cases h
  | _::_,0,h=>by cases h
def aET:List Value→Nat→(List Value→Bool)→Bool
  | l,0,k=>k l
  | _::r,n+1,k=>aET r n k
  | [],_+1,_=>false
theorem aGP:∀ (l:List Value) (n:Nat) (k:List Value→Bool),aET l n k=if n≤l.length then k (l.drop n) else false
  | l,0,k=>by cases l<;>simp [aET]
  | _::r,n+1,k=>by
    rw [aET,aGP r n]
    by_cases h:n≤r.length
    · rw [if_pos h,if_pos (by simp; omega)]; rfl
    · rw [if_neg h,if_neg (by simp; omega)]
  | [],n+1,k=>by simp [aET]
def aHp (ro:Ro) (h:T Obj) (a:Addr) (n:Nat) (K:List Value→Bool):Bool :=
  match a.spot with
  | none=>bB (cellsAt ro h a n) K
  | some _=>match h.get a.block with
    | some (.cells c _ _)=>match a.off with
      | 0=>match aJB c.toList n with
        | true=>K c.toList
        | false=>aDZ c.toList n K
      | off+1=>aET c.toList (Nat.succ off) fun l=>aDZ l n K
    | _=>false
theorem aJ8 {ro:Ro} {h:T Obj} {a:Addr} {n:Nat} {K:List Value→Bool}:aHp ro h a n K=bB (cellsAt ro h a n) K:=by
  unfold aHp cellsAt
  cases a.spot with
  | none=>rfl
  | some z =>
    cases h.get a.block with
    | none=>rfl
    | some o =>
      cases o<;>try rfl
      rename_i c e f
      have key:(if a.off+n≤c.size then K ((c.toList.drop a.off).take n) else false)=bB (match Nat.ble (a.off+n) c.size with | true=>some ((c.toList.drop a.off).take n) | false=>none) K:=by
        by_cases hb:a.off+n≤c.size
        · rw [if_pos hb,Nat.ble_eq_true_of_le hb]; rfl
        · rw [if_neg hb]
          have:Nat.ble (a.off+n) c.size=false:=by
            cases hq:Nat.ble (a.off+n) c.size with
            | false=>rfl
            | true=>exact absurd (Nat.le_of_ble_eq_true hq) hb
          rw [this]; rfl
      refine Eq.trans ?_ key
      simp only
      cases ho:a.off with
      | zero =>
        simp only [Nat.zero_add,List.drop_zero]
        cases hl:aJB c.toList n with
        | true =>
          have:=aG5 hl
          rw [if_pos (by simpa using Nat.le_of_eq this.symm),List.take_of_length_le (by omega)]
        | false=>simp only [aD0,Array.length_toList]
      | succ off =>
        simp only [aGP,aD0,List.length_drop,Array.length_toList]
        by_cases h1:off+1≤c.size
        · rw [if_pos h1]
          by_cases h2:n≤c.size - (off+1)
          · rw [if_pos h2,if_pos (by omega)]
          · rw [if_neg h2,if_neg (by omega)]
        · rw [if_neg h1,if_neg (by omega)]
def aLW (P:Program) (ro:Ro) (h:T Obj) (t:TypeId) (a:Addr) (K:Value→Bool):Bool :=
  match isAgg P t with
  | some true=>bB (siz P t) fun n=>aHp ro h a n fun l=>K (.agg ⟨l⟩)
  | some false=>match a.spot with
    | none=>bB (mP P ro h t a) K
    | some _=>match h.get a.block with
      | some (.cells c _ _)=>aPF c.toList a.off K
      | _=>false
  | none=>false
theorem aLX {P:Program} {ro:Ro} {h:T Obj} {t:TypeId} {a:Addr} {K:Value→Bool}:aLW P ro h t a K=bB (mP P ro h t a) K:=by
  obtain ⟨b,o,s⟩:=a
  unfold aLW
  cases hi:isAgg P t with
  | none=>simp only [mP,hi]; rfl
  | some x =>
    cases x with
    | true =>
      simp only [mP,hi]
      cases siz P t with
      | none=>rfl
      | some n =>
        simp only [bB,Option.bind_some]
        rw [aJ8]
        cases cellsAt ro h ⟨b,o,s⟩ n<;>rfl
    | false =>
      cases s with
      | none=>rfl
      | some z =>
        simp only
        have e:mP P ro h t ⟨b,o,some z⟩=load1 ro h (at_ b o z):=by
          simp only [mP,hi]; rfl
        rw [e,cI]
        cases h.get b with
        | none=>rfl
        | some x =>
          cases x<;>try rfl
          simp only [aJG,aJF]; rfl
def aIf (P:Program) (h:T Obj) (t:TypeId) (a v:Value) (K:T Obj→Bool):Bool :=
  match a with
  | .pointer (some a)=>bB (siz P t) fun n=>match Nat.beq v.cells.size n with
    | true=>aAr h a v.cells.toList K
    | false=>false
  | _=>false
theorem aK4 {P:Program} {h:T Obj} {t:TypeId} {a v:Value} {K:T Obj→Bool}:aIf P h t a v K=bB (xY P h t a v) K:=by
  unfold aIf xY
  cases a<;>try rfl
  rename_i a
  cases a with
  | none=>rfl
  | some a =>
    cases siz P t with
    | none=>rfl
    | some n =>
      simp only [bB,Option.bind]
      cases Nat.beq v.cells.size n with
      | true=>exact aBr
      | false=>rfl
def apB (r:Value × T Obj × Nat) (K:KB):Bool:=fcV r.1 fun v=>fcN r.2.2 fun n=>K v r.2.1 n
theorem aNy (r:Value × T Obj × Nat) (K:KB):apB r K=K r.1 r.2.1 r.2.2:=by simp [apB,aFH,mC]
def aEm (P:Program) (ro:Ro) (h:T Obj) (nx:Nat) (ts:Array TypeId) (vs:List Value) (K:KB):Bool :=
  match ts[0]?,ts[1]?,vs with
  | some t0,some t1,[.slice base len cap,x]=>match und P t0 with
    | some (.slice e)=>bB (tin P e) fun i=>bB (aDz P ro h e i.size i.bytes t1 x) fun s =>
      match Nat.ble (len+s.1) cap with
      | true=>match s.1 with
        | 0=>K (.slice base len cap) h nx
        | _+1=>match base with
          | none=>false
          | some a=>match a.spot with
            | none=>false
            | some z=>match Nat.beq z i.size with
              | true=>aAr h (fwd a (len*i.size)) s.2 fun h=>fcN (len+s.1) fun n=>K (.slice base n cap) h nx
              | false=>false
      | false=>bB (zer P e) fun zv=>match Nat.ble ((len+s.1)*i.bytes) big,Nat.ble (len+s.1) big,Nat.blt 0 i.size,Nat.beq zv.cells.size i.size&&s.2.all bT with
        | true,true,true,true=>bB (aGk ro h i.size base len) fun p =>
            fcS (p.1++s.2) fun l=>fcN (len+s.1) fun n=>upK p.2 nx (some (.cells ⟨l⟩ e)) fun h=>fcN (nx+1) fun nx'=>K (.slice (some (own nx i.size)) n n) h nx'
        | _,_,_,_=>false
    | _=>false
  | _,_,_=>false
theorem aHh {P:Program} {ro:Ro} {h:T Obj} {nx:Nat} {ts:Array TypeId} {vs:List Value} {K:KB}:aEm P ro h nx ts vs K=bB (bX P ro h nx ts vs) fun r=>K r.1 r.2.1 r.2.2:=by
  unfold aEm bX
  cases ts[0]? with
  | none=>rfl
  | some t0 =>
    cases ts[1]? with
    | none=>rfl
    | some t1 =>
      match vs with
      | [.slice base len cap,x] =>
        simp only
        cases und P t0 with
        | none=>rfl
        | some d =>
          cases d<;>try rfl
          rename_i e
          simp only
          cases tin P e with
          | none=>rfl
          | some i =>
            simp only [bB,Option.bind_some]
            cases aDz P ro h e i.size i.bytes t1 x with
            | none=>rfl
            | some s =>
              simp only [Option.bind_some]
              cases Nat.ble (len+s.1) cap with
              | true =>
                simp only
                cases s.1 with
                | zero=>rfl
                | succ q =>
                  cases base with
                  | none=>rfl
                  | some a =>
                    simp only
                    cases a.spot with
                    | none=>rfl
                    | some z =>
                      simp only
                      cases Nat.beq z i.size with
                      | true =>
                        simp only [aBr,mC]
                        cases jM h (fwd a (len*i.size)) s.2<;>rfl
                      | false=>rfl
              | false =>
                simp only
                cases zer P e with
                | none=>rfl
                | some zv =>
                  simp only [Option.bind_some]
                  cases Nat.ble ((len+s.1)*i.bytes) big<;>cases Nat.ble (len+s.1) big<;>cases Nat.blt 0 i.size<;>cases Nat.beq zv.cells.size i.size&&s.2.all bT<;>try rfl
                  simp only
                  cases aGk ro h i.size base len with
                  | none=>rfl
                  | some p=>simp only [aFG,mC,aB0]; rfl
      | []=>rfl
      | [v]=>cases v<;>rfl
      | .bool _::_::_ | .int _ _::_::_ | .float _ _::_::_ | .complex _ _ _::_::_ | .string _::_::_ | .pointer _::_::_ | .map _::_::_ | .chan _::_::_ | .func _ _ _::_::_ | .nilFunc::_::_ | .iface _ _::_::_ | .nilIface::_::_ | .agg _::_::_ | .tuple _::_::_=>rfl
      | .slice _ _ _::_::_::_=>rfl
def aPI (P:Program) (ro:Ro) (C:pI) (t:T Value) (h:T Obj) (nx:Nat) (op:Op) (K:KB):Bool :=
  match op with
  | .store ty a x=>bB (evl t a) fun av=>bB (evl t x) fun xv=>aIf P h ty av xv fun h'=>K undef h' nx
  | .mapUpdate ty m k x | .insert ty m k x=>bB (evl t m) fun mv=>bB (evl t k) fun kv=>bB (evl t x) fun xv=>bB (uK P h ty mv kv xv) fun h'=>K undef h' nx
  | .call { callee:=.builtin b,args,argTypes }=>bB (vE t args.toList) fun vs=>match b with
    | .append=>aEm P ro h nx argTypes vs K
    | .copy=>bB (aC0 P ro h nx argTypes vs) fun r=>apB r K
    | .clear=>match vs,argTypes[0]? with
      | [m],some ty=>bB (und P ty) fun _=>bB (zQ h m) fun h=>K (.tuple #[]) h nx
      | _,_=>false
    | _=>false
  | .call { callee:=.value f,args,.. }=>bB (evl t f) fun f=>bB (vE t args.toList) fun vs=>match f with
    | .func (.func k) a b=>C k (a.toList++vs++b.toList) h nx K
    | _=>false
  | .convert s d x=>bB (evl t x) fun v=>bB (tC P h s d v) fun r=>K r.1 r.2 nx
  | _=>false
def aM6 (h:T Obj) (id:Nat) (o:Option Obj) (K:T Obj→Bool):Bool:=match o with
  | none=>K h
  | some o=>fcO o fun o=>upK h id (some o) K
theorem aM7 (h:T Obj) (id:Nat) (o:Option Obj) (K:T Obj→Bool):aM6 h id o K=K (zI h id o):=by
  cases o with
  | none=>rfl
  | some o=>simp [aM6,zI,aOG,aB0]
def aLp (P:Program) (ro:Ro) (C:pI) (t:T Value) (h:T Obj) (nx aid:Nat) (op:Op) (K:KB):Bool :=
  match gH op with
  | true=>aPI P ro C t h nx op K
  | false=>match op with
    | .load ty x=>bB (evl t x) fun v=>match v with
      | .pointer (some a)=>aLW P ro h ty a fun v=>K v h nx
      | _=>false
    | .move x=>bB (evl t x) fun v=>K v h nx
    | .assign x=>bB (evl t x) fun v=>K v h nx
    | op=>bB (aNR P ro t h aid op) fun r=>fcV r.1 fun v=>aM6 h aid r.2 fun h'=>K v h' nx
def aHB (n:Nat) (t:T Value) (dst:Option Tmp) (v:Value) (K:T Value→Bool):Bool :=
  match dst with
  | none=>K t
  | some d=>match Nat.blt d n with
    | true=>upK t d (some v) K
    | false=>false
theorem yI {n:Nat} {t:T Value} {dst:Option Tmp} {v:Value} {K:T Value→Bool} (h:aHB n t dst v K=true):∃ t',put n t dst v=some t'∧K t'=true:=by
  unfold aHB at h
  cases dst with
  | none=>exact ⟨t,rfl,h⟩
  | some d =>
    simp only at h
    split at h
    · rename_i hb
      rw [aB0] at h
      exact ⟨_,by simp only [put]; rw [hb],h⟩
    · cases h
def aIQ (P:Program) (ro:Ro) (C:pI) (n:Nat) (ops:Array Oper):List Oper→T Value→T Obj→Nat→(T Value→T Obj→Nat→Bool)→Bool
  | [],t,h,nx,Q=>Q t h nx
  | o::r,t,h,nx,Q=>match wanted ops t o with
    | true=>fcN (nx+1) fun nx1=>aLp P ro C t h nx1 nx o.op fun v h' nx'=>aHB n t o.dst v fun t'=>aIQ P ro C n ops r t' h' nx' Q
    | false=>aHB n t o.dst undef fun t'=>aIQ P ro C n ops r t' h nx Q
def aO3 (P:Program) (ro:Ro) (C:pI) (n:Nat) (ops:Array Oper) (l:List Oper):T Value→T Obj→Nat→(T Value→T Obj→Nat→Bool)→Bool:=List.rec (motive:=fun _=>T Value→T Obj→Nat→(T Value→T Obj→Nat→Bool)→Bool) (fun t h nx Q=>Q t h nx)
  (fun o _ ih t h nx Q=>Bool.rec (motive:=fun _=>Bool) (aHB n t o.dst undef fun t'=>ih t' h nx Q) (fcN (nx+1) fun nx1=>aLp P ro C t h nx1 nx o.op fun v h' nx'=>aHB n t o.dst v fun t'=>ih t' h' nx' Q) (wanted ops t o)) l
theorem aJH (P:Program) (ro:Ro) (C:pI) (n:Nat) (ops:Array Oper):∀ l:List Oper,aO3 P ro C n ops l=aIQ P ro C n ops l
  | []=>rfl
  | o::r=>by
    funext t h nx Q
    have ih:=aJH P ro C n ops r
    simp only [aIQ]
    rw [← ih]
    show Bool.rec (motive:=fun _=>Bool) _ _ (wanted ops t o)=_
    cases wanted ops t o<;>rfl
def aM5 (a b:Option Addr):Bool:=match a,b with
  | none,none=>true
  | some a,some b=>Nat.beq a.block b.block&&Nat.beq a.off b.off&&(match a.spot,b.spot with
    | none,none=>true
    | some x,some y=>Nat.beq x y
    | _,_=>false)
  | _,_=>false
theorem aIl {a b:Option Addr} (h:aM5 a b=true):a=b:=by
  unfold aM5 at h
  split at h
  · rfl
  · rename_i a b
    obtain ⟨b1,o1,s1⟩:=a
    obtain ⟨b2,o2,s2⟩:=b
    simp only [Bool.and_eq_true] at h
    obtain ⟨⟨h1,h2⟩,h3⟩:=h
    have:=Nat.eq_of_beq_eq_true h1
    have:=Nat.eq_of_beq_eq_true h2
    subst_vars
    split at h3
    · simp_all
    · have:=Nat.eq_of_beq_eq_true h3; simp_all
    · cases h3
  · cases h
def aEx (a b:Value):Bool:=match a,b with
  | .bool x,.bool y=>x==y
  | .int k x,.int k' y=>decide (k=k')&&decide (x=y)
  | .string x,.string y=>x.data.toList==y.data.toList
  | .pointer x,.pointer y=>aM5 x y
  | .slice x l c,.slice y l' c'=>aM5 x y&&Nat.beq l l'&&Nat.beq c c'
  | .map none,.map none=>true
  | .map (some x),.map (some y)=>Nat.beq x y
  | .nilFunc,.nilFunc=>true
  | .nilIface,.nilIface=>true
  | _,_=>false
theorem aEN {a b:Value} (h:aEx a b=true):a=b:=by
  unfold aEx at h
  split at h
  · simp_all
  · simp_all
  · rename_i x y
    obtain ⟨⟨x⟩⟩:=x
    obtain ⟨⟨y⟩⟩:=y
    simp_all
  · rw [aIl h]
  · simp only [Bool.and_eq_true] at h
    obtain ⟨⟨h1,h2⟩,h3⟩:=h
    rw [aIl h1,Nat.eq_of_beq_eq_true h2,Nat.eq_of_beq_eq_true h3]
  · rfl
  · rw [Nat.eq_of_beq_eq_true h]
  · rfl
  · rfl
  · cases h
def aAQ:List Value→List Value→Bool
  | [],[]=>true
  | a::r,b::s=>aEx a b&&aAQ r s
  | _,_=>false
theorem zP:∀ {l m:List Value},aAQ l m=true→l=m
  | [],[],_=>rfl
  | a::r,b::s,h=>by
    simp only [aAQ,Bool.and_eq_true] at h
    rw [aEN h.1,zP h.2]
  | [],_::_,h=>by cases h
  | _::_,[],h=>by cases h
def aD3 (a b:Value):Bool:=match a,b with
  | .agg x,.agg y=>aAQ x.toList y.toList
  | a,b=>aEx a b
theorem aB1 {a b:Value} (h:aD3 a b=true):a=b:=by
  unfold aD3 at h
  split at h
  · rename_i x y
    obtain ⟨x⟩:=x
    obtain ⟨y⟩:=y
    have:=zP h
    simp_all
  · exact aEN h
def aIv:List MapEntry→List MapEntry→Bool
  | [],[]=>true
  | a::r,b::s=>aD3 a.key b.key&&aD3 a.val b.val&&Nat.beq a.born b.born&&aIv r s
  | _,_=>false
theorem aGQ:∀ {l m:List MapEntry},aIv l m=true→l=m
  | [],[],_=>rfl
  | a::r,b::s,h=>by
    simp only [aIv,Bool.and_eq_true] at h
    obtain ⟨a1,a2,a3⟩:=a
    obtain ⟨b1,b2,b3⟩:=b
    have h1:=aB1 h.1.1.1
    have h2:=aB1 h.1.1.2
    have h3:=Nat.eq_of_beq_eq_true h.1.2
    have h4:=aGQ h.2
    simp only at h1 h2 h3
    subst h1; subst h2; subst h3; rw [h4]
  | [],_::_,h=>by cases h
  | _::_,[],h=>by cases h
def aLi (a b:Option Obj):Bool:=match a,b with
  | some (.cells x e f),some (.cells y e' f')=>Nat.beq e e'&&(Nat.beq f.1 f'.1&&Nat.beq f.2 f'.2)&&aAQ x.toList y.toList
  | some (.map x n),some (.map y n')=>Nat.beq n n'&&aIv x.toList y.toList
  | _,_=>false
theorem aLj {a b:Option Obj} (h:aLi a b=true):a=b∧a.isSome=true:=by
  unfold aLi at h
  split at h
  · rename_i x e f y e' f'
    obtain ⟨x⟩:=x
    obtain ⟨y⟩:=y
    obtain ⟨f1,f2⟩:=f
    obtain ⟨f1',f2'⟩:=f'
    simp only [Bool.and_eq_true] at h
    have h1:e=e':=Nat.eq_of_beq_eq_true h.1.1
    have h2:f1=f1':=Nat.eq_of_beq_eq_true h.1.2.1
    have h3:f2=f2':=Nat.eq_of_beq_eq_true h.1.2.2
    have h4:x=y:=zP h.2
    subst h1; subst h2; subst h3; subst h4; exact ⟨rfl,rfl⟩
  · rename_i x n y n'
    obtain ⟨x⟩:=x
    obtain ⟨y⟩:=y
    simp only [Bool.and_eq_true] at h
    have h1:n=n':=Nat.eq_of_beq_eq_true h.1
    have h2:x=y:=aGQ h.2
    subst h1; subst h2; exact ⟨rfl,rfl⟩
  · cases h
def aML (b:Nat) (h h':T Obj):Bool:=aLi (h.get b) (h'.get b)
theorem aDU {b:Nat} {h h':T Obj} (e:aML b h h'=true):same b h h':=aLj e
def aKc (b:List Nat) (i:Nat) (h h':T Obj):List (Nat × Nat)→Bool
  | []=>true
  | l::r=>match tF b l.1 i with
    | true=>aML l.2 h h'&&aKc b i h h' r
    | false=>aKc b i h h' r
theorem aCM {b:List Nat} {i:Nat} {h h':T Obj}:∀ {ls:List (Nat × Nat)},aKc b i h h' ls=true→∀ l∈ls,tF b l.1 i=true→same l.2 h h'
  | [],_,l,hl,_=>by cases hl
  | a::r,e,l,hl,hf=>by
    unfold aKc at e
    rcases List.mem_cons.1 hl with rfl | hl
    · rw [hf] at e
      simp only [Bool.and_eq_true] at e
      exact aDU e.1
    · split at e
      · simp only [Bool.and_eq_true] at e
        exact aCM e.2 l hl hf
      · exact aCM e l hl hf
def aKd (b:List Nat) (i a:Nat):List (Nat × T Obj × T Obj)→Bool
  | []=>true
  | m::r=>match tF b m.1 i with
    | true=>aML a m.2.1 m.2.2&&aKd b i a r
    | false=>aKd b i a r
theorem aCN {b:List Nat} {i a:Nat}:∀ {ms:List (Nat × T Obj × T Obj)},aKd b i a ms=true→∀ m∈ms,tF b m.1 i=true→same a m.2.1 m.2.2
  | [],_,l,hl,_=>by cases hl
  | x::r,e,l,hl,hf=>by
    unfold aKd at e
    rcases List.mem_cons.1 hl with rfl | hl
    · rw [hf] at e
      simp only [Bool.and_eq_true] at e
      exact aDU e.1
    · split at e
      · simp only [Bool.and_eq_true] at e
        exact aCN e.2 l hl hf
      · exact aCN e l hl hf
def aAb (P:Program) (ro:Ro) (C:pI) (n:Nat) (ops:Array Oper) (b:List Nat) (n0:Nat):List Oper→Nat→List (Nat × Nat)→List (Nat × T Obj × T Obj)→T Value→T Obj→Nat→(T Value→T Obj→Nat→Bool)→Bool
  | [],_,_,_,t,h,nx,Q=>Q t h nx
  | o::r,i,ls,ms,t,h,nx,Q=>match wanted ops t o with
    | true=>fcN (n0+i) fun aid=>aLp P ro C t h nx aid o.op fun v h' nx'=>aHB n t o.dst v fun t'=>match gH o.op with
      | true=>aKc b i h h' ls&&aAb P ro C n ops b n0 r (i+1) ls ((i,h,h')::ms) t' h' nx' Q
      | false=>match rdB P t o.op with
        | some a=>aKd b i a ms&&aAb P ro C n ops b n0 r (i+1) ((i,a)::ls) ms t' h' nx' Q
        | none=>aAb P ro C n ops b n0 r (i+1) ls ms t' h' nx' Q
    | false=>aHB n t o.dst undef fun t'=>aAb P ro C n ops b n0 r (i+1) ls ms t' h nx Q
def aEt (ops:Array Oper):List Nat:=CheckFast.beforeL ops.toList 0 []
theorem aMc (ops:Array Oper):aEt ops=(bef ops).toList:=by
  have:=CheckFast.beforeF_eq ops
  unfold aEt bef
  rw [← this]; rfl
abbrev QB:=Ex→T Value→T Obj→Nat→Bool
def aGb (B:T Value→T Obj→Nat→QB→Bool):Nat→T Value→T Obj→Nat→QB→Bool
  | 0,_,_,_,_=>false
  | k+1,t,h,nx,Q=>B t h nx fun x t h nx=>match x with
    | .normal=>aGb B k t h nx Q
    | .exit i=>Q (.exit i) t h nx
    | .ret=>Q .ret t h nx
def pJ (P:Program) (ro:Ro) (C:pI) (n:Nat):Code→T Value→T Obj→Nat→QB→Bool
  | .skip,t,h,nx,Q=>Q .normal t h nx
  | .label _,t,h,nx,Q=>Q .normal t h nx
  | .ret,t,h,nx,Q=>Q .ret t h nx
  | .exit id,t,h,nx,Q=>Q (.exit id) t h nx
  | .seq a b,t,h,nx,Q=>pJ P ro C n a t h nx fun x t h nx=>match x with
    | .normal=>pJ P ro C n b t h nx Q
    | .exit i=>Q (.exit i) t h nx
    | .ret=>Q .ret t h nx
  | .cond c a b,t,h,nx,Q=>bB (evl t c) fun v=>match v with
    | .bool true=>pJ P ro C n a t h nx Q
    | .bool false=>pJ P ro C n b t h nx Q
    | _=>false
  | .block id b,t,h,nx,Q=>pJ P ro C n b t h nx fun x t h nx=>match x with
    | .normal=>Q .normal t h nx
    | .exit i=>match Nat.beq i id with
      | true=>Q .normal t h nx
      | false=>Q (.exit i) t h nx
    | .ret=>Q .ret t h nx
  | .loop b,t,h,nx,Q=>aGb (pJ P ro C n b) 100000 t h nx Q
  | .scope b,t,h,nx,Q=>pJ P ro C n b t h nx Q
  | .region _ ops draw,t,h,nx,Q=>match draw with
    | false=>aIQ P ro C n ops ops.toList t h nx (Q .normal)
    | true=>match uC P ops (aEt ops) with
      | true=>fcN (nx+ops.size) fun nx'=>aAb P ro C n ops (aEt ops) nx ops.toList 0 [] [] t h nx' (Q .normal)
      | false=>false
  | _,_,_,_,_=>false
def aAS (P:Program) (ro:Ro) (C:pI) (n:Nat) (c:Code):T Value→T Obj→Nat→QB→Bool:=Code.rec (motive:=fun _=>T Value→T Obj→Nat→QB→Bool)
  (fun t h nx Q=>Q .normal t h nx)
  (fun _ ops draw t h nx Q=>Bool.rec (motive:=fun _=>Bool) (aO3 P ro C n ops ops.toList t h nx (Q .normal))
    (Bool.rec (motive:=fun _=>Bool) false (fcN (nx+ops.size) fun nx'=>aAb P ro C n ops (aEt ops) nx ops.toList 0 [] [] t h nx' (Q .normal)) (uC P ops (aEt ops))) draw)
  (fun _ _ ia ib t h nx Q=>ia t h nx fun x t h nx=>Ex.rec (motive:=fun _=>Bool) (ib t h nx Q) (fun i=>Q (.exit i) t h nx) (Q .ret t h nx) x)
  (fun c _ _ ia ib t h nx Q=>bB (evl t c) fun v=>match v with
    | .bool true=>ia t h nx Q
    | .bool false=>ib t h nx Q
    | _=>false)
  (fun id _ ib t h nx Q=>ib t h nx fun x t h nx=>Ex.rec (motive:=fun _=>Bool) (Q .normal t h nx) (fun i=>Bool.rec (motive:=fun _=>Bool) (Q (.exit i) t h nx) (Q .normal t h nx) (Nat.beq i id)) (Q .ret t h nx) x)
  (fun _ ib t h nx Q=>aGb ib 100000 t h nx Q)
  (fun _ _ _ _ _ _ _ _ _ _=>false)
  (fun id t h nx Q=>Q (.exit id) t h nx)
  (fun _ ib t h nx Q=>ib t h nx Q)
  (fun _ t h nx Q=>Q .normal t h nx)
  (fun _ _ _ _ _=>false)
  (fun t h nx Q=>Q .ret t h nx) (fun _ _ _ _ _=>false) c
theorem aKp (P:Program) (ro:Ro) (C:pI) (n:Nat) (c:Code):aAS P ro C n c=pJ P ro C n c:=by
  induction c with
  | skip=>rfl
  | region id ops draw =>
    funext t h nx Q
    show Bool.rec (motive:=fun _=>Bool) (aO3 P ro C n ops ops.toList t h nx (Q .normal)) (Bool.rec (motive:=fun _=>Bool) false (fcN (nx+ops.size) fun nx'=>aAb P ro C n ops (aEt ops) nx ops.toList 0 [] [] t h nx' (Q .normal)) (uC P ops (aEt ops))) draw=_
    rw [aJH]
    simp only [pJ]
    cases draw with
    | false=>rfl
    | true=>cases uC P ops (aEt ops)<;>rfl
  | seq a b iha ihb =>
    funext t h nx Q
    show (aAS P ro C n a t h nx fun x t h nx=>Ex.rec (motive:=fun _=>Bool) (aAS P ro C n b t h nx Q) (fun i=>Q (.exit i) t h nx) (Q .ret t h nx) x)=_
    rw [iha,ihb]
    simp only [pJ]
    congr 1
    funext x t h nx
    cases x<;>rfl
  | cond c a b iha ihb =>
    funext t h nx Q
    show (bB (evl t c) fun v=>match v with
      | .bool true=>aAS P ro C n a t h nx Q
      | .bool false=>aAS P ro C n b t h nx Q
      | _=>false)=_
    rw [iha,ihb]
    simp only [pJ]
  | block id b ihb =>
    funext t h nx Q
    show (aAS P ro C n b t h nx fun x t h nx=>Ex.rec (motive:=fun _=>Bool) (Q .normal t h nx) (fun i=>Bool.rec (motive:=fun _=>Bool) (Q (.exit i) t h nx) (Q .normal t h nx) (Nat.beq i id)) (Q .ret t h nx) x)=_
    rw [ihb]
    simp only [pJ]
    congr 1
    funext x t h nx
    cases x with
    | normal=>rfl
    | ret=>rfl
    | exit i=>simp only; cases Nat.beq i id<;>rfl
  | loop b ihb =>
    funext t h nx Q
    show aGb (aAS P ro C n b) 100000 t h nx Q=_
    rw [ihb]
    simp only [pJ]
  | rangeFunc=>rfl
  | exit id=>rfl
  | scope b ihb =>
    funext t h nx Q
    show aAS P ro C n b t h nx Q=_
    rw [ihb]
    simp only [pJ]
  | label l=>rfl
  | goto l=>rfl
  | ret=>rfl
  | refuse=>rfl
def aFC:List Value→Nat→T Value→(T Value→Bool)→Bool
  | [],_,t,K=>K t
  | v::vs,i,t,K=>upK t i (some v) fun t=>aFC vs (Nat.succ i) t K
theorem aEU:∀ (l:List Value) (i:Nat) (t:T Value) (K:T Value→Bool),aFC l i t K=K (wC l i t)
  | [],i,t,K=>rfl
  | v::vs,i,t,K=>by rw [aFC,aB0,aEU vs]; rfl
abbrev aJX:=FuncId→List Value→Option (Nat × Nat × Nat × TypeId × List Value)
def aEL (P:Program) (ro:Ro) (O:aJX):Nat→pI
  | 0,_,_,_,_,_=>false
  | k+1,f,args,h,nx,K=>match O f args with
   | some (z,l,c,e,cs)=>fcN z fun z=>fcN l fun l=>fcN c fun c=>fcL cs fun cs=>upK h nx (some (.cells cs.toArray e)) fun h'=>K (.slice (some ⟨nx,0,some z⟩) l c) h' (Nat.succ nx)
   | none=>bB P.funcs[f]? fun fn=>bB fn.body fun body=>match Nat.ble args.length fn.ntmps with
    | true=>aFC args 0 .e fun t=>aAS P ro (aEL P ro O k) fn.ntmps body t h nx fun x t h nx=>match x with
      | .exit _=>false
      | .normal=>bB (aBM P ro h t fn.results.toList) fun vs=>fcV (aAg vs) fun v=>K v h nx
      | .ret=>bB (aBM P ro h t fn.results.toList) fun vs=>fcV (aAg vs) fun v=>K v h nx
    | false=>false
section
variable {P:Program} {ro:Ro}
def aEB (P:Program) (ro:Ro) (C:pI):Prop:=∀ f args h nx K,C f args h nx K=true→∃ k v h' nx',call P ro k f args h nx v h' nx'∧K v h' nx'=true
theorem aIP {C:pI} (hC:aEB P ro C) {t:T Value} {h:T Obj} {nx:Nat} {op:Op} {K:KB} (hl:aPI P ro C t h nx op K=true) :
    ∃ k v h' nx',opL P ro (call P ro k) t h nx op v h' nx'∧K v h' nx'=true:=by
  cases op with
  | store ty a x =>
    obtain ⟨a',h1,hl⟩:=fC hl
    obtain ⟨x',h2,hl⟩:=fC hl
    rw [aK4] at hl
    obtain ⟨h',h4,hl⟩:=fC hl
    exact ⟨0,_,_,_,⟨a',x',h1,h2,h4,rfl,rfl⟩,hl⟩
  | mapUpdate ty m k x | insert ty m k x =>
    obtain ⟨m',h1,hl⟩:=fC hl
    obtain ⟨k',h2,hl⟩:=fC hl
    obtain ⟨x',h3,hl⟩:=fC hl
    obtain ⟨h',h4,hl⟩:=fC hl
    exact ⟨0,_,_,_,⟨m',k',x',h1,h2,h3,h4,rfl,rfl⟩,hl⟩
  | call c =>
    obtain ⟨callee,args,ts⟩:=c
    cases callee with
    | builtin b =>
      obtain ⟨vs,h1,hl⟩:=fC hl
      cases b<;>try (exact Bool.noConfusion hl)
      case append =>
        simp only [aHh] at hl
        obtain ⟨r,h2,hl⟩:=fC hl
        exact ⟨0,_,_,_,⟨vs,h1,h2⟩,hl⟩
      case copy =>
        obtain ⟨r,h2,hl⟩:=fC hl
        rw [aNy] at hl
        exact ⟨0,_,_,_,⟨vs,h1,h2⟩,hl⟩
      case clear =>
        simp only at hl
        split at hl
        · rename_i m ty hty
          obtain ⟨d,h2,hl⟩:=fC hl
          obtain ⟨h',h3,hl⟩:=fC hl
          exact ⟨0,_,_,_,⟨_,h1,m,ty,rfl,hty,by rw [h2]; rfl,h3,rfl,rfl⟩,hl⟩
        · cases hl
    | value f =>
      obtain ⟨fv,h1,hl⟩:=fC hl
      obtain ⟨vs,h2,hl⟩:=fC hl
      split at hl
      · rename_i k a b _
        obtain ⟨k',v,h',nx',h3,h4⟩:=hC _ _ _ _ _ hl
        exact ⟨k',v,h',nx',⟨k,a,b,vs,h1,h2,h3⟩,h4⟩
      · cases hl
    | invoke r m=>cases hl
  | convert s d x =>
    obtain ⟨v,h1,hl⟩:=fC hl
    obtain ⟨r,h2,hl⟩:=fC hl
    exact ⟨0,_,_,_,⟨v,h1,h2,rfl⟩,hl⟩
  | _=>cases hl
theorem aCq {C:pI} (hC:aEB P ro C) {t:T Value} {h:T Obj} {nx aid:Nat} {op:Op} {K:KB} (hl:aLp P ro C t h nx aid op K=true) :
    ∃ k v h' nx',opR P ro (call P ro k) t h nx aid op v h' nx'∧K v h' nx'=true:=by
  unfold aLp at hl
  unfold opR
  cases hq:gH op with
  | true=>rw [hq] at hl; exact aIP hC hl
  | false =>
    rw [hq] at hl
    have gen:∀ op,bB (aNR P ro t h aid op) (fun r=>fcV r.1 fun v=>aM6 h aid r.2 fun h'=>K v h' nx)=true→∃ (v:Value) (h':T Obj) (nx':Nat),(∃ ob,opQ P ro t h aid op=some (v,ob)∧h'=zI h aid ob∧nx'=nx)∧K v h' nx'=true:=by
      intro op hl
      simp only [aFH,aM7,aNS] at hl
      obtain ⟨r,h1,h2⟩:=fC hl
      exact ⟨r.1,_,_,⟨r.2,h1,rfl,rfl⟩,h2⟩
    simp only at hl ⊢
    have key:∃ v h' nx',(∃ ob,opQ P ro t h aid op=some (v,ob)∧h'=zI h aid ob∧nx'=nx)∧K v h' nx'=true:=by
      split at hl
      · rename_i ty x
        obtain ⟨v,h1,hl⟩:=fC hl
        split at hl
        · rename_i a
          rw [aLX] at hl
          obtain ⟨u,h2,h3⟩:=fC hl
          exact ⟨u,h,nx,⟨none,by simp only [opQ]; rw [h1]; show (mP P ro h ty a).bind _=_; rw [h2]; rfl,rfl,rfl⟩,h3⟩
        · cases hl
      · obtain ⟨v,h1,hl⟩:=fC hl
        exact ⟨v,h,nx,⟨none,by simp only [opQ]; rw [h1]; rfl,rfl,rfl⟩,hl⟩
      · obtain ⟨v,h1,hl⟩:=fC hl
        exact ⟨v,h,nx,⟨none,by simp only [opQ]; rw [h1]; rfl,rfl,rfl⟩,hl⟩
      · exact gen _ hl
    obtain ⟨v,h',nx',q1,q2⟩:=key
    exact ⟨0,v,h',nx',q1,q2⟩
theorem aIR {C:pI} (hC:aEB P ro C) {n:Nat} {ops:Array Oper}:∀ (l:List Oper) (t:T Value) (h:T Obj) (nx:Nat) (Q:T Value→T Obj→Nat→Bool),aIQ P ro C n ops l t h nx Q=true →
    ∃ k s',yO P ro (call P ro k) n ops l ⟨t,h,nx⟩ s'∧Q s'.t s'.h s'.nx=true:=by
  intro l
  induction l with
  | nil=>intro t h nx Q hq; exact ⟨0,_,rfl,hq⟩
  | cons o r ih =>
    intro t h nx Q hq
    simp only [aIQ,mC] at hq
    simp only [yO]
    cases hw:wanted ops t o with
    | true =>
      rw [hw] at hq
      obtain ⟨k1,v,h',nx',h1,h2⟩:=aCq hC hq
      obtain ⟨t',h3,h4⟩:=yI h2
      obtain ⟨k2,s',h5,h6⟩:=ih _ _ _ _ h4
      exact ⟨max k1 k2,s',⟨v,h',nx',t',qS (gV (Nat.le_max_left _ _)) h1,h3,aFV (gV (Nat.le_max_right _ _)) _ _ _ h5⟩,h6⟩
    | false =>
      rw [hw] at hq
      obtain ⟨t',h3,h4⟩:=yI hq
      obtain ⟨k2,s',h5,h6⟩:=ih _ _ _ _ h4
      exact ⟨k2,s',⟨t',h3,h5⟩,h6⟩
theorem aGo {C:pI} (hC:aEB P ro C) {n n0:Nat} {ops:Array Oper}:∀ (l:List Oper) (i:Nat) (ls:List (Nat × Nat)) (ms:List (Nat × T Obj × T Obj)) (t:T Value) (h:T Obj) (nx:Nat) (Q:T Value→T Obj→Nat→Bool),
    aAb P ro C n ops (bef ops).toList n0 l i ls ms t h nx Q=true→∃ k s',tI P ro (call P ro k) n ops n0 l i ls ms ⟨t,h,nx⟩ s'∧Q s'.t s'.h s'.nx=true:=by
  intro l
  induction l with
  | nil=>intro i ls ms t h nx Q hq; exact ⟨0,_,rfl,hq⟩
  | cons o r ih =>
    intro i ls ms t h nx Q hq
    simp only [aAb,mC] at hq
    simp only [tI]
    cases hw:wanted ops t o with
    | true =>
      rw [hw] at hq
      obtain ⟨k1,v,h',nx',h1,h2⟩:=aCq hC hq
      obtain ⟨t',h3,h4⟩:=yI h2
      cases hl:gH o.op with
      | true =>
        rw [hl] at h4
        simp only [Bool.and_eq_true] at h4
        obtain ⟨k2,s',h5,h6⟩:=ih _ _ _ _ _ _ _ h4.2
        refine ⟨max k1 k2,s',⟨v,h',nx',t',qS (gV (Nat.le_max_left _ _)) h1,h3,?_,rQ (gV (Nat.le_max_right _ _)) _ _ _ _ _ _ h5⟩,h6⟩
        intro q hq hf
        exact aCM h4.1 q hq (by rw [← wN] at hf; exact hf)
      | false =>
        rw [hl] at h4
        simp only at h4
        cases hr:rdB P t o.op with
        | none =>
          rw [hr] at h4
          obtain ⟨k2,s',h5,h6⟩:=ih _ _ _ _ _ _ _ h4
          exact ⟨max k1 k2,s',⟨v,h',nx',t',qS (gV (Nat.le_max_left _ _)) h1,h3,rQ (gV (Nat.le_max_right _ _)) _ _ _ _ _ _ h5⟩,h6⟩
        | some a =>
          rw [hr] at h4
          simp only [Bool.and_eq_true] at h4
          obtain ⟨k2,s',h5,h6⟩:=ih _ _ _ _ _ _ _ h4.2
          refine ⟨max k1 k2,s',⟨v,h',nx',t',qS (gV (Nat.le_max_left _ _)) h1,h3,?_,rQ (gV (Nat.le_max_right _ _)) _ _ _ _ _ _ h5⟩,h6⟩
          intro q hq hf
          exact aCN h4.1 q hq (by rw [← wN] at hf; exact hf)
    | false =>
      rw [hw] at hq
      obtain ⟨t',h3,h4⟩:=yI hq
      obtain ⟨k2,s',h5,h6⟩:=ih _ _ _ _ _ _ _ h4
      exact ⟨k2,s',⟨t',h3,h5⟩,h6⟩
def aNu (P:Program) (ro:Ro) (n:Nat) (c:Code) (B:T Value→T Obj→Nat→QB→Bool):Prop :=
  ∀ t h nx Q,B t h nx Q=true→∃ k x s',code P ro k n c ⟨t,h,nx⟩ x s'∧Q x s'.t s'.h s'.nx=true
theorem aGc {n:Nat} {b:Code} {B:T Value→T Obj→Nat→QB→Bool} (hB:aNu P ro n b B):∀ (j:Nat) (t:T Value) (h:T Obj) (nx:Nat) (Q:QB),aGb B j t h nx Q=true →
    ∃ k x s',code P ro k n (.loop b) ⟨t,h,nx⟩ x s'∧Q x s'.t s'.h s'.nx=true:=by
  intro j
  induction j with
  | zero=>intro t h nx Q hq; cases hq
  | succ j ih =>
    intro t h nx Q hq
    obtain ⟨k1,x,s1,h1,h2⟩:=hB _ _ _ _ hq
    cases x with
    | normal =>
      obtain ⟨k2,x,s2,h5,h6⟩:=ih _ _ _ _ h2
      exact ⟨max k1 k2+1,x,s2,.inl ⟨s1,s1.h,pP (Nat.le_max_left _ _) _ _ _ _ _ h1,fun _ _ e=>e,pP (Nat.le_max_right _ _) _ _ _ _ _ h5⟩,h6⟩
    | exit id=>exact ⟨k1+1,_,s1,.inr ⟨by simp,h1⟩,h2⟩
    | ret=>exact ⟨k1+1,_,s1,.inr ⟨by simp,h1⟩,h2⟩
theorem aGM {C:pI} (hC:aEB P ro C) {n:Nat}:∀ c:Code,aNu P ro n c (pJ P ro C n c):=by
  intro c
  induction c with
  | skip | label=>intro t h nx Q hp; exact ⟨1,.normal,_,⟨rfl,rfl⟩,hp⟩
  | ret=>intro t h nx Q hp; exact ⟨1,.ret,_,⟨rfl,rfl⟩,hp⟩
  | exit id=>intro t h nx Q hp; exact ⟨1,.exit id,_,⟨rfl,rfl⟩,hp⟩
  | seq a b iha ihb =>
    intro t h nx Q hp
    obtain ⟨k1,x,s1,h1,h2⟩:=iha _ _ _ _ hp
    cases x with
    | normal =>
      obtain ⟨k2,x,s2,h5,h6⟩:=ihb _ _ _ _ h2
      exact ⟨max k1 k2+1,x,s2,.inl ⟨s1,pP (Nat.le_max_left _ _) _ _ _ _ _ h1,pP (Nat.le_max_right _ _) _ _ _ _ _ h5⟩,h6⟩
    | exit id=>exact ⟨k1+1,_,s1,.inr ⟨by simp,h1⟩,h2⟩
    | ret=>exact ⟨k1+1,_,s1,.inr ⟨by simp,h1⟩,h2⟩
  | cond c a b iha ihb =>
    intro t h nx Q hp
    obtain ⟨v,h1,h2⟩:=fC hp
    split at h2
    · obtain ⟨k,x,s1,h3,h4⟩:=iha _ _ _ _ h2
      exact ⟨k+1,x,s1,⟨true,h1,h3⟩,h4⟩
    · obtain ⟨k,x,s1,h3,h4⟩:=ihb _ _ _ _ h2
      exact ⟨k+1,x,s1,⟨false,h1,h3⟩,h4⟩
    · cases h2
  | block id b ihb =>
    intro t h nx Q hp
    obtain ⟨k,x,s1,h1,h2⟩:=ihb _ _ _ _ hp
    cases x with
    | normal=>exact ⟨k+1,_,s1,⟨_,h1,rfl⟩,h2⟩
    | ret=>exact ⟨k+1,_,s1,⟨_,h1,rfl⟩,h2⟩
    | exit i =>
      refine ⟨k+1,_,s1,⟨_,h1,rfl⟩,?_⟩
      simp only at h2 ⊢
      cases hb:Nat.beq i id with
      | true=>rw [hb] at h2; exact h2
      | false=>rw [hb] at h2; exact h2
  | loop b ihb=>intro t h nx Q hp; exact aGc ihb _ _ _ _ _ hp
  | scope b ihb =>
    intro t h nx Q hp
    obtain ⟨k,x,s1,h1,h2⟩:=ihb _ _ _ _ hp
    exact ⟨k+1,x,s1,h1,h2⟩
  | region id ops draw =>
    intro t h nx Q hp
    cases draw with
    | false =>
      obtain ⟨k,s',h1,h2⟩:=aIR hC _ _ _ _ _ hp
      exact ⟨k+1,.normal,s',⟨rfl,h1⟩,h2⟩
    | true =>
      simp only [pJ] at hp
      rw [aMc,aC2] at hp
      cases hd:uB P ops with
      | false=>rw [hd] at hp; cases hp
      | true =>
        rw [hd] at hp
        simp only [mC] at hp
        obtain ⟨k,s',h1,h2⟩:=aGo hC _ _ _ _ _ _ _ _ hp
        exact ⟨k+1,.normal,s',⟨rfl,hd,h1⟩,h2⟩
  | _=>intro t h nx Q hp; cases hp
theorem aGH {O:aJX} (hO:∀ f args z l c e cs,O f args=some (z,l,c,e,cs)→aFn P f args z l c cs):∀ k,aEB P ro (aEL P ro O k):=by
  intro k
  induction k with
  | zero=>intro f args h nx K hc; cases hc
  | succ k ih =>
    intro f args h nx K hc
    simp only [aEL] at hc
    cases hq:O f args with
    | some r =>
      obtain ⟨z,l,c,e,cs⟩:=r
      rw [hq] at hc
      simp only [mC,aLA,aB0] at hc
      exact ⟨0,_,_,_,.inr (.inr ⟨z,l,c,cs,e,hO _ _ _ _ _ _ _ hq,rfl,fun _ _ e=>e,rfl⟩),hc⟩
    | none =>
    rw [hq] at hc
    simp only at hc
    obtain ⟨fn,h1,hc⟩:=fC hc
    obtain ⟨body,h2,hc⟩:=fC hc
    split at hc
    · rename_i hb
      rw [aEU,aKp] at hc
      obtain ⟨j,x,s,h3,h4⟩:=aGM ih body _ _ _ _ hc
      cases x with
      | exit i=>cases h4
      | normal =>
        obtain ⟨vs,h5,h6⟩:=fC h4
        rw [aFH] at h6
        exact ⟨j,_,_,_,.inl ⟨fn,body,.normal,s,vs,h1,h2,Nat.le_of_ble_eq_true hb,h3,.inl rfl,h5,rfl,fun _ _ e=>e,rfl⟩,h6⟩
      | ret =>
        obtain ⟨vs,h5,h6⟩:=fC h4
        rw [aFH] at h6
        exact ⟨j,_,_,_,.inl ⟨fn,body,.ret,s,vs,h1,h2,Nat.le_of_ble_eq_true hb,h3,.inr rfl,h5,rfl,fun _ _ e=>e,rfl⟩,h6⟩
    · cases hc
def aOs (want:Value):KB:=fun v _ _=>aD3 v want
theorem aKl {k:Nat} {f:FuncId} {args:List Value} {h h' h1:T Obj} {nx nx':Nat} {v:Value} (hc:call P ro k f args h nx v h' nx') (hs:Sub h1 h'):call P ro k f args h nx v h1 nx':=by
  rcases hc with ⟨fn,body,e,s,vs,g1,g2,g3,g4,g5,g6,g7,g8,g9⟩ | ⟨g1,g2,g3,g4⟩ | ⟨z,l,c,cs,e,g1,g2,g3,g4⟩
  · exact .inl ⟨fn,body,e,s,vs,g1,g2,g3,g4,g5,g6,g7,fun k o hk=>g8 k o (hs k o hk),g9⟩
  · exact .inr (.inl ⟨g1,g2,fun k o hk=>g3 k o (hs k o hk),g4⟩)
  · exact .inr (.inr ⟨z,l,c,cs,e,g1,g2,fun k o hk=>g3 k o (hs k o hk),g4⟩)
theorem aJ6 {O:aJX} (hO:∀ f args z l c e cs,O f args=some (z,l,c,e,cs)→aFn P f args z l c cs) {k:Nat} {f:FuncId} {args:List Value} {h:T Obj} {nx:Nat} {T:KB} {K:KV} (hc:aEL P ro O k f args h nx T=true) (hK:∀ v h' nx',T v h' nx'=true→∃ h1,Sub h1 h'∧K v h1 nx'):aN P ro f args h nx K:=by
  obtain ⟨j,v,h',nx',h1,h2⟩:=aGH hO k _ _ _ _ _ hc
  obtain ⟨h3,h4,h5⟩:=hK _ _ _ h2
  exact ⟨j,v,h3,nx',aKl h1 h4,h5⟩
theorem aKj {O:aJX} (hO:∀ f args z l c e cs,O f args=some (z,l,c,e,cs)→aFn P f args z l c cs) {k:Nat} {f:FuncId} {args:List Value} {nx:Nat} {want:Value} {K:KV} (h:aEL P ro O k f args .e nx (aOs want)=true) (hK:∀ n,K want .e n):aN P ro f args .e nx K :=
  aJ6 hO h fun v h' nx' hv=>⟨.e,(fun k o hk=>by rw [T.get_e] at hk; cases hk),by rw [aB1 hv]; exact hK _⟩
end
end V
end Go.Proofs.YtjndkdmkecpllaaGreat
set_option linter.unusedVariables false
set_option linter.unusedSimpArgs false
noncomputable section
namespace Go.Proofs.YtjndkdmkecpllaaGreat
namespace V
theorem aO7 {P:Program} (hz:fL P=true) (hn:lB P=true) (hm:P.follows .mixedOrders=true) {f:FuncId} {want:Value} (hf:flat want=true) (hb:((P.funcs[f]?).bind (·.body)).isSome=true)
    (he:∀ ro:Ro,aN P ro f [] .e 0 fun v _ _=>v=want):Orc P f want:=by
  refine ⟨hf,?_,fun W=>?_⟩
  · cases hq:P.funcs[f]? with
    | none=>rw [hq] at hb; cases hb
    | some fn =>
      rw [hq] at hb
      refine ⟨fn,rfl,?_⟩
      simp only [Option.bind_some] at hb
      cases hc:fn.body with
      | none=>rw [hc] at hb; cases hb
      | some b=>rfl
  · obtain ⟨j,v,h',nx',hc,hv⟩:=he (aDR W)
    subst hv
    have hs:SS (aDR W) W.heap.size W (fun _=>none) .e 0 W:=⟨aDS W,fun _ _=>rfl⟩
    refine ((zO (ro:=aDR W) (N:=W.heap.size) (w0:=W) hz hn hm _ _ _ _ _ _ _ hc).2 _ W #[] hs .nil).mono fun e W' ⟨v',φ',he,hst,hv⟩=>?_
    subst he
    exact ⟨by rw [hv.of_flat hf],hst.size,fun b hb=>hst.frame b hb fun k B o r hk _=>absurd (T.get_e k) hk,hst.os,hst.tape,hst.output⟩
theorem aO6 {P:Program} (hz:fL P=true) (hn:lB P=true) (hm:P.follows .mixedOrders=true) {O:aJX} (hO:∀ f args z l c e cs,O f args=some (z,l,c,e,cs)→aFn P f args z l c cs) {f:FuncId} {want:Value} {k:Nat} (hf:flat want=true) (hb:((P.funcs[f]?).bind (·.body)).isSome=true)
    (he:∀ ro:Ro,aEL P ro O k f [] .e 0 (aOs want)=true):Orc P f want:=aO7 hz hn hm hf hb fun ro=>aKj hO (he ro) fun _=>rfl
theorem LR.rigid {N:Nat} {φ:Phi}:∀ {l:List Value},l.all V.rigid=true→LR N φ l l
  | [],_=>.nil
  | x::l,h=>by
    simp only [List.all_cons,Bool.and_eq_true] at h
    refine .cons ?_ (LR.rigid h.2)
    have hx:=h.1
    cases x with
    | agg cs=>exact VR.aggL (LR.flat fun x hx'=>List.all_eq_true.1 (show cs.toList.all V.flat=true from hx) x hx')
    | _=>exact .flat hx
theorem aNU {P:Program} (hz:fL P=true) (hn:lB P=true) (hm:P.follows .mixedOrders=true) {f:FuncId} {args:List Value} {z l c:Nat} {cs:List Value} (hr:args.all rigid=true) (hf:cs.all flat=true) (hb:((P.funcs[f]?).bind (·.body)).isSome=true)
    (hc0:l≤c) (hc1:c*z=cs.length) (hc2:0 < c) (he:∀ ro:Ro,aN P ro f args .e 0 fun v h _=>∃ id e,v=.slice (some ⟨id,0,some z⟩) l c∧h.get id=some (.cells cs.toArray e)):aFn P f args z l c cs:=by
  refine ⟨hr,hf,?_,fun W=>?_⟩
  · cases hq:P.funcs[f]? with
    | none=>rw [hq] at hb; cases hb
    | some fn =>
      rw [hq] at hb
      refine ⟨fn,rfl,?_⟩
      simp only [Option.bind_some] at hb
      cases hc:fn.body with
      | none=>rw [hc] at hb; cases hb
      | some b=>rfl
  · obtain ⟨j,v,h',nx',hc,id,e,rfl,hg⟩:=he (aDR W)
    have hs:SS (aDR W) W.heap.size W (fun _=>none) .e 0 W:=⟨aDS W,fun _ _=>rfl⟩
    refine ((zO (ro:=aDR W) (N:=W.heap.size) (w0:=W) hz hn hm _ _ _ _ _ _ _ hc).2 _ W args.toArray hs (by simpa using LR.rigid hr)).mono fun en W' ⟨v',φ',he,hst,hv⟩=>?_
    subst he
    refine ⟨?_,hst.size,fun b hb=>hst.frame b hb fun k B o r hk _=>absurd (T.get_e k) hk,hst.os,hst.tape,hst.output⟩
    obtain ⟨B,b,r,o',p1,p2,p3⟩:=hst.ss.sim.own id _ hg
    have hB:W.heap.size≤B:=by
      rcases hst.img id B b r (by rw [hg]; simp) p1 with h1 | ⟨k0,o0,r0,h1,_⟩
      · exact h1
      · exact absurd (T.get_e k0) h1
    cases o'<;>first
      | exact p3.elim
      | skip
    rename_i C E F
    obtain ⟨r1,r2,r3,r4⟩:=p3
    have hflat:∀ (i:Nat) (x:Value),cs[i]?=some x→C[b+i]?=some x:=fun i x hx=>by
      obtain ⟨y,hy,hxy⟩:=r3 i x (by simpa using hx)
      rw [hy,hxy.of_flat (List.all_eq_true.1 hf x (List.mem_of_getElem? hx))]
    cases hv with
    | flat h=>cases h
    | sliceRo h _=>cases h
    | sliceOwn h1 h2 h3 h4 =>
      cases h2
      simp only at h1
      rw [p1] at h1
      cases h1
      exact ⟨B,_,r,_,C,E,F,rfl,h3,by simpa using h4,hB,(hst.ss.sim.dom id B b r p1).2,p2,r1,by simpa using r2,hflat,r4⟩
    | sliceEnd h1 h2=>omega
    | sliceNo h=>cases h
end V
end Go.Proofs.YtjndkdmkecpllaaGreat
set_option linter.unusedVariables false
set_option linter.unusedSimpArgs false
namespace Go.Proofs.YtjndkdmkecpllaaGreat
namespace V
attribute [local irreducible] bJ aN aA
abbrev qP:FuncId:=10
abbrev sG:FuncId:=11
abbrev zU:FuncId:=14
abbrev uF:FuncId:=15
abbrev uG:FuncId:=26
abbrev sI:FuncId:=43
abbrev zT:FuncId:=44
abbrev sJ:FuncId:=45
abbrev uE:FuncId:=48
abbrev sF:FuncId:=49
abbrev zV:FuncId:=50
abbrev fQ:FuncId:=53
abbrev sE:FuncId:=55
abbrev oN:FuncId:=83
abbrev sH:FuncId:=84
abbrev lS:FuncId:=86
abbrev kN:FuncId:=87
abbrev sK:FuncId:=91
abbrev eE:FuncId:=92
abbrev qO:FuncId:=93
abbrev kK:FuncId:=94
abbrev gS:FuncId:=95
abbrev gN:FuncId:=96
abbrev fK:FuncId:=97
abbrev gT:FuncId:=98
abbrev nM:FuncId:=102
abbrev uH:FuncId:=119
abbrev wO:FuncId:=120
abbrev qQ:FuncId:=121
abbrev eO:FuncId:=122
abbrev uD:FuncId:=123
abbrev pS:FuncId:=124
abbrev eI:FuncId:=125
abbrev fJ:FuncId:=126
abbrev lK:FuncId:=127
abbrev zS:FuncId:=140
abbrev eU:FuncId:=141
abbrev uI:FuncId:=147
abbrev cF:TypeId:=3
abbrev aD4:TypeId:=4
abbrev bR:TypeId:=5
abbrev dD:TypeId:=26
abbrev aBs:TypeId:=27
abbrev fE:TypeId:=29
abbrev cG:TypeId:=35
abbrev fY:TypeId:=36
abbrev eQ:TypeId:=37
abbrev a9:TypeId:=39
abbrev bN:TypeId:=64
abbrev d9:TypeId:=66
abbrev hU:TypeId:=77
abbrev nT:TypeId:=84
abbrev aO:TypeId:=103
abbrev i7:TypeId:=104
abbrev d3:TypeId:=105
abbrev dN:TypeId:=107
abbrev aP:TypeId:=109
abbrev bE:TypeId:=112
abbrev bS:TypeId:=113
abbrev bC:TypeId:=115
abbrev jO:TypeId:=117
abbrev cL:TypeId:=119
abbrev jR:TypeId:=120
abbrev jH:TypeId:=135
abbrev dM:TypeId:=156
abbrev cE:TypeId:=164
@[irreducible] def qY (ro:Ro) (K:KV):Env→T Obj→Nat→Prop:=fun e h nx=>∃ h45,Sub h45 h∧K (Value.bool true) h45 (nx+1)
@[irreducible] def xB (ro:Ro):PT:=fun e h nx Q=>aA (aY 1 (e 1)) fun t19_46=>aA (load1 ro h t19_46) fun t20_47=>aA (cU t20_47) fun t21_48=>aA (aX .lss (e 3) t21_48) fun t22_49=>aZ t22_49 (aA (aY 1 (e 1)) fun t25_50=>aA (load1 ro h t25_50) fun t26_51=>aA (dI 9 t26_51 (e 3)) fun t28_52=>aA (loadA ro h 9 t28_52) fun t29_53=>aA (zer Tryz.prog d9) fun z54=>d4 h (nx+10) (.cells z54.cells d9) fun h55=>aA (bY 9 h55 (ptr (nx+10)) t29_53) fun h56=>aA (aY 0 (ptr (nx+10))) fun t30_57=>aA (loadA ro h56 4 t30_57) fun t31_58=>aA (dF Tryz.prog bN []) fun t32_59=>aA (dL Tryz.prog 20 bN) fun ks60=>aA (aHe ks60 .eql t31_58 t32_59) fun t33_61=>ifP t33_61 false h56 (nx+17) (fun k62=>aA (aY 4 (ptr (nx+10))) fun t35_66=>k62 t35_66 h56 (nx+18)) fun t35_63 h64 n65=>ifP t33_61 false h64 n65 (fun k67=>aA (load1 ro h64 t35_63) fun t36_71=>k67 t36_71 h64 (n65+1)) fun t36_68 h69 n70=>ifP t33_61 false h69 n70 (fun k72=>aA (aX .lss t36_68 (Value.int IntKind.i64 1)) fun t37_76=>k72 t37_76 h69 (n70+1)) fun t37_73 h74 n75=>aA (dK t33_61 (Value.bool true) t37_73) fun t38_77=>ifP t38_77 false h74 (n75+2) (fun k78=>aA (aY 4 (ptr (nx+10))) fun t40_82=>k78 t40_82 h74 (n75+3)) fun t40_79 h80 n81=>ifP t38_77 false h80 n81 (fun k83=>aA (load1 ro h80 t40_79) fun t41_87=>k83 t41_87 h80 (n81+1)) fun t41_84 h85 n86=>ifP t38_77 false h85 n86 (fun k88=>aA (aY 5 (ptr (nx+10))) fun t42_92=>k88 t42_92 h85 (n86+1)) fun t42_89 h90 n91=>ifP t38_77 false h90 n91 (fun k93=>aA (load1 ro h90 t42_89) fun t43_97=>k93 t43_97 h90 (n91+1)) fun t43_94 h95 n96=>ifP t38_77 false h95 n96 (fun k98=>aA (aX .gtr t41_84 t43_94) fun t44_102=>k98 t44_102 h95 (n96+1)) fun t44_99 h100 n101=>aA (dK t38_77 (Value.bool true) t44_99) fun t45_103=>ifP t45_103 false h100 (n101+2) (fun k104=>aA (aY 5 (ptr (nx+10))) fun t47_108=>k104 t47_108 h100 (n101+3)) fun t47_105 h106 n107=>ifP t45_103 false h106 n107 (fun k109=>aA (load1 ro h106 t47_105) fun t48_113=>k109 t48_113 h106 (n107+1)) fun t48_110 h111 n112=>ifP t45_103 false h111 n112 (fun k114=>aA (aX .gtr t48_110 (Value.int IntKind.i64 4096)) fun t49_118=>k114 t49_118 h111 (n112+1)) fun t49_115 h116 n117=>aA (dK t45_103 (Value.bool true) t49_115) fun t50_119=>ifP t50_119 false h116 (n117+2) (fun k120=>aA (aY 6 (ptr (nx+10))) fun t52_124=>k120 t52_124 h116 (n117+3)) fun t52_121 h122 n123=>ifP t50_119 false h122 n123 (fun k125=>aA (load1 ro h122 t52_121) fun t53_129=>k125 t53_129 h122 (n123+1)) fun t53_126 h127 n128=>ifP t50_119 false h127 n128 (fun k130=>aA (aX .lss t53_126 (Value.int IntKind.i64 0)) fun t54_134=>k130 t54_134 h127 (n128+1)) fun t54_131 h132 n133=>aA (dK t50_119 (Value.bool true) t54_131) fun t55_135=>ifP t55_135 false h132 (n133+2) (fun k136=>aA (aY 6 (ptr (nx+10))) fun t57_140=>k136 t57_140 h132 (n133+3)) fun t57_137 h138 n139=>ifP t55_135 false h138 n139 (fun k141=>aA (load1 ro h138 t57_137) fun t58_145=>k141 t58_145 h138 (n139+1)) fun t58_142 h143 n144=>ifP t55_135 false h143 n144 (fun k146=>aA (aX .geq t58_142 (Value.int IntKind.i64 512)) fun t59_150=>k146 t59_150 h143 (n144+1)) fun t59_147 h148 n149=>aA (dK t55_135 (Value.bool true) t59_147) fun t60_151=>ifP t60_151 false h148 (n149+2) (fun k152=>aA (aY 8 (ptr (nx+10))) fun t62_156=>k152 t62_156 h148 (n149+3)) fun t62_153 h154 n155=>ifP t60_151 false h154 n155 (fun k157=>aA (load1 ro h154 t62_153) fun t63_161=>k157 t63_161 h154 (n155+1)) fun t63_158 h159 n160=>ifP t60_151 false h159 n160 (fun k162=>aA (aY 1 (e 1)) fun t64_166=>k162 t64_166 h159 (n160+1)) fun t64_163 h164 n165=>ifP t60_151 false h164 n165 (fun k167=>aA (load1 ro h164 t64_163) fun t65_171=>k167 t65_171 h164 (n165+1)) fun t65_168 h169 n170=>ifP t60_151 false h169 n170 (fun k172=>aA (cU t65_168) fun t66_176=>k172 t66_176 h169 (n170+1)) fun t66_173 h174 n175=>ifP t60_151 false h174 n175 (fun k177=>aN Tryz.prog ro oN [t63_158,t66_173] h174 (n175+1) fun t67_181 h182 n183=>k177 t67_181 h182 n183) fun t67_178 h179 n180=>ifP t60_151 false h179 n180 (fun k184=>aA (unV .not t67_178) fun t68_188=>k184 t68_188 h179 (n180+1)) fun t68_185 h186 n187=>aA (dK t60_151 (Value.bool true) t68_185) fun t69_189=>aZ t69_189 (Q .ret (puts e [(18,(e 3)),(19,t19_46),(20,t20_47),(21,t21_48),(22,t22_49),(25,t25_50),(26,t26_51),(27,(e 3)),(28,t28_52),(29,t29_53),(4,(ptr (nx+10))),(30,t30_57),(31,t31_58),(32,t32_59),(33,t33_61),(34,t33_61),(35,t35_63),(36,t36_68),(37,t37_73),(38,t38_77),(39,t38_77),(40,t40_79),(41,t41_84),(42,t42_89),(43,t43_94),(44,t44_99),(45,t45_103),(46,t45_103),(47,t47_105),(48,t48_110),(49,t49_115),(50,t50_119),(51,t50_119),(52,t52_121),(53,t53_126),(54,t54_131),(55,t55_135),(56,t55_135),(57,t57_137),(58,t58_142),(59,t59_147),(60,t60_151),(61,t60_151),(62,t62_153),(63,t63_158),(64,t64_163),(65,t65_168),(66,t66_173),(67,t67_178),(68,t68_185),(69,t69_189),(2,(Value.bool false))]) h186 (n187+2)) (aA (aX .add (e 3) (Value.int IntKind.i64 1)) fun t24_190=>Q .normal (puts e [(18,(e 3)),(19,t19_46),(20,t20_47),(21,t21_48),(22,t22_49),(25,t25_50),(26,t26_51),(27,(e 3)),(28,t28_52),(29,t29_53),(4,(ptr (nx+10))),(30,t30_57),(31,t31_58),(32,t32_59),(33,t33_61),(34,t33_61),(35,t35_63),(36,t36_68),(37,t37_73),(38,t38_77),(39,t38_77),(40,t40_79),(41,t41_84),(42,t42_89),(43,t43_94),(44,t44_99),(45,t45_103),(46,t45_103),(47,t47_105),(48,t48_110),(49,t49_115),(50,t50_119),(51,t50_119),(52,t52_121),(53,t53_126),(54,t54_131),(55,t55_135),(56,t55_135),(57,t57_137),(58,t58_142),(59,t59_147),(60,t60_151),(61,t60_151),(62,t62_153),(63,t63_158),(64,t64_163),(65,t65_168),(66,t66_173),(67,t67_178),(68,t68_185),(69,t69_189),(23,(e 3)),(24,t24_190),(3,t24_190)]) h186 (n187+4))) (Q (.exit 0) (puts e [(18,(e 3)),(19,t19_46),(20,t20_47),(21,t21_48),(22,t22_49)]) h (nx+5))
@[irreducible] def xA (ro:Ro) (v0:Value) (h:T Obj) (nx:Nat) (K:KV):Prop:=d4 h nx (.cells (Value.cells v0) fE) fun h1=>aA (aY 1 (ptr nx)) fun t5_2=>aA (load1 ro h1 t5_2) fun t6_3=>aA (cU t6_3) fun t7_4=>aA (aX .gtr t7_4 (Value.int IntKind.i64 512)) fun t8_5=>ifP t8_5 false h1 (nx+7) (fun k6=>aA (aY 0 (ptr nx)) fun t10_10=>k6 t10_10 h1 (nx+8)) fun t10_7 h8 n9=>ifP t8_5 false h8 n9 (fun k11=>aA (load1 ro h8 t10_7) fun t11_15=>k11 t11_15 h8 (n9+1)) fun t11_12 h13 n14=>ifP t8_5 false h13 n14 (fun k16=>aA (aY 1 (ptr nx)) fun t12_20=>k16 t12_20 h13 (n14+1)) fun t12_17 h18 n19=>ifP t8_5 false h18 n19 (fun k21=>aA (load1 ro h18 t12_17) fun t13_25=>k21 t13_25 h18 (n19+1)) fun t13_22 h23 n24=>ifP t8_5 false h23 n24 (fun k26=>aA (cU t13_22) fun t14_30=>k26 t14_30 h23 (n24+1)) fun t14_27 h28 n29=>ifP t8_5 false h28 n29 (fun k31=>aN Tryz.prog ro oN [t11_12,t14_27] h28 (n29+1) fun t15_35 h36 n37=>k31 t15_35 h36 n37) fun t15_32 h33 n34=>ifP t8_5 false h33 n34 (fun k38=>aA (unV .not t15_32) fun t16_42=>k38 t16_42 h33 (n34+1)) fun t16_39 h40 n41=>aA (dK t8_5 (Value.bool true) t16_39) fun t17_43=>aZ t17_43 (∃ h44,Sub h44 h40∧K (Value.bool false) h44 (n41+2)) (d5 (xB ro) (puts (i3 [v0]) [(1,(ptr nx)),(2,(Value.bool false)),(5,t5_2),(6,t6_3),(7,t7_4),(8,t8_5),(9,t8_5),(10,t10_7),(11,t11_12),(12,t12_17),(13,t13_22),(14,t14_27),(15,t15_32),(16,t16_39),(17,t17_43),(3,(Value.int IntKind.i64 0))]) h40 (n41+2) fun x194 e191 h192 n193=>exP x194 (qY ro K e191 h192 n193) (fun i195=>d8 (Nat.beq i195 0) (qY ro K e191 h192 n193) (False)) (∃ h196,Sub h196 h192∧K (e191 2) h196 n193))
theorem aDE (ro:Ro) (v0:Value) (h:T Obj) (nx:Nat) (K:KV):bJ Tryz.prog ro (aN Tryz.prog ro) Tryz.f43 [v0] h nx K=xA ro v0 h nx K:=by kernel_rfl
theorem aDF {ro:Ro} {v0:Value} {h:T Obj} {nx:Nat} {K:KV} (hw:xA ro v0 h nx K):aN Tryz.prog ro sI [v0] h nx K:=bF (P:=Tryz.prog) (fn:=Tryz.f43) (by kernel_rfl) (by kernel_rfl) (by kernel_rfl) (Eq.mpr (aDE ro v0 h nx K) hw)
@[irreducible] def rA (ro:Ro) (K:KV):Env→T Obj→Nat→Prop:=fun e h nx=>∃ h13,Sub h13 h∧K (e 3) h13 (nx+2)
@[irreducible] def xG (ro:Ro):PT:=fun e h nx Q=>aA (aX .lss (e 4) (e 0)) fun t13_14=>aZ t13_14 (aA (aX .mul (e 3) (Value.int IntKind.i64 3)) fun t17_15=>aA (aX .add (e 4) (Value.int IntKind.i64 1)) fun t15_16=>Q .normal (puts e [(11,(e 4)),(12,(e 0)),(13,t13_14),(16,(e 3)),(17,t17_15),(3,t17_15),(14,(e 4)),(15,t15_16),(4,t15_16)]) h (nx+9)) (Q (.exit 0) (puts e [(11,(e 4)),(12,(e 0)),(13,t13_14)]) h (nx+3))
@[irreducible] def xF (ro:Ro) (v0:Value) (h:T Obj) (nx:Nat) (K:KV):Prop:=aA (aX .lss v0 (Value.int IntKind.i64 0)) fun t6_1=>ifP t6_1 false h (nx+4) (fun k2=>k2 v0 h (nx+5)) fun t8_3 h4 n5=>ifP t6_1 false h4 n5 (fun k6=>aA (aX .gtr t8_3 (Value.int IntKind.i64 3)) fun t9_10=>k6 t9_10 h4 (n5+1)) fun t9_7 h8 n9=>aA (dK t6_1 (Value.bool true) t9_7) fun t10_11=>aZ t10_11 (∃ h12,Sub h12 h8∧K (Value.int IntKind.i64 0) h12 (n9+2)) (d5 (xG ro) (puts (i3 [v0]) [(2,(Value.int IntKind.i64 0)),(5,v0),(6,t6_1),(7,t6_1),(8,t8_3),(9,t9_7),(10,t10_11),(3,(Value.int IntKind.i64 1)),(4,(Value.int IntKind.i64 0))]) h8 (n9+3) fun x20 e17 h18 n19=>exP x20 (rA ro K e17 h18 n19) (fun i21=>d8 (Nat.beq i21 0) (rA ro K e17 h18 n19) (False)) (∃ h22,Sub h22 h18∧K (e17 2) h22 n19))
theorem aDI (ro:Ro) (v0:Value) (h:T Obj) (nx:Nat) (K:KV):bJ Tryz.prog ro (aN Tryz.prog ro) Tryz.f45 [v0] h nx K=xF ro v0 h nx K:=by kernel_rfl
theorem aDJ {ro:Ro} {v0:Value} {h:T Obj} {nx:Nat} {K:KV} (hw:xF ro v0 h nx K):aN Tryz.prog ro sJ [v0] h nx K:=bF (P:=Tryz.prog) (fn:=Tryz.f45) (by kernel_rfl) (by kernel_rfl) (by kernel_rfl) (Eq.mpr (aDI ro v0 h nx K) hw)
@[irreducible] def jP (ro:Ro) (K:KV):Env→T Obj→Nat→Prop:=fun e h nx=>aA (loadA ro h 259 (e 1)) fun t72_143=>aA (dF Tryz.prog dM [(0,t72_143)]) fun t73_144=>aA (zer Tryz.prog dM) fun z145=>d4 h (nx+2) (.cells z145.cells dM) fun h146=>aA (bY 259 h146 (ptr (nx+2)) t73_144) fun h147=>aA (aY 258 (e 1)) fun t74_148=>aA (load1 ro h147 t74_148) fun t75_149=>aN Tryz.prog ro eE [t75_149,(.func (.func qO) #[] #[(ptr (nx+2))])] h147 (nx+8) fun t77_150 h151 n152=>aA (unV .not t77_150) fun t78_153=>∃ h154,Sub h154 h151∧K t78_153 h154 (n152+2)
@[irreducible] def sC (ro:Ro):PT:=fun e h nx Q=>aA (aX .lss (e 47) (e 46)) fun t48_158=>aZ t48_158 (aA (dI 2 (e 45) (e 47)) fun t49_159=>aA (loadA ro h 2 t49_159) fun t50_160=>aA (zer Tryz.prog d3) fun z161=>d4 h (nx+3) (.cells z161.cells d3) fun h162=>aA (bY 2 h162 (ptr (nx+3)) t50_160) fun h163=>aA (ixArr 2 1 (ptr (nx+3)) (Value.int IntKind.i64 0)) fun t51_164=>aA (load1 ro h163 t51_164) fun t52_165=>aA (aX .lss t52_165 (Value.int IntKind.i64 1)) fun t53_166=>ifP t53_166 false h163 (nx+9) (fun k167=>aA (ixArr 2 1 (ptr (nx+3)) (Value.int IntKind.i64 0)) fun t55_171=>k167 t55_171 h163 (nx+10)) fun t55_168 h169 n170=>ifP t53_166 false h169 n170 (fun k172=>aA (load1 ro h169 t55_168) fun t56_176=>k172 t56_176 h169 (n170+1)) fun t56_173 h174 n175=>ifP t53_166 false h174 n175 (fun k177=>aA (ixArr 2 1 (ptr (nx+3)) (Value.int IntKind.i64 1)) fun t57_181=>k177 t57_181 h174 (n175+1)) fun t57_178 h179 n180=>ifP t53_166 false h179 n180 (fun k182=>aA (load1 ro h179 t57_178) fun t58_186=>k182 t58_186 h179 (n180+1)) fun t58_183 h184 n185=>ifP t53_166 false h184 n185 (fun k187=>aA (aX .gtr t56_173 t58_183) fun t59_191=>k187 t59_191 h184 (n185+1)) fun t59_188 h189 n190=>aA (dK t53_166 (Value.bool true) t59_188) fun t60_192=>ifP t60_192 false h189 (n190+2) (fun k193=>aA (ixArr 2 1 (ptr (nx+3)) (Value.int IntKind.i64 1)) fun t62_197=>k193 t62_197 h189 (n190+3)) fun t62_194 h195 n196=>ifP t60_192 false h195 n196 (fun k198=>aA (load1 ro h195 t62_194) fun t63_202=>k198 t63_202 h195 (n196+1)) fun t63_199 h200 n201=>ifP t60_192 false h200 n201 (fun k203=>aA (aX .lss t63_199 (Value.int IntKind.i64 2)) fun t64_207=>k203 t64_207 h200 (n201+1)) fun t64_204 h205 n206=>aA (dK t60_192 (Value.bool true) t64_204) fun t65_208=>ifP t65_208 false h205 (n206+2) (fun k209=>aA (ixArr 2 1 (ptr (nx+3)) (Value.int IntKind.i64 1)) fun t67_213=>k209 t67_213 h205 (n206+3)) fun t67_210 h211 n212=>ifP t65_208 false h211 n212 (fun k214=>aA (load1 ro h211 t67_210) fun t68_218=>k214 t68_218 h211 (n212+1)) fun t68_215 h216 n217=>ifP t65_208 false h216 n217 (fun k219=>aA (aX .gtr t68_215 (Value.int IntKind.i64 4096)) fun t69_223=>k219 t69_223 h216 (n217+1)) fun t69_220 h221 n222=>aA (dK t65_208 (Value.bool true) t69_220) fun t70_224=>aZ t70_224 (Q .ret (puts e [(48,t48_158),(49,t49_159),(50,t50_160),(4,(ptr (nx+3))),(51,t51_164),(52,t52_165),(53,t53_166),(54,t53_166),(55,t55_168),(56,t56_173),(57,t57_178),(58,t58_183),(59,t59_188),(60,t60_192),(61,t60_192),(62,t62_194),(63,t63_199),(64,t64_204),(65,t65_208),(66,t65_208),(67,t67_210),(68,t68_215),(69,t69_220),(70,t70_224),(2,(Value.bool false))]) h221 (n222+2)) (aA (aX .add (e 47) (Value.int IntKind.i64 1)) fun t71_225=>Q .normal (puts e [(48,t48_158),(49,t49_159),(50,t50_160),(4,(ptr (nx+3))),(51,t51_164),(52,t52_165),(53,t53_166),(54,t53_166),(55,t55_168),(56,t56_173),(57,t57_178),(58,t58_183),(59,t59_188),(60,t60_192),(61,t60_192),(62,t62_194),(63,t63_199),(64,t64_204),(65,t65_208),(66,t65_208),(67,t67_210),(68,t68_215),(69,t69_220),(70,t70_224),(71,t71_225),(47,t71_225)]) h221 (n222+3))) (Q (.exit 0) (puts e [(48,t48_158)]) h (nx+1))
@[irreducible] def zK (ro:Ro) (v0:Value) (h:T Obj) (nx:Nat) (K:KV):Prop:=d4 h nx (.cells (Value.cells v0) a9) fun h1=>aA (aY 0 (ptr nx)) fun t6_2=>aA (loadA ro h1 257 t6_2) fun t7_3=>aN Tryz.prog ro sK [t7_3] h1 (nx+40) fun t8_4 h5 n6=>aA (unV .not t8_4) fun t9_7=>ifP t9_7 false h5 n6 (fun k8=>aA (aY 257 (ptr nx)) fun t11_12=>k8 t11_12 h5 n6) fun t11_9 h10 n11=>ifP t9_7 false h10 n11 (fun k13=>aA (load1 ro h10 t11_9) fun t12_17=>k13 t12_17 h10 n11) fun t12_14 h15 n16=>ifP t9_7 false h15 n16 (fun k18=>aA (cU t12_14) fun t13_22=>k18 t13_22 h15 n16) fun t13_19 h20 n21=>ifP t9_7 false h20 n21 (fun k23=>aA (aX .gtr t13_19 (Value.int IntKind.i64 512)) fun t14_27=>k23 t14_27 h20 n21) fun t14_24 h25 n26=>aA (dK t9_7 (Value.bool true) t14_24) fun t15_28=>ifP t15_28 false h25 n26 (fun k29=>aA (aY 258 (ptr nx)) fun t17_33=>k29 t17_33 h25 n26) fun t17_30 h31 n32=>ifP t15_28 false h31 n32 (fun k34=>aA (load1 ro h31 t17_30) fun t18_38=>k34 t18_38 h31 n32) fun t18_35 h36 n37=>ifP t15_28 false h36 n37 (fun k39=>aA (cU t18_35) fun t19_43=>k39 t19_43 h36 n37) fun t19_40 h41 n42=>ifP t15_28 false h41 n42 (fun k44=>aA (aX .lss t19_40 (Value.int IntKind.i64 1)) fun t20_48=>k44 t20_48 h41 n42) fun t20_45 h46 n47=>aA (dK t15_28 (Value.bool true) t20_45) fun t21_49=>ifP t21_49 false h46 n47 (fun k50=>aA (aY 258 (ptr nx)) fun t23_54=>k50 t23_54 h46 n47) fun t23_51 h52 n53=>ifP t21_49 false h52 n53 (fun k55=>aA (load1 ro h52 t23_51) fun t24_59=>k55 t24_59 h52 n53) fun t24_56 h57 n58=>ifP t21_49 false h57 n58 (fun k60=>aA (cU t24_56) fun t25_64=>k60 t25_64 h57 n58) fun t25_61 h62 n63=>ifP t21_49 false h62 n63 (fun k65=>aA (aX .gtr t25_61 (Value.int IntKind.i64 256)) fun t26_69=>k65 t26_69 h62 n63) fun t26_66 h67 n68=>aA (dK t21_49 (Value.bool true) t26_66) fun t27_70=>ifP t27_70 false h67 n68 (fun k71=>aA (aY 258 (ptr nx)) fun t29_75=>k71 t29_75 h67 n68) fun t29_72 h73 n74=>ifP t27_70 false h73 n74 (fun k76=>aA (load1 ro h73 t29_72) fun t30_80=>k76 t30_80 h73 n74) fun t30_77 h78 n79=>ifP t27_70 false h78 n79 (fun k81=>aA (dI 4 t30_77 (Value.int IntKind.i64 0)) fun t31_85=>k81 t31_85 h78 n79) fun t31_82 h83 n84=>ifP t27_70 false h83 n84 (fun k86=>aA (aY 0 t31_82) fun t32_90=>k86 t32_90 h83 n84) fun t32_87 h88 n89=>ifP t27_70 false h88 n89 (fun k91=>aA (load1 ro h88 t32_87) fun t33_95=>k91 t33_95 h88 n89) fun t33_92 h93 n94=>ifP t27_70 false h93 n94 (fun k96=>aA (cU t33_92) fun t34_100=>k96 t34_100 h93 n94) fun t34_97 h98 n99=>ifP t27_70 false h98 n99 (fun k101=>aA (aY 258 (ptr nx)) fun t35_105=>k101 t35_105 h98 n99) fun t35_102 h103 n104=>ifP t27_70 false h103 n104 (fun k106=>aA (load1 ro h103 t35_102) fun t36_110=>k106 t36_110 h103 n104) fun t36_107 h108 n109=>ifP t27_70 false h108 n109 (fun k111=>aA (dI 4 t36_107 (Value.int IntKind.i64 0)) fun t37_115=>k111 t37_115 h108 n109) fun t37_112 h113 n114=>ifP t27_70 false h113 n114 (fun k116=>aA (aY 1 t37_112) fun t38_120=>k116 t38_120 h113 n114) fun t38_117 h118 n119=>ifP t27_70 false h118 n119 (fun k121=>aA (load1 ro h118 t38_117) fun t39_125=>k121 t39_125 h118 n119) fun t39_122 h123 n124=>ifP t27_70 false h123 n124 (fun k126=>aA (cU t39_122) fun t40_130=>k126 t40_130 h123 n124) fun t40_127 h128 n129=>ifP t27_70 false h128 n129 (fun k131=>aA (aX .add t34_97 t40_127) fun t41_135=>k131 t41_135 h128 n129) fun t41_132 h133 n134=>ifP t27_70 false h133 n134 (fun k136=>aA (aX .gtr t41_132 (Value.int IntKind.i64 0)) fun t42_140=>k136 t42_140 h133 n134) fun t42_137 h138 n139=>aA (dK t27_70 (Value.bool true) t42_137) fun t43_141=>aZ t43_141 (∃ h142,Sub h142 h138∧K (Value.bool false) h142 (n139+1)) (aA (aY 257 (ptr nx)) fun t44_155=>aA (load1 ro h138 t44_155) fun t45_156=>aA (cU t45_156) fun t46_157=>d5 (sC ro) (puts (i3 [v0]) [(1,(ptr nx)),(2,(Value.bool false)),(6,t6_2),(7,t7_3),(8,t8_4),(9,t9_7),(10,t9_7),(11,t11_9),(12,t12_14),(13,t13_19),(14,t14_24),(15,t15_28),(16,t15_28),(17,t17_30),(18,t18_35),(19,t19_40),(20,t20_45),(21,t21_49),(22,t21_49),(23,t23_51),(24,t24_56),(25,t25_61),(26,t26_66),(27,t27_70),(28,t27_70),(29,t29_72),(30,t30_77),(31,t31_82),(32,t32_87),(33,t33_92),(34,t34_97),(35,t35_102),(36,t36_107),(37,t37_112),(38,t38_117),(39,t39_122),(40,t40_127),(41,t41_132),(42,t42_137),(43,t43_141),(44,t44_155),(45,t45_156),(46,t46_157),(47,(Value.int IntKind.i64 0))]) h138 (n139+4) fun x229 e226 h227 n228=>exP x229 (jP ro K e226 h227 n228) (fun i230=>d8 (Nat.beq i230 0) (jP ro K e226 h227 n228) (False)) (∃ h231,Sub h231 h227∧K (e226 2) h231 n228))
theorem aD9 (ro:Ro) (v0:Value) (h:T Obj) (nx:Nat) (K:KV):bJ Tryz.prog ro (aN Tryz.prog ro) Tryz.f48 [v0] h nx K=zK ro v0 h nx K:=by kernel_rfl
theorem aDa {ro:Ro} {v0:Value} {h:T Obj} {nx:Nat} {K:KV} (hw:zK ro v0 h nx K):aN Tryz.prog ro uE [v0] h nx K:=bF (P:=Tryz.prog) (fn:=Tryz.f48) (by kernel_rfl) (by kernel_rfl) (by kernel_rfl) (Eq.mpr (aD9 ro v0 h nx K) hw)
@[irreducible] def iY (ro:Ro) (v0 v1:Value) (h:T Obj) (nx:Nat) (K:KV):Prop:=aN Tryz.prog ro nM [v0,v1] h (nx+4) fun t7_1 h2 n3=>aA (aX .geq t7_1 (Value.int IntKind.i64 0)) fun t8_4=>∃ h5,Sub h5 h2∧K t8_4 h5 (n3+2)
theorem rG (ro:Ro) (v0 v1:Value) (h:T Obj) (nx:Nat) (K:KV):bJ Tryz.prog ro (aN Tryz.prog ro) Tryz.f53 [v0,v1] h nx K=iY ro v0 v1 h nx K:=by kernel_rfl
theorem rH {ro:Ro} {v0 v1:Value} {h:T Obj} {nx:Nat} {K:KV} (hw:iY ro v0 v1 h nx K):aN Tryz.prog ro fQ [v0,v1] h nx K:=bF (P:=Tryz.prog) (fn:=Tryz.f53) (by kernel_rfl) (by kernel_rfl) (by kernel_rfl) (Eq.mpr (rG ro v0 v1 h nx K) hw)
@[irreducible] def qZ (ro:Ro) (K:KV):Env→T Obj→Nat→Prop:=fun e h nx=>∃ h1,Sub h1 h∧K (Value.bool true) h1 (nx+1)
@[irreducible] def xE (ro:Ro):PT:=fun e h nx Q=>aA (cU (e 0)) fun t8_2=>aA (aX .lss (e 5) t8_2) fun t9_3=>aZ t9_3 (aA (dI 1 (e 0) (e 5)) fun t14_4=>aA (load1 ro h t14_4) fun t15_5=>aA (aX .lss t15_5 (Value.int IntKind.i64 0)) fun t16_6=>ifP t16_6 false h (nx+33) (fun k7=>k7 (e 0) h (nx+33)) fun t18_8 h9 n10=>ifP t16_6 false h9 n10 (fun k11=>k11 (e 5) h9 n10) fun t19_12 h13 n14=>ifP t16_6 false h13 n14 (fun k15=>aA (dI 1 t18_8 t19_12) fun t20_19=>k15 t20_19 h13 n14) fun t20_16 h17 n18=>ifP t16_6 false h17 n18 (fun k20=>aA (load1 ro h17 t20_16) fun t21_24=>k20 t21_24 h17 n18) fun t21_21 h22 n23=>ifP t16_6 false h22 n23 (fun k25=>k25 (e 1) h22 n23) fun t22_26 h27 n28=>ifP t16_6 false h27 n28 (fun k29=>aA (aX .geq t21_21 t22_26) fun t23_33=>k29 t23_33 h27 n28) fun t23_30 h31 n32=>aA (dK t16_6 (Value.bool true) t23_30) fun t24_34=>ifP t24_34 false h31 n32 (fun k35=>k35 (e 5) h31 n32) fun t26_36 h37 n38=>ifP t24_34 false h37 n38 (fun k39=>aA (aX .gtr t26_36 (Value.int IntKind.i64 0)) fun t27_43=>k39 t27_43 h37 n38) fun t27_40 h41 n42=>ifP t24_34 false h41 n42 (fun k44=>k44 t27_40 h41 n42) fun t28_45 h46 n47=>ifP t28_45 true h46 n47 (fun k48=>k48 (e 0) h46 n47) fun t29_49 h50 n51=>ifP t28_45 true h50 n51 (fun k52=>k52 (e 5) h50 n51) fun t30_53 h54 n55=>ifP t28_45 true h54 n55 (fun k56=>aA (aX .sub t30_53 (Value.int IntKind.i64 1)) fun t31_60=>k56 t31_60 h54 n55) fun t31_57 h58 n59=>ifP t28_45 true h58 n59 (fun k61=>aA (dI 1 t29_49 t31_57) fun t32_65=>k61 t32_65 h58 n59) fun t32_62 h63 n64=>ifP t28_45 true h63 n64 (fun k66=>aA (load1 ro h63 t32_62) fun t33_70=>k66 t33_70 h63 n64) fun t33_67 h68 n69=>ifP t28_45 true h68 n69 (fun k71=>k71 (e 0) h68 n69) fun t34_72 h73 n74=>ifP t28_45 true h73 n74 (fun k75=>k75 (e 5) h73 n74) fun t35_76 h77 n78=>ifP t28_45 true h77 n78 (fun k79=>aA (dI 1 t34_72 t35_76) fun t36_83=>k79 t36_83 h77 n78) fun t36_80 h81 n82=>ifP t28_45 true h81 n82 (fun k84=>aA (load1 ro h81 t36_80) fun t37_88=>k84 t37_88 h81 n82) fun t37_85 h86 n87=>ifP t28_45 true h86 n87 (fun k89=>aA (aX .geq t33_67 t37_85) fun t38_93=>k89 t38_93 h86 n87) fun t38_90 h91 n92=>ifP t24_34 false h91 n92 (fun k94=>aA (dK t28_45 t38_90 (Value.bool false)) fun t39_98=>k94 t39_98 h91 n92) fun t39_95 h96 n97=>aA (dK t24_34 (Value.bool true) t39_95) fun t40_99=>aZ t40_99 (Q .ret (puts e [(6,(e 5)),(7,(e 0)),(8,t8_2),(9,t9_3),(12,(e 0)),(13,(e 5)),(14,t14_4),(15,t15_5),(16,t16_6),(17,t16_6),(18,t18_8),(19,t19_12),(20,t20_16),(21,t21_21),(22,t22_26),(23,t23_30),(24,t24_34),(25,t24_34),(26,t26_36),(27,t27_40),(28,t28_45),(29,t29_49),(30,t30_53),(31,t31_57),(32,t32_62),(33,t33_67),(34,t34_72),(35,t35_76),(36,t36_80),(37,t37_85),(38,t38_90),(39,t39_95),(40,t40_99),(4,(Value.bool false))]) h96 (n97+1)) (aA (aX .add (e 5) (Value.int IntKind.i64 1)) fun t11_100=>Q .normal (puts e [(6,(e 5)),(7,(e 0)),(8,t8_2),(9,t9_3),(12,(e 0)),(13,(e 5)),(14,t14_4),(15,t15_5),(16,t16_6),(17,t16_6),(18,t18_8),(19,t19_12),(20,t20_16),(21,t21_21),(22,t22_26),(23,t23_30),(24,t24_34),(25,t24_34),(26,t26_36),(27,t27_40),(28,t28_45),(29,t29_49),(30,t30_53),(31,t31_57),(32,t32_62),(33,t33_67),(34,t34_72),(35,t35_76),(36,t36_80),(37,t37_85),(38,t38_90),(39,t39_95),(40,t40_99),(10,(e 5)),(11,t11_100),(5,t11_100)]) h96 (n97+3))) (Q (.exit 0) (puts e [(6,(e 5)),(7,(e 0)),(8,t8_2),(9,t9_3)]) h (nx+4))
@[irreducible] def xC (ro:Ro) (v0 v1:Value) (h:T Obj) (nx:Nat) (K:KV):Prop:=d5 (xE ro) (puts (i3 [v0,v1]) [(4,(Value.bool false)),(5,(Value.int IntKind.i64 0))]) h (nx+2) fun x104 e101 h102 n103=>exP x104 (qZ ro K e101 h102 n103) (fun i105=>d8 (Nat.beq i105 0) (qZ ro K e101 h102 n103) (False)) (∃ h106,Sub h106 h102∧K (e101 4) h106 n103)
theorem aDG (ro:Ro) (v0 v1:Value) (h:T Obj) (nx:Nat) (K:KV):bJ Tryz.prog ro (aN Tryz.prog ro) Tryz.f83 [v0,v1] h nx K=xC ro v0 v1 h nx K:=by kernel_rfl
theorem aDH {ro:Ro} {v0 v1:Value} {h:T Obj} {nx:Nat} {K:KV} (hw:xC ro v0 v1 h nx K):aN Tryz.prog ro oN [v0,v1] h nx K:=bF (P:=Tryz.prog) (fn:=Tryz.f83) (by kernel_rfl) (by kernel_rfl) (by kernel_rfl) (Eq.mpr (aDG ro v0 v1 h nx K) hw)
@[irreducible] def qW (ro:Ro) (K:KV):Env→T Obj→Nat→Prop:=fun e h nx=>∃ h22,Sub h22 h∧K (e 3) h22 (nx+2)
@[irreducible] def nO (ro:Ro) (Q:KE):Env→T Obj→Nat→Prop:=fun e h nx=>aA (aX .add (e 4) (Value.int IntKind.i64 1)) fun t19_26=>Q .normal (puts e [(18,(e 4)),(19,t19_26),(4,t19_26)]) h (nx+3)
@[irreducible] def wV (ro:Ro):PT:=fun e h nx Q=>aA (aY 256 (e 1)) fun t15_23=>aA (load1 ro h t15_23) fun t16_24=>aA (aX .lss (e 4) t16_24) fun t17_25=>aZ t17_25 (aA (loadA ro h 257 (e 1)) fun t20_27=>aN Tryz.prog ro wO [t20_27,(e 4)] h (nx+7) fun t22_28 h29 n30=>aN Tryz.prog ro uH [t22_28] h29 (n30+1) fun t23_31 h32 n33=>aA (cU t23_31) fun t25_34=>aA (aX .eql t25_34 (Value.int IntKind.i64 0)) fun t26_35=>aZ t26_35 (aA (a7 Tryz.prog bS (n33+5) 1 [(0,(Value.int IntKind.u8 0))]) fun r36=>eG h32 (n33+5) r36.2 fun h37=>aA (bX Tryz.prog ro h37 (n33+7) #[bS,bS] [(e 3),r36.1]) fun r38=>nO ro Q (puts e [(14,(e 4)),(15,t15_23),(16,t16_24),(17,t17_25),(20,t20_27),(21,(e 4)),(22,t22_28),(23,t23_31),(5,t23_31),(24,t23_31),(25,t25_34),(26,t26_35),(27,(e 3)),(28,r36.1),(29,r38.1),(3,r38.1)]) r38.2.1 (r38.2.2+1)) (aA (dI 1 t23_31 (Value.int IntKind.i64 0)) fun t32_39=>aA (load1 ro h32 t32_39) fun t33_40=>aA (a7 Tryz.prog bS (n33+8) 1 [(0,t33_40)]) fun r41=>eG h32 (n33+8) r41.2 fun h42=>aA (bX Tryz.prog ro h42 (n33+10) #[bS,bS] [(e 3),r41.1]) fun r43=>nO ro Q (puts e [(14,(e 4)),(15,t15_23),(16,t16_24),(17,t17_25),(20,t20_27),(21,(e 4)),(22,t22_28),(23,t23_31),(5,t23_31),(24,t23_31),(25,t25_34),(26,t26_35),(30,(e 3)),(31,t23_31),(32,t32_39),(33,t33_40),(34,r41.1),(35,r43.1),(3,r43.1)]) r43.2.1 (r43.2.2+1))) (Q (.exit 0) (puts e [(14,(e 4)),(15,t15_23),(16,t16_24),(17,t17_25)]) h (nx+4))
@[irreducible] def wU (ro:Ro) (v0:Value) (h:T Obj) (nx:Nat) (K:KV):Prop:=d4 h nx (.cells (Value.cells v0) cG) fun h1=>aA (aY 256 (ptr nx)) fun t6_2=>aA (load1 ro h1 t6_2) fun t7_3=>aA (aX .lss t7_3 (Value.int IntKind.i64 1)) fun t8_4=>ifP t8_4 false h1 (nx+6) (fun k5=>aA (aY 256 (ptr nx)) fun t10_9=>k5 t10_9 h1 (nx+7)) fun t10_6 h7 n8=>ifP t8_4 false h7 n8 (fun k10=>aA (load1 ro h7 t10_6) fun t11_14=>k10 t11_14 h7 (n8+1)) fun t11_11 h12 n13=>ifP t8_4 false h12 n13 (fun k15=>aA (aX .gtr t11_11 (Value.int IntKind.i64 256)) fun t12_19=>k15 t12_19 h12 (n13+1)) fun t12_16 h17 n18=>aA (dK t8_4 (Value.bool true) t12_16) fun t13_20=>aZ t13_20 (∃ h21,Sub h21 h17∧K (Value.slice none 0 0) h21 (n18+2)) (d5 (wV ro) (puts (i3 [v0]) [(1,(ptr nx)),(2,(Value.slice none 0 0)),(6,t6_2),(7,t7_3),(8,t8_4),(9,t8_4),(10,t10_6),(11,t11_11),(12,t12_16),(13,t13_20),(3,(Value.slice none 0 0)),(4,(Value.int IntKind.i64 0))]) h17 (n18+3) fun x47 e44 h45 n46=>exP x47 (qW ro K e44 h45 n46) (fun i48=>d8 (Nat.beq i48 0) (qW ro K e44 h45 n46) (False)) (∃ h49,Sub h49 h45∧K (e44 2) h49 n46))
theorem aCz (ro:Ro) (v0:Value) (h:T Obj) (nx:Nat) (K:KV):bJ Tryz.prog ro (aN Tryz.prog ro) Tryz.f86 [v0] h nx K=wU ro v0 h nx K:=by kernel_rfl
theorem aDA {ro:Ro} {v0:Value} {h:T Obj} {nx:Nat} {K:KV} (hw:wU ro v0 h nx K):aN Tryz.prog ro lS [v0] h nx K:=bF (P:=Tryz.prog) (fn:=Tryz.f86) (by kernel_rfl) (by kernel_rfl) (by kernel_rfl) (Eq.mpr (aCz ro v0 h nx K) hw)
@[irreducible] def aBK (ro:Ro) (v0 v1:Value) (h:T Obj) (nx:Nat) (K:KV):Prop:=d4 h nx (.cells (Value.cells v0) bN) fun h1=>aA (aX .quo v1 (Value.int IntKind.u8 64)) fun t6_2=>aA (ixArr 4 1 (ptr nx) t6_2) fun t7_3=>aA (load1 ro h1 t7_3) fun t8_4=>aA (aX .rem v1 (Value.int IntKind.u8 64)) fun t10_5=>aA (aX .shr t8_4 t10_5) fun t11_6=>aA (aX .rem t11_6 (Value.int IntKind.u64 2)) fun t12_7=>aA (aX .eql t12_7 (Value.int IntKind.u64 1)) fun t13_8=>∃ h9,Sub h9 h1∧K t13_8 h9 (nx+12)
theorem aF0 (ro:Ro) (v0 v1:Value) (h:T Obj) (nx:Nat) (K:KV):bJ Tryz.prog ro (aN Tryz.prog ro) Tryz.f87 [v0,v1] h nx K=aBK ro v0 v1 h nx K:=by kernel_rfl
theorem aF1 {ro:Ro} {v0 v1:Value} {h:T Obj} {nx:Nat} {K:KV} (hw:aBK ro v0 v1 h nx K):aN Tryz.prog ro kN [v0,v1] h nx K:=bF (P:=Tryz.prog) (fn:=Tryz.f87) (by kernel_rfl) (by kernel_rfl) (by kernel_rfl) (Eq.mpr (aF0 ro v0 v1 h nx K) hw)
@[irreducible] def rI (ro:Ro) (K:KV):Env→T Obj→Nat→Prop:=fun e h nx=>aA (aY 256 (e 1)) fun t25_2=>aA (load1 ro h t25_2) fun t26_3=>aA (aX .eql (e 3) t26_3) fun t27_4=>∃ h5,Sub h5 h∧K t27_4 h5 (nx+5)
@[irreducible] def nS (ro:Ro) (Q:KE):Env→T Obj→Nat→Prop:=fun e h nx=>aA (aX .add (e 8) (Value.int IntKind.i64 1)) fun t23_9=>Q .normal (puts e [(23,t23_9),(8,t23_9)]) h (nx+2)
@[irreducible] def xV (ro:Ro):PT:=fun e h nx Q=>aA (aX .lss (e 8) (Value.int IntKind.i64 256)) fun t9_8=>aZ t9_8 (aA (aMs 256 1 (e 7) (e 8)) fun t10_10=>aA (pK .i64 t10_10) fun t13_11=>aA (aX .gtr t13_11 (e 3)) fun t15_12=>aZ t15_12 (Q .ret (puts e [(9,t9_8),(10,t10_10),(5,t10_10),(12,t10_10),(13,t13_11),(14,(e 3)),(15,t15_12),(11,t15_12),(2,(Value.bool false))]) h (nx+9)) (aA (pK .i64 t10_10) fun t18_13=>aA (aX .eql t18_13 (e 3)) fun t20_14=>aZ t20_14 (aA (aX .add (e 3) (Value.int IntKind.i64 1)) fun t22_15=>nS ro Q (puts e [(9,t9_8),(10,t10_10),(5,t10_10),(12,t10_10),(13,t13_11),(14,(e 3)),(15,t15_12),(11,t15_12),(17,t10_10),(18,t18_13),(19,(e 3)),(20,t20_14),(16,t20_14),(21,(e 3)),(22,t22_15),(3,t22_15)]) h (nx+16)) (nS ro Q (puts e [(9,t9_8),(10,t10_10),(5,t10_10),(12,t10_10),(13,t13_11),(14,(e 3)),(15,t15_12),(11,t15_12),(17,t10_10),(18,t18_13),(19,(e 3)),(20,t20_14),(16,t20_14)]) h (nx+13)))) (Q (.exit 0) (puts e [(9,t9_8)]) h (nx+1))
@[irreducible] def xU (ro:Ro) (v0:Value) (h:T Obj) (nx:Nat) (K:KV):Prop:=d4 h nx (.cells (Value.cells v0) cG) fun h1=>aA (aY 0 (ptr nx)) fun t6_6=>aA (loadA ro h1 256 t6_6) fun t7_7=>d5 (xV ro) (puts (i3 [v0]) [(1,(ptr nx)),(2,(Value.bool false)),(3,(Value.int IntKind.i64 0)),(6,t6_6),(7,t7_7),(8,(Value.int IntKind.i64 0))]) h1 (nx+6) fun x19 e16 h17 n18=>exP x19 (rI ro K e16 h17 n18) (fun i20=>d8 (Nat.beq i20 0) (rI ro K e16 h17 n18) (False)) (∃ h21,Sub h21 h17∧K (e16 2) h21 n18)
theorem aDX (ro:Ro) (v0:Value) (h:T Obj) (nx:Nat) (K:KV):bJ Tryz.prog ro (aN Tryz.prog ro) Tryz.f91 [v0] h nx K=xU ro v0 h nx K:=by kernel_rfl
theorem aDY {ro:Ro} {v0:Value} {h:T Obj} {nx:Nat} {K:KV} (hw:xU ro v0 h nx K):aN Tryz.prog ro sK [v0] h nx K:=bF (P:=Tryz.prog) (fn:=Tryz.f91) (by kernel_rfl) (by kernel_rfl) (by kernel_rfl) (Eq.mpr (aDX ro v0 h nx K) hw)
@[irreducible] def eJ (ro:Ro) (v0 v1:Value) (h:T Obj) (nx:Nat) (K:KV):Prop:=aN Tryz.prog ro eO [v0,v1] h (nx+4) fun t7_1 h2 n3=>aA (aX .geq t7_1 (Value.int IntKind.i64 0)) fun t8_4=>∃ h5,Sub h5 h2∧K t8_4 h5 (n3+2)
theorem jD (ro:Ro) (v0 v1:Value) (h:T Obj) (nx:Nat) (K:KV):bJ Tryz.prog ro (aN Tryz.prog ro) Tryz.f92 [v0,v1] h nx K=eJ ro v0 v1 h nx K:=by kernel_rfl
theorem jE {ro:Ro} {v0 v1:Value} {h:T Obj} {nx:Nat} {K:KV} (hw:eJ ro v0 v1 h nx K):aN Tryz.prog ro eE [v0,v1] h nx K:=bF (P:=Tryz.prog) (fn:=Tryz.f92) (by kernel_rfl) (by kernel_rfl) (by kernel_rfl) (Eq.mpr (jD ro v0 v1 h nx K) hw)
@[irreducible] def tW (ro:Ro) (v0 v1:Value) (h:T Obj) (nx:Nat) (K:KV):Prop:=d4 h nx (.cells (Value.cells v0) aP) fun h1=>aA (loadA ro h1 259 v1) fun t4_2=>aA (loadA ro h1 4 (ptr nx)) fun t5_3=>aN Tryz.prog ro kK [t4_2,t5_3] h1 (nx+5) fun t6_4 h5 n6=>aA (unV .not t6_4) fun t7_7=>∃ h8,Sub h8 h5∧K t7_7 h8 (n6+2)
theorem aBt (ro:Ro) (v0 v1:Value) (h:T Obj) (nx:Nat) (K:KV):bJ Tryz.prog ro (aN Tryz.prog ro) Tryz.f93 [v0,v1] h nx K=tW ro v0 v1 h nx K:=by kernel_rfl
theorem aBu {ro:Ro} {v0 v1:Value} {h:T Obj} {nx:Nat} {K:KV} (hw:tW ro v0 v1 h nx K):aN Tryz.prog ro qO [v0,v1] h nx K:=bF (P:=Tryz.prog) (fn:=Tryz.f93) (by kernel_rfl) (by kernel_rfl) (by kernel_rfl) (Eq.mpr (aBt ro v0 v1 h nx K) hw)
@[irreducible] def jS (ro:Ro) (K:KV):Env→T Obj→Nat→Prop:=fun e h nx=>∃ h127,Sub h127 h∧K (Value.bool true) h127 (nx+1)
@[irreducible] def nW (ro:Ro):PT:=fun e h nx Q=>aA (aX .lss (e 47) (e 46)) fun t48_131=>aZ t48_131 (aA (dI 1 (e 45) (e 47)) fun t50_132=>aA (load1 ro h t50_132) fun t51_133=>aA (aY 2 (e 3)) fun t52_134=>aA (load1 ro h t52_134) fun t53_135=>aA (dI 1 t53_135 (e 47)) fun t55_136=>aA (load1 ro h t55_136) fun t56_137=>aA (aX .lss t56_137 (Value.int IntKind.i64 (-1))) fun t57_138=>ifP t57_138 false h (nx+13) (fun k139=>aA (aY 2 (e 3)) fun t59_143=>k139 t59_143 h (nx+14)) fun t59_140 h141 n142=>ifP t57_138 false h141 n142 (fun k144=>aA (load1 ro h141 t59_140) fun t60_148=>k144 t60_148 h141 (n142+1)) fun t60_145 h146 n147=>ifP t57_138 false h146 n147 (fun k149=>k149 (e 47) h146 (n147+1)) fun t61_150 h151 n152=>ifP t57_138 false h151 n152 (fun k153=>aA (dI 1 t60_145 t61_150) fun t62_157=>k153 t62_157 h151 (n152+1)) fun t62_154 h155 n156=>ifP t57_138 false h155 n156 (fun k158=>aA (load1 ro h155 t62_154) fun t63_162=>k158 t63_162 h155 (n156+1)) fun t63_159 h160 n161=>ifP t57_138 false h160 n161 (fun k163=>aA (aX .geq t63_159 (Value.int IntKind.i64 512)) fun t64_167=>k163 t64_167 h160 (n161+1)) fun t64_164 h165 n166=>aA (dK t57_138 (Value.bool true) t64_164) fun t65_168=>ifP t65_168 false h165 (n166+2) (fun k169=>k169 t51_133 h165 (n166+3)) fun t67_170 h171 n172=>ifP t65_168 false h171 n172 (fun k173=>aA (cU t67_170) fun t68_177=>k173 t68_177 h171 (n172+1)) fun t68_174 h175 n176=>ifP t65_168 false h175 n176 (fun k178=>aA (aY 0 (e 2)) fun t69_182=>k178 t69_182 h175 (n176+1)) fun t69_179 h180 n181=>ifP t65_168 false h180 n181 (fun k183=>aA (aY 0 t69_179) fun t70_187=>k183 t70_187 h180 (n181+1)) fun t70_184 h185 n186=>ifP t65_168 false h185 n186 (fun k188=>aA (aY 256 t70_184) fun t71_192=>k188 t71_192 h185 (n186+1)) fun t71_189 h190 n191=>ifP t65_168 false h190 n191 (fun k193=>aA (load1 ro h190 t71_189) fun t72_197=>k193 t72_197 h190 (n191+1)) fun t72_194 h195 n196=>ifP t65_168 false h195 n196 (fun k198=>aA (aX .neq t68_174 t72_194) fun t73_202=>k198 t73_202 h195 (n196+1)) fun t73_199 h200 n201=>aA (dK t65_168 (Value.bool true) t73_199) fun t74_203=>aZ t74_203 (Q .ret (puts e [(48,t48_131),(49,(e 47)),(50,t50_132),(51,t51_133),(6,(e 47)),(7,t51_133),(52,t52_134),(53,t53_135),(54,(e 47)),(55,t55_136),(56,t56_137),(57,t57_138),(58,t57_138),(59,t59_140),(60,t60_145),(61,t61_150),(62,t62_154),(63,t63_159),(64,t64_164),(65,t65_168),(66,t65_168),(67,t67_170),(68,t68_174),(69,t69_179),(70,t70_184),(71,t71_189),(72,t72_194),(73,t73_199),(74,t74_203),(4,(Value.bool false))]) h200 (n201+2)) (aN Tryz.prog ro eI [t51_133,(.func (.func fJ) #[] #[(e 2),(e 3)])] h200 (n201+4) fun t77_204 h205 n206=>aZ t77_204 (Q .ret (puts e [(48,t48_131),(49,(e 47)),(50,t50_132),(51,t51_133),(6,(e 47)),(7,t51_133),(52,t52_134),(53,t53_135),(54,(e 47)),(55,t55_136),(56,t56_137),(57,t57_138),(58,t57_138),(59,t59_140),(60,t60_145),(61,t61_150),(62,t62_154),(63,t63_159),(64,t64_164),(65,t65_168),(66,t65_168),(67,t67_170),(68,t68_174),(69,t69_179),(70,t70_184),(71,t71_189),(72,t72_194),(73,t73_199),(74,t74_203),(75,t51_133),(76,(.func (.func fJ) #[] #[(e 2),(e 3)])),(77,t77_204),(4,(Value.bool false))]) h205 (n206+1)) (aA (aX .add (e 47) (Value.int IntKind.i64 1)) fun t78_207=>Q .normal (puts e [(48,t48_131),(49,(e 47)),(50,t50_132),(51,t51_133),(6,(e 47)),(7,t51_133),(52,t52_134),(53,t53_135),(54,(e 47)),(55,t55_136),(56,t56_137),(57,t57_138),(58,t57_138),(59,t59_140),(60,t60_145),(61,t61_150),(62,t62_154),(63,t63_159),(64,t64_164),(65,t65_168),(66,t65_168),(67,t67_170),(68,t68_174),(69,t69_179),(70,t70_184),(71,t71_189),(72,t72_194),(73,t73_199),(74,t74_203),(75,t51_133),(76,(.func (.func fJ) #[] #[(e 2),(e 3)])),(77,t77_204),(78,t78_207),(47,t78_207)]) h205 (n206+2)))) (Q (.exit 0) (puts e [(48,t48_131)]) h (nx+1))
@[irreducible] def lY (ro:Ro) (v0 v1:Value) (h:T Obj) (nx:Nat) (K:KV):Prop:=d4 h nx (.cells (Value.cells v0) dM) fun h1=>d4 h1 (nx+1) (.cells (Value.cells v1) aP) fun h2=>aA (aY 1 (ptr (nx+1))) fun t8_3=>aA (load1 ro h2 t8_3) fun t9_4=>aA (cU t9_4) fun t10_5=>aN Tryz.prog ro uD [t10_5] h2 (nx+7) fun t11_6 h7 n8=>aA (aX .eql t11_6 (Value.int IntKind.i64 0)) fun t13_9=>ifP t13_9 false h7 (n8+4) (fun k10=>aA (aY 2 (ptr (nx+1))) fun t15_14=>k10 t15_14 h7 (n8+5)) fun t15_11 h12 n13=>ifP t13_9 false h12 n13 (fun k15=>aA (load1 ro h12 t15_11) fun t16_19=>k15 t16_19 h12 (n13+1)) fun t16_16 h17 n18=>ifP t13_9 false h17 n18 (fun k20=>aA (cU t16_16) fun t17_24=>k20 t17_24 h17 (n18+1)) fun t17_21 h22 n23=>ifP t13_9 false h22 n23 (fun k25=>k25 t11_6 h22 (n23+1)) fun t18_26 h27 n28=>ifP t13_9 false h27 n28 (fun k29=>aA (aX .neq t17_21 t18_26) fun t19_33=>k29 t19_33 h27 (n28+1)) fun t19_30 h31 n32=>aA (dK t13_9 (Value.bool true) t19_30) fun t20_34=>ifP t20_34 false h31 (n32+2) (fun k35=>aA (aY 3 (ptr (nx+1))) fun t22_39=>k35 t22_39 h31 (n32+3)) fun t22_36 h37 n38=>ifP t20_34 false h37 n38 (fun k40=>aA (load1 ro h37 t22_36) fun t23_44=>k40 t23_44 h37 (n38+1)) fun t23_41 h42 n43=>ifP t20_34 false h42 n43 (fun k45=>aA (cU t23_41) fun t24_49=>k45 t24_49 h42 (n43+1)) fun t24_46 h47 n48=>ifP t20_34 false h47 n48 (fun k50=>k50 t11_6 h47 (n48+1)) fun t25_51 h52 n53=>ifP t20_34 false h52 n53 (fun k54=>aA (aX .neq t24_46 t25_51) fun t26_58=>k54 t26_58 h52 (n53+1)) fun t26_55 h56 n57=>aA (dK t20_34 (Value.bool true) t26_55) fun t27_59=>ifP t27_59 false h56 (n57+2) (fun k60=>aA (aY 0 (ptr (nx+1))) fun t29_64=>k60 t29_64 h56 (n57+3)) fun t29_61 h62 n63=>ifP t27_59 false h62 n63 (fun k65=>aA (load1 ro h62 t29_61) fun t30_69=>k65 t30_69 h62 (n63+1)) fun t30_66 h67 n68=>ifP t27_59 false h67 n68 (fun k70=>aN Tryz.prog ro pS [t30_66,(Value.int IntKind.i64 512)] h67 (n68+1) fun t31_74 h75 n76=>k70 t31_74 h75 n76) fun t31_71 h72 n73=>ifP t27_59 false h72 n73 (fun k77=>aA (unV .not t31_71) fun t32_81=>k77 t32_81 h72 (n73+1)) fun t32_78 h79 n80=>aA (dK t27_59 (Value.bool true) t32_78) fun t33_82=>ifP t33_82 false h79 (n80+2) (fun k83=>aA (aY 1 (ptr (nx+1))) fun t35_87=>k83 t35_87 h79 (n80+3)) fun t35_84 h85 n86=>ifP t33_82 false h85 n86 (fun k88=>aA (load1 ro h85 t35_84) fun t36_92=>k88 t36_92 h85 (n86+1)) fun t36_89 h90 n91=>ifP t33_82 false h90 n91 (fun k93=>aA (aY 0 (ptr nx)) fun t37_97=>k93 t37_97 h90 (n91+1)) fun t37_94 h95 n96=>ifP t33_82 false h95 n96 (fun k98=>aA (aY 257 t37_94) fun t38_102=>k98 t38_102 h95 (n96+1)) fun t38_99 h100 n101=>ifP t33_82 false h100 n101 (fun k103=>aA (load1 ro h100 t38_99) fun t39_107=>k103 t39_107 h100 (n101+1)) fun t39_104 h105 n106=>ifP t33_82 false h105 n106 (fun k108=>aA (cU t39_104) fun t40_112=>k108 t40_112 h105 (n106+1)) fun t40_109 h110 n111=>ifP t33_82 false h110 n111 (fun k113=>aN Tryz.prog ro pS [t36_89,t40_109] h110 (n111+1) fun t41_117 h118 n119=>k113 t41_117 h118 n119) fun t41_114 h115 n116=>ifP t33_82 false h115 n116 (fun k120=>aA (unV .not t41_114) fun t42_124=>k120 t42_124 h115 (n116+1)) fun t42_121 h122 n123=>aA (dK t33_82 (Value.bool true) t42_121) fun t43_125=>aZ t43_125 (∃ h126,Sub h126 h122∧K (Value.bool false) h126 (n123+2)) (aA (aY 3 (ptr (nx+1))) fun t44_128=>aA (load1 ro h122 t44_128) fun t45_129=>aA (cU t45_129) fun t46_130=>d5 (nW ro) (puts (i3 [v0,v1]) [(2,(ptr nx)),(3,(ptr (nx+1))),(4,(Value.bool false)),(8,t8_3),(9,t9_4),(10,t10_5),(11,t11_6),(5,t11_6),(12,t11_6),(13,t13_9),(14,t13_9),(15,t15_11),(16,t16_16),(17,t17_21),(18,t18_26),(19,t19_30),(20,t20_34),(21,t20_34),(22,t22_36),(23,t23_41),(24,t24_46),(25,t25_51),(26,t26_55),(27,t27_59),(28,t27_59),(29,t29_61),(30,t30_66),(31,t31_71),(32,t32_78),(33,t33_82),(34,t33_82),(35,t35_84),(36,t36_89),(37,t37_94),(38,t38_99),(39,t39_104),(40,t40_109),(41,t41_114),(42,t42_121),(43,t43_125),(44,t44_128),(45,t45_129),(46,t46_130),(47,(Value.int IntKind.i64 0))]) h122 (n123+5) fun x211 e208 h209 n210=>exP x211 (jS ro K e208 h209 n210) (fun i212=>d8 (Nat.beq i212 0) (jS ro K e208 h209 n210) (False)) (∃ h213,Sub h213 h209∧K (e208 4) h213 n210))
theorem vC (ro:Ro) (v0 v1:Value) (h:T Obj) (nx:Nat) (K:KV):bJ Tryz.prog ro (aN Tryz.prog ro) Tryz.f94 [v0,v1] h nx K=lY ro v0 v1 h nx K:=by kernel_rfl
theorem vD {ro:Ro} {v0 v1:Value} {h:T Obj} {nx:Nat} {K:KV} (hw:lY ro v0 v1 h nx K):aN Tryz.prog ro kK [v0,v1] h nx K:=bF (P:=Tryz.prog) (fn:=Tryz.f94) (by kernel_rfl) (by kernel_rfl) (by kernel_rfl) (Eq.mpr (vC ro v0 v1 h nx K) hw)
@[irreducible] def iQ (ro:Ro) (v0:Value) (h:T Obj) (nx:Nat) (K:KV):Prop:=aA (slB .eql v0 (Value.slice none 0 0)) fun t4_1=>aZ t4_1 (∃ h2,Sub h2 h∧K (Value.slice none 0 0) h2 (nx+4)) (aA (a7 Tryz.prog fY (nx+3) 0 []) fun r3=>eG h (nx+3) r3.2 fun h4=>aA (bX Tryz.prog ro h4 (nx+6) #[fY,fY] [r3.1,v0]) fun r5=>∃ h6,Sub h6 r5.2.1∧K r5.1 h6 (r5.2.2+1))
theorem pY (ro:Ro) (v0:Value) (h:T Obj) (nx:Nat) (K:KV):bJ Tryz.prog ro (aN Tryz.prog ro) Tryz.f95 [v0] h nx K=iQ ro v0 h nx K:=by kernel_rfl
theorem pZ {ro:Ro} {v0:Value} {h:T Obj} {nx:Nat} {K:KV} (hw:iQ ro v0 h nx K):aN Tryz.prog ro gS [v0] h nx K:=bF (P:=Tryz.prog) (fn:=Tryz.f95) (by kernel_rfl) (by kernel_rfl) (by kernel_rfl) (Eq.mpr (pY ro v0 h nx K) hw)
@[irreducible] def kY (ro:Ro) (v0:Value) (h:T Obj) (nx:Nat) (K:KV):Prop:=aA (slB .eql v0 (Value.slice none 0 0)) fun t4_1=>aZ t4_1 (∃ h2,Sub h2 h∧K (Value.slice none 0 0) h2 (nx+4)) (aA (a7 Tryz.prog dD (nx+3) 0 []) fun r3=>eG h (nx+3) r3.2 fun h4=>aA (bX Tryz.prog ro h4 (nx+6) #[dD,dD] [r3.1,v0]) fun r5=>∃ h6,Sub h6 r5.2.1∧K r5.1 h6 (r5.2.2+1))
theorem tM (ro:Ro) (v0:Value) (h:T Obj) (nx:Nat) (K:KV):bJ Tryz.prog ro (aN Tryz.prog ro) Tryz.f96 [v0] h nx K=kY ro v0 h nx K:=by kernel_rfl
theorem tN {ro:Ro} {v0:Value} {h:T Obj} {nx:Nat} {K:KV} (hw:kY ro v0 h nx K):aN Tryz.prog ro gN [v0] h nx K:=bF (P:=Tryz.prog) (fn:=Tryz.f96) (by kernel_rfl) (by kernel_rfl) (by kernel_rfl) (Eq.mpr (tM ro v0 h nx K) hw)
@[irreducible] def fX (ro:Ro) (v0:Value) (h:T Obj) (nx:Nat) (K:KV):Prop:=aA (slB .eql v0 (Value.slice none 0 0)) fun t4_1=>aZ t4_1 (∃ h2,Sub h2 h∧K (Value.slice none 0 0) h2 (nx+4)) (aA (a7 Tryz.prog bE (nx+3) 0 []) fun r3=>eG h (nx+3) r3.2 fun h4=>aA (bX Tryz.prog ro h4 (nx+6) #[bE,bE] [r3.1,v0]) fun r5=>∃ h6,Sub h6 r5.2.1∧K r5.1 h6 (r5.2.2+1))
theorem mX (ro:Ro) (v0:Value) (h:T Obj) (nx:Nat) (K:KV):bJ Tryz.prog ro (aN Tryz.prog ro) Tryz.f97 [v0] h nx K=fX ro v0 h nx K:=by kernel_rfl
theorem mY {ro:Ro} {v0:Value} {h:T Obj} {nx:Nat} {K:KV} (hw:fX ro v0 h nx K):aN Tryz.prog ro fK [v0] h nx K:=bF (P:=Tryz.prog) (fn:=Tryz.f97) (by kernel_rfl) (by kernel_rfl) (by kernel_rfl) (Eq.mpr (mX ro v0 h nx K) hw)
@[irreducible] def iR (ro:Ro) (v0:Value) (h:T Obj) (nx:Nat) (K:KV):Prop:=aA (slB .eql v0 (Value.slice none 0 0)) fun t4_1=>aZ t4_1 (∃ h2,Sub h2 h∧K (Value.slice none 0 0) h2 (nx+4)) (aA (a7 Tryz.prog bS (nx+3) 0 []) fun r3=>eG h (nx+3) r3.2 fun h4=>aA (bX Tryz.prog ro h4 (nx+6) #[bS,bS] [r3.1,v0]) fun r5=>∃ h6,Sub h6 r5.2.1∧K r5.1 h6 (r5.2.2+1))
theorem qA (ro:Ro) (v0:Value) (h:T Obj) (nx:Nat) (K:KV):bJ Tryz.prog ro (aN Tryz.prog ro) Tryz.f98 [v0] h nx K=iR ro v0 h nx K:=by kernel_rfl
theorem qB {ro:Ro} {v0:Value} {h:T Obj} {nx:Nat} {K:KV} (hw:iR ro v0 h nx K):aN Tryz.prog ro gT [v0] h nx K:=bF (P:=Tryz.prog) (fn:=Tryz.f98) (by kernel_rfl) (by kernel_rfl) (by kernel_rfl) (Eq.mpr (qA ro v0 h nx K) hw)
@[irreducible] def iZ (ro:Ro) (K:KV):Env→T Obj→Nat→Prop:=fun e h nx=>∃ h1,Sub h1 h∧K (Value.int IntKind.i64 (-1)) h1 (nx+1)
@[irreducible] def mT (ro:Ro):PT:=fun e h nx Q=>aA (aX .lss (e 8) (e 7)) fun t9_3=>aZ t9_3 (aA (dI 1 (e 0) (e 8)) fun t14_4=>aA (load1 ro h t14_4) fun t15_5=>aA (aX .eql (e 1) t15_5) fun t16_6=>aZ t16_6 (Q .ret (puts e [(9,t9_3),(10,(e 8)),(5,(e 8)),(11,(e 1)),(12,(e 0)),(13,(e 8)),(14,t14_4),(15,t15_5),(16,t16_6),(17,(e 8)),(4,(e 8))]) h (nx+11)) (aA (aX .add (e 8) (Value.int IntKind.i64 1)) fun t18_7=>Q .normal (puts e [(9,t9_3),(10,(e 8)),(5,(e 8)),(11,(e 1)),(12,(e 0)),(13,(e 8)),(14,t14_4),(15,t15_5),(16,t16_6),(18,t18_7),(8,t18_7)]) h (nx+11))) (Q (.exit 0) (puts e [(9,t9_3)]) h (nx+1))
@[irreducible] def kZ (ro:Ro) (v0 v1:Value) (h:T Obj) (nx:Nat) (K:KV):Prop:=aA (cU v0) fun t7_2=>d5 (mT ro) (puts (i3 [v0,v1]) [(4,(Value.int IntKind.i64 0)),(6,v0),(7,t7_2),(8,(Value.int IntKind.i64 0))]) h (nx+4) fun x11 e8 h9 n10=>exP x11 (iZ ro K e8 h9 n10) (fun i12=>d8 (Nat.beq i12 0) (iZ ro K e8 h9 n10) (False)) (∃ h13,Sub h13 h9∧K (e8 4) h13 n10)
theorem tO (ro:Ro) (v0 v1:Value) (h:T Obj) (nx:Nat) (K:KV):bJ Tryz.prog ro (aN Tryz.prog ro) Tryz.f102 [v0,v1] h nx K=kZ ro v0 v1 h nx K:=by kernel_rfl
theorem tP {ro:Ro} {v0 v1:Value} {h:T Obj} {nx:Nat} {K:KV} (hw:kZ ro v0 v1 h nx K):aN Tryz.prog ro nM [v0,v1] h nx K:=bF (P:=Tryz.prog) (fn:=Tryz.f102) (by kernel_rfl) (by kernel_rfl) (by kernel_rfl) (Eq.mpr (tO ro v0 v1 h nx K) hw)
@[irreducible] def sO (ro:Ro) (K:KV):Env→T Obj→Nat→Prop:=fun e h nx=>∃ h2,Sub h2 h∧K (e 3) h2 (nx+2)
@[irreducible] def oP (ro:Ro) (Q:KE):Env→T Obj→Nat→Prop:=fun e h nx=>aA (aX .add (e 4) (Value.int IntKind.i64 1)) fun t8_4=>Q .normal (puts e [(7,(e 4)),(8,t8_4),(4,t8_4)]) h (nx+3)
@[irreducible] def zA (ro:Ro):PT:=fun e h nx Q=>aA (aX .lss (e 4) (Value.int IntKind.i64 256)) fun t6_3=>aZ t6_3 (aA (loadA ro h 4 (e 1)) fun t9_5=>aA (pK .u8 (e 4)) fun t11_6=>aN Tryz.prog ro kN [t9_5,t11_6] h (nx+6) fun t12_7 h8 n9=>aZ t12_7 (aA (pK .u8 (e 4)) fun t15_10=>aA (a7 Tryz.prog bS (n9+3) 1 [(0,t15_10)]) fun r11=>eG h8 (n9+3) r11.2 fun h12=>aA (bX Tryz.prog ro h12 (n9+5) #[bS,bS] [(e 3),r11.1]) fun r13=>oP ro Q (puts e [(5,(e 4)),(6,t6_3),(9,t9_5),(10,(e 4)),(11,t11_6),(12,t12_7),(13,(e 3)),(14,(e 4)),(15,t15_10),(16,r11.1),(17,r13.1),(3,r13.1)]) r13.2.1 (r13.2.2+1)) (oP ro Q (puts e [(5,(e 4)),(6,t6_3),(9,t9_5),(10,(e 4)),(11,t11_6),(12,t12_7)]) h8 n9)) (Q (.exit 0) (puts e [(5,(e 4)),(6,t6_3)]) h (nx+2))
@[irreducible] def aAA (ro:Ro) (v0:Value) (h:T Obj) (nx:Nat) (K:KV):Prop:=d4 h nx (.cells (Value.cells v0) bN) fun h1=>d5 (zA ro) (puts (i3 [v0]) [(1,(ptr nx)),(2,(Value.slice none 0 0)),(3,(Value.slice none 0 0)),(4,(Value.int IntKind.i64 0))]) h1 (nx+4) fun x17 e14 h15 n16=>exP x17 (sO ro K e14 h15 n16) (fun i18=>d8 (Nat.beq i18 0) (sO ro K e14 h15 n16) (False)) (∃ h19,Sub h19 h15∧K (e14 2) h19 n16)
theorem aDp (ro:Ro) (v0:Value) (h:T Obj) (nx:Nat) (K:KV):bJ Tryz.prog ro (aN Tryz.prog ro) Tryz.f119 [v0] h nx K=aAA ro v0 h nx K:=by kernel_rfl
theorem aDq {ro:Ro} {v0:Value} {h:T Obj} {nx:Nat} {K:KV} (hw:aAA ro v0 h nx K):aN Tryz.prog ro uH [v0] h nx K:=bF (P:=Tryz.prog) (fn:=Tryz.f119) (by kernel_rfl) (by kernel_rfl) (by kernel_rfl) (Eq.mpr (aDp ro v0 h nx K) hw)
@[irreducible] def uQ (ro:Ro) (K:KV):Env→T Obj→Nat→Prop:=fun e h nx=>aN Tryz.prog ro zS [(e 5)] h (nx+2) fun t24_4 h5 n6=>aA (bY 4 h5 (e 4) t24_4) fun h7=>aA (loadA ro h7 4 (e 4)) fun r8=>∃ h9,Sub h9 h7∧K r8 h9 (n6+1)
@[irreducible] def pV (ro:Ro) (Q:KE):Env→T Obj→Nat→Prop:=fun e h nx=>aA (aX .add (e 6) (Value.int IntKind.i64 1)) fun t10_11=>Q .normal (puts e [(9,(e 6)),(10,t10_11),(6,t10_11)]) h (nx+3)
@[irreducible] def aAe (ro:Ro):PT:=fun e h nx Q=>aA (aX .lss (e 6) (Value.int IntKind.i64 256)) fun t8_10=>aZ t8_10 (aA (aY 0 (e 2)) fun t12_12=>aA (ixArr 256 1 t12_12 (e 6)) fun t13_13=>aA (load1 ro h t13_13) fun t14_14=>aA (pK .i64 t14_14) fun t15_15=>aA (aX .eql t15_15 (e 1)) fun t17_16=>aZ t17_16 (aA (pK .u8 (e 6)) fun t20_17=>aA (a7 Tryz.prog bS (nx+12) 1 [(0,t20_17)]) fun r18=>eG h (nx+12) r18.2 fun h19=>aA (bX Tryz.prog ro h19 (nx+14) #[bS,bS] [(e 5),r18.1]) fun r20=>pV ro Q (puts e [(7,(e 6)),(8,t8_10),(11,(e 6)),(12,t12_12),(13,t13_13),(14,t14_14),(15,t15_15),(16,(e 1)),(17,t17_16),(18,(e 5)),(19,(e 6)),(20,t20_17),(21,r18.1),(22,r20.1),(5,r20.1)]) r20.2.1 (r20.2.2+1)) (pV ro Q (puts e [(7,(e 6)),(8,t8_10),(11,(e 6)),(12,t12_12),(13,t13_13),(14,t14_14),(15,t15_15),(16,(e 1)),(17,t17_16)]) h (nx+9))) (Q (.exit 0) (puts e [(7,(e 6)),(8,t8_10)]) h (nx+2))
@[irreducible] def aBL (ro:Ro) (v0 v1:Value) (h:T Obj) (nx:Nat) (K:KV):Prop:=d4 h nx (.cells (Value.cells v0) cG) fun h1=>aA (zer Tryz.prog bN) fun z2=>d4 h1 (nx+1) (.cells z2.cells bN) fun h3=>d5 (aAe ro) (puts (i3 [v0,v1]) [(2,(ptr nx)),(4,(ptr (nx+1))),(5,(Value.slice none 0 0)),(6,(Value.int IntKind.i64 0))]) h3 (nx+4) fun x24 e21 h22 n23=>exP x24 (uQ ro K e21 h22 n23) (fun i25=>d8 (Nat.beq i25 0) (uQ ro K e21 h22 n23) (False)) (aA (loadA ro h22 4 (e21 4)) fun r26=>∃ h27,Sub h27 h22∧K r26 h27 n23)
theorem aF4 (ro:Ro) (v0 v1:Value) (h:T Obj) (nx:Nat) (K:KV):bJ Tryz.prog ro (aN Tryz.prog ro) Tryz.f120 [v0,v1] h nx K=aBL ro v0 v1 h nx K:=by kernel_rfl
theorem aF5 {ro:Ro} {v0 v1:Value} {h:T Obj} {nx:Nat} {K:KV} (hw:aBL ro v0 v1 h nx K):aN Tryz.prog ro wO [v0,v1] h nx K:=bF (P:=Tryz.prog) (fn:=Tryz.f120) (by kernel_rfl) (by kernel_rfl) (by kernel_rfl) (Eq.mpr (aF4 ro v0 v1 h nx K) hw)
@[irreducible] def xQ (ro:Ro) (K:KV):Env→T Obj→Nat→Prop:=fun e h nx=>∃ h1,Sub h1 h∧K (Value.bool false) h1 (nx+1)
@[irreducible] def aBn (ro:Ro):PT:=fun e h nx Q=>aA (cU (e 0)) fun t8_2=>aA (aX .lss (e 5) t8_2) fun t9_3=>aZ t9_3 (aA (dI 1 (e 0) (e 5)) fun t14_4=>aA (load1 ro h t14_4) fun t15_5=>aA (aX .eql t15_5 (e 1)) fun t17_6=>aZ t17_6 (Q .ret (puts e [(6,(e 5)),(7,(e 0)),(8,t8_2),(9,t9_3),(12,(e 0)),(13,(e 5)),(14,t14_4),(15,t15_5),(16,(e 1)),(17,t17_6),(4,(Value.bool true))]) h (nx+11)) (aA (aX .add (e 5) (Value.int IntKind.i64 1)) fun t11_7=>Q .normal (puts e [(6,(e 5)),(7,(e 0)),(8,t8_2),(9,t9_3),(12,(e 0)),(13,(e 5)),(14,t14_4),(15,t15_5),(16,(e 1)),(17,t17_6),(10,(e 5)),(11,t11_7),(5,t11_7)]) h (nx+13))) (Q (.exit 0) (puts e [(6,(e 5)),(7,(e 0)),(8,t8_2),(9,t9_3)]) h (nx+4))
@[irreducible] def aDM (ro:Ro) (v0 v1:Value) (h:T Obj) (nx:Nat) (K:KV):Prop:=d5 (aBn ro) (puts (i3 [v0,v1]) [(4,(Value.bool false)),(5,(Value.int IntKind.i64 0))]) h (nx+2) fun x11 e8 h9 n10=>exP x11 (xQ ro K e8 h9 n10) (fun i12=>d8 (Nat.beq i12 0) (xQ ro K e8 h9 n10) (False)) (∃ h13,Sub h13 h9∧K (e8 4) h13 n10)
theorem aHL (ro:Ro) (v0 v1:Value) (h:T Obj) (nx:Nat) (K:KV):bJ Tryz.prog ro (aN Tryz.prog ro) Tryz.f121 [v0,v1] h nx K=aDM ro v0 v1 h nx K:=by kernel_rfl
theorem aHM {ro:Ro} {v0 v1:Value} {h:T Obj} {nx:Nat} {K:KV} (hw:aDM ro v0 v1 h nx K):aN Tryz.prog ro qQ [v0,v1] h nx K:=bF (P:=Tryz.prog) (fn:=Tryz.f121) (by kernel_rfl) (by kernel_rfl) (by kernel_rfl) (Eq.mpr (aHL ro v0 v1 h nx K) hw)
@[irreducible] def eK (ro:Ro) (K:KV):Env→T Obj→Nat→Prop:=fun e h nx=>∃ h1,Sub h1 h∧K (Value.int IntKind.i64 (-1)) h1 (nx+1)
@[irreducible] def gA (ro:Ro):PT:=fun e h nx Q=>aA (aX .lss (e 8) (e 7)) fun t9_3=>aZ t9_3 (aA (dI 4 (e 0) (e 8)) fun t14_4=>aA (loadA ro h 4 t14_4) fun t15_5=>aB7 (aN Tryz.prog ro) (e 1) [t15_5] h (nx+9) fun t16_6 h7 n8=>aZ t16_6 (Q .ret (puts e [(9,t9_3),(10,(e 8)),(5,(e 8)),(11,(e 1)),(12,(e 0)),(13,(e 8)),(14,t14_4),(15,t15_5),(16,t16_6),(17,(e 8)),(4,(e 8))]) h7 (n8+2)) (aA (aX .add (e 8) (Value.int IntKind.i64 1)) fun t18_9=>Q .normal (puts e [(9,t9_3),(10,(e 8)),(5,(e 8)),(11,(e 1)),(12,(e 0)),(13,(e 8)),(14,t14_4),(15,t15_5),(16,t16_6),(18,t18_9),(8,t18_9)]) h7 (n8+2))) (Q (.exit 0) (puts e [(9,t9_3)]) h (nx+1))
@[irreducible] def fA (ro:Ro) (v0 v1:Value) (h:T Obj) (nx:Nat) (K:KV):Prop:=aA (cU v0) fun t7_2=>d5 (gA ro) (puts (i3 [v0,v1]) [(4,(Value.int IntKind.i64 0)),(6,v0),(7,t7_2),(8,(Value.int IntKind.i64 0))]) h (nx+4) fun x13 e10 h11 n12=>exP x13 (eK ro K e10 h11 n12) (fun i14=>d8 (Nat.beq i14 0) (eK ro K e10 h11 n12) (False)) (∃ h15,Sub h15 h11∧K (e10 4) h15 n12)
theorem j9 (ro:Ro) (v0 v1:Value) (h:T Obj) (nx:Nat) (K:KV):bJ Tryz.prog ro (aN Tryz.prog ro) Tryz.f122 [v0,v1] h nx K=fA ro v0 v1 h nx K:=by kernel_rfl
theorem kA {ro:Ro} {v0 v1:Value} {h:T Obj} {nx:Nat} {K:KV} (hw:fA ro v0 v1 h nx K):aN Tryz.prog ro eO [v0,v1] h nx K:=bF (P:=Tryz.prog) (fn:=Tryz.f122) (by kernel_rfl) (by kernel_rfl) (by kernel_rfl) (Eq.mpr (j9 ro v0 v1 h nx K) hw)
@[irreducible] def sB (ro:Ro) (K:KV):Env→T Obj→Nat→Prop:=fun e h nx=>∃ h13,Sub h13 h∧K (e 3) h13 (nx+2)
@[irreducible] def yR (ro:Ro):PT:=fun e h nx Q=>aA (aX .lss (e 11) (e 10)) fun t12_14=>aZ t12_14 (aA (aX .mul (e 3) (Value.int IntKind.i64 3)) fun t14_15=>aA (aX .add (e 11) (Value.int IntKind.i64 1)) fun t15_16=>Q .normal (puts e [(12,t12_14),(13,(e 3)),(14,t14_15),(3,t14_15),(15,t15_16),(11,t15_16)]) h (nx+6)) (Q (.exit 0) (puts e [(12,t12_14)]) h (nx+1))
@[irreducible] def zJ (ro:Ro) (v0:Value) (h:T Obj) (nx:Nat) (K:KV):Prop:=aA (aX .lss v0 (Value.int IntKind.i64 0)) fun t5_1=>ifP t5_1 false h (nx+4) (fun k2=>k2 v0 h (nx+5)) fun t7_3 h4 n5=>ifP t5_1 false h4 n5 (fun k6=>aA (aX .gtr t7_3 (Value.int IntKind.i64 3)) fun t8_10=>k6 t8_10 h4 (n5+1)) fun t8_7 h8 n9=>aA (dK t5_1 (Value.bool true) t8_7) fun t9_11=>aZ t9_11 (∃ h12,Sub h12 h8∧K (Value.int IntKind.i64 0) h12 (n9+2)) (d5 (yR ro) (puts (i3 [v0]) [(2,(Value.int IntKind.i64 0)),(4,v0),(5,t5_1),(6,t5_1),(7,t7_3),(8,t8_7),(9,t9_11),(3,(Value.int IntKind.i64 1)),(10,v0),(11,(Value.int IntKind.i64 0))]) h8 (n9+4) fun x20 e17 h18 n19=>exP x20 (sB ro K e17 h18 n19) (fun i21=>d8 (Nat.beq i21 0) (sB ro K e17 h18 n19) (False)) (∃ h22,Sub h22 h18∧K (e17 2) h22 n19))
theorem aD7 (ro:Ro) (v0:Value) (h:T Obj) (nx:Nat) (K:KV):bJ Tryz.prog ro (aN Tryz.prog ro) Tryz.f123 [v0] h nx K=zJ ro v0 h nx K:=by kernel_rfl
theorem aD8 {ro:Ro} {v0:Value} {h:T Obj} {nx:Nat} {K:KV} (hw:zJ ro v0 h nx K):aN Tryz.prog ro uD [v0] h nx K:=bF (P:=Tryz.prog) (fn:=Tryz.f123) (by kernel_rfl) (by kernel_rfl) (by kernel_rfl) (Eq.mpr (aD7 ro v0 h nx K) hw)
@[irreducible] def sD (ro:Ro) (K:KV):Env→T Obj→Nat→Prop:=fun e h nx=>∃ h1,Sub h1 h∧K (Value.bool true) h1 (nx+1)
@[irreducible] def yS (ro:Ro):PT:=fun e h nx Q=>aA (aX .lss (e 10) (e 9)) fun t11_3=>aZ t11_3 (aA (dI 1 (e 8) (e 10)) fun t12_4=>aA (load1 ro h t12_4) fun t13_5=>aA (aX .leq t13_5 (e 5)) fun t16_6=>ifP t16_6 false h (nx+8) (fun k7=>k7 t13_5 h (nx+9)) fun t18_8 h9 n10=>ifP t16_6 false h9 n10 (fun k11=>k11 (e 1) h9 (n10+1)) fun t19_12 h13 n14=>ifP t16_6 false h13 n14 (fun k15=>aA (aX .geq t18_8 t19_12) fun t20_19=>k15 t20_19 h13 (n14+1)) fun t20_16 h17 n18=>aA (dK t16_6 (Value.bool true) t20_16) fun t21_20=>aZ t21_20 (Q .ret (puts e [(11,t11_3),(12,t12_4),(13,t13_5),(7,t13_5),(14,t13_5),(15,(e 5)),(16,t16_6),(17,t16_6),(18,t18_8),(19,t19_12),(20,t20_16),(21,t21_20),(4,(Value.bool false))]) h17 (n18+2)) (aA (aX .add (e 10) (Value.int IntKind.i64 1)) fun t23_21=>Q .normal (puts e [(11,t11_3),(12,t12_4),(13,t13_5),(7,t13_5),(14,t13_5),(15,(e 5)),(16,t16_6),(17,t16_6),(18,t18_8),(19,t19_12),(20,t20_16),(21,t21_20),(22,t13_5),(5,t13_5),(23,t23_21),(10,t23_21)]) h17 (n18+5))) (Q (.exit 0) (puts e [(11,t11_3)]) h (nx+1))
@[irreducible] def zL (ro:Ro) (v0 v1:Value) (h:T Obj) (nx:Nat) (K:KV):Prop:=aA (cU v0) fun t9_2=>d5 (yS ro) (puts (i3 [v0,v1]) [(4,(Value.bool false)),(5,(Value.int IntKind.i64 (-1))),(8,v0),(9,t9_2),(10,(Value.int IntKind.i64 0))]) h (nx+5) fun x25 e22 h23 n24=>exP x25 (sD ro K e22 h23 n24) (fun i26=>d8 (Nat.beq i26 0) (sD ro K e22 h23 n24) (False)) (∃ h27,Sub h27 h23∧K (e22 4) h27 n24)
theorem aDb (ro:Ro) (v0 v1:Value) (h:T Obj) (nx:Nat) (K:KV):bJ Tryz.prog ro (aN Tryz.prog ro) Tryz.f124 [v0,v1] h nx K=zL ro v0 v1 h nx K:=by kernel_rfl
theorem aDc {ro:Ro} {v0 v1:Value} {h:T Obj} {nx:Nat} {K:KV} (hw:zL ro v0 v1 h nx K):aN Tryz.prog ro pS [v0,v1] h nx K:=bF (P:=Tryz.prog) (fn:=Tryz.f124) (by kernel_rfl) (by kernel_rfl) (by kernel_rfl) (Eq.mpr (aDb ro v0 v1 h nx K) hw)
@[irreducible] def eS (ro:Ro) (v0 v1:Value) (h:T Obj) (nx:Nat) (K:KV):Prop:=aN Tryz.prog ro eU [v0,v1] h (nx+4) fun t7_1 h2 n3=>aA (aX .geq t7_1 (Value.int IntKind.i64 0)) fun t8_4=>∃ h5,Sub h5 h2∧K t8_4 h5 (n3+2)
theorem j3 (ro:Ro) (v0 v1:Value) (h:T Obj) (nx:Nat) (K:KV):bJ Tryz.prog ro (aN Tryz.prog ro) Tryz.f125 [v0,v1] h nx K=eS ro v0 v1 h nx K:=by kernel_rfl
theorem j4 {ro:Ro} {v0 v1:Value} {h:T Obj} {nx:Nat} {K:KV} (hw:eS ro v0 v1 h nx K):aN Tryz.prog ro eI [v0,v1] h nx K:=bF (P:=Tryz.prog) (fn:=Tryz.f125) (by kernel_rfl) (by kernel_rfl) (by kernel_rfl) (Eq.mpr (j3 ro v0 v1 h nx K) hw)
@[irreducible] def kF (ro:Ro) (v0 v1 v2:Value) (h:T Obj) (nx:Nat) (K:KV):Prop:=d4 h nx (.cells (Value.cells v0) bC) fun h1=>aA (loadA ro h1 259 v1) fun t5_2=>aA (loadA ro h1 4 v2) fun t6_3=>aA (loadA ro h1 2 (ptr nx)) fun t7_4=>aN Tryz.prog ro lK [t5_2,t6_3,t7_4] h1 (nx+6) fun t8_5 h6 n7=>aA (unV .not t8_5) fun t9_8=>∃ h9,Sub h9 h6∧K t9_8 h9 (n7+2)
theorem sX (ro:Ro) (v0 v1 v2:Value) (h:T Obj) (nx:Nat) (K:KV):bJ Tryz.prog ro (aN Tryz.prog ro) Tryz.f126 [v0,v1,v2] h nx K=kF ro v0 v1 v2 h nx K:=by kernel_rfl
theorem sY {ro:Ro} {v0 v1 v2:Value} {h:T Obj} {nx:Nat} {K:KV} (hw:kF ro v0 v1 v2 h nx K):aN Tryz.prog ro fJ [v0,v1,v2] h nx K:=bF (P:=Tryz.prog) (fn:=Tryz.f126) (by kernel_rfl) (by kernel_rfl) (by kernel_rfl) (Eq.mpr (sX ro v0 v1 v2 h nx K) hw)
@[irreducible] def kE (ro:Ro) (K:KV):Env→T Obj→Nat→Prop:=fun e h nx=>∃ h118,Sub h118 h∧K (Value.bool true) h118 (nx+1)
@[irreducible] def oS (ro:Ro):PT:=fun e h nx Q=>aA (aX .lss (e 46) (e 45)) fun t47_122=>aZ t47_122 (aA (dI 1 (e 44) (e 46)) fun t49_123=>aA (load1 ro h t49_123) fun t50_124=>aA (aX .lss t50_124 (Value.int IntKind.u8 1)) fun t52_125=>ifP t52_125 false h (nx+33) (fun k126=>k126 t50_124 h (nx+33)) fun t54_127 h128 n129=>ifP t52_125 false h128 n129 (fun k130=>aA (aX .gtr t54_127 (Value.int IntKind.u8 3)) fun t55_134=>k130 t55_134 h128 n129) fun t55_131 h132 n133=>aA (dK t52_125 (Value.bool true) t55_131) fun t56_135=>ifP t56_135 false h132 n133 (fun k136=>k136 t50_124 h132 n133) fun t58_137 h138 n139=>ifP t56_135 false h138 n139 (fun k140=>aA (aX .neq t58_137 (Value.int IntKind.u8 3)) fun t59_144=>k140 t59_144 h138 n139) fun t59_141 h142 n143=>ifP t56_135 false h142 n143 (fun k145=>k145 t59_141 h142 n143) fun t60_146 h147 n148=>ifP t60_146 true h147 n148 (fun k149=>aA (aY 1 (e 4)) fun t61_153=>k149 t61_153 h147 n148) fun t61_150 h151 n152=>ifP t60_146 true h151 n152 (fun k154=>aA (load1 ro h151 t61_150) fun t62_158=>k154 t62_158 h151 n152) fun t62_155 h156 n157=>ifP t60_146 true h156 n157 (fun k159=>aA (aY 0 (e 3)) fun t63_163=>k159 t63_163 h156 n157) fun t63_160 h161 n162=>ifP t60_146 true h161 n162 (fun k164=>aA (aY 258 t63_160) fun t64_168=>k164 t64_168 h161 n162) fun t64_165 h166 n167=>ifP t60_146 true h166 n167 (fun k169=>aA (load1 ro h166 t64_165) fun t65_173=>k169 t65_173 h166 n167) fun t65_170 h171 n172=>ifP t60_146 true h171 n172 (fun k174=>aA (aY 0 (e 5)) fun t66_178=>k174 t66_178 h171 n172) fun t66_175 h176 n177=>ifP t60_146 true h176 n177 (fun k179=>aA (load1 ro h176 t66_175) fun t67_183=>k179 t67_183 h176 n177) fun t67_180 h181 n182=>ifP t60_146 true h181 n182 (fun k184=>aA (dI 4 t65_170 t67_180) fun t68_188=>k184 t68_188 h181 n182) fun t68_185 h186 n187=>ifP t60_146 true h186 n187 (fun k189=>aA (aY 1 t68_185) fun t69_193=>k189 t69_193 h186 n187) fun t69_190 h191 n192=>ifP t60_146 true h191 n192 (fun k194=>aA (load1 ro h191 t69_190) fun t70_198=>k194 t70_198 h191 n192) fun t70_195 h196 n197=>ifP t60_146 true h196 n197 (fun k199=>k199 (e 46) h196 n197) fun t71_200 h201 n202=>ifP t60_146 true h201 n202 (fun k203=>aA (dI 1 t70_195 t71_200) fun t72_207=>k203 t72_207 h201 n202) fun t72_204 h205 n206=>ifP t60_146 true h205 n206 (fun k208=>aA (load1 ro h205 t72_204) fun t73_212=>k208 t73_212 h205 n206) fun t73_209 h210 n211=>ifP t60_146 true h210 n211 (fun k213=>aN Tryz.prog ro fQ [t62_155,t73_209] h210 n211 fun t74_217 h218 n219=>k213 t74_217 h218 n219) fun t74_214 h215 n216=>ifP t60_146 true h215 n216 (fun k220=>aA (unV .not t74_214) fun t75_224=>k220 t75_224 h215 n216) fun t75_221 h222 n223=>ifP t56_135 false h222 n223 (fun k225=>aA (dK t60_146 t75_221 (Value.bool false)) fun t76_229=>k225 t76_229 h222 n223) fun t76_226 h227 n228=>aA (dK t56_135 (Value.bool true) t76_226) fun t77_230=>aZ t77_230 (Q .ret (puts e [(47,t47_122),(48,(e 46)),(49,t49_123),(50,t50_124),(7,(e 46)),(8,t50_124),(51,t50_124),(52,t52_125),(53,t52_125),(54,t54_127),(55,t55_131),(56,t56_135),(57,t56_135),(58,t58_137),(59,t59_141),(60,t60_146),(61,t61_150),(62,t62_155),(63,t63_160),(64,t64_165),(65,t65_170),(66,t66_175),(67,t67_180),(68,t68_185),(69,t69_190),(70,t70_195),(71,t71_200),(72,t72_204),(73,t73_209),(74,t74_214),(75,t75_221),(76,t76_226),(77,t77_230),(6,(Value.bool false))]) h227 (n228+1)) (aA (aX .add (e 46) (Value.int IntKind.i64 1)) fun t78_231=>Q .normal (puts e [(47,t47_122),(48,(e 46)),(49,t49_123),(50,t50_124),(7,(e 46)),(8,t50_124),(51,t50_124),(52,t52_125),(53,t52_125),(54,t54_127),(55,t55_131),(56,t56_135),(57,t56_135),(58,t58_137),(59,t59_141),(60,t60_146),(61,t61_150),(62,t62_155),(63,t63_160),(64,t64_165),(65,t65_170),(66,t66_175),(67,t67_180),(68,t68_185),(69,t69_190),(70,t70_195),(71,t71_200),(72,t72_204),(73,t73_209),(74,t74_214),(75,t75_221),(76,t76_226),(77,t77_230),(78,t78_231),(46,t78_231)]) h227 (n228+2))) (Q (.exit 0) (puts e [(47,t47_122)]) h (nx+1))
@[irreducible] def mZ (ro:Ro) (v0 v1 v2:Value) (h:T Obj) (nx:Nat) (K:KV):Prop:=d4 h nx (.cells (Value.cells v0) dM) fun h1=>d4 h1 (nx+1) (.cells (Value.cells v1) aP) fun h2=>d4 h2 (nx+2) (.cells (Value.cells v2) bC) fun h3=>aA (aY 0 (ptr (nx+2))) fun t9_4=>aA (load1 ro h3 t9_4) fun t10_5=>aA (aX .eql t10_5 (Value.int IntKind.i64 (-1))) fun t11_6=>aZ t11_6 (aA (aY 1 (ptr (nx+2))) fun t12_7=>aA (load1 ro h3 t12_7) fun t13_8=>aA (cU t13_8) fun t14_9=>aA (aX .eql t14_9 (Value.int IntKind.i64 0)) fun t15_10=>∃ h11,Sub h11 h3∧K t15_10 h11 (nx+12)) (aA (aY 0 (ptr (nx+2))) fun t16_12=>aA (load1 ro h3 t16_12) fun t17_13=>aA (aX .lss t17_13 (Value.int IntKind.i64 1)) fun t18_14=>ifP t18_14 false h3 (nx+34) (fun k15=>aA (aY 0 (ptr (nx+2))) fun t20_19=>k15 t20_19 h3 (nx+34)) fun t20_16 h17 n18=>ifP t18_14 false h17 n18 (fun k20=>aA (load1 ro h17 t20_16) fun t21_24=>k20 t21_24 h17 n18) fun t21_21 h22 n23=>ifP t18_14 false h22 n23 (fun k25=>aA (aY 0 (ptr nx)) fun t22_29=>k25 t22_29 h22 n23) fun t22_26 h27 n28=>ifP t18_14 false h27 n28 (fun k30=>aA (aY 258 t22_26) fun t23_34=>k30 t23_34 h27 n28) fun t23_31 h32 n33=>ifP t18_14 false h32 n33 (fun k35=>aA (load1 ro h32 t23_31) fun t24_39=>k35 t24_39 h32 n33) fun t24_36 h37 n38=>ifP t18_14 false h37 n38 (fun k40=>aA (cU t24_36) fun t25_44=>k40 t25_44 h37 n38) fun t25_41 h42 n43=>ifP t18_14 false h42 n43 (fun k45=>aA (aX .geq t21_21 t25_41) fun t26_49=>k45 t26_49 h42 n43) fun t26_46 h47 n48=>aA (dK t18_14 (Value.bool true) t26_46) fun t27_50=>ifP t27_50 false h47 n48 (fun k51=>aA (aY 1 (ptr (nx+2))) fun t29_55=>k51 t29_55 h47 n48) fun t29_52 h53 n54=>ifP t27_50 false h53 n54 (fun k56=>aA (load1 ro h53 t29_52) fun t30_60=>k56 t30_60 h53 n54) fun t30_57 h58 n59=>ifP t27_50 false h58 n59 (fun k61=>aA (cU t30_57) fun t31_65=>k61 t31_65 h58 n59) fun t31_62 h63 n64=>ifP t27_50 false h63 n64 (fun k66=>aA (aY 0 (ptr nx)) fun t32_70=>k66 t32_70 h63 n64) fun t32_67 h68 n69=>ifP t27_50 false h68 n69 (fun k71=>aA (aY 258 t32_67) fun t33_75=>k71 t33_75 h68 n69) fun t33_72 h73 n74=>ifP t27_50 false h73 n74 (fun k76=>aA (load1 ro h73 t33_72) fun t34_80=>k76 t34_80 h73 n74) fun t34_77 h78 n79=>ifP t27_50 false h78 n79 (fun k81=>aA (aY 0 (ptr (nx+2))) fun t35_85=>k81 t35_85 h78 n79) fun t35_82 h83 n84=>ifP t27_50 false h83 n84 (fun k86=>aA (load1 ro h83 t35_82) fun t36_90=>k86 t36_90 h83 n84) fun t36_87 h88 n89=>ifP t27_50 false h88 n89 (fun k91=>aA (dI 4 t34_77 t36_87) fun t37_95=>k91 t37_95 h88 n89) fun t37_92 h93 n94=>ifP t27_50 false h93 n94 (fun k96=>aA (aY 1 t37_92) fun t38_100=>k96 t38_100 h93 n94) fun t38_97 h98 n99=>ifP t27_50 false h98 n99 (fun k101=>aA (load1 ro h98 t38_97) fun t39_105=>k101 t39_105 h98 n99) fun t39_102 h103 n104=>ifP t27_50 false h103 n104 (fun k106=>aA (cU t39_102) fun t40_110=>k106 t40_110 h103 n104) fun t40_107 h108 n109=>ifP t27_50 false h108 n109 (fun k111=>aA (aX .neq t31_62 t40_107) fun t41_115=>k111 t41_115 h108 n109) fun t41_112 h113 n114=>aA (dK t27_50 (Value.bool true) t41_112) fun t42_116=>aZ t42_116 (∃ h117,Sub h117 h113∧K (Value.bool false) h117 (n114+1)) (aA (aY 1 (ptr (nx+2))) fun t43_119=>aA (load1 ro h113 t43_119) fun t44_120=>aA (cU t44_120) fun t45_121=>d5 (oS ro) (puts (i3 [v0,v1,v2]) [(3,(ptr nx)),(4,(ptr (nx+1))),(5,(ptr (nx+2))),(6,(Value.bool false)),(9,t9_4),(10,t10_5),(11,t11_6),(16,t16_12),(17,t17_13),(18,t18_14),(19,t18_14),(20,t20_16),(21,t21_21),(22,t22_26),(23,t23_31),(24,t24_36),(25,t25_41),(26,t26_46),(27,t27_50),(28,t27_50),(29,t29_52),(30,t30_57),(31,t31_62),(32,t32_67),(33,t33_72),(34,t34_77),(35,t35_82),(36,t36_87),(37,t37_92),(38,t38_97),(39,t39_102),(40,t40_107),(41,t41_112),(42,t42_116),(43,t43_119),(44,t44_120),(45,t45_121),(46,(Value.int IntKind.i64 0))]) h113 (n114+4) fun x235 e232 h233 n234=>exP x235 (kE ro K e232 h233 n234) (fun i236=>d8 (Nat.beq i236 0) (kE ro K e232 h233 n234) (False)) (∃ h237,Sub h237 h233∧K (e232 6) h237 n234)))
theorem vY (ro:Ro) (v0 v1 v2:Value) (h:T Obj) (nx:Nat) (K:KV):bJ Tryz.prog ro (aN Tryz.prog ro) Tryz.f127 [v0,v1,v2] h nx K=mZ ro v0 v1 v2 h nx K:=by kernel_rfl
theorem vZ {ro:Ro} {v0 v1 v2:Value} {h:T Obj} {nx:Nat} {K:KV} (hw:mZ ro v0 v1 v2 h nx K):aN Tryz.prog ro lK [v0,v1,v2] h nx K:=bF (P:=Tryz.prog) (fn:=Tryz.f127) (by kernel_rfl) (by kernel_rfl) (by kernel_rfl) (Eq.mpr (vY ro v0 v1 v2 h nx K) hw)
@[irreducible] def rS (ro:Ro) (K:KV):Env→T Obj→Nat→Prop:=fun e h nx=>aA (loadA ro h 4 (e 3)) fun t18_7=>aA (bY 4 h (e 2) t18_7) fun h8=>aA (loadA ro h8 4 (e 2)) fun r9=>∃ h10,Sub h10 h8∧K r9 h10 (nx+2)
@[irreducible] def aBk (ro:Ro):PT:=fun e h nx Q=>aA (cU (e 0)) fun t8_11=>aA (aX .lss (e 4) t8_11) fun t9_12=>aZ t9_12 (aA (loadA ro h 4 (e 3)) fun t12_13=>aA (dI 1 (e 0) (e 4)) fun t15_14=>aA (load1 ro h t15_14) fun t16_15=>aN Tryz.prog ro uI [t12_13,t16_15] h (nx+11) fun t17_16 h17 n18=>aA (bY 4 h17 (e 3) t17_16) fun h19=>aA (aX .add (e 4) (Value.int IntKind.i64 1)) fun t11_20=>Q .normal (puts e [(6,(e 4)),(7,(e 0)),(8,t8_11),(9,t9_12),(12,t12_13),(13,(e 0)),(14,(e 4)),(15,t15_14),(16,t16_15),(17,t17_16),(10,(e 4)),(11,t11_20),(4,t11_20)]) h19 (n18+3)) (Q (.exit 0) (puts e [(6,(e 4)),(7,(e 0)),(8,t8_11),(9,t9_12)]) h (nx+4))
@[irreducible] def aCy (ro:Ro) (v0:Value) (h:T Obj) (nx:Nat) (K:KV):Prop:=aA (zer Tryz.prog bN) fun z1=>d4 h nx (.cells z1.cells bN) fun h2=>aA (dF Tryz.prog bN []) fun t5_3=>aA (zer Tryz.prog bN) fun z4=>d4 h2 (nx+2) (.cells z4.cells bN) fun h5=>aA (bY 4 h5 (ptr (nx+2)) t5_3) fun h6=>d5 (aBk ro) (puts (i3 [v0]) [(2,(ptr nx)),(5,t5_3),(3,(ptr (nx+2))),(4,(Value.int IntKind.i64 0))]) h6 (nx+5) fun x24 e21 h22 n23=>exP x24 (rS ro K e21 h22 n23) (fun i25=>d8 (Nat.beq i25 0) (rS ro K e21 h22 n23) (False)) (aA (loadA ro h22 4 (e21 2)) fun r26=>∃ h27,Sub h27 h22∧K r26 h27 n23)
theorem aHE (ro:Ro) (v0:Value) (h:T Obj) (nx:Nat) (K:KV):bJ Tryz.prog ro (aN Tryz.prog ro) Tryz.f140 [v0] h nx K=aCy ro v0 h nx K:=by kernel_rfl
theorem aHF {ro:Ro} {v0:Value} {h:T Obj} {nx:Nat} {K:KV} (hw:aCy ro v0 h nx K):aN Tryz.prog ro zS [v0] h nx K:=bF (P:=Tryz.prog) (fn:=Tryz.f140) (by kernel_rfl) (by kernel_rfl) (by kernel_rfl) (Eq.mpr (aHE ro v0 h nx K) hw)
@[irreducible] def eT (ro:Ro) (K:KV):Env→T Obj→Nat→Prop:=fun e h nx=>∃ h1,Sub h1 h∧K (Value.int IntKind.i64 (-1)) h1 (nx+1)
@[irreducible] def gI (ro:Ro):PT:=fun e h nx Q=>aA (aX .lss (e 8) (e 7)) fun t9_3=>aZ t9_3 (aA (dI 2 (e 0) (e 8)) fun t14_4=>aA (loadA ro h 2 t14_4) fun t15_5=>aB7 (aN Tryz.prog ro) (e 1) [t15_5] h (nx+9) fun t16_6 h7 n8=>aZ t16_6 (Q .ret (puts e [(9,t9_3),(10,(e 8)),(5,(e 8)),(11,(e 1)),(12,(e 0)),(13,(e 8)),(14,t14_4),(15,t15_5),(16,t16_6),(17,(e 8)),(4,(e 8))]) h7 (n8+2)) (aA (aX .add (e 8) (Value.int IntKind.i64 1)) fun t18_9=>Q .normal (puts e [(9,t9_3),(10,(e 8)),(5,(e 8)),(11,(e 1)),(12,(e 0)),(13,(e 8)),(14,t14_4),(15,t15_5),(16,t16_6),(18,t18_9),(8,t18_9)]) h7 (n8+2))) (Q (.exit 0) (puts e [(9,t9_3)]) h (nx+1))
@[irreducible] def fH (ro:Ro) (v0 v1:Value) (h:T Obj) (nx:Nat) (K:KV):Prop:=aA (cU v0) fun t7_2=>d5 (gI ro) (puts (i3 [v0,v1]) [(4,(Value.int IntKind.i64 0)),(6,v0),(7,t7_2),(8,(Value.int IntKind.i64 0))]) h (nx+4) fun x13 e10 h11 n12=>exP x13 (eT ro K e10 h11 n12) (fun i14=>d8 (Nat.beq i14 0) (eT ro K e10 h11 n12) (False)) (∃ h15,Sub h15 h11∧K (e10 4) h15 n12)
theorem lF (ro:Ro) (v0 v1:Value) (h:T Obj) (nx:Nat) (K:KV):bJ Tryz.prog ro (aN Tryz.prog ro) Tryz.f141 [v0,v1] h nx K=fH ro v0 v1 h nx K:=by kernel_rfl
theorem lG {ro:Ro} {v0 v1:Value} {h:T Obj} {nx:Nat} {K:KV} (hw:fH ro v0 v1 h nx K):aN Tryz.prog ro eU [v0,v1] h nx K:=bF (P:=Tryz.prog) (fn:=Tryz.f141) (by kernel_rfl) (by kernel_rfl) (by kernel_rfl) (Eq.mpr (lF ro v0 v1 h nx K) hw)
@[irreducible] def oQ (ro:Ro) (K:KV):Env→T Obj→Nat→Prop:=fun e h nx=>aA (loadA ro h 4 (e 2)) fun t20_4=>aA (bY 4 h (e 4) t20_4) fun h5=>aA (loadA ro h5 4 (e 4)) fun r6=>∃ h7,Sub h7 h5∧K r6 h7 (nx+2)
@[irreducible] def aAB (ro:Ro) (v0 v1:Value) (h:T Obj) (nx:Nat) (K:KV):Prop:=d4 h nx (.cells (Value.cells v0) bN) fun h1=>aA (zer Tryz.prog bN) fun z2=>d4 h1 (nx+1) (.cells z2.cells bN) fun h3=>aA (loadA ro h3 4 (ptr nx)) fun t5_8=>aN Tryz.prog ro kN [t5_8,v1] h3 (nx+5) fun t7_9 h10 n11=>aA (unV .not t7_9) fun t8_12=>aZ t8_12 (aA (aX .quo v1 (Value.int IntKind.u8 64)) fun t10_13=>aA (aX .quo v1 (Value.int IntKind.u8 64)) fun t12_14=>aA (ixArr 4 1 (ptr nx) t12_14) fun t13_15=>aA (load1 ro h10 t13_15) fun t14_16=>aA (aX .rem v1 (Value.int IntKind.u8 64)) fun t16_17=>aA (aX .shl (Value.int IntKind.u64 1) t16_17) fun t17_18=>aA (aX .add t14_16 t17_18) fun t18_19=>aA (ixArr 4 1 (ptr nx) t10_13) fun t19_20=>aA (bY 1 h10 t19_20 t18_19) fun h21=>oQ ro K (puts (i3 [v0,v1]) [(2,(ptr nx)),(4,(ptr (nx+1))),(5,t5_8),(6,v1),(7,t7_9),(8,t8_12),(9,v1),(10,t10_13),(11,v1),(12,t12_14),(13,t13_15),(14,t14_16),(15,v1),(16,t16_17),(17,t17_18),(18,t18_19),(19,t19_20)]) h21 (n11+13)) (oQ ro K (puts (i3 [v0,v1]) [(2,(ptr nx)),(4,(ptr (nx+1))),(5,t5_8),(6,v1),(7,t7_9),(8,t8_12)]) h10 (n11+1))
theorem aDr (ro:Ro) (v0 v1:Value) (h:T Obj) (nx:Nat) (K:KV):bJ Tryz.prog ro (aN Tryz.prog ro) Tryz.f147 [v0,v1] h nx K=aAB ro v0 v1 h nx K:=by kernel_rfl
theorem aDs {ro:Ro} {v0 v1:Value} {h:T Obj} {nx:Nat} {K:KV} (hw:aAB ro v0 v1 h nx K):aN Tryz.prog ro uI [v0,v1] h nx K:=bF (P:=Tryz.prog) (fn:=Tryz.f147) (by kernel_rfl) (by kernel_rfl) (by kernel_rfl) (Eq.mpr (aDr ro v0 v1 h nx K) hw)
end V
end Go.Proofs.YtjndkdmkecpllaaGreat
set_option linter.unusedVariables false
set_option linter.unusedSimpArgs false
noncomputable section
namespace Go.Proofs.YtjndkdmkecpllaaGreat
namespace V
theorem v8 {ro:Ro} {h h':T Obj} {a:Addr} {n:Nat} {l:List Value} (hs:Sub h h') (hc:cellsAt ro h a n=some l):cellsAt ro h' a n=some l:=by
  unfold cellsAt at hc ⊢
  cases hsp:a.spot with
  | none=>rw [hsp] at hc; exact hc
  | some z =>
    rw [hsp] at hc
    simp only at hc ⊢
    cases hg:h.get a.block with
    | none=>rw [hg] at hc; cases hc
    | some o=>rw [hg] at hc; rw [hs _ _ hg]; exact hc
theorem uV {ro:Ro}:∀ {off n k:Nat} {a:Addr} {l:List Value},roCells ro a n=some l→a.spot=none→off+k≤n→roCells ro ⟨a.block,a.off+off,none⟩ k=some ((l.drop off).take k)
  | 0,n,0,a,l,h,hs,hk=>by simp [roCells]
  | 0,0,k+1,a,l,h,hs,hk=>by omega
  | 0,n+1,k+1,a,l,h,hs,hk=>by
    obtain ⟨v,h1,h⟩:=aM h
    obtain ⟨r,h2,h⟩:=aM h
    cases h
    have ih:=uV (off:=0) (k:=k) h2 rfl (by omega)
    have ha:(⟨a.block,a.off+0,none⟩:Addr)=a:=by cases a; simp_all
    rw [ha]
    simp only [roCells,h1,Option.bind_some]
    simp only [Nat.add_zero] at ih
    rw [ih]; simp
  | off+1,0,k,a,l,h,hs,hk=>by omega
  | off+1,n+1,k,a,l,h,hs,hk=>by
    obtain ⟨v,h1,h⟩:=aM h
    obtain ⟨r,h2,h⟩:=aM h
    cases h
    have ih:=uV (off:=off) (k:=k) h2 rfl (by omega)
    rw [show a.off+(off+1)=a.off+1+off by omega,List.drop_succ_cons]
    exact ih
theorem pN {ro:Ro} {h:T Obj} {a:Addr} {n off k:Nat} {l:List Value} (hc:cellsAt ro h a n=some l) (hk:off+k≤n):cellsAt ro h (elt a off) k=some ((l.drop off).take k):=by
  obtain ⟨b,o,s⟩:=a
  cases s with
  | none=>exact uV (a:=⟨b,o,none⟩) hc rfl hk
  | some z =>
    rw [mL] at hc
    obtain ⟨c,h1,h2⟩:=aM hc
    split at h2
    · rename_i hle
      cases h2
      show cellsAt ro h ⟨b,o+off,some 0⟩ k=_
      rw [mL,h1]
      simp only [Option.bind_some]
      rw [if_pos (by omega),List.drop_take,List.drop_drop,List.take_take,Nat.min_eq_left (by omega)]
    · cases h2
theorem iK {z:Nat}:∀ {l:List (List Value)},(∀ x∈l,x.length=z)→l.flatten.length=l.length*z∧∀ i x,l[i]?=some x→(l.flatten.drop (i*z)).take z=x
  | [],_=>⟨by simp,fun i x hx=>by simp at hx⟩
  | y::r,hz=>by
    have hy:=hz y (by simp)
    obtain ⟨h1,h2⟩:=iK (l:=r) fun x hx=>hz x (by simp [hx])
    refine ⟨by simp [h1,hy,Nat.add_mul]; omega,?_⟩
    intro i x hx
    cases i with
    | zero=>simp at hx; subst hx; subst hy; simp
    | succ i =>
      have:=h2 i x (by simpa using hx)
      rw [Nat.succ_mul,show i*z+z=y.length+i*z by omega,List.flatten_cons,List.drop_append,List.drop_eq_nil_of_le (Nat.le_add_right _ _)]
      simpa using this
theorem aA0 {z:Nat}:∀ {l:List (List Value)} (n:Nat),(∀ x∈l,x.length=z)→l.flatten.take (n*z)=(l.take n).flatten
  | [],n,_=>by simp
  | y::r,0,_=>by simp
  | y::r,n+1,hz=>by
    have hy:=hz y (by simp)
    rw [List.take_succ_cons,List.flatten_cons,List.flatten_cons,Nat.succ_mul,show n*z+z=y.length+n*z by omega,List.take_append,List.take_of_length_le (Nat.le_add_right _ _),Nat.add_sub_cancel_left,
      aA0 n fun x hx=>hz x (by simp [hx])]
def Sl (ro:Ro) (h:T Obj) (v:Value) (z:Nat) (l:List (List Value)):Prop :=
  (v=.slice none 0 0∧l=[])∨∃ a cap,v=.slice (some a) l.length cap∧l.length≤cap∧(a.spot=none∨a.spot=some z)∧(∀ x∈l,x.length=z)∧cellsAt ro h a (l.length*z)=some l.flatten
theorem Sl.at {ro:Ro} {h:T Obj} {a:Addr} {z:Nat} {l:List (List Value)} (hz:∀ x∈l,x.length=z) (hc:cellsAt ro h a (l.length*z)=some l.flatten):∀ i x,l[i]?=some x→x.length=z∧cellsAt ro h (elt a (i*z)) z=some x:=by
  intro i x hx
  refine ⟨hz x (List.mem_of_getElem? hx),?_⟩
  have hi:=(List.getElem?_eq_some_iff.1 hx).1
  have:i*z+z≤l.length*z:=by rw [← Nat.succ_mul]; exact Nat.mul_le_mul_right _ hi
  rw [pN hc this,(iK hz).2 i x hx]
def gP (z:Nat) (v:Value) (i:Nat):Value:=match v with
  | .slice (some a) _ _=>.pointer (some (elt a (i*z)))
  | _=>undef
section
variable {ro:Ro} {h h':T Obj} {v:Value} {z:Nat} {l:List (List Value)}
theorem Sl.nil:Sl ro h (.slice none 0 0) z []:=.inl ⟨rfl,rfl⟩
theorem Sl.sub (hs:Sub h h') (hl:Sl ro h v z l):Sl ro h' v z l:=by
  rcases hl with hl | ⟨a,cap,h1,h2,h3,h4⟩
  · exact .inl hl
  · exact .inr ⟨a,cap,h1,h2,h3,h4.1,v8 hs h4.2⟩
theorem Sl.len (hl:Sl ro h v z l):cU v=some (.int .i64 l.length):=by
  rcases hl with ⟨rfl,rfl⟩ | ⟨a,cap,rfl,_⟩<;>rfl
theorem Sl.ix (hl:Sl ro h v z l) (k:IntKind) {i:Nat} (hi:i < l.length):dI z v (.int k (i:Int))=some (gP z v i):=by
  rcases hl with ⟨rfl,rfl⟩ | ⟨a,cap,rfl,h2,h3,h4⟩
  · simp at hi
  · have hn:mE (.int k (i:Int))=some i:=by simp [mE]
    have hb:Nat.blt i l.length=true:=by simp [Nat.blt]; omega
    unfold dI
    rw [hn]
    simp only [Option.bind,hb]
    rcases h3 with h3 | h3
    · rw [h3]; simp [gP,elt,fwd,h3]
    · rw [h3]; simp [gP,elt,h3]
theorem Sl.loadA (hl:Sl ro h v z l) {i:Nat} {x:List Value} (hx:l[i]?=some x):loadA ro h z (gP z v i)=some (.agg x.toArray):=by
  rcases hl with ⟨rfl,rfl⟩ | ⟨a,cap,rfl,h2,h3,h4⟩
  · simp at hx
  · simp [V.loadA,gP,asP,(Sl.at h4.1 h4.2 i x hx).2]
theorem Sl.load1 (hl:Sl ro h v 1 l) {i:Nat} {x:Value} (hx:l[i]?=some [x]):load1 ro h (gP 1 v i)=some x:=by
  rcases hl with ⟨rfl,rfl⟩ | ⟨a,cap,rfl,h2,h3,h4⟩
  · simp at hx
  · have:=(Sl.at h4.1 h4.2 i _ hx).2
    simp only [V.load1,gP,asP,Option.bind,this]
theorem aKW {a:Addr} {n:Nat} {x:List Value} (hs:Sub h h') (hx:cellsAt ro h a n=some x):nR (.pointer (some a)) h h':=by
  unfold nR blk
  cases hz:a.spot with
  | none=>simp only [hz]
  | some z =>
    simp only [hz]
    unfold cellsAt at hx
    rw [hz] at hx
    cases hg:h.get a.block with
    | none=>rw [hg] at hx; cases hx
    | some o=>exact ⟨by rw [hg,hs _ _ hg],by rw [hg]; rfl⟩
theorem Sl.same (hs:Sub h h') (hl:Sl ro h v z l) {i:Nat} (hi:i < l.length):nR (gP z v i) h h':=by
  rcases hl with ⟨rfl,rfl⟩ | ⟨b,cap,rfl,h2,h3,h4⟩
  · simp at hi
  · exact aKW hs (Sl.at h4.1 h4.2 i _ (List.getElem?_eq_getElem hi)).2
end
theorem oK {h h':T Obj} {id off z:Nat} {o:Obj} (hg:h.get id=some o) (hs:h'.get id=some o):nR (at_ id off z) h h':=⟨by rw [hg,hs],by rw [hg]; rfl⟩
theorem Sl.own {ro:Ro} {h:T Obj} {id z cap:Nat} {l:List (List Value)} {e:TypeId} {f:Nat × Nat} (hg:h.get id=some (.cells l.flatten.toArray e f)) (hz:∀ x∈l,x.length=z) (hc:l.length≤cap):Sl ro h (.slice (some (V.own id z)) l.length cap) z l:=by
  refine .inr ⟨V.own id z,cap,rfl,hc,.inr rfl,hz,?_⟩
  have h1:=(iK hz).1
  show cellsAt ro h ⟨id,0,some z⟩ _=_
  rw [mL,hg,bA]
  simp only [Option.bind_some]
  rw [if_pos (by rw [h1]; omega),List.drop_zero,List.take_of_length_le (by rw [h1]; omega)]
theorem aMF {ro:Ro} {n id1 id2 m n0:Nat} {l1 l2:List Value} {e1 e2:TypeId} {f1 f2:Nat × Nat} {h h0:T Obj} {K:KV} (g1:h.get id1=some (.cells l1.toArray e1 f1)) (g2:h.get id2=some (.cells l2.toArray e2 f2))
    (q1:l1.length=n) (q2:l2.length=n) (q3:l1.all bT=true) (hf:Fr h0 n0) (hs:Sub h0 h) (hid:n0≤id2) (hK:K (.agg l1.toArray) h0 m) :
    aA (loadA ro h n (at_ id1 0 0)) fun t=>aA (bY n h (at_ id2 0 0) t) fun h8=>aA (loadA ro h8 n (at_ id2 0 0)) fun r=>∃ h9,Sub h9 h8∧K r h9 m:=by
  refine aB (cR g1 q1) ?_
  refine aB (fB (l:=l2) (vs:=l1) g2 rfl q1 q2 q3) ?_
  refine aB (cR (by rw [T.get_upd_same]) q1) ?_
  exact ⟨h0,hs.new hf hid,hK⟩
theorem fG {i:Nat} {A:Prop} {B:Nat→Prop} {D:Prop} (h:B i):exP (.exit i) A B D:=h
theorem mM {A:Prop} {B:Nat→Prop} {D:Prop} (h:D):exP .ret A B D:=h
theorem dR {A B:Prop} (h:A):d8 true A B:=h
theorem Sl.take {P:Program} {t e:TypeId} {ro:Ro} {h:T Obj} {v:Value} {z:Nat} {l:List (List Value)} (hl:Sl ro h v z l) (hu:und P t=some (.slice e)) (hz:siz P e=some z) (hz0:0 < z) {n:Nat} (hn:n≤l.length) (k:IntKind) :
    ∃ r,xT P t v none (some (.int k (n:Int))) none=some r∧Sl ro h r z (l.take n):=by
  have hnv:mE (.int k (n:Int))=some n:=by simp [mE]
  rcases hl with ⟨rfl,rfl⟩ | ⟨a,cap,rfl,h2,h3,h4⟩
  · simp at hn; subst hn
    refine ⟨.slice none 0 0,?_,.inl ⟨rfl,rfl⟩⟩
    unfold xT
    simp [hu,hz,kG,mE]
  · have hb:Nat.ble n cap=true:=Nat.ble_eq_true_of_le (by omega)
    have hlen:(l.take n).length=n:=by rw [List.length_take]; omega
    refine ⟨.slice (some a) n cap,?_,.inr ⟨a,cap,by rw [hlen],by rw [hlen]; omega,h3,fun x hx=>h4.1 x (List.mem_of_mem_take hx),?_⟩⟩
    · unfold xT
      have hb1:Nat.ble n l.length=true:=Nat.ble_eq_true_of_le hn
      have hb0:Nat.ble 0 n=true:=Nat.ble_eq_true_of_le (Nat.zero_le _)
      have e0:fwd a (0*z)=a:=by simp [fwd]
      have e1:kG none cap cap=some cap:=rfl
      have e2:kG (some (.int k (n:Int))) l.length cap=some n:=by simp [kG,hnv,hb]
      have e3:kG none 0 n=some 0:=rfl
      simp only [hu,hz,Option.bind,e1,e2,e3,hb,Option.isNone,Bool.true_or,Nat.sub_zero]
      rcases h3 with h3 | h3
      · simp only [h3]
        cases hc:Nat.beq cap 0 with
        | true=>simp only
        | false=>simp only [e0]
      · simp only [h3,Nat.beq_refl,e0]
    · have hk:0+n*z≤l.length*z:=by rw [Nat.zero_add]; exact Nat.mul_le_mul_right _ hn
      have:=pN h4.2 hk
      rw [List.drop_zero,aA0 n h4.1] at this
      rw [hlen]
      rcases h3 with h3 | h3
      · have e:elt a 0=a:=by obtain ⟨b,o,sp⟩:=a; change sp=none at h3; subst h3; rfl
        rw [e] at this; exact this
      · unfold cellsAt at this ⊢
        simp only [elt,h3,Option.map,Nat.add_zero] at this ⊢
        exact this
def Own (h:T Obj) (v:Value) (z:Nat) (e:TypeId) (l:List (List Value)) (lo hi:Nat):Prop :=
  (v=.slice none 0 0∧l=[])∨∃ id,lo≤id∧id < hi∧v=.slice (some (own id z)) l.length l.length∧(∀ x∈l,x.length=z)∧h.get id=some (.cells l.flatten.toArray e)
theorem Own.sl {ro:Ro} {h:T Obj} {v:Value} {z:Nat} {e:TypeId} {l:List (List Value)} {lo hi:Nat} (ho:Own h v z e l lo hi):Sl ro h v z l:=by
  rcases ho with ho | ⟨id,_,_,rfl,h4,h5⟩
  · exact .inl ho
  · exact Sl.own h5 h4 (Nat.le_refl _)
theorem Own.nil {h:T Obj} {z:Nat} {e:TypeId} {lo hi:Nat}:Own h (.slice none 0 0) z e [] lo hi:=.inl ⟨rfl,rfl⟩
theorem Own.keep {h h':T Obj} {v:Value} {z:Nat} {e:TypeId} {l:List (List Value)} {lo hi hi':Nat} (ho:Own h v z e l lo hi) (hh:hi≤hi') (hk:∀ id,lo≤id→id < hi→∀ o,h.get id=some o→h'.get id=some o):Own h' v z e l lo hi':=by
  rcases ho with ho | ⟨id,h1,h2,h3,h4,h5⟩
  · exact .inl ho
  · exact .inr ⟨id,h1,by omega,h3,h4,hk id h1 h2 _ h5⟩
theorem tU {P:Program} {ro:Ro} {h:T Obj} {v x:Value} {z nx lo hi:Nat} {t e:TypeId} {i:TypeInfo} {zv:Value} {l m:List (List Value)} (ho:Own h v z e l lo hi) (hx:Sl ro h x z m) (hu:und P t=some (.slice e)) (hi':tin P e=some i) (hz:i.size=z) (hz0:0 < z) (hzer:zer P e=some zv) (hzs:zv.cells.size=z)
    (hm:m≠[]) (hok:m.flatten.all bT=true) (hb:(l.length+m.length)*i.bytes≤big) (hb2:l.length+m.length≤big) (hlo:lo≤nx) (hnx:hi≤nx) :
    ∃ h',bX P ro h nx #[t,t] [v,x]=some (.slice (some (own nx z)) (l++m).length (l++m).length,h',nx+1)∧Own h' (.slice (some (own nx z)) (l++m).length (l++m).length) z e (l++m) lo (nx+1) ∧
      (∀ k,(k < lo∨hi≤k)→k≠nx→h'.get k=h.get k)∧(∀ k,k≠nx→h'.get k=h.get k∨h'.get k=none):=by
  have hml:0 < m.length:=List.length_pos_iff.2 hm
  obtain ⟨a,capx,rfl,hcx,hsx,hzx,hxc⟩:∃ a cap,x=.slice (some a) m.length cap∧m.length≤cap∧(a.spot=none∨a.spot=some z)∧(∀ x∈m,x.length=z)∧cellsAt ro h a (m.length*z)=some m.flatten:=by
    rcases hx with ⟨_,hx⟩ | hx
    · exact absurd hx hm
    · exact hx
  have hb1:Nat.ble ((l.length+m.length)*i.bytes) big=true:=Nat.ble_eq_true_of_le hb
  have hb2':Nat.ble (l.length+m.length) big=true:=Nat.ble_eq_true_of_le hb2
  have hb3:Nat.blt 0 z=true:=by simp [Nat.blt]; omega
  have hfull:Nat.ble (l.length+m.length) l.length=false:=by
    cases hq:Nat.ble (l.length+m.length) l.length with
    | false=>rfl
    | true=>have:=Nat.le_of_ble_eq_true hq; omega
  rcases ho with ⟨rfl,rfl⟩ | ⟨id,h1,h2,rfl,h4,h5⟩
  · refine ⟨h.upd nx (some (.cells m.flatten.toArray e)),?_,.inr ⟨nx,hlo,by omega,by simp,by simpa using hzx,by rw [T.get_upd_same]; simp⟩,fun k _ hk=>T.get_upd_ne _ _ hk,fun k hk=>.inl (T.get_upd_ne _ _ hk)⟩
    simp only [List.length_nil] at hb1 hb2' hfull
    simp only [bX,List.getElem?_toArray,List.getElem?_cons_zero,List.getElem?_cons_succ,hu,hi',Option.bind_some,aDz,hz,hxc,hfull,hzer,hb1,hb2',hb3,hzs,Nat.beq_refl,hok,aGk]
    simp
  · have hl:=(iK h4).1
    have hcl:cellsAt ro h ⟨id,0,some z⟩ (l.length*z)=some l.flatten:=by
      rw [mL,h5,bA]
      simp only [Option.bind_some]
      rw [if_pos (by rw [hl]; omega),List.drop_zero,List.take_of_length_le (by rw [hl]; omega)]
    refine ⟨(h.upd id none).upd nx (some (.cells (l.flatten++m.flatten).toArray e)),?_,.inr ⟨nx,hlo,by omega,by simp,?_,by rw [T.get_upd_same]; simp⟩,?_,?_⟩
    · simp only [bX,List.getElem?_toArray,List.getElem?_cons_zero,List.getElem?_cons_succ,hu,hi',Option.bind_some,aDz,hz,hxc,hfull,hzer,hb1,hb2',hb3,hzs,Nat.beq_refl,hok,aGk,own,hcl]
      simp
    · intro x hx
      rcases List.mem_append.1 hx with hx | hx
      · exact h4 x hx
      · exact hzx x hx
    · intro k hk hne
      rw [T.get_upd_ne _ _ hne,T.get_upd_ne _ _ (by omega)]
    · intro k hne
      rw [T.get_upd_ne _ _ hne]
      by_cases e:k=id
      · subst e; right; rw [T.get_upd_same]
      · left; rw [T.get_upd_ne _ _ e]
end V
end Go.Proofs.YtjndkdmkecpllaaGreat
set_option linter.unusedVariables false
set_option linter.unusedSimpArgs false
noncomputable section
namespace Go.Proofs.YtjndkdmkecpllaaGreat
namespace V
theorem aMi {p:Prop} {dp:Decidable p} {A B:Prop} (h1:p→A) (h2:¬ p→B):aZ (.bool (@decide p dp)) A B:=by
  by_cases hp:p
  · rw [decide_eq_true hp]; exact h1 hp
  · rw [decide_eq_false hp]; exact h2 hp
theorem kb {K:KV} {h:T Obj} {nx n:Nat} {b c:Bool} (hK:∀ n,nx≤n→K (.bool b) h n) (e:b=c) (hn:nx≤n):K (.bool c) h n:=by subst e; exact hK n hn
theorem ki {K:KV} {h:T Obj} {nx n:Nat} {k:IntKind} {b c:Int} (hK:∀ n,nx≤n→K (.int k b) h n) (e:b=c) (hn:nx≤n):K (.int k c) h n:=by subst e; exact hK n hn
section
variable {k:IntKind} {a b:Int} {K:Value→Prop}
theorem aPC (h:a < b) (hk:K (.bool true)):aA (aX .lss (.int k a) (.int k b)) K:=by rw [aW,decide_eq_true h]; exact hk
theorem aPB (h:b≤a) (hk:K (.bool false)):aA (aX .lss (.int k a) (.int k b)) K:=by rw [aW,decide_eq_false (by omega)]; exact hk
theorem dO (h1:a < b→K (.bool true)) (h2:b≤a→K (.bool false)):aA (aX .lss (.int k a) (.int k b)) K:=by
  by_cases h:a < b
  · exact aPC h (h1 h)
  · exact aPB (by omega) (h2 (by omega))
theorem aPA (h:a≤b) (hk:K (.bool true)):aA (aX .leq (.int k a) (.int k b)) K:=by rw [aV,decide_eq_true h]; exact hk
theorem aOz (h:b < a) (hk:K (.bool false)):aA (aX .leq (.int k a) (.int k b)) K:=by rw [aV,decide_eq_false (by omega)]; exact hk
theorem aA4 (h1:a≤b→K (.bool true)) (h2:b < a→K (.bool false)):aA (aX .leq (.int k a) (.int k b)) K:=by
  by_cases h:a≤b
  · exact aPA h (h1 h)
  · exact aOz (by omega) (h2 (by omega))
theorem aOx (h:b < a) (hk:K (.bool true)):aA (aX .gtr (.int k a) (.int k b)) K:=by rw [aU,decide_eq_true h]; exact hk
theorem aOw (h:a≤b) (hk:K (.bool false)):aA (aX .gtr (.int k a) (.int k b)) K:=by rw [aU,decide_eq_false (by omega)]; exact hk
theorem nX (h1:b < a→K (.bool true)) (h2:a≤b→K (.bool false)):aA (aX .gtr (.int k a) (.int k b)) K:=by
  by_cases h:b < a
  · exact aOx h (h1 h)
  · exact aOw (by omega) (h2 (by omega))
theorem aOv (h:b≤a) (hk:K (.bool true)):aA (aX .geq (.int k a) (.int k b)) K:=by rw [aT,decide_eq_true h]; exact hk
theorem aOu (h:a < b) (hk:K (.bool false)):aA (aX .geq (.int k a) (.int k b)) K:=by rw [aT,decide_eq_false (by omega)]; exact hk
theorem pL (h1:b≤a→K (.bool true)) (h2:a < b→K (.bool false)):aA (aX .geq (.int k a) (.int k b)) K:=by
  by_cases h:b≤a
  · exact aOv h (h1 h)
  · exact aOu (by omega) (h2 (by omega))
theorem aKt (h:a=b) (hk:K (.bool true)):aA (aX .eql (.int k a) (.int k b)) K:=by rw [aR,decide_eq_true h]; exact hk
theorem aKr (h:a≠b) (hk:K (.bool false)):aA (aX .eql (.int k a) (.int k b)) K:=by rw [aR,decide_eq_false h]; exact hk
theorem nB (h1:a=b→K (.bool true)) (h2:a≠b→K (.bool false)):aA (aX .eql (.int k a) (.int k b)) K:=by
  by_cases h:a=b
  · exact aKt h (h1 h)
  · exact aKr h (h2 h)
theorem aJE (h:a≠b) (hk:K (.bool true)):aA (aX .neq (.int k a) (.int k b)) K:=by rw [aS,decide_eq_false h]; exact hk
theorem aGi (h:a=b) (hk:K (.bool false)):aA (aX .neq (.int k a) (.int k b)) K:=by rw [aS,decide_eq_true h]; exact hk
theorem tH (h1:a≠b→K (.bool true)) (h2:a=b→K (.bool false)):aA (aX .neq (.int k a) (.int k b)) K:=by
  by_cases h:a=b
  · exact aGi h (h2 h)
  · exact aJE h (h1 h)
end
theorem aE0 {ro:Ro} {h h':T Obj} {p v:Value} (hs:Sub h h') (hl:load1 ro h p=some v):load1 ro h' p=some v:=by
  unfold V.load1 at hl ⊢
  obtain ⟨ad,y1,y2⟩:=aM hl
  rw [y1,Option.bind_some]
  cases hc:cellsAt ro h ad 1 with
  | none=>rw [hc] at y2; cases y2
  | some l=>rw [hc] at y2; rw [v8 hs hc]; exact y2
theorem aBE {ro:Ro} {h h':T Obj} {p v:Value} {n:Nat} (hs:Sub h h') (hl:loadA ro h n p=some v):loadA ro h' n p=some v:=by
  unfold V.loadA at hl ⊢
  obtain ⟨ad,y1,y2⟩:=aM hl
  obtain ⟨l9,y3,y4⟩:=aM y2
  rw [y1,Option.bind_some,v8 hs y3,Option.bind_some,y4]
def gL (l:List Int):List (List Value):=l.map fun b:Int=>[Value.int .i64 b]
theorem mO (l:List Int):(gL l).length=l.length:=by simp [gL]
theorem aJv {l:List Int} {i:Nat} (hi:i < l.length):(gL l)[i]?=some [.int .i64 l[i]]:=by simp [gL,hi]
def ZI (ro:Ro) (h:T Obj) (v:Value) (l:List Int):Prop:=Sl ro h v 1 (gL l)
section
variable {ro:Ro} {h h':T Obj} {v:Value} {l:List Int}
theorem ZI.sub (hs:Sub h h') (hl:ZI ro h v l):ZI ro h' v l:=Sl.sub hs hl
theorem ZI.len (hl:ZI ro h v l):cU v=some (.int .i64 l.length):=by have:=Sl.len hl; rwa [mO] at this
theorem ZI.ix (hl:ZI ro h v l) (k:IntKind) {i:Nat} (hi:i < l.length):dI 1 v (.int k (i:Int))=some (gP 1 v i):=Sl.ix hl k (by rw [mO]; exact hi)
theorem ZI.ixI (hl:ZI ro h v l) (k:IntKind) {i:Int} (h0:0≤i) (hi:i < l.length):dI 1 v (.int k i)=some (gP 1 v i.toNat):=by
  have:=hl.ix k (i:=i.toNat) (by omega)
  rwa [Int.toNat_of_nonneg h0] at this
theorem ZI.load (hl:ZI ro h v l) {i:Nat} (hi:i < l.length):load1 ro h (gP 1 v i)=some (.int .i64 l[i]):=Sl.load1 hl (aJv hi)
end
theorem ZI.load' {ro:Ro} {h:T Obj} {v:Value} {l:List Int} (hl:ZI ro h v l) {i:Nat} {x:Int} (hx:l[i]?=some x):load1 ro h (gP 1 v i)=some (.int .i64 x):=by
  obtain ⟨hi,he⟩:=List.getElem?_eq_some_iff.1 hx
  rw [hl.load hi,he]
theorem Sl.ok {ro:Ro} {h:T Obj} {v:Value} {z:Nat} {cs:List (List Value)} (hl:Sl ro h v z cs):bT v=true:=by
  rcases hl with ⟨rfl,_⟩ | ⟨a,cap,rfl,_⟩<;>rfl
theorem ZI.ok {ro:Ro} {h:T Obj} {v:Value} {l:List Int} (hl:ZI ro h v l):bT v=true:=Sl.ok hl
theorem eL {α:Type} {l:List α} {k:Nat} (hk:k < l.length):l.drop k=l[k]::l.drop (k+1):=List.drop_eq_getElem_cons hk
theorem iH {α:Type} {l:List α} {k:Nat} (hk:l.length≤k):l.drop k=[]:=List.drop_eq_nil_of_le hk
def jT (z:Nat) (v:Value) (i k:Nat):Value:=match v with
  | .slice (some a) _ _=>.pointer (some (elt a (i*z+k)))
  | _=>undef
def SlR {D:Type} (ro:Ro) (h:T Obj) (v:Value) (z:Nat) (R:List Value→D→Prop) (l:List D):Prop:=∃ cs,Sl ro h v z cs∧cs.length=l.length∧∀ (i:Nat) x d,cs[i]?=some x→l[i]?=some d→R x d
section
variable {D:Type} {ro:Ro} {h h':T Obj} {v:Value} {z:Nat} {R R':List Value→D→Prop} {l:List D}
theorem SlR.imp (hl:SlR ro h v z R l) (hR:∀ x d,R x d→R' x d):SlR ro h v z R' l:=by
  obtain ⟨cs,h1,h2,h3⟩:=hl
  exact ⟨cs,h1,h2,fun i x d hx hd=>hR _ _ (h3 i x d hx hd)⟩
theorem SlR.sub (hs:Sub h h') (hR:∀ x d,R x d→R' x d) (hl:SlR ro h v z R l):SlR ro h' v z R' l:=by
  obtain ⟨cs,h1,h2,h3⟩:=hl
  exact ⟨cs,h1.sub hs,h2,fun i x d hx hd=>hR _ _ (h3 i x d hx hd)⟩
theorem SlR.nil:SlR ro h (.slice none 0 0) z R ([]:List D):=⟨[],Sl.nil,rfl,fun i x d hx=>by simp at hx⟩
theorem SlR.len (hl:SlR ro h v z R l):cU v=some (.int .i64 l.length):=by
  obtain ⟨cs,h1,h2,h3⟩:=hl
  have:=h1.len
  rwa [h2] at this
theorem SlR.ix (hl:SlR ro h v z R l) (k:IntKind) {i:Nat} (hi:i < l.length):dI z v (.int k (i:Int))=some (gP z v i):=by
  obtain ⟨cs,h1,h2,h3⟩:=hl
  exact h1.ix k (by omega)
theorem SlR.ixI (hl:SlR ro h v z R l) (k:IntKind) {i:Int} (h0:0≤i) (hi:i < l.length):dI z v (.int k i)=some (gP z v i.toNat):=by
  have:=hl.ix k (i:=i.toNat) (by omega)
  rwa [Int.toNat_of_nonneg h0] at this
theorem aIu (a:Addr) (i j:Nat):fwd (elt a i) j=elt a (i+j):=by
  obtain ⟨b,o,s⟩:=a
  cases s<;>simp [fwd,elt,Nat.add_assoc]
theorem Sl.fwd {cs:List (List Value)} (hl:Sl ro h v z cs) {i:Nat} (hi:i < cs.length) (k:Nat):aY k (gP z v i)=some (jT z v i k):=by
  rcases hl with ⟨rfl,rfl⟩ | ⟨a,cap,rfl,h2,h3,h4⟩
  · simp at hi
  · simp only [aY,gP,asP,Option.bind,jT,aIu]
theorem Sl.load1K {cs:List (List Value)} (hl:Sl ro h v z cs) {i k:Nat} {x:List Value} {w:Value} (hx:cs[i]?=some x) (hk:x[k]?=some w):V.load1 ro h (jT z v i k)=some w:=by
  rcases hl with ⟨rfl,rfl⟩ | ⟨a,cap,rfl,h2,h3,h4⟩
  · simp at hx
  · have h5:=(Sl.at h4.1 h4.2 i _ hx)
    have hkl:=(List.getElem?_eq_some_iff.1 hk).1
    have hi:=(List.getElem?_eq_some_iff.1 hx).1
    have h6:i*z+k+1≤cs.length*z:=by
      have:i*z+z≤cs.length*z:=by rw [← Nat.succ_mul]; exact Nat.mul_le_mul_right _ hi
      omega
    have h7:=pN h4.2 (off:=i*z+k) (k:=1) h6
    have h8:=(iK h4.1).2 i x hx
    have h9:(cs.flatten.drop (i*z+k)).take 1=[w]:=by
      have:(cs.flatten.drop (i*z+k))[0]?=some w:=by
        rw [← h8] at hk
        rw [List.getElem?_take,if_pos (by omega),List.getElem?_drop] at hk
        rw [List.getElem?_drop]; simpa using hk
      have h10:=zF (l:=cs.flatten.drop (i*z+k)) (off:=0) this
      simpa using h10
    rw [h9] at h7
    simp only [V.load1,jT,asP,Option.bind,h7]
theorem SlR.at (hl:SlR ro h v z R l) {i:Nat} (hi:i < l.length):∃ x,R x l[i]∧x.length=z∧V.loadA ro h z (gP z v i)=some (.agg x.toArray)∧(∀ k,aY k (gP z v i)=some (jT z v i k))∧∀ k w,x[k]?=some w→V.load1 ro h (jT z v i k)=some w:=by
  obtain ⟨cs,h1,h2,h3⟩:=hl
  have hx:cs[i]?=some (cs[i]'(by omega)):=List.getElem?_eq_getElem _
  refine ⟨_,h3 i _ _ hx (List.getElem?_eq_getElem hi),?_,h1.loadA hx,fun k=>h1.fwd (by omega) k,fun k w hk=>h1.load1K hx hk⟩
  rcases h1 with ⟨rfl,rfl⟩ | ⟨a,cap,rfl,g2,g3,g4⟩
  · simp at hx
  · exact g4.1 _ (List.getElem_mem _)
theorem SlR.at1 (hl:SlR ro h v 1 R l) {i:Nat} (hi:i < l.length):∃ w,R [w] l[i]∧V.load1 ro h (gP 1 v i)=some w:=by
  obtain ⟨cs,h1,h2,h3⟩:=hl
  have hx:cs[i]?=some (cs[i]'(by omega)):=List.getElem?_eq_getElem _
  have hz:(cs[i]'(by omega)).length=1:=by
    rcases h1 with ⟨rfl,rfl⟩ | ⟨a,cap,rfl,g2,g3,g4⟩
    · simp at hx
    · exact g4.1 _ (List.getElem_mem _)
  generalize cs[i]'(by omega)=x at hx hz
  match x,hz with
  | [w],_=>exact ⟨w,h3 i _ _ hx (List.getElem?_eq_getElem hi),h1.load1 hx⟩
end
theorem Sl.loadAK {ro:Ro} {h:T Obj} {v:Value} {z:Nat} {cs:List (List Value)} (hl:Sl ro h v z cs) {i k m:Nat} {x:List Value} (hx:cs[i]?=some x) (hk:k+m≤x.length):V.loadA ro h m (jT z v i k)=some (.agg ((x.drop k).take m).toArray):=by
  rcases hl with ⟨rfl,rfl⟩ | ⟨a,cap,rfl,h2,h3,h4⟩
  · simp at hx
  · have h5:=(Sl.at h4.1 h4.2 i _ hx)
    have hi:=(List.getElem?_eq_some_iff.1 hx).1
    have h6:i*z+k+m≤cs.length*z:=by
      have:i*z+z≤cs.length*z:=by rw [← Nat.succ_mul]; exact Nat.mul_le_mul_right _ hi
      omega
    have h7:=pN h4.2 (off:=i*z+k) (k:=m) h6
    have h8:=(iK h4.1).2 i x hx
    have h9:(cs.flatten.drop (i*z+k)).take m=(x.drop k).take m:=by
      rw [← h8,List.drop_take,List.take_take,List.drop_drop,Nat.min_eq_left (by omega)]
    rw [h9] at h7
    simp only [V.loadA,jT,asP,Option.bind,h7]
theorem SlR.loadAK {D:Type} {ro:Ro} {h:T Obj} {v:Value} {z:Nat} {R:List Value→D→Prop} {l:List D} (hl:SlR ro h v z R l) {i:Nat} (hi:i < l.length):∃ x,R x l[i]∧∀ k m,k+m≤x.length→V.loadA ro h m (jT z v i k)=some (.agg ((x.drop k).take m).toArray):=by
  obtain ⟨cs,h1,h2,h3⟩:=hl
  have hx:cs[i]?=some (cs[i]'(by omega)):=List.getElem?_eq_getElem _
  exact ⟨_,h3 i _ _ hx (List.getElem?_eq_getElem hi),fun k m hk=>h1.loadAK hx hk⟩
theorem SlR.same {D:Type} {ro:Ro} {h h':T Obj} {v:Value} {z:Nat} {R:List Value→D→Prop} {l:List D} (hl:SlR ro h v z R l) (hs:Sub h h') {i:Nat} (hi:i < l.length):nR (gP z v i) h h':=by
  obtain ⟨cs,h1,h2,h3⟩:=hl
  exact h1.same hs (by omega)
theorem fT {h:T Obj} {nx m:Nat} {v:Value} {ty:TypeId} {K:T Obj→Prop} (hf:Fr h m) (hm:m≤nx) (hK:∀ h',Sub h h'→Fr h' (nx+1)→h'.get nx=some (.cells (Value.cells v) ty)→(∀ k,k≠nx→h'.get k=h.get k)→K h'):d4 h nx (.cells (Value.cells v) ty) K :=
  aD (hK _ ((Sub.refl h).new hf hm) ((hf.mono (show m≤nx+1 by omega)).upd (Nat.le_refl _) (by omega)) (by rw [T.get_upd_same]) fun k hk=>T.get_upd_ne _ _ hk)
theorem aFS {h:T Obj} {nx m:Nat} {o:Obj} {K:T Obj→Prop} (hf:Fr h m) (hm:m≤nx) (hK:∀ h',Sub h h'→Fr h' (nx+1)→h'.get nx=some o→(∀ k,k≠nx→h'.get k=h.get k)→K h'):d4 h nx o K :=
  aD (hK _ ((Sub.refl h).new hf hm) ((hf.mono (show m≤nx+1 by omega)).upd (Nat.le_refl _) (by omega)) (by rw [T.get_upd_same]) fun k hk=>T.get_upd_ne _ _ hk)
theorem kR {P:Program} {h:T Obj} {a m n:Nat} {ty:TypeId} {zv v:Value} {x:List Value} {K:T Obj→Prop} (hz:zer P ty=some zv) (hzs:zv.cells.size=n) (hv:v.cells=x.toArray) (hx:x.length=n) (hok:x.all bT=true) (hf:Fr h m) (hm:m≤a)
    (hK:∀ h',Sub h h'→Fr h' (a+1)→h'.get a=some (.cells x.toArray ty)→(∀ k,k≠a→h'.get k=h.get k)→K h') :
    aA (zer P ty) fun z=>d4 h a (.cells z.cells ty) fun h1=>aA (bY n h1 (ptr a) v) K:=by
  refine aB hz (aD (aB (fB (l:=zv.cells.toList) (vs:=x) (e:=ty) (f:=(0,0)) (by rw [T.get_upd_same]) hv hx (by simpa using hzs) hok) ?_))
  refine hK _ (((Sub.refl h).new hf hm).new hf hm) (((hf.mono (show m≤a+1 by omega)).upd (Nat.le_refl _) (by omega)).upd (Nat.le_refl _) (by omega)) (by rw [T.get_upd_same]) fun k hk=>?_
  rw [T.get_upd_ne _ _ hk,T.get_upd_ne _ _ hk]
theorem BB:(∀ (h:T Obj) (i:Nat) (o:Obj) (K:T Obj→Prop),d4 h i o K=K (h.upd i (some o))) ∧
    (∀ (h:T Obj) (i:Nat) (o:Obj) (K:T Obj→Prop),eG h i (some o) K=K (h.upd i (some o))) ∧
    (∀ (h:T Obj) (i:Nat) (K:T Obj→Prop),eG h i none K=K h) ∧
    (∀ {α:Type} (a:α) (K:α→Prop),aA (some a) K=K a) ∧
    (∀ (A B:Prop),aZ (.bool true) A B=A) ∧
    (∀ (A B:Prop),aZ (.bool false) A B=B) ∧
    (∀ (h:T Obj) (nx:Nat) (A:KV→Prop) (K:KV),ifP (.bool true) true h nx A K=A K) ∧
    (∀ (h:T Obj) (nx:Nat) (A:KV→Prop) (K:KV),ifP (.bool false) false h nx A K=A K) ∧
    (∀ (h:T Obj) (nx:Nat) (A:KV→Prop) (K:KV),ifP (.bool true) false h nx A K=K undef h nx) ∧
    (∀ (h:T Obj) (nx:Nat) (A:KV→Prop) (K:KV),ifP (.bool false) true h nx A K=K undef h nx) ∧
    (∀ (A:Prop) (B:Nat→Prop) (D:Prop),exP .normal A B D=A) ∧
    (∀ (i:Nat) (A:Prop) (B:Nat→Prop) (D:Prop),exP (.exit i) A B D=B i) ∧
    (∀ (A:Prop) (B:Nat→Prop) (D:Prop),exP .ret A B D=D) ∧
    (∀ (A B:Prop),d8 true A B=A) ∧
    (∀ (A B:Prop),d8 false A B=B) ∧
    (∀ (cs:Array Value),Value.cells (.agg cs)=cs) ∧
    (∀ (k:IntKind) (n:Int),Value.cells (.int k n)=#[.int k n]) ∧
    (∀ (b:Bool),Value.cells (.bool b)=#[.bool b]) ∧
    (∀ (k:IntKind) (a b:Int),aX .add (.int k a) (.int k b)=some (.int k (wr k (a+b)))) ∧
    (∀ (k:IntKind) (a b:Int),aX .sub (.int k a) (.int k b)=some (.int k (wr k (a - b)))) ∧
    (∀ (k:IntKind) (a b:Int),aX .mul (.int k a) (.int k b)=some (.int k (wr k (a*b)))) ∧
    (∀ (k:IntKind) {a b:Int} (ha:0≤a) (hb:0 < b),aX .quo (.int k a) (.int k b)=some (.int k (wr k (a / b)))) ∧
    (∀ (k:IntKind) {a b:Int} (ha:0≤a) (hb:0 < b),aX .rem (.int k a) (.int k b)=some (.int k (a % b))) ∧
    (∀ (k':IntKind) (a:Nat) {b:Int} (hb:0≤b) (hk:b≤64),aX .shr (.int .u64 (a:Int)) (.int k' b)=some (.int .u64 ((a / 2 ^ b.toNat:Nat):Int))) ∧
    (∀ (k':IntKind) {b:Int} (hb:0≤b) (hk:b < 64),aX .shl (.int .u64 1) (.int k' b)=some (.int .u64 ((2 ^ b.toNat:Nat):Int))) ∧
    (∀ {a b:Int} (ha:0≤a) (hb:0≤b) (ha':a≤18446744073709551615) (hb':b≤18446744073709551615),aX .and (.int .u64 a) (.int .u64 b)=some (.int .u64 (Nat.land a.toNat b.toNat:Nat))) ∧
    (∀ {a b:Int} (ha:0≤a) (hb:0≤b) (ha':a≤18446744073709551615) (hb':b≤18446744073709551615),aX .or (.int .u64 a) (.int .u64 b)=some (.int .u64 (Nat.lor a.toNat b.toNat:Nat))) ∧
    (∀ {a b:Int} (ha:0≤a) (hb:0≤b) (ha':a≤18446744073709551615) (hb':b≤18446744073709551615),aX .xor (.int .u64 a) (.int .u64 b)=some (.int .u64 (Nat.xor a.toNat b.toNat:Nat))) ∧
    (∀ {n:Int} (h1:-9223372036854775808≤n) (h2:n≤9223372036854775807),wr .i64 n=n) ∧
    (∀ {n:Int} (h1:0≤n) (h2:n≤255),wr .u8 n=n) ∧
    (∀ {n:Int} (h1:0≤n) (h2:n≤18446744073709551615),wr .u64 n=n) ∧
    (∀ (k k':IntKind) (n:Int),pK k (.int k' n)=some (.int k (wr k n))) ∧
    (∀ (b:Bool),unV .not (.bool b)=some (.bool (!b))) ∧
    (∀ (a b:Bool),aAP .eql (.bool a) (.bool b)=some (.bool (a==b))) ∧
    (∀ (a b:Bool),aAP .neq (.bool a) (.bool b)=some (.bool (!(a==b)))) ∧
    (∀ (a b:Value),dK (.bool true) a b=some a) ∧
    (∀ (a b:Value),dK (.bool false) a b=some b) ∧
    (∀ (a:Option Addr) (n c:Nat),cU (.slice a n c)=some (.int .i64 n)) ∧
    (∀ (id:Nat),ptr id=at_ id 0 0) ∧
    (∀ (k id off z:Nat),aY k (at_ id off z)=some (at_ id (off+k) z)) ∧
    (∀ (n z id off y:Nat) (k:IntKind) {i:Int} (h0:0≤i) (h1:i < n),ixArr n z (at_ id off y) (.int k i)=some (at_ id (off+i.toNat*z) y)) ∧
    (∀ (ro:Ro) (h:T Obj) (id off z:Nat),load1 ro h (at_ id off z)=(m6 (h.get id)).bind fun c=>c[off]?) ∧
    (∀ (ro:Ro) (h:T Obj) (n id off z:Nat),loadA ro h n (at_ id off z)=(m6 (h.get id)).bind fun c=>if off+n≤c.length then some (.agg ((c.drop off).take n).toArray) else none) ∧
    (∀ (n:Nat) (h:T Obj) (id off z:Nat) (v:Value),bY n h (at_ id off z) v=if v.cells.size=n then (aE8 (h.get id) off v.cells.toList).bind (fun o=>some (h.upd id (some o))) else none) ∧
    (∀ (c:Array Value) (e:TypeId) (f:Nat × Nat),m6 (some (.cells c e f))=some c.toList) ∧
    (∀ {c:Array Value} {e:TypeId} {f:Nat × Nat} {off:Nat} {vs:List Value} (h1:off+vs.length≤c.size) (h2:vs.all bT=true),aE8 (some (.cells c e f)) off vs=some (.cells (over c.toList off vs).toArray e f)) ∧
    (∀ (l:List Value),l.toArray.toList=l) ∧
    (∀ (l:List Value),l.toArray.size=l.length) :=
  ⟨@dP,@cT,@cS,@bL,@b9,@bO,@eY,@eV,@eX,@eW,@cA,@c7,@dV,@cM,@b7,@Value.cells_agg,@cP,@b8,@cK,@dC,@cX,@c8,@cW,@bH,@bD,@cB,@cQ,@cC,@dJ,@gJ,@eP,@cH,@dX,@cN,@cO,@cD,@bQ,@bP,@eR,@dW,@dA,@cI,@bZ,@bU,@bA,@bK,@tl,@ts⟩
theorem B2:(∀ (h:Decidable True),@decide True h=true)∧(∀ (h:Decidable False),@decide False h=false)∧((!true)=false)∧((!false)=true) ∧
    (∀ {α β:Type} (a:α) (f:α→Option β),(some a).bind f=f a)∧(∀ {α:Type} (t:T α) (k:Nat) (o:Option α),(t.upd k o).get k=o)∧(∀ {α:Type} (t:T α) {k i:Nat} (o:Option α),i≠k→(t.upd k o).get i=t.get i) ∧
    (∀ {α:Type} {c:Prop} {h:Decidable c} {a b:α},c→@ite α c h a b=a)∧(∀ n:Nat,0+n=n)∧(∀ n:Nat,n*1=n)∧(∀ n:Nat,n+0=n)∧(∀ n:Nat,(n:Int).toNat=n)∧(∀ n:Nat,n≤n) :=
  ⟨fun _=>decide_true ..,fun _=>decide_false ..,rfl,rfl,fun _ _=>rfl,T.get_upd_same,fun t _ _ o h=>T.get_upd_ne t o h,fun h=>if_pos h,Nat.zero_add,Nat.mul_one,fun _=>rfl,fun _=>rfl,Nat.le_refl⟩
theorem CC:(∀ {k:IntKind} {a b:Int},a < b→aX .lss (.int k a) (.int k b)=some (.bool true))∧(∀ {k:IntKind} {a b:Int},b≤a→aX .lss (.int k a) (.int k b)=some (.bool false)) ∧
    (∀ {k:IntKind} {a b:Int},a≤b→aX .leq (.int k a) (.int k b)=some (.bool true))∧(∀ {k:IntKind} {a b:Int},b < a→aX .leq (.int k a) (.int k b)=some (.bool false)) ∧
    (∀ {k:IntKind} {a b:Int},b < a→aX .gtr (.int k a) (.int k b)=some (.bool true))∧(∀ {k:IntKind} {a b:Int},a≤b→aX .gtr (.int k a) (.int k b)=some (.bool false)) ∧
    (∀ {k:IntKind} {a b:Int},b≤a→aX .geq (.int k a) (.int k b)=some (.bool true))∧(∀ {k:IntKind} {a b:Int},a < b→aX .geq (.int k a) (.int k b)=some (.bool false)) ∧
    (∀ {k:IntKind} {a b:Int},a=b→aX .eql (.int k a) (.int k b)=some (.bool true))∧(∀ {k:IntKind} {a b:Int},a≠b→aX .eql (.int k a) (.int k b)=some (.bool false)) ∧
    (∀ {k:IntKind} {a b:Int},a≠b→aX .neq (.int k a) (.int k b)=some (.bool true))∧(∀ {k:IntKind} {a b:Int},a=b→aX .neq (.int k a) (.int k b)=some (.bool false)):=by
  refine ⟨?_,?_,?_,?_,?_,?_,?_,?_,?_,?_,?_,?_⟩<;>intro k a b h
  · rw [aW,decide_eq_true h]
  · rw [aW,decide_eq_false (by omega)]
  · rw [aV,decide_eq_true h]
  · rw [aV,decide_eq_false (by omega)]
  · rw [aU,decide_eq_true h]
  · rw [aU,decide_eq_false (by omega)]
  · rw [aT,decide_eq_true h]
  · rw [aT,decide_eq_false (by omega)]
  · rw [aR,decide_eq_true h]
  · rw [aR,decide_eq_false h]
  · rw [aS,decide_eq_false h]; rfl
  · rw [aS,decide_eq_true h]; rfl
end V
end Go.Proofs.YtjndkdmkecpllaaGreat
set_option linter.unusedVariables false
set_option linter.unusedSimpArgs false
noncomputable section
namespace Go.Proofs.YtjndkdmkecpllaaGreat
namespace V
def jC:Value→Option Nat
  | .slice (some a) _ _=>some a.block
  | _=>none
def bV (h:T Obj) (v:Value) (z:Nat) (e:TypeId) (l:List (List Value)) (lo:Nat):Prop :=
  (v=.slice none 0 0∧l=[])∨∃ id,lo≤id∧v=.slice (some (own id z)) l.length l.length∧(∀ x∈l,x.length=z)∧h.get id=some (.cells l.flatten.toArray e)
theorem bV.nil {h:T Obj} {z:Nat} {e:TypeId} {lo:Nat}:bV h (.slice none 0 0) z e [] lo:=.inl ⟨rfl,rfl⟩
theorem bV.mono {h:T Obj} {v:Value} {z:Nat} {e:TypeId} {l:List (List Value)} {lo lo':Nat} (ho:bV h v z e l lo) (hl:lo'≤lo):bV h v z e l lo':=by
  rcases ho with ho | ⟨id,h1,h2⟩
  · exact .inl ho
  · exact .inr ⟨id,by omega,h2⟩
theorem bV.sl {ro:Ro} {h:T Obj} {v:Value} {z:Nat} {e:TypeId} {l:List (List Value)} {lo:Nat} (ho:bV h v z e l lo):Sl ro h v z l:=by
  rcases ho with ho | ⟨id,_,rfl,h4,h5⟩
  · exact .inl ho
  · exact Sl.own h5 h4 (Nat.le_refl _)
def Kp (v:Value) (h h':T Obj):Prop:=∀ k o,h.get k=some o→jC v≠some k→h'.get k=some o
theorem Kp.trans {v:Value} {a b c:T Obj} (h1:Kp v a b) (h2:Sub b c):Kp v a c:=fun k o hk hv=>h2 k o (h1 k o hk hv)
theorem bV.keep {h h':T Obj} {v w:Value} {z:Nat} {e:TypeId} {l:List (List Value)} {lo:Nat} (ho:bV h v z e l lo) (hk:Kp w h h') (hne:∀ id,jC v=some id→jC w≠some id):bV h' v z e l lo:=by
  rcases ho with ho | ⟨id,h1,rfl,h4,h5⟩
  · exact .inl ho
  · exact .inr ⟨id,h1,rfl,h4,hk id _ h5 (hne id rfl)⟩
theorem bV.keepS {h h':T Obj} {v:Value} {z:Nat} {e:TypeId} {l:List (List Value)} {lo:Nat} (ho:bV h v z e l lo) (hk:Sub h h'):bV h' v z e l lo:=by
  rcases ho with ho | ⟨id,h1,rfl,h4,h5⟩
  · exact .inl ho
  · exact .inr ⟨id,h1,rfl,h4,hk id _ h5⟩
theorem bV.ne {h:T Obj} {v:Value} {z:Nat} {e e':TypeId} {l:List (List Value)} {lo k:Nat} {c:Array Value} {f:Nat × Nat} (ho:bV h v z e l lo) (hk:h.get k=some (.cells c e' f)) (he:e'≠e):jC v≠some k:=by
  rcases ho with ⟨rfl,_⟩ | ⟨id,_,rfl,_,h5⟩
  · intro h; cases h
  · intro h
    have:id=k:=Option.some.inj h
    subst this
    rw [hk] at h5
    simp only [Option.some.injEq,Obj.cells.injEq] at h5
    exact he h5.2.1
theorem bV.lt {h:T Obj} {v:Value} {z:Nat} {e:TypeId} {l:List (List Value)} {lo k:Nat} (ho:bV h v z e l lo) (hk:k < lo):jC v≠some k:=by
  rcases ho with ⟨rfl,_⟩ | ⟨id,h1,rfl,_,h5⟩
  · intro h; cases h
  · intro h
    have:id=k:=Option.some.inj h
    omega
theorem Fr.lt' {h:T Obj} {n k:Nat} {o:Obj} (hf:Fr h n) (hk:h.get k=some o):k < n:=by
  rcases Nat.lt_or_ge k n with h1 | h1
  · exact h1
  · rw [hf k h1] at hk; cases hk
theorem bV.sub {h0 h h':T Obj} {v:Value} {z:Nat} {e:TypeId} {l:List (List Value)} {lo n0:Nat} (ho:bV h v z e l lo) (hk:Kp v h h') (hf:Fr h0 n0) (hn:n0≤lo) (hs:Sub h0 h):Sub h0 h':=fun k o hk0=>hk k o (hs k o hk0) (ho.lt (by have:=hf.lt' hk0; omega))
theorem aEn {P:Program} {ro:Ro} {h:T Obj} {v x:Value} {z nx lo:Nat} {t e:TypeId} {i:TypeInfo} {zv:Value} {l m:List (List Value)} (ho:bV h v z e l lo) (hx:Sl ro h x z m) (hu:und P t=some (.slice e)) (hi':tin P e=some i) (hz:i.size=z) (hz0:0 < z) (hzer:zer P e=some zv) (hzs:zv.cells.size=z)
    (hm:m≠[]) (hok:m.flatten.all bT=true) (hb:(l.length+m.length)*i.bytes≤big) (hb2:l.length+m.length≤big) (hlo:lo≤nx) (hf:Fr h nx) :
    ∃ h',bX P ro h nx #[t,t] [v,x]=some (.slice (some (own nx z)) (l++m).length (l++m).length,h',nx+1)∧bV h' (.slice (some (own nx z)) (l++m).length (l++m).length) z e (l++m) lo∧Kp v h h'∧Fr h' (nx+1)∧(∀ k,k≠nx→h'.get k=h.get k∨h'.get k=none):=by
  have fin:∀ h':T Obj,(∀ k,k≠nx→h'.get k=h.get k∨h'.get k=none)→Fr h' (nx+1):=fun h' h2 k hk=>by
    rcases h2 k (by omega) with h3 | h3
    · rw [h3]; exact hf k (by omega)
    · exact h3
  rcases ho with ⟨rfl,rfl⟩ | ⟨id,h1,rfl,h4,h5⟩
  · obtain ⟨h',q1,q2,q3,q4⟩:=tU (P:=P) (t:=t) (lo:=nx) (hi:=nx) (Own.nil (h:=h) (z:=z) (e:=e)) hx hu hi' hz hz0 hzer hzs hm hok (by simpa using hb) (by simpa using hb2) (Nat.le_refl _) (Nat.le_refl _)
    refine ⟨h',q1,?_,fun k o hk _=>?_,fin h' q4,q4⟩
    · rcases q2 with ⟨h6,_⟩ | ⟨id,h6,h7,h8,h9,h10⟩
      · cases h6
      · exact .inr ⟨id,by omega,h8,h9,h10⟩
    · have:=hf.lt' hk
      rw [q3 k (.inl this) (by omega)]; exact hk
  · have hid:=hf.lt' h5
    obtain ⟨h',q1,q2,q3,q4⟩:=tU (P:=P) (t:=t) (lo:=id) (hi:=id+1) (.inr ⟨id,Nat.le_refl _,by omega,rfl,h4,h5⟩:Own h _ z e l id (id+1)) hx hu hi' hz hz0 hzer hzs hm hok hb hb2 (show id≤nx by omega) (by omega)
    refine ⟨h',q1,?_,fun k o hk hne=>?_,fin h' q4,q4⟩
    · rcases q2 with ⟨h6,_⟩ | ⟨id2,h6,h7,h8,h9,h10⟩
      · cases h6
      · exact .inr ⟨id2,by omega,h8,h9,h10⟩
    · have h7:=hf.lt' hk
      have h8:id≠k:=fun h=>hne (by rw [← h]; rfl)
      rw [q3 k (by omega) (by omega)]; exact hk
theorem aFu {P:Program} {ro:Ro} {h:T Obj} {v x:Value} {z nx lo:Nat} {t e:TypeId} {i:TypeInfo} {l:List (List Value)} (ho:bV h v z e l lo) (hx:Sl ro h x z []) (hu:und P t=some (.slice e)) (hi':tin P e=some i) :
    bX P ro h nx #[t,t] [v,x]=some (v,h,nx):=by
  obtain ⟨a,len,rfl⟩:∃ a len,v=.slice a len len:=by
    rcases ho with ⟨rfl,_⟩ | ⟨id,_,rfl,_⟩
    · exact ⟨none,0,rfl⟩
    · exact ⟨_,_,rfl⟩
  have hs:aDz P ro h e i.size i.bytes t x=some (0,[]):=by
    rcases hx with ⟨rfl,_⟩ | ⟨a,cap,rfl,h2,h3,h4,h5⟩
    · simp only [aDz,hu]
    · have:cellsAt ro h a (0*i.size)=some []:=by
        have:cellsAt ro h a (0*z)=some []:=by simpa using h5
        rw [Nat.zero_mul] at this ⊢; exact this
      simp only [aDz,hu,List.length_nil,this,Option.bind]
  have hb:Nat.ble (len+0) len=true:=Nat.ble_eq_true_of_le (by omega)
  simp only [bX,List.getElem?_toArray,List.getElem?_cons_zero,List.getElem?_cons_succ,hu,hi',Option.bind_some,hs,hb]
theorem aHi {P:Program} {ro:Ro} {h:T Obj} {v x:Value} {z nx lo:Nat} {t e:TypeId} {i:TypeInfo} {zv:Value} {l m:List (List Value)} (ho:bV h v z e l lo) (hx:Sl ro h x z m) (hu:und P t=some (.slice e)) (hi':tin P e=some i) (hz:i.size=z) (hz0:0 < z) (hzer:zer P e=some zv) (hzs:zv.cells.size=z)
    (hok:m.flatten.all bT=true) (hb:(l.length+m.length)*i.bytes≤big) (hb2:l.length+m.length≤big) (hlo:lo≤nx) (hf:Fr h nx) :
    ∃ r h' n',bX P ro h nx #[t,t] [v,x]=some (r,h',n')∧bV h' r z e (l++m) lo∧Kp v h h'∧nx≤n'∧Fr h' n'∧(jC r=none∨jC r=jC v∨jC r=some nx):=by
  cases m with
  | nil=>exact ⟨v,h,nx,aFu ho hx hu hi',by rw [List.append_nil]; exact ho,(fun k o hk _=>hk),Nat.le_refl _,hf,.inr (.inl rfl)⟩
  | cons y m =>
    obtain ⟨h',q1,q2,q3,q4,q5⟩:=aEn (P:=P) (t:=t) ho hx hu hi' hz hz0 hzer hzs (by simp) hok hb hb2 hlo hf
    exact ⟨_,h',nx+1,q1,q2,q3,by omega,q4,.inr (.inr rfl)⟩
theorem lX {P:Program} {ro:Ro} {h:T Obj} {v w:Value} {z nx n1 n2 lo:Nat} {t e:TypeId} {i:TypeInfo} {zv:Value} {l:List (List Value)} {y:List Value} {K:Value × Option Obj→T Obj→Value × T Obj × Nat→Prop} (hlit:a7 P t n1 1 [(0,w)]=some (.slice (some (own n1 z)) 1 1,some (.cells y.toArray e))) (hy:y.length=z) (ho:bV h v z e l lo)
    (hu:und P t=some (.slice e)) (hi':tin P e=some i) (hz:i.size=z) (hz0:0 < z) (hzer:zer P e=some zv) (hzs:zv.cells.size=z) (hok:y.all bT=true) (hb:(l.length+1)*i.bytes≤big) (hb2:l.length+1≤big) (hf:Fr h nx) (hlo:lo≤nx) (hn1:nx≤n1) (hn2:n1 < n2)
    (hK:∀ h',bV h' (.slice (some (own n2 z)) (l++[y]).length (l++[y]).length) z e (l++[y]) lo→Kp v h h'→Fr h' (n2+1)→K (.slice (some (own n1 z)) 1 1,some (.cells y.toArray e)) (h.upd n1 (some (.cells y.toArray e))) (.slice (some (own n2 z)) (l++[y]).length (l++[y]).length,h',n2+1)) :
    aA (a7 P t n1 1 [(0,w)]) fun r=>eG h n1 r.2 fun h'=>aA (bX P ro h' n2 #[t,t] [v,r.1]) (K r h'):=by
  refine aB hlit (aE ?_)
  have hs1:Sub h (h.upd n1 (some (.cells y.toArray e))):=(Sub.refl h).new hf hn1
  have hf1:Fr (h.upd n1 (some (.cells y.toArray e))) n2:=(hf.mono (show nx≤n2 by omega)).upd (Nat.le_refl _) hn2
  have hx1:Sl ro (h.upd n1 (some (.cells y.toArray e))) (.slice (some (own n1 z)) 1 1) z [y]:=Sl.own (l:=[y]) (e:=e) (f:=(0,0)) (by rw [T.get_upd_same]; simp) (by simpa using hy) (Nat.le_refl _)
  obtain ⟨h',q1,q2,q3,q4,q5⟩:=aEn (P:=P) (t:=t) (nx:=n2) (ho.keepS hs1) hx1 hu hi' hz hz0 hzer hzs (by simp) (by simpa using hok) hb hb2 (by omega) hf1
  exact aB q1 (hK h' q2 (fun k o hk hv=>q3 k o (hs1 k o hk) hv) q4)
end V
end Go.Proofs.YtjndkdmkecpllaaGreat
set_option linter.unusedVariables false
set_option linter.unusedSimpArgs false
noncomputable section
namespace Go.Proofs.YtjndkdmkecpllaaGreat
namespace V
open Go.Deep
section
variable {H:Type} {enc:TypeId × Value→H} {P:Program} {W:World}
end
end V
end Go.Proofs.YtjndkdmkecpllaaGreat