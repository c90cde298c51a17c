/- Texts laid one behind the other: V3, G, W1.
   No condition. -/
import Derived.CheckFast
import Derived.Carry
import Derived.ProofKit
import Derived.SizedLaws
import Derived.JoinedCond
import Derived.Test.YtcaccnneblghgaaGreatProg
import Derived.KernelRfl
import Derived.Deep.Slices
import Derived.Test.YtcaccnneblghgaaGreatQ32
set_option linter.unusedVariables false
set_option linter.unusedSimpArgs false
noncomputable section
namespace Go.Proofs.YtcaccnneblghgaaGreat
namespace V
abbrev Env:=Nat→Value
def Env.put (e:Env) (d:Nat) (v:Value):Env:=fun i=>match Nat.beq i d with
  | true=>v
  | false=>e i
def aB {α:Type} (o:Option α) (K:α→Prop):Prop:=match o with
  | some a=>K a
  | none=>False
abbrev eO {α:Type} (o:Option α) (K:α→Prop):Prop:=match o with
  | some a=>K a
  | none=>False
abbrev evE (e:Env):Operand→Option Value
  | .tmp i=>some (e i)
  | .const v=>match flat v with
    | true=>some v
    | false=>none
  | .global _=>none
  | .func f=>some (.func (.func f) #[] #[])
abbrev aFV (e:Env):List Operand→Option (List Value)
  | []=>some []
  | x::r=>(evE e x).bind fun v=>(aFV e r).bind fun vs=>some (v::vs)
abbrev aMs (e:Env):Option Operand→Option (Option Value)
  | none=>some none
  | some x=>(evE e x).bind fun v=>some (some v)
abbrev aMt (e:Env):List (Nat × Operand)→Option (List (Nat × Value))
  | []=>some []
  | x::r=>(evE e x.2).bind fun v=>(aMt e r).bind fun vs=>some ((x.1,v)::vs)
def asP:Value→Option Addr
  | .pointer (some a)=>some a
  | _=>none
def asAgg:Value→Option (Array Value)
  | .agg cs=>some cs
  | _=>none
def load1 (ro:Ro) (h:T Obj) (v:Value):Option Value:=(asP v).bind fun a=>match cellsAt ro h a 1 with
  | some [x]=>some x
  | _=>none
def loadA (ro:Ro) (h:T Obj) (n:Nat) (v:Value):Option Value:=(asP v).bind fun a=>(cellsAt ro h a n).bind fun l=>some (.agg l.toArray)
def aS (k:Nat) (v:Value):Option Value:=(asP v).bind fun a=>some (.pointer (some (fwd a k)))
def aQy (off:Nat) (v:Value):Option Value:=(asAgg v).bind fun cs=>cs[off]?
def aQz (n off:Nat) (v:Value):Option Value:=(asAgg v).bind fun cs=>match Nat.ble (off+n) cs.size with
  | true=>some (.agg ((cs.toList.drop off).take n).toArray)
  | false=>none
def ixArr (n z:Nat) (x i:Value):Option Value:=(mP i).bind fun i=>(asP x).bind fun a=>match Nat.blt i n with
  | true=>some (.pointer (some (fwd a (i*z))))
  | false=>none
def cN (z:Nat) (x i:Value):Option Value:=(mP i).bind fun i=>match x with
  | .slice (some a) len _=>match Nat.blt i len with
    | true=>match a.spot with
      | none=>some (.pointer (some (fwd a (i*z))))
      | some z'=>match Nat.beq z z' with
        | true=>some (.pointer (some (elt a (i*z))))
        | false=>none
    | false=>none
  | _=>none
def aER (x i:Value):Option Value:=(mP i).bind fun i=>match x with
  | .string s=>match s.data.toList[i]? with
    | some b=>some (.int .u8 b.toNat)
    | none=>none
  | _=>none
def aOg (n z:Nat) (x i:Value):Option Value:=(mP i).bind fun i=>(asAgg x).bind fun cs=>match Nat.blt i n with
  | true=>cs[i*z]?
  | false=>none
def aRD (n z:Nat) (x i:Value):Option Value:=(mP i).bind fun i=>(asAgg x).bind fun cs=>match Nat.blt i n,Nat.ble (i*z+z) cs.size with
  | true,true=>some (.agg ((cs.toList.drop (i*z)).take z).toArray)
  | _,_=>none
def aO (op:BinOp) (a b:Value):Option Value:=match a,b with
  | .int k x,.int k' y=>match op with
    | .shl | .shr=>aBJ op k x y
    | _=>match decide (k=k') with
      | true=>s9 op k x y
      | false=>none
  | _,_=>none
def aFA (op:BinOp) (a b:Value):Option Value:=match a,b with
  | .string x,.string y=>aPQ op x y
  | _,_=>none
def aFr (op:BinOp) (a b:Value):Option Value:=match op,a,b with
  | .eql,.bool x,.bool y=>some (.bool (x==y))
  | .neq,.bool x,.bool y=>some (.bool (!(x==y)))
  | _,_,_=>none
def aFN (ks:List Nat) (op:BinOp) (a b:Value):Option Value:=match a,b with
  | .agg xs,.agg ys=>match op with
    | .eql=>(dH ks xs.toList ys.toList).bind fun b=>some (.bool b)
    | .neq=>(dH ks xs.toList ys.toList).bind fun b=>some (.bool (!b))
    | _=>none
  | _,_=>none
def v8 (op:BinOp) (a b:Value):Option Value:=match op,a,b with
  | .eql,.pointer none,.pointer y=>some (.bool y.isNone)
  | .eql,.pointer x,.pointer none=>some (.bool x.isNone)
  | .neq,.pointer none,.pointer y=>some (.bool (!y.isNone))
  | .neq,.pointer x,.pointer none=>some (.bool (!x.isNone))
  | _,_,_=>none
def slB (op:BinOp) (a b:Value):Option Value:=match op,a,b with
  | .eql,.slice none _ _,.slice y _ _=>some (.bool y.isNone)
  | .eql,.slice x _ _,.slice none _ _=>some (.bool x.isNone)
  | .neq,.slice none _ _,.slice y _ _=>some (.bool (!y.isNone))
  | .neq,.slice x _ _,.slice none _ _=>some (.bool (!x.isNone))
  | _,_,_=>none
def bL (c a b:Value):Option Value:=match c with
  | .bool true=>some a
  | .bool false=>some b
  | _=>none
def bK:Value→Option Value
  | .pointer (some a)=>some (.pointer (some a))
  | .func (.func f) a b=>some (.func (.func f) a b)
  | _=>none
def vQ (k:IntKind):Value→Option Value
  | .int _ n=>some (.int k (wr k n))
  | _=>none
def nth (i:Nat):Value→Option Value
  | .tuple vs=>vs[i]?
  | _=>none
def bG:Value→Option Value
  | .slice _ n _=>some (.int .i64 n)
  | _=>none
def wX:Value→Option Value
  | .string s=>some (.int .i64 s.size)
  | _=>none
def ptr (id:Nat):Value:=.pointer (some (own id 0))
def bY (n:Nat) (h:T Obj) (a v:Value):Option (T Obj):=(asP a).bind fun a=>match Nat.beq v.cells.size n with
  | true=>jU h a v.cells.toList
  | false=>none
abbrev KV:=Value→T Obj→Nat→Prop
abbrev aCc:=FuncId→List Value→T Obj→Nat→KV→Prop
abbrev ptQ (P:Program) (ro:Ro) (e:Env) (h:T Obj) (aid:Nat) (op:Op) (K:Value→Option Obj→Prop):Prop :=
  match op with
  | .move x | .assign x=>eO (evE e x) fun v=>K v none
  | .pick c a b=>eO (evE e c) fun c=>eO (evE e a) fun a=>eO (evE e b) fun b=>aB (bL c a b) fun v=>K v none
  | .alloc ty=>aB (zer P ty) fun z=>K (ptr aid) (some (.cells z.cells ty))
  | .box ty x=>eO (evE e x) fun v=>K (ptr aid) (some (.cells v.cells ty))
  | .build ty ps=>eO (aMt e ps.toList) fun vs=>aB (fO P ty vs) fun v=>K v none
  | .buildSlice ty n ps=>eO (aMt e ps.toList) fun vs=>aB (bQ P ty aid n vs) fun r=>K r.1 r.2
  | .load ty x=>eO (evE e x) fun v=>match isAgg P ty with
    | some true=>eO (siz P ty) fun n=>aB (loadA ro h n v) fun u=>K u none
    | some false=>aB (load1 ro h v) fun u=>K u none
    | none=>False
  | .nilCheck x=>eO (evE e x) fun v=>aB (bK v) fun v=>K v none
  | .binOp op ty x y _=>eO (evE e x) fun a=>eO (evE e y) fun b=>match und P ty with
    | some (.int _)=>aB (aO op a b) fun v=>K v none
    | some .string=>aB (aFA op a b) fun v=>K v none
    | some .bool=>aB (aFr op a b) fun v=>K v none
    | some (.pointer _)=>aB (v8 op a b) fun v=>K v none
    | some (.slice _)=>aB (slB op a b) fun v=>K v none
    | some (.struct _) | some (.array _ _)=>aB (dY P 20 ty) fun ks=>aB (aFN ks op a b) fun v=>K v none
    | _=>False
  | .unOp op _ x=>eO (evE e x) fun a=>aB (unV op a) fun v=>K v none
  | .convert s d x=>eO (evE e x) fun v=>match und P s,und P d with
    | some (.int _),some (.int k)=>aB (vQ k v) fun v=>K v none
    | _,_=>aB (aCf P ro h aid s d v) fun r=>K r.1 r.2
  | .makeFunc (.func f) a b=>eO (aFV e a.toList) fun a=>eO (aFV e b.toList) fun b=>K (.func (.func f) a.toArray b.toArray) none
  | .makeMap _ none=>K (.map (some aid)) (some (.map #[] 0))
  | .makeSlice ty l c=>eO (evE e l) fun l=>eO (evE e c) fun c=>aB (aEZ P ty aid l c) fun r=>K r.1 r.2
  | .slice ty x lo hi mx=>eO (evE e x) fun x=>eO (aMs e lo) fun lo=>eO (aMs e hi) fun hi=>eO (aMs e mx) fun mx=>aB (kZ P ty x lo hi mx) fun v=>K v none
  | .fieldAddr s x f=>eO (evE e x) fun v=>eO (aIO P s f) fun f=>eO (siz P f.type) fun n=>match n with
    | 0=>False
    | _+1=>aB (aS f.offset v) fun v=>K v none
  | .field ty x f=>eO (evE e x) fun v=>eO (aIO P ty f) fun f=>match isAgg P f.type with
    | some true=>eO (siz P f.type) fun n=>aB (aQz n f.offset v) fun v=>K v none
    | some false=>aB (aQy f.offset v) fun v=>K v none
    | none=>False
  | .indexAddr ty x i=>eO (evE e x) fun x=>eO (evE e i) fun i=>match und P ty with
    | some (.array n el)=>eO (siz P el) fun z=>aB (ixArr n z x i) fun v=>K v none
    | some (.slice el)=>eO (siz P el) fun z=>aB (cN z x i) fun v=>K v none
    | _=>False
  | .index ty x i=>eO (evE e x) fun x=>eO (evE e i) fun i=>match und P ty with
    | some (.array n el)=>eO (siz P el) fun z=>match isAgg P el with
      | some true=>aB (aRD n z x i) fun v=>K v none
      | some false=>aB (aOg n z x i) fun v=>K v none
      | none=>False
    | some .string=>aB (aER x i) fun v=>K v none
    | _=>False
  | .lookup ty x k ok=>eO (evE e x) fun x=>eO (evE e k) fun k=>aB (aA1 P h ty x k ok) fun v=>K v none
  | .extract x i=>eO (evE e x) fun v=>aB (nth i v) fun v=>K v none
  | .call { callee:=.builtin b,args,argTypes }=>eO (aFV e args.toList) fun vs=>match b,vs,argTypes[0]? with
    | .len,[x],some ty=>match und P ty with
      | some .string=>aB (wX x) fun v=>K v none
      | some (.slice _)=>aB (bG x) fun v=>K v none
      | _=>aB (aI0 P h ty x) fun v=>K v none
    | _,_,_=>aB (eZ P h b argTypes vs) fun v=>K v none
  | _=>False
def yB (C:aCc) (f:Value) (vs:List Value) (h:T Obj) (nx:Nat) (K:KV):Prop:=match f with
  | .func (.func k) a b=>C k (a.toList++vs++b.toList) h nx K
  | _=>False
abbrev ptL (P:Program) (ro:Ro) (C:aCc) (e:Env) (h:T Obj) (nx:Nat) (op:Op) (K:KV):Prop :=
  match op with
  | .store ty a x=>eO (evE e a) fun a=>eO (evE e x) fun x=>eO (siz P ty) fun n=>aB (bY n h a x) fun h=>K undef h nx
  | .mapUpdate ty m k x | .insert ty m k x=>eO (evE e m) fun m=>eO (evE e k) fun k=>eO (evE e x) fun x=>aB (wY P h ty m k x) fun h=>K undef h nx
  | .call { callee:=.builtin b,args,argTypes }=>eO (aFV e args.toList) fun vs=>match b with
    | .append=>aB (cA P ro h nx argTypes vs) fun r=>K r.1 r.2.1 r.2.2
    | .copy=>aB (aDv P ro h nx argTypes vs) fun r=>K r.1 r.2.1 r.2.2
    | .clear=>match vs,argTypes[0]? with
      | [m],some ty=>aB (und P ty) fun _=>aB (aAv h m) fun h=>K (.tuple #[]) h nx
      | _,_=>False
    | _=>False
  | .call { callee:=.value f,args,.. }=>eO (evE e f) fun f=>eO (aFV e args.toList) fun vs=>yB C f vs h nx K
  | .convert s d x=>eO (evE e x) fun v=>aB (vR P h s d v) fun r=>K r.1 r.2 nx
  | _=>False
abbrev ptO (P:Program) (ro:Ro) (C:aCc) (e:Env) (h:T Obj) (nx aid:Nat) (op:Op) (K:KV):Prop :=
  match hY op with
  | true=>ptL P ro C e h nx op K
  | false=>ptQ P ro e h aid op fun v ob=>K v (aAo h aid ob) nx
def ifP (v:Value) (w:Bool) (h:T Obj) (nx:Nat) (A:KV→Prop) (K:KV):Prop:=match v with
  | .bool b=>match b==w with
    | true=>A K
    | false=>K undef h nx
  | _=>K undef h nx
abbrev Gd:=Option (Value × Bool)
abbrev aG3 (g:Gd) (h:T Obj) (nx:Nat) (A:KV→Prop) (K:KV):Prop:=match g with
  | none=>A K
  | some vw=>ifP vw.1 vw.2 h nx A K
abbrev gdP (ops:Array Oper) (e:Env) (g:Option (Nat × Bool)) (K:Gd→Prop):Prop:=match g with
  | none=>K none
  | some (j,w)=>match (ops[j]?).bind (·.dst) with
    | some d=>K (some (e d,w))
    | none=>False
abbrev aMH (n:Nat) (e:Env) (d:Option Tmp) (v:Value) (K:Env→Prop):Prop:=match d with
  | none=>K e
  | some d=>match Nat.blt d n with
    | true=>K (e.put d v)
    | false=>False
abbrev aNk (P:Program) (ro:Ro) (C:aCc) (n:Nat) (ops:Array Oper):List Oper→Env→T Obj→Nat→(Env→T Obj→Nat→Prop)→Prop
  | [],e,h,nx,Q=>Q e h nx
  | o::l,e,h,nx,Q=>gdP ops e o.guard fun g=>aG3 g h nx (fun K=>ptO P ro C e h (nx+1) nx o.op K) fun v h nx=>aMH n e o.dst v fun e=>aNk P ro C n ops l e h nx Q
def rdE (P:Program) (e:Env):Op→Option Value
  | .load _ x=>evE e x
  | .lookup _ x _ _=>evE e x
  | .convert s _ x=>match und P s with
    | some (.slice _)=>evE e x
    | _=>none
  | .call { callee:=.builtin _,args,argTypes }=>match (argTypes[0]?).bind (und P) with
    | some (.map _ _)=>match aFV e args.toList with
      | some [v]=>some v
      | _=>none
    | _=>none
  | _=>none
def j5 (v:Value) (h h':T Obj):Prop:=match blk v with
  | some b=>same b h h'
  | none=>True
def onP (g:Gd) (X:Prop):Prop:=match g with
  | none=>X
  | some vw=>vw.1=.bool vw.2→X
def aN9:List Nat→Nat→Nat
  | [],_=>0
  | x::_,0=>x
  | _::r,n+1=>aN9 r n
def vU (b:List Nat) (i j:Nat):Bool:=!(aN9 b j).testBit i
abbrev aPI {α:Type} (K:List Nat→α):List Nat→List Nat→α
  | [],o=>K o
  | x::r,o=>aPI K r (x::o)
abbrev aL0 {α:Type} (K:List Nat→α):List Oper→Nat→List Nat→α
  | [],_,acc=>aPI K acc []
  | o::l,j,acc=>CheckFast.force (CheckFast.one (fun i=>if i < j then acc.getD (j - 1 - i) 0 else 0) o) fun v=>aL0 K l (j+1) (v::acc)
def wO (P:Program) (ops:Array Oper) (b:List Nat):Bool :=
  (List.range ops.size).all fun j=>match ops[j]? with
    | none=>false
    | some oj=>(oj.after.toList.all fun e=>!Region.binds .any e || decide (e.on < j))&&(List.range j).all fun i=>match ops[i]? with
      | none=>false
      | some oi=>match vU b i j with
        | false=>true
        | true=>vE P ops oi oj
abbrev aJL (b:List Nat) (i:Nat) (h h':T Obj):List (Nat × Gd × Value)→Prop→Prop
  | [],K=>K
  | q::ls,K=>match vU b q.1 i with
    | true=>onP q.2.1 (j5 q.2.2 h h')∧aJL b i h h' ls K
    | false=>aJL b i h h' ls K
abbrev aJM (b:List Nat) (i:Nat) (v:Value):List (Nat × Gd × T Obj × T Obj)→Prop→Prop
  | [],K=>K
  | q::ms,K=>match vU b q.1 i with
    | true=>onP q.2.1 (j5 v q.2.2.1 q.2.2.2)∧aJM b i v ms K
    | false=>aJM b i v ms K
abbrev ptD (P:Program) (ro:Ro) (C:aCc) (n:Nat) (ops:Array Oper) (b:List Nat) (n0:Nat):List Oper→Nat→List (Nat × Gd × Value)→List (Nat × Gd × T Obj × T Obj)→Env→T Obj→Nat→(Env→T Obj→Nat→Prop)→Prop
  | [],_,_,_,e,h,nx,Q=>Q e h nx
  | o::l,i,ls,ms,e,h,nx,Q=>gdP ops e o.guard fun g=>match hY o.op with
    | true=>aG3 g h nx (fun K=>ptO P ro C e h nx (n0+i) o.op fun v h' nx'=>aJL b i h h' ls (K v h' nx')) fun v h' nx'=>aMH n e o.dst v fun e=>ptD P ro C n ops b n0 l (i+1) ls ((i,g,h,h')::ms) e h' nx' Q
    | false=>match rdE P e o.op with
      | some a=>aG3 g h nx (fun K=>ptO P ro C e h nx (n0+i) o.op fun v h' nx'=>aJM b i a ms (K v h' nx')) fun v h' nx'=>aMH n e o.dst v fun e=>ptD P ro C n ops b n0 l (i+1) ((i,g,a)::ls) ms e h' nx' Q
      | none=>aG3 g h nx (fun K=>ptO P ro C e h nx (n0+i) o.op K) fun v h' nx'=>aMH n e o.dst v fun e=>ptD P ro C n ops b n0 l (i+1) ls ms e h' nx' Q
def exP (x:Ex) (A:Prop) (B:Nat→Prop) (D:Prop):Prop:=match x with
  | .normal=>A
  | .exit i=>B i
  | .ret=>D
def cP (b:Bool) (A B:Prop):Prop:=match b with
  | true=>A
  | false=>B
abbrev exQ (x:Ex) (A:Prop) (B:Nat→Prop) (D:Prop):Prop:=match x with
  | .normal=>A
  | .exit i=>B i
  | .ret=>D
abbrev aRC (b:Bool) (A B:Prop):Prop:=match b with
  | true=>A
  | false=>B
abbrev KE:=Ex→Env→T Obj→Nat→Prop
abbrev PT:=Env→T Obj→Nat→KE→Prop
def aGB (B:PT):Nat→PT
  | 0=>fun _ _ _ _=>False
  | k+1=>fun e h nx Q=>B e h nx fun x e h nx=>exP x (∃ h',Sub h' h∧aGB B k e h' nx Q) (fun i=>Q (.exit i) e h nx) (Q .ret e h nx)
def dO (B:PT):PT:=fun e h nx Q=>∃ k,aGB B k e h nx Q
def aQ (v:Value) (A B:Prop):Prop:=match v with
  | .bool true=>A
  | .bool false=>B
  | _=>False
abbrev pt (P:Program) (ro:Ro) (C:aCc) (n:Nat):Code→PT
  | .skip | .label _=>fun e h nx Q=>Q .normal e h nx
  | .ret=>fun e h nx Q=>Q .ret e h nx
  | .exit id=>fun e h nx Q=>Q (.exit id) e h nx
  | .seq a b=>fun e h nx Q=>pt P ro C n a e h nx fun x e h nx=>exQ x (pt P ro C n b e h nx Q) (fun i=>Q (.exit i) e h nx) (Q .ret e h nx)
  | .cond c a b=>fun e h nx Q=>eO (evE e c) fun v=>aQ v (pt P ro C n a e h nx Q) (pt P ro C n b e h nx Q)
  | .block id b=>fun e h nx Q=>pt P ro C n b e h nx fun x e h nx=>exQ x (Q .normal e h nx) (fun i=>aRC (Nat.beq i id) (Q .normal e h nx) (Q (.exit i) e h nx)) (Q .ret e h nx)
  | .loop b=>dO (pt P ro C n b)
  | .scope b=>pt P ro C n b
  | .region _ ops draw=>fun e h nx Q=>match draw with
    | false=>aNk P ro C n ops ops.toList e h nx (Q .normal)
    | true=>aL0 (fun b=>match wO P ops b with
      | true=>ptD P ro C n ops b nx ops.toList 0 [] [] e h (nx+ops.size) (Q .normal)
      | false=>False) ops.toList 0 []
  | _=>fun _ _ _ _=>False
abbrev aHX (P:Program) (ro:Ro) (e:Env) (h:T Obj):List ResultVar→(List Value→Prop)→Prop
  | [],K=>K []
  | .tmp i::r,K=>aHX P ro e h r fun vs=>K (e i::vs)
  | .cell a ty::r,K=>match isAgg P ty with
    | some true=>eO (siz P ty) fun n=>aB (loadA ro h n (e a)) fun v=>aHX P ro e h r fun vs=>K (v::vs)
    | some false=>aB (load1 ro h (e a)) fun v=>aHX P ro e h r fun vs=>K (v::vs)
    | none=>False
def gK (vs:List Value):Env:=fun i=>(vs[i]?).getD undef
abbrev aQm (P:Program) (ro:Ro) (rs:List ResultVar) (K:KV):KE:=fun x e h nx=>exQ x (aHX P ro e h rs fun vs=>∃ h',Sub h' h∧K (aBq vs) h' nx) (fun _=>False) (aHX P ro e h rs fun vs=>∃ h',Sub h' h∧K (aBq vs) h' nx)
def cV (h:T Obj) (aid:Nat) (o:Obj) (K:T Obj→Prop):Prop:=K (h.upd aid (some o))
def eS (h:T Obj) (aid:Nat) (o:Option Obj) (K:T Obj→Prop):Prop:=K (aAo h aid o)
def puts:Env→List (Nat × Value)→Env
  | e,[]=>e
  | e,p::l=>puts (e.put p.1 p.2) l
def aMa (f:Func):Code:=f.body.getD .skip
def rJ (P:Program) (ro:Ro) (C:aCc) (f:Func) (vs:List Value) (h:T Obj) (nx:Nat) (K:KV):Prop:=pt P ro C f.ntmps (aMa f) (gK vs) h nx (aQm P ro f.results.toList K)
def aN (P:Program) (ro:Ro):aCc:=fun f vs h nx K=>∃ k v h' nx',call P ro k f vs h nx v h' nx'∧K v h' nx'
end V
end Go.Proofs.YtcaccnneblghgaaGreat
noncomputable section
namespace Go.Proofs.YtcaccnneblghgaaGreat
namespace V
theorem aP {α:Type}{o:Option α}{K:α→Prop} (h:aB o K):∃ a,o=some a∧K a:=by
  cases o with
  | none=>exact h.elim
  | some a=>exact⟨a,rfl,h⟩
def gR (t:T Value):Env:=fun i=>(t.get i).getD undef
section
variable {P:Program}{ro:Ro}{t:T Value}{hp:T Obj}
theorem dQ (x:Operand):evl t x=evE (gR t) x:=by cases x<;>rfl
theorem qD:∀ xs:List Operand,xV t xs=aFV (gR t) xs:=by
  intro xs
  induction xs with
  | nil=>rfl
  | cons x xs ih=>simp only[xV,aFV]; rw[dQ,ih]
theorem aEB (x:Option Operand):aIF t x=aMs (gR t) x:=by
  cases x with
  | none=>rfl
  | some x=>simp only[aIF,aMs]; rw[dQ]
theorem aIG:∀ xs:List (Nat × Operand),aGm t xs=aMt (gR t) xs:=by
  intro xs
  induction xs with
  | nil=>rfl
  | cons x xs ih=>simp only[aGm,aMt]; rw[dQ,ih]
theorem aLi (d:Nat) (v:Value):gR (t.upd d (some v))=(gR t).put d v:=by
  funext i
  unfold gR Env.put
  rw[T.get_upd]
  by_cases e:i=d
  · subst e; simp
  · rw[if_neg e]
    cases hb:Nat.beq i d with
    | true=>exact absurd (Nat.eq_of_beq_eq_true hb) e
    | false=>rfl
theorem sN {v:Value}{a:Addr} (h:asP v=some a):v=.pointer (some a):=by
  unfold asP at h
  split at h
  · cases h; rfl
  · cases h
theorem wK {v:Value}{a:Array Value} (h:asAgg v=some a):v=.agg a:=by
  unfold asAgg at h
  split at h
  · cases h; rfl
  · cases h
theorem aMF {aid:Nat}{op:Op}{K:Value→Option Obj→Prop} (h:ptQ P ro (gR t) hp aid op K):∃ v ob,opQ P ro t hp aid op=some (v,ob)∧K v ob:=by
  cases op with
  | move x | assign x =>
    obtain⟨v,h1,h2⟩:=aP h
    exact⟨v,none,by simp only[opQ]; rw[dQ,h1]; rfl,h2⟩
  | pick c a b =>
    obtain⟨c',h1,h⟩:=aP h
    obtain⟨a',h2,h⟩:=aP h
    obtain⟨b',h3,h⟩:=aP h
    obtain⟨v,h4,h⟩:=aP h
    refine⟨v,none,?_,h⟩
    simp only[opQ]; rw[dQ,dQ,dQ,h1,h2,h3]
    unfold bL at h4
    split at h4<;>cases h4<;>rfl
  | alloc ty =>
    obtain⟨z,h1,h⟩:=aP h
    exact⟨_,_,by simp only[opQ]; rw[h1]; rfl,h⟩
  | box ty x =>
    obtain⟨v,h1,h⟩:=aP h
    exact⟨_,_,by simp only[opQ]; rw[dQ,h1]; rfl,h⟩
  | build ty ps =>
    obtain⟨vs,h1,h⟩:=aP h
    obtain⟨v,h2,h⟩:=aP h
    exact⟨_,_,by simp only[opQ]; rw[aIG,h1]; show (fO P ty vs).bind _=_; rw[h2]; rfl,h⟩
  | buildSlice ty n ps =>
    obtain⟨vs,h1,h⟩:=aP h
    obtain⟨r,h2,h⟩:=aP h
    exact⟨r.1,r.2,by simp only[opQ]; rw[aIG,h1]; exact h2,h⟩
  | load ty x =>
    obtain⟨v,h1,h⟩:=aP h
    split at h
    · rename_i hagg
      obtain⟨n,h2,h⟩:=aP h
      obtain⟨u,h3,h⟩:=aP h
      obtain⟨a,h4,h5⟩:=aM h3
      refine⟨u,none,?_,h⟩
      simp only[opQ]; rw[dQ,h1,sN h4]
      show (nY P ro hp ty a).bind _=_
      unfold nY
      rw[hagg]
      show ((siz P ty).bind _).bind _=_
      rw[h2]
      show ((cellsAt ro hp a n).bind _).bind _=_
      rw[h5]; rfl
    · rename_i hagg
      obtain⟨u,h3,h⟩:=aP h
      obtain⟨a,h4,h5⟩:=aM h3
      refine⟨u,none,?_,h⟩
      simp only[opQ]; rw[dQ,h1,sN h4]
      show (nY P ro hp ty a).bind _=_
      have:nY P ro hp ty a=some u:=by unfold nY; rw[hagg]; exact h5
      rw[this]; rfl
    · exact h.elim
  | nilCheck x =>
    obtain⟨v,h1,h⟩:=aP h
    obtain⟨u,h2,h⟩:=aP h
    refine⟨u,none,?_,h⟩
    simp only[opQ]; rw[dQ,h1]
    unfold bK at h2
    split at h2<;>cases h2<;>rfl
  | binOp op ty x y yt =>
    obtain⟨a,h1,h⟩:=aP h
    obtain⟨b,h2,h⟩:=aP h
    have key:∃ v,aDn P op ty a b=some v∧K v none:=by
      split at h
      · obtain⟨v,h3,h⟩:=aP h
        refine⟨v,?_,h⟩
        unfold aO at h3
        split at h3
        · exact h3
        · cases h3
      · obtain⟨v,h3,h⟩:=aP h
        refine⟨v,?_,h⟩
        unfold aFA at h3
        split at h3
        · exact h3
        · cases h3
      · rename_i hu
        obtain⟨v,h3,h⟩:=aP h
        refine⟨v,?_,h⟩
        unfold aFr at h3
        split at h3<;>cases h3<;>simp[aDn,aAX,aDR,hu,aBh]
      · rename_i hu
        obtain⟨v,h3,h⟩:=aP h
        refine⟨v,?_,h⟩
        unfold v8 at h3
        split at h3<;>cases h3<;>simp only[aDn,aAX,aDR,hu,aBh,Option.bind]<;>(try rfl)<;>(cases ‹Option Addr›<;>rfl)
      · rename_i hu
        obtain⟨v,h3,h⟩:=aP h
        refine⟨v,?_,h⟩
        unfold slB at h3
        split at h3<;>cases h3<;>simp only[aDn,aAX,aDR,hu,aBh,Option.bind]<;>(try rfl)<;>(cases ‹Option Addr›<;>rfl)
      · rename_i hu
        obtain⟨ks,h3,h⟩:=aP h
        obtain⟨v,h4,h⟩:=aP h
        refine⟨v,?_,h⟩
        have hagg:isAgg P ty=some true:=by unfold isAgg; rw[hu]
        unfold aFN at h4
        split at h4
        · split at h4
          · simp only[aDn,aAX,aDR,hagg,h3]; exact h4
          · simp only[aDn,aAX,aDR,hagg,h3]; exact h4
          · cases h4
        · cases h4
      · rename_i hu
        obtain⟨ks,h3,h⟩:=aP h
        obtain⟨v,h4,h⟩:=aP h
        refine⟨v,?_,h⟩
        have hagg:isAgg P ty=some true:=by unfold isAgg; rw[hu]
        unfold aFN at h4
        split at h4
        · split at h4
          · simp only[aDn,aAX,aDR,hagg,h3]; exact h4
          · simp only[aDn,aAX,aDR,hagg,h3]; exact h4
          · cases h4
        · cases h4
      · exact h.elim
    obtain⟨v,h3,h⟩:=key
    exact⟨v,none,by simp only[opQ]; rw[dQ,dQ,h1,h2]; show (aDn P op ty a b).bind _=_; rw[h3]; rfl,h⟩
  | unOp op ty x =>
    obtain⟨a,h1,h⟩:=aP h
    obtain⟨v,h2,h⟩:=aP h
    exact⟨v,none,by simp only[opQ]; rw[dQ,h1]; show (unV op a).bind _=_; rw[h2]; rfl,h⟩
  | convert s d x =>
    obtain⟨a,h1,h⟩:=aP h
    have key:∃ r,aCf P ro hp aid s d a=some r∧K r.1 r.2:=by
      split at h
      · rename_i k1 k2 e1 e2
        obtain⟨v,h2,h⟩:=aP h
        refine⟨(v,none),?_,h⟩
        unfold vQ at h2
        split at h2
        · cases h2; simp only[aCf,e1,e2]
        · cases h2
      · exact aP h
    obtain⟨r,h2,h⟩:=key
    exact⟨r.1,r.2,by simp only[opQ]; rw[dQ,h1]; exact h2,h⟩
  | makeFunc fn a b =>
    cases fn with
    | func f =>
      obtain⟨a',h1,h⟩:=aP h
      obtain⟨b',h2,h⟩:=aP h
      exact⟨_,_,by simp only[opQ]; rw[qD,qD,h1,h2]; rfl,h⟩
    | _=>exact h.elim
  | makeMap mt r =>
    cases r with
    | none=>exact⟨_,_,rfl,h⟩
    | some r=>exact h.elim
  | makeSlice ty l c =>
    obtain⟨l',h1,h⟩:=aP h
    obtain⟨c',h2,h⟩:=aP h
    obtain⟨r,h3,h⟩:=aP h
    exact⟨r.1,r.2,by simp only[opQ]; rw[dQ,dQ,h1,h2]; exact h3,h⟩
  | slice ty x lo hi mx =>
    obtain⟨x',h1,h⟩:=aP h
    obtain⟨lo',h2,h⟩:=aP h
    obtain⟨hi',h3,h⟩:=aP h
    obtain⟨mx',h4,h⟩:=aP h
    obtain⟨v,h5,h⟩:=aP h
    exact⟨v,none,by simp only[opQ]; rw[dQ,aEB,aEB,aEB,h1,h2,h3,h4]; show (kZ P ty x' lo' hi' mx').bind _=_; rw[h5]; rfl,h⟩
  | fieldAddr s x f =>
    obtain⟨v,h1,h⟩:=aP h
    obtain⟨fd,h2,h⟩:=aP h
    obtain⟨n,h3,h⟩:=aP h
    split at h
    · exact h.elim
    · obtain⟨u,h4,h⟩:=aP h
      obtain⟨a,h5,h6⟩:=aM h4
      cases h6
      refine⟨_,none,?_,h⟩
      simp only[opQ]; rw[dQ,h1,sN h5]
      show (aIO P s f).bind _=_
      rw[h2]
      show (siz P fd.type).bind _=_
      rw[h3]; rfl
  | field ty x f =>
    obtain⟨v,h1,h⟩:=aP h
    obtain⟨fd,h2,h⟩:=aP h
    have key:∃ cs u,v=.agg cs∧aA3 P fd.type cs fd.offset=some u∧K u none:=by
      split at h
      · rename_i hagg
        obtain⟨n,h3,h⟩:=aP h
        obtain⟨u,h4,h⟩:=aP h
        obtain⟨cs,h5,h6⟩:=aM h4
        refine⟨cs,u,wK h5,?_,h⟩
        unfold aA3; rw[hagg]; show (siz P fd.type).bind _=_; rw[h3]; exact h6
      · rename_i hagg
        obtain⟨u,h4,h⟩:=aP h
        obtain⟨cs,h5,h6⟩:=aM h4
        refine⟨cs,u,wK h5,?_,h⟩
        unfold aA3; rw[hagg]; exact h6
      · exact h.elim
    obtain⟨cs,u,rfl,h3,h⟩:=key
    refine⟨u,none,?_,h⟩
    simp only[opQ]; rw[dQ,h1]
    show (aIO P ty f).bind _=_
    rw[h2]
    show (aA3 P fd.type cs fd.offset).bind _=_
    rw[h3]; rfl
  | indexAddr ty x i =>
    obtain⟨x',h1,h⟩:=aP h
    obtain⟨i',h2,h⟩:=aP h
    have key:∃ v,nV P ty x' i'=some v∧K v none:=by
      split at h
      · rename_i hu
        obtain⟨z,h3,h⟩:=aP h
        obtain⟨v,h4,h⟩:=aP h
        refine⟨v,?_,h⟩
        obtain⟨j,h5,h6⟩:=aM h4
        obtain⟨a,h7,h8⟩:=aM h6
        cases sN h7
        unfold nV
        rw[h5]
        show (match und P ty,Value.pointer (some a) with | _,_=>_)=_
        simp only[hu]; rw[h3]; exact h8
      · rename_i hu
        obtain⟨z,h3,h⟩:=aP h
        obtain⟨v,h4,h⟩:=aP h
        refine⟨v,?_,h⟩
        obtain⟨j,h5,h6⟩:=aM h4
        unfold nV
        rw[h5]
        simp only[Option.bind,hu]
        split at h6
        · simp only[h3]; exact h6
        · cases h6
      · exact h.elim
    obtain⟨v,h3,h⟩:=key
    exact⟨v,none,by simp only[opQ]; rw[dQ,dQ,h1,h2]; show (nV P ty x' i').bind _=_; rw[h3]; rfl,h⟩
  | index ty x i =>
    obtain⟨x',h1,h⟩:=aP h
    obtain⟨i',h2,h⟩:=aP h
    have key:∃ v,yR P ty x' i'=some v∧K v none:=by
      split at h
      · rename_i el hu
        obtain⟨z,h3,h⟩:=aP h
        split at h
        · rename_i hagg
          obtain⟨v,h4,h⟩:=aP h
          refine⟨v,?_,h⟩
          obtain⟨j,h5,h6⟩:=aM h4
          obtain⟨a,h7,h8⟩:=aM h6
          cases wK h7
          unfold yR
          rw[h5]
          simp only[Option.bind,hu,h3]
          split at h8
          · rename_i g1 g2
            rw[g1]; simp only[aA3,hagg]; rw[h3]; simp only[Option.bind]; rw[g2]; exact h8
          · cases h8
        · rename_i hagg
          obtain⟨v,h4,h⟩:=aP h
          refine⟨v,?_,h⟩
          obtain⟨j,h5,h6⟩:=aM h4
          obtain⟨a,h7,h8⟩:=aM h6
          cases wK h7
          unfold yR
          rw[h5]
          simp only[Option.bind,hu,h3]
          split at h8
          · rename_i g1
            rw[g1]; simp only[aA3,hagg]; exact h8
          · cases h8
        · exact h.elim
      · rename_i hu
        obtain⟨v,h4,h⟩:=aP h
        refine⟨v,?_,h⟩
        obtain⟨j,h5,h6⟩:=aM h4
        unfold yR
        rw[h5]
        simp only[Option.bind,hu]
        split at h6
        · exact h6
        · cases h6
      · exact h.elim
    obtain⟨v,h3,h⟩:=key
    exact⟨v,none,by simp only[opQ]; rw[dQ,dQ,h1,h2]; show (yR P ty x' i').bind _=_; rw[h3]; rfl,h⟩
  | lookup ty x k ok =>
    obtain⟨x',h1,h⟩:=aP h
    obtain⟨k',h2,h⟩:=aP h
    obtain⟨v,h3,h⟩:=aP h
    exact⟨v,none,by simp only[opQ]; rw[dQ,dQ,h1,h2]; show (aA1 P hp ty x' k' ok).bind _=_; rw[h3]; rfl,h⟩
  | extract x i =>
    obtain⟨v,h1,h⟩:=aP h
    obtain⟨u,h2,h⟩:=aP h
    refine⟨u,none,?_,h⟩
    simp only[opQ]; rw[dQ,h1]
    unfold nth at h2
    split at h2
    · simp only[Option.bind]; rw[h2]
    · cases h2
  | call c =>
    obtain⟨callee,args,ts⟩:=c
    cases callee with
    | builtin b =>
      obtain⟨vs,h1,h⟩:=aP h
      have key:∃ v,eZ P hp b ts vs=some v∧K v none:=by
        split at h
        · rename_i x ty hty hzz
          have hb:∀ v,aI0 P hp ty x=some v→eZ P hp .len ts [x]=some v:=by
            intro v hv
            unfold eZ
            simp only
            rw[hty]; exact hv
          split at h
          · rename_i hu
            obtain⟨v,h2,h⟩:=aP h
            refine⟨v,hb v ?_,h⟩
            unfold wX at h2
            split at h2
            · cases h2; simp only[aI0,hu]
            · cases h2
          · rename_i hu
            obtain⟨v,h2,h⟩:=aP h
            refine⟨v,hb v ?_,h⟩
            unfold bG at h2
            split at h2
            · cases h2; simp only[aI0,hu]
            · cases h2
          · obtain⟨v,h2,h⟩:=aP h
            exact⟨v,hb v h2,h⟩
        · exact aP h
      obtain⟨v,h2,h⟩:=key
      exact⟨v,none,by simp only[opQ]; rw[qD,h1]; show (eZ P hp b ts vs).bind _=_; rw[h2]; rfl,h⟩
    | _=>exact h.elim
  | _=>exact h.elim
end
end V
end Go.Proofs.YtcaccnneblghgaaGreat
noncomputable section
namespace Go.Proofs.YtcaccnneblghgaaGreat
namespace V
def LeC (C C':kR):Prop:=∀ f args h nx v h' nx',C f args h nx v h' nx'→C' f args h nx v h' nx'
section
variable {P:Program}{ro:Ro}
theorem aQU {C C':kR} (hC:LeC C C') {t:T Value}{h h':T Obj}{nx nx':Nat}{op:Op}{v:Value} (hl:opL P ro C t h nx op v h' nx'):opL P ro C' t h nx op v h' nx':=by
  cases op with
  | call c =>
    obtain⟨callee,args,ts⟩:=c
    cases callee with
    | value f =>
      obtain⟨k,a,b,vs,h1,h2,h3⟩:=hl
      exact⟨k,a,b,vs,h1,h2,hC _ _ _ _ _ _ _ h3⟩
    | builtin b=>exact hl
    | invoke r m=>exact hl
  | _=>exact hl
theorem tB {C C':kR} (hC:LeC C C') {t:T Value}{h h':T Obj}{nx aid nx':Nat}{op:Op}{v:Value} (hl:opR P ro C t h nx aid op v h' nx'):opR P ro C' t h nx aid op v h' nx':=by
  unfold opR at hl ⊢
  cases hq:hY op with
  | true=>rw[hq] at hl; exact aQU hC hl
  | false=>rw[hq] at hl; exact hl
theorem aHL {C C':kR} (hC:LeC C C') {n:Nat}{ops:Array Oper}:∀ (l:List Oper) (s s':St),aAN P ro C n ops l s s'→aAN P ro C' n ops l s s':=by
  intro l
  induction l with
  | nil=>intro s s' h; exact h
  | cons o l ih =>
    intro s s' h
    simp only[aAN] at h ⊢
    cases hw:wanted ops s.t o with
    | true=>rw[hw] at h; obtain⟨v,h',nx',t',h1,h2,h3⟩:=h; exact⟨v,h',nx',t',tB hC h1,h2,ih _ _ h3⟩
    | false=>rw[hw] at h; obtain⟨t',h1,h2⟩:=h; exact⟨t',h1,ih _ _ h2⟩
theorem uH {C C':kR} (hC:LeC C C') {n n0:Nat}{ops:Array Oper}:∀ (l:List Oper) (i:Nat) (ls:List (Nat × Nat)) (ms:List (Nat × T Obj × T Obj)) (s s':St),v7 P ro C n ops n0 l i ls ms s s'→v7 P ro C' n ops n0 l i ls ms s s':=by
  intro l
  induction l with
  | nil=>intro i ls ms s s' h; exact h
  | cons o l ih =>
    intro i ls ms s s' h
    simp only[v7] at h ⊢
    cases hw:wanted ops s.t o with
    | true =>
      rw[hw] at h; obtain⟨v,h',nx',t',h1,h2,h3⟩:=h
      refine⟨v,h',nx',t',tB hC h1,h2,?_⟩
      cases hq:hY o.op with
      | true=>rw[hq] at h3; exact⟨h3.1,ih _ _ _ _ _ h3.2⟩
      | false =>
        rw[hq] at h3
        simp only at h3 ⊢
        cases hla:rdB P s.t o.op with
        | none=>rw[hla] at h3; exact ih _ _ _ _ _ h3
        | some a=>rw[hla] at h3; exact⟨h3.1,ih _ _ _ _ _ h3.2⟩
    | false=>rw[hw] at h; obtain⟨t',h1,h2⟩:=h; exact⟨t',h1,ih _ _ _ _ _ h2⟩
def LeX (X X':x8):Prop:=∀ n c s e s',X n c s e s'→X' n c s e s'
theorem aDq {X X':x8} (hX:LeX X X'):LeC (aDp P ro X) (aDp P ro X'):=by
  rintro f args h nx v h' nx' (⟨fn,body,e,s,vs,h1,h2,h3,h4,h5⟩ | ho)
  · exact .inl ⟨fn,body,e,s,vs,h1,h2,h3,hX _ _ _ _ _ h4,h5⟩
  · exact .inr ho
theorem aMf {X X':x8} (hX:LeX X X'):LeX (aHs P ro X) (aHs P ro X'):=by
  intro n c s e s' h
  cases c with
  | seq a b =>
    rcases h with ⟨s1,h1,h2⟩ | ⟨h1,h2⟩
    · exact .inl ⟨s1,hX _ _ _ _ _ h1,hX _ _ _ _ _ h2⟩
    · exact .inr ⟨h1,hX _ _ _ _ _ h2⟩
  | cond c a b=>obtain⟨v,h1,h2⟩:=h; exact⟨v,h1,hX _ _ _ _ _ h2⟩
  | block id b=>obtain⟨e1,h1,h2⟩:=h; exact⟨e1,hX _ _ _ _ _ h1,h2⟩
  | loop b =>
    rcases h with ⟨s1,hh,h1,h3,h2⟩ | ⟨h1,h2⟩
    · exact .inl ⟨s1,hh,hX _ _ _ _ _ h1,h3,hX _ _ _ _ _ h2⟩
    · exact .inr ⟨h1,hX _ _ _ _ _ h2⟩
  | scope b=>exact hX _ _ _ _ _ h
  | region id ops draw =>
    obtain⟨h1,h2⟩:=h
    refine⟨h1,?_⟩
    cases draw with
    | false=>exact aHL (aDq hX) _ _ _ h2
    | true=>exact⟨h2.1,uH (aDq hX) _ _ _ _ _ _ h2.2⟩
  | _=>exact h
theorem aLa:∀ k,LeX (code P ro k) (code P ro (k+1)):=by
  intro k
  induction k with
  | zero=>intro n c s e s' h; exact h.elim
  | succ k ih=>exact aMf ih
theorem rL {k k':Nat} (h:k≤k'):LeX (code P ro k) (code P ro k'):=by
  induction h with
  | refl=>intro n c s e s' h; exact h
  | step _ ih=>intro n c s e s' h; exact aLa _ _ _ _ _ _ (ih _ _ _ _ _ h)
theorem i4 {k k':Nat} (h:k≤k'):LeC (call P ro k) (call P ro k'):=aDq (rL h)
variable {t:T Value}{h:T Obj}{nx:Nat}
theorem aME {op:Op}{K:KV} (hl:ptL P ro (aN P ro) (gR t) h nx op K):∃ k v h' nx',opL P ro (call P ro k) t h nx op v h' nx'∧K v h' nx':=by
  cases op with
  | store ty a x =>
    obtain⟨a',h1,hl⟩:=aP hl
    obtain⟨x',h2,hl⟩:=aP hl
    obtain⟨n,h3,hl⟩:=aP hl
    obtain⟨h',h4,hl⟩:=aP hl
    obtain⟨ad,h5,h6⟩:=aM h4
    refine⟨0,_,_,_,⟨a',x',by rw[dQ]; exact h1,by rw[dQ]; exact h2,?_,rfl,rfl⟩,hl⟩
    rw[sN h5]
    simp only[zW]
    rw[h3]; exact h6
  | mapUpdate ty m k x | insert ty m k x =>
    obtain⟨m',h1,hl⟩:=aP hl
    obtain⟨k',h2,hl⟩:=aP hl
    obtain⟨x',h3,hl⟩:=aP hl
    obtain⟨h',h4,hl⟩:=aP hl
    exact⟨0,_,_,_,⟨m',k',x',by rw[dQ]; exact h1,by rw[dQ]; exact h2,by rw[dQ]; exact h3,h4,rfl,rfl⟩,hl⟩
  | call c =>
    obtain⟨callee,args,ts⟩:=c
    cases callee with
    | builtin b =>
      obtain⟨vs,h1,hl⟩:=aP hl
      cases b<;>try (exact hl.elim)
      case append =>
        obtain⟨r,h2,hl⟩:=aP hl
        exact⟨0,r.1,r.2.1,r.2.2,⟨vs,by rw[qD]; exact h1,h2⟩,hl⟩
      case clear =>
        simp only at hl
        split at hl
        · rename_i m ty hty
          obtain⟨u,h2,hl⟩:=aP hl
          obtain⟨h',h3,hl⟩:=aP hl
          exact⟨0,_,_,_,⟨_,by rw[qD]; exact h1,_,_,rfl,hty,by rw[h2]; rfl,h3,rfl,rfl⟩,hl⟩
        · exact hl.elim
      case copy =>
        obtain⟨r,h2,hl⟩:=aP hl
        exact⟨0,r.1,r.2.1,r.2.2,⟨vs,by rw[qD]; exact h1,h2⟩,hl⟩
    | value f =>
      obtain⟨fv,h1,hl⟩:=aP hl
      obtain⟨vs,h2,hl⟩:=aP hl
      unfold yB at hl
      split at hl
      · rename_i k a b _
        obtain⟨fu,v,h',nx',h3,h4⟩:=hl
        exact⟨fu,v,h',nx',⟨k,a,b,vs,by rw[dQ]; exact h1,by rw[qD]; exact h2,h3⟩,h4⟩
      · exact hl.elim
    | invoke r m=>exact hl.elim
  | convert sx dx x =>
    obtain⟨x',h1,hl⟩:=aP hl
    obtain⟨r,h2,hl⟩:=aP hl
    exact⟨0,r.1,r.2,nx,⟨x',by rw[dQ]; exact h1,h2,rfl⟩,hl⟩
  | _=>exact hl.elim
theorem aAG {aid:Nat}{op:Op}{K:KV} (hl:ptO P ro (aN P ro) (gR t) h nx aid op K):∃ k v h' nx',opR P ro (call P ro k) t h nx aid op v h' nx'∧K v h' nx':=by
  unfold ptO at hl
  unfold opR
  cases hq:hY op with
  | true=>rw[hq] at hl; exact aME hl
  | false =>
    rw[hq] at hl
    obtain⟨v,ob,h1,h2⟩:=aMF hl
    exact⟨0,v,_,nx,⟨ob,h1,rfl,rfl⟩,h2⟩
def aIQ (g:Gd):Prop:=match g with
  | none=>True
  | some vw=>vw.1=.bool vw.2
theorem aIi {g:Gd}{X:Prop} (h:onP g X) (hg:aIQ g):X:=by
  cases g with
  | none=>exact h
  | some vw=>exact h hg
theorem aFz {ops:Array Oper}{o:Oper}{F:Gd→Prop} (hg:gdP ops (gR t) o.guard F) :
    ∃ g,F g∧(∀ h nx A K,aG3 g h nx A K→(wanted ops t o=true∧A K)∨(wanted ops t o=false∧K undef h nx))∧(wanted ops t o=true→aIQ g):=by
  unfold gdP at hg
  unfold wanted
  cases hgd:o.guard with
  | none=>rw[hgd] at hg; exact⟨none,hg,fun h nx A K hA=>.inl ⟨rfl,hA⟩,fun _=>trivial⟩
  | some jw =>
    obtain⟨j,w⟩:=jw
    rw[hgd] at hg
    simp only at hg ⊢
    cases hd:(ops[j]?).bind (·.dst) with
    | none=>rw[hd] at hg; exact hg.elim
    | some d =>
      rw[hd] at hg
      simp only at hg ⊢
      refine⟨_,hg,?_,?_⟩
      · intro h nx A K hA
        unfold aG3 ifP at hA
        simp only at hA
        split at hA
        · rename_i b hb
          have hb':t.get d=some (.bool b):=by
            unfold gR at hb
            cases ht:t.get d with
            | none=>rw[ht] at hb; cases hb
            | some v=>rw[ht] at hb; exact congrArg some hb
          rw[hb']
          simp only
          cases hbw:b==w with
          | true=>rw[hbw] at hA; exact .inl ⟨rfl,hA⟩
          | false=>rw[hbw] at hA; exact .inr ⟨rfl,hA⟩
        · rename_i hnb
          right
          refine⟨?_,hA⟩
          cases ht:t.get d with
          | none=>rfl
          | some v =>
            cases v with
            | bool b=>exact absurd (show gR t d=.bool b by unfold gR; rw[ht]; rfl) (hnb b)
            | _=>rfl
      · intro hw
        unfold aIQ
        simp only
        split at hw
        · rename_i b hb
          have:b=w:=by simpa using hw
          subst this
          unfold gR; rw[hb]; rfl
        · cases hw
theorem mC {n:Nat}{d:Option Tmp}{v:Value}{K:Env→Prop} (hp:aMH n (gR t) d v K):∃ t',put n t d v=some t'∧K (gR t'):=by
  cases d with
  | none=>exact⟨t,rfl,hp⟩
  | some d =>
    unfold aMH at hp
    simp only at hp
    cases hb:Nat.blt d n with
    | true=>rw[hb] at hp; exact⟨t.upd d (some v),by simp only[put]; rw[hb],by rw[aLi]; exact hp⟩
    | false=>rw[hb] at hp; exact hp.elim
theorem aIr {n:Nat}{ops:Array Oper}:∀ (l:List Oper) (t:T Value) (h:T Obj) (nx:Nat) (Q:Env→T Obj→Nat→Prop),aNk P ro (aN P ro) n ops l (gR t) h nx Q →
    ∃ k s',aAN P ro (call P ro k) n ops l ⟨t,h,nx⟩ s'∧Q (gR s'.t) s'.h s'.nx:=by
  intro l
  induction l with
  | nil=>intro t h nx Q hl; exact⟨0,_,rfl,hl⟩
  | cons o l ih =>
    intro t h nx Q hl
    obtain⟨g,h1,h2,_⟩:=aFz hl
    simp only[aAN]
    rcases h2 _ _ _ _ h1 with ⟨hw,hA⟩ | ⟨hw,hK⟩
    · obtain⟨k1,v,h',nx',h3,h4⟩:=aAG hA
      obtain⟨t',h5,h6⟩:=mC h4
      obtain⟨k2,s',h7,h8⟩:=ih t' h' nx' Q h6
      refine⟨max k1 k2,s',?_,h8⟩
      rw[hw]
      exact⟨v,h',nx',t',tB (i4 (Nat.le_max_left _ _)) h3,h5,aHL (i4 (Nat.le_max_right _ _)) _ _ _ h7⟩
    · obtain⟨t',h5,h6⟩:=mC hK
      obtain⟨k2,s',h7,h8⟩:=ih t' h nx Q h6
      refine⟨k2,s',?_,h8⟩
      rw[hw]
      exact⟨t',h5,h7⟩
theorem aGL:∀ (l:List Nat) (i:Nat),aN9 l i=l.getD i 0
  | [],_=>by simp[aN9]
  | _::_,0=>rfl
  | _::r,n+1=>by simp[aN9,aGL r n]
theorem yN (ops:Array Oper) (i j:Nat):vU (bef ops).toList i j=free (bef ops) i j:=by
  unfold vU free
  rw[aGL]; simp
theorem aDy (ops:Array Oper):wO P ops (bef ops).toList=wN P ops:=by
  unfold wO wN
  simp only[yN]
  rfl
theorem aLO {α:Type} (K:List Nat→α):∀ (l o:List Nat),aPI K l o=K (l.reverse++o)
  | [],o=>rfl
  | x::r,o=>by rw[aPI,aLO K r]; simp
theorem aHi {α:Type} (K:List Nat→α):∀ (l:List Oper) (j:Nat) (acc:List Nat),aL0 K l j acc=K (CheckFast.beforeL l j acc)
  | [],j,acc=>by rw[aL0,aLO,CheckFast.beforeL]; simp
  | o::r,j,acc=>by rw[aL0,CheckFast.force_eq,aHi K r,CheckFast.beforeL,CheckFast.force_eq]
theorem aO1 {α:Type} (K:List Nat→α) (ops:Array Oper):aL0 K ops.toList 0 []=K (bef ops).toList:=by
  rw[aHi]
  have:=CheckFast.beforeF_eq ops
  unfold bef
  rw[← this]
  rfl
theorem aKW {b:List Nat}{i:Nat}{h h':T Obj}{K:Prop}:∀ {lp:List (Nat × Gd × Value)},aJL b i h h' lp K→K∧∀ q∈lp,vU b q.1 i=true→onP q.2.1 (j5 q.2.2 h h'):=by
  intro lp
  induction lp with
  | nil=>intro h; exact⟨h,fun q hq=>by cases hq⟩
  | cons q lp ih =>
    intro hs
    simp only[aJL] at hs
    cases hf:vU b q.1 i with
    | true =>
      rw[hf] at hs
      obtain⟨h1,h2⟩:=ih hs.2
      refine⟨h1,fun x hx hfx=>?_⟩
      rcases List.mem_cons.1 hx with rfl | hx
      · exact hs.1
      · exact h2 x hx hfx
    | false =>
      rw[hf] at hs
      obtain⟨h1,h2⟩:=ih hs
      refine⟨h1,fun x hx hfx=>?_⟩
      rcases List.mem_cons.1 hx with rfl | hx
      · rw[hf] at hfx; cases hfx
      · exact h2 x hx hfx
theorem aKX {b:List Nat}{i:Nat}{v:Value}{K:Prop}:∀ {mp:List (Nat × Gd × T Obj × T Obj)},aJM b i v mp K→K∧∀ q∈mp,vU b q.1 i=true→onP q.2.1 (j5 v q.2.2.1 q.2.2.2):=by
  intro mp
  induction mp with
  | nil=>intro h; exact⟨h,fun q hq=>by cases hq⟩
  | cons q mp ih =>
    intro hs
    simp only[aJM] at hs
    cases hf:vU b q.1 i with
    | true =>
      rw[hf] at hs
      obtain⟨h1,h2⟩:=ih hs.2
      refine⟨h1,fun x hx hfx=>?_⟩
      rcases List.mem_cons.1 hx with rfl | hx
      · exact hs.1
      · exact h2 x hx hfx
    | false =>
      rw[hf] at hs
      obtain⟨h1,h2⟩:=ih hs
      refine⟨h1,fun x hx hfx=>?_⟩
      rcases List.mem_cons.1 hx with rfl | hx
      · rw[hf] at hfx; cases hfx
      · exact h2 x hx hfx
theorem aGS {t:T Value} (op:Op):aA5 P t op=rdE P (gR t) op:=by
  cases op with
  | load ty x=>exact dQ x
  | lookup ty x k ok=>exact dQ x
  | convert sx dx x =>
    simp only[aA5,rdE]; rw[dQ]
    cases und P sx with
    | none=>rfl
    | some d=>cases d<;>rfl
  | call c =>
    obtain⟨callee,args,ts⟩:=c
    cases callee with
    | builtin b =>
      simp only[aA5,rdE]; rw[qD]
      cases (ts[0]?).bind (und P) with
      | none=>rfl
      | some d =>
                  cases d<;>try rfl
                  all_goals (simp only; cases aFV (gR t) args.toList with
                    | none=>rfl
                    | some l=>cases l with
                      | nil=>rfl
                      | cons a r=>cases r<;>rfl)
    | _=>rfl
  | _=>rfl
def RL (ls:List (Nat × Nat)) (lp:List (Nat × Gd × Value)):Prop:=∀ q∈ls,∃ g v,(q.1,g,v)∈lp∧aIQ g∧blk v=some q.2
def RM (ms:List (Nat × T Obj × T Obj)) (mp:List (Nat × Gd × T Obj × T Obj)):Prop:=∀ q∈ms,∃ g,(q.1,g,q.2)∈mp∧aIQ g
theorem RL.more {ls:List (Nat × Nat)}{lp:List (Nat × Gd × Value)} (h:RL ls lp) (x:Nat × Gd × Value):RL ls (x::lp):=fun q hq=>by
  obtain⟨g,v,h1,h2⟩:=h q hq
  exact⟨g,v,List.mem_cons_of_mem _ h1,h2⟩
theorem RM.more {ms:List (Nat × T Obj × T Obj)}{mp:List (Nat × Gd × T Obj × T Obj)} (h:RM ms mp) (x:Nat × Gd × T Obj × T Obj):RM ms (x::mp):=fun q hq=>by
  obtain⟨g,h1,h2⟩:=h q hq
  exact⟨g,List.mem_cons_of_mem _ h1,h2⟩
theorem aMD {n n0:Nat}{ops:Array Oper}:∀ (l:List Oper) (i:Nat) (ls:List (Nat × Nat)) (ms:List (Nat × T Obj × T Obj)) (lp:List (Nat × Gd × Value)) (mp:List (Nat × Gd × T Obj × T Obj)) (t:T Value) (h:T Obj) (nx:Nat) (Q:Env→T Obj→Nat→Prop),
    RL ls lp→RM ms mp→ptD P ro (aN P ro) n ops (bef ops).toList n0 l i lp mp (gR t) h nx Q→∃ k s',v7 P ro (call P ro k) n ops n0 l i ls ms ⟨t,h,nx⟩ s'∧Q (gR s'.t) s'.h s'.nx:=by
  intro l
  induction l with
  | nil=>intro i ls ms lp mp t h nx Q _ _ hl; exact⟨0,_,rfl,hl⟩
  | cons o l ih =>
    intro i ls ms lp mp t h nx Q hrl hrm hl
    obtain⟨g,h1,h2,hgt⟩:=aFz hl
    simp only[v7]
    cases hq:hY o.op with
    | true =>
      rw[hq] at h1
      simp only at h1
      rcases h2 _ _ _ _ h1 with ⟨hw,hA⟩ | ⟨hw,hK⟩
      · obtain⟨k1,v,h',nx',h3,h4⟩:=aAG hA
        obtain⟨h4,hsame⟩:=aKW h4
        obtain⟨t',h5,h6⟩:=mC h4
        obtain⟨k2,s',h7,h8⟩:=ih (i+1) ls ((i,h,h')::ms) lp ((i,g,h,h')::mp) t' h' nx' Q hrl (fun q hq=>by
          rcases List.mem_cons.1 hq with rfl | hq
          · exact⟨g,by simp,hgt hw⟩
          · obtain⟨g',e1,e2⟩:=hrm q hq
            exact⟨g',List.mem_cons_of_mem _ e1,e2⟩) h6
        refine⟨max k1 k2,s',?_,h8⟩
        rw[hw]
        refine⟨v,h',nx',t',tB (i4 (Nat.le_max_left _ _)) h3,h5,?_,uH (i4 (Nat.le_max_right _ _)) _ _ _ _ _ _ h7⟩
        intro q hqm hf
        obtain⟨g',v',e1,e2,e3⟩:=hrl q hqm
        have:=aIi (hsame _ e1 (by rw[yN]; exact hf)) e2
        unfold j5 at this
        simp only[e3] at this
        exact this
      · obtain⟨t',h5,h6⟩:=mC hK
        obtain⟨k2,s',h7,h8⟩:=ih (i+1) ls ms lp ((i,g,h,h)::mp) t' h nx Q hrl (hrm.more _) h6
        refine⟨k2,s',?_,h8⟩
        rw[hw]
        exact⟨t',h5,h7⟩
    | false =>
      rw[hq] at h1
      simp only at h1
      cases hloc:rdE P (gR t) o.op with
      | some a =>
        rw[hloc] at h1
        simp only at h1
        rcases h2 _ _ _ _ h1 with ⟨hw,hA⟩ | ⟨hw,hK⟩
        · obtain⟨k1,v,h',nx',h3,h4⟩:=aAG hA
          obtain⟨h4,hsame⟩:=aKX h4
          obtain⟨t',h5,h6⟩:=mC h4
          cases hla:rdB P t o.op with
          | none =>
            obtain⟨k2,s',h7,h8⟩:=ih (i+1) ls ms ((i,g,a)::lp) mp t' h' nx' Q (hrl.more _) hrm h6
            refine⟨max k1 k2,s',?_,h8⟩
            rw[hw]
            exact⟨v,h',nx',t',tB (i4 (Nat.le_max_left _ _)) h3,h5,uH (i4 (Nat.le_max_right _ _)) _ _ _ _ _ _ h7⟩
          | some ad =>
            have ha:blk a=some ad:=by
              unfold rdB at hla
              rw[aGS,hloc] at hla
              exact hla
            obtain⟨k2,s',h7,h8⟩:=ih (i+1) ((i,ad)::ls) ms ((i,g,a)::lp) mp t' h' nx' Q (fun q hq=>by
              rcases List.mem_cons.1 hq with rfl | hq
              · exact⟨g,a,by simp,hgt hw,ha⟩
              · obtain⟨g',v',e1,e2⟩:=hrl q hq
                exact⟨g',v',List.mem_cons_of_mem _ e1,e2⟩) hrm h6
            refine⟨max k1 k2,s',?_,h8⟩
            rw[hw]
            refine⟨v,h',nx',t',tB (i4 (Nat.le_max_left _ _)) h3,h5,?_,uH (i4 (Nat.le_max_right _ _)) _ _ _ _ _ _ h7⟩
            intro q hqm hf
            obtain⟨g',e1,e2⟩:=hrm q hqm
            have:=aIi (hsame _ e1 (by rw[yN]; exact hf)) e2
            unfold j5 at this
            simp only[ha] at this
            exact this
        · obtain⟨t',h5,h6⟩:=mC hK
          obtain⟨k2,s',h7,h8⟩:=ih (i+1) ls ms ((i,g,a)::lp) mp t' h nx Q (hrl.more _) hrm h6
          refine⟨k2,s',?_,h8⟩
          rw[hw]
          exact⟨t',h5,h7⟩
      | none =>
        rw[hloc] at h1
        simp only at h1
        have hla:rdB P t o.op=none:=by
          unfold rdB
          rw[aGS,hloc]; rfl
        rcases h2 _ _ _ _ h1 with ⟨hw,hA⟩ | ⟨hw,hK⟩
        · obtain⟨k1,v,h',nx',h3,h4⟩:=aAG hA
          obtain⟨t',h5,h6⟩:=mC h4
          obtain⟨k2,s',h7,h8⟩:=ih (i+1) ls ms lp mp t' h' nx' Q hrl hrm h6
          refine⟨max k1 k2,s',?_,h8⟩
          rw[hw,hla]
          exact⟨v,h',nx',t',tB (i4 (Nat.le_max_left _ _)) h3,h5,uH (i4 (Nat.le_max_right _ _)) _ _ _ _ _ _ h7⟩
        · obtain⟨t',h5,h6⟩:=mC hK
          obtain⟨k2,s',h7,h8⟩:=ih (i+1) ls ms lp mp t' h nx Q hrl hrm h6
          refine⟨k2,s',?_,h8⟩
          rw[hw]
          exact⟨t',h5,h7⟩
def aM0 (P:Program) (ro:Ro) (n:Nat) (c:Code) (t:T Value) (h:T Obj) (nx:Nat) (Q:KE):Prop:=∃ k x s',code P ro k n c ⟨t,h,nx⟩ x s'∧Q x (gR s'.t) s'.h s'.nx
theorem aIW {n:Nat}{b:Code} (ihb:∀ (t:T Value) (h:T Obj) (nx:Nat) (Q:KE),pt P ro (aN P ro) n b (gR t) h nx Q→aM0 P ro n b t h nx Q) :
    ∀ (j:Nat) (t:T Value) (h:T Obj) (nx:Nat) (Q:KE),aGB (pt P ro (aN P ro) n b) j (gR t) h nx Q→aM0 P ro n (.loop b) t h nx Q:=by
  intro j
  induction j with
  | zero=>intro t h nx Q hi; exact hi.elim
  | succ j ih =>
    intro t h nx Q hi
    obtain⟨k1,x,s1,h1,h2⟩:=ihb _ _ _ _ hi
    cases x with
    | normal =>
      obtain⟨hh,h3,h4⟩:=h2
      obtain⟨k2,x,s2,h5,h6⟩:=ih s1.t hh s1.nx Q h4
      exact⟨max k1 k2+1,x,s2,.inl ⟨s1,hh,rL (Nat.le_max_left _ _) _ _ _ _ _ h1,h3,rL (Nat.le_max_right _ _) _ _ _ _ _ h5⟩,h6⟩
    | exit id=>exact⟨k1+1,_,s1,.inr ⟨by simp,h1⟩,h2⟩
    | ret=>exact⟨k1+1,_,s1,.inr ⟨by simp,h1⟩,h2⟩
theorem aNl {n:Nat}:∀ (c:Code) (t:T Value) (h:T Obj) (nx:Nat) (Q:KE),pt P ro (aN P ro) n c (gR t) h nx Q→aM0 P ro n c t h nx Q:=by
  intro c
  induction c with
  | skip | label=>intro t h nx Q hp; exact⟨1,.normal,_,⟨rfl,rfl⟩,hp⟩
  | ret=>intro t h nx Q hp; exact⟨1,.ret,_,⟨rfl,rfl⟩,hp⟩
  | exit id=>intro t h nx Q hp; exact⟨1,.exit id,_,⟨rfl,rfl⟩,hp⟩
  | seq a b iha ihb =>
    intro t h nx Q hp
    obtain⟨k1,x,s1,h1,h2⟩:=iha _ _ _ _ hp
    cases x with
    | normal =>
      obtain⟨k2,x,s2,h5,h6⟩:=ihb _ _ _ _ h2
      exact⟨max k1 k2+1,x,s2,.inl ⟨s1,rL (Nat.le_max_left _ _) _ _ _ _ _ h1,rL (Nat.le_max_right _ _) _ _ _ _ _ h5⟩,h6⟩
    | exit id=>exact⟨k1+1,_,s1,.inr ⟨by simp,h1⟩,h2⟩
    | ret=>exact⟨k1+1,_,s1,.inr ⟨by simp,h1⟩,h2⟩
  | cond c a b iha ihb =>
    intro t h nx Q hp
    obtain⟨v,h1,h2⟩:=aP hp
    rw[← dQ] at h1
    unfold aQ at h2
    split at h2
    · obtain⟨k,x,s1,h3,h4⟩:=iha _ _ _ _ h2
      exact⟨k+1,x,s1,⟨true,h1,h3⟩,h4⟩
    · obtain⟨k,x,s1,h3,h4⟩:=ihb _ _ _ _ h2
      exact⟨k+1,x,s1,⟨false,h1,h3⟩,h4⟩
    · exact h2.elim
  | block id b ihb =>
    intro t h nx Q hp
    obtain⟨k,x,s1,h1,h2⟩:=ihb _ _ _ _ hp
    cases x with
    | normal=>exact⟨k+1,_,s1,⟨_,h1,rfl⟩,h2⟩
    | ret=>exact⟨k+1,_,s1,⟨_,h1,rfl⟩,h2⟩
    | exit i =>
      refine⟨k+1,_,s1,⟨_,h1,rfl⟩,?_⟩
      have h2:cP (Nat.beq i id) (Q .normal (gR s1.t) s1.h s1.nx) (Q (.exit i) (gR s1.t) s1.h s1.nx):=h2
      simp only at ⊢
      cases hb:Nat.beq i id with
      | true=>rw[hb] at h2; exact h2
      | false=>rw[hb] at h2; exact h2
  | loop b ihb =>
    rintro t h nx Q ⟨j,hp⟩
    exact aIW ihb j t h nx Q hp
  | scope b ihb =>
    intro t h nx Q hp
    obtain⟨k,x,s1,h1,h2⟩:=ihb _ _ _ _ hp
    exact⟨k+1,x,s1,h1,h2⟩
  | region id ops draw =>
    intro t h nx Q hp
    cases draw with
    | false =>
      obtain⟨k,s',h1,h2⟩:=aIr _ _ _ _ _ hp
      exact⟨k+1,.normal,s',⟨rfl,h1⟩,h2⟩
    | true =>
      simp only[pt] at hp
      rw[aO1,aDy] at hp
      cases hd:wN P ops with
      | false=>rw[hd] at hp; exact hp.elim
      | true =>
        rw[hd] at hp
        obtain⟨k,s',h1,h2⟩:=aMD (P:=P) (ro:=ro) ops.toList 0 [] [] [] [] t h (nx+ops.size) (Q .normal) (fun q hq=>by cases hq) (fun q hq=>by cases hq) hp
        exact⟨k+1,.normal,s',⟨rfl,hd,h1⟩,h2⟩
  | _=>intro t h nx Q hp; exact hp.elim
theorem aKP {t:T Value}{h:T Obj}:∀ (rs:List ResultVar) (K:List Value→Prop),aHX P ro (gR t) h rs K→∃ vs,aCX P ro h t rs=some vs∧K vs:=by
  intro rs
  induction rs with
  | nil=>intro K hr; exact⟨[],rfl,hr⟩
  | cons r rs ih =>
    intro K hr
    cases r with
    | tmp i =>
      obtain⟨vs,h1,h2⟩:=ih _ hr
      exact⟨_,by simp only[aCX]; rw[h1]; rfl,h2⟩
    | cell a ty =>
      have key:∃ ad v,gR t a=.pointer (some ad)∧nY P ro h ty ad=some v∧aHX P ro (gR t) h rs fun vs=>K (v::vs):=by
        simp only[aHX] at hr
        split at hr
        · rename_i hagg
          obtain⟨n,h1,hr⟩:=aP hr
          obtain⟨v,h2,hr⟩:=aP hr
          obtain⟨ad,h3,h4⟩:=aM h2
          exact⟨ad,v,sN h3,by unfold nY; rw[hagg]; show (siz P ty).bind _=_; rw[h1]; exact h4,hr⟩
        · rename_i hagg
          obtain⟨v,h2,hr⟩:=aP hr
          obtain⟨ad,h3,h4⟩:=aM h2
          exact⟨ad,v,sN h3,by unfold nY; rw[hagg]; exact h4,hr⟩
        · exact hr.elim
      obtain⟨ad,v,h1,h2,h3⟩:=key
      obtain⟨vs,h4,h5⟩:=ih _ h3
      refine⟨_,?_,h5⟩
      simp only[aCX]
      have:(t.get a).getD undef=.pointer (some ad):=h1
      rw[this]
      simp only
      rw[h2,h4]; rfl
theorem aID {vs:List Value}:gR (yG vs 0 .e)=gK vs:=by
  funext i
  unfold gR gK
  rw[aEA]
  by_cases hi:i < vs.length
  · rw[if_pos (by omega),Nat.sub_zero]
  · rw[if_neg (by omega),T.get_e,List.getElem?_eq_none (by omega)]
theorem aMc {f:FuncId}{fn:Func}{body:Code}{vs:List Value}{K:KV} (h1:P.funcs[f]?=some fn) (h2:fn.body=some body) (h3:Nat.ble vs.length fn.ntmps=true)
    (hp:pt P ro (aN P ro) fn.ntmps body (gK vs) h nx (aQm P ro fn.results.toList K)):aN P ro f vs h nx K:=by
  rw[← aID] at hp
  obtain⟨k,x,s',h4,h5⟩:=aNl _ _ _ _ _ hp
  have key:(x=.normal∨x=.ret)∧aHX P ro (gR s'.t) s'.h fn.results.toList fun vs=>∃ h',Sub h' s'.h∧K (aBq vs) h' s'.nx:=by
    cases x with
    | exit id=>exact h5.elim
    | normal=>exact⟨.inl rfl,h5⟩
    | ret=>exact⟨.inr rfl,h5⟩
  obtain⟨hx,hr⟩:=key
  obtain⟨ws,h6,h',h7,h8⟩:=aKP _ _ hr
  exact⟨k,aBq ws,h',s'.nx,.inl ⟨fn,body,x,s',ws,h1,h2,Nat.le_of_ble_eq_true h3,h4,hx,h6,rfl,h7,rfl⟩,h8⟩
theorem aL7 {f:FuncId}{v:Value}{K:KV} (ho:Orc P f v) (hK:K v h nx):aN P ro f [] h nx K:=⟨0,v,h,nx,.inr (.inl ⟨rfl,ho,fun _ _ e=>e,rfl⟩),hK⟩
theorem a7 {f:FuncId}{fn:Func}{vs:List Value}{K:KV} (h1:P.funcs[f]?=some fn) (h2:fn.body.isSome=true) (h3:Nat.ble vs.length fn.ntmps=true)
    (hp:rJ P ro (aN P ro) fn vs h nx K):aN P ro f vs h nx K:=by
  cases hb:fn.body with
  | none=>rw[hb] at h2; cases h2
  | some b =>
    refine aMc h1 hb h3 ?_
    unfold rJ aMa at hp
    rw[hb] at hp
    exact hp
end
end V
end Go.Proofs.YtcaccnneblghgaaGreat
noncomputable section
namespace Go.Proofs.YtcaccnneblghgaaGreat
namespace V
open Go.RowKit
def aHE:Addr:=⟨0,0,none⟩
def w7 (N:Nat):Value→Option Value
  | .slice (some a) 0 0=>some (.slice (some aHE) 0 0)
  | .slice (some a) l c=>match a.spot,Nat.blt a.block N with
    | none,true=>some (.slice (some a) l c)
    | _,_=>none
  | .pointer (some a)=>match a.spot,Nat.blt a.block N with
    | none,true=>some (.pointer (some a))
    | _,_=>none
  | v=>match flat v with
    | true=>some v
    | false=>none
theorem aHF {N:Nat}{φ:Phi}{v v':Value} (h:w7 N v=some v'):VR N φ v' v:=by
  unfold w7 at h
  split at h
  · cases h; exact .sliceNo rfl
  · split at h
    · rename_i h1 h2
      cases h; exact .sliceRo h1 (by have:=h2; simp[Nat.blt] at this; omega)
    · cases h
  · split at h
    · rename_i h1 h2
      cases h; exact .ptrRo h1 (by have:=h2; simp[Nat.blt] at this; omega)
    · cases h
  · split at h
    · rename_i hf; cases h; exact .flat hf
    · cases h
def nK (W:World):Ro:=fun a=>match a.spot,Nat.blt a.block W.heap.size with
  | none,true=>(W.cell? a).bind (w7 W.heap.size)
  | _,_=>none
theorem aEs (W:World):Sim (nK W) W.heap.size (fun _=>none) W (T.e:T Obj).get W where
  n:=rfl
  le:=Nat.le_refl _
  old:=fun _ _=>rfl
  dom:=fun k B o r h=>by cases h
  inj:=fun k k' B o r B' o' r' h=>by rw[T.get_e] at h; exact absurd rfl h
  own:=fun k o h=>by rw[T.get_e] at h; cases h
  ro:=fun a v h=>by
    unfold nK at h
    split at h
    · rename_i h1 h2
      obtain⟨v',h3,h4⟩:=aM h
      exact⟨h1,by have:=h2; simp[Nat.blt] at this; omega,v',h3,aHF h4⟩
    · cases h
def kL (N:Nat):List Value→Option (List Value)
  | []=>some []
  | v::l=>(w7 N v).bind fun v=>(kL N l).bind fun l=>some (v::l)
inductive Arg (N:Nat):Value→Value→Prop where
  | one {v v':Value} (h:w7 N v=some v'):Arg N v' v
  | agg {cs:Array Value} {l:List Value} (h:kL N cs.toList=some l):Arg N (.agg l.toArray) (.agg cs)
theorem aBi {N:Nat}{φ:Phi}:∀ {l l':List Value},kL N l=some l'→LR N φ l' l
  | [],l',h=>by cases h; exact .nil
  | v::l,l',h=>by
    obtain⟨v',h1,h⟩:=aM h
    obtain⟨r,h2,h⟩:=aM h
    cases h
    exact .cons (aHF h1) (aBi h2)
theorem Arg.vr {N:Nat}{φ:Phi}{v v':Value} (h:Arg N v v'):VR N φ v v':=by
  cases h with
  | one h=>exact aHF h
  | agg h=>exact .agg (by have:=(aBi (φ:=φ) h).length; simpa using this) fun i x y hx hy=>(aBi h).get i x y (by simpa using hx) (by simpa using hy)
inductive Args (N:Nat):List Value→List Value→Prop where
  | nil:Args N [] []
  | cons {v v':Value} {l l':List Value} (h:Arg N v v') (t:Args N l l'):Args N (v::l) (v'::l')
theorem Args.lr {N:Nat}{φ:Phi}{l l':List Value} (h:Args N l l'):LR N φ l l':=by
  induction h with
  | nil=>exact .nil
  | cons h _ ih=>exact .cons h.vr ih
def aQd (P:Program) (W:World) (f:FuncId) (vs:List Value):Prop:=aN P (nK W) f vs .e 0 fun v _ _=>v=.bool true
theorem aKY {P:Program} (hz:gI P=true) (hn:mO P=true) (hm:P.follows .mixedOrders=true) {W:World}{f:FuncId}{vs:List Value}{args:Array Value}
    (ha:Args W.heap.size vs args.toList) (h:aQd P W f vs):Calls P f args W fun e W'=>e=.returned (.bool true)∧Below W.heap.size W W':=by
  obtain⟨k,v,h',nx',hc,rfl⟩:=h
  have hs:SS (nK W) W.heap.size W (fun _=>none) .e 0 W:=⟨aEs W,fun _ _=>rfl⟩
  refine ((aAt (ro:=nK W) (N:=W.heap.size) (w0:=W) hz hn hm _ _ _ _ _ _ _ hc).2 _ W args hs ha.lr).mono fun e W' ⟨v',φ',he,hst,hv⟩=>?_
  subst he
  refine⟨by rw[hv.of_flat rfl],⟨hst.os,hst.tape,hst.output,hst.size,fun b hb=>hst.frame b hb fun k B o r hk _=>absurd (T.get_e k) hk⟩⟩
section
open Go.ChangeShapes Go.WideShapes Go.ChangeAt
variable {H:Type}{enc:TypeId × Value→H}{P:Program}
theorem aFj {W W':World} (hl:laidOutB P=true) (hb:Below W.heap.size W W'):∀ (ts:List TypeId) (vs:List Value) (ds:List (DataW H)) (ps:List MemPlace),
    (∀ t∈ts,P.readableRec t=true∧t < P.types.size)→(∀ x∈ps,x.block < W.heap.size) →
    DataW.TrodAll enc P W 0 (fun _=>true) true ts vs ds ps→DataW.TrodAll enc P W' 0 (fun b=>decide (b < W.heap.size)) true ts vs ds ps:=by
  intro ts
  induction ts with
  | nil =>
    intro vs ds ps _ _ h
    cases vs with
    | nil=>cases ds with
      | nil=>exact h
      | cons _ _=>exact h.elim
    | cons _ _=>exact h.elim
  | cons t ts ih =>
    intro vs ds ps hr hp h
    cases vs with
    | nil=>exact h.elim
    | cons v vs =>
      cases ds with
      | nil=>exact h.elim
      | cons d ds =>
        obtain⟨p,q,h1,h2,rfl⟩:=h
        exact⟨p,q,Below.trod hl (hr t (by simp)).1 (hr t (by simp)).2 h1 hb (fun x hx=>hp x (by simp[hx])),ih _ _ _ (fun t ht=>hr t (by simp[ht])) (fun x hx=>hp x (by simp[hx])) h2,rfl⟩
theorem aNS {fn:Func}{s:ChangeSpec}{tb:TypeId}{W W':World}{args:Array Value}{ds gs:List (DataW H)}{before:List MemPlace}
    (hl:laidOutB P=true) (hrow0:(fn.params.toList.all fun t=>P.readableRec t&&decide (t < P.types.size))=true) (hres:fn.resultTypes=#[tb]) (htb:P.underlying tb=some .bool) (hvars:s.vars=[])
    (hW:DataW.Whole enc P fn.params.toList s.vars false W args.toList ds gs before) (hb:Below W.heap.size W W')
    (hfn:s.fn H (ds++gs)={ results:=[.lit (.bool true)],args:=ds,vars:=[] }) :
    s.post enc P fn false true false false W args (.bool true) W':=by
  have hrow:∀ t∈fn.params.toList,P.readableRec t=true∧t < P.types.size:=fun t ht=>by
    have:=List.all_eq_true.1 hrow0 t ht
    simpa using this
  have hW':=hW
  obtain⟨p,q,hA,hV,rfl,hfz,hnd⟩:=hW
  refine⟨ds,gs,p++q,[],p,[],hW',?_,?_,?_,hb.frame _,fun h=>by cases h⟩
  · rw[hfn,hres]
    exact trodAll_mk1 (shut_bool htb _)
  · rw[hfn]
    exact aFj hl hb _ _ _ _ hrow (fun x hx=>by have:=hW'.lt x (by simp[hx]); simpa using this) hA
  · rw[hfn,hvars]; exact rfl
end
end V
end Go.Proofs.YtcaccnneblghgaaGreat
noncomputable section
namespace Go.Proofs.YtcaccnneblghgaaGreat
namespace V
theorem bS {α:Type} (a:α) (K:α→Prop):aB (some a) K=K a:=rfl
theorem cG (A B:Prop):aQ (.bool true) A B=A:=rfl
theorem bU (A B:Prop):aQ (.bool false) A B=B:=rfl
theorem gA (h:T Obj) (nx:Nat) (A:KV→Prop) (K:KV):ifP (.bool true) true h nx A K=A K:=rfl
theorem fX (h:T Obj) (nx:Nat) (A:KV→Prop) (K:KV):ifP (.bool false) false h nx A K=A K:=rfl
theorem fZ (h:T Obj) (nx:Nat) (A:KV→Prop) (K:KV):ifP (.bool true) false h nx A K=K undef h nx:=rfl
theorem fY (h:T Obj) (nx:Nat) (A:KV→Prop) (K:KV):ifP (.bool false) true h nx A K=K undef h nx:=rfl
theorem eL (h:T Obj) (i:Nat) (o:Obj) (K:T Obj→Prop):cV h i o K=K (h.upd i (some o)):=rfl
theorem dF (h:T Obj) (i:Nat) (o:Obj) (K:T Obj→Prop):eS h i (some o) K=K (h.upd i (some o)):=rfl
theorem dE (h:T Obj) (i:Nat) (K:T Obj→Prop):eS h i none K=K h:=rfl
theorem cH (A:Prop) (B:Nat→Prop) (D:Prop):exP .normal A B D=A:=rfl
theorem dS (i:Nat) (A:Prop) (B:Nat→Prop) (D:Prop):exP (.exit i) A B D=B i:=rfl
theorem eU (A:Prop) (B:Nat→Prop) (D:Prop):exP .ret A B D=D:=rfl
theorem cZ (A B:Prop):cP true A B=A:=rfl
theorem cD (A B:Prop):cP false A B=B:=rfl
theorem aA {α:Type}{o:Option α}{a:α}{K:α→Prop} (h:o=some a) (k:K a):aB o K:=by rw[h]; exact k
theorem aD {h:T Obj}{i:Nat}{o:Obj}{K:T Obj→Prop} (k:K (h.upd i (some o))):cV h i o K:=k
theorem aE {h:T Obj}{i:Nat}{o:Obj}{K:T Obj→Prop} (k:K (h.upd i (some o))):eS h i (some o) K:=k
theorem aC {h:T Obj}{i:Nat}{K:T Obj→Prop} (k:K h):eS h i none K:=k
theorem aG {A B:Prop} (k:A):aQ (.bool true) A B:=k
theorem aF {A B:Prop} (k:B):aQ (.bool false) A B:=k
theorem iT {b:Bool}{A B:Prop} (h:b=true) (k:A):aQ (.bool b) A B:=by subst h; exact k
theorem iS {b:Bool}{A B:Prop} (h:b=false) (k:B):aQ (.bool b) A B:=by subst h; exact k
theorem aK {h:T Obj}{nx:Nat}{A:KV→Prop}{K:KV} (k:A K):ifP (.bool true) true h nx A K:=k
theorem aH {h:T Obj}{nx:Nat}{A:KV→Prop}{K:KV} (k:A K):ifP (.bool false) false h nx A K:=k
theorem aJ {h:T Obj}{nx:Nat}{A:KV→Prop}{K:KV} (k:K undef h nx):ifP (.bool true) false h nx A K:=k
theorem aI {h:T Obj}{nx:Nat}{A:KV→Prop}{K:KV} (k:K undef h nx):ifP (.bool false) true h nx A K:=k
theorem aL {w:Bool}{h:T Obj}{nx:Nat}{A:KV→Prop}{K:KV} (k:K undef h nx):ifP undef w h nx A K:=k
theorem eM {n:Int} (h1:-9223372036854775808≤n) (h2:n≤9223372036854775807):wr .i64 n=n:=by simp[wr,h1,h2]
theorem i0 {n:Int} (h1:0≤n) (h2:n≤255):wr .u8 n=n:=by simp[wr,h1,h2]
theorem fT {n:Int} (h1:0≤n) (h2:n≤18446744073709551615):wr .u64 n=n:=by simp[wr,h1,h2]
theorem cX (k:IntKind) (a b:Int):aO .add (.int k a) (.int k b)=some (.int k (wr k (a+b))):=by simp[aO,s9]
theorem dV (k:IntKind) (a b:Int):aO .sub (.int k a) (.int k b)=some (.int k (wr k (a - b))):=by simp[aO,s9]
theorem dN (k:IntKind) (a b:Int):aO .mul (.int k a) (.int k b)=some (.int k (wr k (a*b))):=by simp[aO,s9]
theorem dT (k:IntKind) {a b:Int} (ha:0≤a) (hb:0 < b):aO .quo (.int k a) (.int k b)=some (.int k (wr k (a / b))):=by
  have:b≠0:=by omega
  simp[aO,s9,this,Int.tdiv_eq_ediv_of_nonneg ha]
theorem dU (k:IntKind) {a b:Int} (ha:0≤a) (hb:0 < b):aO .rem (.int k a) (.int k b)=some (.int k (a % b)):=by
  have:b≠0:=by omega
  simp[aO,s9,this,Int.tmod_eq_emod_of_nonneg ha]
theorem aT (k:IntKind) (a b:Int):aO .eql (.int k a) (.int k b)=some (.bool (decide (a=b))):=by simp[aO,s9]
theorem aU (k:IntKind) (a b:Int):aO .neq (.int k a) (.int k b)=some (.bool (!decide (a=b))):=by simp[aO,s9]
theorem aY (k:IntKind) (a b:Int):aO .lss (.int k a) (.int k b)=some (.bool (decide (a < b))):=by simp[aO,s9]
theorem aX (k:IntKind) (a b:Int):aO .leq (.int k a) (.int k b)=some (.bool (decide (a≤b))):=by simp[aO,s9]
theorem aW (k:IntKind) (a b:Int):aO .gtr (.int k a) (.int k b)=some (.bool (decide (b < a))):=by simp[aO,s9]
theorem aV (k:IntKind) (a b:Int):aO .geq (.int k a) (.int k b)=some (.bool (decide (b≤a))):=by simp[aO,s9]
theorem aNI (k k':IntKind) {a b:Int} (hb:0≤b):aO .shr (.int k a) (.int k' b)=some (.int k (a.fdiv ((2 ^ (min b.toNat k.bits):Nat):Int))):=by simp[aO,aBJ,hb]
theorem aNH (k k':IntKind) {a b:Int} (hb:0≤b):aO .shl (.int k a) (.int k' b)=some (.int k (wr k (a*((2 ^ (min b.toNat k.bits):Nat):Int)))):=by simp[aO,aBJ,hb]
theorem cI {a b:Int} (ha:0≤a) (hb:0≤b) (ha':a≤18446744073709551615) (hb':b≤18446744073709551615):aO .and (.int .u64 a) (.int .u64 b)=some (.int .u64 (Nat.land a.toNat b.toNat:Nat)):=by simp[aO,s9,aAT,ha,hb,ha',hb']
theorem dD {a b:Int} (ha:0≤a) (hb:0≤b) (ha':a≤18446744073709551615) (hb':b≤18446744073709551615):aO .or (.int .u64 a) (.int .u64 b)=some (.int .u64 (Nat.lor a.toNat b.toNat:Nat)):=by simp[aO,s9,aAT,ha,hb,ha',hb']
theorem cJ {a b:Int} (ha:0≤a) (hb:0≤b) (ha':a≤18446744073709551615) (hb':b≤18446744073709551615):aO .xor (.int .u64 a) (.int .u64 b)=some (.int .u64 (Nat.xor a.toNat b.toNat:Nat)):=by simp[aO,s9,aAT,ha,hb,ha',hb']
theorem dC (k k':IntKind) (n:Int):vQ k (.int k' n)=some (.int k (wr k n)):=rfl
theorem eW (b:Bool):unV .not (.bool b)=some (.bool (!b)):=rfl
theorem dA (a b:Bool):aFr .eql (.bool a) (.bool b)=some (.bool (a==b)):=rfl
theorem dB (a b:Bool):aFr .neq (.bool a) (.bool b)=some (.bool (!(a==b))):=rfl
theorem cK (a b:Value):bL (.bool true) a b=some a:=rfl
theorem bW (a b:Value):bL (.bool false) a b=some b:=rfl
theorem bV (a:Option Addr) (n c:Nat):bG (.slice a n c)=some (.int .i64 n):=rfl
abbrev at_ (id off z:Nat):Value:=.pointer (some ⟨id,off,some z⟩)
theorem fU (id:Nat):ptr id=at_ id 0 0:=rfl
theorem eV (k id off z:Nat):aS k (at_ id off z)=some (at_ id (off+k) z):=rfl
def oK:Option Obj→Option (List Value)
  | some (.cells c _ _)=>some c.toList
  | _=>none
theorem bF (c:Array Value) (e:TypeId) (f:Nat × Nat):oK (some (.cells c e f))=some c.toList:=rfl
theorem aAn {l:List Value}{off:Nat}{v:Value} (h:l[off]?=some v):(l.drop off).take 1=[v]:=by
  have hl:=(List.getElem?_eq_some_iff.1 h).1
  rw[List.drop_eq_getElem_cons hl]
  have:=(List.getElem?_eq_some_iff.1 h).2
  simp[this]
theorem nW (ro:Ro) (h:T Obj) (id off z n:Nat):cellsAt ro h ⟨id,off,some z⟩ n=(oK (h.get id)).bind fun c=>if off+n≤c.length then some ((c.drop off).take n) else none:=by
  unfold cellsAt oK
  simp only
  cases h.get id with
  | none=>rfl
  | some o =>
    cases o<;>try rfl
    rename_i c e f
    simp only[Option.bind,Array.length_toList]
    by_cases hle:off+n≤c.size
    · rw[if_pos hle,Nat.ble_eq_true_of_le hle]
    · rw[if_neg hle]
      cases hb:Nat.ble (off+n) c.size with
      | true=>exact absurd (Nat.le_of_ble_eq_true hb) hle
      | false=>rfl
theorem cQ (ro:Ro) (h:T Obj) (id off z:Nat):load1 ro h (at_ id off z)=(oK (h.get id)).bind fun c=>c[off]?:=by
  unfold load1
  simp only[asP,Option.bind,nW]
  cases hc:oK (h.get id) with
  | none=>rfl
  | some c =>
    simp only
    by_cases hle:off+1≤c.length
    · rw[if_pos hle]
      have hg:c[off]?=some c[off]:=List.getElem?_eq_getElem (by omega)
      rw[aAn hg,hg]
    · rw[if_neg hle,List.getElem?_eq_none (by omega)]
theorem cC (ro:Ro) (h:T Obj) (n id off z:Nat):loadA ro h n (at_ id off z)=(oK (h.get id)).bind fun c=>if off+n≤c.length then some (.agg ((c.drop off).take n).toArray) else none:=by
  unfold loadA
  simp only[asP,Option.bind,nW]
  cases oK (h.get id) with
  | none=>rfl
  | some c=>by_cases hle:off+n≤c.length<;>simp[hle]
theorem dW (n z id off y:Nat) (k:IntKind) {i:Int} (h0:0≤i) (h1:i < n):ixArr n z (at_ id off y) (.int k i)=some (at_ id (off+i.toNat*z) y):=by
  have hn:mP (.int k i)=some i.toNat:=by simp[mP,h0]
  have:Nat.blt i.toNat n=true:=by simp[Nat.blt]; omega
  simp[ixArr,hn,asP,this,fwd]
theorem Value.cells_agg (cs:Array Value):Value.cells (.agg cs)=cs:=rfl
theorem cT (k:IntKind) (n:Int):Value.cells (.int k n)=#[.int k n]:=rfl
theorem cF (b:Bool):Value.cells (.bool b)=#[.bool b]:=rfl
theorem aGw (k k':IntKind) (a:Nat) {b:Int} (hb:0≤b) (hk:b≤k.bits):aO .shr (.int k (a:Int)) (.int k' b)=some (.int k ((a / 2 ^ b.toNat:Nat):Int)):=by
  rw[aNI _ _ hb]
  have:min b.toNat k.bits=b.toNat:=Nat.min_eq_left (by omega)
  rw[this,Int.ofNat_fdiv]
theorem bN (k':IntKind) (a:Nat) {b:Int} (hb:0≤b) (hk:b≤64):aO .shr (.int .u64 (a:Int)) (.int k' b)=some (.int .u64 ((a / 2 ^ b.toNat:Nat):Int)):=aGw _ _ a hb hk
theorem aGv (k':IntKind) (a:Nat) {b:Int} (hb:0≤b) (hk:b≤64):aO .shl (.int .u64 (a:Int)) (.int k' b)=some (.int .u64 (wr .u64 ((a*2 ^ b.toNat:Nat):Int))):=by
  rw[aNH _ _ hb]
  have:min b.toNat IntKind.u64.bits=b.toNat:=Nat.min_eq_left (by have:IntKind.u64.bits=64:=rfl; omega)
  rw[this]; simp
theorem bJ (k':IntKind) {b:Int} (hb:0≤b) (hk:b < 64):aO .shl (.int .u64 1) (.int k' b)=some (.int .u64 ((2 ^ b.toNat:Nat):Int)):=by
  have h:=aGv k' 1 hb (by omega)
  have h2:2 ^ b.toNat < 2 ^ 64:=Nat.pow_lt_pow_right (by decide) (by omega)
  have h3:(((1*2 ^ b.toNat:Nat)):Int)≤18446744073709551615:=by omega
  rw[fT (by omega) h3,Nat.one_mul] at h
  exact h
def Fr (h:T Obj) (nx:Nat):Prop:=∀ i,nx≤i→h.get i=none
theorem Fr.e:Fr .e 0:=fun _ _=>rfl
theorem Fr.mono {h:T Obj}{n m:Nat} (hf:Fr h n) (hn:n≤m):Fr h m:=fun i hi=>hf i (Nat.le_trans hn hi)
theorem Fr.upd {h:T Obj}{n m i:Nat}{o:Option Obj} (hf:Fr h n) (hn:n≤m) (hi:i < m):Fr (h.upd i o) m:=fun j hj=>by
  rw[T.get_upd_ne _ _ (by omega)]; exact hf j (by omega)
theorem Fr.sub {h h':T Obj}{n:Nat} (hf:Fr h n) (hs:Sub h' h):Fr h' n:=fun i hi=>by
  cases e:h'.get i with
  | none=>rfl
  | some o=>have:=hs i o e; rw[hf i hi] at this; cases this
theorem Sub.refl (h:T Obj):Sub h h:=fun _ _ e=>e
theorem Sub.trans {a b c:T Obj} (h1:Sub a b) (h2:Sub b c):Sub a c:=fun k o e=>h2 k o (h1 k o e)
theorem Sub.upd {h0 h:T Obj}{i:Nat}{o:Option Obj} (hs:Sub h0 h) (hi:h0.get i=none):Sub h0 (h.upd i o):=fun k x e=>by
  by_cases hk:k=i
  · subst hk; rw[hi] at e; cases e
  · rw[T.get_upd_ne _ _ hk]; exact hs k x e
theorem Sub.new {h0 h:T Obj}{n i:Nat}{o:Option Obj} (hf:Fr h0 n) (hi:n≤i) (hs:Sub h0 h):Sub h0 (h.upd i o):=hs.upd (hf i hi)
theorem bA {B:PT}{Q:KE} (Inv:Nat→Env→T Obj→Nat→Prop)
    (step:∀ n e h nx,Inv n e h nx→∀ Q':KE,(∀ m e' h' h1 nx',m < n→Inv m e' h' nx'→Sub h' h1→Q' .normal e' h1 nx')→(∀ x e' h' nx',x≠.normal→Q x e' h' nx'→Q' x e' h' nx')→B e h nx Q')
    {n:Nat} {e:Env} {h:T Obj} {nx:Nat} (h0:Inv n e h nx):dO B e h nx Q:=by
  refine⟨n+1,?_⟩
  have key:∀ n,(∀ m,m < n→∀ k,m+1≤k→∀ e h nx,Inv m e h nx→aGB B k e h nx Q)→∀ k,n+1≤k→∀ e h nx,Inv n e h nx→aGB B k e h nx Q:=by
    intro n ih k hk e h nx hi
    cases k with
    | zero=>omega
    | succ k =>
      refine step n e h nx hi _ ?_ ?_
      · intro m e' h' h1 nx' hm hi' hs
        exact⟨h',hs,ih m hm k (by omega) _ _ _ hi'⟩
      · intro x e' h' nx' hx hq
        cases x with
        | normal=>exact absurd rfl hx
        | exit i=>exact hq
        | ret=>exact hq
  have all:∀ n,∀ k,n+1≤k→∀ e h nx,Inv n e h nx→aGB B k e h nx Q:=by
    intro n
    induction n using Nat.strongRecOn with
    | _ n ih=>exact key n ih
  exact all n _ (Nat.le_refl _) _ _ _ h0
def aGQ (o:Option Obj) (off:Nat) (vs:List Value):Option Obj:=match o with
  | some (.cells c e f)=>if off+vs.length≤c.size then (if vs.all cU=true then some (.cells (over c.toList off vs).toArray e f) else none) else none
  | _=>none
theorem bR {c:Array Value}{e:TypeId}{f:Nat × Nat}{off:Nat}{vs:List Value} (h1:off+vs.length≤c.size) (h2:vs.all cU=true):aGQ (some (.cells c e f)) off vs=some (.cells (over c.toList off vs).toArray e f):=by
  simp[aGQ,h1,h2]
theorem bZ (n:Nat) (h:T Obj) (id off z:Nat) (v:Value):bY n h (at_ id off z) v=if v.cells.size=n then (aGQ (h.get id) off v.cells.toList).bind (fun o=>some (h.upd id (some o))) else none:=by
  unfold bY aGQ
  simp only[asP,Option.bind]
  by_cases hn:v.cells.size=n
  · rw[if_pos hn,hn,Nat.beq_refl]
    simp only[jU]
    cases h.get id with
    | none=>rfl
    | some o =>
      cases o<;>try rfl
      rename_i c e f
      simp only[Array.length_toList]
      by_cases hle:off+v.cells.size≤c.size
      · rw[if_pos hle,Nat.ble_eq_true_of_le hle]
        cases v.cells.toList.all cU<;>rfl
      · rw[if_neg hle]
        cases hb:Nat.ble (off+v.cells.size) c.size with
        | true=>exact absurd (Nat.le_of_ble_eq_true hb) hle
        | false=>rfl
  · rw[if_neg hn]
    cases hb:Nat.beq v.cells.size n with
    | true=>exact absurd (Nat.eq_of_beq_eq_true hb) hn
    | false=>rfl
theorem aE6 {l:List Value}{off:Nat} (v:Value) (h:off < l.length):over l off [v]=l.set off v:=by
  unfold over
  rw[List.set_eq_take_append_cons_drop,if_pos h]
  simp
theorem aIn {l vs:List Value} (h:vs.length=l.length):over l 0 vs=vs:=by
  unfold over
  rw[List.drop_eq_nil_of_le (by omega)]; simp
theorem tl (l:List Value):l.toArray.toList=l:=rfl
theorem ts (l:List Value):l.toArray.size=l.length:=rfl
theorem dM {h:T Obj}{id off z:Nat}{v:Value}{l:List Value}{e:TypeId}{f:Nat × Nat} (hg:h.get id=some (.cells l.toArray e f)) (hi:off < l.length) (hv:cU v=true) (hc:v.cells=#[v]) :
    bY 1 h (at_ id off z) v=some (h.upd id (some (.cells (l.set off v).toArray e f))):=by
  rw[bZ,hc,hg,if_pos (show #[v].size=1 from rfl),bR (by simp; omega) (by simp[hv])]
  simp[aE6 v hi]
theorem mJ {h:T Obj}{id z n:Nat}{v:Value}{l vs:List Value}{e:TypeId}{f:Nat × Nat} (hg:h.get id=some (.cells l.toArray e f)) (hc:v.cells=vs.toArray) (hn:vs.length=n) (hl:l.length=n) (hv:vs.all cU=true) :
    bY n h (at_ id 0 z) v=some (h.upd id (some (.cells vs.toArray e f))):=by
  rw[bZ,hc,hg,if_pos (by simpa using hn),bR (by simp; omega) (by simpa using hv)]
  simp[aIn (l:=l) (vs:=vs) (by omega)]
theorem dL {ro:Ro}{h:T Obj}{id z n:Nat}{l:List Value}{e:TypeId}{f:Nat × Nat} (hg:h.get id=some (.cells l.toArray e f)) (hl:l.length=n):loadA ro h n (at_ id 0 z)=some (.agg l.toArray):=by
  rw[cC,hg]
  subst hl
  simp[oK]
theorem aZ {ro:Ro}{h:T Obj}{id off z:Nat}{l:List Value}{e:TypeId}{f:Nat × Nat}{v:Value} (hg:h.get id=some (.cells l.toArray e f)) (hv:l[off]?=some v):load1 ro h (at_ id off z)=some v:=by
  rw[cQ,hg]; exact hv
end V
end Go.Proofs.YtcaccnneblghgaaGreat
noncomputable section
namespace Go.Proofs.YtcaccnneblghgaaGreat
namespace V
section
variable {α:Type}
def fcN (n:Nat) (k:Nat→α):α:=match n with
  | 0=>k 0
  | m+1=>k (Nat.succ m)
theorem nS (n:Nat) (k:Nat→α):fcN n k=k n:=by cases n<;>rfl
def fcI (n:Int) (k:Int→α):α:=match n with
  | .ofNat m=>fcN m fun m=>k (.ofNat m)
  | .negSucc m=>fcN m fun m=>k (.negSucc m)
theorem aPr (n:Int) (k:Int→α):fcI n k=k n:=by cases n<;>simp[fcI,nS]
def fcA (a:Option Addr) (k:Option Addr→α):α:=match a with
  | none=>k none
  | some a=>fcN a.block fun b=>fcN a.off fun o=>match a.spot with
    | none=>k (some ⟨b,o,none⟩)
    | some z=>fcN z fun z=>k (some ⟨b,o,some z⟩)
theorem aMu (a:Option Addr) (k:Option Addr→α):fcA a k=k a:=by
  cases a with
  | none=>rfl
  | some a=>obtain⟨b,o,s⟩:=a; cases s<;>simp[fcA,nS]
def fcB:List UInt8→(List UInt8→α)→α
  | [],k=>k []
  | b::r,k=>fcN b.toNat fun n=>fcB r fun r=>k (UInt8.ofNat n::r)
theorem aMv:∀ (l:List UInt8) (k:List UInt8→α),fcB l k=k l
  | [],k=>rfl
  | b::r,k=>by rw[fcB,nS,aMv r]; simp
def fcC (v:Value) (k:Value→α):α:=match v with
  | .bool b=>match b with
    | true=>k (.bool true)
    | false=>k (.bool false)
  | .int kd n=>fcI n fun n=>k (.int kd n)
  | .string s=>fcB s.data.toList fun l=>k (.string ⟨⟨l⟩⟩)
  | .pointer a=>fcA a fun a=>k (.pointer a)
  | .slice a l c=>fcA a fun a=>fcN l fun l=>fcN c fun c=>k (.slice a l c)
  | .map r=>match r with
    | none=>k (.map none)
    | some r=>fcN r fun r=>k (.map (some r))
  | v=>k v
theorem aMw (v:Value) (k:Value→α):fcC v k=k v:=by
  cases v with
  | bool b=>cases b<;>rfl
  | int kd n=>simp[fcC,aPr]
  | string s=>simp[fcC,aMv]
  | pointer a=>simp[fcC,aMu]
  | slice a l c=>simp[fcC,aMu,nS]
  | map r=>cases r<;>simp[fcC,nS]
  | _=>rfl
def fcL:List Value→(List Value→α)→α
  | [],k=>k []
  | v::r,k=>fcC v fun v=>fcL r fun r=>k (v::r)
theorem aMy:∀ (l:List Value) (k:List Value→α),fcL l k=k l
  | [],k=>rfl
  | v::r,k=>by rw[fcL,aMw,aMy r]
def fcS:List Value→(List Value→α)→α
  | [],k=>k []
  | v::r,k=>fcS r fun r=>k (v::r)
theorem aGp:∀ (l:List Value) (k:List Value→α),fcS l k=k l
  | [],k=>rfl
  | v::r,k=>by rw[fcS,aGp r]
def aJp (v:Value) (k:Value→α):α:=match v with
  | .agg cs=>fcS cs.toList fun l=>k (.agg ⟨l⟩)
  | v=>fcC v k
theorem aD7 (v:Value) (k:Value→α):aJp v k=k v:=by
  cases v with
  | agg cs=>simp[aJp,aGp]
  | _=>simp only[aJp,aMw]
def aOb:List Value→(List Value→α)→α
  | [],k=>k []
  | v::r,k=>aJp v fun v=>aOb r fun r=>k (v::r)
theorem aKy:∀ (l:List Value) (k:List Value→α),aOb l k=k l
  | [],k=>rfl
  | v::r,k=>by rw[aOb,aD7,aKy r]
def fcV (v:Value) (k:Value→α):α:=match v with
  | .tuple cs=>aOb cs.toList fun l=>k (.tuple ⟨l⟩)
  | v=>aJp v k
theorem aGq (v:Value) (k:Value→α):fcV v k=k v:=by
  cases v with
  | tuple cs=>simp[fcV,aKy]
  | _=>simp only[fcV,aD7]
def fcE:List MapEntry→(List MapEntry→α)→α
  | [],k=>k []
  | e::r,k=>aJp e.key fun a=>aJp e.val fun b=>fcN e.born fun n=>fcE r fun r=>k (⟨a,b,n⟩::r)
theorem aMx:∀ (l:List MapEntry) (k:List MapEntry→α),fcE l k=k l
  | [],k=>rfl
  | v::r,k=>by rw[fcE,aD7,aD7,nS,aMx r]
def fcO (o:Obj) (k:Obj→α):α:=match o with
  | .cells c e f=>fcS c.toList fun l=>k (.cells ⟨l⟩ e f)
  | .map es n=>fcE es.toList fun l=>fcN n fun n=>k (.map ⟨l⟩ n)
  | o=>k o
theorem aPs (o:Obj) (k:Obj→α):fcO o k=k o:=by
  cases o with
  | cells c e f=>simp[fcO,aGp]
  | map es n=>simp[fcO,aMx,nS]
  | _=>rfl
def aOu {β:Type} (o:Option β) (f:Nat):Nat→(T β→α)→α:=Nat.rec (motive:=fun _=>Nat→(T β→α)→α) (fun _ K=>K .e)
  (fun _ ih k K=>Nat.rec (motive:=fun _=>α) (K (.n .e o .e)) (fun k' _=>Bool.rec (motive:=fun _=>α) (ih (Nat.div k' 2) fun r=>K (.n .e none r)) (ih (Nat.div k' 2) fun l=>K (.n l none .e)) (Nat.beq (Nat.mod k' 2) 0)) k) f
theorem aOv {β:Type} (o:Option β):∀ (f g k:Nat) (K:T β→α),k < f→k < g→aOu o f k K=K (T.updF o g .e k):=by
  intro f
  induction f with
  | zero=>intro g k K h; omega
  | succ f ih =>
    intro g k K h1 h2
    cases g with
    | zero=>omega
    | succ g =>
      cases k with
      | zero=>rfl
      | succ k =>
        show Bool.rec (motive:=fun _=>α) (aOu o f (k / 2) fun r=>K (.n .e none r)) (aOu o f (k / 2) fun l=>K (.n l none .e)) (Nat.beq (k % 2) 0)=_
        simp only[T.updF]
        rw[ih g _ _ (by omega) (by omega),ih g _ _ (by omega) (by omega)]
        cases Nat.beq (k % 2) 0<;>rfl
def aP3 {β:Type} (o:Option β) (t:T β):Nat→(T β→α)→α:=T.rec (motive:=fun _=>Nat→(T β→α)→α) (fun k K=>aOu o (Nat.succ k) k K)
  (fun l v r gl gr k K=>Nat.rec (motive:=fun _=>α) (K (.n l o r)) (fun k' _=>Bool.rec (motive:=fun _=>α) (gr (Nat.div k' 2) fun r=>K (.n l v r)) (gl (Nat.div k' 2) fun l=>K (.n l v r)) (Nat.beq (Nat.mod k' 2) 0)) k) t
theorem aP4 {β:Type} (o:Option β) (t:T β):∀ (g k:Nat) (K:T β→α),k < g→aP3 o t k K=K (T.updF o g t k):=by
  induction t with
  | e=>intro g k K h; exact aOv o _ g k K (Nat.lt_succ_self _) h
  | n l v r ihl ihr =>
    intro g k K h
    cases g with
    | zero=>omega
    | succ g =>
      cases k with
      | zero=>rfl
      | succ k =>
        show Bool.rec (motive:=fun _=>α) (aP3 o r (k / 2) fun r=>K (.n l v r)) (aP3 o l (k / 2) fun l=>K (.n l v r)) (Nat.beq (k % 2) 0)=_
        simp only[T.updF]
        rw[ihl g _ _ (by omega),ihr g _ _ (by omega)]
        cases Nat.beq (k % 2) 0<;>rfl
def upK {β:Type} (t:T β) (k:Nat) (o:Option β) (K:T β→α):α:=aP3 o t k K
theorem aC9 {β:Type} (t:T β) (k:Nat) (o:Option β) (K:T β→α):upK t k o K=K (t.upd k o):=aP4 o t _ k K (Nat.lt_succ_self _)
end
def bB {α:Type} (o:Option α) (K:α→Bool):Bool:=match o with
  | some a=>K a
  | none=>false
theorem fR {α:Type}{o:Option α}{K:α→Bool} (h:bB o K=true):∃ a,o=some a∧K a=true:=by
  cases o with
  | none=>cases h
  | some a=>exact⟨a,rfl,h⟩
abbrev KB:=Value→T Obj→Nat→Bool
abbrev rD:=FuncId→List Value→T Obj→Nat→KB→Bool
def aJx (less:Bool):Value→List Value→Option Value
  | .int k x,[]=>some (.int k x)
  | .int k x,.int k' y::r=>aJx less (.int k (match less,decide (y < x),decide (x < y) with
    | true,true,_=>y
    | true,false,_=>x
    | false,_,true=>y
    | false,_,false=>x)) r
  | _,_=>none
termination_by structural _ l=>l
theorem aLH (less:Bool):∀ (l:List Value) (v:Value),wZ less (v::l)=aJx less v l:=by
  intro l
  induction l with
  | nil=>intro v; cases v<;>simp[wZ,aJx]
  | cons y r ih =>
    intro v
    cases v<;>cases y<;>(conv=>lhs; unfold wZ)<;>simp only[aJx,ih]
    rename_i k1 n1 k2 n2
    cases less<;>cases decide (n2 < n1)<;>cases decide (n1 < n2)<;>rfl
def aN5 (less:Bool):List Value→Option Value
  | []=>none
  | v::l=>aJx less v l
theorem aHC (less:Bool) (l:List Value):wZ less l=aN5 less l:=by
  cases l with
  | nil=>simp[wZ,aN5]
  | cons v l=>exact aLH less l v
def aOx (P:Program) (ro:Ro) (t:T Value) (h:T Obj) (aid:Nat) (op:Op):Option (Value × Option Obj):=match op with
  | .call { callee:=.builtin .min,args,.. }=>(xV t args.toList).bind fun vs=>(aN5 true vs).bind fun v=>some (v,none)
  | .call { callee:=.builtin .max,args,.. }=>(xV t args.toList).bind fun vs=>(aN5 false vs).bind fun v=>some (v,none)
  | op=>opQ P ro t h aid op
theorem aOy (P:Program) (ro:Ro) (t:T Value) (h:T Obj) (aid:Nat) (op:Op):aOx P ro t h aid op=opQ P ro t h aid op:=by
  unfold aOx
  split
  · simp only[opQ,eZ,aHC]
  · simp only[opQ,eZ,aHC]
  · rfl
def aF3:List Value→Nat→List Value→(List Value→Bool)→Bool
  | l,0,[],k=>k l
  | _::r,0,v::vs,k=>aF3 r 0 vs fun r=>k (v::r)
  | [],0,_::_,_=>false
  | x::r,n+1,vs,k=>fcN n fun n=>aF3 r n vs fun r=>k (x::r)
  | [],_+1,_,_=>false
theorem aHP:∀ (l:List Value) (n:Nat) (vs:List Value) (k:List Value→Bool),aF3 l n vs k=if n+vs.length≤l.length then k (over l n vs) else false
  | [],0,[],k=>by simp[aF3,over]
  | x::r,0,[],k=>by simp[aF3,over]
  | x::r,0,v::vs,k=>by
    rw[aF3,aHP r 0 vs]
    simp[over]
  | [],0,_::_,k=>by simp[aF3]
  | x::r,n+1,vs,k=>by
    rw[aF3,nS,aHP r n vs]
    have e:n+1+vs.length≤(x::r).length ↔ n+vs.length≤r.length:=by simp; omega
    by_cases h:n+vs.length≤r.length
    · rw[if_pos h,if_pos (e.2 h)]
      have:n+1+vs.length=(n+vs.length)+1:=by omega
      simp[over,this]
    · rw[if_neg h,if_neg (fun h2=>h (e.1 h2))]
  | [],n+1,vs,k=>by simp[aF3]
def aBy (h:T Obj) (a:Addr) (vs:List Value) (K:T Obj→Bool):Bool :=
  match a.spot with
  | none=>false
  | some _=>match h.get a.block with
    | some (.cells c e f)=>match vs.all cU with
      | true=>aF3 c.toList a.off vs fun l=>upK h a.block (some (.cells ⟨l⟩ e f)) K
      | false=>false
    | _=>false
theorem aDL {h:T Obj}{a:Addr}{vs:List Value}{K:T Obj→Bool}:aBy h a vs K=bB (jU h a vs) K:=by
  unfold aBy jU
  cases a.spot with
  | none=>rfl
  | some z =>
    cases h.get a.block with
    | none=>rfl
    | some o =>
      cases o<;>try rfl
      simp only[aHP,aC9,Array.length_toList]
      rename_i c e f
      by_cases hb:a.off+vs.length≤c.size
      · rw[if_pos hb,Nat.ble_eq_true_of_le hb]
        cases vs.all cU<;>rfl
      · rw[if_neg hb]
        have:Nat.ble (a.off+vs.length) c.size=false:=by
          cases hq:Nat.ble (a.off+vs.length) c.size with
          | false=>rfl
          | true=>exact absurd (Nat.le_of_ble_eq_true hq) hb
        rw[this]
        cases vs.all cU<;>rfl
def aOw:List Value→Nat→(Value→Bool)→Bool
  | x::_,0,k=>k x
  | _::r,n+1,k=>aOw r n k
  | [],_,_=>false
theorem aLI:∀ (l:List Value) (n:Nat) (k:Value→Bool),aOw l n k=bB l[n]? k
  | x::_,0,k=>rfl
  | _::r,n+1,k=>by rw[aOw,aLI r n]; rfl
  | [],n,k=>by cases n<;>rfl
def aQt (l:List Value):Nat→(Value→Bool)→Bool:=List.rec (motive:=fun _=>Nat→(Value→Bool)→Bool) (fun _ _=>false) (fun x _ ih n k=>Nat.rec (motive:=fun _=>Bool) (k x) (fun m _=>ih m k) n) l
theorem aLJ:∀ (l:List Value) (n:Nat) (k:Value→Bool),aQt l n k=aOw l n k
  | [],n,k=>rfl
  | x::_,0,k=>rfl
  | _::r,n+1,k=>aLJ r n k
def aFF:List Value→Nat→(List Value→Bool)→Bool
  | _,0,k=>k []
  | x::r,n+1,k=>aFF r n fun r=>k (x::r)
  | [],_+1,_=>false
theorem aFG:∀ (l:List Value) (n:Nat) (k:List Value→Bool),aFF l n k=if n≤l.length then k (l.take n) else false
  | l,0,k=>by cases l<;>simp[aFF]
  | x::r,n+1,k=>by
    rw[aFF,aFG r n]
    by_cases h:n≤r.length
    · rw[if_pos h,if_pos (by simp; omega)]; simp
    · rw[if_neg h,if_neg (by simp; omega)]
  | [],n+1,k=>by simp[aFF]
def aLF:List Value→Nat→Bool
  | [],0=>true
  | _::r,n+1=>aLF r n
  | _,_=>false
theorem aIV:∀ {l:List Value}{n:Nat},aLF l n=true→l.length=n
  | [],0,_=>rfl
  | _::r,n+1,h=>by rw[List.length_cons,aIV (l:=r) h]
  | [],_+1,h=>by cases h
  | _::_,0,h=>by cases h
def aFw:List Value→Nat→(List Value→Bool)→Bool
  | l,0,k=>k l
  | _::r,n+1,k=>aFw r n k
  | [],_+1,_=>false
theorem aIA:∀ (l:List Value) (n:Nat) (k:List Value→Bool),aFw l n k=if n≤l.length then k (l.drop n) else false
  | l,0,k=>by cases l<;>simp[aFw]
  | _::r,n+1,k=>by
    rw[aFw,aIA r n]
    by_cases h:n≤r.length
    · rw[if_pos h,if_pos (by simp; omega)]; rfl
    · rw[if_neg h,if_neg (by simp; omega)]
  | [],n+1,k=>by simp[aFw]
def aJc (ro:Ro) (h:T Obj) (a:Addr) (n:Nat) (K:List Value→Bool):Bool :=
  match a.spot with
  | none=>bB (cellsAt ro h a n) K
  | some _=>match h.get a.block with
    | some (.cells c _ _)=>match a.off with
      | 0=>match aLF c.toList n with
        | true=>K c.toList
        | false=>aFF c.toList n K
      | off+1=>aFw c.toList (Nat.succ off) fun l=>aFF l n K
    | _=>false
theorem aL8 {ro:Ro}{h:T Obj}{a:Addr}{n:Nat}{K:List Value→Bool}:aJc ro h a n K=bB (cellsAt ro h a n) K:=by
  unfold aJc cellsAt
  cases a.spot with
  | none=>rfl
  | some z =>
    cases h.get a.block with
    | none=>rfl
    | some o =>
      cases o<;>try rfl
      rename_i c e f
      have key:(if a.off+n≤c.size then K ((c.toList.drop a.off).take n) else false)=bB (match Nat.ble (a.off+n) c.size with | true=>some ((c.toList.drop a.off).take n) | false=>none) K:=by
        by_cases hb:a.off+n≤c.size
        · rw[if_pos hb,Nat.ble_eq_true_of_le hb]; rfl
        · rw[if_neg hb]
          have:Nat.ble (a.off+n) c.size=false:=by
            cases hq:Nat.ble (a.off+n) c.size with
            | false=>rfl
            | true=>exact absurd (Nat.le_of_ble_eq_true hq) hb
          rw[this]; rfl
      refine Eq.trans ?_ key
      simp only
      cases ho:a.off with
      | zero =>
        simp only[Nat.zero_add,List.drop_zero]
        cases hl:aLF c.toList n with
        | true =>
          have:=aIV hl
          rw[if_pos (by simpa using Nat.le_of_eq this.symm),List.take_of_length_le (by omega)]
        | false=>simp only[aFG,Array.length_toList]
      | succ off =>
        simp only[aIA,aFG,List.length_drop,Array.length_toList]
        by_cases h1:off+1≤c.size
        · rw[if_pos h1]
          by_cases h2:n≤c.size - (off+1)
          · rw[if_pos h2,if_pos (by omega)]
          · rw[if_neg h2,if_neg (by omega)]
        · rw[if_neg h1,if_neg (by omega)]
def aNY (P:Program) (ro:Ro) (h:T Obj) (t:TypeId) (a:Addr) (K:Value→Bool):Bool :=
  match isAgg P t with
  | some true=>bB (siz P t) fun n=>aJc ro h a n fun l=>K (.agg ⟨l⟩)
  | some false=>match a.spot with
    | none=>bB (nY P ro h t a) K
    | some _=>match h.get a.block with
      | some (.cells c _ _)=>aQt c.toList a.off K
      | _=>false
  | none=>false
theorem aNZ {P:Program}{ro:Ro}{h:T Obj}{t:TypeId}{a:Addr}{K:Value→Bool}:aNY P ro h t a K=bB (nY P ro h t a) K:=by
  obtain⟨b,o,s⟩:=a
  unfold aNY
  cases hi:isAgg P t with
  | none=>simp only[nY,hi]; rfl
  | some x =>
    cases x with
    | true =>
      simp only[nY,hi]
      cases siz P t with
      | none=>rfl
      | some n =>
        simp only[bB,Option.bind_some]
        rw[aL8]
        cases cellsAt ro h ⟨b,o,s⟩ n<;>rfl
    | false =>
      cases s with
      | none=>rfl
      | some z =>
        simp only
        have e:nY P ro h t ⟨b,o,some z⟩=load1 ro h (at_ b o z):=by
          simp only[nY,hi]; rfl
        rw[e,cQ]
        cases h.get b with
        | none=>rfl
        | some x =>
          cases x<;>try rfl
          simp only[aLJ,aLI]; rfl
def aK3 (P:Program) (h:T Obj) (t:TypeId) (a v:Value) (K:T Obj→Bool):Bool :=
  match a with
  | .pointer (some a)=>bB (siz P t) fun n=>match Nat.beq v.cells.size n with
    | true=>aBy h a v.cells.toList K
    | false=>false
  | _=>false
theorem aMQ {P:Program}{h:T Obj}{t:TypeId}{a v:Value}{K:T Obj→Bool}:aK3 P h t a v K=bB (zW P h t a v) K:=by
  unfold aK3 zW
  cases a<;>try rfl
  rename_i a
  cases a with
  | none=>rfl
  | some a =>
    cases siz P t with
    | none=>rfl
    | some n =>
      simp only[bB,Option.bind]
      cases Nat.beq v.cells.size n with
      | true=>exact aDL
      | false=>rfl
def apB (r:Value × T Obj × Nat) (K:KB):Bool:=fcV r.1 fun v=>fcN r.2.2 fun n=>K v r.2.1 n
theorem aPl (r:Value × T Obj × Nat) (K:KB):apB r K=K r.1 r.2.1 r.2.2:=by simp[apB,aGq,nS]
def aG8 (P:Program) (ro:Ro) (h:T Obj) (nx:Nat) (ts:Array TypeId) (vs:List Value) (K:KB):Bool :=
  match ts[0]?,ts[1]?,vs with
  | some t0,some t1,[.slice base len cap,x]=>match und P t0 with
    | some (.slice e)=>bB (tin P e) fun i=>bB (x6 P ro h e i.size i.bytes t1 x) fun s =>
      match Nat.ble (len+s.1) cap with
      | true=>match s.1 with
        | 0=>K (.slice base len cap) h nx
        | _+1=>match base with
          | none=>false
          | some a=>match a.spot with
            | none=>false
            | some z=>match Nat.beq z i.size with
              | true=>aBy h (fwd a (len*i.size)) s.2 fun h=>fcN (len+s.1) fun n=>K (.slice base n cap) h nx
              | false=>false
      | false=>bB (zer P e) fun zv=>match Nat.ble ((len+s.1)*i.bytes) big,Nat.ble (len+s.1) big,Nat.blt 0 i.size,Nat.beq zv.cells.size i.size&&s.2.all cU with
        | true,true,true,true=>bB (aHI ro h i.size base len) fun p =>
            fcS (p.1++s.2) fun l=>fcN (len+s.1) fun n=>upK p.2 nx (some (.cells ⟨l⟩ e)) fun h=>fcN (nx+1) fun nx'=>K (.slice (some (own nx i.size)) n n) h nx'
        | _,_,_,_=>false
    | _=>false
  | _,_,_=>false
theorem aJ7 {P:Program}{ro:Ro}{h:T Obj}{nx:Nat}{ts:Array TypeId}{vs:List Value}{K:KB}:aG8 P ro h nx ts vs K=bB (cA P ro h nx ts vs) fun r=>K r.1 r.2.1 r.2.2:=by
  unfold aG8 cA
  cases ts[0]? with
  | none=>rfl
  | some t0 =>
    cases ts[1]? with
    | none=>rfl
    | some t1 =>
      match vs with
      | [.slice base len cap,x] =>
        simp only
        cases und P t0 with
        | none=>rfl
        | some d =>
          cases d<;>try rfl
          rename_i e
          simp only
          cases tin P e with
          | none=>rfl
          | some i =>
            simp only[bB,Option.bind_some]
            cases x6 P ro h e i.size i.bytes t1 x with
            | none=>rfl
            | some s =>
              simp only[Option.bind_some]
              cases Nat.ble (len+s.1) cap with
              | true =>
                simp only
                cases s.1 with
                | zero=>rfl
                | succ q =>
                  cases base with
                  | none=>rfl
                  | some a =>
                    simp only
                    cases a.spot with
                    | none=>rfl
                    | some z =>
                      simp only
                      cases Nat.beq z i.size with
                      | true =>
                        simp only[aDL,nS]
                        cases jU h (fwd a (len*i.size)) s.2<;>rfl
                      | false=>rfl
              | false =>
                simp only
                cases zer P e with
                | none=>rfl
                | some zv =>
                  simp only[Option.bind_some]
                  cases Nat.ble ((len+s.1)*i.bytes) big<;>cases Nat.ble (len+s.1) big<;>cases Nat.blt 0 i.size<;>cases Nat.beq zv.cells.size i.size&&s.2.all cU<;>try rfl
                  simp only
                  cases aHI ro h i.size base len with
                  | none=>rfl
                  | some p=>simp only[aGp,nS,aC9]; rfl
      | []=>rfl
      | [v]=>cases v<;>rfl
      | .bool _::_::_ | .int _ _::_::_ | .float _ _::_::_ | .complex _ _ _::_::_ | .string _::_::_ | .pointer _::_::_ | .map _::_::_ | .chan _::_::_ | .func _ _ _::_::_ | .nilFunc::_::_ | .iface _ _::_::_ | .nilIface::_::_ | .agg _::_::_ | .tuple _::_::_=>rfl
      | .slice _ _ _::_::_::_=>rfl
def aQv (P:Program) (ro:Ro) (C:rD) (t:T Value) (h:T Obj) (nx:Nat) (op:Op) (K:KB):Bool :=
  match op with
  | .store ty a x=>bB (evl t a) fun av=>bB (evl t x) fun xv=>aK3 P h ty av xv fun h'=>K undef h' nx
  | .mapUpdate ty m k x | .insert ty m k x=>bB (evl t m) fun mv=>bB (evl t k) fun kv=>bB (evl t x) fun xv=>bB (wY P h ty mv kv xv) fun h'=>K undef h' nx
  | .call { callee:=.builtin b,args,argTypes }=>bB (xV t args.toList) fun vs=>match b with
    | .append=>aG8 P ro h nx argTypes vs K
    | .copy=>bB (aDv P ro h nx argTypes vs) fun r=>apB r K
    | .clear=>match vs,argTypes[0]? with
      | [m],some ty=>bB (und P ty) fun _=>bB (aAv h m) fun h=>K (.tuple #[]) h nx
      | _,_=>false
    | _=>false
  | .call { callee:=.value f,args,.. }=>bB (evl t f) fun f=>bB (xV t args.toList) fun vs=>match f with
    | .func (.func k) a b=>C k (a.toList++vs++b.toList) h nx K
    | _=>false
  | .convert s d x=>bB (evl t x) fun v=>bB (vR P h s d v) fun r=>K r.1 r.2 nx
  | _=>false
def aOV (h:T Obj) (id:Nat) (o:Option Obj) (K:T Obj→Bool):Bool:=match o with
  | none=>K h
  | some o=>fcO o fun o=>upK h id (some o) K
theorem aOW (h:T Obj) (id:Nat) (o:Option Obj) (K:T Obj→Bool):aOV h id o K=K (aAo h id o):=by
  cases o with
  | none=>rfl
  | some o=>simp[aOV,aAo,aPs,aC9]
def aNe (P:Program) (ro:Ro) (C:rD) (t:T Value) (h:T Obj) (nx aid:Nat) (op:Op) (K:KB):Bool :=
  match hY op with
  | true=>aQv P ro C t h nx op K
  | false=>match op with
    | .load ty x=>bB (evl t x) fun v=>match v with
      | .pointer (some a)=>aNY P ro h ty a fun v=>K v h nx
      | _=>false
    | .move x=>bB (evl t x) fun v=>K v h nx
    | .assign x=>bB (evl t x) fun v=>K v h nx
    | op=>bB (aOx P ro t h aid op) fun r=>fcV r.1 fun v=>aOV h aid r.2 fun h'=>K v h' nx
def aIw (n:Nat) (t:T Value) (dst:Option Tmp) (v:Value) (K:T Value→Bool):Bool :=
  match dst with
  | none=>K t
  | some d=>match Nat.blt d n with
    | true=>upK t d (some v) K
    | false=>false
theorem aAH {n:Nat}{t:T Value}{dst:Option Tmp}{v:Value}{K:T Value→Bool} (h:aIw n t dst v K=true):∃ t',put n t dst v=some t'∧K t'=true:=by
  unfold aIw at h
  cases dst with
  | none=>exact⟨t,rfl,h⟩
  | some d =>
    simp only at h
    split at h
    · rename_i hb
      rw[aC9] at h
      exact⟨_,by simp only[put]; rw[hb],h⟩
    · cases h
def aKE (P:Program) (ro:Ro) (C:rD) (n:Nat) (ops:Array Oper):List Oper→T Value→T Obj→Nat→(T Value→T Obj→Nat→Bool)→Bool
  | [],t,h,nx,Q=>Q t h nx
  | o::r,t,h,nx,Q=>match wanted ops t o with
    | true=>fcN (nx+1) fun nx1=>aNe P ro C t h nx1 nx o.op fun v h' nx'=>aIw n t o.dst v fun t'=>aKE P ro C n ops r t' h' nx' Q
    | false=>aIw n t o.dst undef fun t'=>aKE P ro C n ops r t' h nx Q
def aQW (P:Program) (ro:Ro) (C:rD) (n:Nat) (ops:Array Oper) (l:List Oper):T Value→T Obj→Nat→(T Value→T Obj→Nat→Bool)→Bool:=List.rec (motive:=fun _=>T Value→T Obj→Nat→(T Value→T Obj→Nat→Bool)→Bool) (fun t h nx Q=>Q t h nx)
  (fun o _ ih t h nx Q=>Bool.rec (motive:=fun _=>Bool) (aIw n t o.dst undef fun t'=>ih t' h nx Q) (fcN (nx+1) fun nx1=>aNe P ro C t h nx1 nx o.op fun v h' nx'=>aIw n t o.dst v fun t'=>ih t' h' nx' Q) (wanted ops t o)) l
theorem aLK (P:Program) (ro:Ro) (C:rD) (n:Nat) (ops:Array Oper):∀ l:List Oper,aQW P ro C n ops l=aKE P ro C n ops l
  | []=>rfl
  | o::r=>by
    funext t h nx Q
    have ih:=aLK P ro C n ops r
    simp only[aKE]
    rw[← ih]
    show Bool.rec (motive:=fun _=>Bool) _ _ (wanted ops t o)=_
    cases wanted ops t o<;>rfl
def aOU (a b:Option Addr):Bool:=match a,b with
  | none,none=>true
  | some a,some b=>Nat.beq a.block b.block&&Nat.beq a.off b.off&&(match a.spot,b.spot with
    | none,none=>true
    | some x,some y=>Nat.beq x y
    | _,_=>false)
  | _,_=>false
theorem aKf {a b:Option Addr} (h:aOU a b=true):a=b:=by
  unfold aOU at h
  split at h
  · rfl
  · rename_i a b
    obtain⟨b1,o1,s1⟩:=a
    obtain⟨b2,o2,s2⟩:=b
    simp only[Bool.and_eq_true] at h
    obtain⟨⟨h1,h2⟩,h3⟩:=h
    have:=Nat.eq_of_beq_eq_true h1
    have:=Nat.eq_of_beq_eq_true h2
    subst_vars
    split at h3
    · simp_all
    · have:=Nat.eq_of_beq_eq_true h3; simp_all
    · cases h3
  · cases h
def aGf (a b:Value):Bool:=match a,b with
  | .bool x,.bool y=>x==y
  | .int k x,.int k' y=>decide (k=k')&&decide (x=y)
  | .string x,.string y=>x.data.toList==y.data.toList
  | .pointer x,.pointer y=>aOU x y
  | .slice x l c,.slice y l' c'=>aOU x y&&Nat.beq l l'&&Nat.beq c c'
  | .map none,.map none=>true
  | .map (some x),.map (some y)=>Nat.beq x y
  | .nilFunc,.nilFunc=>true
  | .nilIface,.nilIface=>true
  | _,_=>false
theorem aFu {a b:Value} (h:aGf a b=true):a=b:=by
  unfold aGf at h
  split at h
  · simp_all
  · simp_all
  · rename_i x y
    obtain⟨⟨x⟩⟩:=x
    obtain⟨⟨y⟩⟩:=y
    simp_all
  · rw[aKf h]
  · simp only[Bool.and_eq_true] at h
    obtain⟨⟨h1,h2⟩,h3⟩:=h
    rw[aKf h1,Nat.eq_of_beq_eq_true h2,Nat.eq_of_beq_eq_true h3]
  · rfl
  · rw[Nat.eq_of_beq_eq_true h]
  · rfl
  · rfl
  · cases h
def aBS:List Value→List Value→Bool
  | [],[]=>true
  | a::r,b::s=>aGf a b&&aBS r s
  | _,_=>false
theorem aAu:∀ {l m:List Value},aBS l m=true→l=m
  | [],[],_=>rfl
  | a::r,b::s,h=>by
    simp only[aBS,Bool.and_eq_true] at h
    rw[aFu h.1,aAu h.2]
  | [],_::_,h=>by cases h
  | _::_,[],h=>by cases h
def aBM (a b:Value):Bool:=match a,b with
  | .agg x,.agg y=>aBS x.toList y.toList
  | a,b=>aGf a b
theorem wG {a b:Value} (h:aBM a b=true):a=b:=by
  unfold aBM at h
  split at h
  · rename_i x y
    obtain⟨x⟩:=x
    obtain⟨y⟩:=y
    have:=aAu h
    simp_all
  · exact aFu h
def aKu:List MapEntry→List MapEntry→Bool
  | [],[]=>true
  | a::r,b::s=>aBM a.key b.key&&aBM a.val b.val&&Nat.beq a.born b.born&&aKu r s
  | _,_=>false
theorem aIC:∀ {l m:List MapEntry},aKu l m=true→l=m
  | [],[],_=>rfl
  | a::r,b::s,h=>by
    simp only[aKu,Bool.and_eq_true] at h
    obtain⟨a1,a2,a3⟩:=a
    obtain⟨b1,b2,b3⟩:=b
    have h1:=wG h.1.1.1
    have h2:=wG h.1.1.2
    have h3:=Nat.eq_of_beq_eq_true h.1.2
    have h4:=aIC h.2
    simp only at h1 h2 h3
    subst h1; subst h2; subst h3; rw[h4]
  | [],_::_,h=>by cases h
  | _::_,[],h=>by cases h
def aIh (a b:Option Obj):Bool:=match a,b with
  | some (.cells x e f),some (.cells y e' f')=>Nat.beq e e'&&(Nat.beq f.1 f'.1&&Nat.beq f.2 f'.2)&&aBS x.toList y.toList
  | some (.map x n),some (.map y n')=>Nat.beq n n'&&aKu x.toList y.toList
  | _,_=>false
theorem aE1 {a b:Option Obj} (h:aIh a b=true):a=b∧a.isSome=true:=by
  unfold aIh at h
  split at h
  · rename_i x e f y e' f'
    obtain⟨x⟩:=x
    obtain⟨y⟩:=y
    obtain⟨f1,f2⟩:=f
    obtain⟨f1',f2'⟩:=f'
    simp only[Bool.and_eq_true] at h
    have h1:e=e':=Nat.eq_of_beq_eq_true h.1.1
    have h2:f1=f1':=Nat.eq_of_beq_eq_true h.1.2.1
    have h3:f2=f2':=Nat.eq_of_beq_eq_true h.1.2.2
    have h4:x=y:=aAu h.2
    subst h1; subst h2; subst h3; subst h4; exact⟨rfl,rfl⟩
  · rename_i x n y n'
    obtain⟨x⟩:=x
    obtain⟨y⟩:=y
    simp only[Bool.and_eq_true] at h
    have h1:n=n':=Nat.eq_of_beq_eq_true h.1
    have h2:x=y:=aIC h.2
    subst h1; subst h2; exact⟨rfl,rfl⟩
  · cases h
def aNt (b:Nat) (h h':T Obj):Bool:=aIh (h.get b) (h'.get b)
theorem aEt {b:Nat}{h h':T Obj} (e:aNt b h h'=true):same b h h':=aE1 e
def aM3 (b:List Nat) (i:Nat) (h h':T Obj):List (Nat × Nat)→Bool
  | []=>true
  | l::r=>match vU b l.1 i with
    | true=>aNt l.2 h h'&&aM3 b i h h' r
    | false=>aM3 b i h h' r
theorem aDg {b:List Nat}{i:Nat}{h h':T Obj}:∀ {ls:List (Nat × Nat)},aM3 b i h h' ls=true→∀ l∈ls,vU b l.1 i=true→same l.2 h h'
  | [],_,l,hl,_=>by cases hl
  | a::r,e,l,hl,hf=>by
    unfold aM3 at e
    rcases List.mem_cons.1 hl with rfl | hl
    · rw[hf] at e
      simp only[Bool.and_eq_true] at e
      exact aEt e.1
    · split at e
      · simp only[Bool.and_eq_true] at e
        exact aDg e.2 l hl hf
      · exact aDg e l hl hf
def aM4 (b:List Nat) (i a:Nat):List (Nat × T Obj × T Obj)→Bool
  | []=>true
  | m::r=>match vU b m.1 i with
    | true=>aNt a m.2.1 m.2.2&&aM4 b i a r
    | false=>aM4 b i a r
theorem aDh {b:List Nat}{i a:Nat}:∀ {ms:List (Nat × T Obj × T Obj)},aM4 b i a ms=true→∀ m∈ms,vU b m.1 i=true→same a m.2.1 m.2.2
  | [],_,l,hl,_=>by cases hl
  | x::r,e,l,hl,hf=>by
    unfold aM4 at e
    rcases List.mem_cons.1 hl with rfl | hl
    · rw[hf] at e
      simp only[Bool.and_eq_true] at e
      exact aEt e.1
    · split at e
      · simp only[Bool.and_eq_true] at e
        exact aDh e.2 l hl hf
      · exact aDh e l hl hf
def aBl (P:Program) (ro:Ro) (C:rD) (n:Nat) (ops:Array Oper) (b:List Nat) (n0:Nat):List Oper→Nat→List (Nat × Nat)→List (Nat × T Obj × T Obj)→T Value→T Obj→Nat→(T Value→T Obj→Nat→Bool)→Bool
  | [],_,_,_,t,h,nx,Q=>Q t h nx
  | o::r,i,ls,ms,t,h,nx,Q=>match wanted ops t o with
    | true=>fcN (n0+i) fun aid=>aNe P ro C t h nx aid o.op fun v h' nx'=>aIw n t o.dst v fun t'=>match hY o.op with
      | true=>aM3 b i h h' ls&&aBl P ro C n ops b n0 r (i+1) ls ((i,h,h')::ms) t' h' nx' Q
      | false=>match rdB P t o.op with
        | some a=>aM4 b i a ms&&aBl P ro C n ops b n0 r (i+1) ((i,a)::ls) ms t' h' nx' Q
        | none=>aBl P ro C n ops b n0 r (i+1) ls ms t' h' nx' Q
    | false=>aIw n t o.dst undef fun t'=>aBl P ro C n ops b n0 r (i+1) ls ms t' h nx Q
def aGb (ops:Array Oper):List Nat:=CheckFast.beforeL ops.toList 0 []
theorem aO0 (ops:Array Oper):aGb ops=(bef ops).toList:=by
  have:=CheckFast.beforeF_eq ops
  unfold aGb bef
  rw[← this]; rfl
abbrev QB:=Ex→T Value→T Obj→Nat→Bool
def aI4 (B:T Value→T Obj→Nat→QB→Bool):Nat→T Value→T Obj→Nat→QB→Bool
  | 0,_,_,_,_=>false
  | k+1,t,h,nx,Q=>B t h nx fun x t h nx=>match x with
    | .normal=>aI4 B k t h nx Q
    | .exit i=>Q (.exit i) t h nx
    | .ret=>Q .ret t h nx
def rF (P:Program) (ro:Ro) (C:rD) (n:Nat):Code→T Value→T Obj→Nat→QB→Bool
  | .skip,t,h,nx,Q=>Q .normal t h nx
  | .label _,t,h,nx,Q=>Q .normal t h nx
  | .ret,t,h,nx,Q=>Q .ret t h nx
  | .exit id,t,h,nx,Q=>Q (.exit id) t h nx
  | .seq a b,t,h,nx,Q=>rF P ro C n a t h nx fun x t h nx=>match x with
    | .normal=>rF P ro C n b t h nx Q
    | .exit i=>Q (.exit i) t h nx
    | .ret=>Q .ret t h nx
  | .cond c a b,t,h,nx,Q=>bB (evl t c) fun v=>match v with
    | .bool true=>rF P ro C n a t h nx Q
    | .bool false=>rF P ro C n b t h nx Q
    | _=>false
  | .block id b,t,h,nx,Q=>rF P ro C n b t h nx fun x t h nx=>match x with
    | .normal=>Q .normal t h nx
    | .exit i=>match Nat.beq i id with
      | true=>Q .normal t h nx
      | false=>Q (.exit i) t h nx
    | .ret=>Q .ret t h nx
  | .loop b,t,h,nx,Q=>aI4 (rF P ro C n b) 100000 t h nx Q
  | .scope b,t,h,nx,Q=>rF P ro C n b t h nx Q
  | .region _ ops draw,t,h,nx,Q=>match draw with
    | false=>aKE P ro C n ops ops.toList t h nx (Q .normal)
    | true=>match wO P ops (aGb ops) with
      | true=>fcN (nx+ops.size) fun nx'=>aBl P ro C n ops (aGb ops) nx ops.toList 0 [] [] t h nx' (Q .normal)
      | false=>false
  | _,_,_,_,_=>false
def aBW (P:Program) (ro:Ro) (C:rD) (n:Nat) (c:Code):T Value→T Obj→Nat→QB→Bool:=Code.rec (motive:=fun _=>T Value→T Obj→Nat→QB→Bool)
  (fun t h nx Q=>Q .normal t h nx)
  (fun _ ops draw t h nx Q=>Bool.rec (motive:=fun _=>Bool) (aQW P ro C n ops ops.toList t h nx (Q .normal))
    (Bool.rec (motive:=fun _=>Bool) false (fcN (nx+ops.size) fun nx'=>aBl P ro C n ops (aGb ops) nx ops.toList 0 [] [] t h nx' (Q .normal)) (wO P ops (aGb ops))) draw)
  (fun _ _ ia ib t h nx Q=>ia t h nx fun x t h nx=>Ex.rec (motive:=fun _=>Bool) (ib t h nx Q) (fun i=>Q (.exit i) t h nx) (Q .ret t h nx) x)
  (fun c _ _ ia ib t h nx Q=>bB (evl t c) fun v=>match v with
    | .bool true=>ia t h nx Q
    | .bool false=>ib t h nx Q
    | _=>false)
  (fun id _ ib t h nx Q=>ib t h nx fun x t h nx=>Ex.rec (motive:=fun _=>Bool) (Q .normal t h nx) (fun i=>Bool.rec (motive:=fun _=>Bool) (Q (.exit i) t h nx) (Q .normal t h nx) (Nat.beq i id)) (Q .ret t h nx) x)
  (fun _ ib t h nx Q=>aI4 ib 100000 t h nx Q)
  (fun _ _ _ _ _ _ _ _ _ _=>false)
  (fun id t h nx Q=>Q (.exit id) t h nx)
  (fun _ ib t h nx Q=>ib t h nx Q)
  (fun _ t h nx Q=>Q .normal t h nx)
  (fun _ _ _ _ _=>false)
  (fun t h nx Q=>Q .ret t h nx) (fun _ _ _ _ _=>false) c
theorem aMg (P:Program) (ro:Ro) (C:rD) (n:Nat) (c:Code):aBW P ro C n c=rF P ro C n c:=by
  induction c with
  | skip=>rfl
  | region id ops draw =>
    funext t h nx Q
    show Bool.rec (motive:=fun _=>Bool) (aQW P ro C n ops ops.toList t h nx (Q .normal)) (Bool.rec (motive:=fun _=>Bool) false (fcN (nx+ops.size) fun nx'=>aBl P ro C n ops (aGb ops) nx ops.toList 0 [] [] t h nx' (Q .normal)) (wO P ops (aGb ops))) draw=_
    rw[aLK]
    simp only[rF]
    cases draw with
    | false=>rfl
    | true=>cases wO P ops (aGb ops)<;>rfl
  | seq a b iha ihb =>
    funext t h nx Q
    show (aBW P ro C n a t h nx fun x t h nx=>Ex.rec (motive:=fun _=>Bool) (aBW P ro C n b t h nx Q) (fun i=>Q (.exit i) t h nx) (Q .ret t h nx) x)=_
    rw[iha,ihb]
    simp only[rF]
    congr 1
    funext x t h nx
    cases x<;>rfl
  | cond c a b iha ihb =>
    funext t h nx Q
    show (bB (evl t c) fun v=>match v with
      | .bool true=>aBW P ro C n a t h nx Q
      | .bool false=>aBW P ro C n b t h nx Q
      | _=>false)=_
    rw[iha,ihb]
    simp only[rF]
  | block id b ihb =>
    funext t h nx Q
    show (aBW P ro C n b t h nx fun x t h nx=>Ex.rec (motive:=fun _=>Bool) (Q .normal t h nx) (fun i=>Bool.rec (motive:=fun _=>Bool) (Q (.exit i) t h nx) (Q .normal t h nx) (Nat.beq i id)) (Q .ret t h nx) x)=_
    rw[ihb]
    simp only[rF]
    congr 1
    funext x t h nx
    cases x with
    | normal=>rfl
    | ret=>rfl
    | exit i=>simp only; cases Nat.beq i id<;>rfl
  | loop b ihb =>
    funext t h nx Q
    show aI4 (aBW P ro C n b) 100000 t h nx Q=_
    rw[ihb]
    simp only[rF]
  | rangeFunc=>rfl
  | exit id=>rfl
  | scope b ihb =>
    funext t h nx Q
    show aBW P ro C n b t h nx Q=_
    rw[ihb]
    simp only[rF]
  | label l=>rfl
  | goto l=>rfl
  | ret=>rfl
  | refuse=>rfl
def aGl:List Value→Nat→T Value→(T Value→Bool)→Bool
  | [],_,t,K=>K t
  | v::vs,i,t,K=>upK t i (some v) fun t=>aGl vs (Nat.succ i) t K
theorem aFx:∀ (l:List Value) (i:Nat) (t:T Value) (K:T Value→Bool),aGl l i t K=K (yG l i t)
  | [],i,t,K=>rfl
  | v::vs,i,t,K=>by rw[aGl,aC9,aFx vs]; rfl
abbrev aLX:=FuncId→List Value→Option (Nat × Nat × Nat × TypeId × List Value)
abbrev aPk:=FuncId→List Value→T Obj→Nat→Option (Value × T Obj × Nat)
def aFs (P:Program) (ro:Ro) (O:aLX) (M:aPk):Nat→rD
  | 0,_,_,_,_,_=>false
  | k+1,f,args,h,nx,K=>match M f args h nx with
   | some r=>K r.1 r.2.1 r.2.2
   | none=>match O f args with
   | some (z,l,c,e,cs)=>fcN z fun z=>fcN l fun l=>fcN c fun c=>fcL cs fun cs=>upK h nx (some (.cells cs.toArray e)) fun h'=>K (.slice (some ⟨nx,0,some z⟩) l c) h' (Nat.succ nx)
   | none=>bB P.funcs[f]? fun fn=>bB fn.body fun body=>match Nat.ble args.length fn.ntmps with
    | true=>aGl args 0 .e fun t=>aBW P ro (aFs P ro O M k) fn.ntmps body t h nx fun x t h nx=>match x with
      | .exit _=>false
      | .normal=>bB (aCX P ro h t fn.results.toList) fun vs=>fcV (aBq vs) fun v=>K v h nx
      | .ret=>bB (aCX P ro h t fn.results.toList) fun vs=>fcV (aBq vs) fun v=>K v h nx
    | false=>false
section
variable {P:Program}{ro:Ro}
def aFl (P:Program) (ro:Ro) (C:rD):Prop:=∀ f args h nx K,C f args h nx K=true→∃ k v h' nx',call P ro k f args h nx v h' nx'∧K v h' nx'=true
theorem aKC {C:rD} (hC:aFl P ro C) {t:T Value}{h:T Obj}{nx:Nat}{op:Op}{K:KB} (hl:aQv P ro C t h nx op K=true) :
    ∃ k v h' nx',opL P ro (call P ro k) t h nx op v h' nx'∧K v h' nx'=true:=by
  cases op with
  | store ty a x =>
    obtain⟨a',h1,hl⟩:=fR hl
    obtain⟨x',h2,hl⟩:=fR hl
    rw[aMQ] at hl
    obtain⟨h',h4,hl⟩:=fR hl
    exact⟨0,_,_,_,⟨a',x',h1,h2,h4,rfl,rfl⟩,hl⟩
  | mapUpdate ty m k x | insert ty m k x =>
    obtain⟨m',h1,hl⟩:=fR hl
    obtain⟨k',h2,hl⟩:=fR hl
    obtain⟨x',h3,hl⟩:=fR hl
    obtain⟨h',h4,hl⟩:=fR hl
    exact⟨0,_,_,_,⟨m',k',x',h1,h2,h3,h4,rfl,rfl⟩,hl⟩
  | call c =>
    obtain⟨callee,args,ts⟩:=c
    cases callee with
    | builtin b =>
      obtain⟨vs,h1,hl⟩:=fR hl
      cases b<;>try (exact Bool.noConfusion hl)
      case append =>
        simp only[aJ7] at hl
        obtain⟨r,h2,hl⟩:=fR hl
        exact⟨0,_,_,_,⟨vs,h1,h2⟩,hl⟩
      case copy =>
        obtain⟨r,h2,hl⟩:=fR hl
        rw[aPl] at hl
        exact⟨0,_,_,_,⟨vs,h1,h2⟩,hl⟩
      case clear =>
        simp only at hl
        split at hl
        · rename_i m ty hty
          obtain⟨d,h2,hl⟩:=fR hl
          obtain⟨h',h3,hl⟩:=fR hl
          exact⟨0,_,_,_,⟨_,h1,m,ty,rfl,hty,by rw[h2]; rfl,h3,rfl,rfl⟩,hl⟩
        · cases hl
    | value f =>
      obtain⟨fv,h1,hl⟩:=fR hl
      obtain⟨vs,h2,hl⟩:=fR hl
      split at hl
      · rename_i k a b _
        obtain⟨k',v,h',nx',h3,h4⟩:=hC _ _ _ _ _ hl
        exact⟨k',v,h',nx',⟨k,a,b,vs,h1,h2,h3⟩,h4⟩
      · cases hl
    | invoke r m=>cases hl
  | convert s d x =>
    obtain⟨v,h1,hl⟩:=fR hl
    obtain⟨r,h2,hl⟩:=fR hl
    exact⟨0,_,_,_,⟨v,h1,h2,rfl⟩,hl⟩
  | _=>cases hl
theorem aE5 {C:rD} (hC:aFl P ro C) {t:T Value}{h:T Obj}{nx aid:Nat}{op:Op}{K:KB} (hl:aNe P ro C t h nx aid op K=true) :
    ∃ k v h' nx',opR P ro (call P ro k) t h nx aid op v h' nx'∧K v h' nx'=true:=by
  unfold aNe at hl
  unfold opR
  cases hq:hY op with
  | true=>rw[hq] at hl; exact aKC hC hl
  | false =>
    rw[hq] at hl
    have gen:∀ op,bB (aOx P ro t h aid op) (fun r=>fcV r.1 fun v=>aOV h aid r.2 fun h'=>K v h' nx)=true→∃ (v:Value) (h':T Obj) (nx':Nat),(∃ ob,opQ P ro t h aid op=some (v,ob)∧h'=aAo h aid ob∧nx'=nx)∧K v h' nx'=true:=by
      intro op hl
      simp only[aGq,aOW,aOy] at hl
      obtain⟨r,h1,h2⟩:=fR hl
      exact⟨r.1,_,_,⟨r.2,h1,rfl,rfl⟩,h2⟩
    simp only at hl ⊢
    have key:∃ v h' nx',(∃ ob,opQ P ro t h aid op=some (v,ob)∧h'=aAo h aid ob∧nx'=nx)∧K v h' nx'=true:=by
      split at hl
      · rename_i ty x
        obtain⟨v,h1,hl⟩:=fR hl
        split at hl
        · rename_i a
          rw[aNZ] at hl
          obtain⟨u,h2,h3⟩:=fR hl
          exact⟨u,h,nx,⟨none,by simp only[opQ]; rw[h1]; show (nY P ro h ty a).bind _=_; rw[h2]; rfl,rfl,rfl⟩,h3⟩
        · cases hl
      · obtain⟨v,h1,hl⟩:=fR hl
        exact⟨v,h,nx,⟨none,by simp only[opQ]; rw[h1]; rfl,rfl,rfl⟩,hl⟩
      · obtain⟨v,h1,hl⟩:=fR hl
        exact⟨v,h,nx,⟨none,by simp only[opQ]; rw[h1]; rfl,rfl,rfl⟩,hl⟩
      · exact gen _ hl
    obtain⟨v,h',nx',q1,q2⟩:=key
    exact⟨0,v,h',nx',q1,q2⟩
theorem aKF {C:rD} (hC:aFl P ro C) {n:Nat}{ops:Array Oper}:∀ (l:List Oper) (t:T Value) (h:T Obj) (nx:Nat) (Q:T Value→T Obj→Nat→Bool),aKE P ro C n ops l t h nx Q=true →
    ∃ k s',aAN P ro (call P ro k) n ops l ⟨t,h,nx⟩ s'∧Q s'.t s'.h s'.nx=true:=by
  intro l
  induction l with
  | nil=>intro t h nx Q hq; exact⟨0,_,rfl,hq⟩
  | cons o r ih =>
    intro t h nx Q hq
    simp only[aKE,nS] at hq
    simp only[aAN]
    cases hw:wanted ops t o with
    | true =>
      rw[hw] at hq
      obtain⟨k1,v,h',nx',h1,h2⟩:=aE5 hC hq
      obtain⟨t',h3,h4⟩:=aAH h2
      obtain⟨k2,s',h5,h6⟩:=ih _ _ _ _ h4
      exact⟨max k1 k2,s',⟨v,h',nx',t',tB (i4 (Nat.le_max_left _ _)) h1,h3,aHL (i4 (Nat.le_max_right _ _)) _ _ _ h5⟩,h6⟩
    | false =>
      rw[hw] at hq
      obtain⟨t',h3,h4⟩:=aAH hq
      obtain⟨k2,s',h5,h6⟩:=ih _ _ _ _ h4
      exact⟨k2,s',⟨t',h3,h5⟩,h6⟩
theorem aIk {C:rD} (hC:aFl P ro C) {n n0:Nat}{ops:Array Oper}:∀ (l:List Oper) (i:Nat) (ls:List (Nat × Nat)) (ms:List (Nat × T Obj × T Obj)) (t:T Value) (h:T Obj) (nx:Nat) (Q:T Value→T Obj→Nat→Bool),
    aBl P ro C n ops (bef ops).toList n0 l i ls ms t h nx Q=true→∃ k s',v7 P ro (call P ro k) n ops n0 l i ls ms ⟨t,h,nx⟩ s'∧Q s'.t s'.h s'.nx=true:=by
  intro l
  induction l with
  | nil=>intro i ls ms t h nx Q hq; exact⟨0,_,rfl,hq⟩
  | cons o r ih =>
    intro i ls ms t h nx Q hq
    simp only[aBl,nS] at hq
    simp only[v7]
    cases hw:wanted ops t o with
    | true =>
      rw[hw] at hq
      obtain⟨k1,v,h',nx',h1,h2⟩:=aE5 hC hq
      obtain⟨t',h3,h4⟩:=aAH h2
      cases hl:hY o.op with
      | true =>
        rw[hl] at h4
        simp only[Bool.and_eq_true] at h4
        obtain⟨k2,s',h5,h6⟩:=ih _ _ _ _ _ _ _ h4.2
        refine⟨max k1 k2,s',⟨v,h',nx',t',tB (i4 (Nat.le_max_left _ _)) h1,h3,?_,uH (i4 (Nat.le_max_right _ _)) _ _ _ _ _ _ h5⟩,h6⟩
        intro q hq hf
        exact aDg h4.1 q hq (by rw[← yN] at hf; exact hf)
      | false =>
        rw[hl] at h4
        simp only at h4
        cases hr:rdB P t o.op with
        | none =>
          rw[hr] at h4
          obtain⟨k2,s',h5,h6⟩:=ih _ _ _ _ _ _ _ h4
          exact⟨max k1 k2,s',⟨v,h',nx',t',tB (i4 (Nat.le_max_left _ _)) h1,h3,uH (i4 (Nat.le_max_right _ _)) _ _ _ _ _ _ h5⟩,h6⟩
        | some a =>
          rw[hr] at h4
          simp only[Bool.and_eq_true] at h4
          obtain⟨k2,s',h5,h6⟩:=ih _ _ _ _ _ _ _ h4.2
          refine⟨max k1 k2,s',⟨v,h',nx',t',tB (i4 (Nat.le_max_left _ _)) h1,h3,?_,uH (i4 (Nat.le_max_right _ _)) _ _ _ _ _ _ h5⟩,h6⟩
          intro q hq hf
          exact aDh h4.1 q hq (by rw[← yN] at hf; exact hf)
    | false =>
      rw[hw] at hq
      obtain⟨t',h3,h4⟩:=aAH hq
      obtain⟨k2,s',h5,h6⟩:=ih _ _ _ _ _ _ _ h4
      exact⟨k2,s',⟨t',h3,h5⟩,h6⟩
def aPc (P:Program) (ro:Ro) (n:Nat) (c:Code) (B:T Value→T Obj→Nat→QB→Bool):Prop :=
  ∀ t h nx Q,B t h nx Q=true→∃ k x s',code P ro k n c ⟨t,h,nx⟩ x s'∧Q x s'.t s'.h s'.nx=true
theorem aI5 {n:Nat}{b:Code}{B:T Value→T Obj→Nat→QB→Bool} (hB:aPc P ro n b B):∀ (j:Nat) (t:T Value) (h:T Obj) (nx:Nat) (Q:QB),aI4 B j t h nx Q=true →
    ∃ k x s',code P ro k n (.loop b) ⟨t,h,nx⟩ x s'∧Q x s'.t s'.h s'.nx=true:=by
  intro j
  induction j with
  | zero=>intro t h nx Q hq; cases hq
  | succ j ih =>
    intro t h nx Q hq
    obtain⟨k1,x,s1,h1,h2⟩:=hB _ _ _ _ hq
    cases x with
    | normal =>
      obtain⟨k2,x,s2,h5,h6⟩:=ih _ _ _ _ h2
      exact⟨max k1 k2+1,x,s2,.inl ⟨s1,s1.h,rL (Nat.le_max_left _ _) _ _ _ _ _ h1,fun _ _ e=>e,rL (Nat.le_max_right _ _) _ _ _ _ _ h5⟩,h6⟩
    | exit id=>exact⟨k1+1,_,s1,.inr ⟨by simp,h1⟩,h2⟩
    | ret=>exact⟨k1+1,_,s1,.inr ⟨by simp,h1⟩,h2⟩
theorem aHt {C:rD} (hC:aFl P ro C) {n:Nat}:∀ c:Code,aPc P ro n c (rF P ro C n c):=by
  intro c
  induction c with
  | skip | label=>intro t h nx Q hp; exact⟨1,.normal,_,⟨rfl,rfl⟩,hp⟩
  | ret=>intro t h nx Q hp; exact⟨1,.ret,_,⟨rfl,rfl⟩,hp⟩
  | exit id=>intro t h nx Q hp; exact⟨1,.exit id,_,⟨rfl,rfl⟩,hp⟩
  | seq a b iha ihb =>
    intro t h nx Q hp
    obtain⟨k1,x,s1,h1,h2⟩:=iha _ _ _ _ hp
    cases x with
    | normal =>
      obtain⟨k2,x,s2,h5,h6⟩:=ihb _ _ _ _ h2
      exact⟨max k1 k2+1,x,s2,.inl ⟨s1,rL (Nat.le_max_left _ _) _ _ _ _ _ h1,rL (Nat.le_max_right _ _) _ _ _ _ _ h5⟩,h6⟩
    | exit id=>exact⟨k1+1,_,s1,.inr ⟨by simp,h1⟩,h2⟩
    | ret=>exact⟨k1+1,_,s1,.inr ⟨by simp,h1⟩,h2⟩
  | cond c a b iha ihb =>
    intro t h nx Q hp
    obtain⟨v,h1,h2⟩:=fR hp
    split at h2
    · obtain⟨k,x,s1,h3,h4⟩:=iha _ _ _ _ h2
      exact⟨k+1,x,s1,⟨true,h1,h3⟩,h4⟩
    · obtain⟨k,x,s1,h3,h4⟩:=ihb _ _ _ _ h2
      exact⟨k+1,x,s1,⟨false,h1,h3⟩,h4⟩
    · cases h2
  | block id b ihb =>
    intro t h nx Q hp
    obtain⟨k,x,s1,h1,h2⟩:=ihb _ _ _ _ hp
    cases x with
    | normal=>exact⟨k+1,_,s1,⟨_,h1,rfl⟩,h2⟩
    | ret=>exact⟨k+1,_,s1,⟨_,h1,rfl⟩,h2⟩
    | exit i =>
      refine⟨k+1,_,s1,⟨_,h1,rfl⟩,?_⟩
      simp only at h2 ⊢
      cases hb:Nat.beq i id with
      | true=>rw[hb] at h2; exact h2
      | false=>rw[hb] at h2; exact h2
  | loop b ihb=>intro t h nx Q hp; exact aI5 ihb _ _ _ _ _ hp
  | scope b ihb =>
    intro t h nx Q hp
    obtain⟨k,x,s1,h1,h2⟩:=ihb _ _ _ _ hp
    exact⟨k+1,x,s1,h1,h2⟩
  | region id ops draw =>
    intro t h nx Q hp
    cases draw with
    | false =>
      obtain⟨k,s',h1,h2⟩:=aKF hC _ _ _ _ _ hp
      exact⟨k+1,.normal,s',⟨rfl,h1⟩,h2⟩
    | true =>
      simp only[rF] at hp
      rw[aO0,aDy] at hp
      cases hd:wN P ops with
      | false=>rw[hd] at hp; cases hp
      | true =>
        rw[hd] at hp
        simp only[nS] at hp
        obtain⟨k,s',h1,h2⟩:=aIk hC _ _ _ _ _ _ _ _ hp
        exact⟨k+1,.normal,s',⟨rfl,hd,h1⟩,h2⟩
  | _=>intro t h nx Q hp; cases hp
theorem aCd {O:aLX}{M:aPk} (hO:∀ f args z l c e cs,O f args=some (z,l,c,e,cs)→aHc P f args z l c cs) (hM:∀ f args h nx v h' nx',M f args h nx=some (v,h',nx')→∃ j,call P ro j f args h nx v h' nx'):∀ k,aFl P ro (aFs P ro O M k):=by
  intro k
  induction k with
  | zero=>intro f args h nx K hc; cases hc
  | succ k ih =>
    intro f args h nx K hc
    simp only[aFs] at hc
    cases hm:M f args h nx with
    | some r =>
      obtain⟨v,h',nx'⟩:=r
      rw[hm] at hc
      obtain⟨j,hj⟩:=hM _ _ _ _ _ _ _ hm
      exact⟨j,v,h',nx',hj,hc⟩
    | none =>
    rw[hm] at hc
    simp only at hc
    cases hq:O f args with
    | some r =>
      obtain⟨z,l,c,e,cs⟩:=r
      rw[hq] at hc
      simp only[nS,aMy,aC9] at hc
      exact⟨0,_,_,_,.inr (.inr ⟨z,l,c,cs,e,hO _ _ _ _ _ _ _ hq,rfl,fun _ _ e=>e,rfl⟩),hc⟩
    | none =>
    rw[hq] at hc
    simp only at hc
    obtain⟨fn,h1,hc⟩:=fR hc
    obtain⟨body,h2,hc⟩:=fR hc
    split at hc
    · rename_i hb
      rw[aFx,aMg] at hc
      obtain⟨j,x,s,h3,h4⟩:=aHt ih body _ _ _ _ hc
      cases x with
      | exit i=>cases h4
      | normal =>
        obtain⟨vs,h5,h6⟩:=fR h4
        rw[aGq] at h6
        exact⟨j,_,_,_,.inl ⟨fn,body,.normal,s,vs,h1,h2,Nat.le_of_ble_eq_true hb,h3,.inl rfl,h5,rfl,fun _ _ e=>e,rfl⟩,h6⟩
      | ret =>
        obtain⟨vs,h5,h6⟩:=fR h4
        rw[aGq] at h6
        exact⟨j,_,_,_,.inl ⟨fn,body,.ret,s,vs,h1,h2,Nat.le_of_ble_eq_true hb,h3,.inr rfl,h5,rfl,fun _ _ e=>e,rfl⟩,h6⟩
    · cases hc
structure Cp where
  f:FuncId
  args:List Value
  h:T Obj
  nx:Nat
  v:Value
  h':T Obj
  nx':Nat
def sJ (P:Program) (c:Cp):Prop:=∀ ro,∃ j,call P ro j c.f c.args c.h c.nx c.v c.h' c.nx'
def oEq (a b:Option Obj):Bool:=match a,b with
  | none,none=>true
  | a,b=>aIh a b
theorem aQQ {a b:Option Obj} (h:oEq a b=true):a=b:=by
  unfold oEq at h
  split at h
  · rfl
  · exact (aE1 h).1
def eqT:T Obj→T Obj→Bool
  | .e,.e=>true
  | .n l v r,.n l' v' r'=>oEq v v'&&(eqT l l'&&eqT r r')
  | _,_=>false
theorem aJn:∀ {a b:T Obj},eqT a b=true→a=b
  | .e,.e,_=>rfl
  | .n l v r,.n l' v' r',h=>by
    simp only[eqT,Bool.and_eq_true] at h
    rw[aQQ h.1,aJn h.2.1,aJn h.2.2]
  | .e,.n ..,h=>by cases h
  | .n ..,.e,h=>by cases h
def aFI:List Value→List Value→Bool
  | [],[]=>true
  | a::r,b::s=>aBM a b&&aFI r s
  | _,_=>false
theorem aCa:∀ {l m:List Value},aFI l m=true→l=m
  | [],[],_=>rfl
  | a::r,b::s,h=>by
    simp only[aFI,Bool.and_eq_true] at h
    rw[wG h.1,aCa h.2]
  | [],_::_,h=>by cases h
  | _::_,[],h=>by cases h
def aON (a b:Value):Bool:=match a,b with
  | .tuple x,.tuple y=>aFI x.toList y.toList
  | a,b=>aBM a b
theorem aOO {a b:Value} (h:aON a b=true):a=b:=by
  unfold aON at h
  split at h
  · rename_i x y
    obtain⟨x⟩:=x
    obtain⟨y⟩:=y
    have:=aCa h
    simp_all
  · exact wG h
def aNz:T Obj→(Nat→Option Obj)→Bool
  | .e,_=>true
  | .n l v r,g=>(match v with
    | none=>true
    | some o=>aIh (some o) (g 0))&&(aNz l (fun k=>g (2*k+1))&&aNz r (fun k=>g (2*k+2)))
theorem aFC:∀ {t:T Obj}{g:Nat→Option Obj},aNz t g=true→∀ k o,t.get k=some o→g k=some o
  | .e,g,_,k,o,h=>by rw[T.get_e] at h; cases h
  | .n l v r,g,hs,k,o,h=>by
    simp only[aNz,Bool.and_eq_true] at hs
    cases k with
    | zero =>
      have:v=some o:=h
      subst this
      exact (aE1 hs.1).1.symm
    | succ k =>
      have h2:(Bool.rec (motive:=fun _=>Option Obj) (r.get (k / 2)) (l.get (k / 2)) (Nat.beq (k % 2) 0):Option Obj)=some o:=h
      cases hb:Nat.beq (k % 2) 0 with
      | true =>
        rw[hb] at h2
        have h3:=aFC hs.2.1 _ _ h2
        have h4:=Nat.eq_of_beq_eq_true hb
        rw[show k+1=2*(k / 2)+1 by omega]
        exact h3
      | false =>
        rw[hb] at h2
        have h3:=aFC hs.2.2 _ _ h2
        have h4:¬ k % 2=0:=fun e=>by rw[e] at hb; cases hb
        rw[show k+1=2*(k / 2)+2 by omega]
        exact h3
def cpM:List Cp→aPk
  | [],_,_,_,_=>none
  | c::r,f,args,h,nx=>match Nat.beq f c.f,Nat.beq nx c.nx with
    | true,true=>match aFI args c.args with
      | true=>match eqT h c.h with
        | true=>some (c.v,c.h',c.nx')
        | false=>none
      | false=>none
    | _,_=>cpM r f args h nx
theorem aJk {ro:Ro}:∀ {l:List Cp},(∀ c∈l,sJ P c)→∀ f args h nx v h' nx',cpM l f args h nx=some (v,h',nx')→∃ j,call P ro j f args h nx v h' nx'
  | [],_,_,_,_,_,_,_,_,h=>by cases h
  | c::r,hl,f,args,h,nx,v,h',nx',he=>by
    unfold cpM at he
    split at he
    · rename_i e1 e2
      split at he
      · rename_i e3
        split at he
        · rename_i e4
          simp only[Option.some.injEq,Prod.mk.injEq] at he
          obtain⟨rfl,rfl,rfl⟩:=he
          have d1:f=c.f:=Nat.eq_of_beq_eq_true e1
          have d2:nx=c.nx:=Nat.eq_of_beq_eq_true e2
          rw[d1,d2,aCa e3,aJn e4]
          exact hl c (List.mem_cons_self ..) ro
        · cases he
      · cases he
    · exact aJk (fun c hc=>hl c (List.mem_cons_of_mem _ hc)) _ _ _ _ _ _ _ he
theorem kW {P:Program}:∀ c∈([]:List Cp),sJ P c:=fun c h=>by cases h
theorem bD {P:Program}{a:Cp}{l:List Cp} (h:sJ P a) (hl:∀ c∈l,sJ P c):∀ c∈a::l,sJ P c:=fun c hc=>by
  rcases List.mem_cons.1 hc with e | hc
  · rw[e]; exact h
  · exact hl c hc
def aQl (v0:Value) (h0:T Obj) (n0:Nat):KB:=fun v h nx=>aON v v0&&(Nat.beq nx n0&&aNz h0 fun k=>h.get k)
def aQk (want:Value):KB:=fun v _ _=>aBM v want
theorem aHo {k:Nat}{f:FuncId}{args:List Value}{h h' h1:T Obj}{nx nx':Nat}{v:Value} (hc:call P ro k f args h nx v h' nx') (hs:Sub h1 h'):call P ro k f args h nx v h1 nx':=by
  rcases hc with ⟨fn,body,e,s,vs,g1,g2,g3,g4,g5,g6,g7,g8,g9⟩ | ⟨g1,g2,g3,g4⟩ | ⟨z,l,c,cs,e,g1,g2,g3,g4⟩
  · exact .inl ⟨fn,body,e,s,vs,g1,g2,g3,g4,g5,g6,g7,fun k o hk=>g8 k o (hs k o hk),g9⟩
  · exact .inr (.inl ⟨g1,g2,fun k o hk=>g3 k o (hs k o hk),g4⟩)
  · exact .inr (.inr ⟨z,l,c,cs,e,g1,g2,fun k o hk=>g3 k o (hs k o hk),g4⟩)
theorem tX {O:aLX} (hO:∀ f args z l c e cs,O f args=some (z,l,c,e,cs)→aHc P f args z l c cs) {l:List Cp} (hl:∀ c∈l,sJ P c) {k:Nat}{c:Cp} (hc:∀ ro,aFs P ro O (cpM l) k c.f c.args c.h c.nx (aQl c.v c.h' c.nx')=true):sJ P c:=fun ro=>by
  obtain⟨j,v,h',nx',h1,h2⟩:=aCd hO (fun f args h nx v h' nx' e=>aJk hl f args h nx v h' nx' e) k _ _ _ _ _ (hc ro)
  simp only[aQl,Bool.and_eq_true] at h2
  rw[← aOO h2.1,← Nat.eq_of_beq_eq_true h2.2.1]
  exact⟨j,aHo h1 fun k o hk=>aFC h2.2.2 k o hk⟩
theorem aL6 {O:aLX} (hO:∀ f args z l c e cs,O f args=some (z,l,c,e,cs)→aHc P f args z l c cs) {l:List Cp} (hl:∀ c∈l,sJ P c) {k:Nat}{f:FuncId}{args:List Value}{nx:Nat}{want:Value}{K:KV} (hc:aFs P ro O (cpM l) k f args .e nx (aQk want)=true) (hK:∀ n,K want .e n):aN P ro f args .e nx K:=by
  obtain⟨j,v,h',nx',h1,h2⟩:=aCd hO (fun f args h nx v h' nx' e=>aJk hl f args h nx v h' nx' e) k _ _ _ _ _ hc
  refine⟨j,v,.e,nx',aHo h1 (fun k o hk=>by rw[T.get_e] at hk; cases hk),?_⟩
  rw[wG h2]
  exact hK _
end
end V
end Go.Proofs.YtcaccnneblghgaaGreat
noncomputable section
namespace Go.Proofs.YtcaccnneblghgaaGreat
namespace V
theorem aQY {P:Program} (hz:gI P=true) (hn:mO P=true) (hm:P.follows .mixedOrders=true) {f:FuncId}{want:Value} (hf:flat want=true) (hb:((P.funcs[f]?).bind (·.body)).isSome=true)
    (he:∀ ro:Ro,aN P ro f [] .e 0 fun v _ _=>v=want):Orc P f want:=by
  refine⟨hf,?_,fun W=>?_⟩
  · cases hq:P.funcs[f]? with
    | none=>rw[hq] at hb; cases hb
    | some fn =>
      rw[hq] at hb
      refine⟨fn,rfl,?_⟩
      simp only[Option.bind_some] at hb
      cases hc:fn.body with
      | none=>rw[hc] at hb; cases hb
      | some b=>rfl
  · obtain⟨j,v,h',nx',hc,hv⟩:=he (nK W)
    subst hv
    have hs:SS (nK W) W.heap.size W (fun _=>none) .e 0 W:=⟨aEs W,fun _ _=>rfl⟩
    refine ((aAt (ro:=nK W) (N:=W.heap.size) (w0:=W) hz hn hm _ _ _ _ _ _ _ hc).2 _ W #[] hs .nil).mono fun e W' ⟨v',φ',he,hst,hv⟩=>?_
    subst he
    exact⟨by rw[hv.of_flat hf],hst.size,fun b hb=>hst.frame b hb fun k B o r hk _=>absurd (T.get_e k) hk,hst.os,hst.tape,hst.output⟩
theorem aPC {P:Program} (hz:gI P=true) (hn:mO P=true) (hm:P.follows .mixedOrders=true) {O:aLX} (hO:∀ f args z l c e cs,O f args=some (z,l,c,e,cs)→aHc P f args z l c cs) {l:List Cp} (hl:∀ c∈l,sJ P c) {f:FuncId}{want:Value}{k:Nat} (hf:flat want=true) (hb:((P.funcs[f]?).bind (·.body)).isSome=true)
    (he:∀ ro:Ro,aFs P ro O (cpM l) k f [] .e 0 (aQk want)=true):Orc P f want:=aQY hz hn hm hf hb fun ro=>aL6 hO hl (he ro) fun _=>rfl
theorem LR.rigid {N:Nat}{φ:Phi}:∀ {l:List Value},l.all V.rigid=true→LR N φ l l
  | [],_=>.nil
  | x::l,h=>by
    simp only[List.all_cons,Bool.and_eq_true] at h
    refine .cons ?_ (LR.rigid h.2)
    have hx:=h.1
    cases x with
    | agg cs=>exact VR.aggL (LR.flat fun x hx'=>List.all_eq_true.1 (show cs.toList.all V.flat=true from hx) x hx')
    | _=>exact .flat hx
theorem aPA {P:Program} (hz:gI P=true) (hn:mO P=true) (hm:P.follows .mixedOrders=true) {f:FuncId}{args:List Value}{z l c:Nat}{cs:List Value} (hr:args.all rigid=true) (hf:cs.all flat=true) (hb:((P.funcs[f]?).bind (·.body)).isSome=true)
    (hc0:l≤c) (hc1:c*z=cs.length) (hc2:0 < c) (he:∀ ro:Ro,aN P ro f args .e 0 fun v h _=>∃ id e,v=.slice (some ⟨id,0,some z⟩) l c∧h.get id=some (.cells cs.toArray e)):aHc P f args z l c cs:=by
  refine⟨hr,hf,?_,fun W=>?_⟩
  · cases hq:P.funcs[f]? with
    | none=>rw[hq] at hb; cases hb
    | some fn =>
      rw[hq] at hb
      refine⟨fn,rfl,?_⟩
      simp only[Option.bind_some] at hb
      cases hc:fn.body with
      | none=>rw[hc] at hb; cases hb
      | some b=>rfl
  · obtain⟨j,v,h',nx',hc,id,e,rfl,hg⟩:=he (nK W)
    have hs:SS (nK W) W.heap.size W (fun _=>none) .e 0 W:=⟨aEs W,fun _ _=>rfl⟩
    refine ((aAt (ro:=nK W) (N:=W.heap.size) (w0:=W) hz hn hm _ _ _ _ _ _ _ hc).2 _ W args.toArray hs (by simpa using LR.rigid hr)).mono fun en W' ⟨v',φ',he,hst,hv⟩=>?_
    subst he
    refine⟨?_,hst.size,fun b hb=>hst.frame b hb fun k B o r hk _=>absurd (T.get_e k) hk,hst.os,hst.tape,hst.output⟩
    obtain⟨B,b,r,o',p1,p2,p3⟩:=hst.ss.sim.own id _ hg
    have hB:W.heap.size≤B:=by
      rcases hst.img id B b r (by rw[hg]; simp) p1 with h1 | ⟨k0,o0,r0,h1,_⟩
      · exact h1
      · exact absurd (T.get_e k0) h1
    cases o'<;>first
      | exact p3.elim
      | skip
    rename_i C E F
    obtain⟨r1,r2,r3,r4⟩:=p3
    have hflat:∀ (i:Nat) (x:Value),cs[i]?=some x→C[b+i]?=some x:=fun i x hx=>by
      obtain⟨y,hy,hxy⟩:=r3 i x (by simpa using hx)
      rw[hy,hxy.of_flat (List.all_eq_true.1 hf x (List.mem_of_getElem? hx))]
    cases hv with
    | flat h=>cases h
    | sliceRo h _=>cases h
    | sliceOwn h1 h2 h3 h4 =>
      cases h2
      simp only at h1
      rw[p1] at h1
      cases h1
      exact⟨B,_,r,_,C,E,F,rfl,h3,by simpa using h4,hB,(hst.ss.sim.dom id B b r p1).2,p2,r1,by simpa using r2,hflat,r4⟩
    | sliceEnd h1 h2=>omega
    | sliceNo h=>cases h
end V
end Go.Proofs.YtcaccnneblghgaaGreat
namespace Go.Proofs.YtcaccnneblghgaaGreat
namespace V
attribute [local irreducible] rJ aN aB
abbrev vX:FuncId:=8
abbrev uY:FuncId:=10
abbrev aDT:FuncId:=12
abbrev s7:FuncId:=13
abbrev uX:FuncId:=14
abbrev uC:FuncId:=16
abbrev wV:FuncId:=17
abbrev yP:FuncId:=20
abbrev vC:FuncId:=21
abbrev aF0:FuncId:=30
abbrev aF1:FuncId:=31
abbrev aGu:FuncId:=32
abbrev aGt:FuncId:=33
abbrev aA0:FuncId:=34
abbrev yO:FuncId:=36
abbrev iC:FuncId:=37
abbrev fK:FuncId:=38
abbrev aAw:FuncId:=39
abbrev jE:FuncId:=42
abbrev rS:FuncId:=44
abbrev wU:FuncId:=45
abbrev aEO:FuncId:=65
abbrev aEP:FuncId:=66
abbrev aEQ:FuncId:=67
abbrev pX:FuncId:=69
abbrev iD:FuncId:=70
abbrev eP:FuncId:=71
abbrev uW:FuncId:=72
abbrev aAx:FuncId:=73
abbrev rQ:FuncId:=74
abbrev uV:FuncId:=75
abbrev aBA:FuncId:=76
abbrev kG:FuncId:=78
abbrev s6:FuncId:=81
abbrev u0:FuncId:=82
abbrev vA:FuncId:=83
abbrev u7:FuncId:=102
abbrev rB:FuncId:=109
abbrev s8:FuncId:=110
abbrev fG:FuncId:=111
abbrev dR:FuncId:=112
abbrev wQ:FuncId:=113
abbrev mA:FuncId:=114
abbrev vD:FuncId:=115
abbrev s5:FuncId:=116
abbrev lX:FuncId:=117
abbrev iU:FuncId:=118
abbrev gF:FuncId:=119
abbrev iV:FuncId:=120
abbrev uZ:FuncId:=126
abbrev vB:FuncId:=127
abbrev uD:FuncId:=135
abbrev wS:FuncId:=136
abbrev pV:FuncId:=147
abbrev fH:FuncId:=152
abbrev wP:FuncId:=153
abbrev rR:FuncId:=154
abbrev fD:FuncId:=155
abbrev gD:FuncId:=156
abbrev mX:FuncId:=157
abbrev gM:FuncId:=164
abbrev uU:FuncId:=165
abbrev pW:FuncId:=166
abbrev wT:FuncId:=167
abbrev wR:FuncId:=178
abbrev yQ:FuncId:=179
abbrev aAz:FuncId:=180
abbrev fP:FuncId:=182
abbrev oR:FuncId:=187
abbrev aAy:FuncId:=192
abbrev dZ:TypeId:=3
abbrev aFJ:TypeId:=4
abbrev cB:TypeId:=5
abbrev pF:TypeId:=9
abbrev jX:TypeId:=22
abbrev eE:TypeId:=28
abbrev jA:TypeId:=31
abbrev iM:TypeId:=32
abbrev dI:TypeId:=34
abbrev a8:TypeId:=42
abbrev eG:TypeId:=43
abbrev bE:TypeId:=49
abbrev xK:TypeId:=57
abbrev dP:TypeId:=59
abbrev mL:TypeId:=60
abbrev iN:TypeId:=61
abbrev bI:TypeId:=63
abbrev cS:TypeId:=65
abbrev eB:TypeId:=84
abbrev kP:TypeId:=95
abbrev i3:TypeId:=96
abbrev aR:TypeId:=98
abbrev iQ:TypeId:=101
abbrev lD:TypeId:=146
abbrev bH:TypeId:=148
abbrev gP:TypeId:=149
abbrev lF:TypeId:=150
abbrev gH:TypeId:=158
abbrev bC:TypeId:=160
abbrev i8:TypeId:=163
abbrev lB:TypeId:=168
abbrev eN:TypeId:=200
abbrev cL:TypeId:=202
abbrev d4:TypeId:=213
abbrev bM:TypeId:=218
@[irreducible] def mG (ro:Ro) (v0:Value) (h:T Obj) (nx:Nat) (K:KV):Prop:=aB (slB .eql v0 (Value.slice none 0 0)) fun a'=>aQ a' (∃ h2,Sub h2 h∧K (Value.slice none 0 0) h2 (nx+4)) (aB (bQ Tryz.prog jX (nx+3) 0 []) fun r3=>eS h (nx+3) r3.2 fun h4=>aB (cA Tryz.prog ro h4 (nx+6) #[jX,jX] [r3.1,v0]) fun r5=>∃ h6,Sub h6 r5.2.1∧K r5.1 h6 (r5.2.2+1))
theorem qS {ro:Ro}{v0:Value}{h:T Obj}{nx:Nat}{K:KV} (hw:mG ro v0 h nx K):aN Tryz.prog ro iC [v0] h nx K:=a7 (P:=Tryz.prog) (fn:=Tryz.f37) (by kernel_rfl) (by kernel_rfl) (by kernel_rfl) (Eq.mpr (by kernel_rfl) hw)
@[irreducible] def qR (ro:Ro) (v0:Value) (h:T Obj) (nx:Nat) (K:KV):Prop:=aB (slB .eql v0 (Value.slice none 0 0)) fun a'=>aQ a' (∃ h2,Sub h2 h∧K (Value.slice none 0 0) h2 (nx+4)) (aB (bQ Tryz.prog jA (nx+3) 0 []) fun r3=>eS h (nx+3) r3.2 fun h4=>aB (cA Tryz.prog ro h4 (nx+6) #[jA,jA] [r3.1,v0]) fun r5=>∃ h6,Sub h6 r5.2.1∧K r5.1 h6 (r5.2.2+1))
theorem wE {ro:Ro}{v0:Value}{h:T Obj}{nx:Nat}{K:KV} (hw:qR ro v0 h nx K):aN Tryz.prog ro fK [v0] h nx K:=a7 (P:=Tryz.prog) (fn:=Tryz.f38) (by kernel_rfl) (by kernel_rfl) (by kernel_rfl) (Eq.mpr (by kernel_rfl) hw)
@[irreducible] def eF (ro:Ro) (K:KV):Env→T Obj→Nat→Prop:=fun e h nx=>∃ h4,Sub h4 h∧K (e 6) h4 (nx+2)
@[irreducible] def iX (ro:Ro):PT:=fun e h nx Q=>aB (aO .lss (e 27) (e 26)) fun b'=>aQ b' (aB (cN 1 (e 25) (e 27)) fun c'=>aB (load1 ro h c') fun a'=>aB (cA Tryz.prog ro h (nx+7) #[a8,a8] [(e 6),a']) fun r9=>aB (aO .add (e 27) (Value.int IntKind.i64 1)) fun d'=>Q .normal (puts e [(28,b'),(29,c'),(30,a'),(8,a'),(31,(e 6)),(32,a'),(33,r9.1),(6,r9.1),(34,d'),(27,d')]) r9.2.1 (r9.2.2+3)) (Q (.exit 2) (puts e [(28,b')]) h (nx+1))
@[irreducible] def gG (ro:Ro) (K:KV):Env→T Obj→Nat→Prop:=fun e h nx=>aN Tryz.prog ro kG [(Value.slice none 0 0),(e 3)] h (nx+2) fun d' h2 n3=>aB (bG (e 0)) fun f'=>dO (iX ro) (puts e [(23,(e 3)),(24,d'),(6,d'),(25,(e 0)),(26,f'),(27,(Value.int IntKind.i64 0))]) h2 (n3+4) fun g' a' b' c'=>exP g' (eF ro K a' b' c') (fun h'=>cP (Nat.beq h' 2) (eF ro K a' b' c') (False)) (∃ e',Sub e' b'∧K (a' 2) e' c')
@[irreducible] def iY (ro:Ro) (Q:KE):Env→T Obj→Nat→Prop:=fun e h nx=>aB (aO .add (e 11) (Value.int IntKind.i64 1)) fun a'=>Q .normal (puts e [(22,a'),(11,a')]) h (nx+2)
@[irreducible] def mH (ro:Ro):PT:=fun e h nx Q=>aB (aO .lss (e 11) (e 10)) fun c'=>aQ c' (aB (cN 1 (e 9) (e 11)) fun d'=>aB (load1 ro h d') fun a'=>aB (bG a') fun e'=>aB (aO .add (e 3) e') fun b'=>aB (aO .lss b' (Value.int IntKind.i64 0)) fun f'=>aQ f' (False) (iY ro Q (puts e [(12,c'),(13,d'),(14,a'),(5,a'),(15,(e 3)),(16,a'),(17,e'),(18,b'),(3,b'),(19,b'),(20,f')]) h (nx+11))) (Q (.exit 0) (puts e [(12,c')]) h (nx+1))
@[irreducible] def oA (ro:Ro) (v0:Value) (h:T Obj) (nx:Nat) (K:KV):Prop:=aB (bG v0) fun e'=>dO (mH ro) (puts (gK [v0]) [(2,(Value.slice none 0 0)),(3,(Value.int IntKind.i64 0)),(9,v0),(10,e'),(11,(Value.int IntKind.i64 0))]) h (nx+5) fun f' a' b' c'=>exP f' (gG ro K a' b' c') (fun g'=>cP (Nat.beq g' 0) (gG ro K a' b' c') (False)) (∃ d',Sub d' b'∧K (a' 2) d' c')
theorem tP {ro:Ro}{v0:Value}{h:T Obj}{nx:Nat}{K:KV} (hw:oA ro v0 h nx K):aN Tryz.prog ro jE [v0] h nx K:=a7 (P:=Tryz.prog) (fn:=Tryz.f42) (by kernel_rfl) (by kernel_rfl) (by kernel_rfl) (Eq.mpr (by kernel_rfl) hw)
@[irreducible] def hN (ro:Ro) (K:KV):Env→T Obj→Nat→Prop:=fun e h nx=>∃ h1,Sub h1 h∧K (Value.int IntKind.i64 (-1)) h1 (nx+1)
@[irreducible] def kU (ro:Ro):PT:=fun e h nx Q=>aB (aO .lss (e 8) (e 7)) fun a'=>aQ a' (aB (cN 1 (e 0) (e 8)) fun b'=>aB (load1 ro h b') fun c'=>aB (aFA .eql (e 1) c') fun d'=>aQ d' (Q .ret (puts e [(9,a'),(10,(e 8)),(5,(e 8)),(11,(e 1)),(12,(e 0)),(13,(e 8)),(14,b'),(15,c'),(16,d'),(17,(e 8)),(4,(e 8))]) h (nx+11)) (aB (aO .add (e 8) (Value.int IntKind.i64 1)) fun e'=>Q .normal (puts e [(9,a'),(10,(e 8)),(5,(e 8)),(11,(e 1)),(12,(e 0)),(13,(e 8)),(14,b'),(15,c'),(16,d'),(18,e'),(8,e')]) h (nx+11))) (Q (.exit 0) (puts e [(9,a')]) h (nx+1))
@[irreducible] def mI (ro:Ro) (v0 v1:Value) (h:T Obj) (nx:Nat) (K:KV):Prop:=aB (bG v0) fun c'=>dO (kU ro) (puts (gK [v0,v1]) [(4,(Value.int IntKind.i64 0)),(6,v0),(7,c'),(8,(Value.int IntKind.i64 0))]) h (nx+4) fun d' e8 h9 a'=>exP d' (hN ro K e8 h9 a') (fun e'=>cP (Nat.beq e' 0) (hN ro K e8 h9 a') (False)) (∃ b',Sub b' h9∧K (e8 4) b' a')
theorem qU {ro:Ro}{v0 v1:Value}{h:T Obj}{nx:Nat}{K:KV} (hw:mI ro v0 v1 h nx K):aN Tryz.prog ro iD [v0,v1] h nx K:=a7 (P:=Tryz.prog) (fn:=Tryz.f70) (by kernel_rfl) (by kernel_rfl) (by kernel_rfl) (Eq.mpr (by kernel_rfl) hw)
@[irreducible] def gS (ro:Ro) (v0 v1:Value) (h:T Obj) (nx:Nat) (K:KV):Prop:=aN Tryz.prog ro fG [v0,v1] h (nx+4) fun a' h2 n3=>aB (aO .geq a' (Value.int IntKind.i64 0)) fun b'=>∃ h5,Sub h5 h2∧K b' h5 (n3+2)
theorem k9 {ro:Ro}{v0 v1:Value}{h:T Obj}{nx:Nat}{K:KV} (hw:gS ro v0 v1 h nx K):aN Tryz.prog ro eP [v0,v1] h nx K:=a7 (P:=Tryz.prog) (fn:=Tryz.f71) (by kernel_rfl) (by kernel_rfl) (by kernel_rfl) (Eq.mpr (by kernel_rfl) hw)
@[irreducible] def lE (ro:Ro) (K:KV):Env→T Obj→Nat→Prop:=fun e h nx=>aB (loadA ro h 259 (e 1)) fun c'=>aB (fO Tryz.prog d4 [(0,c')]) fun d'=>aB (zer Tryz.prog d4) fun e'=>cV h (nx+2) (.cells e'.cells d4) fun f'=>aB (bY 259 f' (ptr (nx+2)) d') fun a'=>aB (aS 258 (e 1)) fun g'=>aB (load1 ro a' g') fun h'=>aN Tryz.prog ro dR [h',(.func (.func s5) #[] #[(ptr (nx+2))])] a' (nx+8) fun i' j' k'=>aB (unV .not i') fun l'=>∃ b',Sub b' j'∧K l' b' (k'+2)
@[irreducible] def uS (ro:Ro):PT:=fun e h nx Q=>aB (aO .lss (e 47) (e 46)) fun d'=>aQ d' (aB (cN 2 (e 45) (e 47)) fun e'=>aB (loadA ro h 2 e') fun f'=>aB (zer Tryz.prog gP) fun S'=>cV h (nx+3) (.cells S'.cells gP) fun T'=>aB (bY 2 T' (ptr (nx+3)) f') fun g'=>aB (ixArr 2 1 (ptr (nx+3)) (Value.int IntKind.i64 0)) fun h'=>aB (load1 ro g' h') fun i'=>aB (aO .lss i' (Value.int IntKind.i64 1)) fun a'=>ifP a' false g' (nx+9) (fun U'=>aB (ixArr 2 1 (ptr (nx+3)) (Value.int IntKind.i64 0)) fun V'=>U' V' g' (nx+10)) fun j' k' z'=>ifP a' false k' z' (fun W'=>aB (load1 ro k' j') fun X'=>W' X' k' (z'+1)) fun l' A' B'=>ifP a' false A' B' (fun Y'=>aB (ixArr 2 1 (ptr (nx+3)) (Value.int IntKind.i64 1)) fun Z'=>Y' Z' A' (B'+1)) fun m' n' C'=>ifP a' false n' C' (fun aa'=>aB (load1 ro n' m') fun ab'=>aa' ab' n' (C'+1)) fun o' D' E'=>ifP a' false D' E' (fun ac'=>aB (aO .gtr l' o') fun ad'=>ac' ad' D' (E'+1)) fun p' F' G'=>aB (bL a' (Value.bool true) p') fun b'=>ifP b' false F' (G'+2) (fun ae'=>aB (ixArr 2 1 (ptr (nx+3)) (Value.int IntKind.i64 1)) fun af'=>ae' af' F' (G'+3)) fun q' r' H'=>ifP b' false r' H' (fun ag'=>aB (load1 ro r' q') fun ah'=>ag' ah' r' (H'+1)) fun s' I' J'=>ifP b' false I' J' (fun ai'=>aB (aO .lss s' (Value.int IntKind.i64 2)) fun aj'=>ai' aj' I' (J'+1)) fun t' K' L'=>aB (bL b' (Value.bool true) t') fun c'=>ifP c' false K' (L'+2) (fun ak'=>aB (ixArr 2 1 (ptr (nx+3)) (Value.int IntKind.i64 1)) fun al'=>ak' al' K' (L'+3)) fun u' v' M'=>ifP c' false v' M' (fun am'=>aB (load1 ro v' u') fun an'=>am' an' v' (M'+1)) fun w' N' O'=>ifP c' false N' O' (fun ao'=>aB (aO .gtr w' (Value.int IntKind.i64 4096)) fun ap'=>ao' ap' N' (O'+1)) fun x' P' Q'=>aB (bL c' (Value.bool true) x') fun y'=>aQ y' (Q .ret (puts e [(48,d'),(49,e'),(50,f'),(4,(ptr (nx+3))),(51,h'),(52,i'),(53,a'),(54,a'),(55,j'),(56,l'),(57,m'),(58,o'),(59,p'),(60,b'),(61,b'),(62,q'),(63,s'),(64,t'),(65,c'),(66,c'),(67,u'),(68,w'),(69,x'),(70,y'),(2,(Value.bool false))]) P' (Q'+2)) (aB (aO .add (e 47) (Value.int IntKind.i64 1)) fun R'=>Q .normal (puts e [(48,d'),(49,e'),(50,f'),(4,(ptr (nx+3))),(51,h'),(52,i'),(53,a'),(54,a'),(55,j'),(56,l'),(57,m'),(58,o'),(59,p'),(60,b'),(61,b'),(62,q'),(63,s'),(64,t'),(65,c'),(66,c'),(67,u'),(68,w'),(69,x'),(70,y'),(71,R'),(47,R')]) P' (Q'+3))) (Q (.exit 0) (puts e [(48,d')]) h (nx+1))
@[irreducible] def aDj (ro:Ro) (v0:Value) (h:T Obj) (nx:Nat) (K:KV):Prop:=cV h nx (.cells (Value.cells v0) bI) fun h1=>aB (aS 0 (ptr nx)) fun p'=>aB (loadA ro h1 257 p') fun q'=>aN Tryz.prog ro vD [q'] h1 (nx+40) fun r' h5 n6=>aB (unV .not r') fun b'=>ifP b' false h5 n6 (fun k8=>aB (aS 257 (ptr nx)) fun aP'=>k8 aP' h5 n6) fun s' e' t'=>ifP b' false e' t' (fun aQ'=>aB (load1 ro e' s') fun aR'=>aQ' aR' e' t') fun u' v' w'=>ifP b' false v' w' (fun aS'=>aB (bG u') fun aT'=>aS' aT' v' w') fun x' y' z'=>ifP b' false y' z' (fun aU'=>aB (aO .gtr x' (Value.int IntKind.i64 512)) fun aV'=>aU' aV' y' z') fun A' B' C'=>aB (bL b' (Value.bool true) A') fun c'=>ifP c' false B' C' (fun aW'=>aB (aS 258 (ptr nx)) fun aX'=>aW' aX' B' C') fun D' f' E'=>ifP c' false f' E' (fun aY'=>aB (load1 ro f' D') fun aZ'=>aY' aZ' f' E') fun F' G' H'=>ifP c' false G' H' (fun a0'=>aB (bG F') fun a1'=>a0' a1' G' H') fun I' J' K'=>ifP c' false J' K' (fun a2'=>aB (aO .lss I' (Value.int IntKind.i64 1)) fun a3'=>a2' a3' J' K') fun L' M' N'=>aB (bL c' (Value.bool true) L') fun d'=>ifP d' false M' N' (fun a4'=>aB (aS 258 (ptr nx)) fun a5'=>a4' a5' M' N') fun O' g' P'=>ifP d' false g' P' (fun a6'=>aB (load1 ro g' O') fun a7'=>a6' a7' g' P') fun Q' R' S'=>ifP d' false R' S' (fun a8'=>aB (bG Q') fun a9'=>a8' a9' R' S') fun T' U' V'=>ifP d' false U' V' (fun ba'=>aB (aO .gtr T' (Value.int IntKind.i64 256)) fun bb'=>ba' bb' U' V') fun W' X' Y'=>aB (bL d' (Value.bool true) W') fun a'=>ifP a' false X' Y' (fun bc'=>aB (aS 258 (ptr nx)) fun bd'=>bc' bd' X' Y') fun Z' h' aa'=>ifP a' false h' aa' (fun be'=>aB (load1 ro h' Z') fun bf'=>be' bf' h' aa') fun ab' ac' ad'=>ifP a' false ac' ad' (fun bg'=>aB (cN 4 ab' (Value.int IntKind.i64 0)) fun bh'=>bg' bh' ac' ad') fun ae' af' ag'=>ifP a' false af' ag' (fun bi'=>aB (aS 0 ae') fun bj'=>bi' bj' af' ag') fun ah' i' ai'=>ifP a' false i' ai' (fun bk'=>aB (load1 ro i' ah') fun bl'=>bk' bl' i' ai') fun aj' ak' al'=>ifP a' false ak' al' (fun bm'=>aB (bG aj') fun bn'=>bm' bn' ak' al') fun am' an' ao'=>ifP a' false an' ao' (fun bo'=>aB (aS 258 (ptr nx)) fun bp'=>bo' bp' an' ao') fun ap' j' aq'=>ifP a' false j' aq' (fun bq'=>aB (load1 ro j' ap') fun br'=>bq' br' j' aq') fun ar' as' at'=>ifP a' false as' at' (fun bs'=>aB (cN 4 ar' (Value.int IntKind.i64 0)) fun bt'=>bs' bt' as' at') fun au' av' aw'=>ifP a' false av' aw' (fun bu'=>aB (aS 1 au') fun bv'=>bu' bv' av' aw') fun ax' k' ay'=>ifP a' false k' ay' (fun bw'=>aB (load1 ro k' ax') fun bx'=>bw' bx' k' ay') fun az' aA' aB'=>ifP a' false aA' aB' (fun by'=>aB (bG az') fun bz'=>by' bz' aA' aB') fun aC' aD' aE'=>ifP a' false aD' aE' (fun bA'=>aB (aO .add am' aC') fun bB'=>bA' bB' aD' aE') fun aF' aG' aH'=>ifP a' false aG' aH' (fun bC'=>aB (aO .gtr aF' (Value.int IntKind.i64 0)) fun bD'=>bC' bD' aG' aH') fun aI' l' aJ'=>aB (bL a' (Value.bool true) aI') fun aK'=>aQ aK' (∃ aL',Sub aL' l'∧K (Value.bool false) aL' (aJ'+1)) (aB (aS 257 (ptr nx)) fun aM'=>aB (load1 ro l' aM') fun aN'=>aB (bG aN') fun bE'=>dO (uS ro) (puts (gK [v0]) [(1,(ptr nx)),(2,(Value.bool false)),(6,p'),(7,q'),(8,r'),(9,b'),(10,b'),(11,s'),(12,u'),(13,x'),(14,A'),(15,c'),(16,c'),(17,D'),(18,F'),(19,I'),(20,L'),(21,d'),(22,d'),(23,O'),(24,Q'),(25,T'),(26,W'),(27,a'),(28,a'),(29,Z'),(30,ab'),(31,ae'),(32,ah'),(33,aj'),(34,am'),(35,ap'),(36,ar'),(37,au'),(38,ax'),(39,az'),(40,aC'),(41,aF'),(42,aI'),(43,aK'),(44,aM'),(45,aN'),(46,bE'),(47,(Value.int IntKind.i64 0))]) l' (aJ'+4) fun bF' m' n' o'=>exP bF' (lE ro K m' n' o') (fun bG'=>cP (Nat.beq bG' 0) (lE ro K m' n' o') (False)) (∃ aO',Sub aO' n'∧K (m' 2) aO' o'))
theorem aFP {ro:Ro}{v0:Value}{h:T Obj}{nx:Nat}{K:KV} (hw:aDj ro v0 h nx K):aN Tryz.prog ro rQ [v0] h nx K:=a7 (P:=Tryz.prog) (fn:=Tryz.f74) (by kernel_rfl) (by kernel_rfl) (by kernel_rfl) (Eq.mpr (by kernel_rfl) hw)
@[irreducible] def gW (ro:Ro) (K:KV):Env→T Obj→Nat→Prop:=fun e h nx=>∃ h1,Sub h1 h∧K (e 0) h1 (nx+2)
@[irreducible] def jW (ro:Ro) (K:KV):Env→T Obj→Nat→Prop:=fun e h nx=>aB (eZ Tryz.prog h .cap #[a8] [(e 0)]) fun b'=>aB (bG (e 0)) fun c'=>aB (aO .sub b' c') fun d'=>aB (aO .sub (e 1) d') fun a'=>aB (aO .gtr a' (Value.int IntKind.i64 0)) fun e'=>aQ e' (aB (eZ Tryz.prog h .cap #[a8] [(e 0)]) fun f'=>aB (kZ Tryz.prog a8 (e 0) none (some f') none) fun g'=>aB (cA Tryz.prog ro h (nx+16) #[a8,dZ] [g',a']) fun r9=>aB (bG (e 0)) fun h'=>aB (kZ Tryz.prog a8 r9.1 none (some h') none) fun i'=>gW ro K (puts e [(8,(e 1)),(9,(e 0)),(10,b'),(11,(e 0)),(12,c'),(13,d'),(14,a'),(1,a'),(15,a'),(16,e'),(17,(e 0)),(18,(e 0)),(19,f'),(20,g'),(21,a'),(22,r9.1),(23,(e 0)),(24,h'),(25,i'),(0,i')]) r9.2.1 (r9.2.2+4)) (gW ro K (puts e [(8,(e 1)),(9,(e 0)),(10,b'),(11,(e 0)),(12,c'),(13,d'),(14,a'),(1,a'),(15,a'),(16,e')]) h (nx+10))
@[irreducible] def pM (ro:Ro) (v0 v1:Value) (h:T Obj) (nx:Nat) (K:KV):Prop:=aB (aO .lss v1 (Value.int IntKind.i64 0)) fun a'=>aQ a' (False) (jW ro K (puts (gK [v0,v1]) [(4,(Value.slice none 0 0)),(5,v1),(6,a')]) h (nx+3))
theorem vI {ro:Ro}{v0 v1:Value}{h:T Obj}{nx:Nat}{K:KV} (hw:pM ro v0 v1 h nx K):aN Tryz.prog ro kG [v0,v1] h nx K:=a7 (P:=Tryz.prog) (fn:=Tryz.f78) (by kernel_rfl) (by kernel_rfl) (by kernel_rfl) (Eq.mpr (by kernel_rfl) hw)
@[irreducible] def tH (ro:Ro) (K:KV):Env→T Obj→Nat→Prop:=fun e h nx=>∃ h144,Sub h144 h∧K (Value.bool true) h144 (nx+1)
@[irreducible] def zA (ro:Ro):PT:=fun e h nx Q=>aB (aS 258 (e 1)) fun a'=>aB (load1 ro h a') fun b'=>aB (bG b') fun c'=>aB (aO .lss (e 5) c') fun d'=>aQ d' (aB (loadA ro h 259 (e 1)) fun e'=>aB (aS 258 (e 1)) fun f'=>aB (load1 ro h f') fun g'=>aB (cN 4 g' (e 5)) fun h'=>aB (loadA ro h 4 h') fun i'=>aN Tryz.prog ro vB [e',i'] h (nx+13) fun j' l' m'=>aB (unV .not j') fun k'=>aQ k' (Q .ret (puts e [(78,(e 5)),(79,a'),(80,b'),(81,c'),(82,d'),(85,e'),(86,f'),(87,g'),(88,(e 5)),(89,h'),(90,i'),(91,j'),(92,k'),(2,(Value.bool false))]) l' (m'+1)) (aB (aO .add (e 5) (Value.int IntKind.i64 1)) fun n'=>Q .normal (puts e [(78,(e 5)),(79,a'),(80,b'),(81,c'),(82,d'),(85,e'),(86,f'),(87,g'),(88,(e 5)),(89,h'),(90,i'),(91,j'),(92,k'),(83,(e 5)),(84,n'),(5,n')]) l' (m'+3))) (Q (.exit 2) (puts e [(78,(e 5)),(79,a'),(80,b'),(81,c'),(82,d')]) h (nx+5))
@[irreducible] def oY (ro:Ro) (K:KV):Env→T Obj→Nat→Prop:=fun e h nx=>dO (zA ro) (puts e [(5,(Value.int IntKind.i64 0))]) h (nx+1) fun x162 e159 h160 n161=>exP x162 (tH ro K e159 h160 n161) (fun i163=>cP (Nat.beq i163 2) (tH ro K e159 h160 n161) (False)) (∃ h164,Sub h164 h160∧K (e159 2) h164 n161)
@[irreducible] def zB (ro:Ro):PT:=fun e h nx Q=>aB (aS 257 (e 1)) fun d'=>aB (load1 ro h d') fun e'=>aB (bG e') fun f'=>aB (aO .lss (e 3) f') fun g'=>aQ g' (aB (aS 257 (e 1)) fun h'=>aB (load1 ro h h') fun i'=>aB (cN 2 i' (e 3)) fun j'=>aB (loadA ro h 2 j') fun k'=>aB (zer Tryz.prog gP) fun X'=>cV h (nx+10) (.cells X'.cells gP) fun Y'=>aB (bY 2 Y' (ptr (nx+10)) k') fun l'=>aB (ixArr 2 1 (ptr (nx+10)) (Value.int IntKind.i64 0)) fun m'=>aB (load1 ro l' m') fun n'=>aB (aO .lss n' (Value.int IntKind.i64 1)) fun a'=>ifP a' false l' (nx+16) (fun Z'=>aB (ixArr 2 1 (ptr (nx+10)) (Value.int IntKind.i64 0)) fun aa'=>Z' aa' l' (nx+17)) fun o' p' E'=>ifP a' false p' E' (fun ab'=>aB (load1 ro p' o') fun ac'=>ab' ac' p' (E'+1)) fun q' F' G'=>ifP a' false F' G' (fun ad'=>aB (ixArr 2 1 (ptr (nx+10)) (Value.int IntKind.i64 1)) fun ae'=>ad' ae' F' (G'+1)) fun r' s' H'=>ifP a' false s' H' (fun af'=>aB (load1 ro s' r') fun ag'=>af' ag' s' (H'+1)) fun t' I' J'=>ifP a' false I' J' (fun ah'=>aB (aO .gtr q' t') fun ai'=>ah' ai' I' (J'+1)) fun u' K' L'=>aB (bL a' (Value.bool true) u') fun b'=>ifP b' false K' (L'+2) (fun aj'=>aB (ixArr 2 1 (ptr (nx+10)) (Value.int IntKind.i64 1)) fun ak'=>aj' ak' K' (L'+3)) fun v' w' M'=>ifP b' false w' M' (fun al'=>aB (load1 ro w' v') fun am'=>al' am' w' (M'+1)) fun x' N' O'=>ifP b' false N' O' (fun an'=>aB (aO .lss x' (Value.int IntKind.i64 2)) fun ao'=>an' ao' N' (O'+1)) fun y' P' Q'=>aB (bL b' (Value.bool true) y') fun c'=>ifP c' false P' (Q'+2) (fun ap'=>aB (ixArr 2 1 (ptr (nx+10)) (Value.int IntKind.i64 1)) fun aq'=>ap' aq' P' (Q'+3)) fun z' A' R'=>ifP c' false A' R' (fun ar'=>aB (load1 ro A' z') fun as'=>ar' as' A' (R'+1)) fun B' S' T'=>ifP c' false S' T' (fun at'=>aB (aO .gtr B' (Value.int IntKind.i64 4096)) fun au'=>at' au' S' (T'+1)) fun C' U' V'=>aB (bL c' (Value.bool true) C') fun D'=>aQ D' (Q .ret (puts e [(46,(e 3)),(47,d'),(48,e'),(49,f'),(50,g'),(53,h'),(54,i'),(55,(e 3)),(56,j'),(57,k'),(4,(ptr (nx+10))),(58,m'),(59,n'),(60,a'),(61,a'),(62,o'),(63,q'),(64,r'),(65,t'),(66,u'),(67,b'),(68,b'),(69,v'),(70,x'),(71,y'),(72,c'),(73,c'),(74,z'),(75,B'),(76,C'),(77,D'),(2,(Value.bool false))]) U' (V'+2)) (aB (aO .add (e 3) (Value.int IntKind.i64 1)) fun W'=>Q .normal (puts e [(46,(e 3)),(47,d'),(48,e'),(49,f'),(50,g'),(53,h'),(54,i'),(55,(e 3)),(56,j'),(57,k'),(4,(ptr (nx+10))),(58,m'),(59,n'),(60,a'),(61,a'),(62,o'),(63,q'),(64,r'),(65,t'),(66,u'),(67,b'),(68,b'),(69,v'),(70,x'),(71,y'),(72,c'),(73,c'),(74,z'),(75,B'),(76,C'),(77,D'),(51,(e 3)),(52,W'),(3,W')]) U' (V'+4))) (Q (.exit 0) (puts e [(46,(e 3)),(47,d'),(48,e'),(49,f'),(50,g')]) h (nx+5))
@[irreducible] def aDB (ro:Ro) (v0:Value) (h:T Obj) (nx:Nat) (K:KV):Prop:=cV h nx (.cells (Value.cells v0) bI) fun h1=>aB (aS 0 (ptr nx)) fun p'=>aB (loadA ro h1 257 p') fun q'=>aN Tryz.prog ro uZ [q'] h1 (nx+5) fun r' h5 n6=>aB (unV .not r') fun c'=>ifP c' false h5 (n6+2) (fun k8=>aB (aS 257 (ptr nx)) fun aO'=>k8 aO' h5 (n6+3)) fun s' f' t'=>ifP c' false f' t' (fun aP'=>aB (load1 ro f' s') fun aQ'=>aP' aQ' f' (t'+1)) fun u' v' w'=>ifP c' false v' w' (fun aR'=>aB (bG u') fun aS'=>aR' aS' v' (w'+1)) fun x' y' z'=>ifP c' false y' z' (fun aT'=>aB (aO .gtr x' (Value.int IntKind.i64 512)) fun aU'=>aT' aU' y' (z'+1)) fun A' B' C'=>aB (bL c' (Value.bool true) A') fun d'=>ifP d' false B' (C'+2) (fun aV'=>aB (aS 258 (ptr nx)) fun aW'=>aV' aW' B' (C'+3)) fun D' g' E'=>ifP d' false g' E' (fun aX'=>aB (load1 ro g' D') fun aY'=>aX' aY' g' (E'+1)) fun F' G' H'=>ifP d' false G' H' (fun aZ'=>aB (bG F') fun a0'=>aZ' a0' G' (H'+1)) fun I' J' K'=>ifP d' false J' K' (fun a1'=>aB (aO .lss I' (Value.int IntKind.i64 1)) fun a2'=>a1' a2' J' (K'+1)) fun L' M' N'=>aB (bL d' (Value.bool true) L') fun e'=>ifP e' false M' (N'+2) (fun a3'=>aB (aS 258 (ptr nx)) fun a4'=>a3' a4' M' (N'+3)) fun O' h' P'=>ifP e' false h' P' (fun a5'=>aB (load1 ro h' O') fun a6'=>a5' a6' h' (P'+1)) fun Q' R' S'=>ifP e' false R' S' (fun a7'=>aB (bG Q') fun a8'=>a7' a8' R' (S'+1)) fun T' U' V'=>ifP e' false U' V' (fun a9'=>aB (aO .gtr T' (Value.int IntKind.i64 256)) fun ba'=>a9' ba' U' (V'+1)) fun W' X' Y'=>aB (bL e' (Value.bool true) W') fun a'=>ifP a' false X' (Y'+2) (fun bb'=>aB (aS 258 (ptr nx)) fun bc'=>bb' bc' X' (Y'+3)) fun Z' i' aa'=>ifP a' false i' aa' (fun bd'=>aB (load1 ro i' Z') fun be'=>bd' be' i' (aa'+1)) fun ab' ac' ad'=>ifP a' false ac' ad' (fun bf'=>aB (cN 4 ab' (Value.int IntKind.i64 0)) fun bg'=>bf' bg' ac' (ad'+1)) fun ae' af' ag'=>ifP a' false af' ag' (fun bh'=>aB (aS 0 ae') fun bi'=>bh' bi' af' (ag'+1)) fun ah' j' ai'=>ifP a' false j' ai' (fun bj'=>aB (load1 ro j' ah') fun bk'=>bj' bk' j' (ai'+1)) fun aj' ak' al'=>ifP a' false ak' al' (fun bl'=>aB (bG aj') fun bm'=>bl' bm' ak' (al'+1)) fun am' an' ao'=>ifP a' false an' ao' (fun bn'=>aB (aO .gtr am' (Value.int IntKind.i64 0)) fun bo'=>bn' bo' an' (ao'+1)) fun ap' aq' ar'=>aB (bL a' (Value.bool true) ap') fun b'=>ifP b' false aq' (ar'+2) (fun bp'=>aB (aS 258 (ptr nx)) fun bq'=>bp' bq' aq' (ar'+3)) fun as' k' at'=>ifP b' false k' at' (fun br'=>aB (load1 ro k' as') fun bs'=>br' bs' k' (at'+1)) fun au' av' aw'=>ifP b' false av' aw' (fun bt'=>aB (cN 4 au' (Value.int IntKind.i64 0)) fun bu'=>bt' bu' av' (aw'+1)) fun ax' ay' az'=>ifP b' false ay' az' (fun bv'=>aB (aS 1 ax') fun bw'=>bv' bw' ay' (az'+1)) fun aA' l' aB'=>ifP b' false l' aB' (fun bx'=>aB (load1 ro l' aA') fun by'=>bx' by' l' (aB'+1)) fun aC' aD' aE'=>ifP b' false aD' aE' (fun bz'=>aB (bG aC') fun bA'=>bz' bA' aD' (aE'+1)) fun aF' aG' aH'=>ifP b' false aG' aH' (fun bB'=>aB (aO .gtr aF' (Value.int IntKind.i64 0)) fun bC'=>bB' bC' aG' (aH'+1)) fun aI' aJ' aK'=>aB (bL b' (Value.bool true) aI') fun aL'=>aQ aL' (∃ aM',Sub aM' aJ'∧K (Value.bool false) aM' (aK'+2)) (dO (zB ro) (puts (gK [v0]) [(1,(ptr nx)),(2,(Value.bool false)),(6,p'),(7,q'),(8,r'),(9,c'),(10,c'),(11,s'),(12,u'),(13,x'),(14,A'),(15,d'),(16,d'),(17,D'),(18,F'),(19,I'),(20,L'),(21,e'),(22,e'),(23,O'),(24,Q'),(25,T'),(26,W'),(27,a'),(28,a'),(29,Z'),(30,ab'),(31,ae'),(32,ah'),(33,aj'),(34,am'),(35,ap'),(36,b'),(37,b'),(38,as'),(39,au'),(40,ax'),(41,aA'),(42,aC'),(43,aF'),(44,aI'),(45,aL'),(3,(Value.int IntKind.i64 0))]) aJ' (aK'+2) fun bD' m' n' o'=>exP bD' (oY ro K m' n' o') (fun bE'=>cP (Nat.beq bE' 0) (oY ro K m' n' o') (False)) (∃ aN',Sub aN' n'∧K (m' 2) aN' o'))
theorem aEh {ro:Ro}{v0:Value}{h:T Obj}{nx:Nat}{K:KV} (hw:aDB ro v0 h nx K):aN Tryz.prog ro vA [v0] h nx K:=a7 (P:=Tryz.prog) (fn:=Tryz.f83) (by kernel_rfl) (by kernel_rfl) (by kernel_rfl) (Eq.mpr (by kernel_rfl) hw)
@[irreducible] def tG (ro:Ro) (K:KV):Env→T Obj→Nat→Prop:=fun e h nx=>∃ h13,Sub h13 h∧K (e 3) h13 (nx+2)
@[irreducible] def y9 (ro:Ro):PT:=fun e h nx Q=>aB (aO .lss (e 4) (e 0)) fun a'=>aQ a' (aB (aO .mul (e 3) (Value.int IntKind.i64 3)) fun b'=>aB (aO .add (e 4) (Value.int IntKind.i64 1)) fun c'=>Q .normal (puts e [(11,(e 4)),(12,(e 0)),(13,a'),(16,(e 3)),(17,b'),(3,b'),(14,(e 4)),(15,c'),(4,c')]) h (nx+9)) (Q (.exit 0) (puts e [(11,(e 4)),(12,(e 0)),(13,a')]) h (nx+3))
@[irreducible] def aDA (ro:Ro) (v0:Value) (h:T Obj) (nx:Nat) (K:KV):Prop:=aB (aO .lss v0 (Value.int IntKind.i64 0)) fun a'=>ifP a' false h (nx+4) (fun k2=>k2 v0 h (nx+5)) fun e' h4 n5=>ifP a' false h4 n5 (fun k6=>aB (aO .gtr e' (Value.int IntKind.i64 3)) fun j'=>k6 j' h4 (n5+1)) fun f' h8 n9=>aB (bL a' (Value.bool true) f') fun g'=>aQ g' (∃ h',Sub h' h8∧K (Value.int IntKind.i64 0) h' (n9+2)) (dO (y9 ro) (puts (gK [v0]) [(2,(Value.int IntKind.i64 0)),(5,v0),(6,a'),(7,a'),(8,e'),(9,f'),(10,g'),(3,(Value.int IntKind.i64 1)),(4,(Value.int IntKind.i64 0))]) h8 (n9+3) fun k' b' c' d'=>exP k' (tG ro K b' c' d') (fun l'=>cP (Nat.beq l' 0) (tG ro K b' c' d') (False)) (∃ i',Sub i' c'∧K (b' 2) i' d'))
theorem aEg {ro:Ro}{v0:Value}{h:T Obj}{nx:Nat}{K:KV} (hw:aDA ro v0 h nx K):aN Tryz.prog ro u7 [v0] h nx K:=a7 (P:=Tryz.prog) (fn:=Tryz.f102) (by kernel_rfl) (by kernel_rfl) (by kernel_rfl) (Eq.mpr (by kernel_rfl) hw)
@[irreducible] def fE (ro:Ro) (K:KV):Env→T Obj→Nat→Prop:=fun e h nx=>∃ h1,Sub h1 h∧K (Value.int IntKind.i64 (-1)) h1 (nx+1)
@[irreducible] def gU (ro:Ro):PT:=fun e h nx Q=>aB (aO .lss (e 8) (e 7)) fun a'=>aQ a' (aB (cN 260 (e 0) (e 8)) fun b'=>aB (loadA ro h 260 b') fun c'=>yB (aN Tryz.prog ro) (e 1) [c'] h (nx+9) fun d' h7 n8=>aQ d' (Q .ret (puts e [(9,a'),(10,(e 8)),(5,(e 8)),(11,(e 1)),(12,(e 0)),(13,(e 8)),(14,b'),(15,c'),(16,d'),(17,(e 8)),(4,(e 8))]) h7 (n8+2)) (aB (aO .add (e 8) (Value.int IntKind.i64 1)) fun e'=>Q .normal (puts e [(9,a'),(10,(e 8)),(5,(e 8)),(11,(e 1)),(12,(e 0)),(13,(e 8)),(14,b'),(15,c'),(16,d'),(18,e'),(8,e')]) h7 (n8+2))) (Q (.exit 0) (puts e [(9,a')]) h (nx+1))
@[irreducible] def iG (ro:Ro) (v0 v1:Value) (h:T Obj) (nx:Nat) (K:KV):Prop:=aB (bG v0) fun e'=>dO (gU ro) (puts (gK [v0,v1]) [(4,(Value.int IntKind.i64 0)),(6,v0),(7,e'),(8,(Value.int IntKind.i64 0))]) h (nx+4) fun f' a' b' c'=>exP f' (fE ro K a' b' c') (fun g'=>cP (Nat.beq g' 0) (fE ro K a' b' c') (False)) (∃ d',Sub d' b'∧K (a' 4) d' c')
theorem lN {ro:Ro}{v0 v1:Value}{h:T Obj}{nx:Nat}{K:KV} (hw:iG ro v0 v1 h nx K):aN Tryz.prog ro fG [v0,v1] h nx K:=a7 (P:=Tryz.prog) (fn:=Tryz.f111) (by kernel_rfl) (by kernel_rfl) (by kernel_rfl) (Eq.mpr (by kernel_rfl) hw)
@[irreducible] def gT (ro:Ro) (v0 v1:Value) (h:T Obj) (nx:Nat) (K:KV):Prop:=aN Tryz.prog ro fH [v0,v1] h (nx+4) fun a' h2 n3=>aB (aO .geq a' (Value.int IntKind.i64 0)) fun b'=>∃ h5,Sub h5 h2∧K b' h5 (n3+2)
theorem lA {ro:Ro}{v0 v1:Value}{h:T Obj}{nx:Nat}{K:KV} (hw:gT ro v0 v1 h nx K):aN Tryz.prog ro dR [v0,v1] h nx K:=a7 (P:=Tryz.prog) (fn:=Tryz.f112) (by kernel_rfl) (by kernel_rfl) (by kernel_rfl) (Eq.mpr (by kernel_rfl) hw)
@[irreducible] def i7 (ro:Ro) (K:KV):Env→T Obj→Nat→Prop:=fun e h nx=>∃ h3,Sub h3 h∧K (e 3) h3 (nx+2)
@[irreducible] def pN (ro:Ro):PT:=fun e h nx Q=>aB (bG (e 0)) fun a'=>aB (aO .lss (e 4) a') fun b'=>aQ b' (aB (cN 1 (e 0) (e 4)) fun c'=>aB (load1 ro h c') fun d'=>aB (eZ Tryz.prog h .max #[dZ,dZ] [(e 3),d']) fun e'=>aB (aO .add (e 4) (Value.int IntKind.i64 1)) fun f'=>Q .normal (puts e [(12,(e 4)),(13,(e 0)),(14,a'),(15,b'),(18,(e 3)),(19,(e 0)),(20,(e 4)),(21,c'),(22,d'),(23,e'),(3,e'),(16,(e 4)),(17,f'),(4,f')]) h (nx+14)) (Q (.exit 0) (puts e [(12,(e 4)),(13,(e 0)),(14,a'),(15,b')]) h (nx+4))
@[irreducible] def lI (ro:Ro) (K:KV):Env→T Obj→Nat→Prop:=fun e h nx=>aB (cN 1 (e 0) (Value.int IntKind.i64 0)) fun d'=>aB (load1 ro h d') fun e'=>dO (pN ro) (puts e [(9,(e 0)),(10,d'),(11,e'),(3,e'),(4,(Value.int IntKind.i64 1))]) h (nx+5) fun g' a' b' c'=>exP g' (i7 ro K a' b' c') (fun h'=>cP (Nat.beq h' 0) (i7 ro K a' b' c') (False)) (∃ f',Sub f' b'∧K (a' 2) f' c')
@[irreducible] def tR (ro:Ro) (v0:Value) (h:T Obj) (nx:Nat) (K:KV):Prop:=aB (bG v0) fun a'=>aB (aO .lss a' (Value.int IntKind.i64 1)) fun b'=>aQ b' (False) (lI ro K (puts (gK [v0]) [(2,(Value.int IntKind.i64 0)),(5,v0),(6,a'),(7,b')]) h (nx+4))
theorem x5 {ro:Ro}{v0:Value}{h:T Obj}{nx:Nat}{K:KV} (hw:tR ro v0 h nx K):aN Tryz.prog ro mA [v0] h nx K:=a7 (P:=Tryz.prog) (fn:=Tryz.f114) (by kernel_rfl) (by kernel_rfl) (by kernel_rfl) (Eq.mpr (by kernel_rfl) hw)
@[irreducible] def tS (ro:Ro) (K:KV):Env→T Obj→Nat→Prop:=fun e h nx=>aB (aS 256 (e 1)) fun a'=>aB (load1 ro h a') fun b'=>aB (aO .eql (e 3) b') fun c'=>∃ h5,Sub h5 h∧K c' h5 (nx+5)
@[irreducible] def pA (ro:Ro) (Q:KE):Env→T Obj→Nat→Prop:=fun e h nx=>aB (aO .add (e 8) (Value.int IntKind.i64 1)) fun a'=>Q .normal (puts e [(23,a'),(8,a')]) h (nx+2)
@[irreducible] def zU (ro:Ro):PT:=fun e h nx Q=>aB (aO .lss (e 8) (Value.int IntKind.i64 256)) fun c'=>aQ c' (aB (aOg 256 1 (e 7) (e 8)) fun a'=>aB (vQ .i64 a') fun e'=>aB (aO .gtr e' (e 3)) fun b'=>aQ b' (Q .ret (puts e [(9,c'),(10,a'),(5,a'),(12,a'),(13,e'),(14,(e 3)),(15,b'),(11,b'),(2,(Value.bool false))]) h (nx+9)) (aB (vQ .i64 a') fun f'=>aB (aO .eql f' (e 3)) fun d'=>aQ d' (aB (aO .add (e 3) (Value.int IntKind.i64 1)) fun g'=>pA ro Q (puts e [(9,c'),(10,a'),(5,a'),(12,a'),(13,e'),(14,(e 3)),(15,b'),(11,b'),(17,a'),(18,f'),(19,(e 3)),(20,d'),(16,d'),(21,(e 3)),(22,g'),(3,g')]) h (nx+16)) (pA ro Q (puts e [(9,c'),(10,a'),(5,a'),(12,a'),(13,e'),(14,(e 3)),(15,b'),(11,b'),(17,a'),(18,f'),(19,(e 3)),(20,d'),(16,d')]) h (nx+13)))) (Q (.exit 0) (puts e [(9,c')]) h (nx+1))
@[irreducible] def aDK (ro:Ro) (v0:Value) (h:T Obj) (nx:Nat) (K:KV):Prop:=cV h nx (.cells (Value.cells v0) dP) fun h1=>aB (aS 0 (ptr nx)) fun d'=>aB (loadA ro h1 256 d') fun f'=>dO (zU ro) (puts (gK [v0]) [(1,(ptr nx)),(2,(Value.bool false)),(3,(Value.int IntKind.i64 0)),(6,d'),(7,f'),(8,(Value.int IntKind.i64 0))]) h1 (nx+6) fun g' a' b' c'=>exP g' (tS ro K a' b' c') (fun h'=>cP (Nat.beq h' 0) (tS ro K a' b' c') (False)) (∃ e',Sub e' b'∧K (a' 2) e' c')
theorem aEx {ro:Ro}{v0:Value}{h:T Obj}{nx:Nat}{K:KV} (hw:aDK ro v0 h nx K):aN Tryz.prog ro vD [v0] h nx K:=a7 (P:=Tryz.prog) (fn:=Tryz.f115) (by kernel_rfl) (by kernel_rfl) (by kernel_rfl) (Eq.mpr (by kernel_rfl) hw)
@[irreducible] def aBP (ro:Ro) (v0 v1:Value) (h:T Obj) (nx:Nat) (K:KV):Prop:=cV h nx (.cells (Value.cells v0) bC) fun h1=>aB (loadA ro h1 259 v1) fun a'=>aB (loadA ro h1 4 (ptr nx)) fun b'=>aN Tryz.prog ro lX [a',b'] h1 (nx+5) fun c' h5 n6=>aB (unV .not c') fun d'=>∃ h8,Sub h8 h5∧K d' h8 (n6+2)
theorem aDP {ro:Ro}{v0 v1:Value}{h:T Obj}{nx:Nat}{K:KV} (hw:aBP ro v0 v1 h nx K):aN Tryz.prog ro s5 [v0,v1] h nx K:=a7 (P:=Tryz.prog) (fn:=Tryz.f116) (by kernel_rfl) (by kernel_rfl) (by kernel_rfl) (Eq.mpr (by kernel_rfl) hw)
@[irreducible] def lG (ro:Ro) (K:KV):Env→T Obj→Nat→Prop:=fun e h nx=>∃ h127,Sub h127 h∧K (Value.bool true) h127 (nx+1)
@[irreducible] def pH (ro:Ro):PT:=fun e h nx Q=>aB (aO .lss (e 47) (e 46)) fun d'=>aQ d' (aB (cN 1 (e 45) (e 47)) fun e'=>aB (load1 ro h e') fun c'=>aB (aS 2 (e 3)) fun f'=>aB (load1 ro h f') fun g'=>aB (cN 1 g' (e 47)) fun h'=>aB (load1 ro h h') fun i'=>aB (aO .lss i' (Value.int IntKind.i64 (-1))) fun b'=>ifP b' false h (nx+13) (fun ab'=>aB (aS 2 (e 3)) fun ac'=>ab' ac' h (nx+14)) fun j' x' B'=>ifP b' false x' B' (fun ad'=>aB (load1 ro x' j') fun ae'=>ad' ae' x' (B'+1)) fun k' C' D'=>ifP b' false C' D' (fun af'=>af' (e 47) C' (D'+1)) fun l' E' F'=>ifP b' false E' F' (fun ag'=>aB (cN 1 k' l') fun ah'=>ag' ah' E' (F'+1)) fun m' y' G'=>ifP b' false y' G' (fun ai'=>aB (load1 ro y' m') fun aj'=>ai' aj' y' (G'+1)) fun n' H' I'=>ifP b' false H' I' (fun ak'=>aB (aO .geq n' (Value.int IntKind.i64 512)) fun al'=>ak' al' H' (I'+1)) fun o' J' K'=>aB (bL b' (Value.bool true) o') fun a'=>ifP a' false J' (K'+2) (fun am'=>am' c' J' (K'+3)) fun p' L' M'=>ifP a' false L' M' (fun an'=>aB (bG p') fun ao'=>an' ao' L' (M'+1)) fun q' N' O'=>ifP a' false N' O' (fun ap'=>aB (aS 0 (e 2)) fun aq'=>ap' aq' N' (O'+1)) fun r' P' Q'=>ifP a' false P' Q' (fun ar'=>aB (aS 0 r') fun as'=>ar' as' P' (Q'+1)) fun s' R' S'=>ifP a' false R' S' (fun at'=>aB (aS 256 s') fun au'=>at' au' R' (S'+1)) fun t' z' T'=>ifP a' false z' T' (fun av'=>aB (load1 ro z' t') fun aw'=>av' aw' z' (T'+1)) fun u' U' V'=>ifP a' false U' V' (fun ax'=>aB (aO .neq q' u') fun ay'=>ax' ay' U' (V'+1)) fun v' W' X'=>aB (bL a' (Value.bool true) v') fun w'=>aQ w' (Q .ret (puts e [(48,d'),(49,(e 47)),(50,e'),(51,c'),(6,(e 47)),(7,c'),(52,f'),(53,g'),(54,(e 47)),(55,h'),(56,i'),(57,b'),(58,b'),(59,j'),(60,k'),(61,l'),(62,m'),(63,n'),(64,o'),(65,a'),(66,a'),(67,p'),(68,q'),(69,r'),(70,s'),(71,t'),(72,u'),(73,v'),(74,w'),(4,(Value.bool false))]) W' (X'+2)) (aN Tryz.prog ro fD [c',(.func (.func gD) #[] #[(e 2),(e 3)])] W' (X'+4) fun A' Y' Z'=>aQ A' (Q .ret (puts e [(48,d'),(49,(e 47)),(50,e'),(51,c'),(6,(e 47)),(7,c'),(52,f'),(53,g'),(54,(e 47)),(55,h'),(56,i'),(57,b'),(58,b'),(59,j'),(60,k'),(61,l'),(62,m'),(63,n'),(64,o'),(65,a'),(66,a'),(67,p'),(68,q'),(69,r'),(70,s'),(71,t'),(72,u'),(73,v'),(74,w'),(75,c'),(76,(.func (.func gD) #[] #[(e 2),(e 3)])),(77,A'),(4,(Value.bool false))]) Y' (Z'+1)) (aB (aO .add (e 47) (Value.int IntKind.i64 1)) fun aa'=>Q .normal (puts e [(48,d'),(49,(e 47)),(50,e'),(51,c'),(6,(e 47)),(7,c'),(52,f'),(53,g'),(54,(e 47)),(55,h'),(56,i'),(57,b'),(58,b'),(59,j'),(60,k'),(61,l'),(62,m'),(63,n'),(64,o'),(65,a'),(66,a'),(67,p'),(68,q'),(69,r'),(70,s'),(71,t'),(72,u'),(73,v'),(74,w'),(75,c'),(76,(.func (.func gD) #[] #[(e 2),(e 3)])),(77,A'),(78,aa'),(47,aa')]) Y' (Z'+2)))) (Q (.exit 0) (puts e [(48,d')]) h (nx+1))
@[irreducible] def sP (ro:Ro) (v0 v1:Value) (h:T Obj) (nx:Nat) (K:KV):Prop:=cV h nx (.cells (Value.cells v0) d4) fun h1=>cV h1 (nx+1) (.cells (Value.cells v1) bC) fun h2=>aB (aS 1 (ptr (nx+1))) fun o'=>aB (load1 ro h2 o') fun p'=>aB (bG p') fun q'=>aN Tryz.prog ro wP [q'] h2 (nx+7) fun e' h7 n8=>aB (aO .eql e' (Value.int IntKind.i64 0)) fun b'=>ifP b' false h7 (n8+4) (fun aE'=>aB (aS 2 (ptr (nx+1))) fun aF'=>aE' aF' h7 (n8+5)) fun r' f' s'=>ifP b' false f' s' (fun aG'=>aB (load1 ro f' r') fun aH'=>aG' aH' f' (s'+1)) fun t' u' v'=>ifP b' false u' v' (fun aI'=>aB (bG t') fun aJ'=>aI' aJ' u' (v'+1)) fun w' x' y'=>ifP b' false x' y' (fun aK'=>aK' e' x' (y'+1)) fun z' A' B'=>ifP b' false A' B' (fun aL'=>aB (aO .neq w' z') fun aM'=>aL' aM' A' (B'+1)) fun C' D' E'=>aB (bL b' (Value.bool true) C') fun c'=>ifP c' false D' (E'+2) (fun aN'=>aB (aS 3 (ptr (nx+1))) fun aO'=>aN' aO' D' (E'+3)) fun F' g' G'=>ifP c' false g' G' (fun aP'=>aB (load1 ro g' F') fun aQ'=>aP' aQ' g' (G'+1)) fun H' I' J'=>ifP c' false I' J' (fun aR'=>aB (bG H') fun aS'=>aR' aS' I' (J'+1)) fun K' L' M'=>ifP c' false L' M' (fun aT'=>aT' e' L' (M'+1)) fun N' O' P'=>ifP c' false O' P' (fun aU'=>aB (aO .neq K' N') fun aV'=>aU' aV' O' (P'+1)) fun Q' R' S'=>aB (bL c' (Value.bool true) Q') fun d'=>ifP d' false R' (S'+2) (fun aW'=>aB (aS 0 (ptr (nx+1))) fun aX'=>aW' aX' R' (S'+3)) fun T' h' U'=>ifP d' false h' U' (fun aY'=>aB (load1 ro h' T') fun aZ'=>aY' aZ' h' (U'+1)) fun V' W' X'=>ifP d' false W' X' (fun a0'=>aN Tryz.prog ro rR [V',(Value.int IntKind.i64 512)] W' (X'+1) fun a1' a2' a3'=>a0' a1' a2' a3') fun Y' Z' aa'=>ifP d' false Z' aa' (fun a4'=>aB (unV .not Y') fun a5'=>a4' a5' Z' (aa'+1)) fun ab' ac' ad'=>aB (bL d' (Value.bool true) ab') fun a'=>ifP a' false ac' (ad'+2) (fun a6'=>aB (aS 1 (ptr (nx+1))) fun a7'=>a6' a7' ac' (ad'+3)) fun ae' i' af'=>ifP a' false i' af' (fun a8'=>aB (load1 ro i' ae') fun a9'=>a8' a9' i' (af'+1)) fun ag' ah' ai'=>ifP a' false ah' ai' (fun ba'=>aB (aS 0 (ptr nx)) fun bb'=>ba' bb' ah' (ai'+1)) fun aj' ak' al'=>ifP a' false ak' al' (fun bc'=>aB (aS 257 aj') fun bd'=>bc' bd' ak' (al'+1)) fun am' j' an'=>ifP a' false j' an' (fun be'=>aB (load1 ro j' am') fun bf'=>be' bf' j' (an'+1)) fun ao' ap' aq'=>ifP a' false ap' aq' (fun bg'=>aB (bG ao') fun bh'=>bg' bh' ap' (aq'+1)) fun ar' as' at'=>ifP a' false as' at' (fun bi'=>aN Tryz.prog ro rR [ag',ar'] as' (at'+1) fun bj' bk' bl'=>bi' bj' bk' bl') fun au' av' aw'=>ifP a' false av' aw' (fun bm'=>aB (unV .not au') fun bn'=>bm' bn' av' (aw'+1)) fun ax' k' ay'=>aB (bL a' (Value.bool true) ax') fun az'=>aQ az' (∃ aA',Sub aA' k'∧K (Value.bool false) aA' (ay'+2)) (aB (aS 3 (ptr (nx+1))) fun aB'=>aB (load1 ro k' aB') fun aC'=>aB (bG aC') fun bo'=>dO (pH ro) (puts (gK [v0,v1]) [(2,(ptr nx)),(3,(ptr (nx+1))),(4,(Value.bool false)),(8,o'),(9,p'),(10,q'),(11,e'),(5,e'),(12,e'),(13,b'),(14,b'),(15,r'),(16,t'),(17,w'),(18,z'),(19,C'),(20,c'),(21,c'),(22,F'),(23,H'),(24,K'),(25,N'),(26,Q'),(27,d'),(28,d'),(29,T'),(30,V'),(31,Y'),(32,ab'),(33,a'),(34,a'),(35,ae'),(36,ag'),(37,aj'),(38,am'),(39,ao'),(40,ar'),(41,au'),(42,ax'),(43,az'),(44,aB'),(45,aC'),(46,bo'),(47,(Value.int IntKind.i64 0))]) k' (ay'+5) fun bp' l' m' n'=>exP bp' (lG ro K l' m' n') (fun bq'=>cP (Nat.beq bq' 0) (lG ro K l' m' n') (False)) (∃ aD',Sub aD' m'∧K (l' 4) aD' n'))
theorem xU {ro:Ro}{v0 v1:Value}{h:T Obj}{nx:Nat}{K:KV} (hw:sP ro v0 v1 h nx K):aN Tryz.prog ro lX [v0,v1] h nx K:=a7 (P:=Tryz.prog) (fn:=Tryz.f117) (by kernel_rfl) (by kernel_rfl) (by kernel_rfl) (Eq.mpr (by kernel_rfl) hw)
@[irreducible] def nM (ro:Ro) (v0:Value) (h:T Obj) (nx:Nat) (K:KV):Prop:=aB (slB .eql v0 (Value.slice none 0 0)) fun a'=>aQ a' (∃ h2,Sub h2 h∧K (Value.slice none 0 0) h2 (nx+4)) (aB (bQ Tryz.prog mL (nx+3) 0 []) fun r3=>eS h (nx+3) r3.2 fun h4=>aB (cA Tryz.prog ro h4 (nx+6) #[mL,mL] [r3.1,v0]) fun r5=>∃ h6,Sub h6 r5.2.1∧K r5.1 h6 (r5.2.2+1))
theorem rY {ro:Ro}{v0:Value}{h:T Obj}{nx:Nat}{K:KV} (hw:nM ro v0 h nx K):aN Tryz.prog ro iU [v0] h nx K:=a7 (P:=Tryz.prog) (fn:=Tryz.f118) (by kernel_rfl) (by kernel_rfl) (by kernel_rfl) (Eq.mpr (by kernel_rfl) hw)
@[irreducible] def kN (ro:Ro) (v0:Value) (h:T Obj) (nx:Nat) (K:KV):Prop:=aB (slB .eql v0 (Value.slice none 0 0)) fun a'=>aQ a' (∃ h2,Sub h2 h∧K (Value.slice none 0 0) h2 (nx+4)) (aB (bQ Tryz.prog eN (nx+3) 0 []) fun r3=>eS h (nx+3) r3.2 fun h4=>aB (cA Tryz.prog ro h4 (nx+6) #[eN,eN] [r3.1,v0]) fun r5=>∃ h6,Sub h6 r5.2.1∧K r5.1 h6 (r5.2.2+1))
theorem oH {ro:Ro}{v0:Value}{h:T Obj}{nx:Nat}{K:KV} (hw:kN ro v0 h nx K):aN Tryz.prog ro gF [v0] h nx K:=a7 (P:=Tryz.prog) (fn:=Tryz.f119) (by kernel_rfl) (by kernel_rfl) (by kernel_rfl) (Eq.mpr (by kernel_rfl) hw)
@[irreducible] def nN (ro:Ro) (v0:Value) (h:T Obj) (nx:Nat) (K:KV):Prop:=aB (slB .eql v0 (Value.slice none 0 0)) fun a'=>aQ a' (∃ h2,Sub h2 h∧K (Value.slice none 0 0) h2 (nx+4)) (aB (bQ Tryz.prog a8 (nx+3) 0 []) fun r3=>eS h (nx+3) r3.2 fun h4=>aB (cA Tryz.prog ro h4 (nx+6) #[a8,a8] [r3.1,v0]) fun r5=>∃ h6,Sub h6 r5.2.1∧K r5.1 h6 (r5.2.2+1))
theorem rZ {ro:Ro}{v0:Value}{h:T Obj}{nx:Nat}{K:KV} (hw:nN ro v0 h nx K):aN Tryz.prog ro iV [v0] h nx K:=a7 (P:=Tryz.prog) (fn:=Tryz.f120) (by kernel_rfl) (by kernel_rfl) (by kernel_rfl) (Eq.mpr (by kernel_rfl) hw)
@[irreducible] def tF (ro:Ro) (K:KV):Env→T Obj→Nat→Prop:=fun e h nx=>aB (aS 256 (e 1)) fun a'=>aB (load1 ro h a') fun b'=>aB (aO .eql (e 3) b') fun c'=>∃ h5,Sub h5 h∧K c' h5 (nx+5)
@[irreducible] def oX (ro:Ro) (Q:KE):Env→T Obj→Nat→Prop:=fun e h nx=>aB (aO .add (e 4) (Value.int IntKind.i64 1)) fun a'=>Q .normal (puts e [(7,(e 4)),(8,a'),(4,a')]) h (nx+3)
@[irreducible] def y8 (ro:Ro):PT:=fun e h nx Q=>aB (aO .lss (e 4) (Value.int IntKind.i64 256)) fun a'=>aQ a' (aB (aS 0 (e 1)) fun b'=>aB (ixArr 256 1 b' (e 4)) fun c'=>aB (load1 ro h c') fun d'=>aB (vQ .i64 d') fun e'=>aB (aO .gtr e' (e 3)) fun f'=>aQ f' (Q .ret (puts e [(5,(e 4)),(6,a'),(9,(e 4)),(10,b'),(11,c'),(12,d'),(13,e'),(14,(e 3)),(15,f'),(2,(Value.bool false))]) h (nx+10)) (aB (aS 0 (e 1)) fun g'=>aB (ixArr 256 1 g' (e 4)) fun h'=>aB (load1 ro h h') fun i'=>aB (vQ .i64 i') fun j'=>aB (aO .eql j' (e 3)) fun k'=>aQ k' (aB (aO .add (e 3) (Value.int IntKind.i64 1)) fun l'=>oX ro Q (puts e [(5,(e 4)),(6,a'),(9,(e 4)),(10,b'),(11,c'),(12,d'),(13,e'),(14,(e 3)),(15,f'),(16,(e 4)),(17,g'),(18,h'),(19,i'),(20,j'),(21,(e 3)),(22,k'),(23,(e 3)),(24,l'),(3,l')]) h (nx+19)) (oX ro Q (puts e [(5,(e 4)),(6,a'),(9,(e 4)),(10,b'),(11,c'),(12,d'),(13,e'),(14,(e 3)),(15,f'),(16,(e 4)),(17,g'),(18,h'),(19,i'),(20,j'),(21,(e 3)),(22,k')]) h (nx+16)))) (Q (.exit 0) (puts e [(5,(e 4)),(6,a')]) h (nx+2))
@[irreducible] def aCy (ro:Ro) (v0:Value) (h:T Obj) (nx:Nat) (K:KV):Prop:=cV h nx (.cells (Value.cells v0) dP) fun h1=>dO (y8 ro) (puts (gK [v0]) [(1,(ptr nx)),(2,(Value.bool false)),(3,(Value.int IntKind.i64 0)),(4,(Value.int IntKind.i64 0))]) h1 (nx+4) fun x22 e19 h20 n21=>exP x22 (tF ro K e19 h20 n21) (fun i23=>cP (Nat.beq i23 0) (tF ro K e19 h20 n21) (False)) (∃ h24,Sub h24 h20∧K (e19 2) h24 n21)
theorem aEc {ro:Ro}{v0:Value}{h:T Obj}{nx:Nat}{K:KV} (hw:aCy ro v0 h nx K):aN Tryz.prog ro uZ [v0] h nx K:=a7 (P:=Tryz.prog) (fn:=Tryz.f126) (by kernel_rfl) (by kernel_rfl) (by kernel_rfl) (Eq.mpr (by kernel_rfl) hw)
@[irreducible] def tJ (ro:Ro) (K:KV):Env→T Obj→Nat→Prop:=fun e h nx=>∃ h122,Sub h122 h∧K (Value.bool true) h122 (nx+1)
@[irreducible] def mD (ro:Ro) (Q:KE):Env→T Obj→Nat→Prop:=fun e h nx=>aB (aO .add (e 6) (Value.int IntKind.i64 1)) fun a'=>Q .normal (puts e [(46,(e 6)),(47,a'),(6,a')]) h (nx+3)
@[irreducible] def zF (ro:Ro):PT:=fun e h nx Q=>aB (aS 3 (e 3)) fun a'=>aB (load1 ro h a') fun b'=>aB (cN 1 b' (e 6)) fun c'=>aB (load1 ro h c') fun d'=>aB (bG d') fun e'=>aB (aO .lss (e 7) e') fun f'=>aQ f' (aB (loadA ro h 259 (e 2)) fun g'=>aB (loadA ro h 4 (e 3)) fun h'=>aB (aS 3 (e 3)) fun i'=>aB (load1 ro h i') fun j'=>aB (cN 1 j' (e 6)) fun k'=>aB (load1 ro h k') fun l'=>aB (cN 2 l' (e 7)) fun m'=>aB (loadA ro h 2 m') fun n'=>aN Tryz.prog ro wT [g',h',n'] h (nx+20) fun o' q' r'=>aB (unV .not o') fun p'=>aQ p' (Q .ret (puts e [(74,(e 7)),(75,a'),(76,b'),(77,(e 6)),(78,c'),(79,d'),(80,e'),(81,f'),(84,g'),(85,h'),(86,i'),(87,j'),(88,(e 6)),(89,k'),(90,l'),(91,(e 7)),(92,m'),(93,n'),(94,o'),(95,p'),(4,(Value.bool false))]) q' (r'+1)) (aB (aO .add (e 7) (Value.int IntKind.i64 1)) fun s'=>Q .normal (puts e [(74,(e 7)),(75,a'),(76,b'),(77,(e 6)),(78,c'),(79,d'),(80,e'),(81,f'),(84,g'),(85,h'),(86,i'),(87,j'),(88,(e 6)),(89,k'),(90,l'),(91,(e 7)),(92,m'),(93,n'),(94,o'),(95,p'),(82,(e 7)),(83,s'),(7,s')]) q' (r'+3))) (Q (.exit 2) (puts e [(74,(e 7)),(75,a'),(76,b'),(77,(e 6)),(78,c'),(79,d'),(80,e'),(81,f')]) h (nx+8))
@[irreducible] def zE (ro:Ro):PT:=fun e h nx Q=>aB (aO .lss (e 6) (e 5)) fun f'=>aQ f' (aB (aS 2 (e 3)) fun g'=>aB (load1 ro h g') fun h'=>aB (cN 1 h' (e 6)) fun i'=>aB (load1 ro h i') fun j'=>aB (aO .lss j' (Value.int IntKind.i64 (-1))) fun b'=>ifP b' false h (nx+29) (fun ai'=>aB (aS 2 (e 3)) fun aj'=>ai' aj' h (nx+29)) fun k' l' H'=>ifP b' false l' H' (fun ak'=>aB (load1 ro l' k') fun al'=>ak' al' l' H') fun m' I' J'=>ifP b' false I' J' (fun am'=>am' (e 6) I' J') fun n' K' L'=>ifP b' false K' L' (fun an'=>aB (cN 1 m' n') fun ao'=>an' ao' K' L') fun o' p' M'=>ifP b' false p' M' (fun ap'=>aB (load1 ro p' o') fun aq'=>ap' aq' p' M') fun q' N' O'=>ifP b' false N' O' (fun ar'=>aB (aO .geq q' (Value.int IntKind.i64 512)) fun as'=>ar' as' N' O') fun r' P' Q'=>aB (bL b' (Value.bool true) r') fun a'=>ifP a' false P' Q' (fun at'=>aB (aS 3 (e 3)) fun au'=>at' au' P' Q') fun s' t' R'=>ifP a' false t' R' (fun av'=>aB (load1 ro t' s') fun aw'=>av' aw' t' R') fun u' S' T'=>ifP a' false S' T' (fun ax'=>ax' (e 6) S' T') fun v' U' V'=>ifP a' false U' V' (fun ay'=>aB (cN 1 u' v') fun az'=>ay' az' U' V') fun w' x' W'=>ifP a' false x' W' (fun aA'=>aB (load1 ro x' w') fun aB'=>aA' aB' x' W') fun y' X' Y'=>ifP a' false X' Y' (fun aC'=>aB (bG y') fun aD'=>aC' aD' X' Y') fun z' Z' aa'=>ifP a' false Z' aa' (fun aE'=>aB (aS 0 (e 2)) fun aF'=>aE' aF' Z' aa') fun A' ab' ac'=>ifP a' false ab' ac' (fun aG'=>aB (aS 256 A') fun aH'=>aG' aH' ab' ac') fun B' C' ad'=>ifP a' false C' ad' (fun aI'=>aB (load1 ro C' B') fun aJ'=>aI' aJ' C' ad') fun D' ae' af'=>ifP a' false ae' af' (fun aK'=>aB (aO .neq z' D') fun aL'=>aK' aL' ae' af') fun E' ag' ah'=>aB (bL a' (Value.bool true) E') fun F'=>aQ F' (Q .ret (puts e [(43,(e 6)),(44,(e 5)),(45,f'),(48,g'),(49,h'),(50,(e 6)),(51,i'),(52,j'),(53,b'),(54,b'),(55,k'),(56,m'),(57,n'),(58,o'),(59,q'),(60,r'),(61,a'),(62,a'),(63,s'),(64,u'),(65,v'),(66,w'),(67,y'),(68,z'),(69,A'),(70,B'),(71,D'),(72,E'),(73,F'),(4,(Value.bool false))]) ag' (ah'+1)) (dO (zF ro) (puts e [(43,(e 6)),(44,(e 5)),(45,f'),(48,g'),(49,h'),(50,(e 6)),(51,i'),(52,j'),(53,b'),(54,b'),(55,k'),(56,m'),(57,n'),(58,o'),(59,q'),(60,r'),(61,a'),(62,a'),(63,s'),(64,u'),(65,v'),(66,w'),(67,y'),(68,z'),(69,A'),(70,B'),(71,D'),(72,E'),(73,F'),(7,(Value.int IntKind.i64 0))]) ag' (ah'+1) fun aM' c' d' e'=>exP aM' (mD ro Q c' d' e') (fun G'=>cP (Nat.beq G' 2) (mD ro Q c' d' e') (cP (Nat.beq G' 1) (mD ro Q c' d' e') (Q (.exit G') c' d' e'))) (Q .ret c' d' e'))) (Q (.exit 0) (puts e [(43,(e 6)),(44,(e 5)),(45,f')]) h (nx+3))
@[irreducible] def aDE (ro:Ro) (v0 v1:Value) (h:T Obj) (nx:Nat) (K:KV):Prop:=cV h nx (.cells (Value.cells v0) bI) fun h1=>cV h1 (nx+1) (.cells (Value.cells v1) bC) fun h2=>aB (aS 1 (ptr (nx+1))) fun n'=>aB (load1 ro h2 n') fun o'=>aB (bG o') fun p'=>aN Tryz.prog ro u7 [p'] h2 (nx+7) fun e' h7 n8=>aB (aO .eql e' (Value.int IntKind.i64 0)) fun d'=>ifP d' false h7 (n8+4) (fun az'=>aB (aS 0 (ptr (nx+1))) fun aA'=>az' aA' h7 (n8+5)) fun q' f' r'=>ifP d' false f' r' (fun aB'=>aB (load1 ro f' q') fun aC'=>aB' aC' f' (r'+1)) fun s' t' u'=>ifP d' false t' u' (fun aD'=>aN Tryz.prog ro pW [s',(Value.int IntKind.i64 512)] t' (u'+1) fun aE' aF' aG'=>aD' aE' aF' aG') fun v' w' x'=>ifP d' false w' x' (fun aH'=>aB (unV .not v') fun aI'=>aH' aI' w' (x'+1)) fun y' z' A'=>aB (bL d' (Value.bool true) y') fun a'=>ifP a' false z' (A'+2) (fun aJ'=>aB (aS 1 (ptr (nx+1))) fun aK'=>aJ' aK' z' (A'+3)) fun B' g' C'=>ifP a' false g' C' (fun aL'=>aB (load1 ro g' B') fun aM'=>aL' aM' g' (C'+1)) fun D' E' F'=>ifP a' false E' F' (fun aN'=>aB (aS 257 (ptr nx)) fun aO'=>aN' aO' E' (F'+1)) fun G' h' H'=>ifP a' false h' H' (fun aP'=>aB (load1 ro h' G') fun aQ'=>aP' aQ' h' (H'+1)) fun I' J' K'=>ifP a' false J' K' (fun aR'=>aB (bG I') fun aS'=>aR' aS' J' (K'+1)) fun L' M' N'=>ifP a' false M' N' (fun aT'=>aN Tryz.prog ro pW [D',L'] M' (N'+1) fun aU' aV' aW'=>aT' aU' aV' aW') fun O' P' Q'=>ifP a' false P' Q' (fun aX'=>aB (unV .not O') fun aY'=>aX' aY' P' (Q'+1)) fun R' S' T'=>aB (bL a' (Value.bool true) R') fun b'=>ifP b' false S' (T'+2) (fun aZ'=>aB (aS 2 (ptr (nx+1))) fun a0'=>aZ' a0' S' (T'+3)) fun U' i' V'=>ifP b' false i' V' (fun a1'=>aB (load1 ro i' U') fun a2'=>a1' a2' i' (V'+1)) fun W' X' Y'=>ifP b' false X' Y' (fun a3'=>aB (bG W') fun a4'=>a3' a4' X' (Y'+1)) fun Z' aa' ab'=>ifP b' false aa' ab' (fun a5'=>a5' e' aa' (ab'+1)) fun ac' ad' ae'=>ifP b' false ad' ae' (fun a6'=>aB (aO .neq Z' ac') fun a7'=>a6' a7' ad' (ae'+1)) fun af' ag' ah'=>aB (bL b' (Value.bool true) af') fun c'=>ifP c' false ag' (ah'+2) (fun a8'=>aB (aS 3 (ptr (nx+1))) fun a9'=>a8' a9' ag' (ah'+3)) fun ai' j' aj'=>ifP c' false j' aj' (fun ba'=>aB (load1 ro j' ai') fun bb'=>ba' bb' j' (aj'+1)) fun ak' al' am'=>ifP c' false al' am' (fun bc'=>aB (bG ak') fun bd'=>bc' bd' al' (am'+1)) fun an' ao' ap'=>ifP c' false ao' ap' (fun be'=>be' e' ao' (ap'+1)) fun aq' ar' as'=>ifP c' false ar' as' (fun bf'=>aB (aO .neq an' aq') fun bg'=>bf' bg' ar' (as'+1)) fun at' au' av'=>aB (bL c' (Value.bool true) at') fun aw'=>aQ aw' (∃ ax',Sub ax' au'∧K (Value.bool false) ax' (av'+2)) (dO (zE ro) (puts (gK [v0,v1]) [(2,(ptr nx)),(3,(ptr (nx+1))),(4,(Value.bool false)),(8,n'),(9,o'),(10,p'),(11,e'),(5,e'),(12,e'),(13,d'),(14,d'),(15,q'),(16,s'),(17,v'),(18,y'),(19,a'),(20,a'),(21,B'),(22,D'),(23,G'),(24,I'),(25,L'),(26,O'),(27,R'),(28,b'),(29,b'),(30,U'),(31,W'),(32,Z'),(33,ac'),(34,af'),(35,c'),(36,c'),(37,ai'),(38,ak'),(39,an'),(40,aq'),(41,at'),(42,aw'),(6,(Value.int IntKind.i64 0))]) au' (av'+2) fun bh' k' l' m'=>exP bh' (tJ ro K k' l' m') (fun bi'=>cP (Nat.beq bi' 0) (tJ ro K k' l' m') (False)) (∃ ay',Sub ay' l'∧K (k' 4) ay' m'))
theorem aEk {ro:Ro}{v0 v1:Value}{h:T Obj}{nx:Nat}{K:KV} (hw:aDE ro v0 v1 h nx K):aN Tryz.prog ro vB [v0,v1] h nx K:=a7 (P:=Tryz.prog) (fn:=Tryz.f127) (by kernel_rfl) (by kernel_rfl) (by kernel_rfl) (Eq.mpr (by kernel_rfl) hw)
@[irreducible] def aGT (ro:Ro) (v0 v1:Value) (h:T Obj) (nx:Nat) (K:KV):Prop:=cV h nx (.cells (Value.cells v0) eB) fun h1=>aB (aO .quo v1 (Value.int IntKind.u8 64)) fun a'=>aB (ixArr 4 1 (ptr nx) a') fun b'=>aB (load1 ro h1 b') fun c'=>aB (aO .rem v1 (Value.int IntKind.u8 64)) fun d'=>aB (aO .shr c' d') fun e'=>aB (aO .rem e' (Value.int IntKind.u64 2)) fun f'=>aB (aO .eql f' (Value.int IntKind.u64 1)) fun g'=>∃ h9,Sub h9 h1∧K g' h9 (nx+12)
theorem aHQ {ro:Ro}{v0 v1:Value}{h:T Obj}{nx:Nat}{K:KV} (hw:aGT ro v0 v1 h nx K):aN Tryz.prog ro uD [v0,v1] h nx K:=a7 (P:=Tryz.prog) (fn:=Tryz.f135) (by kernel_rfl) (by kernel_rfl) (by kernel_rfl) (Eq.mpr (by kernel_rfl) hw)
@[irreducible] def p6 (ro:Ro) (K:KV):Env→T Obj→Nat→Prop:=fun e h nx=>aB (loadA ro h 4 (e 2)) fun a'=>aB (bY 4 h (e 4) a') fun h5=>aB (loadA ro h5 4 (e 4)) fun r6=>∃ h7,Sub h7 h5∧K r6 h7 (nx+2)
@[irreducible] def aEa (ro:Ro) (v0 v1:Value) (h:T Obj) (nx:Nat) (K:KV):Prop:=cV h nx (.cells (Value.cells v0) eB) fun h1=>aB (zer Tryz.prog eB) fun z2=>cV h1 (nx+1) (.cells z2.cells eB) fun h3=>aB (loadA ro h3 4 (ptr nx)) fun a'=>aN Tryz.prog ro uD [a',v1] h3 (nx+5) fun b' c' e'=>aB (unV .not b') fun d'=>aQ d' (aB (aO .quo v1 (Value.int IntKind.u8 64)) fun f'=>aB (aO .quo v1 (Value.int IntKind.u8 64)) fun g'=>aB (ixArr 4 1 (ptr nx) g') fun h'=>aB (load1 ro c' h') fun i'=>aB (aO .rem v1 (Value.int IntKind.u8 64)) fun j'=>aB (aO .shl (Value.int IntKind.u64 1) j') fun k'=>aB (aO .add i' k') fun l'=>aB (ixArr 4 1 (ptr nx) f') fun m'=>aB (bY 1 c' m' l') fun n'=>p6 ro K (puts (gK [v0,v1]) [(2,(ptr nx)),(4,(ptr (nx+1))),(5,a'),(6,v1),(7,b'),(8,d'),(9,v1),(10,f'),(11,v1),(12,g'),(13,h'),(14,i'),(15,v1),(16,j'),(17,k'),(18,l'),(19,m')]) n' (e'+13)) (p6 ro K (puts (gK [v0,v1]) [(2,(ptr nx)),(4,(ptr (nx+1))),(5,a'),(6,v1),(7,b'),(8,d')]) c' (e'+1))
theorem aF5 {ro:Ro}{v0 v1:Value}{h:T Obj}{nx:Nat}{K:KV} (hw:aEa ro v0 v1 h nx K):aN Tryz.prog ro wS [v0,v1] h nx K:=a7 (P:=Tryz.prog) (fn:=Tryz.f136) (by kernel_rfl) (by kernel_rfl) (by kernel_rfl) (Eq.mpr (by kernel_rfl) hw)
@[irreducible] def tE (ro:Ro) (K:KV):Env→T Obj→Nat→Prop:=fun e h nx=>∃ h22,Sub h22 h∧K (e 3) h22 (nx+2)
@[irreducible] def oW (ro:Ro) (Q:KE):Env→T Obj→Nat→Prop:=fun e h nx=>aB (aO .add (e 4) (Value.int IntKind.i64 1)) fun a'=>Q .normal (puts e [(18,(e 4)),(19,a'),(4,a')]) h (nx+3)
@[irreducible] def y7 (ro:Ro):PT:=fun e h nx Q=>aB (aS 256 (e 1)) fun c'=>aB (load1 ro h c') fun d'=>aB (aO .lss (e 4) d') fun e'=>aQ e' (aB (loadA ro h 257 (e 1)) fun h'=>aN Tryz.prog ro yQ [h',(e 4)] h (nx+7) fun i' q' r'=>aN Tryz.prog ro wR [i'] q' (r'+1) fun a' j' b'=>aB (bG a') fun k'=>aB (aO .eql k' (Value.int IntKind.i64 0)) fun l'=>aQ l' (aB (bQ Tryz.prog a8 (b'+5) 1 [(0,(Value.int IntKind.u8 0))]) fun m'=>eS j' (b'+5) m'.2 fun s'=>aB (cA Tryz.prog ro s' (b'+7) #[a8,a8] [(e 3),m'.1]) fun f'=>oW ro Q (puts e [(14,(e 4)),(15,c'),(16,d'),(17,e'),(20,h'),(21,(e 4)),(22,i'),(23,a'),(5,a'),(24,a'),(25,k'),(26,l'),(27,(e 3)),(28,m'.1),(29,f'.1),(3,f'.1)]) f'.2.1 (f'.2.2+1)) (aB (cN 1 a' (Value.int IntKind.i64 0)) fun o'=>aB (load1 ro j' o') fun p'=>aB (bQ Tryz.prog a8 (b'+8) 1 [(0,p')]) fun n'=>eS j' (b'+8) n'.2 fun t'=>aB (cA Tryz.prog ro t' (b'+10) #[a8,a8] [(e 3),n'.1]) fun g'=>oW ro Q (puts e [(14,(e 4)),(15,c'),(16,d'),(17,e'),(20,h'),(21,(e 4)),(22,i'),(23,a'),(5,a'),(24,a'),(25,k'),(26,l'),(30,(e 3)),(31,a'),(32,o'),(33,p'),(34,n'.1),(35,g'.1),(3,g'.1)]) g'.2.1 (g'.2.2+1))) (Q (.exit 0) (puts e [(14,(e 4)),(15,c'),(16,d'),(17,e')]) h (nx+4))
@[irreducible] def aCx (ro:Ro) (v0:Value) (h:T Obj) (nx:Nat) (K:KV):Prop:=cV h nx (.cells (Value.cells v0) dP) fun h1=>aB (aS 256 (ptr nx)) fun e'=>aB (load1 ro h1 e') fun f'=>aB (aO .lss f' (Value.int IntKind.i64 1)) fun a'=>ifP a' false h1 (nx+6) (fun k5=>aB (aS 256 (ptr nx)) fun q'=>k5 q' h1 (nx+7)) fun g' h7 n8=>ifP a' false h7 n8 (fun r'=>aB (load1 ro h7 g') fun s'=>r' s' h7 (n8+1)) fun h' i' j'=>ifP a' false i' j' (fun t'=>aB (aO .gtr h' (Value.int IntKind.i64 256)) fun u'=>t' u' i' (j'+1)) fun k' l' m'=>aB (bL a' (Value.bool true) k') fun n'=>aQ n' (∃ o',Sub o' l'∧K (Value.slice none 0 0) o' (m'+2)) (dO (y7 ro) (puts (gK [v0]) [(1,(ptr nx)),(2,(Value.slice none 0 0)),(6,e'),(7,f'),(8,a'),(9,a'),(10,g'),(11,h'),(12,k'),(13,n'),(3,(Value.slice none 0 0)),(4,(Value.int IntKind.i64 0))]) l' (m'+3) fun v' b' c' d'=>exP v' (tE ro K b' c' d') (fun w'=>cP (Nat.beq w' 0) (tE ro K b' c' d') (False)) (∃ p',Sub p' c'∧K (b' 2) p' d'))
theorem aEb {ro:Ro}{v0:Value}{h:T Obj}{nx:Nat}{K:KV} (hw:aCx ro v0 h nx K):aN Tryz.prog ro pV [v0] h nx K:=a7 (P:=Tryz.prog) (fn:=Tryz.f147) (by kernel_rfl) (by kernel_rfl) (by kernel_rfl) (Eq.mpr (by kernel_rfl) hw)
@[irreducible] def fF (ro:Ro) (K:KV):Env→T Obj→Nat→Prop:=fun e h nx=>∃ h1,Sub h1 h∧K (Value.int IntKind.i64 (-1)) h1 (nx+1)
@[irreducible] def gV (ro:Ro):PT:=fun e h nx Q=>aB (aO .lss (e 8) (e 7)) fun a'=>aQ a' (aB (cN 4 (e 0) (e 8)) fun b'=>aB (loadA ro h 4 b') fun c'=>yB (aN Tryz.prog ro) (e 1) [c'] h (nx+9) fun d' h7 n8=>aQ d' (Q .ret (puts e [(9,a'),(10,(e 8)),(5,(e 8)),(11,(e 1)),(12,(e 0)),(13,(e 8)),(14,b'),(15,c'),(16,d'),(17,(e 8)),(4,(e 8))]) h7 (n8+2)) (aB (aO .add (e 8) (Value.int IntKind.i64 1)) fun e'=>Q .normal (puts e [(9,a'),(10,(e 8)),(5,(e 8)),(11,(e 1)),(12,(e 0)),(13,(e 8)),(14,b'),(15,c'),(16,d'),(18,e'),(8,e')]) h7 (n8+2))) (Q (.exit 0) (puts e [(9,a')]) h (nx+1))
@[irreducible] def iH (ro:Ro) (v0 v1:Value) (h:T Obj) (nx:Nat) (K:KV):Prop:=aB (bG v0) fun e'=>dO (gV ro) (puts (gK [v0,v1]) [(4,(Value.int IntKind.i64 0)),(6,v0),(7,e'),(8,(Value.int IntKind.i64 0))]) h (nx+4) fun f' a' b' c'=>exP f' (fF ro K a' b' c') (fun g'=>cP (Nat.beq g' 0) (fF ro K a' b' c') (False)) (∃ d',Sub d' b'∧K (a' 4) d' c')
theorem lO {ro:Ro}{v0 v1:Value}{h:T Obj}{nx:Nat}{K:KV} (hw:iH ro v0 v1 h nx K):aN Tryz.prog ro fH [v0,v1] h nx K:=a7 (P:=Tryz.prog) (fn:=Tryz.f152) (by kernel_rfl) (by kernel_rfl) (by kernel_rfl) (Eq.mpr (by kernel_rfl) hw)
@[irreducible] def uR (ro:Ro) (K:KV):Env→T Obj→Nat→Prop:=fun e h nx=>∃ h13,Sub h13 h∧K (e 3) h13 (nx+2)
@[irreducible] def aAR (ro:Ro):PT:=fun e h nx Q=>aB (aO .lss (e 11) (e 10)) fun a'=>aQ a' (aB (aO .mul (e 3) (Value.int IntKind.i64 3)) fun b'=>aB (aO .add (e 11) (Value.int IntKind.i64 1)) fun c'=>Q .normal (puts e [(12,a'),(13,(e 3)),(14,b'),(3,b'),(15,c'),(11,c')]) h (nx+6)) (Q (.exit 0) (puts e [(12,a')]) h (nx+1))
@[irreducible] def aDi (ro:Ro) (v0:Value) (h:T Obj) (nx:Nat) (K:KV):Prop:=aB (aO .lss v0 (Value.int IntKind.i64 0)) fun a'=>ifP a' false h (nx+4) (fun k2=>k2 v0 h (nx+5)) fun e' h4 n5=>ifP a' false h4 n5 (fun k6=>aB (aO .gtr e' (Value.int IntKind.i64 3)) fun j'=>k6 j' h4 (n5+1)) fun f' h8 n9=>aB (bL a' (Value.bool true) f') fun g'=>aQ g' (∃ h',Sub h' h8∧K (Value.int IntKind.i64 0) h' (n9+2)) (dO (aAR ro) (puts (gK [v0]) [(2,(Value.int IntKind.i64 0)),(4,v0),(5,a'),(6,a'),(7,e'),(8,f'),(9,g'),(3,(Value.int IntKind.i64 1)),(10,v0),(11,(Value.int IntKind.i64 0))]) h8 (n9+4) fun k' b' c' d'=>exP k' (uR ro K b' c' d') (fun l'=>cP (Nat.beq l' 0) (uR ro K b' c' d') (False)) (∃ i',Sub i' c'∧K (b' 2) i' d'))
theorem aFO {ro:Ro}{v0:Value}{h:T Obj}{nx:Nat}{K:KV} (hw:aDi ro v0 h nx K):aN Tryz.prog ro wP [v0] h nx K:=a7 (P:=Tryz.prog) (fn:=Tryz.f153) (by kernel_rfl) (by kernel_rfl) (by kernel_rfl) (Eq.mpr (by kernel_rfl) hw)
@[irreducible] def uT (ro:Ro) (K:KV):Env→T Obj→Nat→Prop:=fun e h nx=>∃ h1,Sub h1 h∧K (Value.bool true) h1 (nx+1)
@[irreducible] def aAS (ro:Ro):PT:=fun e h nx Q=>aB (aO .lss (e 10) (e 9)) fun c'=>aQ c' (aB (cN 1 (e 8) (e 10)) fun d'=>aB (load1 ro h d') fun a'=>aB (aO .leq a' (e 5)) fun b'=>ifP b' false h (nx+8) (fun k7=>k7 a' h (nx+9)) fun e' h9 i'=>ifP b' false h9 i' (fun o'=>o' (e 1) h9 (i'+1)) fun f' j' k'=>ifP b' false j' k' (fun p'=>aB (aO .geq e' f') fun q'=>p' q' j' (k'+1)) fun g' l' m'=>aB (bL b' (Value.bool true) g') fun h'=>aQ h' (Q .ret (puts e [(11,c'),(12,d'),(13,a'),(7,a'),(14,a'),(15,(e 5)),(16,b'),(17,b'),(18,e'),(19,f'),(20,g'),(21,h'),(4,(Value.bool false))]) l' (m'+2)) (aB (aO .add (e 10) (Value.int IntKind.i64 1)) fun n'=>Q .normal (puts e [(11,c'),(12,d'),(13,a'),(7,a'),(14,a'),(15,(e 5)),(16,b'),(17,b'),(18,e'),(19,f'),(20,g'),(21,h'),(22,a'),(5,a'),(23,n'),(10,n')]) l' (m'+5))) (Q (.exit 0) (puts e [(11,c')]) h (nx+1))
@[irreducible] def aDl (ro:Ro) (v0 v1:Value) (h:T Obj) (nx:Nat) (K:KV):Prop:=aB (bG v0) fun e'=>dO (aAS ro) (puts (gK [v0,v1]) [(4,(Value.bool false)),(5,(Value.int IntKind.i64 (-1))),(8,v0),(9,e'),(10,(Value.int IntKind.i64 0))]) h (nx+5) fun f' a' b' c'=>exP f' (uT ro K a' b' c') (fun g'=>cP (Nat.beq g' 0) (uT ro K a' b' c') (False)) (∃ d',Sub d' b'∧K (a' 4) d' c')
theorem aFQ {ro:Ro}{v0 v1:Value}{h:T Obj}{nx:Nat}{K:KV} (hw:aDl ro v0 v1 h nx K):aN Tryz.prog ro rR [v0,v1] h nx K:=a7 (P:=Tryz.prog) (fn:=Tryz.f154) (by kernel_rfl) (by kernel_rfl) (by kernel_rfl) (Eq.mpr (by kernel_rfl) hw)
@[irreducible] def hZ (ro:Ro) (v0 v1:Value) (h:T Obj) (nx:Nat) (K:KV):Prop:=aN Tryz.prog ro fP [v0,v1] h (nx+4) fun a' h2 n3=>aB (aO .geq a' (Value.int IntKind.i64 0)) fun b'=>∃ h5,Sub h5 h2∧K b' h5 (n3+2)
theorem lH {ro:Ro}{v0 v1:Value}{h:T Obj}{nx:Nat}{K:KV} (hw:hZ ro v0 v1 h nx K):aN Tryz.prog ro fD [v0,v1] h nx K:=a7 (P:=Tryz.prog) (fn:=Tryz.f155) (by kernel_rfl) (by kernel_rfl) (by kernel_rfl) (Eq.mpr (by kernel_rfl) hw)
@[irreducible] def qC (ro:Ro) (v0 v1 v2:Value) (h:T Obj) (nx:Nat) (K:KV):Prop:=cV h nx (.cells (Value.cells v0) cL) fun h1=>aB (loadA ro h1 259 v1) fun a'=>aB (loadA ro h1 4 v2) fun b'=>aB (loadA ro h1 2 (ptr nx)) fun c'=>aN Tryz.prog ro mX [a',b',c'] h1 (nx+6) fun d' h6 n7=>aB (unV .not d') fun e'=>∃ h9,Sub h9 h6∧K e' h9 (n7+2)
theorem vN {ro:Ro}{v0 v1 v2:Value}{h:T Obj}{nx:Nat}{K:KV} (hw:qC ro v0 v1 v2 h nx K):aN Tryz.prog ro gD [v0,v1,v2] h nx K:=a7 (P:=Tryz.prog) (fn:=Tryz.f156) (by kernel_rfl) (by kernel_rfl) (by kernel_rfl) (Eq.mpr (by kernel_rfl) hw)
@[irreducible] def lQ (ro:Ro) (K:KV):Env→T Obj→Nat→Prop:=fun e h nx=>∃ h118,Sub h118 h∧K (Value.bool true) h118 (nx+1)
@[irreducible] def qB (ro:Ro):PT:=fun e h nx Q=>aB (aO .lss (e 46) (e 45)) fun e'=>aQ e' (aB (cN 1 (e 44) (e 46)) fun f'=>aB (load1 ro h f') fun b'=>aB (aO .lss b' (Value.int IntKind.u8 1)) fun d'=>ifP d' false h (nx+33) (fun as'=>as' b' h (nx+33)) fun g' G' H'=>ifP d' false G' H' (fun at'=>aB (aO .gtr g' (Value.int IntKind.u8 3)) fun au'=>at' au' G' H') fun h' I' J'=>aB (bL d' (Value.bool true) h') fun c'=>ifP c' false I' J' (fun av'=>av' b' I' J') fun i' K' L'=>ifP c' false K' L' (fun aw'=>aB (aO .neq i' (Value.int IntKind.u8 3)) fun ax'=>aw' ax' K' L') fun j' M' N'=>ifP c' false M' N' (fun ay'=>ay' j' M' N') fun a' O' P'=>ifP a' true O' P' (fun az'=>aB (aS 1 (e 4)) fun aA'=>az' aA' O' P') fun k' l' Q'=>ifP a' true l' Q' (fun aB'=>aB (load1 ro l' k') fun aC'=>aB' aC' l' Q') fun m' R' S'=>ifP a' true R' S' (fun aD'=>aB (aS 0 (e 3)) fun aE'=>aD' aE' R' S') fun n' T' U'=>ifP a' true T' U' (fun aF'=>aB (aS 258 n') fun aG'=>aF' aG' T' U') fun o' p' V'=>ifP a' true p' V' (fun aH'=>aB (load1 ro p' o') fun aI'=>aH' aI' p' V') fun q' W' X'=>ifP a' true W' X' (fun aJ'=>aB (aS 0 (e 5)) fun aK'=>aJ' aK' W' X') fun r' s' Y'=>ifP a' true s' Y' (fun aL'=>aB (load1 ro s' r') fun aM'=>aL' aM' s' Y') fun t' Z' aa'=>ifP a' true Z' aa' (fun aN'=>aB (cN 4 q' t') fun aO'=>aN' aO' Z' aa') fun u' ab' ac'=>ifP a' true ab' ac' (fun aP'=>aB (aS 1 u') fun aQ'=>aP' aQ' ab' ac') fun v' w' ad'=>ifP a' true w' ad' (fun aR'=>aB (load1 ro w' v') fun aS'=>aR' aS' w' ad') fun x' ae' af'=>ifP a' true ae' af' (fun aT'=>aT' (e 46) ae' af') fun y' ag' ah'=>ifP a' true ag' ah' (fun aU'=>aB (cN 1 x' y') fun aV'=>aU' aV' ag' ah') fun z' A' ai'=>ifP a' true A' ai' (fun aW'=>aB (load1 ro A' z') fun aX'=>aW' aX' A' ai') fun B' aj' ak'=>ifP a' true aj' ak' (fun aY'=>aN Tryz.prog ro gM [m',B'] aj' ak' fun aZ' a0' a1'=>aY' aZ' a0' a1') fun C' al' am'=>ifP a' true al' am' (fun a2'=>aB (unV .not C') fun a3'=>a2' a3' al' am') fun D' an' ao'=>ifP c' false an' ao' (fun a4'=>aB (bL a' D' (Value.bool false)) fun a5'=>a4' a5' an' ao') fun E' ap' aq'=>aB (bL c' (Value.bool true) E') fun F'=>aQ F' (Q .ret (puts e [(47,e'),(48,(e 46)),(49,f'),(50,b'),(7,(e 46)),(8,b'),(51,b'),(52,d'),(53,d'),(54,g'),(55,h'),(56,c'),(57,c'),(58,i'),(59,j'),(60,a'),(61,k'),(62,m'),(63,n'),(64,o'),(65,q'),(66,r'),(67,t'),(68,u'),(69,v'),(70,x'),(71,y'),(72,z'),(73,B'),(74,C'),(75,D'),(76,E'),(77,F'),(6,(Value.bool false))]) ap' (aq'+1)) (aB (aO .add (e 46) (Value.int IntKind.i64 1)) fun ar'=>Q .normal (puts e [(47,e'),(48,(e 46)),(49,f'),(50,b'),(7,(e 46)),(8,b'),(51,b'),(52,d'),(53,d'),(54,g'),(55,h'),(56,c'),(57,c'),(58,i'),(59,j'),(60,a'),(61,k'),(62,m'),(63,n'),(64,o'),(65,q'),(66,r'),(67,t'),(68,u'),(69,v'),(70,x'),(71,y'),(72,z'),(73,B'),(74,C'),(75,D'),(76,E'),(77,F'),(78,ar'),(46,ar')]) ap' (aq'+2))) (Q (.exit 0) (puts e [(47,e')]) h (nx+1))
@[irreducible] def tV (ro:Ro) (v0 v1 v2:Value) (h:T Obj) (nx:Nat) (K:KV):Prop:=cV h nx (.cells (Value.cells v0) d4) fun h1=>cV h1 (nx+1) (.cells (Value.cells v1) bC) fun h2=>cV h2 (nx+2) (.cells (Value.cells v2) cL) fun h3=>aB (aS 0 (ptr (nx+2))) fun m'=>aB (load1 ro h3 m') fun n'=>aB (aO .eql n' (Value.int IntKind.i64 (-1))) fun o'=>aQ o' (aB (aS 1 (ptr (nx+2))) fun ay'=>aB (load1 ro h3 ay') fun az'=>aB (bG az') fun aA'=>aB (aO .eql aA' (Value.int IntKind.i64 0)) fun aB'=>∃ p',Sub p' h3∧K aB' p' (nx+12)) (aB (aS 0 (ptr (nx+2))) fun q'=>aB (load1 ro h3 q') fun r'=>aB (aO .lss r' (Value.int IntKind.i64 1)) fun b'=>ifP b' false h3 (nx+34) (fun aC'=>aB (aS 0 (ptr (nx+2))) fun aD'=>aC' aD' h3 (nx+34)) fun s' c' t'=>ifP b' false c' t' (fun aE'=>aB (load1 ro c' s') fun aF'=>aE' aF' c' t') fun u' v' w'=>ifP b' false v' w' (fun aG'=>aB (aS 0 (ptr nx)) fun aH'=>aG' aH' v' w') fun x' y' z'=>ifP b' false y' z' (fun aI'=>aB (aS 258 x') fun aJ'=>aI' aJ' y' z') fun A' d' B'=>ifP b' false d' B' (fun aK'=>aB (load1 ro d' A') fun aL'=>aK' aL' d' B') fun C' D' E'=>ifP b' false D' E' (fun aM'=>aB (bG C') fun aN'=>aM' aN' D' E') fun F' G' H'=>ifP b' false G' H' (fun aO'=>aB (aO .geq u' F') fun aP'=>aO' aP' G' H') fun I' J' K'=>aB (bL b' (Value.bool true) I') fun a'=>ifP a' false J' K' (fun aQ'=>aB (aS 1 (ptr (nx+2))) fun aR'=>aQ' aR' J' K') fun L' e' M'=>ifP a' false e' M' (fun aS'=>aB (load1 ro e' L') fun aT'=>aS' aT' e' M') fun N' O' P'=>ifP a' false O' P' (fun aU'=>aB (bG N') fun aV'=>aU' aV' O' P') fun Q' R' S'=>ifP a' false R' S' (fun aW'=>aB (aS 0 (ptr nx)) fun aX'=>aW' aX' R' S') fun T' U' V'=>ifP a' false U' V' (fun aY'=>aB (aS 258 T') fun aZ'=>aY' aZ' U' V') fun W' f' X'=>ifP a' false f' X' (fun a0'=>aB (load1 ro f' W') fun a1'=>a0' a1' f' X') fun Y' Z' aa'=>ifP a' false Z' aa' (fun a2'=>aB (aS 0 (ptr (nx+2))) fun a3'=>a2' a3' Z' aa') fun ab' g' ac'=>ifP a' false g' ac' (fun a4'=>aB (load1 ro g' ab') fun a5'=>a4' a5' g' ac') fun ad' ae' af'=>ifP a' false ae' af' (fun a6'=>aB (cN 4 Y' ad') fun a7'=>a6' a7' ae' af') fun ag' ah' ai'=>ifP a' false ah' ai' (fun a8'=>aB (aS 1 ag') fun a9'=>a8' a9' ah' ai') fun aj' h' ak'=>ifP a' false h' ak' (fun ba'=>aB (load1 ro h' aj') fun bb'=>ba' bb' h' ak') fun al' am' an'=>ifP a' false am' an' (fun bc'=>aB (bG al') fun bd'=>bc' bd' am' an') fun ao' ap' aq'=>ifP a' false ap' aq' (fun be'=>aB (aO .neq Q' ao') fun bf'=>be' bf' ap' aq') fun ar' i' as'=>aB (bL a' (Value.bool true) ar') fun at'=>aQ at' (∃ au',Sub au' i'∧K (Value.bool false) au' (as'+1)) (aB (aS 1 (ptr (nx+2))) fun av'=>aB (load1 ro i' av') fun aw'=>aB (bG aw') fun bg'=>dO (qB ro) (puts (gK [v0,v1,v2]) [(3,(ptr nx)),(4,(ptr (nx+1))),(5,(ptr (nx+2))),(6,(Value.bool false)),(9,m'),(10,n'),(11,o'),(16,q'),(17,r'),(18,b'),(19,b'),(20,s'),(21,u'),(22,x'),(23,A'),(24,C'),(25,F'),(26,I'),(27,a'),(28,a'),(29,L'),(30,N'),(31,Q'),(32,T'),(33,W'),(34,Y'),(35,ab'),(36,ad'),(37,ag'),(38,aj'),(39,al'),(40,ao'),(41,ar'),(42,at'),(43,av'),(44,aw'),(45,bg'),(46,(Value.int IntKind.i64 0))]) i' (as'+4) fun bh' j' k' l'=>exP bh' (lQ ro K j' k' l') (fun bi'=>cP (Nat.beq bi' 0) (lQ ro K j' k' l') (False)) (∃ ax',Sub ax' k'∧K (j' 6) ax' l')))
theorem yA {ro:Ro}{v0 v1 v2:Value}{h:T Obj}{nx:Nat}{K:KV} (hw:tV ro v0 v1 v2 h nx K):aN Tryz.prog ro mX [v0,v1,v2] h nx K:=a7 (P:=Tryz.prog) (fn:=Tryz.f157) (by kernel_rfl) (by kernel_rfl) (by kernel_rfl) (Eq.mpr (by kernel_rfl) hw)
@[irreducible] def oB (ro:Ro) (v0 v1:Value) (h:T Obj) (nx:Nat) (K:KV):Prop:=aN Tryz.prog ro oR [v0,v1] h (nx+4) fun a' h2 n3=>aB (aO .geq a' (Value.int IntKind.i64 0)) fun b'=>∃ h5,Sub h5 h2∧K b' h5 (n3+2)
theorem tQ {ro:Ro}{v0 v1:Value}{h:T Obj}{nx:Nat}{K:KV} (hw:oB ro v0 v1 h nx K):aN Tryz.prog ro gM [v0,v1] h nx K:=a7 (P:=Tryz.prog) (fn:=Tryz.f164) (by kernel_rfl) (by kernel_rfl) (by kernel_rfl) (Eq.mpr (by kernel_rfl) hw)
@[irreducible] def tI (ro:Ro) (K:KV):Env→T Obj→Nat→Prop:=fun e h nx=>∃ h1,Sub h1 h∧K (Value.bool true) h1 (nx+1)
@[irreducible] def zD (ro:Ro):PT:=fun e h nx Q=>aB (bG (e 0)) fun d'=>aB (aO .lss (e 5) d') fun e'=>aQ e' (aB (cN 1 (e 0) (e 5)) fun f'=>aB (load1 ro h f') fun g'=>aB (aO .lss g' (Value.int IntKind.i64 0)) fun b'=>ifP b' false h (nx+33) (fun k7=>k7 (e 0) h (nx+33)) fun h' h9 E'=>ifP b' false h9 E' (fun ap'=>ap' (e 5) h9 E') fun i' F' G'=>ifP b' false F' G' (fun aq'=>aB (cN 1 h' i') fun ar'=>aq' ar' F' G') fun j' k' H'=>ifP b' false k' H' (fun as'=>aB (load1 ro k' j') fun at'=>as' at' k' H') fun l' I' J'=>ifP b' false I' J' (fun au'=>au' (e 1) I' J') fun m' K' L'=>ifP b' false K' L' (fun av'=>aB (aO .geq l' m') fun aw'=>av' aw' K' L') fun n' M' N'=>aB (bL b' (Value.bool true) n') fun c'=>ifP c' false M' N' (fun ax'=>ax' (e 5) M' N') fun o' O' P'=>ifP c' false O' P' (fun ay'=>aB (aO .gtr o' (Value.int IntKind.i64 0)) fun az'=>ay' az' O' P') fun p' Q' R'=>ifP c' false Q' R' (fun aA'=>aA' p' Q' R') fun a' S' T'=>ifP a' true S' T' (fun aB'=>aB' (e 0) S' T') fun q' U' V'=>ifP a' true U' V' (fun aC'=>aC' (e 5) U' V') fun r' W' X'=>ifP a' true W' X' (fun aD'=>aB (aO .sub r' (Value.int IntKind.i64 1)) fun aE'=>aD' aE' W' X') fun s' Y' Z'=>ifP a' true Y' Z' (fun aF'=>aB (cN 1 q' s') fun aG'=>aF' aG' Y' Z') fun t' u' aa'=>ifP a' true u' aa' (fun aH'=>aB (load1 ro u' t') fun aI'=>aH' aI' u' aa') fun v' ab' ac'=>ifP a' true ab' ac' (fun aJ'=>aJ' (e 0) ab' ac') fun w' ad' ae'=>ifP a' true ad' ae' (fun aK'=>aK' (e 5) ad' ae') fun x' af' ag'=>ifP a' true af' ag' (fun aL'=>aB (cN 1 w' x') fun aM'=>aL' aM' af' ag') fun y' z' ah'=>ifP a' true z' ah' (fun aN'=>aB (load1 ro z' y') fun aO'=>aN' aO' z' ah') fun A' ai' aj'=>ifP a' true ai' aj' (fun aP'=>aB (aO .geq v' A') fun aQ'=>aP' aQ' ai' aj') fun B' ak' al'=>ifP c' false ak' al' (fun aR'=>aB (bL a' B' (Value.bool false)) fun aS'=>aR' aS' ak' al') fun C' am' an'=>aB (bL c' (Value.bool true) C') fun D'=>aQ D' (Q .ret (puts e [(6,(e 5)),(7,(e 0)),(8,d'),(9,e'),(12,(e 0)),(13,(e 5)),(14,f'),(15,g'),(16,b'),(17,b'),(18,h'),(19,i'),(20,j'),(21,l'),(22,m'),(23,n'),(24,c'),(25,c'),(26,o'),(27,p'),(28,a'),(29,q'),(30,r'),(31,s'),(32,t'),(33,v'),(34,w'),(35,x'),(36,y'),(37,A'),(38,B'),(39,C'),(40,D'),(4,(Value.bool false))]) am' (an'+1)) (aB (aO .add (e 5) (Value.int IntKind.i64 1)) fun ao'=>Q .normal (puts e [(6,(e 5)),(7,(e 0)),(8,d'),(9,e'),(12,(e 0)),(13,(e 5)),(14,f'),(15,g'),(16,b'),(17,b'),(18,h'),(19,i'),(20,j'),(21,l'),(22,m'),(23,n'),(24,c'),(25,c'),(26,o'),(27,p'),(28,a'),(29,q'),(30,r'),(31,s'),(32,t'),(33,v'),(34,w'),(35,x'),(36,y'),(37,A'),(38,B'),(39,C'),(40,D'),(10,(e 5)),(11,ao'),(5,ao')]) am' (an'+3))) (Q (.exit 0) (puts e [(6,(e 5)),(7,(e 0)),(8,d'),(9,e')]) h (nx+4))
@[irreducible] def aDD (ro:Ro) (v0 v1:Value) (h:T Obj) (nx:Nat) (K:KV):Prop:=dO (zD ro) (puts (gK [v0,v1]) [(4,(Value.bool false)),(5,(Value.int IntKind.i64 0))]) h (nx+2) fun x104 e101 h102 n103=>exP x104 (tI ro K e101 h102 n103) (fun i105=>cP (Nat.beq i105 0) (tI ro K e101 h102 n103) (False)) (∃ h106,Sub h106 h102∧K (e101 4) h106 n103)
theorem aEj {ro:Ro}{v0 v1:Value}{h:T Obj}{nx:Nat}{K:KV} (hw:aDD ro v0 v1 h nx K):aN Tryz.prog ro pW [v0,v1] h nx K:=a7 (P:=Tryz.prog) (fn:=Tryz.f166) (by kernel_rfl) (by kernel_rfl) (by kernel_rfl) (Eq.mpr (by kernel_rfl) hw)
@[irreducible] def vG (ro:Ro) (K:KV):Env→T Obj→Nat→Prop:=fun e h nx=>∃ h108,Sub h108 h∧K (Value.bool true) h108 (nx+1)
@[irreducible] def aA8 (ro:Ro):PT:=fun e h nx Q=>aB (aS 1 (e 5)) fun d'=>aB (load1 ro h d') fun e'=>aB (bG e') fun f'=>aB (aO .lss (e 7) f') fun g'=>aQ g' (aB (aS 1 (e 5)) fun h'=>aB (load1 ro h h') fun i'=>aB (cN 1 i' (e 7)) fun j'=>aB (load1 ro h j') fun k'=>aB (aO .lss k' (Value.int IntKind.u8 1)) fun c'=>ifP c' false h (nx+43) (fun aS'=>aB (aS 1 (e 5)) fun aT'=>aS' aT' h (nx+43)) fun l' m' W'=>ifP c' false m' W' (fun aU'=>aB (load1 ro m' l') fun aV'=>aU' aV' m' W') fun n' X' Y'=>ifP c' false X' Y' (fun aW'=>aW' (e 7) X' Y') fun o' Z' aa'=>ifP c' false Z' aa' (fun aX'=>aB (cN 1 n' o') fun aY'=>aX' aY' Z' aa') fun p' q' ab'=>ifP c' false q' ab' (fun aZ'=>aB (load1 ro q' p') fun a0'=>aZ' a0' q' ab') fun r' ac' ad'=>ifP c' false ac' ad' (fun a1'=>aB (aO .gtr r' (Value.int IntKind.u8 3)) fun a2'=>a1' a2' ac' ad') fun s' ae' af'=>aB (bL c' (Value.bool true) s') fun b'=>ifP b' false ae' af' (fun a3'=>aB (aS 1 (e 5)) fun a4'=>a3' a4' ae' af') fun t' u' ag'=>ifP b' false u' ag' (fun a5'=>aB (load1 ro u' t') fun a6'=>a5' a6' u' ag') fun v' ah' ai'=>ifP b' false ah' ai' (fun a7'=>a7' (e 7) ah' ai') fun w' aj' ak'=>ifP b' false aj' ak' (fun a8'=>aB (cN 1 v' w') fun a9'=>a8' a9' aj' ak') fun x' y' al'=>ifP b' false y' al' (fun ba'=>aB (load1 ro y' x') fun bb'=>ba' bb' y' al') fun z' am' an'=>ifP b' false am' an' (fun bc'=>aB (aO .neq z' (Value.int IntKind.u8 3)) fun bd'=>bc' bd' am' an') fun A' ao' ap'=>ifP b' false ao' ap' (fun be'=>be' A' ao' ap') fun a' aq' ar'=>ifP a' true aq' ar' (fun bf'=>aB (aS 1 (e 4)) fun bg'=>bf' bg' aq' ar') fun B' C' as'=>ifP a' true C' as' (fun bh'=>aB (load1 ro C' B') fun bi'=>bh' bi' C' as') fun D' at' au'=>ifP a' true at' au' (fun bj'=>aB (aS 258 (e 3)) fun bk'=>bj' bk' at' au') fun E' F' av'=>ifP a' true F' av' (fun bl'=>aB (load1 ro F' E') fun bm'=>bl' bm' F' av') fun G' aw' ax'=>ifP a' true aw' ax' (fun bn'=>aB (aS 0 (e 5)) fun bo'=>bn' bo' aw' ax') fun H' I' ay'=>ifP a' true I' ay' (fun bp'=>aB (load1 ro I' H') fun bq'=>bp' bq' I' ay') fun J' az' aA'=>ifP a' true az' aA' (fun br'=>aB (cN 4 G' J') fun bs'=>br' bs' az' aA') fun K' aB' aC'=>ifP a' true aB' aC' (fun bt'=>aB (aS 1 K') fun bu'=>bt' bu' aB' aC') fun L' M' aD'=>ifP a' true M' aD' (fun bv'=>aB (load1 ro M' L') fun bw'=>bv' bw' M' aD') fun N' aE' aF'=>ifP a' true aE' aF' (fun bx'=>bx' (e 7) aE' aF') fun O' aG' aH'=>ifP a' true aG' aH' (fun by'=>aB (cN 1 N' O') fun bz'=>by' bz' aG' aH') fun P' Q' aI'=>ifP a' true Q' aI' (fun bA'=>aB (load1 ro Q' P') fun bB'=>bA' bB' Q' aI') fun R' aJ' aK'=>ifP a' true aJ' aK' (fun bC'=>aN Tryz.prog ro aAz [D',R'] aJ' aK' fun bD' bE' bF'=>bC' bD' bE' bF') fun S' aL' aM'=>ifP a' true aL' aM' (fun bG'=>aB (unV .not S') fun bH'=>bG' bH' aL' aM') fun T' aN' aO'=>ifP b' false aN' aO' (fun bI'=>aB (bL a' T' (Value.bool false)) fun bJ'=>bI' bJ' aN' aO') fun U' aP' aQ'=>aB (bL b' (Value.bool true) U') fun V'=>aQ V' (Q .ret (puts e [(40,(e 7)),(41,d'),(42,e'),(43,f'),(44,g'),(47,h'),(48,i'),(49,(e 7)),(50,j'),(51,k'),(52,c'),(53,c'),(54,l'),(55,n'),(56,o'),(57,p'),(58,r'),(59,s'),(60,b'),(61,b'),(62,t'),(63,v'),(64,w'),(65,x'),(66,z'),(67,A'),(68,a'),(69,B'),(70,D'),(71,E'),(72,G'),(73,H'),(74,J'),(75,K'),(76,L'),(77,N'),(78,O'),(79,P'),(80,R'),(81,S'),(82,T'),(83,U'),(84,V'),(6,(Value.bool false))]) aP' (aQ'+1)) (aB (aO .add (e 7) (Value.int IntKind.i64 1)) fun aR'=>Q .normal (puts e [(40,(e 7)),(41,d'),(42,e'),(43,f'),(44,g'),(47,h'),(48,i'),(49,(e 7)),(50,j'),(51,k'),(52,c'),(53,c'),(54,l'),(55,n'),(56,o'),(57,p'),(58,r'),(59,s'),(60,b'),(61,b'),(62,t'),(63,v'),(64,w'),(65,x'),(66,z'),(67,A'),(68,a'),(69,B'),(70,D'),(71,E'),(72,G'),(73,H'),(74,J'),(75,K'),(76,L'),(77,N'),(78,O'),(79,P'),(80,R'),(81,S'),(82,T'),(83,U'),(84,V'),(45,(e 7)),(46,aR'),(7,aR')]) aP' (aQ'+3))) (Q (.exit 0) (puts e [(40,(e 7)),(41,d'),(42,e'),(43,f'),(44,g')]) h (nx+5))
@[irreducible] def aEi (ro:Ro) (v0 v1 v2:Value) (h:T Obj) (nx:Nat) (K:KV):Prop:=cV h nx (.cells (Value.cells v0) bI) fun h1=>cV h1 (nx+1) (.cells (Value.cells v1) bC) fun h2=>cV h2 (nx+2) (.cells (Value.cells v2) cL) fun h3=>aB (aS 0 (ptr (nx+2))) fun l'=>aB (load1 ro h3 l') fun m'=>aB (aO .eql m' (Value.int IntKind.i64 (-1))) fun n'=>aQ n' (aB (aS 1 (ptr (nx+2))) fun aq'=>aB (load1 ro h3 aq') fun ar'=>aB (bG ar') fun as'=>aB (aO .eql as' (Value.int IntKind.i64 0)) fun at'=>∃ o',Sub o' h3∧K at' o' (nx+12)) (aB (aS 0 (ptr (nx+2))) fun p'=>aB (load1 ro h3 p') fun q'=>aB (aO .lss q' (Value.int IntKind.i64 1)) fun b'=>ifP b' false h3 (nx+32) (fun au'=>aB (aS 0 (ptr (nx+2))) fun av'=>au' av' h3 (nx+32)) fun r' c' s'=>ifP b' false c' s' (fun aw'=>aB (load1 ro c' r') fun ax'=>aw' ax' c' s') fun t' u' v'=>ifP b' false u' v' (fun ay'=>aB (aS 258 (ptr nx)) fun az'=>ay' az' u' v') fun w' d' x'=>ifP b' false d' x' (fun aA'=>aB (load1 ro d' w') fun aB'=>aA' aB' d' x') fun y' z' A'=>ifP b' false z' A' (fun aC'=>aB (bG y') fun aD'=>aC' aD' z' A') fun B' C' D'=>ifP b' false C' D' (fun aE'=>aB (aO .geq t' B') fun aF'=>aE' aF' C' D') fun E' F' G'=>aB (bL b' (Value.bool true) E') fun a'=>ifP a' false F' G' (fun aG'=>aB (aS 1 (ptr (nx+2))) fun aH'=>aG' aH' F' G') fun H' e' I'=>ifP a' false e' I' (fun aI'=>aB (load1 ro e' H') fun aJ'=>aI' aJ' e' I') fun J' K' L'=>ifP a' false K' L' (fun aK'=>aB (bG J') fun aL'=>aK' aL' K' L') fun M' N' O'=>ifP a' false N' O' (fun aM'=>aB (aS 258 (ptr nx)) fun aN'=>aM' aN' N' O') fun P' f' Q'=>ifP a' false f' Q' (fun aO'=>aB (load1 ro f' P') fun aP'=>aO' aP' f' Q') fun R' S' T'=>ifP a' false S' T' (fun aQ'=>aB (aS 0 (ptr (nx+2))) fun aR'=>aQ' aR' S' T') fun U' g' V'=>ifP a' false g' V' (fun aS'=>aB (load1 ro g' U') fun aT'=>aS' aT' g' V') fun W' X' Y'=>ifP a' false X' Y' (fun aU'=>aB (cN 4 R' W') fun aV'=>aU' aV' X' Y') fun Z' aa' ab'=>ifP a' false aa' ab' (fun aW'=>aB (aS 1 Z') fun aX'=>aW' aX' aa' ab') fun ac' h' ad'=>ifP a' false h' ad' (fun aY'=>aB (load1 ro h' ac') fun aZ'=>aY' aZ' h' ad') fun ae' af' ag'=>ifP a' false af' ag' (fun a0'=>aB (bG ae') fun a1'=>a0' a1' af' ag') fun ah' ai' aj'=>ifP a' false ai' aj' (fun a2'=>aB (aO .neq M' ah') fun a3'=>a2' a3' ai' aj') fun ak' al' am'=>aB (bL a' (Value.bool true) ak') fun an'=>aQ an' (∃ ao',Sub ao' al'∧K (Value.bool false) ao' (am'+1)) (dO (aA8 ro) (puts (gK [v0,v1,v2]) [(3,(ptr nx)),(4,(ptr (nx+1))),(5,(ptr (nx+2))),(6,(Value.bool false)),(8,l'),(9,m'),(10,n'),(15,p'),(16,q'),(17,b'),(18,b'),(19,r'),(20,t'),(21,w'),(22,y'),(23,B'),(24,E'),(25,a'),(26,a'),(27,H'),(28,J'),(29,M'),(30,P'),(31,R'),(32,U'),(33,W'),(34,Z'),(35,ac'),(36,ae'),(37,ah'),(38,ak'),(39,an'),(7,(Value.int IntKind.i64 0))]) al' (am'+1) fun a4' i' j' k'=>exP a4' (vG ro K i' j' k') (fun a5'=>cP (Nat.beq a5' 0) (vG ro K i' j' k') (False)) (∃ ap',Sub ap' j'∧K (i' 6) ap' k')))
theorem aFc {ro:Ro}{v0 v1 v2:Value}{h:T Obj}{nx:Nat}{K:KV} (hw:aEi ro v0 v1 v2 h nx K):aN Tryz.prog ro wT [v0,v1,v2] h nx K:=a7 (P:=Tryz.prog) (fn:=Tryz.f167) (by kernel_rfl) (by kernel_rfl) (by kernel_rfl) (Eq.mpr (by kernel_rfl) hw)
@[irreducible] def vF (ro:Ro) (K:KV):Env→T Obj→Nat→Prop:=fun e h nx=>∃ h2,Sub h2 h∧K (e 3) h2 (nx+2)
@[irreducible] def pZ (ro:Ro) (Q:KE):Env→T Obj→Nat→Prop:=fun e h nx=>aB (aO .add (e 4) (Value.int IntKind.i64 1)) fun a'=>Q .normal (puts e [(7,(e 4)),(8,a'),(4,a')]) h (nx+3)
@[irreducible] def aA6 (ro:Ro):PT:=fun e h nx Q=>aB (aO .lss (e 4) (Value.int IntKind.i64 256)) fun a'=>aQ a' (aB (loadA ro h 4 (e 1)) fun c'=>aB (vQ .u8 (e 4)) fun d'=>aN Tryz.prog ro uD [c',d'] h (nx+6) fun e' h8 n9=>aQ e' (aB (vQ .u8 (e 4)) fun g'=>aB (bQ Tryz.prog a8 (n9+3) 1 [(0,g')]) fun f'=>eS h8 (n9+3) f'.2 fun h'=>aB (cA Tryz.prog ro h' (n9+5) #[a8,a8] [(e 3),f'.1]) fun b'=>pZ ro Q (puts e [(5,(e 4)),(6,a'),(9,c'),(10,(e 4)),(11,d'),(12,e'),(13,(e 3)),(14,(e 4)),(15,g'),(16,f'.1),(17,b'.1),(3,b'.1)]) b'.2.1 (b'.2.2+1)) (pZ ro Q (puts e [(5,(e 4)),(6,a'),(9,c'),(10,(e 4)),(11,d'),(12,e')]) h8 n9)) (Q (.exit 0) (puts e [(5,(e 4)),(6,a')]) h (nx+2))
@[irreducible] def aE9 (ro:Ro) (v0:Value) (h:T Obj) (nx:Nat) (K:KV):Prop:=cV h nx (.cells (Value.cells v0) eB) fun h1=>dO (aA6 ro) (puts (gK [v0]) [(1,(ptr nx)),(2,(Value.slice none 0 0)),(3,(Value.slice none 0 0)),(4,(Value.int IntKind.i64 0))]) h1 (nx+4) fun x17 e14 h15 n16=>exP x17 (vF ro K e14 h15 n16) (fun i18=>cP (Nat.beq i18 0) (vF ro K e14 h15 n16) (False)) (∃ h19,Sub h19 h15∧K (e14 2) h19 n16)
theorem aF4 {ro:Ro}{v0:Value}{h:T Obj}{nx:Nat}{K:KV} (hw:aE9 ro v0 h nx K):aN Tryz.prog ro wR [v0] h nx K:=a7 (P:=Tryz.prog) (fn:=Tryz.f178) (by kernel_rfl) (by kernel_rfl) (by kernel_rfl) (Eq.mpr (by kernel_rfl) hw)
@[irreducible] def xA (ro:Ro) (K:KV):Env→T Obj→Nat→Prop:=fun e h nx=>aN Tryz.prog ro aAy [(e 5)] h (nx+2) fun a' h5 n6=>aB (bY 4 h5 (e 4) a') fun h7=>aB (loadA ro h7 4 (e 4)) fun r8=>∃ h9,Sub h9 h7∧K r8 h9 (n6+1)
@[irreducible] def rX (ro:Ro) (Q:KE):Env→T Obj→Nat→Prop:=fun e h nx=>aB (aO .add (e 6) (Value.int IntKind.i64 1)) fun a'=>Q .normal (puts e [(9,(e 6)),(10,a'),(6,a')]) h (nx+3)
@[irreducible] def aBn (ro:Ro):PT:=fun e h nx Q=>aB (aO .lss (e 6) (Value.int IntKind.i64 256)) fun a'=>aQ a' (aB (aS 0 (e 2)) fun c'=>aB (ixArr 256 1 c' (e 6)) fun d'=>aB (load1 ro h d') fun e'=>aB (vQ .i64 e') fun f'=>aB (aO .eql f' (e 1)) fun g'=>aQ g' (aB (vQ .u8 (e 6)) fun i'=>aB (bQ Tryz.prog a8 (nx+12) 1 [(0,i')]) fun h'=>eS h (nx+12) h'.2 fun j'=>aB (cA Tryz.prog ro j' (nx+14) #[a8,a8] [(e 5),h'.1]) fun b'=>rX ro Q (puts e [(7,(e 6)),(8,a'),(11,(e 6)),(12,c'),(13,d'),(14,e'),(15,f'),(16,(e 1)),(17,g'),(18,(e 5)),(19,(e 6)),(20,i'),(21,h'.1),(22,b'.1),(5,b'.1)]) b'.2.1 (b'.2.2+1)) (rX ro Q (puts e [(7,(e 6)),(8,a'),(11,(e 6)),(12,c'),(13,d'),(14,e'),(15,f'),(16,(e 1)),(17,g')]) h (nx+9))) (Q (.exit 0) (puts e [(7,(e 6)),(8,a')]) h (nx+2))
@[irreducible] def aGU (ro:Ro) (v0 v1:Value) (h:T Obj) (nx:Nat) (K:KV):Prop:=cV h nx (.cells (Value.cells v0) dP) fun h1=>aB (zer Tryz.prog eB) fun z2=>cV h1 (nx+1) (.cells z2.cells eB) fun h3=>dO (aBn ro) (puts (gK [v0,v1]) [(2,(ptr nx)),(4,(ptr (nx+1))),(5,(Value.slice none 0 0)),(6,(Value.int IntKind.i64 0))]) h3 (nx+4) fun x24 e21 h22 n23=>exP x24 (xA ro K e21 h22 n23) (fun i25=>cP (Nat.beq i25 0) (xA ro K e21 h22 n23) (False)) (aB (loadA ro h22 4 (e21 4)) fun r26=>∃ h27,Sub h27 h22∧K r26 h27 n23)
theorem aHT {ro:Ro}{v0 v1:Value}{h:T Obj}{nx:Nat}{K:KV} (hw:aGU ro v0 v1 h nx K):aN Tryz.prog ro yQ [v0,v1] h nx K:=a7 (P:=Tryz.prog) (fn:=Tryz.f179) (by kernel_rfl) (by kernel_rfl) (by kernel_rfl) (Eq.mpr (by kernel_rfl) hw)
@[irreducible] def zC (ro:Ro) (K:KV):Env→T Obj→Nat→Prop:=fun e h nx=>∃ h1,Sub h1 h∧K (Value.bool false) h1 (nx+1)
@[irreducible] def aDC (ro:Ro):PT:=fun e h nx Q=>aB (bG (e 0)) fun a'=>aB (aO .lss (e 5) a') fun b'=>aQ b' (aB (cN 1 (e 0) (e 5)) fun c'=>aB (load1 ro h c') fun d'=>aB (aO .eql d' (e 1)) fun e'=>aQ e' (Q .ret (puts e [(6,(e 5)),(7,(e 0)),(8,a'),(9,b'),(12,(e 0)),(13,(e 5)),(14,c'),(15,d'),(16,(e 1)),(17,e'),(4,(Value.bool true))]) h (nx+11)) (aB (aO .add (e 5) (Value.int IntKind.i64 1)) fun f'=>Q .normal (puts e [(6,(e 5)),(7,(e 0)),(8,a'),(9,b'),(12,(e 0)),(13,(e 5)),(14,c'),(15,d'),(16,(e 1)),(17,e'),(10,(e 5)),(11,f'),(5,f')]) h (nx+13))) (Q (.exit 0) (puts e [(6,(e 5)),(7,(e 0)),(8,a'),(9,b')]) h (nx+4))
@[irreducible] def aJB (ro:Ro) (v0 v1:Value) (h:T Obj) (nx:Nat) (K:KV):Prop:=dO (aDC ro) (puts (gK [v0,v1]) [(4,(Value.bool false)),(5,(Value.int IntKind.i64 0))]) h (nx+2) fun x11 e8 h9 n10=>exP x11 (zC ro K e8 h9 n10) (fun i12=>cP (Nat.beq i12 0) (zC ro K e8 h9 n10) (False)) (∃ h13,Sub h13 h9∧K (e8 4) h13 n10)
theorem aJC {ro:Ro}{v0 v1:Value}{h:T Obj}{nx:Nat}{K:KV} (hw:aJB ro v0 v1 h nx K):aN Tryz.prog ro aAz [v0,v1] h nx K:=a7 (P:=Tryz.prog) (fn:=Tryz.f180) (by kernel_rfl) (by kernel_rfl) (by kernel_rfl) (Eq.mpr (by kernel_rfl) hw)
@[irreducible] def fL (ro:Ro) (K:KV):Env→T Obj→Nat→Prop:=fun e h nx=>∃ h1,Sub h1 h∧K (Value.int IntKind.i64 (-1)) h1 (nx+1)
@[irreducible] def iA (ro:Ro):PT:=fun e h nx Q=>aB (aO .lss (e 8) (e 7)) fun a'=>aQ a' (aB (cN 2 (e 0) (e 8)) fun b'=>aB (loadA ro h 2 b') fun c'=>yB (aN Tryz.prog ro) (e 1) [c'] h (nx+9) fun d' h7 n8=>aQ d' (Q .ret (puts e [(9,a'),(10,(e 8)),(5,(e 8)),(11,(e 1)),(12,(e 0)),(13,(e 8)),(14,b'),(15,c'),(16,d'),(17,(e 8)),(4,(e 8))]) h7 (n8+2)) (aB (aO .add (e 8) (Value.int IntKind.i64 1)) fun e'=>Q .normal (puts e [(9,a'),(10,(e 8)),(5,(e 8)),(11,(e 1)),(12,(e 0)),(13,(e 8)),(14,b'),(15,c'),(16,d'),(18,e'),(8,e')]) h7 (n8+2))) (Q (.exit 0) (puts e [(9,a')]) h (nx+1))
@[irreducible] def iZ (ro:Ro) (v0 v1:Value) (h:T Obj) (nx:Nat) (K:KV):Prop:=aB (bG v0) fun e'=>dO (iA ro) (puts (gK [v0,v1]) [(4,(Value.int IntKind.i64 0)),(6,v0),(7,e'),(8,(Value.int IntKind.i64 0))]) h (nx+4) fun f' a' b' c'=>exP f' (fL ro K a' b' c') (fun g'=>cP (Nat.beq g' 0) (fL ro K a' b' c') (False)) (∃ d',Sub d' b'∧K (a' 4) d' c')
theorem mR {ro:Ro}{v0 v1:Value}{h:T Obj}{nx:Nat}{K:KV} (hw:iZ ro v0 v1 h nx K):aN Tryz.prog ro fP [v0,v1] h nx K:=a7 (P:=Tryz.prog) (fn:=Tryz.f182) (by kernel_rfl) (by kernel_rfl) (by kernel_rfl) (Eq.mpr (by kernel_rfl) hw)
@[irreducible] def kO (ro:Ro) (K:KV):Env→T Obj→Nat→Prop:=fun e h nx=>∃ h1,Sub h1 h∧K (Value.int IntKind.i64 (-1)) h1 (nx+1)
@[irreducible] def oC (ro:Ro):PT:=fun e h nx Q=>aB (aO .lss (e 8) (e 7)) fun a'=>aQ a' (aB (cN 1 (e 0) (e 8)) fun b'=>aB (load1 ro h b') fun c'=>aB (aO .eql (e 1) c') fun d'=>aQ d' (Q .ret (puts e [(9,a'),(10,(e 8)),(5,(e 8)),(11,(e 1)),(12,(e 0)),(13,(e 8)),(14,b'),(15,c'),(16,d'),(17,(e 8)),(4,(e 8))]) h (nx+11)) (aB (aO .add (e 8) (Value.int IntKind.i64 1)) fun e'=>Q .normal (puts e [(9,a'),(10,(e 8)),(5,(e 8)),(11,(e 1)),(12,(e 0)),(13,(e 8)),(14,b'),(15,c'),(16,d'),(18,e'),(8,e')]) h (nx+11))) (Q (.exit 0) (puts e [(9,a')]) h (nx+1))
@[irreducible] def qT (ro:Ro) (v0 v1:Value) (h:T Obj) (nx:Nat) (K:KV):Prop:=aB (bG v0) fun c'=>dO (oC ro) (puts (gK [v0,v1]) [(4,(Value.int IntKind.i64 0)),(6,v0),(7,c'),(8,(Value.int IntKind.i64 0))]) h (nx+4) fun d' e8 h9 a'=>exP d' (kO ro K e8 h9 a') (fun e'=>cP (Nat.beq e' 0) (kO ro K e8 h9 a') (False)) (∃ b',Sub b' h9∧K (e8 4) b' a')
theorem wF {ro:Ro}{v0 v1:Value}{h:T Obj}{nx:Nat}{K:KV} (hw:qT ro v0 v1 h nx K):aN Tryz.prog ro oR [v0,v1] h nx K:=a7 (P:=Tryz.prog) (fn:=Tryz.f187) (by kernel_rfl) (by kernel_rfl) (by kernel_rfl) (Eq.mpr (by kernel_rfl) hw)
@[irreducible] def uI (ro:Ro) (K:KV):Env→T Obj→Nat→Prop:=fun e h nx=>aB (loadA ro h 4 (e 3)) fun b'=>aB (bY 4 h (e 2) b') fun h8=>aB (loadA ro h8 4 (e 2)) fun r9=>∃ a',Sub a' h8∧K r9 a' (nx+2)
@[irreducible] def aCw (ro:Ro):PT:=fun e h nx Q=>aB (bG (e 0)) fun a'=>aB (aO .lss (e 4) a') fun b'=>aQ b' (aB (loadA ro h 4 (e 3)) fun c'=>aB (cN 1 (e 0) (e 4)) fun d'=>aB (load1 ro h d') fun e'=>aN Tryz.prog ro wS [c',e'] h (nx+11) fun f' h' i'=>aB (bY 4 h' (e 3) f') fun j'=>aB (aO .add (e 4) (Value.int IntKind.i64 1)) fun g'=>Q .normal (puts e [(6,(e 4)),(7,(e 0)),(8,a'),(9,b'),(12,c'),(13,(e 0)),(14,(e 4)),(15,d'),(16,e'),(17,f'),(10,(e 4)),(11,g'),(4,g')]) j' (i'+3)) (Q (.exit 0) (puts e [(6,(e 4)),(7,(e 0)),(8,a'),(9,b')]) h (nx+4))
@[irreducible] def aIy (ro:Ro) (v0:Value) (h:T Obj) (nx:Nat) (K:KV):Prop:=aB (zer Tryz.prog eB) fun z1=>cV h nx (.cells z1.cells eB) fun h2=>aB (fO Tryz.prog eB []) fun d'=>aB (zer Tryz.prog eB) fun z4=>cV h2 (nx+2) (.cells z4.cells eB) fun h5=>aB (bY 4 h5 (ptr (nx+2)) d') fun h6=>dO (aCw ro) (puts (gK [v0]) [(2,(ptr nx)),(5,d'),(3,(ptr (nx+2))),(4,(Value.int IntKind.i64 0))]) h6 (nx+5) fun f' b' a' c'=>exP f' (uI ro K b' a' c') (fun g'=>cP (Nat.beq g' 0) (uI ro K b' a' c') (False)) (aB (loadA ro a' 4 (b' 2)) fun h'=>∃ e',Sub e' a'∧K h' e' c')
theorem aIz {ro:Ro}{v0:Value}{h:T Obj}{nx:Nat}{K:KV} (hw:aIy ro v0 h nx K):aN Tryz.prog ro aAy [v0] h nx K:=a7 (P:=Tryz.prog) (fn:=Tryz.f192) (by kernel_rfl) (by kernel_rfl) (by kernel_rfl) (Eq.mpr (by kernel_rfl) hw)
end V
end Go.Proofs.YtcaccnneblghgaaGreat
noncomputable section
namespace Go.Proofs.YtcaccnneblghgaaGreat
namespace V
theorem yD {ro:Ro}{h h':T Obj}{a:Addr}{n:Nat}{l:List Value} (hs:Sub h h') (hc:cellsAt ro h a n=some l):cellsAt ro h' a n=some l:=by
 unfold cellsAt at hc ⊢
 cases hsp:a.spot with
 | none=>rw[hsp] at hc; exact hc
 | some z =>
  rw[hsp] at hc
  simp only at hc ⊢
  cases hg:h.get a.block with
  | none=>rw[hg] at hc; cases hc
  | some o=>rw[hg] at hc; rw[hs _ _ hg]; exact hc
theorem zM {ro:Ro}:∀ {n:Nat}{a:Addr}{l:List Value},roCells ro a n=some l→l.length=n
 | 0,a,l,h=>by cases h; rfl
 | n+1,a,l,h=>by
  obtain⟨v,h1,h⟩:=aM h
  obtain⟨r,h2,h⟩:=aM h
  cases h
  simp[zM h2]
theorem xE {ro:Ro}:∀ {off n k:Nat}{a:Addr}{l:List Value},roCells ro a n=some l→a.spot=none→off+k≤n→roCells ro ⟨a.block,a.off+off,none⟩ k=some ((l.drop off).take k)
 | 0,n,0,a,l,h,hs,hk=>by simp[roCells]
 | 0,0,k+1,a,l,h,hs,hk=>by omega
 | 0,n+1,k+1,a,l,h,hs,hk=>by
  obtain⟨v,h1,h⟩:=aM h
  obtain⟨r,h2,h⟩:=aM h
  cases h
  have ih:=xE (off:=0) (k:=k) h2 rfl (by omega)
  have ha:(⟨a.block,a.off+0,none⟩:Addr)=a:=by cases a; simp_all
  rw[ha]
  simp only[roCells,h1,Option.bind_some]
  simp only[Nat.add_zero] at ih
  rw[ih]; simp
 | off+1,0,k,a,l,h,hs,hk=>by omega
 | off+1,n+1,k,a,l,h,hs,hk=>by
  obtain⟨v,h1,h⟩:=aM h
  obtain⟨r,h2,h⟩:=aM h
  cases h
  have ih:=xE (off:=off) (k:=k) h2 rfl (by omega)
  rw[show a.off+(off+1)=a.off+1+off by omega,List.drop_succ_cons]
  exact ih
theorem aEr {ro:Ro}:∀ {l:List Value}{a:Addr},a.spot=none→(∀ j x,l[j]?=some x→ro ⟨a.block,a.off+j,none⟩=some x)→roCells ro a l.length=some l
 | [],a,hs,h=>rfl
 | v::l,a,hs,h=>by
  have ha:(⟨a.block,a.off+0,none⟩:Addr)=a:=by cases a; simp_all
  have h0:=h 0 v rfl
  rw[ha] at h0
  have ih:=aEr (l:=l) (a:=⟨a.block,a.off+1,none⟩) rfl fun j x hx=>by
   have:=h (j+1) x (by simpa using hx)
   rw[show a.off+1+j=a.off+(j+1) by omega]; exact this
  simp[roCells,h0,ih]
theorem oJ {ro:Ro}{h:T Obj}{a:Addr}{n off k:Nat}{l:List Value} (hc:cellsAt ro h a n=some l) (hk:off+k≤n):cellsAt ro h (elt a off) k=some ((l.drop off).take k):=by
 obtain⟨b,o,s⟩:=a
 cases s with
 | none=>exact xE (a:=⟨b,o,none⟩) hc rfl hk
 | some z =>
  rw[nW] at hc
  obtain⟨c,h1,h2⟩:=aM hc
  split at h2
  ·rename_i hle
   cases h2
   show cellsAt ro h ⟨b,o+off,some 0⟩ k=_
   rw[nW,h1]
   simp only[Option.bind_some]
   rw[if_pos (by omega),List.drop_take,List.drop_drop,List.take_take,Nat.min_eq_left (by omega)]
  ·cases h2
theorem mN {z:Nat}:∀ {l:List (List Value)},(∀ x∈l,x.length=z)→l.flatten.length=l.length*z∧∀ i x,l[i]?=some x→(l.flatten.drop (i*z)).take z=x
 | [],_=>⟨by simp,fun i x hx=>by simp at hx⟩
 | y::r,hz=>by
  have hy:=hz y (by simp)
  obtain⟨h1,h2⟩:=mN (l:=r) fun x hx=>hz x (by simp[hx])
  refine⟨by simp[h1,hy,Nat.add_mul]; omega,?_⟩
  intro i x hx
  cases i with
  | zero=>simp at hx; subst hx; subst hy; simp
  | succ i =>
   have:=h2 i x (by simpa using hx)
   rw[Nat.succ_mul,show i*z+z=y.length+i*z by omega,List.flatten_cons,List.drop_append,List.drop_eq_nil_of_le (Nat.le_add_right _ _)]
   simpa using this
theorem aB5 {z:Nat}:∀ {l:List (List Value)} (n:Nat),(∀ x∈l,x.length=z)→l.flatten.take (n*z)=(l.take n).flatten
 | [],n,_=>by simp
 | y::r,0,_=>by simp
 | y::r,n+1,hz=>by
  have hy:=hz y (by simp)
  rw[List.take_succ_cons,List.flatten_cons,List.flatten_cons,Nat.succ_mul,show n*z+z=y.length+n*z by omega,List.take_append,List.take_of_length_le (Nat.le_add_right _ _),Nat.add_sub_cancel_left,
   aB5 n fun x hx=>hz x (by simp[hx])]
def Sl (ro:Ro) (h:T Obj) (v:Value) (z:Nat) (l:List (List Value)):Prop :=
 (v=.slice none 0 0∧l=[])∨∃ a cap,v=.slice (some a) l.length cap∧l.length≤cap∧(a.spot=none∨a.spot=some z)∧(∀ x∈l,x.length=z)∧cellsAt ro h a (l.length*z)=some l.flatten
theorem Sl.at {ro:Ro}{h:T Obj}{a:Addr}{z:Nat}{l:List (List Value)} (hz:∀ x∈l,x.length=z) (hc:cellsAt ro h a (l.length*z)=some l.flatten):∀ i x,l[i]?=some x→x.length=z∧cellsAt ro h (elt a (i*z)) z=some x:=by
 intro i x hx
 refine⟨hz x (List.mem_of_getElem? hx),?_⟩
 have hi:=(List.getElem?_eq_some_iff.1 hx).1
 have:i*z+z≤l.length*z:=by rw[← Nat.succ_mul]; exact Nat.mul_le_mul_right _ hi
 rw[oJ hc this,(mN hz).2 i x hx]
def jI (z:Nat) (v:Value) (i:Nat):Value:=match v with
 | .slice (some a) _ _=>.pointer (some (elt a (i*z)))
 | _=>undef
section
variable {ro:Ro}{h h':T Obj}{v:Value}{z:Nat}{l:List (List Value)}
theorem Sl.nil:Sl ro h (.slice none 0 0) z []:=.inl ⟨rfl,rfl⟩
theorem Sl.sub (hs:Sub h h') (hl:Sl ro h v z l):Sl ro h' v z l:=by
 rcases hl with hl | ⟨a,cap,h1,h2,h3,h4⟩
 ·exact .inl hl
 ·exact .inr ⟨a,cap,h1,h2,h3,h4.1,yD hs h4.2⟩
theorem Sl.len (hl:Sl ro h v z l):bG v=some (.int .i64 l.length):=by
 rcases hl with ⟨rfl,rfl⟩ | ⟨a,cap,rfl,_⟩<;>rfl
theorem Sl.ix (hl:Sl ro h v z l) (k:IntKind) {i:Nat} (hi:i < l.length):cN z v (.int k (i:Int))=some (jI z v i):=by
 rcases hl with ⟨rfl,rfl⟩ | ⟨a,cap,rfl,h2,h3,h4⟩
 ·simp at hi
 ·have hn:mP (.int k (i:Int))=some i:=by simp[mP]
  have hb:Nat.blt i l.length=true:=by simp[Nat.blt]; omega
  unfold cN
  rw[hn]
  simp only[Option.bind,hb]
  rcases h3 with h3 | h3
  ·rw[h3]; simp[jI,elt,fwd,h3]
  ·rw[h3]; simp[jI,elt,h3]
theorem Sl.loadA (hl:Sl ro h v z l) {i:Nat}{x:List Value} (hx:l[i]?=some x):loadA ro h z (jI z v i)=some (.agg x.toArray):=by
 rcases hl with ⟨rfl,rfl⟩ | ⟨a,cap,rfl,h2,h3,h4⟩
 ·simp at hx
 ·simp[V.loadA,jI,asP,(Sl.at h4.1 h4.2 i x hx).2]
theorem Sl.load1 (hl:Sl ro h v 1 l) {i:Nat}{x:Value} (hx:l[i]?=some [x]):load1 ro h (jI 1 v i)=some x:=by
 rcases hl with ⟨rfl,rfl⟩ | ⟨a,cap,rfl,h2,h3,h4⟩
 ·simp at hx
 ·have:=(Sl.at h4.1 h4.2 i _ hx).2
  simp only[V.load1,jI,asP,Option.bind,this]
theorem aMJ {a:Addr}{n:Nat}{x:List Value} (hs:Sub h h') (hx:cellsAt ro h a n=some x):j5 (.pointer (some a)) h h':=by
 unfold j5 blk
 cases hz:a.spot with
 | none=>simp only[hz]
 | some z =>
  simp only[hz]
  unfold cellsAt at hx
  rw[hz] at hx
  cases hg:h.get a.block with
  | none=>rw[hg] at hx; cases hx
  | some o=>exact⟨by rw[hg,hs _ _ hg],by rw[hg]; rfl⟩
theorem Sl.same (hs:Sub h h') (hl:Sl ro h v z l) {i:Nat} (hi:i < l.length):j5 (jI z v i) h h':=by
 rcases hl with ⟨rfl,rfl⟩ | ⟨b,cap,rfl,h2,h3,h4⟩
 ·simp at hi
 ·exact aMJ hs (Sl.at h4.1 h4.2 i _ (List.getElem?_eq_getElem hi)).2
end
theorem fW {h h':T Obj}{id off z:Nat}{o:Obj} (hg:h.get id=some o) (hs:h'.get id=some o):j5 (at_ id off z) h h':=⟨by rw[hg,hs],by rw[hg]; rfl⟩
theorem Sl.own {ro:Ro}{h:T Obj}{id z cap:Nat}{l:List (List Value)}{e:TypeId}{f:Nat × Nat} (hg:h.get id=some (.cells l.flatten.toArray e f)) (hz:∀ x∈l,x.length=z) (hc:l.length≤cap):Sl ro h (.slice (some (V.own id z)) l.length cap) z l:=by
 refine .inr ⟨V.own id z,cap,rfl,hc,.inr rfl,hz,?_⟩
 have h1:=(mN hz).1
 show cellsAt ro h ⟨id,0,some z⟩ _=_
 rw[nW,hg,bF]
 simp only[Option.bind_some]
 rw[if_pos (by rw[h1]; omega),List.drop_zero,List.take_of_length_le (by rw[h1]; omega)]
theorem d5 {i:Nat}{A:Prop}{B:Nat→Prop}{D:Prop} (h:B i):exP (.exit i) A B D:=h
theorem fB {A:Prop}{B:Nat→Prop}{D:Prop} (h:D):exP .ret A B D:=h
theorem cR {A B:Prop} (h:A):cP true A B:=h
theorem Sl.take {P:Program}{t e:TypeId}{ro:Ro}{h:T Obj}{v:Value}{z:Nat}{l:List (List Value)} (hl:Sl ro h v z l) (hu:und P t=some (.slice e)) (hz:siz P e=some z) (hz0:0 < z) {n:Nat} (hn:n≤l.length) (k:IntKind) :
  ∃ r,kZ P t v none (some (.int k (n:Int))) none=some r∧Sl ro h r z (l.take n):=by
 have hnv:mP (.int k (n:Int))=some n:=by simp[mP]
 rcases hl with ⟨rfl,rfl⟩ | ⟨a,cap,rfl,h2,h3,h4⟩
 ·simp at hn; subst hn
  refine⟨.slice none 0 0,?_,.inl ⟨rfl,rfl⟩⟩
  unfold kZ
  simp[hu,hz,jD,mP]
 ·have hb:Nat.ble n cap=true:=Nat.ble_eq_true_of_le (by omega)
  have hlen:(l.take n).length=n:=by rw[List.length_take]; omega
  refine⟨.slice (some a) n cap,?_,.inr ⟨a,cap,by rw[hlen],by rw[hlen]; omega,h3,fun x hx=>h4.1 x (List.mem_of_mem_take hx),?_⟩⟩
  ·unfold kZ
   have hb1:Nat.ble n l.length=true:=Nat.ble_eq_true_of_le hn
   have hb0:Nat.ble 0 n=true:=Nat.ble_eq_true_of_le (Nat.zero_le _)
   have e0:fwd a (0*z)=a:=by simp[fwd]
   have e1:jD none cap cap=some cap:=rfl
   have e2:jD (some (.int k (n:Int))) l.length cap=some n:=by simp[jD,hnv,hb]
   have e3:jD none 0 n=some 0:=rfl
   simp only[hu,hz,Option.bind,e1,e2,e3,hb,Option.isNone,Bool.true_or,Nat.sub_zero]
   rcases h3 with h3 | h3
   ·simp only[h3]
    cases hc:Nat.beq cap 0 with
    | true=>simp only
    | false=>simp only[e0]
   ·simp only[h3,Nat.beq_refl,e0]
  ·have hk:0+n*z≤l.length*z:=by rw[Nat.zero_add]; exact Nat.mul_le_mul_right _ hn
   have:=oJ h4.2 hk
   rw[List.drop_zero,aB5 n h4.1] at this
   rw[hlen]
   rcases h3 with h3 | h3
   ·have e:elt a 0=a:=by obtain⟨b,o,sp⟩:=a; change sp=none at h3; subst h3; rfl
    rw[e] at this; exact this
   ·unfold cellsAt at this ⊢
    simp only[elt,h3,Option.map,Nat.add_zero] at this ⊢
    exact this
def Own (h:T Obj) (v:Value) (z:Nat) (e:TypeId) (l:List (List Value)) (lo hi:Nat):Prop :=
 (v=.slice none 0 0∧l=[])∨∃ id,lo≤id∧id < hi∧v=.slice (some (own id z)) l.length l.length∧(∀ x∈l,x.length=z)∧h.get id=some (.cells l.flatten.toArray e)
theorem Own.sl {ro:Ro}{h:T Obj}{v:Value}{z:Nat}{e:TypeId}{l:List (List Value)}{lo hi:Nat} (ho:Own h v z e l lo hi):Sl ro h v z l:=by
 rcases ho with ho | ⟨id,_,_,rfl,h4,h5⟩
 ·exact .inl ho
 ·exact Sl.own h5 h4 (Nat.le_refl _)
theorem Own.nil {h:T Obj}{z:Nat}{e:TypeId}{lo hi:Nat}:Own h (.slice none 0 0) z e [] lo hi:=.inl ⟨rfl,rfl⟩
theorem Own.keep {h h':T Obj}{v:Value}{z:Nat}{e:TypeId}{l:List (List Value)}{lo hi hi':Nat} (ho:Own h v z e l lo hi) (hh:hi≤hi') (hk:∀ id,lo≤id→id < hi→∀ o,h.get id=some o→h'.get id=some o):Own h' v z e l lo hi':=by
 rcases ho with ho | ⟨id,h1,h2,h3,h4,h5⟩
 ·exact .inl ho
 ·exact .inr ⟨id,h1,by omega,h3,h4,hk id h1 h2 _ h5⟩
theorem aAq {P:Program}{ro:Ro}{h:T Obj}{v x:Value}{z nx lo hi:Nat}{t e:TypeId}{i:TypeInfo}{zv:Value}{l m:List (List Value)} (ho:Own h v z e l lo hi) (hx:Sl ro h x z m) (hu:und P t=some (.slice e)) (hi':tin P e=some i) (hz:i.size=z) (hz0:0 < z) (hzer:zer P e=some zv) (hzs:zv.cells.size=z)
  (hm:m≠[]) (hok:m.flatten.all cU=true) (hb:(l.length+m.length)*i.bytes≤big) (hb2:l.length+m.length≤big) (hlo:lo≤nx) (hnx:hi≤nx) :
  ∃ h',cA P ro h nx #[t,t] [v,x]=some (.slice (some (own nx z)) (l++m).length (l++m).length,h',nx+1)∧Own h' (.slice (some (own nx z)) (l++m).length (l++m).length) z e (l++m) lo (nx+1) ∧
   (∀ k,(k < lo∨hi≤k)→k≠nx→h'.get k=h.get k)∧(∀ k,k≠nx→h'.get k=h.get k∨h'.get k=none):=by
 have hml:0 < m.length:=List.length_pos_iff.2 hm
 obtain⟨a,capx,rfl,hcx,hsx,hzx,hxc⟩:∃ a cap,x=.slice (some a) m.length cap∧m.length≤cap∧(a.spot=none∨a.spot=some z)∧(∀ x∈m,x.length=z)∧cellsAt ro h a (m.length*z)=some m.flatten:=by
  rcases hx with ⟨_,hx⟩ | hx
  ·exact absurd hx hm
  ·exact hx
 have hb1:Nat.ble ((l.length+m.length)*i.bytes) big=true:=Nat.ble_eq_true_of_le hb
 have hb2':Nat.ble (l.length+m.length) big=true:=Nat.ble_eq_true_of_le hb2
 have hb3:Nat.blt 0 z=true:=by simp[Nat.blt]; omega
 have hfull:Nat.ble (l.length+m.length) l.length=false:=by
  cases hq:Nat.ble (l.length+m.length) l.length with
  | false=>rfl
  | true=>have:=Nat.le_of_ble_eq_true hq; omega
 rcases ho with ⟨rfl,rfl⟩ | ⟨id,h1,h2,rfl,h4,h5⟩
 ·refine⟨h.upd nx (some (.cells m.flatten.toArray e)),?_,.inr ⟨nx,hlo,by omega,by simp,by simpa using hzx,by rw[T.get_upd_same]; simp⟩,fun k _ hk=>T.get_upd_ne _ _ hk,fun k hk=>.inl (T.get_upd_ne _ _ hk)⟩
  simp only[List.length_nil] at hb1 hb2' hfull
  simp only[cA,List.getElem?_toArray,List.getElem?_cons_zero,List.getElem?_cons_succ,hu,hi',Option.bind_some,x6,hz,hxc,hfull,hzer,hb1,hb2',hb3,hzs,Nat.beq_refl,hok,aHI]
  simp
 ·have hl:=(mN h4).1
  have hcl:cellsAt ro h ⟨id,0,some z⟩ (l.length*z)=some l.flatten:=by
   rw[nW,h5,bF]
   simp only[Option.bind_some]
   rw[if_pos (by rw[hl]; omega),List.drop_zero,List.take_of_length_le (by rw[hl]; omega)]
  refine⟨(h.upd id none).upd nx (some (.cells (l.flatten++m.flatten).toArray e)),?_,.inr ⟨nx,hlo,by omega,by simp,?_,by rw[T.get_upd_same]; simp⟩,?_,?_⟩
  ·simp only[cA,List.getElem?_toArray,List.getElem?_cons_zero,List.getElem?_cons_succ,hu,hi',Option.bind_some,x6,hz,hxc,hfull,hzer,hb1,hb2',hb3,hzs,Nat.beq_refl,hok,aHI,own,hcl]
   simp
  ·intro x hx
   rcases List.mem_append.1 hx with hx | hx
   ·exact h4 x hx
   ·exact hzx x hx
  ·intro k hk hne
   rw[T.get_upd_ne _ _ hne,T.get_upd_ne _ _ (by omega)]
  ·intro k hne
   rw[T.get_upd_ne _ _ hne]
   by_cases e:k=id
   ·subst e; right; rw[T.get_upd_same]
   ·left; rw[T.get_upd_ne _ _ e]
end V
end Go.Proofs.YtcaccnneblghgaaGreat
noncomputable section
namespace Go.Proofs.YtcaccnneblghgaaGreat
namespace V
theorem aO6 {p:Prop}{dp:Decidable p}{A B:Prop} (h1:p→A) (h2:¬ p→B):aQ (.bool (@decide p dp)) A B:=by
 by_cases hp:p
 ·rw[decide_eq_true hp]; exact h1 hp
 ·rw[decide_eq_false hp]; exact h2 hp
theorem kb {K:KV}{h:T Obj}{nx n:Nat}{b c:Bool} (hK:∀ n,nx≤n→K (.bool b) h n) (e:b=c) (hn:nx≤n):K (.bool c) h n:=by subst e; exact hK n hn
theorem ki {K:KV}{h:T Obj}{nx n:Nat}{k:IntKind}{b c:Int} (hK:∀ n,nx≤n→K (.int k b) h n) (e:b=c) (hn:nx≤n):K (.int k c) h n:=by subst e; exact hK n hn
section
variable {k:IntKind}{a b:Int}{K:Value→Prop}
theorem aN2 (h:a < b) (hk:K (.bool true)):aB (aO .lss (.int k a) (.int k b)) K:=by rw[aY,decide_eq_true h]; exact hk
theorem aN1 (h:b≤a) (hk:K (.bool false)):aB (aO .lss (.int k a) (.int k b)) K:=by rw[aY,decide_eq_false (by omega)]; exact hk
theorem cY (h1:a < b→K (.bool true)) (h2:b≤a→K (.bool false)):aB (aO .lss (.int k a) (.int k b)) K:=by
 by_cases h:a < b
 ·exact aN2 h (h1 h)
 ·exact aN1 (by omega) (h2 (by omega))
theorem aQs (h:a≤b) (hk:K (.bool true)):aB (aO .leq (.int k a) (.int k b)) K:=by rw[aX,decide_eq_true h]; exact hk
theorem aQr (h:b < a) (hk:K (.bool false)):aB (aO .leq (.int k a) (.int k b)) K:=by rw[aX,decide_eq_false (by omega)]; exact hk
theorem aEV (h1:a≤b→K (.bool true)) (h2:b < a→K (.bool false)):aB (aO .leq (.int k a) (.int k b)) K:=by
 by_cases h:a≤b
 ·exact aQs h (h1 h)
 ·exact aQr (by omega) (h2 (by omega))
theorem aLD (h:b < a) (hk:K (.bool true)):aB (aO .gtr (.int k a) (.int k b)) K:=by rw[aW,decide_eq_true h]; exact hk
theorem aLC (h:a≤b) (hk:K (.bool false)):aB (aO .gtr (.int k a) (.int k b)) K:=by rw[aW,decide_eq_false (by omega)]; exact hk
theorem lW (h1:b < a→K (.bool true)) (h2:a≤b→K (.bool false)):aB (aO .gtr (.int k a) (.int k b)) K:=by
 by_cases h:b < a
 ·exact aLD h (h1 h)
 ·exact aLC (by omega) (h2 (by omega))
theorem aPi (h:b≤a) (hk:K (.bool true)):aB (aO .geq (.int k a) (.int k b)) K:=by rw[aV,decide_eq_true h]; exact hk
theorem aPh (h:a < b) (hk:K (.bool false)):aB (aO .geq (.int k a) (.int k b)) K:=by rw[aV,decide_eq_false (by omega)]; exact hk
theorem vV (h1:b≤a→K (.bool true)) (h2:a < b→K (.bool false)):aB (aO .geq (.int k a) (.int k b)) K:=by
 by_cases h:b≤a
 ·exact aPi h (h1 h)
 ·exact aPh (by omega) (h2 (by omega))
theorem aKw (h:a=b) (hk:K (.bool true)):aB (aO .eql (.int k a) (.int k b)) K:=by rw[aT,decide_eq_true h]; exact hk
theorem aKv (h:a≠b) (hk:K (.bool false)):aB (aO .eql (.int k a) (.int k b)) K:=by rw[aT,decide_eq_false h]; exact hk
theorem sT (h1:a=b→K (.bool true)) (h2:a≠b→K (.bool false)):aB (aO .eql (.int k a) (.int k b)) K:=by
 by_cases h:a=b
 ·exact aKw h (h1 h)
 ·exact aKv h (h2 h)
theorem aGI (h:a≠b) (hk:K (.bool true)):aB (aO .neq (.int k a) (.int k b)) K:=by rw[aU,decide_eq_false h]; exact hk
theorem aA2 (h:a=b) (hk:K (.bool false)):aB (aO .neq (.int k a) (.int k b)) K:=by rw[aU,decide_eq_true h]; exact hk
theorem qJ (h1:a≠b→K (.bool true)) (h2:a=b→K (.bool false)):aB (aO .neq (.int k a) (.int k b)) K:=by
 by_cases h:a=b
 ·exact aA2 h (h2 h)
 ·exact aGI h (h1 h)
end
theorem aCR {ro:Ro}{h h':T Obj}{p v:Value} (hs:Sub h h') (hl:load1 ro h p=some v):load1 ro h' p=some v:=by
 unfold V.load1 at hl ⊢
 obtain⟨ad,y1,y2⟩:=aM hl
 rw[y1,Option.bind_some]
 cases hc:cellsAt ro h ad 1 with
 | none=>rw[hc] at y2; cases y2
 | some l=>rw[hc] at y2; rw[yD hs hc]; exact y2
theorem aCS {ro:Ro}{h h':T Obj}{p v:Value}{n:Nat} (hs:Sub h h') (hl:loadA ro h n p=some v):loadA ro h' n p=some v:=by
 unfold V.loadA at hl ⊢
 obtain⟨ad,y1,y2⟩:=aM hl
 obtain⟨l9,y3,y4⟩:=aM y2
 rw[y1,Option.bind_some,yD hs y3,Option.bind_some,y4]
def kT (l:List Int):List (List Value):=l.map fun b:Int=>[Value.int .i64 b]
theorem eX (l:List Int):(kT l).length=l.length:=by simp[kT]
theorem kH {l:List Int}{i:Nat} (hi:i < l.length):(kT l)[i]?=some [.int .i64 l[i]]:=by simp[kT,hi]
def ZI (ro:Ro) (h:T Obj) (v:Value) (l:List Int):Prop:=Sl ro h v 1 (kT l)
section
variable {ro:Ro}{h h':T Obj}{v:Value}{l:List Int}
theorem ZI.sub (hs:Sub h h') (hl:ZI ro h v l):ZI ro h' v l:=Sl.sub hs hl
theorem ZI.len (hl:ZI ro h v l):bG v=some (.int .i64 l.length):=by have:=Sl.len hl; rwa [eX] at this
theorem ZI.ix (hl:ZI ro h v l) (k:IntKind) {i:Nat} (hi:i < l.length):cN 1 v (.int k (i:Int))=some (jI 1 v i):=Sl.ix hl k (by rw[eX]; exact hi)
theorem ZI.ixI (hl:ZI ro h v l) (k:IntKind) {i:Int} (h0:0≤i) (hi:i < l.length):cN 1 v (.int k i)=some (jI 1 v i.toNat):=by
 have:=hl.ix k (i:=i.toNat) (by omega)
 rwa [Int.toNat_of_nonneg h0] at this
theorem ZI.load (hl:ZI ro h v l) {i:Nat} (hi:i < l.length):load1 ro h (jI 1 v i)=some (.int .i64 l[i]):=Sl.load1 hl (kH hi)
end
theorem ZI.load' {ro:Ro}{h:T Obj}{v:Value}{l:List Int} (hl:ZI ro h v l) {i:Nat}{x:Int} (hx:l[i]?=some x):load1 ro h (jI 1 v i)=some (.int .i64 x):=by
 obtain⟨hi,he⟩:=List.getElem?_eq_some_iff.1 hx
 rw[hl.load hi,he]
theorem Sl.ok {ro:Ro}{h:T Obj}{v:Value}{z:Nat}{cs:List (List Value)} (hl:Sl ro h v z cs):cU v=true:=by
 rcases hl with ⟨rfl,_⟩ | ⟨a,cap,rfl,_⟩<;>rfl
theorem ZI.ok {ro:Ro}{h:T Obj}{v:Value}{l:List Int} (hl:ZI ro h v l):cU v=true:=Sl.ok hl
theorem bX {α:Type}{l:List α}{k:Nat} (hk:k < l.length):l.drop k=l[k]::l.drop (k+1):=List.drop_eq_getElem_cons hk
theorem gN {α:Type}{l:List α}{k:Nat} (hk:l.length≤k):l.drop k=[]:=List.drop_eq_nil_of_le hk
def pP (z:Nat) (v:Value) (i k:Nat):Value:=match v with
 | .slice (some a) _ _=>.pointer (some (elt a (i*z+k)))
 | _=>undef
def SlR {D:Type} (ro:Ro) (h:T Obj) (v:Value) (z:Nat) (R:List Value→D→Prop) (l:List D):Prop:=∃ cs,Sl ro h v z cs∧cs.length=l.length∧∀ (i:Nat) x d,cs[i]?=some x→l[i]?=some d→R x d
section
variable {D:Type}{ro:Ro}{h h':T Obj}{v:Value}{z:Nat}{R R':List Value→D→Prop}{l:List D}
theorem SlR.imp (hl:SlR ro h v z R l) (hR:∀ x d,R x d→R' x d):SlR ro h v z R' l:=by
 obtain⟨cs,h1,h2,h3⟩:=hl
 exact⟨cs,h1,h2,fun i x d hx hd=>hR _ _ (h3 i x d hx hd)⟩
theorem SlR.sub (hs:Sub h h') (hR:∀ x d,R x d→R' x d) (hl:SlR ro h v z R l):SlR ro h' v z R' l:=by
 obtain⟨cs,h1,h2,h3⟩:=hl
 exact⟨cs,h1.sub hs,h2,fun i x d hx hd=>hR _ _ (h3 i x d hx hd)⟩
theorem SlR.nil:SlR ro h (.slice none 0 0) z R ([]:List D):=⟨[],Sl.nil,rfl,fun i x d hx=>by simp at hx⟩
theorem SlR.len (hl:SlR ro h v z R l):bG v=some (.int .i64 l.length):=by
 obtain⟨cs,h1,h2,h3⟩:=hl
 have:=h1.len
 rwa [h2] at this
theorem SlR.ix (hl:SlR ro h v z R l) (k:IntKind) {i:Nat} (hi:i < l.length):cN z v (.int k (i:Int))=some (jI z v i):=by
 obtain⟨cs,h1,h2,h3⟩:=hl
 exact h1.ix k (by omega)
theorem SlR.ixI (hl:SlR ro h v z R l) (k:IntKind) {i:Int} (h0:0≤i) (hi:i < l.length):cN z v (.int k i)=some (jI z v i.toNat):=by
 have:=hl.ix k (i:=i.toNat) (by omega)
 rwa [Int.toNat_of_nonneg h0] at this
theorem aKr (a:Addr) (i j:Nat):fwd (elt a i) j=elt a (i+j):=by
 obtain⟨b,o,s⟩:=a
 cases s<;>simp[fwd,elt,Nat.add_assoc]
theorem Sl.fwd {cs:List (List Value)} (hl:Sl ro h v z cs) {i:Nat} (hi:i < cs.length) (k:Nat):aS k (jI z v i)=some (pP z v i k):=by
 rcases hl with ⟨rfl,rfl⟩ | ⟨a,cap,rfl,h2,h3,h4⟩
 ·simp at hi
 ·simp only[aS,jI,asP,Option.bind,pP,aKr]
theorem Sl.load1K {cs:List (List Value)} (hl:Sl ro h v z cs) {i k:Nat}{x:List Value}{w:Value} (hx:cs[i]?=some x) (hk:x[k]?=some w):V.load1 ro h (pP z v i k)=some w:=by
 rcases hl with ⟨rfl,rfl⟩ | ⟨a,cap,rfl,h2,h3,h4⟩
 ·simp at hx
 ·have h5:=(Sl.at h4.1 h4.2 i _ hx)
  have hkl:=(List.getElem?_eq_some_iff.1 hk).1
  have hi:=(List.getElem?_eq_some_iff.1 hx).1
  have h6:i*z+k+1≤cs.length*z:=by
   have:i*z+z≤cs.length*z:=by rw[← Nat.succ_mul]; exact Nat.mul_le_mul_right _ hi
   omega
  have h7:=oJ h4.2 (off:=i*z+k) (k:=1) h6
  have h8:=(mN h4.1).2 i x hx
  have h9:(cs.flatten.drop (i*z+k)).take 1=[w]:=by
   have:(cs.flatten.drop (i*z+k))[0]?=some w:=by
    rw[← h8] at hk
    rw[List.getElem?_take,if_pos (by omega),List.getElem?_drop] at hk
    rw[List.getElem?_drop]; simpa using hk
   have h10:=aAn (l:=cs.flatten.drop (i*z+k)) (off:=0) this
   simpa using h10
  rw[h9] at h7
  simp only[V.load1,pP,asP,Option.bind,h7]
theorem SlR.at (hl:SlR ro h v z R l) {i:Nat} (hi:i < l.length):∃ x,R x l[i]∧x.length=z∧V.loadA ro h z (jI z v i)=some (.agg x.toArray)∧(∀ k,aS k (jI z v i)=some (pP z v i k))∧∀ k w,x[k]?=some w→V.load1 ro h (pP z v i k)=some w:=by
 obtain⟨cs,h1,h2,h3⟩:=hl
 have hx:cs[i]?=some (cs[i]'(by omega)):=List.getElem?_eq_getElem _
 refine⟨_,h3 i _ _ hx (List.getElem?_eq_getElem hi),?_,h1.loadA hx,fun k=>h1.fwd (by omega) k,fun k w hk=>h1.load1K hx hk⟩
 rcases h1 with ⟨rfl,rfl⟩ | ⟨a,cap,rfl,g2,g3,g4⟩
 ·simp at hx
 ·exact g4.1 _ (List.getElem_mem _)
theorem SlR.at1 (hl:SlR ro h v 1 R l) {i:Nat} (hi:i < l.length):∃ w,R [w] l[i]∧V.load1 ro h (jI 1 v i)=some w:=by
 obtain⟨cs,h1,h2,h3⟩:=hl
 have hx:cs[i]?=some (cs[i]'(by omega)):=List.getElem?_eq_getElem _
 have hz:(cs[i]'(by omega)).length=1:=by
  rcases h1 with ⟨rfl,rfl⟩ | ⟨a,cap,rfl,g2,g3,g4⟩
  ·simp at hx
  ·exact g4.1 _ (List.getElem_mem _)
 generalize cs[i]'(by omega)=x at hx hz
 match x,hz with
 | [w],_=>exact⟨w,h3 i _ _ hx (List.getElem?_eq_getElem hi),h1.load1 hx⟩
end
theorem SlR.same {D:Type}{ro:Ro}{h h':T Obj}{v:Value}{z:Nat}{R:List Value→D→Prop}{l:List D} (hl:SlR ro h v z R l) (hs:Sub h h') {i:Nat} (hi:i < l.length):j5 (jI z v i) h h':=by
 obtain⟨cs,h1,h2,h3⟩:=hl
 exact h1.same hs (by omega)
theorem eJ {h:T Obj}{nx m:Nat}{v:Value}{ty:TypeId}{K:T Obj→Prop} (hf:Fr h m) (hm:m≤nx) (hK:∀ h',Sub h h'→Fr h' (nx+1)→h'.get nx=some (.cells (Value.cells v) ty)→(∀ k,k≠nx→h'.get k=h.get k)→K h'):cV h nx (.cells (Value.cells v) ty) K :=
 aD (hK _ ((Sub.refl h).new hf hm) ((hf.mono (show m≤nx+1 by omega)).upd (Nat.le_refl _) (by omega)) (by rw[T.get_upd_same]) fun k hk=>T.get_upd_ne _ _ hk)
theorem aHG {h:T Obj}{nx m:Nat}{o:Obj}{K:T Obj→Prop} (hf:Fr h m) (hm:m≤nx) (hK:∀ h',Sub h h'→Fr h' (nx+1)→h'.get nx=some o→(∀ k,k≠nx→h'.get k=h.get k)→K h'):cV h nx o K :=
 aD (hK _ ((Sub.refl h).new hf hm) ((hf.mono (show m≤nx+1 by omega)).upd (Nat.le_refl _) (by omega)) (by rw[T.get_upd_same]) fun k hk=>T.get_upd_ne _ _ hk)
theorem kI {P:Program}{h:T Obj}{a m n:Nat}{ty:TypeId}{zv v:Value}{x:List Value}{K:T Obj→Prop} (hz:zer P ty=some zv) (hzs:zv.cells.size=n) (hv:v.cells=x.toArray) (hx:x.length=n) (hok:x.all cU=true) (hf:Fr h m) (hm:m≤a)
  (hK:∀ h',Sub h h'→Fr h' (a+1)→h'.get a=some (.cells x.toArray ty)→(∀ k,k≠a→h'.get k=h.get k)→K h') :
  aB (zer P ty) fun z=>cV h a (.cells z.cells ty) fun h1=>aB (bY n h1 (ptr a) v) K:=by
 refine aA hz (aD (aA (mJ (l:=zv.cells.toList) (vs:=x) (e:=ty) (f:=(0,0)) (by rw[T.get_upd_same]) hv hx (by simpa using hzs) hok) ?_))
 refine hK _ (((Sub.refl h).new hf hm).new hf hm) (((hf.mono (show m≤a+1 by omega)).upd (Nat.le_refl _) (by omega)).upd (Nat.le_refl _) (by omega)) (by rw[T.get_upd_same]) fun k hk=>?_
 rw[T.get_upd_ne _ _ hk,T.get_upd_ne _ _ hk]
theorem BB:(∀ (h:T Obj) (i:Nat) (o:Obj) (K:T Obj→Prop),cV h i o K=K (h.upd i (some o))) ∧
  (∀ (h:T Obj) (i:Nat) (o:Obj) (K:T Obj→Prop),eS h i (some o) K=K (h.upd i (some o))) ∧
  (∀ (h:T Obj) (i:Nat) (K:T Obj→Prop),eS h i none K=K h) ∧
  (∀ {α:Type} (a:α) (K:α→Prop),aB (some a) K=K a) ∧
  (∀ (A B:Prop),aQ (.bool true) A B=A) ∧
  (∀ (A B:Prop),aQ (.bool false) A B=B) ∧
  (∀ (h:T Obj) (nx:Nat) (A:KV→Prop) (K:KV),ifP (.bool true) true h nx A K=A K) ∧
  (∀ (h:T Obj) (nx:Nat) (A:KV→Prop) (K:KV),ifP (.bool false) false h nx A K=A K) ∧
  (∀ (h:T Obj) (nx:Nat) (A:KV→Prop) (K:KV),ifP (.bool true) false h nx A K=K undef h nx) ∧
  (∀ (h:T Obj) (nx:Nat) (A:KV→Prop) (K:KV),ifP (.bool false) true h nx A K=K undef h nx) ∧
  (∀ (A:Prop) (B:Nat→Prop) (D:Prop),exP .normal A B D=A) ∧
  (∀ (i:Nat) (A:Prop) (B:Nat→Prop) (D:Prop),exP (.exit i) A B D=B i) ∧
  (∀ (A:Prop) (B:Nat→Prop) (D:Prop),exP .ret A B D=D) ∧
  (∀ (A B:Prop),cP true A B=A) ∧
  (∀ (A B:Prop),cP false A B=B) ∧
  (∀ (cs:Array Value),Value.cells (.agg cs)=cs) ∧
  (∀ (k:IntKind) (n:Int),Value.cells (.int k n)=#[.int k n]) ∧
  (∀ (b:Bool),Value.cells (.bool b)=#[.bool b]) ∧
  (∀ (k:IntKind) (a b:Int),aO .add (.int k a) (.int k b)=some (.int k (wr k (a+b)))) ∧
  (∀ (k:IntKind) (a b:Int),aO .sub (.int k a) (.int k b)=some (.int k (wr k (a - b)))) ∧
  (∀ (k:IntKind) (a b:Int),aO .mul (.int k a) (.int k b)=some (.int k (wr k (a*b)))) ∧
  (∀ (k:IntKind) {a b:Int} (ha:0≤a) (hb:0 < b),aO .quo (.int k a) (.int k b)=some (.int k (wr k (a / b)))) ∧
  (∀ (k:IntKind) {a b:Int} (ha:0≤a) (hb:0 < b),aO .rem (.int k a) (.int k b)=some (.int k (a % b))) ∧
  (∀ (k':IntKind) (a:Nat) {b:Int} (hb:0≤b) (hk:b≤64),aO .shr (.int .u64 (a:Int)) (.int k' b)=some (.int .u64 ((a / 2 ^ b.toNat:Nat):Int))) ∧
  (∀ (k':IntKind) {b:Int} (hb:0≤b) (hk:b < 64),aO .shl (.int .u64 1) (.int k' b)=some (.int .u64 ((2 ^ b.toNat:Nat):Int))) ∧
  (∀ {a b:Int} (ha:0≤a) (hb:0≤b) (ha':a≤18446744073709551615) (hb':b≤18446744073709551615),aO .and (.int .u64 a) (.int .u64 b)=some (.int .u64 (Nat.land a.toNat b.toNat:Nat))) ∧
  (∀ {a b:Int} (ha:0≤a) (hb:0≤b) (ha':a≤18446744073709551615) (hb':b≤18446744073709551615),aO .or (.int .u64 a) (.int .u64 b)=some (.int .u64 (Nat.lor a.toNat b.toNat:Nat))) ∧
  (∀ {a b:Int} (ha:0≤a) (hb:0≤b) (ha':a≤18446744073709551615) (hb':b≤18446744073709551615),aO .xor (.int .u64 a) (.int .u64 b)=some (.int .u64 (Nat.xor a.toNat b.toNat:Nat))) ∧
  (∀ {n:Int} (h1:-9223372036854775808≤n) (h2:n≤9223372036854775807),wr .i64 n=n) ∧
  (∀ {n:Int} (h1:0≤n) (h2:n≤255),wr .u8 n=n) ∧
  (∀ {n:Int} (h1:0≤n) (h2:n≤18446744073709551615),wr .u64 n=n) ∧
  (∀ (k k':IntKind) (n:Int),vQ k (.int k' n)=some (.int k (wr k n))) ∧
  (∀ (b:Bool),unV .not (.bool b)=some (.bool (!b))) ∧
  (∀ (a b:Bool),aFr .eql (.bool a) (.bool b)=some (.bool (a==b))) ∧
  (∀ (a b:Bool),aFr .neq (.bool a) (.bool b)=some (.bool (!(a==b)))) ∧
  (∀ (a b:Value),bL (.bool true) a b=some a) ∧
  (∀ (a b:Value),bL (.bool false) a b=some b) ∧
  (∀ (a:Option Addr) (n c:Nat),bG (.slice a n c)=some (.int .i64 n)) ∧
  (∀ (id:Nat),ptr id=at_ id 0 0) ∧
  (∀ (k id off z:Nat),aS k (at_ id off z)=some (at_ id (off+k) z)) ∧
  (∀ (n z id off y:Nat) (k:IntKind) {i:Int} (h0:0≤i) (h1:i < n),ixArr n z (at_ id off y) (.int k i)=some (at_ id (off+i.toNat*z) y)) ∧
  (∀ (ro:Ro) (h:T Obj) (id off z:Nat),load1 ro h (at_ id off z)=(oK (h.get id)).bind fun c=>c[off]?) ∧
  (∀ (ro:Ro) (h:T Obj) (n id off z:Nat),loadA ro h n (at_ id off z)=(oK (h.get id)).bind fun c=>if off+n≤c.length then some (.agg ((c.drop off).take n).toArray) else none) ∧
  (∀ (n:Nat) (h:T Obj) (id off z:Nat) (v:Value),bY n h (at_ id off z) v=if v.cells.size=n then (aGQ (h.get id) off v.cells.toList).bind (fun o=>some (h.upd id (some o))) else none) ∧
  (∀ (c:Array Value) (e:TypeId) (f:Nat × Nat),oK (some (.cells c e f))=some c.toList) ∧
  (∀ {c:Array Value} {e:TypeId} {f:Nat × Nat} {off:Nat} {vs:List Value} (h1:off+vs.length≤c.size) (h2:vs.all cU=true),aGQ (some (.cells c e f)) off vs=some (.cells (over c.toList off vs).toArray e f)) ∧
  (∀ (l:List Value),l.toArray.toList=l) ∧
  (∀ (l:List Value),l.toArray.size=l.length) :=
 ⟨@eL,@dF,@dE,@bS,@cG,@bU,@gA,@fX,@fZ,@fY,@cH,@dS,@eU,@cZ,@cD,@Value.cells_agg,@cT,@cF,@cX,@dV,@dN,@dT,@dU,@bN,@bJ,@cI,@dD,@cJ,@eM,@i0,@fT,@dC,@eW,@dA,@dB,@cK,@bW,@bV,@fU,@eV,@dW,@cQ,@cC,@bZ,@bF,@bR,@tl,@ts⟩
theorem B2:(∀ (h:Decidable True),@decide True h=true)∧(∀ (h:Decidable False),@decide False h=false)∧((!true)=false)∧((!false)=true) ∧
  (∀ {α β:Type} (a:α) (f:α→Option β),(some a).bind f=f a)∧(∀ {α:Type} (t:T α) (k:Nat) (o:Option α),(t.upd k o).get k=o)∧(∀ {α:Type} (t:T α) {k i:Nat} (o:Option α),i≠k→(t.upd k o).get i=t.get i) ∧
  (∀ {α:Type} {c:Prop} {h:Decidable c} {a b:α},c→@ite α c h a b=a)∧(∀ n:Nat,0+n=n)∧(∀ n:Nat,n*1=n)∧(∀ n:Nat,n+0=n)∧(∀ n:Nat,(n:Int).toNat=n)∧(∀ n:Nat,n≤n) :=
 ⟨fun _=>decide_true ..,fun _=>decide_false ..,rfl,rfl,fun _ _=>rfl,T.get_upd_same,fun t _ _ o h=>T.get_upd_ne t o h,fun h=>if_pos h,Nat.zero_add,Nat.mul_one,fun _=>rfl,fun _=>rfl,Nat.le_refl⟩
theorem CC:(∀ {k:IntKind}{a b:Int},a < b→aO .lss (.int k a) (.int k b)=some (.bool true))∧(∀ {k:IntKind}{a b:Int},b≤a→aO .lss (.int k a) (.int k b)=some (.bool false)) ∧
  (∀ {k:IntKind} {a b:Int},a≤b→aO .leq (.int k a) (.int k b)=some (.bool true))∧(∀ {k:IntKind} {a b:Int},b < a→aO .leq (.int k a) (.int k b)=some (.bool false)) ∧
  (∀ {k:IntKind} {a b:Int},b < a→aO .gtr (.int k a) (.int k b)=some (.bool true))∧(∀ {k:IntKind} {a b:Int},a≤b→aO .gtr (.int k a) (.int k b)=some (.bool false)) ∧
  (∀ {k:IntKind} {a b:Int},b≤a→aO .geq (.int k a) (.int k b)=some (.bool true))∧(∀ {k:IntKind} {a b:Int},a < b→aO .geq (.int k a) (.int k b)=some (.bool false)) ∧
  (∀ {k:IntKind} {a b:Int},a=b→aO .eql (.int k a) (.int k b)=some (.bool true))∧(∀ {k:IntKind} {a b:Int},a≠b→aO .eql (.int k a) (.int k b)=some (.bool false)) ∧
  (∀ {k:IntKind} {a b:Int},a≠b→aO .neq (.int k a) (.int k b)=some (.bool true))∧(∀ {k:IntKind} {a b:Int},a=b→aO .neq (.int k a) (.int k b)=some (.bool false)):=by
 refine⟨?_,?_,?_,?_,?_,?_,?_,?_,?_,?_,?_,?_⟩<;>intro k a b h
 ·rw[aY,decide_eq_true h]
 ·rw[aY,decide_eq_false (by omega)]
 ·rw[aX,decide_eq_true h]
 ·rw[aX,decide_eq_false (by omega)]
 ·rw[aW,decide_eq_true h]
 ·rw[aW,decide_eq_false (by omega)]
 ·rw[aV,decide_eq_true h]
 ·rw[aV,decide_eq_false (by omega)]
 ·rw[aT,decide_eq_true h]
 ·rw[aT,decide_eq_false h]
 ·rw[aU,decide_eq_false h]; rfl
 ·rw[aU,decide_eq_true h]; rfl
end V
end Go.Proofs.YtcaccnneblghgaaGreat
noncomputable section
namespace Go.Proofs.YtcaccnneblghgaaGreat
namespace V
def jC:Value→Option Nat
 | .slice (some a) _ _=>some a.block
 | _=>none
def dK (h:T Obj) (v:Value) (z:Nat) (e:TypeId) (l:List (List Value)) (lo:Nat):Prop :=
 (v=.slice none 0 0∧l=[])∨∃ id,lo≤id∧v=.slice (some (own id z)) l.length l.length∧(∀ x∈l,x.length=z)∧h.get id=some (.cells l.flatten.toArray e)
theorem dK.nil {h:T Obj}{z:Nat}{e:TypeId}{lo:Nat}:dK h (.slice none 0 0) z e [] lo:=.inl ⟨rfl,rfl⟩
theorem dK.mono {h:T Obj}{v:Value}{z:Nat}{e:TypeId}{l:List (List Value)}{lo lo':Nat} (ho:dK h v z e l lo) (hl:lo'≤lo):dK h v z e l lo':=by
 rcases ho with ho | ⟨id,h1,h2⟩
 ·exact .inl ho
 ·exact .inr ⟨id,by omega,h2⟩
theorem dK.sl {ro:Ro}{h:T Obj}{v:Value}{z:Nat}{e:TypeId}{l:List (List Value)}{lo:Nat} (ho:dK h v z e l lo):Sl ro h v z l:=by
 rcases ho with ho | ⟨id,_,rfl,h4,h5⟩
 ·exact .inl ho
 ·exact Sl.own h5 h4 (Nat.le_refl _)
def Kp (v:Value) (h h':T Obj):Prop:=∀ k o,h.get k=some o→jC v≠some k→h'.get k=some o
theorem Sub.kp {v:Value}{h h':T Obj} (hs:Sub h h'):Kp v h h':=fun k o hk _=>hs k o hk
theorem Kp.trans {v:Value}{a b c:T Obj} (h1:Kp v a b) (h2:Sub b c):Kp v a c:=fun k o hk hv=>h2 k o (h1 k o hk hv)
theorem dK.keep {h h':T Obj}{v w:Value}{z:Nat}{e:TypeId}{l:List (List Value)}{lo:Nat} (ho:dK h v z e l lo) (hk:Kp w h h') (hne:∀ id,jC v=some id→jC w≠some id):dK h' v z e l lo:=by
 rcases ho with ho | ⟨id,h1,rfl,h4,h5⟩
 ·exact .inl ho
 ·exact .inr ⟨id,h1,rfl,h4,hk id _ h5 (hne id rfl)⟩
theorem dK.keepS {h h':T Obj}{v:Value}{z:Nat}{e:TypeId}{l:List (List Value)}{lo:Nat} (ho:dK h v z e l lo) (hk:Sub h h'):dK h' v z e l lo:=by
 rcases ho with ho | ⟨id,h1,rfl,h4,h5⟩
 ·exact .inl ho
 ·exact .inr ⟨id,h1,rfl,h4,hk id _ h5⟩
theorem dK.ne {h:T Obj}{v:Value}{z:Nat}{e e':TypeId}{l:List (List Value)}{lo k:Nat}{c:Array Value}{f:Nat × Nat} (ho:dK h v z e l lo) (hk:h.get k=some (.cells c e' f)) (he:e'≠e):jC v≠some k:=by
 rcases ho with ⟨rfl,_⟩ | ⟨id,_,rfl,_,h5⟩
 ·intro h; cases h
 ·intro h
  have:id=k:=Option.some.inj h
  subst this
  rw[hk] at h5
  simp only[Option.some.injEq,Obj.cells.injEq] at h5
  exact he h5.2.1
theorem dK.lt {h:T Obj}{v:Value}{z:Nat}{e:TypeId}{l:List (List Value)}{lo k:Nat} (ho:dK h v z e l lo) (hk:k < lo):jC v≠some k:=by
 rcases ho with ⟨rfl,_⟩ | ⟨id,h1,rfl,_,h5⟩
 ·intro h; cases h
 ·intro h
  have:id=k:=Option.some.inj h
  omega
theorem Fr.lt' {h:T Obj}{n k:Nat}{o:Obj} (hf:Fr h n) (hk:h.get k=some o):k < n:=by
 rcases Nat.lt_or_ge k n with h1 | h1
 ·exact h1
 ·rw[hf k h1] at hk; cases hk
theorem dK.sub {h0 h h':T Obj}{v:Value}{z:Nat}{e:TypeId}{l:List (List Value)}{lo n0:Nat} (ho:dK h v z e l lo) (hk:Kp v h h') (hf:Fr h0 n0) (hn:n0≤lo) (hs:Sub h0 h):Sub h0 h':=fun k o hk0=>hk k o (hs k o hk0) (ho.lt (by have:=hf.lt' hk0; omega))
theorem aKh {P:Program}{ro:Ro}{h:T Obj}{v x:Value}{z nx lo:Nat}{t e:TypeId}{i:TypeInfo}{zv:Value}{l m:List (List Value)} (ho:dK h v z e l lo) (hx:Sl ro h x z m) (hu:und P t=some (.slice e)) (hi':tin P e=some i) (hz:i.size=z) (hz0:0 < z) (hzer:zer P e=some zv) (hzs:zv.cells.size=z)
  (hm:m≠[]) (hok:m.flatten.all cU=true) (hb:(l.length+m.length)*i.bytes≤big) (hb2:l.length+m.length≤big) (hlo:lo≤nx) (hf:Fr h nx) :
  ∃ h',cA P ro h nx #[t,t] [v,x]=some (.slice (some (own nx z)) (l++m).length (l++m).length,h',nx+1)∧dK h' (.slice (some (own nx z)) (l++m).length (l++m).length) z e (l++m) lo∧Kp v h h'∧Fr h' (nx+1)∧(∀ k,k≠nx→h'.get k=h.get k∨h'.get k=none):=by
 have fin:∀ h':T Obj,(∀ k,k≠nx→h'.get k=h.get k∨h'.get k=none)→Fr h' (nx+1):=fun h' h2 k hk=>by
  rcases h2 k (by omega) with h3 | h3
  ·rw[h3]; exact hf k (by omega)
  ·exact h3
 rcases ho with ⟨rfl,rfl⟩ | ⟨id,h1,rfl,h4,h5⟩
 ·obtain⟨h',q1,q2,q3,q4⟩:=aAq (P:=P) (t:=t) (lo:=nx) (hi:=nx) (Own.nil (h:=h) (z:=z) (e:=e)) hx hu hi' hz hz0 hzer hzs hm hok (by simpa using hb) (by simpa using hb2) (Nat.le_refl _) (Nat.le_refl _)
  refine⟨h',q1,?_,fun k o hk _=>?_,fin h' q4,q4⟩
  ·rcases q2 with ⟨h6,_⟩ | ⟨id,h6,h7,h8,h9,h10⟩
   ·cases h6
   ·exact .inr ⟨id,by omega,h8,h9,h10⟩
  ·have:=hf.lt' hk
   rw[q3 k (.inl this) (by omega)]; exact hk
 ·have hid:=hf.lt' h5
  obtain⟨h',q1,q2,q3,q4⟩:=aAq (P:=P) (t:=t) (lo:=id) (hi:=id+1) (.inr ⟨id,Nat.le_refl _,by omega,rfl,h4,h5⟩:Own h _ z e l id (id+1)) hx hu hi' hz hz0 hzer hzs hm hok hb hb2 (show id≤nx by omega) (by omega)
  refine⟨h',q1,?_,fun k o hk hne=>?_,fin h' q4,q4⟩
  ·rcases q2 with ⟨h6,_⟩ | ⟨id2,h6,h7,h8,h9,h10⟩
   ·cases h6
   ·exact .inr ⟨id2,by omega,h8,h9,h10⟩
  ·have h7:=hf.lt' hk
   have h8:id≠k:=fun h=>hne (by rw[← h]; rfl)
   rw[q3 k (by omega) (by omega)]; exact hk
theorem aHg {P:Program}{ro:Ro}{h:T Obj}{v x:Value}{z nx lo:Nat}{t e:TypeId}{i:TypeInfo}{l:List (List Value)} (ho:dK h v z e l lo) (hx:Sl ro h x z []) (hu:und P t=some (.slice e)) (hi':tin P e=some i) :
  cA P ro h nx #[t,t] [v,x]=some (v,h,nx):=by
 obtain⟨a,len,rfl⟩:∃ a len,v=.slice a len len:=by
  rcases ho with ⟨rfl,_⟩ | ⟨id,_,rfl,_⟩
  ·exact⟨none,0,rfl⟩
  ·exact⟨_,_,rfl⟩
 have hs:x6 P ro h e i.size i.bytes t x=some (0,[]):=by
  rcases hx with ⟨rfl,_⟩ | ⟨a,cap,rfl,h2,h3,h4,h5⟩
  ·simp only[x6,hu]
  ·have:cellsAt ro h a (0*i.size)=some []:=by
    have:cellsAt ro h a (0*z)=some []:=by simpa using h5
    rw[Nat.zero_mul] at this ⊢; exact this
   simp only[x6,hu,List.length_nil,this,Option.bind]
 have hb:Nat.ble (len+0) len=true:=Nat.ble_eq_true_of_le (by omega)
 simp only[cA,List.getElem?_toArray,List.getElem?_cons_zero,List.getElem?_cons_succ,hu,hi',Option.bind_some,hs,hb]
theorem aAp {P:Program}{ro:Ro}{h:T Obj}{v x:Value}{z nx lo:Nat}{t e:TypeId}{i:TypeInfo}{zv:Value}{l m:List (List Value)} (ho:dK h v z e l lo) (hx:Sl ro h x z m) (hu:und P t=some (.slice e)) (hi':tin P e=some i) (hz:i.size=z) (hz0:0 < z) (hzer:zer P e=some zv) (hzs:zv.cells.size=z)
  (hok:m.flatten.all cU=true) (hb:(l.length+m.length)*i.bytes≤big) (hb2:l.length+m.length≤big) (hlo:lo≤nx) (hf:Fr h nx) :
  ∃ r h' n',cA P ro h nx #[t,t] [v,x]=some (r,h',n')∧dK h' r z e (l++m) lo∧Kp v h h'∧nx≤n'∧Fr h' n'∧(jC r=none∨jC r=jC v∨jC r=some nx):=by
 cases m with
 | nil=>exact⟨v,h,nx,aHg ho hx hu hi',by rw[List.append_nil]; exact ho,(fun k o hk _=>hk),Nat.le_refl _,hf,.inr (.inl rfl)⟩
 | cons y m =>
  obtain⟨h',q1,q2,q3,q4,q5⟩:=aKh (P:=P) (t:=t) ho hx hu hi' hz hz0 hzer hzs (by simp) hok hb hb2 hlo hf
  exact⟨_,h',nx+1,q1,q2,q3,by omega,q4,.inr (.inr rfl)⟩
end V
end Go.Proofs.YtcaccnneblghgaaGreat
noncomputable section
namespace Go.Proofs.YtcaccnneblghgaaGreat
namespace V
open Go.Deep
theorem zL {ro:Ro}:∀ {n m:Nat}{a:Addr}{l1 l2:List Value},a.spot=none→roCells ro a n=some l1→roCells ro ⟨a.block,a.off+n,none⟩ m=some l2→roCells ro a (n+m)=some (l1++l2)
 | 0,m,a,l1,l2,hs,h1,h2=>by
  cases h1
  have:(⟨a.block,a.off+0,none⟩:Addr)=a:=by cases a; simp_all
  rw[this] at h2
  simpa using h2
 | n+1,m,a,l1,l2,hs,h1,h2=>by
  obtain⟨v,g1,h1⟩:=aM h1
  obtain⟨r,g2,h1⟩:=aM h1
  cases h1
  have ih:=zL (n:=n) (m:=m) (a:=⟨a.block,a.off+1,none⟩) rfl g2 (by rw[show a.off+1+n=a.off+(n+1) by omega]; exact h2)
  rw[show n+1+m=n+m+1 by omega]
  simp[roCells,g1,ih]
section
variable {H:Type}{enc:TypeId × Value→H}{P:Program}{W:World}
theorem aGK {N:Nat}:∀ {l l':List Value},kL N l=some l'→∀ {j:Nat}{y:Value},l'[j]?=some y→∃ x,l[j]?=some x∧w7 N x=some y
 | [],l',h,j,y,hy=>by cases h; simp at hy
 | v::l,l',h,j,y,hy=>by
  obtain⟨v',h1,h⟩:=aM h
  obtain⟨r,h2,h⟩:=aM h
  cases h
  cases j with
  | zero=>simp at hy; subst hy; exact⟨v,rfl,h1⟩
  | succ j =>
   obtain⟨x,h3,h4⟩:=aGK h2 (j:=j) (by simpa using hy)
   exact⟨x,by simpa using h3,h4⟩
theorem aMd {a:Addr}{n:Nat}{cs cs':List Value} (h:W.cells? 0 a n=some cs) (hn:kL W.heap.size cs=some cs') (ha:a.spot=none):roCells (nK W) a n=some cs':=by
 obtain⟨_,hlen,hg⟩:=World.cells?_some h
 have hl:=(aBi (φ:=fun _=>none) hn).length
 have:=aEr (ro:=nK W) (l:=cs') (a:=a) ha fun j y hy=>by
  obtain⟨x,hx,hxy⟩:=aGK hn hy
  have hj:j < n:=by rw[← hlen,← hl]; exact (List.getElem?_eq_some_iff.1 hy).1
  have hc:=hg j hj
  rw[sM ha,hx] at hc
  have hb:a.block < W.heap.size:=by
   rcases Nat.lt_or_ge a.block W.heap.size with h1 | h1
   ·exact h1
   ·simp[World.cell?,Array.getElem?_eq_none h1] at hc
  have hbb:Nat.blt a.block W.heap.size=true:=by simp[Nat.blt]; omega
  simp only[nK,hbb,hc,Option.bind,hxy]
 rw[hl,hlen] at this
 exact this
theorem aJz {N:Nat}{a:Addr}{l c:Nat} (hs:a.spot=none) (hb:a.block < N) (hc:0 < c):w7 N (.slice (some a) l c)=some (.slice (some a) l c):=by
 have:Nat.blt a.block N=true:=by simp[Nat.blt]; omega
 cases c with
 | zero=>omega
 | succ c=>cases l<;>simp[w7,hs,this]
theorem aOz {t e:TypeId}{z:Nat} (ht:P.underlying t=some (.slice e)) (hz:P.cellsOf e=z) (hz0:0 < z) {fuel:Nat}{cs:List Value}{x:DataW H × List MemPlace} (h:DataW.trod enc P W 0 (fun _=>true) true fuel t cs=some x)
  {El:List Value→Prop} (hel:∀ n cs' y,DataW.trod enc P W 0 (fun _=>true) true n e cs'=some y→∃ cs'',kL W.heap.size cs'=some cs''∧El cs'') :
  ∃ v v',cs=[v]∧w7 W.heap.size v=some v'∧∃ l,Sl (nK W) .e v' z l∧∀ x∈l,El x:=by
 rcases open_slice ht h with ⟨rfl,_⟩ | ⟨a,len,cap,m,n,D,Pl,rfl,_,hle,_,hm,_,hx⟩
 ·exact⟨_,_,rfl,rfl,[],Sl.nil,fun x hx=>by cases hx⟩
 ·simp only[if_true] at hm
  subst hm
  refine⟨.slice (some a) len m,?_⟩
  rcases Nat.eq_zero_or_pos m with hc0 | hc0
  ·subst hc0
   obtain rfl:len=0:=by omega
   exact⟨.slice (some aHE) 0 0,rfl,rfl,[],.inr ⟨aHE,0,rfl,Nat.le_refl _,.inl rfl,by simp,by simp[cellsAt,aHE,roCells]⟩,fun x hx=>by cases hx⟩
  ·have h0:a.spot=none∧a.block < W.heap.size:=by
    obtain⟨cs',h1,_⟩:=hx 0 hc0
    rw[hz] at h1
    obtain⟨_,hl,hg⟩:=World.cells?_some h1
    have h2:=hg 0 hz0
    have h3:cs'[0]?=some (cs'[0]'(by omega)):=List.getElem?_eq_getElem (by omega)
    rw[h3] at h2
    have hsp:a.spot=none:=by
     have:=World.cell?_spot h2
     simpa [Addr.add] using this
    refine⟨hsp,?_⟩
    rcases Nat.lt_or_ge a.block W.heap.size with h4 | h4
    ·exact h4
    ·rw[sM hsp,sM rfl] at h2
     simp[World.cell?,Array.getElem?_eq_none h4] at h2
   obtain⟨hs,hb⟩:=h0
   refine⟨.slice (some a) len m,rfl,aJz hs hb hc0,?_⟩
   have key:∀ k,k≤len→∃ l:List (List Value),l.length=k∧(∀ x∈l,x.length=z)∧(∀ x∈l,El x)∧roCells (nK W) a (k*z)=some l.flatten:=by
    intro k
    induction k with
    | zero=>intro _; exact⟨[],rfl,by simp,by simp,by simp[roCells]⟩
    | succ k ih =>
     intro hk
     obtain⟨l,l1,l2,l3,l4⟩:=ih (by omega)
     obtain⟨cs',h1,h2⟩:=hx k (by omega)
     rw[hz] at h1
     obtain⟨cs'',h3,h4⟩:=hel _ _ _ h2
     have h5:=aMd h1 h3 (by rw[sM hs])
     have hlen:cs''.length=z:=zM h5
     rw[sM hs] at h5
     refine⟨l++[cs''],by simp[l1],?_,?_,?_⟩
     ·intro x hx2
      rcases List.mem_append.1 hx2 with h6 | h6
      ·exact l2 x h6
      ·simp at h6; subst h6; exact hlen
     ·intro x hx2
      rcases List.mem_append.1 hx2 with h6 | h6
      ·exact l3 x h6
      ·simp at h6; subst h6; exact h4
     ·rw[Nat.succ_mul]
      have:=zL hs l4 h5
      simpa using this
   obtain⟨l,l1,l2,l3,l4⟩:=key len (Nat.le_refl _)
   refine⟨l,.inr ⟨a,m,by rw[l1],by omega,.inl hs,l2,?_⟩,l3⟩
   unfold cellsAt
   rw[hs,l1]
   exact l4
end
theorem zzB{α:Type}{o:Option α}{a:α}{K:α→Prop}(k:K a)(h:o=some a:=by simp (disch:=first|omega|exact nnN _|assumption) only [BB,B2,↓reduceIte,Nat.reduceLeDiff,Nat.reduceAdd,CC]<;>rfl):aB o K:=aA h k
end V
end Go.Proofs.YtcaccnneblghgaaGreat