/- Texts laid one behind the other: V3, G, W1, XB.
   No condition. -/
import Derived.CheckFast
import Derived.Carry
import Derived.ProofKit
import Derived.SizedLaws
import Derived.JoinedCond
import Derived.Test.YtjndkdmkecpllaaGreatProg
import Derived.KernelRfl
import Derived.Deep.Slices
import Derived.Test.YtjndkdmkecpllaaGreatQE2
set_option linter.unusedVariables false
set_option linter.unusedSimpArgs false
noncomputable section
namespace Go.Proofs.YtjndkdmkecpllaaGreat
namespace V
abbrev dF:=Nat→Value
def dF.put (e:dF) (d:Nat) (v:Value):dF:=fun i=>match Nat.beq i d with
  | true=>v
  | false=>e i
def aA {α:Type} (o:Option α) (K:α→Prop):Prop:=match o with
  | some a=>K a
  | none=>False
abbrev eV {α:Type} (o:Option α) (K:α→Prop):Prop:=match o with
  | some a=>K a
  | none=>False
abbrev evE (e:dF):Operand→Option Value
  | .tmp i=>some (e i)
  | .const v=>match flat v with
    | true=>some v
    | false=>none
  | .global _=>none
  | .func f=>some (.func (.func f) #[] #[])
abbrev aHf (e:dF):List Operand→Option (List Value)
  | []=>some []
  | x::r=>(evE e x).bind fun v=>(aHf e r).bind fun vs=>some (v::vs)
abbrev aQu (e:dF):Option Operand→Option (Option Value)
  | none=>some none
  | some x=>(evE e x).bind fun v=>some (some v)
abbrev aQv (e:dF):List (Nat × Operand)→Option (List (Nat × Value))
  | []=>some []
  | x::r=>(evE e x.2).bind fun v=>(aQv e r).bind fun vs=>some ((x.1,v)::vs)
def asP:Value→Option Addr
  | .pointer (some a)=>some a
  | _=>none
def asAgg:Value→Option (Array Value)
  | .agg cs=>some cs
  | _=>none
def load1 (ro:Ro) (h:T Obj) (v:Value):Option Value:=(asP v).bind fun a=>match cellsAt ro h a 1 with
  | some [x]=>some x
  | _=>none
def loadA (ro:Ro) (h:T Obj) (n:Nat) (v:Value):Option Value:=(asP v).bind fun a=>(cellsAt ro h a n).bind fun l=>some (.agg l.toArray)
def aT (k:Nat) (v:Value):Option Value:=(asP v).bind fun a=>some (.pointer (some (fwd a k)))
def aW0 (off:Nat) (v:Value):Option Value:=(asAgg v).bind fun cs=>cs[off]?
def aW1 (n off:Nat) (v:Value):Option Value:=(asAgg v).bind fun cs=>match Nat.ble (off+n) cs.size with
  | true=>some (.agg ((cs.toList.drop off).take n).toArray)
  | false=>none
def ixArr (n z:Nat) (x i:Value):Option Value:=(nV i).bind fun i=>(asP x).bind fun a=>match Nat.blt i n with
  | true=>some (.pointer (some (fwd a (i*z))))
  | false=>none
def cD (z:Nat) (x i:Value):Option Value:=(nV i).bind fun i=>match x with
  | .slice (some a) len _=>match Nat.blt i len with
    | true=>match a.spot with
      | none=>some (.pointer (some (fwd a (i*z))))
      | some z'=>match Nat.beq z z' with
        | true=>some (.pointer (some (elt a (i*z))))
        | false=>none
    | false=>none
  | _=>none
def aLE (x i:Value):Option Value:=(nV i).bind fun i=>match x with
  | .string s=>match s.data.toList[i]? with
    | some b=>some (.int .u8 b.toNat)
    | none=>none
  | _=>none
def aTe (n z:Nat) (x i:Value):Option Value:=(nV i).bind fun i=>(asAgg x).bind fun cs=>match Nat.blt i n with
  | true=>cs[i*z]?
  | false=>none
def aW9 (n z:Nat) (x i:Value):Option Value:=(nV i).bind fun i=>(asAgg x).bind fun cs=>match Nat.blt i n,Nat.ble (i*z+z) cs.size with
  | true,true=>some (.agg ((cs.toList.drop (i*z)).take z).toArray)
  | _,_=>none
def aP (op:BinOp) (a b:Value):Option Value:=match a,b with
  | .int k x,.int k' y=>match op with
    | .shl | .shr=>aCo op k x y
    | _=>match decide (k=k') with
      | true=>uT op k x y
      | false=>none
  | _,_=>none
def aSt (op:BinOp) (a b:Value):Option Value:=match a,b with
  | .string x,.string y=>aSu op x y
  | _,_=>none
def aCw (op:BinOp) (a b:Value):Option Value:=match op,a,b with
  | .eql,.bool x,.bool y=>some (.bool (x==y))
  | .neq,.bool x,.bool y=>some (.bool (!(x==y)))
  | _,_,_=>none
def aH6 (ks:List Nat) (op:BinOp) (a b:Value):Option Value:=match a,b with
  | .agg xs,.agg ys=>match op with
    | .eql=>(dY ks xs.toList ys.toList).bind fun b=>some (.bool b)
    | .neq=>(dY ks xs.toList ys.toList).bind fun b=>some (.bool (!b))
    | _=>none
  | _,_=>none
def aEX (op:BinOp) (a b:Value):Option Value:=match op,a,b with
  | .eql,.pointer none,.pointer y=>some (.bool y.isNone)
  | .eql,.pointer x,.pointer none=>some (.bool x.isNone)
  | .neq,.pointer none,.pointer y=>some (.bool (!y.isNone))
  | .neq,.pointer x,.pointer none=>some (.bool (!x.isNone))
  | _,_,_=>none
def slB (op:BinOp) (a b:Value):Option Value:=match op,a,b with
  | .eql,.slice none _ _,.slice y _ _=>some (.bool y.isNone)
  | .eql,.slice x _ _,.slice none _ _=>some (.bool x.isNone)
  | .neq,.slice none _ _,.slice y _ _=>some (.bool (!y.isNone))
  | .neq,.slice x _ _,.slice none _ _=>some (.bool (!x.isNone))
  | _,_,_=>none
def b7 (c a b:Value):Option Value:=match c with
  | .bool true=>some a
  | .bool false=>some b
  | _=>none
def bZ:Value→Option Value
  | .pointer (some a)=>some (.pointer (some a))
  | .func (.func f) a b=>some (.func (.func f) a b)
  | _=>none
def wB (k:IntKind):Value→Option Value
  | .int _ n=>some (.int k (wr k n))
  | _=>none
def nth (i:Nat):Value→Option Value
  | .tuple vs=>vs[i]?
  | _=>none
def bM:Value→Option Value
  | .slice _ n _=>some (.int .i64 n)
  | _=>none
def uW:Value→Option Value
  | .string s=>some (.int .i64 s.size)
  | _=>none
def ptr (id:Nat):Value:=.pointer (some (own id 0))
def bH (n:Nat) (h:T Obj) (a v:Value):Option (T Obj):=(asP a).bind fun a=>match Nat.beq v.cells.size n with
  | true=>mF h a v.cells.toList
  | false=>none
abbrev KV:=Value→T Obj→Nat→Prop
abbrev aEh:=FuncId→List Value→T Obj→Nat→KV→Prop
abbrev ptQ (P:Program) (ro:Ro) (e:dF) (h:T Obj) (aid:Nat) (op:Op) (K:Value→Option Obj→Prop):Prop :=
  match op with
  | .move x | .assign x=>eV (evE e x) fun v=>K v none
  | .pick c a b=>eV (evE e c) fun c=>eV (evE e a) fun a=>eV (evE e b) fun b=>aA (b7 c a b) fun v=>K v none
  | .alloc ty=>aA (i8 P ty) fun z=>K (ptr aid) (some (.cells z.cells ty))
  | .box ty x=>eV (evE e x) fun v=>K (ptr aid) (some (.cells v.cells ty))
  | .build ty ps=>eV (aQv e ps.toList) fun vs=>aA (cX P ty vs) fun v=>K v none
  | .buildSlice ty n ps=>eV (aQv e ps.toList) fun vs=>aA (bC P ty aid n vs) fun r=>K r.1 r.2
  | .load ty x=>eV (evE e x) fun v=>match isAgg P ty with
    | some true=>eV (pD P ty) fun n=>aA (loadA ro h n v) fun u=>K u none
    | some false=>aA (load1 ro h v) fun u=>K u none
    | none=>False
  | .nilCheck x=>eV (evE e x) fun v=>aA (bZ v) fun v=>K v none
  | .binOp op ty x y _=>eV (evE e x) fun a=>eV (evE e y) fun b=>match gG P ty with
    | some (.int _)=>aA (aP op a b) fun v=>K v none
    | some .string=>aA (aSt op a b) fun v=>K v none
    | some .bool=>aA (aCw op a b) fun v=>K v none
    | some (.pointer _)=>aA (aEX op a b) fun v=>K v none
    | some (.slice _)=>aA (slB op a b) fun v=>K v none
    | some (.struct _) | some (.array _ _)=>aA (eE P 20 ty) fun ks=>aA (aH6 ks op a b) fun v=>K v none
    | _=>False
  | .unOp op _ x=>eV (evE e x) fun a=>aA (unV op a) fun v=>K v none
  | .convert s d x=>eV (evE e x) fun v=>match gG P s,gG P d with
    | some (.int _),some (.int k)=>aA (wB k v) fun v=>K v none
    | _,_=>aA (aEp P ro h aid s d v) fun r=>K r.1 r.2
  | .makeFunc (.func f) a b=>eV (aHf e a.toList) fun a=>eV (aHf e b.toList) fun b=>K (.func (.func f) a.toArray b.toArray) none
  | .makeMap _ none=>K (.map (some aid)) (some (.map #[] 0))
  | .makeSlice ty l c=>eV (evE e l) fun l=>eV (evE e c) fun c=>aA (aBu P ty aid l c) fun r=>K r.1 r.2
  | .slice ty x lo hi mx=>eV (evE e x) fun x=>eV (aQu e lo) fun lo=>eV (aQu e hi) fun hi=>eV (aQu e mx) fun mx=>aA (vW P ty x lo hi mx) fun v=>K v none
  | .fieldAddr s x f=>eV (evE e x) fun v=>eV (aKv P s f) fun f=>eV (pD P f.type) fun n=>match n with
    | 0=>False
    | _+1=>aA (aT f.offset v) fun v=>K v none
  | .field ty x f=>eV (evE e x) fun v=>eV (aKv P ty f) fun f=>match isAgg P f.type with
    | some true=>eV (pD P f.type) fun n=>aA (aW1 n f.offset v) fun v=>K v none
    | some false=>aA (aW0 f.offset v) fun v=>K v none
    | none=>False
  | .indexAddr ty x i=>eV (evE e x) fun x=>eV (evE e i) fun i=>match gG P ty with
    | some (.array n el)=>eV (pD P el) fun z=>aA (ixArr n z x i) fun v=>K v none
    | some (.slice el)=>eV (pD P el) fun z=>aA (cD z x i) fun v=>K v none
    | _=>False
  | .index ty x i=>eV (evE e x) fun x=>eV (evE e i) fun i=>match gG P ty with
    | some (.array n el)=>eV (pD P el) fun z=>match isAgg P el with
      | some true=>aA (aW9 n z x i) fun v=>K v none
      | some false=>aA (aTe n z x i) fun v=>K v none
      | none=>False
    | some .string=>aA (aLE x i) fun v=>K v none
    | _=>False
  | .lookup ty x k ok=>eV (evE e x) fun x=>eV (evE e k) fun k=>aA (aBt P h ty x k ok) fun v=>K v none
  | .extract x i=>eV (evE e x) fun v=>aA (nth i v) fun v=>K v none
  | .call { callee:=.builtin b,args,argTypes }=>eV (aHf e args.toList) fun vs=>match b,vs,argTypes[0]? with
    | .len,[x],some ty=>match gG P ty with
      | some .string=>aA (uW x) fun v=>K v none
      | some (.slice _)=>aA (bM x) fun v=>K v none
      | _=>aA (aLH P h ty x) fun v=>K v none
    | _,_,_=>aA (iT P h b argTypes vs) fun v=>K v none
  | _=>False
def aEl (C:aEh) (f:Value) (vs:List Value) (h:T Obj) (nx:Nat) (K:KV):Prop:=match f with
  | .func (.func k) a b=>C k (a.toList++vs++b.toList) h nx K
  | _=>False
abbrev ptL (P:Program) (ro:Ro) (C:aEh) (e:dF) (h:T Obj) (nx:Nat) (op:Op) (K:KV):Prop :=
  match op with
  | .store ty a x=>eV (evE e a) fun a=>eV (evE e x) fun x=>eV (pD P ty) fun n=>aA (bH n h a x) fun h=>K undef h nx
  | .mapUpdate ty m k x | .insert ty m k x=>eV (evE e m) fun m=>eV (evE e k) fun k=>eV (evE e x) fun x=>aA (zM P h ty m k x) fun h=>K undef h nx
  | .call { callee:=.builtin b,args,argTypes }=>eV (aHf e args.toList) fun vs=>match b with
    | .append=>aA (bY P ro h nx argTypes vs) fun r=>K r.1 r.2.1 r.2.2
    | .copy=>aA (aGF P ro h nx argTypes vs) fun r=>K r.1 r.2.1 r.2.2
    | .clear=>match vs,argTypes[0]? with
      | [m],some ty=>aA (gG P ty) fun _=>aA (aC3 h m) fun h=>K (.tuple #[]) h nx
      | _,_=>False
    | _=>False
  | .call { callee:=.value f,args,.. }=>eV (evE e f) fun f=>eV (aHf e args.toList) fun vs=>aEl C f vs h nx K
  | .convert s d x=>eV (evE e x) fun v=>aA (yE P h s d v) fun r=>K r.1 r.2 nx
  | _=>False
abbrev ptO (P:Program) (ro:Ro) (C:aEh) (e:dF) (h:T Obj) (nx aid:Nat) (op:Op) (K:KV):Prop :=
  match iN op with
  | true=>ptL P ro C e h nx op K
  | false=>ptQ P ro e h aid op fun v ob=>K v (aCW h aid ob) nx
def bF (v:Value) (w:Bool) (h:T Obj) (nx:Nat) (A:KV→Prop) (K:KV):Prop:=match v with
  | .bool b=>match b==w with
    | true=>A K
    | false=>K undef h nx
  | _=>K undef h nx
abbrev Gd:=Option (Value × Bool)
abbrev aJA (g:Gd) (h:T Obj) (nx:Nat) (A:KV→Prop) (K:KV):Prop:=match g with
  | none=>A K
  | some vw=>bF vw.1 vw.2 h nx A K
abbrev gdP (ops:Array Oper) (e:dF) (g:Option (Nat × Bool)) (K:Gd→Prop):Prop:=match g with
  | none=>K none
  | some (j,w)=>match (ops[j]?).bind (·.dst) with
    | some d=>K (some (e d,w))
    | none=>False
abbrev aPv (n:Nat) (e:dF) (d:Option Tmp) (v:Value) (K:dF→Prop):Prop:=match d with
  | none=>K e
  | some d=>match Nat.blt d n with
    | true=>K (e.put d v)
    | false=>False
abbrev aST (P:Program) (ro:Ro) (C:aEh) (n:Nat) (ops:Array Oper):List Oper→dF→T Obj→Nat→(dF→T Obj→Nat→Prop)→Prop
  | [],e,h,nx,Q=>Q e h nx
  | o::l,e,h,nx,Q=>gdP ops e o.guard fun g=>aJA g h nx (fun K=>ptO P ro C e h (nx+1) nx o.op K) fun v h nx=>aPv n e o.dst v fun e=>aST P ro C n ops l e h nx Q
def rdE (P:Program) (e:dF):Op→Option Value
  | .load _ x=>evE e x
  | .lookup _ x _ _=>evE e x
  | .convert s _ x=>match gG P s with
    | some (.slice _)=>evE e x
    | _=>none
  | .call { callee:=.builtin _,args,argTypes }=>match (argTypes[0]?).bind (gG P) with
    | some (.map _ _)=>match aHf e args.toList with
      | some [v]=>some v
      | _=>none
    | _=>none
  | _=>none
def pC (v:Value) (h h':T Obj):Prop:=match blk v with
  | some b=>same b h h'
  | none=>True
def onP (g:Gd) (X:Prop):Prop:=match g with
  | none=>X
  | some vw=>vw.1=.bool vw.2→X
def aRt:List Nat→Nat→Nat
  | [],_=>0
  | x::_,0=>x
  | _::r,n+1=>aRt r n
def yJ (b:List Nat) (i j:Nat):Bool:=!(aRt b j).testBit i
abbrev aUZ {α:Type} (K:List Nat→α):List Nat→List Nat→α
  | [],o=>K o
  | x::r,o=>aUZ K r (x::o)
abbrev aOj {α:Type} (K:List Nat→α):List Oper→Nat→List Nat→α
  | [],_,acc=>aUZ K acc []
  | o::l,j,acc=>CheckFast.force (CheckFast.one (fun i=>if i < j then acc.getD (j - 1 - i) 0 else 0) o) fun v=>aOj K l (j+1) (v::acc)
def zC (P:Program) (ops:Array Oper) (b:List Nat):Bool :=
  (List.range ops.size).all fun j=>match ops[j]? with
    | none=>false
    | some oj=>(oj.after.toList.all fun e=>!Region.binds .any e || decide (e.on < j))&&(List.range j).all fun i=>match ops[i]? with
      | none=>false
      | some oi=>match yJ b i j with
        | false=>true
        | true=>xR P ops oi oj
abbrev aMQ (b:List Nat) (i:Nat) (h h':T Obj):List (Nat × Gd × Value)→Prop→Prop
  | [],K=>K
  | q::ls,K=>match yJ b q.1 i with
    | true=>onP q.2.1 (pC q.2.2 h h')∧aMQ b i h h' ls K
    | false=>aMQ b i h h' ls K
abbrev aMR (b:List Nat) (i:Nat) (v:Value):List (Nat × Gd × T Obj × T Obj)→Prop→Prop
  | [],K=>K
  | q::ms,K=>match yJ b q.1 i with
    | true=>onP q.2.1 (pC v q.2.2.1 q.2.2.2)∧aMR b i v ms K
    | false=>aMR b i v ms K
abbrev ptD (P:Program) (ro:Ro) (C:aEh) (n:Nat) (ops:Array Oper) (b:List Nat) (n0:Nat):List Oper→Nat→List (Nat × Gd × Value)→List (Nat × Gd × T Obj × T Obj)→dF→T Obj→Nat→(dF→T Obj→Nat→Prop)→Prop
  | [],_,_,_,e,h,nx,Q=>Q e h nx
  | o::l,i,ls,ms,e,h,nx,Q=>gdP ops e o.guard fun g=>match iN o.op with
    | true=>aJA g h nx (fun K=>ptO P ro C e h nx (n0+i) o.op fun v h' nx'=>aMQ b i h h' ls (K v h' nx')) fun v h' nx'=>aPv n e o.dst v fun e=>ptD P ro C n ops b n0 l (i+1) ls ((i,g,h,h')::ms) e h' nx' Q
    | false=>match rdE P e o.op with
      | some a=>aJA g h nx (fun K=>ptO P ro C e h nx (n0+i) o.op fun v h' nx'=>aMR b i a ms (K v h' nx')) fun v h' nx'=>aPv n e o.dst v fun e=>ptD P ro C n ops b n0 l (i+1) ((i,g,a)::ls) ms e h' nx' Q
      | none=>aJA g h nx (fun K=>ptO P ro C e h nx (n0+i) o.op K) fun v h' nx'=>aPv n e o.dst v fun e=>ptD P ro C n ops b n0 l (i+1) ls ms e h' nx' Q
def iM (x:Ex) (A:Prop) (B:Nat→Prop) (D:Prop):Prop:=match x with
  | .normal=>A
  | .exit i=>B i
  | .ret=>D
def dE (b:Bool) (A B:Prop):Prop:=match b with
  | true=>A
  | false=>B
abbrev exQ (x:Ex) (A:Prop) (B:Nat→Prop) (D:Prop):Prop:=match x with
  | .normal=>A
  | .exit i=>B i
  | .ret=>D
abbrev aW8 (b:Bool) (A B:Prop):Prop:=match b with
  | true=>A
  | false=>B
abbrev KE:=Ex→dF→T Obj→Nat→Prop
abbrev PT:=dF→T Obj→Nat→KE→Prop
def aIX (B:PT):Nat→PT
  | 0=>fun _ _ _ _=>False
  | k+1=>fun e h nx Q=>B e h nx fun x e h nx=>iM x (∃ h',aU h' h∧aIX B k e h' nx Q) (fun i=>Q (.exit i) e h nx) (Q .ret e h nx)
def dC (B:PT):PT:=fun e h nx Q=>∃ k,aIX B k e h nx Q
def aV (v:Value) (A B:Prop):Prop:=match v with
  | .bool true=>A
  | .bool false=>B
  | _=>False
abbrev pt (P:Program) (ro:Ro) (C:aEh) (n:Nat):Code→PT
  | .skip | .label _=>fun e h nx Q=>Q .normal e h nx
  | .ret=>fun e h nx Q=>Q .ret e h nx
  | .exit id=>fun e h nx Q=>Q (.exit id) e h nx
  | .seq a b=>fun e h nx Q=>pt P ro C n a e h nx fun x e h nx=>exQ x (pt P ro C n b e h nx Q) (fun i=>Q (.exit i) e h nx) (Q .ret e h nx)
  | .cond c a b=>fun e h nx Q=>eV (evE e c) fun v=>aV v (pt P ro C n a e h nx Q) (pt P ro C n b e h nx Q)
  | .block id b=>fun e h nx Q=>pt P ro C n b e h nx fun x e h nx=>exQ x (Q .normal e h nx) (fun i=>aW8 (Nat.beq i id) (Q .normal e h nx) (Q (.exit i) e h nx)) (Q .ret e h nx)
  | .loop b=>dC (pt P ro C n b)
  | .scope b=>pt P ro C n b
  | .region _ ops draw=>fun e h nx Q=>match draw with
    | false=>aST P ro C n ops ops.toList e h nx (Q .normal)
    | true=>aOj (fun b=>match zC P ops b with
      | true=>ptD P ro C n ops b nx ops.toList 0 [] [] e h (nx+ops.size) (Q .normal)
      | false=>False) ops.toList 0 []
  | _=>fun _ _ _ _=>False
abbrev aJz (P:Program) (ro:Ro) (e:dF) (h:T Obj):List ResultVar→(List Value→Prop)→Prop
  | [],K=>K []
  | .tmp i::r,K=>aJz P ro e h r fun vs=>K (e i::vs)
  | .cell a ty::r,K=>match isAgg P ty with
    | some true=>eV (pD P ty) fun n=>aA (loadA ro h n (e a)) fun v=>aJz P ro e h r fun vs=>K (v::vs)
    | some false=>aA (load1 ro h (e a)) fun v=>aJz P ro e h r fun vs=>K (v::vs)
    | none=>False
def gS (vs:List Value):dF:=fun i=>(vs[i]?).getD undef
abbrev aWK (P:Program) (ro:Ro) (rs:List ResultVar) (K:KV):KE:=fun x e h nx=>exQ x (aJz P ro e h rs fun vs=>∃ h',aU h' h∧K (aDi vs) h' nx) (fun _=>False) (aJz P ro e h rs fun vs=>∃ h',aU h' h∧K (aDi vs) h' nx)
def dL (h:T Obj) (aid:Nat) (o:Obj) (K:T Obj→Prop):Prop:=K (h.upd aid (some o))
def eJ (h:T Obj) (aid:Nat) (o:Option Obj) (K:T Obj→Prop):Prop:=K (aCW h aid o)
def puts:dF→List (Nat × Value)→dF
  | e,[]=>e
  | e,p::l=>puts (e.put p.1 p.2) l
def aQ9 (f:Func):Code:=f.body.getD .skip
def rR (P:Program) (ro:Ro) (C:aEh) (f:Func) (vs:List Value) (h:T Obj) (nx:Nat) (K:KV):Prop:=pt P ro C f.ntmps (aQ9 f) (gS vs) h nx (aWK P ro f.results.toList K)
def aN (P:Program) (ro:Ro):aEh:=fun f vs h nx K=>∃ k v h' nx',call P ro k f vs h nx v h' nx'∧K v h' nx'
end V
end Go.Proofs.YtjndkdmkecpllaaGreat
noncomputable section
namespace Go.Proofs.YtjndkdmkecpllaaGreat
namespace V
theorem aS {α:Type}{o:Option α}{K:α→Prop} (h:aA o K):∃ a,o=some a∧K a:=by
  cases o with
  | none=>exact h.elim
  | some a=>exact⟨a,rfl,h⟩
def hI (t:T Value):dF:=fun i=>(t.get i).getD undef
section
variable {P:Program}{ro:Ro}{t:T Value}{hp:T Obj}
theorem dZ (x:Operand):evl t x=evE (hI t) x:=by cases x<;>rfl
theorem sH:∀ xs:List Operand,aAL t xs=aHf (hI t) xs:=by
  intro xs
  induction xs with
  | nil=>rfl
  | cons x xs ih=>simp only[aAL,aHf]; rw[dZ,ih]
theorem aGJ (x:Option Operand):aKp t x=aQu (hI t) x:=by
  cases x with
  | none=>rfl
  | some x=>simp only[aKp,aQu]; rw[dZ]
theorem aKq:∀ xs:List (Nat × Operand),aJV t xs=aQv (hI t) xs:=by
  intro xs
  induction xs with
  | nil=>rfl
  | cons x xs ih=>simp only[aJV,aQv]; rw[dZ,ih]
theorem aPH (d:Nat) (v:Value):hI (t.upd d (some v))=(hI t).put d v:=by
  funext i
  unfold hI dF.put
  rw[T.get_upd]
  by_cases e:i=d
  · subst e; simp
  · rw[if_neg e]
    cases hb:Nat.beq i d with
    | true=>exact absurd (Nat.eq_of_beq_eq_true hb) e
    | false=>rfl
theorem uC {v:Value}{a:Addr} (h:asP v=some a):v=.pointer (some a):=by
  unfold asP at h
  split at h
  · cases h; rfl
  · cases h
theorem y0 {v:Value}{a:Array Value} (h:asAgg v=some a):v=.agg a:=by
  unfold asAgg at h
  split at h
  · cases h; rfl
  · cases h
theorem aPt {aid:Nat}{op:Op}{K:Value→Option Obj→Prop} (h:ptQ P ro (hI t) hp aid op K):∃ v ob,kD P ro t hp aid op=some (v,ob)∧K v ob:=by
  cases op with
  | move x | assign x =>
    obtain⟨v,h1,h2⟩:=aS h
    exact⟨v,none,by simp only[kD]; rw[dZ,h1]; rfl,h2⟩
  | pick c a b =>
    obtain⟨c',h1,h⟩:=aS h
    obtain⟨a',h2,h⟩:=aS h
    obtain⟨b',h3,h⟩:=aS h
    obtain⟨v,h4,h⟩:=aS h
    refine⟨v,none,?_,h⟩
    simp only[kD]; rw[dZ,dZ,dZ,h1,h2,h3]
    unfold b7 at h4
    split at h4<;>cases h4<;>rfl
  | alloc ty =>
    obtain⟨z,h1,h⟩:=aS h
    exact⟨_,_,by simp only[kD]; rw[h1]; rfl,h⟩
  | box ty x =>
    obtain⟨v,h1,h⟩:=aS h
    exact⟨_,_,by simp only[kD]; rw[dZ,h1]; rfl,h⟩
  | build ty ps =>
    obtain⟨vs,h1,h⟩:=aS h
    obtain⟨v,h2,h⟩:=aS h
    exact⟨_,_,by simp only[kD]; rw[aKq,h1]; show (cX P ty vs).bind _=_; rw[h2]; rfl,h⟩
  | buildSlice ty n ps =>
    obtain⟨vs,h1,h⟩:=aS h
    obtain⟨r,h2,h⟩:=aS h
    exact⟨r.1,r.2,by simp only[kD]; rw[aKq,h1]; exact h2,h⟩
  | load ty x =>
    obtain⟨v,h1,h⟩:=aS h
    split at h
    · rename_i hagg
      obtain⟨n,h2,h⟩:=aS h
      obtain⟨u,h3,h⟩:=aS h
      obtain⟨a,h4,h5⟩:=aM h3
      refine⟨u,none,?_,h⟩
      simp only[kD]; rw[dZ,h1,uC h4]
      show (pU P ro hp ty a).bind _=_
      unfold pU
      rw[hagg]
      show ((pD P ty).bind _).bind _=_
      rw[h2]
      show ((cellsAt ro hp a n).bind _).bind _=_
      rw[h5]; rfl
    · rename_i hagg
      obtain⟨u,h3,h⟩:=aS h
      obtain⟨a,h4,h5⟩:=aM h3
      refine⟨u,none,?_,h⟩
      simp only[kD]; rw[dZ,h1,uC h4]
      show (pU P ro hp ty a).bind _=_
      have:pU P ro hp ty a=some u:=by unfold pU; rw[hagg]; exact h5
      rw[this]; rfl
    · exact h.elim
  | nilCheck x =>
    obtain⟨v,h1,h⟩:=aS h
    obtain⟨u,h2,h⟩:=aS h
    refine⟨u,none,?_,h⟩
    simp only[kD]; rw[dZ,h1]
    unfold bZ at h2
    split at h2<;>cases h2<;>rfl
  | binOp op ty x y yt =>
    obtain⟨a,h1,h⟩:=aS h
    obtain⟨b,h2,h⟩:=aS h
    have key:∃ v,aFw P op ty a b=some v∧K v none:=by
      split at h
      · obtain⟨v,h3,h⟩:=aS h
        refine⟨v,?_,h⟩
        unfold aP at h3
        split at h3
        · exact h3
        · cases h3
      · obtain⟨v,h3,h⟩:=aS h
        refine⟨v,?_,h⟩
        unfold aSt at h3
        split at h3
        · exact h3
        · cases h3
      · rename_i hu
        obtain⟨v,h3,h⟩:=aS h
        refine⟨v,?_,h⟩
        unfold aCw at h3
        split at h3<;>cases h3<;>simp[aFw,aBo,aFZ,hu,aDW]
      · rename_i hu
        obtain⟨v,h3,h⟩:=aS h
        refine⟨v,?_,h⟩
        unfold aEX at h3
        split at h3<;>cases h3<;>simp only[aFw,aBo,aFZ,hu,aDW,Option.bind]<;>(try rfl)<;>(cases ‹Option Addr›<;>rfl)
      · rename_i hu
        obtain⟨v,h3,h⟩:=aS h
        refine⟨v,?_,h⟩
        unfold slB at h3
        split at h3<;>cases h3<;>simp only[aFw,aBo,aFZ,hu,aDW,Option.bind]<;>(try rfl)<;>(cases ‹Option Addr›<;>rfl)
      · rename_i hu
        obtain⟨ks,h3,h⟩:=aS h
        obtain⟨v,h4,h⟩:=aS h
        refine⟨v,?_,h⟩
        have hagg:isAgg P ty=some true:=by unfold isAgg; rw[hu]
        unfold aH6 at h4
        split at h4
        · split at h4
          · simp only[aFw,aBo,aFZ,hagg,h3]; exact h4
          · simp only[aFw,aBo,aFZ,hagg,h3]; exact h4
          · cases h4
        · cases h4
      · rename_i hu
        obtain⟨ks,h3,h⟩:=aS h
        obtain⟨v,h4,h⟩:=aS h
        refine⟨v,?_,h⟩
        have hagg:isAgg P ty=some true:=by unfold isAgg; rw[hu]
        unfold aH6 at h4
        split at h4
        · split at h4
          · simp only[aFw,aBo,aFZ,hagg,h3]; exact h4
          · simp only[aFw,aBo,aFZ,hagg,h3]; exact h4
          · cases h4
        · cases h4
      · exact h.elim
    obtain⟨v,h3,h⟩:=key
    exact⟨v,none,by simp only[kD]; rw[dZ,dZ,h1,h2]; show (aFw P op ty a b).bind _=_; rw[h3]; rfl,h⟩
  | unOp op ty x =>
    obtain⟨a,h1,h⟩:=aS h
    obtain⟨v,h2,h⟩:=aS h
    exact⟨v,none,by simp only[kD]; rw[dZ,h1]; show (unV op a).bind _=_; rw[h2]; rfl,h⟩
  | convert s d x =>
    obtain⟨a,h1,h⟩:=aS h
    have key:∃ r,aEp P ro hp aid s d a=some r∧K r.1 r.2:=by
      split at h
      · rename_i k1 k2 e1 e2
        obtain⟨v,h2,h⟩:=aS h
        refine⟨(v,none),?_,h⟩
        unfold wB at h2
        split at h2
        · cases h2; simp only[aEp,e1,e2]
        · cases h2
      · exact aS h
    obtain⟨r,h2,h⟩:=key
    exact⟨r.1,r.2,by simp only[kD]; rw[dZ,h1]; exact h2,h⟩
  | makeFunc fn a b =>
    cases fn with
    | func f =>
      obtain⟨a',h1,h⟩:=aS h
      obtain⟨b',h2,h⟩:=aS h
      exact⟨_,_,by simp only[kD]; rw[sH,sH,h1,h2]; rfl,h⟩
    | _=>exact h.elim
  | makeMap mt r =>
    cases r with
    | none=>exact⟨_,_,rfl,h⟩
    | some r=>exact h.elim
  | makeSlice ty l c =>
    obtain⟨l',h1,h⟩:=aS h
    obtain⟨c',h2,h⟩:=aS h
    obtain⟨r,h3,h⟩:=aS h
    exact⟨r.1,r.2,by simp only[kD]; rw[dZ,dZ,h1,h2]; exact h3,h⟩
  | slice ty x lo hi mx =>
    obtain⟨x',h1,h⟩:=aS h
    obtain⟨lo',h2,h⟩:=aS h
    obtain⟨hi',h3,h⟩:=aS h
    obtain⟨mx',h4,h⟩:=aS h
    obtain⟨v,h5,h⟩:=aS h
    exact⟨v,none,by simp only[kD]; rw[dZ,aGJ,aGJ,aGJ,h1,h2,h3,h4]; show (vW P ty x' lo' hi' mx').bind _=_; rw[h5]; rfl,h⟩
  | fieldAddr s x f =>
    obtain⟨v,h1,h⟩:=aS h
    obtain⟨fd,h2,h⟩:=aS h
    obtain⟨n,h3,h⟩:=aS h
    split at h
    · exact h.elim
    · obtain⟨u,h4,h⟩:=aS h
      obtain⟨a,h5,h6⟩:=aM h4
      cases h6
      refine⟨_,none,?_,h⟩
      simp only[kD]; rw[dZ,h1,uC h5]
      show (aKv P s f).bind _=_
      rw[h2]
      show (pD P fd.type).bind _=_
      rw[h3]; rfl
  | field ty x f =>
    obtain⟨v,h1,h⟩:=aS h
    obtain⟨fd,h2,h⟩:=aS h
    have key:∃ cs u,v=.agg cs∧aBw P fd.type cs fd.offset=some u∧K u none:=by
      split at h
      · rename_i hagg
        obtain⟨n,h3,h⟩:=aS h
        obtain⟨u,h4,h⟩:=aS h
        obtain⟨cs,h5,h6⟩:=aM h4
        refine⟨cs,u,y0 h5,?_,h⟩
        unfold aBw; rw[hagg]; show (pD P fd.type).bind _=_; rw[h3]; exact h6
      · rename_i hagg
        obtain⟨u,h4,h⟩:=aS h
        obtain⟨cs,h5,h6⟩:=aM h4
        refine⟨cs,u,y0 h5,?_,h⟩
        unfold aBw; rw[hagg]; exact h6
      · exact h.elim
    obtain⟨cs,u,rfl,h3,h⟩:=key
    refine⟨u,none,?_,h⟩
    simp only[kD]; rw[dZ,h1]
    show (aKv P ty f).bind _=_
    rw[h2]
    show (aBw P fd.type cs fd.offset).bind _=_
    rw[h3]; rfl
  | indexAddr ty x i =>
    obtain⟨x',h1,h⟩:=aS h
    obtain⟨i',h2,h⟩:=aS h
    have key:∃ v,pM P ty x' i'=some v∧K v none:=by
      split at h
      · rename_i hu
        obtain⟨z,h3,h⟩:=aS h
        obtain⟨v,h4,h⟩:=aS h
        refine⟨v,?_,h⟩
        obtain⟨j,h5,h6⟩:=aM h4
        obtain⟨a,h7,h8⟩:=aM h6
        cases uC h7
        unfold pM
        rw[h5]
        show (match gG P ty,Value.pointer (some a) with | _,_=>_)=_
        simp only[hu]; rw[h3]; exact h8
      · rename_i hu
        obtain⟨z,h3,h⟩:=aS h
        obtain⟨v,h4,h⟩:=aS h
        refine⟨v,?_,h⟩
        obtain⟨j,h5,h6⟩:=aM h4
        unfold pM
        rw[h5]
        simp only[Option.bind,hu]
        split at h6
        · simp only[h3]; exact h6
        · cases h6
      · exact h.elim
    obtain⟨v,h3,h⟩:=key
    exact⟨v,none,by simp only[kD]; rw[dZ,dZ,h1,h2]; show (pM P ty x' i').bind _=_; rw[h3]; rfl,h⟩
  | index ty x i =>
    obtain⟨x',h1,h⟩:=aS h
    obtain⟨i',h2,h⟩:=aS h
    have key:∃ v,aAe P ty x' i'=some v∧K v none:=by
      split at h
      · rename_i el hu
        obtain⟨z,h3,h⟩:=aS h
        split at h
        · rename_i hagg
          obtain⟨v,h4,h⟩:=aS h
          refine⟨v,?_,h⟩
          obtain⟨j,h5,h6⟩:=aM h4
          obtain⟨a,h7,h8⟩:=aM h6
          cases y0 h7
          unfold aAe
          rw[h5]
          simp only[Option.bind,hu,h3]
          split at h8
          · rename_i g1 g2
            rw[g1]; simp only[aBw,hagg]; rw[h3]; simp only[Option.bind]; rw[g2]; exact h8
          · cases h8
        · rename_i hagg
          obtain⟨v,h4,h⟩:=aS h
          refine⟨v,?_,h⟩
          obtain⟨j,h5,h6⟩:=aM h4
          obtain⟨a,h7,h8⟩:=aM h6
          cases y0 h7
          unfold aAe
          rw[h5]
          simp only[Option.bind,hu,h3]
          split at h8
          · rename_i g1
            rw[g1]; simp only[aBw,hagg]; exact h8
          · cases h8
        · exact h.elim
      · rename_i hu
        obtain⟨v,h4,h⟩:=aS h
        refine⟨v,?_,h⟩
        obtain⟨j,h5,h6⟩:=aM h4
        unfold aAe
        rw[h5]
        simp only[Option.bind,hu]
        split at h6
        · exact h6
        · cases h6
      · exact h.elim
    obtain⟨v,h3,h⟩:=key
    exact⟨v,none,by simp only[kD]; rw[dZ,dZ,h1,h2]; show (aAe P ty x' i').bind _=_; rw[h3]; rfl,h⟩
  | lookup ty x k ok =>
    obtain⟨x',h1,h⟩:=aS h
    obtain⟨k',h2,h⟩:=aS h
    obtain⟨v,h3,h⟩:=aS h
    exact⟨v,none,by simp only[kD]; rw[dZ,dZ,h1,h2]; show (aBt P hp ty x' k' ok).bind _=_; rw[h3]; rfl,h⟩
  | extract x i =>
    obtain⟨v,h1,h⟩:=aS h
    obtain⟨u,h2,h⟩:=aS h
    refine⟨u,none,?_,h⟩
    simp only[kD]; rw[dZ,h1]
    unfold nth at h2
    split at h2
    · simp only[Option.bind]; rw[h2]
    · cases h2
  | call c =>
    obtain⟨callee,args,ts⟩:=c
    cases callee with
    | builtin b =>
      obtain⟨vs,h1,h⟩:=aS h
      have key:∃ v,iT P hp b ts vs=some v∧K v none:=by
        split at h
        · rename_i x ty hty hzz
          have hb:∀ v,aLH P hp ty x=some v→iT P hp .len ts [x]=some v:=by
            intro v hv
            unfold iT
            simp only
            rw[hty]; exact hv
          split at h
          · rename_i hu
            obtain⟨v,h2,h⟩:=aS h
            refine⟨v,hb v ?_,h⟩
            unfold uW at h2
            split at h2
            · cases h2; simp only[aLH,hu]
            · cases h2
          · rename_i hu
            obtain⟨v,h2,h⟩:=aS h
            refine⟨v,hb v ?_,h⟩
            unfold bM at h2
            split at h2
            · cases h2; simp only[aLH,hu]
            · cases h2
          · obtain⟨v,h2,h⟩:=aS h
            exact⟨v,hb v h2,h⟩
        · exact aS h
      obtain⟨v,h2,h⟩:=key
      exact⟨v,none,by simp only[kD]; rw[sH,h1]; show (iT P hp b ts vs).bind _=_; rw[h2]; rfl,h⟩
    | _=>exact h.elim
  | _=>exact h.elim
end
end V
end Go.Proofs.YtjndkdmkecpllaaGreat
noncomputable section
namespace Go.Proofs.YtjndkdmkecpllaaGreat
namespace V
def LeC (C C':kU):Prop:=∀ f args h nx v h' nx',C f args h nx v h' nx'→C' f args h nx v h' nx'
section
variable {P:Program}{ro:Ro}
theorem aVf {C C':kU} (hC:LeC C C') {t:T Value}{h h':T Obj}{nx nx':Nat}{op:Op}{v:Value} (hl:opL P ro C t h nx op v h' nx'):opL P ro C' t h nx op v h' nx':=by
  cases op with
  | call c =>
    obtain⟨callee,args,ts⟩:=c
    cases callee with
    | value f =>
      obtain⟨k,a,b,vs,h1,h2,h3⟩:=hl
      exact⟨k,a,b,vs,h1,h2,hC _ _ _ _ _ _ _ h3⟩
    | builtin b=>exact hl
    | invoke r m=>exact hl
  | _=>exact hl
theorem uY {C C':kU} (hC:LeC C C') {t:T Value}{h h':T Obj}{nx aid nx':Nat}{op:Op}{v:Value} (hl:opR P ro C t h nx aid op v h' nx'):opR P ro C' t h nx aid op v h' nx':=by
  unfold opR at hl ⊢
  cases hq:iN op with
  | true=>rw[hq] at hl; exact aVf hC hl
  | false=>rw[hq] at hl; exact hl
theorem aJh {C C':kU} (hC:LeC C C') {n:Nat}{ops:Array Oper}:∀ (l:List Oper) (s s':St),aBe P ro C n ops l s s'→aBe P ro C' n ops l s s':=by
  intro l
  induction l with
  | nil=>intro s s' h; exact h
  | cons o l ih =>
    intro s s' h
    simp only[aBe] at h ⊢
    cases hw:wanted ops s.t o with
    | true=>rw[hw] at h; obtain⟨v,h',nx',t',h1,h2,h3⟩:=h; exact⟨v,h',nx',t',uY hC h1,h2,ih _ _ h3⟩
    | false=>rw[hw] at h; obtain⟨t',h1,h2⟩:=h; exact⟨t',h1,ih _ _ h2⟩
theorem wL {C C':kU} (hC:LeC C C') {n n0:Nat}{ops:Array Oper}:∀ (l:List Oper) (i:Nat) (ls:List (Nat × Nat)) (ms:List (Nat × T Obj × T Obj)) (s s':St),xQ P ro C n ops n0 l i ls ms s s'→xQ P ro C' n ops n0 l i ls ms s s':=by
  intro l
  induction l with
  | nil=>intro i ls ms s s' h; exact h
  | cons o l ih =>
    intro i ls ms s s' h
    simp only[xQ] at h ⊢
    cases hw:wanted ops s.t o with
    | true =>
      rw[hw] at h; obtain⟨v,h',nx',t',h1,h2,h3⟩:=h
      refine⟨v,h',nx',t',uY hC h1,h2,?_⟩
      cases hq:iN o.op with
      | true=>rw[hq] at h3; exact⟨h3.1,ih _ _ _ _ _ h3.2⟩
      | false =>
        rw[hq] at h3
        simp only at h3 ⊢
        cases hla:rdB P s.t o.op with
        | none=>rw[hla] at h3; exact ih _ _ _ _ _ h3
        | some a=>rw[hla] at h3; exact⟨h3.1,ih _ _ _ _ _ h3.2⟩
    | false=>rw[hw] at h; obtain⟨t',h1,h2⟩:=h; exact⟨t',h1,ih _ _ _ _ _ h2⟩
def LeX (X X':aAW):Prop:=∀ n c s e s',X n c s e s'→X' n c s e s'
theorem aGA {X X':aAW} (hX:LeX X X'):LeC (aFz P ro X) (aFz P ro X'):=by
  rintro f args h nx v h' nx' (⟨fn,body,e,s,vs,h1,h2,h3,h4,h5⟩ | ho)
  · exact .inl ⟨fn,body,e,s,vs,h1,h2,h3,hX _ _ _ _ _ h4,h5⟩
  · exact .inr ho
theorem aQl {X X':aAW} (hX:LeX X X'):LeX (aKd P ro X) (aKd P ro X'):=by
  intro n c s e s' h
  cases c with
  | seq a b =>
    rcases h with ⟨s1,h1,h2⟩ | ⟨h1,h2⟩
    · exact .inl ⟨s1,hX _ _ _ _ _ h1,hX _ _ _ _ _ h2⟩
    · exact .inr ⟨h1,hX _ _ _ _ _ h2⟩
  | cond c a b=>obtain⟨v,h1,h2⟩:=h; exact⟨v,h1,hX _ _ _ _ _ h2⟩
  | block id b=>obtain⟨e1,h1,h2⟩:=h; exact⟨e1,hX _ _ _ _ _ h1,h2⟩
  | loop b =>
    rcases h with ⟨s1,hh,h1,h3,h2⟩ | ⟨h1,h2⟩
    · exact .inl ⟨s1,hh,hX _ _ _ _ _ h1,h3,hX _ _ _ _ _ h2⟩
    · exact .inr ⟨h1,hX _ _ _ _ _ h2⟩
  | scope b=>exact hX _ _ _ _ _ h
  | region id ops draw =>
    obtain⟨h1,h2⟩:=h
    refine⟨h1,?_⟩
    cases draw with
    | false=>exact aJh (aGA hX) _ _ _ h2
    | true=>exact⟨h2.1,wL (aGA hX) _ _ _ _ _ _ h2.2⟩
  | _=>exact h
theorem aOy:∀ k,LeX (code P ro k) (code P ro (k+1)):=by
  intro k
  induction k with
  | zero=>intro n c s e s' h; exact h.elim
  | succ k ih=>exact aQl ih
theorem tJ {k k':Nat} (h:k≤k'):LeX (code P ro k) (code P ro k'):=by
  induction h with
  | refl=>intro n c s e s' h; exact h
  | step _ ih=>intro n c s e s' h; exact aOy _ _ _ _ _ _ (ih _ _ _ _ _ h)
theorem jG {k k':Nat} (h:k≤k'):LeC (call P ro k) (call P ro k'):=aGA (tJ h)
variable {t:T Value}{h:T Obj}{nx:Nat}
theorem aPs {op:Op}{K:KV} (hl:ptL P ro (aN P ro) (hI t) h nx op K):∃ k v h' nx',opL P ro (call P ro k) t h nx op v h' nx'∧K v h' nx':=by
  cases op with
  | store ty a x =>
    obtain⟨a',h1,hl⟩:=aS hl
    obtain⟨x',h2,hl⟩:=aS hl
    obtain⟨n,h3,hl⟩:=aS hl
    obtain⟨h',h4,hl⟩:=aS hl
    obtain⟨ad,h5,h6⟩:=aM h4
    refine⟨0,_,_,_,⟨a',x',by rw[dZ]; exact h1,by rw[dZ]; exact h2,?_,rfl,rfl⟩,hl⟩
    rw[uC h5]
    simp only[aBT]
    rw[h3]; exact h6
  | mapUpdate ty m k x | insert ty m k x =>
    obtain⟨m',h1,hl⟩:=aS hl
    obtain⟨k',h2,hl⟩:=aS hl
    obtain⟨x',h3,hl⟩:=aS hl
    obtain⟨h',h4,hl⟩:=aS hl
    exact⟨0,_,_,_,⟨m',k',x',by rw[dZ]; exact h1,by rw[dZ]; exact h2,by rw[dZ]; exact h3,h4,rfl,rfl⟩,hl⟩
  | call c =>
    obtain⟨callee,args,ts⟩:=c
    cases callee with
    | builtin b =>
      obtain⟨vs,h1,hl⟩:=aS hl
      cases b<;>try (exact hl.elim)
      case append =>
        obtain⟨r,h2,hl⟩:=aS hl
        exact⟨0,r.1,r.2.1,r.2.2,⟨vs,by rw[sH]; exact h1,h2⟩,hl⟩
      case clear =>
        simp only at hl
        split at hl
        · rename_i m ty hty
          obtain⟨u,h2,hl⟩:=aS hl
          obtain⟨h',h3,hl⟩:=aS hl
          exact⟨0,_,_,_,⟨_,by rw[sH]; exact h1,_,_,rfl,hty,by rw[h2]; rfl,h3,rfl,rfl⟩,hl⟩
        · exact hl.elim
      case copy =>
        obtain⟨r,h2,hl⟩:=aS hl
        exact⟨0,r.1,r.2.1,r.2.2,⟨vs,by rw[sH]; exact h1,h2⟩,hl⟩
    | value f =>
      obtain⟨fv,h1,hl⟩:=aS hl
      obtain⟨vs,h2,hl⟩:=aS hl
      unfold aEl at hl
      split at hl
      · rename_i k a b _
        obtain⟨fu,v,h',nx',h3,h4⟩:=hl
        exact⟨fu,v,h',nx',⟨k,a,b,vs,by rw[dZ]; exact h1,by rw[sH]; exact h2,h3⟩,h4⟩
      · exact hl.elim
    | invoke r m=>exact hl.elim
  | convert sx dx x =>
    obtain⟨x',h1,hl⟩:=aS hl
    obtain⟨r,h2,hl⟩:=aS hl
    exact⟨0,r.1,r.2,nx,⟨x',by rw[dZ]; exact h1,h2,rfl⟩,hl⟩
  | _=>exact hl.elim
theorem aB9 {aid:Nat}{op:Op}{K:KV} (hl:ptO P ro (aN P ro) (hI t) h nx aid op K):∃ k v h' nx',opR P ro (call P ro k) t h nx aid op v h' nx'∧K v h' nx':=by
  unfold ptO at hl
  unfold opR
  cases hq:iN op with
  | true=>rw[hq] at hl; exact aPs hl
  | false =>
    rw[hq] at hl
    obtain⟨v,ob,h1,h2⟩:=aPt hl
    exact⟨0,v,_,nx,⟨ob,h1,rfl,rfl⟩,h2⟩
def aKy (g:Gd):Prop:=match g with
  | none=>True
  | some vw=>vw.1=.bool vw.2
theorem aLZ {g:Gd}{X:Prop} (h:onP g X) (hg:aKy g):X:=by
  cases g with
  | none=>exact h
  | some vw=>exact h hg
theorem aIW {ops:Array Oper}{o:Oper}{F:Gd→Prop} (hg:gdP ops (hI t) o.guard F) :
    ∃ g,F g∧(∀ h nx A K,aJA g h nx A K→(wanted ops t o=true∧A K)∨(wanted ops t o=false∧K undef h nx))∧(wanted ops t o=true→aKy g):=by
  unfold gdP at hg
  unfold wanted
  cases hgd:o.guard with
  | none=>rw[hgd] at hg; exact⟨none,hg,fun h nx A K hA=>.inl ⟨rfl,hA⟩,fun _=>trivial⟩
  | some jw =>
    obtain⟨j,w⟩:=jw
    rw[hgd] at hg
    simp only at hg ⊢
    cases hd:(ops[j]?).bind (·.dst) with
    | none=>rw[hd] at hg; exact hg.elim
    | some d =>
      rw[hd] at hg
      simp only at hg ⊢
      refine⟨_,hg,?_,?_⟩
      · intro h nx A K hA
        unfold aJA bF at hA
        simp only at hA
        split at hA
        · rename_i b hb
          have hb':t.get d=some (.bool b):=by
            unfold hI at hb
            cases ht:t.get d with
            | none=>rw[ht] at hb; cases hb
            | some v=>rw[ht] at hb; exact congrArg some hb
          rw[hb']
          simp only
          cases hbw:b==w with
          | true=>rw[hbw] at hA; exact .inl ⟨rfl,hA⟩
          | false=>rw[hbw] at hA; exact .inr ⟨rfl,hA⟩
        · rename_i hnb
          right
          refine⟨?_,hA⟩
          cases ht:t.get d with
          | none=>rfl
          | some v =>
            cases v with
            | bool b=>exact absurd (show hI t d=.bool b by unfold hI; rw[ht]; rfl) (hnb b)
            | _=>rfl
      · intro hw
        unfold aKy
        simp only
        split at hw
        · rename_i b hb
          have:b=w:=by simpa using hw
          subst this
          unfold hI; rw[hb]; rfl
        · cases hw
theorem nW {n:Nat}{d:Option Tmp}{v:Value}{K:dF→Prop} (hp:aPv n (hI t) d v K):∃ t',put n t d v=some t'∧K (hI t'):=by
  cases d with
  | none=>exact⟨t,rfl,hp⟩
  | some d =>
    unfold aPv at hp
    simp only at hp
    cases hb:Nat.blt d n with
    | true=>rw[hb] at hp; exact⟨t.upd d (some v),by simp only[put]; rw[hb],by rw[aPH]; exact hp⟩
    | false=>rw[hb] at hp; exact hp.elim
theorem aLf {n:Nat}{ops:Array Oper}:∀ (l:List Oper) (t:T Value) (h:T Obj) (nx:Nat) (Q:dF→T Obj→Nat→Prop),aST P ro (aN P ro) n ops l (hI t) h nx Q →
    ∃ k s',aBe P ro (call P ro k) n ops l ⟨t,h,nx⟩ s'∧Q (hI s'.t) s'.h s'.nx:=by
  intro l
  induction l with
  | nil=>intro t h nx Q hl; exact⟨0,_,rfl,hl⟩
  | cons o l ih =>
    intro t h nx Q hl
    obtain⟨g,h1,h2,_⟩:=aIW hl
    simp only[aBe]
    rcases h2 _ _ _ _ h1 with ⟨hw,hA⟩ | ⟨hw,hK⟩
    · obtain⟨k1,v,h',nx',h3,h4⟩:=aB9 hA
      obtain⟨t',h5,h6⟩:=nW h4
      obtain⟨k2,s',h7,h8⟩:=ih t' h' nx' Q h6
      refine⟨max k1 k2,s',?_,h8⟩
      rw[hw]
      exact⟨v,h',nx',t',uY (jG (Nat.le_max_left _ _)) h3,h5,aJh (jG (Nat.le_max_right _ _)) _ _ _ h7⟩
    · obtain⟨t',h5,h6⟩:=nW hK
      obtain⟨k2,s',h7,h8⟩:=ih t' h nx Q h6
      refine⟨k2,s',?_,h8⟩
      rw[hw]
      exact⟨t',h5,h7⟩
theorem aIa:∀ (l:List Nat) (i:Nat),aRt l i=l.getD i 0
  | [],_=>by simp[aRt]
  | _::_,0=>rfl
  | _::r,n+1=>by simp[aRt,aIa r n]
theorem aAa (ops:Array Oper) (i j:Nat):yJ (bef ops).toList i j=free (bef ops) i j:=by
  unfold yJ free
  rw[aIa]; simp
theorem aGH (ops:Array Oper):zC P ops (bef ops).toList=xG P ops:=by
  unfold zC xG
  simp only[aAa]
  rfl
theorem aO6 {α:Type} (K:List Nat→α):∀ (l o:List Nat),aUZ K l o=K (l.reverse++o)
  | [],o=>rfl
  | x::r,o=>by rw[aUZ,aO6 K r]; simp
theorem aKY {α:Type} (K:List Nat→α):∀ (l:List Oper) (j:Nat) (acc:List Nat),aOj K l j acc=K (CheckFast.beforeL l j acc)
  | [],j,acc=>by rw[aOj,aO6,CheckFast.beforeL]; simp
  | o::r,j,acc=>by rw[aOj,CheckFast.force_eq,aKY K r,CheckFast.beforeL,CheckFast.force_eq]
theorem aTW {α:Type} (K:List Nat→α) (ops:Array Oper):aOj K ops.toList 0 []=K (bef ops).toList:=by
  rw[aKY]
  have:=CheckFast.beforeF_eq ops
  unfold bef
  rw[← this]
  rfl
theorem aN8 {b:List Nat}{i:Nat}{h h':T Obj}{K:Prop}:∀ {lp:List (Nat × Gd × Value)},aMQ b i h h' lp K→K∧∀ q∈lp,yJ b q.1 i=true→onP q.2.1 (pC q.2.2 h h'):=by
  intro lp
  induction lp with
  | nil=>intro h; exact⟨h,fun q hq=>by cases hq⟩
  | cons q lp ih =>
    intro hs
    simp only[aMQ] at hs
    cases hf:yJ b q.1 i with
    | true =>
      rw[hf] at hs
      obtain⟨h1,h2⟩:=ih hs.2
      refine⟨h1,fun x hx hfx=>?_⟩
      rcases List.mem_cons.1 hx with rfl | hx
      · exact hs.1
      · exact h2 x hx hfx
    | false =>
      rw[hf] at hs
      obtain⟨h1,h2⟩:=ih hs
      refine⟨h1,fun x hx hfx=>?_⟩
      rcases List.mem_cons.1 hx with rfl | hx
      · rw[hf] at hfx; cases hfx
      · exact h2 x hx hfx
theorem aN9 {b:List Nat}{i:Nat}{v:Value}{K:Prop}:∀ {mp:List (Nat × Gd × T Obj × T Obj)},aMR b i v mp K→K∧∀ q∈mp,yJ b q.1 i=true→onP q.2.1 (pC v q.2.2.1 q.2.2.2):=by
  intro mp
  induction mp with
  | nil=>intro h; exact⟨h,fun q hq=>by cases hq⟩
  | cons q mp ih =>
    intro hs
    simp only[aMR] at hs
    cases hf:yJ b q.1 i with
    | true =>
      rw[hf] at hs
      obtain⟨h1,h2⟩:=ih hs.2
      refine⟨h1,fun x hx hfx=>?_⟩
      rcases List.mem_cons.1 hx with rfl | hx
      · exact hs.1
      · exact h2 x hx hfx
    | false =>
      rw[hf] at hs
      obtain⟨h1,h2⟩:=ih hs
      refine⟨h1,fun x hx hfx=>?_⟩
      rcases List.mem_cons.1 hx with rfl | hx
      · rw[hf] at hfx; cases hfx
      · exact h2 x hx hfx
theorem aIg {t:T Value} (op:Op):aBy P t op=rdE P (hI t) op:=by
  cases op with
  | load ty x=>exact dZ x
  | lookup ty x k ok=>exact dZ x
  | convert sx dx x =>
    simp only[aBy,rdE]; rw[dZ]
    cases gG P sx with
    | none=>rfl
    | some d=>cases d<;>rfl
  | call c =>
    obtain⟨callee,args,ts⟩:=c
    cases callee with
    | builtin b =>
      simp only[aBy,rdE]; rw[sH]
      cases (ts[0]?).bind (gG P) with
      | none=>rfl
      | some d =>
                  cases d<;>try rfl
                  all_goals (simp only; cases aHf (hI t) args.toList with
                    | none=>rfl
                    | some l=>cases l with
                      | nil=>rfl
                      | cons a r=>cases r<;>rfl)
    | _=>rfl
  | _=>rfl
def RL (ls:List (Nat × Nat)) (lp:List (Nat × Gd × Value)):Prop:=∀ q∈ls,∃ g v,(q.1,g,v)∈lp∧aKy g∧blk v=some q.2
def RM (ms:List (Nat × T Obj × T Obj)) (mp:List (Nat × Gd × T Obj × T Obj)):Prop:=∀ q∈ms,∃ g,(q.1,g,q.2)∈mp∧aKy g
theorem RL.more {ls:List (Nat × Nat)}{lp:List (Nat × Gd × Value)} (h:RL ls lp) (x:Nat × Gd × Value):RL ls (x::lp):=fun q hq=>by
  obtain⟨g,v,h1,h2⟩:=h q hq
  exact⟨g,v,List.mem_cons_of_mem _ h1,h2⟩
theorem RM.more {ms:List (Nat × T Obj × T Obj)}{mp:List (Nat × Gd × T Obj × T Obj)} (h:RM ms mp) (x:Nat × Gd × T Obj × T Obj):RM ms (x::mp):=fun q hq=>by
  obtain⟨g,h1,h2⟩:=h q hq
  exact⟨g,List.mem_cons_of_mem _ h1,h2⟩
theorem aPr {n n0:Nat}{ops:Array Oper}:∀ (l:List Oper) (i:Nat) (ls:List (Nat × Nat)) (ms:List (Nat × T Obj × T Obj)) (lp:List (Nat × Gd × Value)) (mp:List (Nat × Gd × T Obj × T Obj)) (t:T Value) (h:T Obj) (nx:Nat) (Q:dF→T Obj→Nat→Prop),
    RL ls lp→RM ms mp→ptD P ro (aN P ro) n ops (bef ops).toList n0 l i lp mp (hI t) h nx Q→∃ k s',xQ P ro (call P ro k) n ops n0 l i ls ms ⟨t,h,nx⟩ s'∧Q (hI s'.t) s'.h s'.nx:=by
  intro l
  induction l with
  | nil=>intro i ls ms lp mp t h nx Q _ _ hl; exact⟨0,_,rfl,hl⟩
  | cons o l ih =>
    intro i ls ms lp mp t h nx Q hrl hrm hl
    obtain⟨g,h1,h2,hgt⟩:=aIW hl
    simp only[xQ]
    cases hq:iN o.op with
    | true =>
      rw[hq] at h1
      simp only at h1
      rcases h2 _ _ _ _ h1 with ⟨hw,hA⟩ | ⟨hw,hK⟩
      · obtain⟨k1,v,h',nx',h3,h4⟩:=aB9 hA
        obtain⟨h4,hsame⟩:=aN8 h4
        obtain⟨t',h5,h6⟩:=nW h4
        obtain⟨k2,s',h7,h8⟩:=ih (i+1) ls ((i,h,h')::ms) lp ((i,g,h,h')::mp) t' h' nx' Q hrl (fun q hq=>by
          rcases List.mem_cons.1 hq with rfl | hq
          · exact⟨g,by simp,hgt hw⟩
          · obtain⟨g',e1,e2⟩:=hrm q hq
            exact⟨g',List.mem_cons_of_mem _ e1,e2⟩) h6
        refine⟨max k1 k2,s',?_,h8⟩
        rw[hw]
        refine⟨v,h',nx',t',uY (jG (Nat.le_max_left _ _)) h3,h5,?_,wL (jG (Nat.le_max_right _ _)) _ _ _ _ _ _ h7⟩
        intro q hqm hf
        obtain⟨g',v',e1,e2,e3⟩:=hrl q hqm
        have:=aLZ (hsame _ e1 (by rw[aAa]; exact hf)) e2
        unfold pC at this
        simp only[e3] at this
        exact this
      · obtain⟨t',h5,h6⟩:=nW hK
        obtain⟨k2,s',h7,h8⟩:=ih (i+1) ls ms lp ((i,g,h,h)::mp) t' h nx Q hrl (hrm.more _) h6
        refine⟨k2,s',?_,h8⟩
        rw[hw]
        exact⟨t',h5,h7⟩
    | false =>
      rw[hq] at h1
      simp only at h1
      cases hloc:rdE P (hI t) o.op with
      | some a =>
        rw[hloc] at h1
        simp only at h1
        rcases h2 _ _ _ _ h1 with ⟨hw,hA⟩ | ⟨hw,hK⟩
        · obtain⟨k1,v,h',nx',h3,h4⟩:=aB9 hA
          obtain⟨h4,hsame⟩:=aN9 h4
          obtain⟨t',h5,h6⟩:=nW h4
          cases hla:rdB P t o.op with
          | none =>
            obtain⟨k2,s',h7,h8⟩:=ih (i+1) ls ms ((i,g,a)::lp) mp t' h' nx' Q (hrl.more _) hrm h6
            refine⟨max k1 k2,s',?_,h8⟩
            rw[hw]
            exact⟨v,h',nx',t',uY (jG (Nat.le_max_left _ _)) h3,h5,wL (jG (Nat.le_max_right _ _)) _ _ _ _ _ _ h7⟩
          | some ad =>
            have ha:blk a=some ad:=by
              unfold rdB at hla
              rw[aIg,hloc] at hla
              exact hla
            obtain⟨k2,s',h7,h8⟩:=ih (i+1) ((i,ad)::ls) ms ((i,g,a)::lp) mp t' h' nx' Q (fun q hq=>by
              rcases List.mem_cons.1 hq with rfl | hq
              · exact⟨g,a,by simp,hgt hw,ha⟩
              · obtain⟨g',v',e1,e2⟩:=hrl q hq
                exact⟨g',v',List.mem_cons_of_mem _ e1,e2⟩) hrm h6
            refine⟨max k1 k2,s',?_,h8⟩
            rw[hw]
            refine⟨v,h',nx',t',uY (jG (Nat.le_max_left _ _)) h3,h5,?_,wL (jG (Nat.le_max_right _ _)) _ _ _ _ _ _ h7⟩
            intro q hqm hf
            obtain⟨g',e1,e2⟩:=hrm q hqm
            have:=aLZ (hsame _ e1 (by rw[aAa]; exact hf)) e2
            unfold pC at this
            simp only[ha] at this
            exact this
        · obtain⟨t',h5,h6⟩:=nW hK
          obtain⟨k2,s',h7,h8⟩:=ih (i+1) ls ms ((i,g,a)::lp) mp t' h nx Q (hrl.more _) hrm h6
          refine⟨k2,s',?_,h8⟩
          rw[hw]
          exact⟨t',h5,h7⟩
      | none =>
        rw[hloc] at h1
        simp only at h1
        have hla:rdB P t o.op=none:=by
          unfold rdB
          rw[aIg,hloc]; rfl
        rcases h2 _ _ _ _ h1 with ⟨hw,hA⟩ | ⟨hw,hK⟩
        · obtain⟨k1,v,h',nx',h3,h4⟩:=aB9 hA
          obtain⟨t',h5,h6⟩:=nW h4
          obtain⟨k2,s',h7,h8⟩:=ih (i+1) ls ms lp mp t' h' nx' Q hrl hrm h6
          refine⟨max k1 k2,s',?_,h8⟩
          rw[hw,hla]
          exact⟨v,h',nx',t',uY (jG (Nat.le_max_left _ _)) h3,h5,wL (jG (Nat.le_max_right _ _)) _ _ _ _ _ _ h7⟩
        · obtain⟨t',h5,h6⟩:=nW hK
          obtain⟨k2,s',h7,h8⟩:=ih (i+1) ls ms lp mp t' h nx Q hrl hrm h6
          refine⟨k2,s',?_,h8⟩
          rw[hw]
          exact⟨t',h5,h7⟩
def aQ1 (P:Program) (ro:Ro) (n:Nat) (c:Code) (t:T Value) (h:T Obj) (nx:Nat) (Q:KE):Prop:=∃ k x s',code P ro k n c ⟨t,h,nx⟩ x s'∧Q x (hI s'.t) s'.h s'.nx
theorem aLD {n:Nat}{b:Code} (ihb:∀ (t:T Value) (h:T Obj) (nx:Nat) (Q:KE),pt P ro (aN P ro) n b (hI t) h nx Q→aQ1 P ro n b t h nx Q) :
    ∀ (j:Nat) (t:T Value) (h:T Obj) (nx:Nat) (Q:KE),aIX (pt P ro (aN P ro) n b) j (hI t) h nx Q→aQ1 P ro n (.loop b) t h nx Q:=by
  intro j
  induction j with
  | zero=>intro t h nx Q hi; exact hi.elim
  | succ j ih =>
    intro t h nx Q hi
    obtain⟨k1,x,s1,h1,h2⟩:=ihb _ _ _ _ hi
    cases x with
    | normal =>
      obtain⟨hh,h3,h4⟩:=h2
      obtain⟨k2,x,s2,h5,h6⟩:=ih s1.t hh s1.nx Q h4
      exact⟨max k1 k2+1,x,s2,.inl ⟨s1,hh,tJ (Nat.le_max_left _ _) _ _ _ _ _ h1,h3,tJ (Nat.le_max_right _ _) _ _ _ _ _ h5⟩,h6⟩
    | exit id=>exact⟨k1+1,_,s1,.inr ⟨by simp,h1⟩,h2⟩
    | ret=>exact⟨k1+1,_,s1,.inr ⟨by simp,h1⟩,h2⟩
theorem aSU {n:Nat}:∀ (c:Code) (t:T Value) (h:T Obj) (nx:Nat) (Q:KE),pt P ro (aN P ro) n c (hI t) h nx Q→aQ1 P ro n c t h nx Q:=by
  intro c
  induction c with
  | skip | label=>intro t h nx Q hp; exact⟨1,.normal,_,⟨rfl,rfl⟩,hp⟩
  | ret=>intro t h nx Q hp; exact⟨1,.ret,_,⟨rfl,rfl⟩,hp⟩
  | exit id=>intro t h nx Q hp; exact⟨1,.exit id,_,⟨rfl,rfl⟩,hp⟩
  | seq a b iha ihb =>
    intro t h nx Q hp
    obtain⟨k1,x,s1,h1,h2⟩:=iha _ _ _ _ hp
    cases x with
    | normal =>
      obtain⟨k2,x,s2,h5,h6⟩:=ihb _ _ _ _ h2
      exact⟨max k1 k2+1,x,s2,.inl ⟨s1,tJ (Nat.le_max_left _ _) _ _ _ _ _ h1,tJ (Nat.le_max_right _ _) _ _ _ _ _ h5⟩,h6⟩
    | exit id=>exact⟨k1+1,_,s1,.inr ⟨by simp,h1⟩,h2⟩
    | ret=>exact⟨k1+1,_,s1,.inr ⟨by simp,h1⟩,h2⟩
  | cond c a b iha ihb =>
    intro t h nx Q hp
    obtain⟨v,h1,h2⟩:=aS hp
    rw[← dZ] at h1
    unfold aV at h2
    split at h2
    · obtain⟨k,x,s1,h3,h4⟩:=iha _ _ _ _ h2
      exact⟨k+1,x,s1,⟨true,h1,h3⟩,h4⟩
    · obtain⟨k,x,s1,h3,h4⟩:=ihb _ _ _ _ h2
      exact⟨k+1,x,s1,⟨false,h1,h3⟩,h4⟩
    · exact h2.elim
  | block id b ihb =>
    intro t h nx Q hp
    obtain⟨k,x,s1,h1,h2⟩:=ihb _ _ _ _ hp
    cases x with
    | normal=>exact⟨k+1,_,s1,⟨_,h1,rfl⟩,h2⟩
    | ret=>exact⟨k+1,_,s1,⟨_,h1,rfl⟩,h2⟩
    | exit i =>
      refine⟨k+1,_,s1,⟨_,h1,rfl⟩,?_⟩
      have h2:dE (Nat.beq i id) (Q .normal (hI s1.t) s1.h s1.nx) (Q (.exit i) (hI s1.t) s1.h s1.nx):=h2
      simp only at ⊢
      cases hb:Nat.beq i id with
      | true=>rw[hb] at h2; exact h2
      | false=>rw[hb] at h2; exact h2
  | loop b ihb =>
    rintro t h nx Q ⟨j,hp⟩
    exact aLD ihb j t h nx Q hp
  | scope b ihb =>
    intro t h nx Q hp
    obtain⟨k,x,s1,h1,h2⟩:=ihb _ _ _ _ hp
    exact⟨k+1,x,s1,h1,h2⟩
  | region id ops draw =>
    intro t h nx Q hp
    cases draw with
    | false =>
      obtain⟨k,s',h1,h2⟩:=aLf _ _ _ _ _ hp
      exact⟨k+1,.normal,s',⟨rfl,h1⟩,h2⟩
    | true =>
      simp only[pt] at hp
      rw[aTW,aGH] at hp
      cases hd:xG P ops with
      | false=>rw[hd] at hp; exact hp.elim
      | true =>
        rw[hd] at hp
        obtain⟨k,s',h1,h2⟩:=aPr (P:=P) (ro:=ro) ops.toList 0 [] [] [] [] t h (nx+ops.size) (Q .normal) (fun q hq=>by cases hq) (fun q hq=>by cases hq) hp
        exact⟨k+1,.normal,s',⟨rfl,hd,h1⟩,h2⟩
  | _=>intro t h nx Q hp; exact hp.elim
theorem aN2 {t:T Value}{h:T Obj}:∀ (rs:List ResultVar) (K:List Value→Prop),aJz P ro (hI t) h rs K→∃ vs,aE2 P ro h t rs=some vs∧K vs:=by
  intro rs
  induction rs with
  | nil=>intro K hr; exact⟨[],rfl,hr⟩
  | cons r rs ih =>
    intro K hr
    cases r with
    | tmp i =>
      obtain⟨vs,h1,h2⟩:=ih _ hr
      exact⟨_,by simp only[aE2]; rw[h1]; rfl,h2⟩
    | cell a ty =>
      have key:∃ ad v,hI t a=.pointer (some ad)∧pU P ro h ty ad=some v∧aJz P ro (hI t) h rs fun vs=>K (v::vs):=by
        simp only[aJz] at hr
        split at hr
        · rename_i hagg
          obtain⟨n,h1,hr⟩:=aS hr
          obtain⟨v,h2,hr⟩:=aS hr
          obtain⟨ad,h3,h4⟩:=aM h2
          exact⟨ad,v,uC h3,by unfold pU; rw[hagg]; show (pD P ty).bind _=_; rw[h1]; exact h4,hr⟩
        · rename_i hagg
          obtain⟨v,h2,hr⟩:=aS hr
          obtain⟨ad,h3,h4⟩:=aM h2
          exact⟨ad,v,uC h3,by unfold pU; rw[hagg]; exact h4,hr⟩
        · exact hr.elim
      obtain⟨ad,v,h1,h2,h3⟩:=key
      obtain⟨vs,h4,h5⟩:=ih _ h3
      refine⟨_,?_,h5⟩
      simp only[aE2]
      have:(t.get a).getD undef=.pointer (some ad):=h1
      rw[this]
      simp only
      rw[h2,h4]; rfl
theorem aKm {vs:List Value}:hI (aA6 vs 0 .e)=gS vs:=by
  funext i
  unfold hI gS
  rw[aGI]
  by_cases hi:i < vs.length
  · rw[if_pos (by omega),Nat.sub_zero]
  · rw[if_neg (by omega),T.get_e,List.getElem?_eq_none (by omega)]
theorem aQd {f:FuncId}{fn:Func}{body:Code}{vs:List Value}{K:KV} (h1:P.funcs[f]?=some fn) (h2:fn.body=some body) (h3:Nat.ble vs.length fn.ntmps=true)
    (hp:pt P ro (aN P ro) fn.ntmps body (gS vs) h nx (aWK P ro fn.results.toList K)):aN P ro f vs h nx K:=by
  rw[← aKm] at hp
  obtain⟨k,x,s',h4,h5⟩:=aSU _ _ _ _ _ hp
  have key:(x=.normal∨x=.ret)∧aJz P ro (hI s'.t) s'.h fn.results.toList fun vs=>∃ h',aU h' s'.h∧K (aDi vs) h' s'.nx:=by
    cases x with
    | exit id=>exact h5.elim
    | normal=>exact⟨.inl rfl,h5⟩
    | ret=>exact⟨.inr rfl,h5⟩
  obtain⟨hx,hr⟩:=key
  obtain⟨ws,h6,h',h7,h8⟩:=aN2 _ _ hr
  exact⟨k,aDi ws,h',s'.nx,.inl ⟨fn,body,x,s',ws,h1,h2,Nat.le_of_ble_eq_true h3,h4,hx,h6,rfl,h7,rfl⟩,h8⟩
theorem aOs {f:FuncId}{v:Value}{K:KV} (ho:Orc P f v) (hK:K v h nx):aN P ro f [] h nx K:=⟨0,v,h,nx,.inr (.inl ⟨rfl,ho,fun _ _ e=>e,rfl⟩),hK⟩
theorem bG {f:FuncId}{fn:Func}{vs:List Value}{K:KV} (h1:P.funcs[f]?=some fn) (h2:fn.body.isSome=true) (h3:Nat.ble vs.length fn.ntmps=true)
    (hp:rR P ro (aN P ro) fn vs h nx K):aN P ro f vs h nx K:=by
  cases hb:fn.body with
  | none=>rw[hb] at h2; cases h2
  | some b =>
    refine aQd h1 hb h3 ?_
    unfold rR aQ9 at hp
    rw[hb] at hp
    exact hp
end
end V
end Go.Proofs.YtjndkdmkecpllaaGreat
noncomputable section
namespace Go.Proofs.YtjndkdmkecpllaaGreat
namespace V
open Go.RowKit
def aJb:Addr:=⟨0,0,none⟩
def aET (N:Nat):Value→Option Value
  | .slice (some a) 0 0=>some (.slice (some aJb) 0 0)
  | .slice (some a) l c=>match a.spot,Nat.blt a.block N with
    | none,true=>some (.slice (some a) l c)
    | _,_=>none
  | .pointer (some a)=>match a.spot,Nat.blt a.block N with
    | none,true=>some (.pointer (some a))
    | _,_=>none
  | v=>match flat v with
    | true=>some v
    | false=>none
theorem aJf {N:Nat}{φ:gF}{v v':Value} (h:aET N v=some v'):VR N φ v' v:=by
  unfold aET at h
  split at h
  · cases h; exact .sliceNo rfl
  · split at h
    · rename_i h1 h2
      cases h; exact .sliceRo h1 (by have:=h2; simp[Nat.blt] at this; omega)
    · cases h
  · split at h
    · rename_i h1 h2
      cases h; exact .ptrRo h1 (by have:=h2; simp[Nat.blt] at this; omega)
    · cases h
  · split at h
    · rename_i hf; cases h; exact .flat hf
    · cases h
def xY (W:World):Ro:=fun a=>match a.spot,Nat.blt a.block W.heap.size with
  | none,true=>(W.cell? a).bind (aET W.heap.size)
  | _,_=>none
theorem aHM (W:World):Sim (xY W) W.heap.size (fun _=>none) W (T.e:T Obj).get W where
  n:=rfl
  le:=Nat.le_refl _
  old:=fun _ _=>rfl
  dom:=fun k B o r h=>by cases h
  inj:=fun k k' B o r B' o' r' h=>by rw[T.get_e] at h; exact absurd rfl h
  own:=fun k o h=>by rw[T.get_e] at h; cases h
  ro:=fun a v h=>by
    unfold xY at h
    split at h
    · rename_i h1 h2
      obtain⟨v',h3,h4⟩:=aM h
      exact⟨h1,by have:=h2; simp[Nat.blt] at this; omega,v',h3,aJf h4⟩
    · cases h
def aAi (N:Nat):List Value→Option (List Value)
  | []=>some []
  | v::l=>(aET N v).bind fun v=>(aAi N l).bind fun l=>some (v::l)
inductive Arg (N:Nat):Value→Value→Prop where
  | one {v v':Value} (h:aET N v=some v'):Arg N v' v
  | agg {cs:Array Value} {l:List Value} (h:aAi N cs.toList=some l):Arg N (.agg l.toArray) (.agg cs)
theorem aDX {N:Nat}{φ:gF}:∀ {l l':List Value},aAi N l=some l'→LR N φ l' l
  | [],l',h=>by cases h; exact .nil
  | v::l,l',h=>by
    obtain⟨v',h1,h⟩:=aM h
    obtain⟨r,h2,h⟩:=aM h
    cases h
    exact .cons (aJf h1) (aDX h2)
theorem Arg.vr {N:Nat}{φ:gF}{v v':Value} (h:Arg N v v'):VR N φ v v':=by
  cases h with
  | one h=>exact aJf h
  | agg h=>exact .agg (by have:=(aDX (φ:=φ) h).length; simpa using this) fun i x y hx hy=>(aDX h).get i x y (by simpa using hx) (by simpa using hy)
inductive Args (N:Nat):List Value→List Value→Prop where
  | nil:Args N [] []
  | cons {v v':Value} {l l':List Value} (h:Arg N v v') (t:Args N l l'):Args N (v::l) (v'::l')
theorem Args.lr {N:Nat}{φ:gF}{l l':List Value} (h:Args N l l'):LR N φ l l':=by
  induction h with
  | nil=>exact .nil
  | cons h _ ih=>exact .cons h.vr ih
def aWF (P:Program) (W:World) (f:FuncId) (vs:List Value):Prop:=aN P (xY W) f vs .e 0 fun v _ _=>v=.bool true
theorem aNa {P:Program} (hz:gC P=true) (hn:mZ P=true) (hm:P.follows .mixedOrders=true) {W:World}{f:FuncId}{vs:List Value}{args:Array Value}
    (ha:Args W.heap.size vs args.toList) (h:aWF P W f vs):Calls P f args W fun e W'=>e=.returned (.bool true)∧Below W.heap.size W W':=by
  obtain⟨k,v,h',nx',hc,rfl⟩:=h
  have hs:SS (xY W) W.heap.size W (fun _=>none) .e 0 W:=⟨aHM W,fun _ _=>rfl⟩
  refine ((aC1 (ro:=xY W) (N:=W.heap.size) (w0:=W) hz hn hm _ _ _ _ _ _ _ hc).2 _ W args hs ha.lr).mono fun e W' ⟨v',φ',he,hst,hv⟩=>?_
  subst he
  refine⟨by rw[hv.of_flat rfl],⟨hst.os,hst.tape,hst.output,hst.size,fun b hb=>hst.frame b hb fun k B o r hk _=>absurd (T.get_e k) hk⟩⟩
section
open Go.ChangeShapes Go.WideShapes Go.ChangeAt
variable {H:Type}{enc:TypeId × Value→H}{P:Program}
theorem aHz {W W':World} (hl:laidOutB P=true) (hb:Below W.heap.size W W'):∀ (ts:List TypeId) (vs:List Value) (ds:List (DataW H)) (ps:List MemPlace),
    (∀ t∈ts,P.readableRec t=true∧t < P.types.size)→(∀ x∈ps,x.block < W.heap.size) →
    DataW.TrodAll enc P W 0 (fun _=>true) true ts vs ds ps→DataW.TrodAll enc P W' 0 (fun b=>decide (b < W.heap.size)) true ts vs ds ps:=by
  intro ts
  induction ts with
  | nil =>
    intro vs ds ps _ _ h
    cases vs with
    | nil=>cases ds with
      | nil=>exact h
      | cons _ _=>exact h.elim
    | cons _ _=>exact h.elim
  | cons t ts ih =>
    intro vs ds ps hr hp h
    cases vs with
    | nil=>exact h.elim
    | cons v vs =>
      cases ds with
      | nil=>exact h.elim
      | cons d ds =>
        obtain⟨p,q,h1,h2,rfl⟩:=h
        exact⟨p,q,Below.trod hl (hr t (by simp)).1 (hr t (by simp)).2 h1 hb (fun x hx=>hp x (by simp[hx])),ih _ _ _ (fun t ht=>hr t (by simp[ht])) (fun x hx=>hp x (by simp[hx])) h2,rfl⟩
theorem aRT {fn:Func}{s:ChangeSpec}{tb:TypeId}{W W':World}{args:Array Value}{ds gs:List (DataW H)}{before:List MemPlace}
    (hl:laidOutB P=true) (hrow0:(fn.params.toList.all fun t=>P.readableRec t&&decide (t < P.types.size))=true) (hres:fn.resultTypes=#[tb]) (htb:P.underlying tb=some .bool) (hvars:s.vars=[])
    (hW:DataW.Whole enc P fn.params.toList s.vars false W args.toList ds gs before) (hb:Below W.heap.size W W')
    (hfn:s.fn H (ds++gs)={ results:=[.lit (.bool true)],args:=ds,vars:=[] }) :
    s.post enc P fn false true false false W args (.bool true) W':=by
  have hrow:∀ t∈fn.params.toList,P.readableRec t=true∧t < P.types.size:=fun t ht=>by
    have:=List.all_eq_true.1 hrow0 t ht
    simpa using this
  have hW':=hW
  obtain⟨p,q,hA,hV,rfl,hfz,hnd⟩:=hW
  refine⟨ds,gs,p++q,[],p,[],hW',?_,?_,?_,hb.frame _,fun h=>by cases h⟩
  · rw[hfn,hres]
    exact trodAll_mk1 (shut_bool htb _)
  · rw[hfn]
    exact aHz hl hb _ _ _ _ hrow (fun x hx=>by have:=hW'.lt x (by simp[hx]); simpa using this) hA
  · rw[hfn,hvars]; exact rfl
end
end V
end Go.Proofs.YtjndkdmkecpllaaGreat
noncomputable section
namespace Go.Proofs.YtjndkdmkecpllaaGreat
namespace V
theorem cH {α:Type} (a:α) (K:α→Prop):aA (some a) K=K a:=rfl
theorem cZ (A B:Prop):aV (.bool true) A B=A:=rfl
theorem cK (A B:Prop):aV (.bool false) A B=B:=rfl
theorem gO (h:T Obj) (nx:Nat) (A:KV→Prop) (K:KV):bF (.bool true) true h nx A K=A K:=rfl
theorem gL (h:T Obj) (nx:Nat) (A:KV→Prop) (K:KV):bF (.bool false) false h nx A K=A K:=rfl
theorem gN (h:T Obj) (nx:Nat) (A:KV→Prop) (K:KV):bF (.bool true) false h nx A K=K undef h nx:=rfl
theorem gM (h:T Obj) (nx:Nat) (A:KV→Prop) (K:KV):bF (.bool false) true h nx A K=K undef h nx:=rfl
theorem fA (h:T Obj) (i:Nat) (o:Obj) (K:T Obj→Prop):dL h i o K=K (h.upd i (some o)):=rfl
theorem dT (h:T Obj) (i:Nat) (o:Obj) (K:T Obj→Prop):eJ h i (some o) K=K (h.upd i (some o)):=rfl
theorem dS (h:T Obj) (i:Nat) (K:T Obj→Prop):eJ h i none K=K h:=rfl
theorem c7 (A:Prop) (B:Nat→Prop) (D:Prop):iM .normal A B D=A:=rfl
theorem d9 (i:Nat) (A:Prop) (B:Nat→Prop) (D:Prop):iM (.exit i) A B D=B i:=rfl
theorem fC (A:Prop) (B:Nat→Prop) (D:Prop):iM .ret A B D=D:=rfl
theorem dM (A B:Prop):dE true A B=A:=rfl
theorem cW (A B:Prop):dE false A B=B:=rfl
theorem aB {α:Type}{o:Option α}{a:α}{K:α→Prop} (h:o=some a) (k:K a):aA o K:=by rw[h]; exact k
theorem aD {h:T Obj}{i:Nat}{o:Obj}{K:T Obj→Prop} (k:K (h.upd i (some o))):dL h i o K:=k
theorem aF {h:T Obj}{i:Nat}{o:Obj}{K:T Obj→Prop} (k:K (h.upd i (some o))):eJ h i (some o) K:=k
theorem aC {h:T Obj}{i:Nat}{K:T Obj→Prop} (k:K h):eJ h i none K:=k
theorem aG {A B:Prop} (k:A):aV (.bool true) A B:=k
theorem aE {A B:Prop} (k:B):aV (.bool false) A B:=k
theorem iF {b:Bool}{A B:Prop} (h:b=true) (k:A):aV (.bool b) A B:=by subst h; exact k
theorem iE {b:Bool}{A B:Prop} (h:b=false) (k:B):aV (.bool b) A B:=by subst h; exact k
theorem aH {h:T Obj}{nx:Nat}{A:KV→Prop}{K:KV} (k:A K):bF (.bool true) true h nx A K:=k
theorem aI {h:T Obj}{nx:Nat}{A:KV→Prop}{K:KV} (k:A K):bF (.bool false) false h nx A K:=k
theorem aK {h:T Obj}{nx:Nat}{A:KV→Prop}{K:KV} (k:K undef h nx):bF (.bool true) false h nx A K:=k
theorem aJ {h:T Obj}{nx:Nat}{A:KV→Prop}{K:KV} (k:K undef h nx):bF (.bool false) true h nx A K:=k
theorem aL {w:Bool}{h:T Obj}{nx:Nat}{A:KV→Prop}{K:KV} (k:K undef h nx):bF undef w h nx A K:=k
theorem fG {n:Int} (h1:-9223372036854775808≤n) (h2:n≤9223372036854775807):wr .i64 n=n:=by simp[wr,h1,h2]
theorem jV {n:Int} (h1:0≤n) (h2:n≤255):wr .u8 n=n:=by simp[wr,h1,h2]
theorem fZ {n:Int} (h1:0≤n) (h2:n≤18446744073709551615):wr .u64 n=n:=by simp[wr,h1,h2]
theorem dW (k:IntKind) (a b:Int):aP .add (.int k a) (.int k b)=some (.int k (wr k (a+b))):=by simp[aP,uT]
theorem eC (k:IntKind) (a b:Int):aP .sub (.int k a) (.int k b)=some (.int k (wr k (a - b))):=by simp[aP,uT]
theorem d5 (k:IntKind) (a b:Int):aP .mul (.int k a) (.int k b)=some (.int k (wr k (a*b))):=by simp[aP,uT]
theorem eA (k:IntKind) {a b:Int} (ha:0≤a) (hb:0 < b):aP .quo (.int k a) (.int k b)=some (.int k (wr k (a / b))):=by
  have:b≠0:=by omega
  simp[aP,uT,this,Int.tdiv_eq_ediv_of_nonneg ha]
theorem eB (k:IntKind) {a b:Int} (ha:0≤a) (hb:0 < b):aP .rem (.int k a) (.int k b)=some (.int k (a % b)):=by
  have:b≠0:=by omega
  simp[aP,uT,this,Int.tmod_eq_emod_of_nonneg ha]
theorem aW (k:IntKind) (a b:Int):aP .eql (.int k a) (.int k b)=some (.bool (decide (a=b))):=by simp[aP,uT]
theorem aX (k:IntKind) (a b:Int):aP .neq (.int k a) (.int k b)=some (.bool (!decide (a=b))):=by simp[aP,uT]
theorem bA (k:IntKind) (a b:Int):aP .lss (.int k a) (.int k b)=some (.bool (decide (a < b))):=by simp[aP,uT]
theorem a9 (k:IntKind) (a b:Int):aP .leq (.int k a) (.int k b)=some (.bool (decide (a≤b))):=by simp[aP,uT]
theorem aZ (k:IntKind) (a b:Int):aP .gtr (.int k a) (.int k b)=some (.bool (decide (b < a))):=by simp[aP,uT]
theorem aY (k:IntKind) (a b:Int):aP .geq (.int k a) (.int k b)=some (.bool (decide (b≤a))):=by simp[aP,uT]
theorem aRN (k k':IntKind) {a b:Int} (hb:0≤b):aP .shr (.int k a) (.int k' b)=some (.int k (a.fdiv ((2 ^ (min b.toNat k.bits):Nat):Int))):=by simp[aP,aCo,hb]
theorem aRM (k k':IntKind) {a b:Int} (hb:0≤b):aP .shl (.int k a) (.int k' b)=some (.int k (wr k (a*((2 ^ (min b.toNat k.bits):Nat):Int)))):=by simp[aP,aCo,hb]
theorem c8 {a b:Int} (ha:0≤a) (hb:0≤b) (ha':a≤18446744073709551615) (hb':b≤18446744073709551615):aP .and (.int .u64 a) (.int .u64 b)=some (.int .u64 (Nat.land a.toNat b.toNat:Nat)):=by simp[aP,uT,aBk,ha,hb,ha',hb']
theorem dR {a b:Int} (ha:0≤a) (hb:0≤b) (ha':a≤18446744073709551615) (hb':b≤18446744073709551615):aP .or (.int .u64 a) (.int .u64 b)=some (.int .u64 (Nat.lor a.toNat b.toNat:Nat)):=by simp[aP,uT,aBk,ha,hb,ha',hb']
theorem dA {a b:Int} (ha:0≤a) (hb:0≤b) (ha':a≤18446744073709551615) (hb':b≤18446744073709551615):aP .xor (.int .u64 a) (.int .u64 b)=some (.int .u64 (Nat.xor a.toNat b.toNat:Nat)):=by simp[aP,uT,aBk,ha,hb,ha',hb']
theorem dQ (k k':IntKind) (n:Int):wB k (.int k' n)=some (.int k (wr k n)):=rfl
theorem fD (b:Bool):unV .not (.bool b)=some (.bool (!b)):=rfl
theorem dN (a b:Bool):aCw .eql (.bool a) (.bool b)=some (.bool (a==b)):=rfl
theorem dO (a b:Bool):aCw .neq (.bool a) (.bool b)=some (.bool (!(a==b))):=rfl
theorem dB (a b:Value):b7 (.bool true) a b=some a:=rfl
theorem cN (a b:Value):b7 (.bool false) a b=some b:=rfl
theorem cL (a:Option Addr) (n c:Nat):bM (.slice a n c)=some (.int .i64 n):=rfl
abbrev at_ (id off z:Nat):Value:=.pointer (some ⟨id,off,some z⟩)
theorem eY (id:Nat):ptr id=at_ id 0 0:=rfl
theorem eT (k id off z:Nat):aT k (at_ id off z)=some (at_ id (off+k) z):=rfl
def qH:Option Obj→Option (List Value)
  | some (.cells c _ _)=>some c.toList
  | _=>none
theorem bO (c:Array Value) (e:TypeId) (f:Nat × Nat):qH (some (.cells c e f))=some c.toList:=rfl
theorem aCU {l:List Value}{off:Nat}{v:Value} (h:l[off]?=some v):(l.drop off).take 1=[v]:=by
  have hl:=(List.getElem?_eq_some_iff.1 h).1
  rw[List.drop_eq_getElem_cons hl]
  have:=(List.getElem?_eq_some_iff.1 h).2
  simp[this]
theorem pR (ro:Ro) (h:T Obj) (id off z n:Nat):cellsAt ro h ⟨id,off,some z⟩ n=(qH (h.get id)).bind fun c=>if off+n≤c.length then some ((c.drop off).take n) else none:=by
  unfold cellsAt qH
  simp only
  cases h.get id with
  | none=>rfl
  | some o =>
    cases o<;>try rfl
    rename_i c e f
    simp only[Option.bind,Array.length_toList]
    by_cases hle:off+n≤c.size
    · rw[if_pos hle,Nat.ble_eq_true_of_le hle]
    · rw[if_neg hle]
      cases hb:Nat.ble (off+n) c.size with
      | true=>exact absurd (Nat.le_of_ble_eq_true hb) hle
      | false=>rfl
theorem dD (ro:Ro) (h:T Obj) (id off z:Nat):load1 ro h (at_ id off z)=(qH (h.get id)).bind fun c=>c[off]?:=by
  unfold load1
  simp only[asP,Option.bind,pR]
  cases hc:qH (h.get id) with
  | none=>rfl
  | some c =>
    simp only
    by_cases hle:off+1≤c.length
    · rw[if_pos hle]
      have hg:c[off]?=some c[off]:=List.getElem?_eq_getElem (by omega)
      rw[aCU hg,hg]
    · rw[if_neg hle,List.getElem?_eq_none (by omega)]
theorem cQ (ro:Ro) (h:T Obj) (n id off z:Nat):loadA ro h n (at_ id off z)=(qH (h.get id)).bind fun c=>if off+n≤c.length then some (.agg ((c.drop off).take n).toArray) else none:=by
  unfold loadA
  simp only[asP,Option.bind,pR]
  cases qH (h.get id) with
  | none=>rfl
  | some c=>by_cases hle:off+n≤c.length<;>simp[hle]
theorem eD (n z id off y:Nat) (k:IntKind) {i:Int} (h0:0≤i) (h1:i < n):ixArr n z (at_ id off y) (.int k i)=some (at_ id (off+i.toNat*z) y):=by
  have hn:nV (.int k i)=some i.toNat:=by simp[nV,h0]
  have:Nat.blt i.toNat n=true:=by simp[Nat.blt]; omega
  simp[ixArr,hn,asP,this,fwd]
theorem Value.cells_agg (cs:Array Value):Value.cells (.agg cs)=cs:=rfl
theorem dP (k:IntKind) (n:Int):Value.cells (.int k n)=#[.int k n]:=rfl
theorem cY (b:Bool):Value.cells (.bool b)=#[.bool b]:=rfl
theorem aJ3 (k k':IntKind) (a:Nat) {b:Int} (hb:0≤b) (hk:b≤k.bits):aP .shr (.int k (a:Int)) (.int k' b)=some (.int k ((a / 2 ^ b.toNat:Nat):Int)):=by
  rw[aRN _ _ hb]
  have:min b.toNat k.bits=b.toNat:=Nat.min_eq_left (by omega)
  rw[this,Int.ofNat_fdiv]
theorem b9 (k':IntKind) (a:Nat) {b:Int} (hb:0≤b) (hk:b≤64):aP .shr (.int .u64 (a:Int)) (.int k' b)=some (.int .u64 ((a / 2 ^ b.toNat:Nat):Int)):=aJ3 _ _ a hb hk
theorem aJ2 (k':IntKind) (a:Nat) {b:Int} (hb:0≤b) (hk:b≤64):aP .shl (.int .u64 (a:Int)) (.int k' b)=some (.int .u64 (wr .u64 ((a*2 ^ b.toNat:Nat):Int))):=by
  rw[aRM _ _ hb]
  have:min b.toNat IntKind.u64.bits=b.toNat:=Nat.min_eq_left (by have:IntKind.u64.bits=64:=rfl; omega)
  rw[this]; simp
theorem bW (k':IntKind) {b:Int} (hb:0≤b) (hk:b < 64):aP .shl (.int .u64 1) (.int k' b)=some (.int .u64 ((2 ^ b.toNat:Nat):Int)):=by
  have h:=aJ2 k' 1 hb (by omega)
  have h2:2 ^ b.toNat < 2 ^ 64:=Nat.pow_lt_pow_right (by decide) (by omega)
  have h3:(((1*2 ^ b.toNat:Nat)):Int)≤18446744073709551615:=by omega
  rw[fZ (by omega) h3,Nat.one_mul] at h
  exact h
def Fr (h:T Obj) (nx:Nat):Prop:=∀ i,nx≤i→h.get i=none
theorem Fr.e:Fr .e 0:=fun _ _=>rfl
theorem Fr.mono {h:T Obj}{n m:Nat} (hf:Fr h n) (hn:n≤m):Fr h m:=fun i hi=>hf i (Nat.le_trans hn hi)
theorem Fr.upd {h:T Obj}{n m i:Nat}{o:Option Obj} (hf:Fr h n) (hn:n≤m) (hi:i < m):Fr (h.upd i o) m:=fun j hj=>by
  rw[T.get_upd_ne _ _ (by omega)]; exact hf j (by omega)
theorem Fr.sub {h h':T Obj}{n:Nat} (hf:Fr h n) (hs:aU h' h):Fr h' n:=fun i hi=>by
  cases e:h'.get i with
  | none=>rfl
  | some o=>have:=hs i o e; rw[hf i hi] at this; cases this
theorem aU.refl (h:T Obj):aU h h:=fun _ _ e=>e
theorem aU.trans {a b c:T Obj} (h1:aU a b) (h2:aU b c):aU a c:=fun k o e=>h2 k o (h1 k o e)
theorem aU.upd {h0 h:T Obj}{i:Nat}{o:Option Obj} (hs:aU h0 h) (hi:h0.get i=none):aU h0 (h.upd i o):=fun k x e=>by
  by_cases hk:k=i
  · subst hk; rw[hi] at e; cases e
  · rw[T.get_upd_ne _ _ hk]; exact hs k x e
theorem aU.new {h0 h:T Obj}{n i:Nat}{o:Option Obj} (hf:Fr h0 n) (hi:n≤i) (hs:aU h0 h):aU h0 (h.upd i o):=hs.upd (hf i hi)
theorem bD {B:PT}{Q:KE} (Inv:Nat→dF→T Obj→Nat→Prop)
    (step:∀ n e h nx,Inv n e h nx→∀ Q':KE,(∀ m e' h' h1 nx',m < n→Inv m e' h' nx'→aU h' h1→Q' .normal e' h1 nx')→(∀ x e' h' nx',x≠.normal→Q x e' h' nx'→Q' x e' h' nx')→B e h nx Q')
    {n:Nat} {e:dF} {h:T Obj} {nx:Nat} (h0:Inv n e h nx):dC B e h nx Q:=by
  refine⟨n+1,?_⟩
  have key:∀ n,(∀ m,m < n→∀ k,m+1≤k→∀ e h nx,Inv m e h nx→aIX B k e h nx Q)→∀ k,n+1≤k→∀ e h nx,Inv n e h nx→aIX B k e h nx Q:=by
    intro n ih k hk e h nx hi
    cases k with
    | zero=>omega
    | succ k =>
      refine step n e h nx hi _ ?_ ?_
      · intro m e' h' h1 nx' hm hi' hs
        exact⟨h',hs,ih m hm k (by omega) _ _ _ hi'⟩
      · intro x e' h' nx' hx hq
        cases x with
        | normal=>exact absurd rfl hx
        | exit i=>exact hq
        | ret=>exact hq
  have all:∀ n,∀ k,n+1≤k→∀ e h nx,Inv n e h nx→aIX B k e h nx Q:=by
    intro n
    induction n using Nat.strongRecOn with
    | _ n ih=>exact key n ih
  exact all n _ (Nat.le_refl _) _ _ _ h0
def aIf (o:Option Obj) (off:Nat) (vs:List Value):Option Obj:=match o with
  | some (.cells c e f)=>if off+vs.length≤c.size then (if vs.all bV=true then some (.cells (over c.toList off vs).toArray e f) else none) else none
  | _=>none
theorem cC {c:Array Value}{e:TypeId}{f:Nat × Nat}{off:Nat}{vs:List Value} (h1:off+vs.length≤c.size) (h2:vs.all bV=true):aIf (some (.cells c e f)) off vs=some (.cells (over c.toList off vs).toArray e f):=by
  simp[aIf,h1,h2]
theorem cS (n:Nat) (h:T Obj) (id off z:Nat) (v:Value):bH n h (at_ id off z) v=if v.cells.size=n then (aIf (h.get id) off v.cells.toList).bind (fun o=>some (h.upd id (some o))) else none:=by
  unfold bH aIf
  simp only[asP,Option.bind]
  by_cases hn:v.cells.size=n
  · rw[if_pos hn,hn,Nat.beq_refl]
    simp only[mF]
    cases h.get id with
    | none=>rfl
    | some o =>
      cases o<;>try rfl
      rename_i c e f
      simp only[Array.length_toList]
      by_cases hle:off+v.cells.size≤c.size
      · rw[if_pos hle,Nat.ble_eq_true_of_le hle]
        cases v.cells.toList.all bV<;>rfl
      · rw[if_neg hle]
        cases hb:Nat.ble (off+v.cells.size) c.size with
        | true=>exact absurd (Nat.le_of_ble_eq_true hb) hle
        | false=>rfl
  · rw[if_neg hn]
    cases hb:Nat.beq v.cells.size n with
    | true=>exact absurd (Nat.eq_of_beq_eq_true hb) hn
    | false=>rfl
theorem aGi {l:List Value}{off:Nat} (v:Value) (h:off < l.length):over l off [v]=l.set off v:=by
  unfold over
  rw[List.set_eq_take_append_cons_drop,if_pos h]
  simp
theorem aLa {l vs:List Value} (h:vs.length=l.length):over l 0 vs=vs:=by
  unfold over
  rw[List.drop_eq_nil_of_le (by omega)]; simp
theorem tl (l:List Value):l.toArray.toList=l:=rfl
theorem ts (l:List Value):l.toArray.size=l.length:=rfl
theorem cE {h:T Obj}{id off z:Nat}{v:Value}{l:List Value}{e:TypeId}{f:Nat × Nat} (hg:h.get id=some (.cells l.toArray e f)) (hi:off < l.length) (hv:bV v=true) (hc:v.cells=#[v]) :
    bH 1 h (at_ id off z) v=some (h.upd id (some (.cells (l.set off v).toArray e f))):=by
  rw[cS,hc,hg,if_pos (show #[v].size=1 from rfl),cC (by simp; omega) (by simp[hv])]
  simp[aGi v hi]
theorem eF {h:T Obj}{id z n:Nat}{v:Value}{l vs:List Value}{e:TypeId}{f:Nat × Nat} (hg:h.get id=some (.cells l.toArray e f)) (hc:v.cells=vs.toArray) (hn:vs.length=n) (hl:l.length=n) (hv:vs.all bV=true) :
    bH n h (at_ id 0 z) v=some (h.upd id (some (.cells vs.toArray e f))):=by
  rw[cS,hc,hg,if_pos (by simpa using hn),cC (by simp; omega) (by simpa using hv)]
  simp[aLa (l:=l) (vs:=vs) (by omega)]
theorem bX {ro:Ro}{h:T Obj}{id z n:Nat}{l:List Value}{e:TypeId}{f:Nat × Nat} (hg:h.get id=some (.cells l.toArray e f)) (hl:l.length=n):loadA ro h n (at_ id 0 z)=some (.agg l.toArray):=by
  rw[cQ,hg]
  subst hl
  simp[qH]
theorem bE {ro:Ro}{h:T Obj}{id off z:Nat}{l:List Value}{e:TypeId}{f:Nat × Nat}{v:Value} (hg:h.get id=some (.cells l.toArray e f)) (hv:l[off]?=some v):load1 ro h (at_ id off z)=some v:=by
  rw[dD,hg]; exact hv
end V
end Go.Proofs.YtjndkdmkecpllaaGreat
noncomputable section
namespace Go.Proofs.YtjndkdmkecpllaaGreat
namespace V
section
variable {α:Type}
def fcN (n:Nat) (k:Nat→α):α:=match n with
  | 0=>k 0
  | m+1=>k (Nat.succ m)
theorem pL (n:Nat) (k:Nat→α):fcN n k=k n:=by cases n<;>rfl
def fcI (n:Int) (k:Int→α):α:=match n with
  | .ofNat m=>fcN m fun m=>k (.ofNat m)
  | .negSucc m=>fcN m fun m=>k (.negSucc m)
theorem aVX (n:Int) (k:Int→α):fcI n k=k n:=by cases n<;>simp[fcI,pL]
def fcA (a:Option Addr) (k:Option Addr→α):α:=match a with
  | none=>k none
  | some a=>fcN a.block fun b=>fcN a.off fun o=>match a.spot with
    | none=>k (some ⟨b,o,none⟩)
    | some z=>fcN z fun z=>k (some ⟨b,o,some z⟩)
theorem aQw (a:Option Addr) (k:Option Addr→α):fcA a k=k a:=by
  cases a with
  | none=>rfl
  | some a=>obtain⟨b,o,s⟩:=a; cases s<;>simp[fcA,pL]
def fcB:List UInt8→(List UInt8→α)→α
  | [],k=>k []
  | b::r,k=>fcN b.toNat fun n=>fcB r fun r=>k (UInt8.ofNat n::r)
theorem aQx:∀ (l:List UInt8) (k:List UInt8→α),fcB l k=k l
  | [],k=>rfl
  | b::r,k=>by rw[fcB,pL,aQx r]; simp
def fcC (v:Value) (k:Value→α):α:=match v with
  | .bool b=>match b with
    | true=>k (.bool true)
    | false=>k (.bool false)
  | .int kd n=>fcI n fun n=>k (.int kd n)
  | .string s=>fcB s.data.toList fun l=>k (.string ⟨⟨l⟩⟩)
  | .pointer a=>fcA a fun a=>k (.pointer a)
  | .slice a l c=>fcA a fun a=>fcN l fun l=>fcN c fun c=>k (.slice a l c)
  | .map r=>match r with
    | none=>k (.map none)
    | some r=>fcN r fun r=>k (.map (some r))
  | v=>k v
theorem aQy (v:Value) (k:Value→α):fcC v k=k v:=by
  cases v with
  | bool b=>cases b<;>rfl
  | int kd n=>simp[fcC,aVX]
  | string s=>simp[fcC,aQx]
  | pointer a=>simp[fcC,aQw]
  | slice a l c=>simp[fcC,aQw,pL]
  | map r=>cases r<;>simp[fcC,pL]
  | _=>rfl
def fcL:List Value→(List Value→α)→α
  | [],k=>k []
  | v::r,k=>fcC v fun v=>fcL r fun r=>k (v::r)
theorem aRA:∀ (l:List Value) (k:List Value→α),fcL l k=k l
  | [],k=>rfl
  | v::r,k=>by rw[fcL,aQy,aRA r]
def fcS:List Value→(List Value→α)→α
  | [],k=>k []
  | v::r,k=>fcS r fun r=>k (v::r)
theorem aJY:∀ (l:List Value) (k:List Value→α),fcS l k=k l
  | [],k=>rfl
  | v::r,k=>by rw[fcS,aJY r]
def aMx (v:Value) (k:Value→α):α:=match v with
  | .agg cs=>fcS cs.toList fun l=>k (.agg ⟨l⟩)
  | v=>fcC v k
theorem aFb (v:Value) (k:Value→α):aMx v k=k v:=by
  cases v with
  | agg cs=>simp[aMx,aJY]
  | _=>simp only[aMx,aQy]
def aT8:List Value→(List Value→α)→α
  | [],k=>k []
  | v::r,k=>aMx v fun v=>aT8 r fun r=>k (v::r)
theorem aOH:∀ (l:List Value) (k:List Value→α),aT8 l k=k l
  | [],k=>rfl
  | v::r,k=>by rw[aT8,aFb,aOH r]
def fcV (v:Value) (k:Value→α):α:=match v with
  | .tuple cs=>aT8 cs.toList fun l=>k (.tuple ⟨l⟩)
  | v=>aMx v k
theorem aJZ (v:Value) (k:Value→α):fcV v k=k v:=by
  cases v with
  | tuple cs=>simp[fcV,aOH]
  | _=>simp only[fcV,aFb]
def fcE:List MapEntry→(List MapEntry→α)→α
  | [],k=>k []
  | e::r,k=>aMx e.key fun a=>aMx e.val fun b=>fcN e.born fun n=>fcE r fun r=>k (⟨a,b,n⟩::r)
theorem aQz:∀ (l:List MapEntry) (k:List MapEntry→α),fcE l k=k l
  | [],k=>rfl
  | v::r,k=>by rw[fcE,aFb,aFb,pL,aQz r]
def fcO (o:Obj) (k:Obj→α):α:=match o with
  | .cells c e f=>fcS c.toList fun l=>k (.cells ⟨l⟩ e f)
  | .map es n=>fcE es.toList fun l=>fcN n fun n=>k (.map ⟨l⟩ n)
  | o=>k o
theorem aVY (o:Obj) (k:Obj→α):fcO o k=k o:=by
  cases o with
  | cells c e f=>simp[fcO,aJY]
  | map es n=>simp[fcO,aQz,pL]
  | _=>rfl
def aTy {β:Type} (o:Option β) (f:Nat):Nat→(T β→α)→α:=Nat.rec (motive:=fun _=>Nat→(T β→α)→α) (fun _ K=>K .e)
  (fun _ ih k K=>Nat.rec (motive:=fun _=>α) (K (.n .e o .e)) (fun k' _=>Bool.rec (motive:=fun _=>α) (ih (Nat.div k' 2) fun r=>K (.n .e none r)) (ih (Nat.div k' 2) fun l=>K (.n l none .e)) (Nat.beq (Nat.mod k' 2) 0)) k) f
theorem aTz {β:Type} (o:Option β):∀ (f g k:Nat) (K:T β→α),k < f→k < g→aTy o f k K=K (T.updF o g .e k):=by
  intro f
  induction f with
  | zero=>intro g k K h; omega
  | succ f ih =>
    intro g k K h1 h2
    cases g with
    | zero=>omega
    | succ g =>
      cases k with
      | zero=>rfl
      | succ k =>
        show Bool.rec (motive:=fun _=>α) (aTy o f (k / 2) fun r=>K (.n .e none r)) (aTy o f (k / 2) fun l=>K (.n l none .e)) (Nat.beq (k % 2) 0)=_
        simp only[T.updF]
        rw[ih g _ _ (by omega) (by omega),ih g _ _ (by omega) (by omega)]
        cases Nat.beq (k % 2) 0<;>rfl
def updT {β:Type} (o:Option β) (t:T β):Nat→(T β→α)→α:=T.rec (motive:=fun _=>Nat→(T β→α)→α) (fun k K=>aTy o (Nat.succ k) k K)
  (fun l v r gl gr k K=>Nat.rec (motive:=fun _=>α) (K (.n l o r)) (fun k' _=>Bool.rec (motive:=fun _=>α) (gr (Nat.div k' 2) fun r=>K (.n l v r)) (gl (Nat.div k' 2) fun l=>K (.n l v r)) (Nat.beq (Nat.mod k' 2) 0)) k) t
theorem aUp {β:Type} (o:Option β) (t:T β):∀ (g k:Nat) (K:T β→α),k < g→updT o t k K=K (T.updF o g t k):=by
  induction t with
  | e=>intro g k K h; exact aTz o _ g k K (Nat.lt_succ_self _) h
  | n l v r ihl ihr =>
    intro g k K h
    cases g with
    | zero=>omega
    | succ g =>
      cases k with
      | zero=>rfl
      | succ k =>
        show Bool.rec (motive:=fun _=>α) (updT o r (k / 2) fun r=>K (.n l v r)) (updT o l (k / 2) fun l=>K (.n l v r)) (Nat.beq (k % 2) 0)=_
        simp only[T.updF]
        rw[ihl g _ _ (by omega),ihr g _ _ (by omega)]
        cases Nat.beq (k % 2) 0<;>rfl
def upK {β:Type} (t:T β) (k:Nat) (o:Option β) (K:T β→α):α:=updT o t k K
theorem aEe {β:Type} (t:T β) (k:Nat) (o:Option β) (K:T β→α):upK t k o K=K (t.upd k o):=aUp o t _ k K (Nat.lt_succ_self _)
end
def bB {α:Type} (o:Option α) (K:α→Bool):Bool:=match o with
  | some a=>K a
  | none=>false
theorem fS {α:Type}{o:Option α}{K:α→Bool} (h:bB o K=true):∃ a,o=some a∧K a=true:=by
  cases o with
  | none=>cases h
  | some a=>exact⟨a,rfl,h⟩
abbrev KB:=Value→T Obj→Nat→Bool
abbrev sC:=FuncId→List Value→T Obj→Nat→KB→Bool
def aP7 (less:Bool):Value→List Value→Option Value
  | .int k x,[]=>some (.int k x)
  | .int k x,.int k' y::r=>aP7 less (.int k (match less,decide (y < x),decide (x < y) with
    | true,true,_=>y
    | true,false,_=>x
    | false,_,true=>y
    | false,_,false=>x)) r
  | _,_=>none
termination_by structural _ l=>l
theorem aTu (less:Bool):∀ (l:List Value) (v:Value),zN less (v::l)=aP7 less v l:=by
  intro l
  induction l with
  | nil=>intro v; cases v<;>simp[zN,aP7]
  | cons y r ih =>
    intro v
    cases v<;>cases y<;>(conv=>lhs; unfold zN)<;>simp only[aP7,ih]
    rename_i k1 n1 k2 n2
    cases less<;>cases decide (n2 < n1)<;>cases decide (n1 < n2)<;>rfl
def aRd (less:Bool):List Value→Option Value
  | []=>none
  | v::l=>aP7 less v l
theorem aJ8 (less:Bool) (l:List Value):zN less l=aRd less l:=by
  cases l with
  | nil=>simp[zN,aRd]
  | cons v l=>exact aTu less l v
def aUI (P:Program) (ro:Ro) (t:T Value) (h:T Obj) (aid:Nat) (op:Op):Option (Value × Option Obj):=match op with
  | .call { callee:=.builtin .min,args,.. }=>(aAL t args.toList).bind fun vs=>(aRd true vs).bind fun v=>some (v,none)
  | .call { callee:=.builtin .max,args,.. }=>(aAL t args.toList).bind fun vs=>(aRd false vs).bind fun v=>some (v,none)
  | op=>kD P ro t h aid op
theorem aUJ (P:Program) (ro:Ro) (t:T Value) (h:T Obj) (aid:Nat) (op:Op):aUI P ro t h aid op=kD P ro t h aid op:=by
  unfold aUI
  split
  · simp only[kD,iT,aJ8]
  · simp only[kD,iT,aJ8]
  · rfl
def aHi:List Value→Nat→List Value→(List Value→Bool)→Bool
  | l,0,[],k=>k l
  | _::r,0,v::vs,k=>aHi r 0 vs fun r=>k (v::r)
  | [],0,_::_,_=>false
  | x::r,n+1,vs,k=>fcN n fun n=>aHi r n vs fun r=>k (x::r)
  | [],_+1,_,_=>false
theorem aJl:∀ (l:List Value) (n:Nat) (vs:List Value) (k:List Value→Bool),aHi l n vs k=if n+vs.length≤l.length then k (over l n vs) else false
  | [],0,[],k=>by simp[aHi,over]
  | x::r,0,[],k=>by simp[aHi,over]
  | x::r,0,v::vs,k=>by
    rw[aHi,aJl r 0 vs]
    simp[over]
  | [],0,_::_,k=>by simp[aHi]
  | x::r,n+1,vs,k=>by
    rw[aHi,pL,aJl r n vs]
    have e:n+1+vs.length≤(x::r).length ↔ n+vs.length≤r.length:=by simp; omega
    by_cases h:n+vs.length≤r.length
    · rw[if_pos h,if_pos (e.2 h)]
      have:n+1+vs.length=(n+vs.length)+1:=by omega
      simp[over,this]
    · rw[if_neg h,if_neg (fun h2=>h (e.1 h2))]
  | [],n+1,vs,k=>by simp[aHi]
def aDp (h:T Obj) (a:Addr) (vs:List Value) (K:T Obj→Bool):Bool :=
  match a.spot with
  | none=>false
  | some _=>match h.get a.block with
    | some (.cells c e f)=>match vs.all bV with
      | true=>aHi c.toList a.off vs fun l=>upK h a.block (some (.cells ⟨l⟩ e f)) K
      | false=>false
    | _=>false
theorem aFU {h:T Obj}{a:Addr}{vs:List Value}{K:T Obj→Bool}:aDp h a vs K=bB (mF h a vs) K:=by
  unfold aDp mF
  cases a.spot with
  | none=>rfl
  | some z =>
    cases h.get a.block with
    | none=>rfl
    | some o =>
      cases o<;>try rfl
      simp only[aJl,aEe,Array.length_toList]
      rename_i c e f
      by_cases hb:a.off+vs.length≤c.size
      · rw[if_pos hb,Nat.ble_eq_true_of_le hb]
        cases vs.all bV<;>rfl
      · rw[if_neg hb]
        have:Nat.ble (a.off+vs.length) c.size=false:=by
          cases hq:Nat.ble (a.off+vs.length) c.size with
          | false=>rfl
          | true=>exact absurd (Nat.le_of_ble_eq_true hq) hb
        rw[this]
        cases vs.all bV<;>rfl
def aUC:List Value→Nat→(Value→Bool)→Bool
  | x::_,0,k=>k x
  | _::r,n+1,k=>aUC r n k
  | [],_,_=>false
theorem aOS:∀ (l:List Value) (n:Nat) (k:Value→Bool),aUC l n k=bB l[n]? k
  | x::_,0,k=>rfl
  | _::r,n+1,k=>by rw[aUC,aOS r n]; rfl
  | [],n,k=>by cases n<;>rfl
def aWT (l:List Value):Nat→(Value→Bool)→Bool:=List.rec (motive:=fun _=>Nat→(Value→Bool)→Bool) (fun _ _=>false) (fun x _ ih n k=>Nat.rec (motive:=fun _=>Bool) (k x) (fun m _=>ih m k) n) l
theorem aOT:∀ (l:List Value) (n:Nat) (k:Value→Bool),aWT l n k=aUC l n k
  | [],n,k=>rfl
  | x::_,0,k=>rfl
  | _::r,n+1,k=>aOT r n k
def aHW:List Value→Nat→(List Value→Bool)→Bool
  | _,0,k=>k []
  | x::r,n+1,k=>aHW r n fun r=>k (x::r)
  | [],_+1,_=>false
theorem aHX:∀ (l:List Value) (n:Nat) (k:List Value→Bool),aHW l n k=if n≤l.length then k (l.take n) else false
  | l,0,k=>by cases l<;>simp[aHW]
  | x::r,n+1,k=>by
    rw[aHW,aHX r n]
    by_cases h:n≤r.length
    · rw[if_pos h,if_pos (by simp; omega)]; simp
    · rw[if_neg h,if_neg (by simp; omega)]
  | [],n+1,k=>by simp[aHW]
def aOO:List Value→Nat→Bool
  | [],0=>true
  | _::r,n+1=>aOO r n
  | _,_=>false
theorem aLC:∀ {l:List Value}{n:Nat},aOO l n=true→l.length=n
  | [],0,_=>rfl
  | _::r,n+1,h=>by rw[List.length_cons,aLC (l:=r) h]
  | [],_+1,h=>by cases h
  | _::_,0,h=>by cases h
def aIQ:List Value→Nat→(List Value→Bool)→Bool
  | l,0,k=>k l
  | _::r,n+1,k=>aIQ r n k
  | [],_+1,_=>false
theorem aKi:∀ (l:List Value) (n:Nat) (k:List Value→Bool),aIQ l n k=if n≤l.length then k (l.drop n) else false
  | l,0,k=>by cases l<;>simp[aIQ]
  | _::r,n+1,k=>by
    rw[aIQ,aKi r n]
    by_cases h:n≤r.length
    · rw[if_pos h,if_pos (by simp; omega)]; rfl
    · rw[if_neg h,if_neg (by simp; omega)]
  | [],n+1,k=>by simp[aIQ]
def aMi (ro:Ro) (h:T Obj) (a:Addr) (n:Nat) (K:List Value→Bool):Bool :=
  match a.spot with
  | none=>bB (cellsAt ro h a n) K
  | some _=>match h.get a.block with
    | some (.cells c _ _)=>match a.off with
      | 0=>match aOO c.toList n with
        | true=>K c.toList
        | false=>aHW c.toList n K
      | off+1=>aIQ c.toList (Nat.succ off) fun l=>aHW l n K
    | _=>false
theorem aOt {ro:Ro}{h:T Obj}{a:Addr}{n:Nat}{K:List Value→Bool}:aMi ro h a n K=bB (cellsAt ro h a n) K:=by
  unfold aMi cellsAt
  cases a.spot with
  | none=>rfl
  | some z =>
    cases h.get a.block with
    | none=>rfl
    | some o =>
      cases o<;>try rfl
      rename_i c e f
      have key:(if a.off+n≤c.size then K ((c.toList.drop a.off).take n) else false)=bB (match Nat.ble (a.off+n) c.size with | true=>some ((c.toList.drop a.off).take n) | false=>none) K:=by
        by_cases hb:a.off+n≤c.size
        · rw[if_pos hb,Nat.ble_eq_true_of_le hb]; rfl
        · rw[if_neg hb]
          have:Nat.ble (a.off+n) c.size=false:=by
            cases hq:Nat.ble (a.off+n) c.size with
            | false=>rfl
            | true=>exact absurd (Nat.le_of_ble_eq_true hq) hb
          rw[this]; rfl
      refine Eq.trans ?_ key
      simp only
      cases ho:a.off with
      | zero =>
        simp only[Nat.zero_add,List.drop_zero]
        cases hl:aOO c.toList n with
        | true =>
          have:=aLC hl
          rw[if_pos (by simpa using Nat.le_of_eq this.symm),List.take_of_length_le (by omega)]
        | false=>simp only[aHX,Array.length_toList]
      | succ off =>
        simp only[aKi,aHX,List.length_drop,Array.length_toList]
        by_cases h1:off+1≤c.size
        · rw[if_pos h1]
          by_cases h2:n≤c.size - (off+1)
          · rw[if_pos h2,if_pos (by omega)]
          · rw[if_neg h2,if_neg (by omega)]
        · rw[if_neg h1,if_neg (by omega)]
def aRZ (P:Program) (ro:Ro) (h:T Obj) (t:TypeId) (a:Addr) (K:Value→Bool):Bool :=
  match isAgg P t with
  | some true=>bB (pD P t) fun n=>aMi ro h a n fun l=>K (.agg ⟨l⟩)
  | some false=>match a.spot with
    | none=>bB (pU P ro h t a) K
    | some _=>match h.get a.block with
      | some (.cells c _ _)=>aWT c.toList a.off K
      | _=>false
  | none=>false
theorem aR0 {P:Program}{ro:Ro}{h:T Obj}{t:TypeId}{a:Addr}{K:Value→Bool}:aRZ P ro h t a K=bB (pU P ro h t a) K:=by
  obtain⟨b,o,s⟩:=a
  unfold aRZ
  cases hi:isAgg P t with
  | none=>simp only[pU,hi]; rfl
  | some x =>
    cases x with
    | true =>
      simp only[pU,hi]
      cases pD P t with
      | none=>rfl
      | some n =>
        simp only[bB,Option.bind_some]
        rw[aOt]
        cases cellsAt ro h ⟨b,o,s⟩ n<;>rfl
    | false =>
      cases s with
      | none=>rfl
      | some z =>
        simp only
        have e:pU P ro h t ⟨b,o,some z⟩=load1 ro h (at_ b o z):=by
          simp only[pU,hi]; rfl
        rw[e,dD]
        cases h.get b with
        | none=>rfl
        | some x =>
          cases x<;>try rfl
          simp only[aOT,aOS]; rfl
def aNi (P:Program) (h:T Obj) (t:TypeId) (a v:Value) (K:T Obj→Bool):Bool :=
  match a with
  | .pointer (some a)=>bB (pD P t) fun n=>match Nat.beq v.cells.size n with
    | true=>aDp h a v.cells.toList K
    | false=>false
  | _=>false
theorem aQS {P:Program}{h:T Obj}{t:TypeId}{a v:Value}{K:T Obj→Bool}:aNi P h t a v K=bB (aBT P h t a v) K:=by
  unfold aNi aBT
  cases a<;>try rfl
  rename_i a
  cases a with
  | none=>rfl
  | some a =>
    cases pD P t with
    | none=>rfl
    | some n =>
      simp only[bB,Option.bind]
      cases Nat.beq v.cells.size n with
      | true=>exact aFU
      | false=>rfl
def apB (r:Value × T Obj × Nat) (K:KB):Bool:=fcV r.1 fun v=>fcN r.2.2 fun n=>K v r.2.1 n
theorem aVM (r:Value × T Obj × Nat) (K:KB):apB r K=K r.1 r.2.1 r.2.2:=by simp[apB,aJZ,pL]
def aJE (P:Program) (ro:Ro) (h:T Obj) (nx:Nat) (ts:Array TypeId) (vs:List Value) (K:KB):Bool :=
  match ts[0]?,ts[1]?,vs with
  | some t0,some t1,[.slice base len cap,x]=>match gG P t0 with
    | some (.slice e)=>bB (tin P e) fun i=>bB (aHy P ro h e i.size i.bytes t1 x) fun s =>
      match Nat.ble (len+s.1) cap with
      | true=>match s.1 with
        | 0=>K (.slice base len cap) h nx
        | _+1=>match base with
          | none=>false
          | some a=>match a.spot with
            | none=>false
            | some z=>match Nat.beq z i.size with
              | true=>aDp h (fwd a (len*i.size)) s.2 fun h=>fcN (len+s.1) fun n=>K (.slice base n cap) h nx
              | false=>false
      | false=>bB (i8 P e) fun zv=>match Nat.ble ((len+s.1)*i.bytes) oB,Nat.ble (len+s.1) oB,Nat.blt 0 i.size,Nat.beq zv.cells.size i.size&&s.2.all bV with
        | true,true,true,true=>bB (aLY ro h i.size base len) fun p =>
            fcS (p.1++s.2) fun l=>fcN (len+s.1) fun n=>upK p.2 nx (some (.cells ⟨l⟩ e)) fun h=>fcN (nx+1) fun nx'=>K (.slice (some (own nx i.size)) n n) h nx'
        | _,_,_,_=>false
    | _=>false
  | _,_,_=>false
theorem aMc {P:Program}{ro:Ro}{h:T Obj}{nx:Nat}{ts:Array TypeId}{vs:List Value}{K:KB}:aJE P ro h nx ts vs K=bB (bY P ro h nx ts vs) fun r=>K r.1 r.2.1 r.2.2:=by
  unfold aJE bY
  cases ts[0]? with
  | none=>rfl
  | some t0 =>
    cases ts[1]? with
    | none=>rfl
    | some t1 =>
      match vs with
      | [.slice base len cap,x] =>
        simp only
        cases gG P t0 with
        | none=>rfl
        | some d =>
          cases d<;>try rfl
          rename_i e
          simp only
          cases tin P e with
          | none=>rfl
          | some i =>
            simp only[bB,Option.bind_some]
            cases aHy P ro h e i.size i.bytes t1 x with
            | none=>rfl
            | some s =>
              simp only[Option.bind_some]
              cases Nat.ble (len+s.1) cap with
              | true =>
                simp only
                cases s.1 with
                | zero=>rfl
                | succ q =>
                  cases base with
                  | none=>rfl
                  | some a =>
                    simp only
                    cases a.spot with
                    | none=>rfl
                    | some z =>
                      simp only
                      cases Nat.beq z i.size with
                      | true =>
                        simp only[aFU,pL]
                        cases mF h (fwd a (len*i.size)) s.2<;>rfl
                      | false=>rfl
              | false =>
                simp only
                cases i8 P e with
                | none=>rfl
                | some zv =>
                  simp only[Option.bind_some]
                  cases Nat.ble ((len+s.1)*i.bytes) oB<;>cases Nat.ble (len+s.1) oB<;>cases Nat.blt 0 i.size<;>cases Nat.beq zv.cells.size i.size&&s.2.all bV<;>try rfl
                  simp only
                  cases aLY ro h i.size base len with
                  | none=>rfl
                  | some p=>simp only[aJY,pL,aEe]; rfl
      | []=>rfl
      | [v]=>cases v<;>rfl
      | .bool _::_::_ | .int _ _::_::_ | .float _ _::_::_ | .complex _ _ _::_::_ | .string _::_::_ | .pointer _::_::_ | .map _::_::_ | .chan _::_::_ | .func _ _ _::_::_ | .nilFunc::_::_ | .iface _ _::_::_ | .nilIface::_::_ | .agg _::_::_ | .tuple _::_::_=>rfl
      | .slice _ _ _::_::_::_=>rfl
def aWX (P:Program) (ro:Ro) (C:sC) (t:T Value) (h:T Obj) (nx:Nat) (op:Op) (K:KB):Bool :=
  match op with
  | .store ty a x=>bB (evl t a) fun av=>bB (evl t x) fun xv=>aNi P h ty av xv fun h'=>K undef h' nx
  | .mapUpdate ty m k x | .insert ty m k x=>bB (evl t m) fun mv=>bB (evl t k) fun kv=>bB (evl t x) fun xv=>bB (zM P h ty mv kv xv) fun h'=>K undef h' nx
  | .call { callee:=.builtin b,args,argTypes }=>bB (aAL t args.toList) fun vs=>match b with
    | .append=>aJE P ro h nx argTypes vs K
    | .copy=>bB (aGF P ro h nx argTypes vs) fun r=>apB r K
    | .clear=>match vs,argTypes[0]? with
      | [m],some ty=>bB (gG P ty) fun _=>bB (aC3 h m) fun h=>K (.tuple #[]) h nx
      | _,_=>false
    | _=>false
  | .call { callee:=.value f,args,.. }=>bB (evl t f) fun f=>bB (aAL t args.toList) fun vs=>match f with
    | .func (.func k) a b=>C k (a.toList++vs++b.toList) h nx K
    | _=>false
  | .convert s d x=>bB (evl t x) fun v=>bB (yE P h s d v) fun r=>K r.1 r.2 nx
  | _=>false
def aTP (h:T Obj) (id:Nat) (o:Option Obj) (K:T Obj→Bool):Bool:=match o with
  | none=>K h
  | some o=>fcO o fun o=>upK h id (some o) K
theorem aTQ (h:T Obj) (id:Nat) (o:Option Obj) (K:T Obj→Bool):aTP h id o K=K (aCW h id o):=by
  cases o with
  | none=>rfl
  | some o=>simp[aTP,aCW,aVY,aEe]
def aSH (P:Program) (ro:Ro) (C:sC) (t:T Value) (h:T Obj) (nx aid:Nat) (op:Op) (K:KB):Bool :=
  match iN op with
  | true=>aWX P ro C t h nx op K
  | false=>match op with
    | .load ty x=>bB (evl t x) fun v=>match v with
      | .pointer (some a)=>aRZ P ro h ty a fun v=>K v h nx
      | _=>false
    | .move x=>bB (evl t x) fun v=>K v h nx
    | .assign x=>bB (evl t x) fun v=>K v h nx
    | op=>bB (aUI P ro t h aid op) fun r=>fcV r.1 fun v=>aTP h aid r.2 fun h'=>K v h' nx
def aLl (n:Nat) (t:T Value) (dst:Option Tmp) (v:Value) (K:T Value→Bool):Bool :=
  match dst with
  | none=>K t
  | some d=>match Nat.blt d n with
    | true=>upK t d (some v) K
    | false=>false
theorem aBa {n:Nat}{t:T Value}{dst:Option Tmp}{v:Value}{K:T Value→Bool} (h:aLl n t dst v K=true):∃ t',put n t dst v=some t'∧K t'=true:=by
  unfold aLl at h
  cases dst with
  | none=>exact⟨t,rfl,h⟩
  | some d =>
    simp only at h
    split at h
    · rename_i hb
      rw[aEe] at h
      exact⟨_,by simp only[put]; rw[hb],h⟩
    · cases h
def aNQ (P:Program) (ro:Ro) (C:sC) (n:Nat) (ops:Array Oper):List Oper→T Value→T Obj→Nat→(T Value→T Obj→Nat→Bool)→Bool
  | [],t,h,nx,Q=>Q t h nx
  | o::r,t,h,nx,Q=>match wanted ops t o with
    | true=>fcN (nx+1) fun nx1=>aSH P ro C t h nx1 nx o.op fun v h' nx'=>aLl n t o.dst v fun t'=>aNQ P ro C n ops r t' h' nx' Q
    | false=>aLl n t o.dst undef fun t'=>aNQ P ro C n ops r t' h nx Q
def aVi (P:Program) (ro:Ro) (C:sC) (n:Nat) (ops:Array Oper) (l:List Oper):T Value→T Obj→Nat→(T Value→T Obj→Nat→Bool)→Bool:=List.rec (motive:=fun _=>T Value→T Obj→Nat→(T Value→T Obj→Nat→Bool)→Bool) (fun t h nx Q=>Q t h nx)
  (fun o _ ih t h nx Q=>Bool.rec (motive:=fun _=>Bool) (aLl n t o.dst undef fun t'=>ih t' h nx Q) (fcN (nx+1) fun nx1=>aSH P ro C t h nx1 nx o.op fun v h' nx'=>aLl n t o.dst v fun t'=>ih t' h' nx' Q) (wanted ops t o)) l
theorem aOU (P:Program) (ro:Ro) (C:sC) (n:Nat) (ops:Array Oper):∀ l:List Oper,aVi P ro C n ops l=aNQ P ro C n ops l
  | []=>rfl
  | o::r=>by
    funext t h nx Q
    have ih:=aOU P ro C n ops r
    simp only[aNQ]
    rw[← ih]
    show Bool.rec (motive:=fun _=>Bool) _ _ (wanted ops t o)=_
    cases wanted ops t o<;>rfl
def aTO (a b:Option Addr):Bool:=match a,b with
  | none,none=>true
  | some a,some b=>Nat.beq a.block b.block&&Nat.beq a.off b.off&&(match a.spot,b.spot with
    | none,none=>true
    | some x,some y=>Nat.beq x y
    | _,_=>false)
  | _,_=>false
theorem aNq {a b:Option Addr} (h:aTO a b=true):a=b:=by
  unfold aTO at h
  split at h
  · rfl
  · rename_i a b
    obtain⟨b1,o1,s1⟩:=a
    obtain⟨b2,o2,s2⟩:=b
    simp only[Bool.and_eq_true] at h
    obtain⟨⟨h1,h2⟩,h3⟩:=h
    have:=Nat.eq_of_beq_eq_true h1
    have:=Nat.eq_of_beq_eq_true h2
    subst_vars
    split at h3
    · simp_all
    · have:=Nat.eq_of_beq_eq_true h3; simp_all
    · cases h3
  · cases h
def aJM (a b:Value):Bool:=match a,b with
  | .bool x,.bool y=>x==y
  | .int k x,.int k' y=>decide (k=k')&&decide (x=y)
  | .string x,.string y=>x.data.toList==y.data.toList
  | .pointer x,.pointer y=>aTO x y
  | .slice x l c,.slice y l' c'=>aTO x y&&Nat.beq l l'&&Nat.beq c c'
  | .map none,.map none=>true
  | .map (some x),.map (some y)=>Nat.beq x y
  | .nilFunc,.nilFunc=>true
  | .nilIface,.nilIface=>true
  | _,_=>false
theorem aIK {a b:Value} (h:aJM a b=true):a=b:=by
  unfold aJM at h
  split at h
  · simp_all
  · simp_all
  · rename_i x y
    obtain⟨⟨x⟩⟩:=x
    obtain⟨⟨y⟩⟩:=y
    simp_all
  · rw[aNq h]
  · simp only[Bool.and_eq_true] at h
    obtain⟨⟨h1,h2⟩,h3⟩:=h
    rw[aNq h1,Nat.eq_of_beq_eq_true h2,Nat.eq_of_beq_eq_true h3]
  · rfl
  · rw[Nat.eq_of_beq_eq_true h]
  · rfl
  · rfl
  · cases h
def aCx:List Value→List Value→Bool
  | [],[]=>true
  | a::r,b::s=>aJM a b&&aCx r s
  | _,_=>false
theorem aC2:∀ {l m:List Value},aCx l m=true→l=m
  | [],[],_=>rfl
  | a::r,b::s,h=>by
    simp only[aCx,Bool.and_eq_true] at h
    rw[aIK h.1,aC2 h.2]
  | [],_::_,h=>by cases h
  | _::_,[],h=>by cases h
def aH0 (a b:Value):Bool:=match a,b with
  | .agg x,.agg y=>aCx x.toList y.toList
  | a,b=>aJM a b
theorem aEf {a b:Value} (h:aH0 a b=true):a=b:=by
  unfold aH0 at h
  split at h
  · rename_i x y
    obtain⟨x⟩:=x
    obtain⟨y⟩:=y
    have:=aC2 h
    simp_all
  · exact aIK h
def aOE:List MapEntry→List MapEntry→Bool
  | [],[]=>true
  | a::r,b::s=>aH0 a.key b.key&&aH0 a.val b.val&&Nat.beq a.born b.born&&aOE r s
  | _,_=>false
theorem aKl:∀ {l m:List MapEntry},aOE l m=true→l=m
  | [],[],_=>rfl
  | a::r,b::s,h=>by
    simp only[aOE,Bool.and_eq_true] at h
    obtain⟨a1,a2,a3⟩:=a
    obtain⟨b1,b2,b3⟩:=b
    have h1:=aEf h.1.1.1
    have h2:=aEf h.1.1.2
    have h3:=Nat.eq_of_beq_eq_true h.1.2
    have h4:=aKl h.2
    simp only at h1 h2 h3
    subst h1; subst h2; subst h3; rw[h4]
  | [],_::_,h=>by cases h
  | _::_,[],h=>by cases h
def aRy (a b:Option Obj):Bool:=match a,b with
  | some (.cells x e f),some (.cells y e' f')=>Nat.beq e e'&&(Nat.beq f.1 f'.1&&Nat.beq f.2 f'.2)&&aCx x.toList y.toList
  | some (.map x n),some (.map y n')=>Nat.beq n n'&&aOE x.toList y.toList
  | _,_=>false
theorem aRz {a b:Option Obj} (h:aRy a b=true):a=b∧a.isSome=true:=by
  unfold aRy at h
  split at h
  · rename_i x e f y e' f'
    obtain⟨x⟩:=x
    obtain⟨y⟩:=y
    obtain⟨f1,f2⟩:=f
    obtain⟨f1',f2'⟩:=f'
    simp only[Bool.and_eq_true] at h
    have h1:e=e':=Nat.eq_of_beq_eq_true h.1.1
    have h2:f1=f1':=Nat.eq_of_beq_eq_true h.1.2.1
    have h3:f2=f2':=Nat.eq_of_beq_eq_true h.1.2.2
    have h4:x=y:=aC2 h.2
    subst h1; subst h2; subst h3; subst h4; exact⟨rfl,rfl⟩
  · rename_i x n y n'
    obtain⟨x⟩:=x
    obtain⟨y⟩:=y
    simp only[Bool.and_eq_true] at h
    have h1:n=n':=Nat.eq_of_beq_eq_true h.1
    have h2:x=y:=aKl h.2
    subst h1; subst h2; exact⟨rfl,rfl⟩
  · cases h
def aSj (b:Nat) (h h':T Obj):Bool:=aRy (h.get b) (h'.get b)
theorem aHP {b:Nat}{h h':T Obj} (e:aSj b h h'=true):same b h h':=aRz e
def aQ3 (b:List Nat) (i:Nat) (h h':T Obj):List (Nat × Nat)→Bool
  | []=>true
  | l::r=>match yJ b l.1 i with
    | true=>aSj l.2 h h'&&aQ3 b i h h' r
    | false=>aQ3 b i h h' r
theorem aFn {b:List Nat}{i:Nat}{h h':T Obj}:∀ {ls:List (Nat × Nat)},aQ3 b i h h' ls=true→∀ l∈ls,yJ b l.1 i=true→same l.2 h h'
  | [],_,l,hl,_=>by cases hl
  | a::r,e,l,hl,hf=>by
    unfold aQ3 at e
    rcases List.mem_cons.1 hl with rfl | hl
    · rw[hf] at e
      simp only[Bool.and_eq_true] at e
      exact aHP e.1
    · split at e
      · simp only[Bool.and_eq_true] at e
        exact aFn e.2 l hl hf
      · exact aFn e l hl hf
def aQ4 (b:List Nat) (i a:Nat):List (Nat × T Obj × T Obj)→Bool
  | []=>true
  | m::r=>match yJ b m.1 i with
    | true=>aSj a m.2.1 m.2.2&&aQ4 b i a r
    | false=>aQ4 b i a r
theorem aFo {b:List Nat}{i a:Nat}:∀ {ms:List (Nat × T Obj × T Obj)},aQ4 b i a ms=true→∀ m∈ms,yJ b m.1 i=true→same a m.2.1 m.2.2
  | [],_,l,hl,_=>by cases hl
  | x::r,e,l,hl,hf=>by
    unfold aQ4 at e
    rcases List.mem_cons.1 hl with rfl | hl
    · rw[hf] at e
      simp only[Bool.and_eq_true] at e
      exact aHP e.1
    · split at e
      · simp only[Bool.and_eq_true] at e
        exact aFo e.2 l hl hf
      · exact aFo e l hl hf
def aD3 (P:Program) (ro:Ro) (C:sC) (n:Nat) (ops:Array Oper) (b:List Nat) (n0:Nat):List Oper→Nat→List (Nat × Nat)→List (Nat × T Obj × T Obj)→T Value→T Obj→Nat→(T Value→T Obj→Nat→Bool)→Bool
  | [],_,_,_,t,h,nx,Q=>Q t h nx
  | o::r,i,ls,ms,t,h,nx,Q=>match wanted ops t o with
    | true=>fcN (n0+i) fun aid=>aSH P ro C t h nx aid o.op fun v h' nx'=>aLl n t o.dst v fun t'=>match iN o.op with
      | true=>aQ3 b i h h' ls&&aD3 P ro C n ops b n0 r (i+1) ls ((i,h,h')::ms) t' h' nx' Q
      | false=>match rdB P t o.op with
        | some a=>aQ4 b i a ms&&aD3 P ro C n ops b n0 r (i+1) ((i,a)::ls) ms t' h' nx' Q
        | none=>aD3 P ro C n ops b n0 r (i+1) ls ms t' h' nx' Q
    | false=>aLl n t o.dst undef fun t'=>aD3 P ro C n ops b n0 r (i+1) ls ms t' h nx Q
def aJI (ops:Array Oper):List Nat:=CheckFast.beforeL ops.toList 0 []
theorem aTV (ops:Array Oper):aJI ops=(bef ops).toList:=by
  have:=CheckFast.beforeF_eq ops
  unfold aJI bef
  rw[← this]; rfl
abbrev QB:=Ex→T Value→T Obj→Nat→Bool
def aLN (B:T Value→T Obj→Nat→QB→Bool):Nat→T Value→T Obj→Nat→QB→Bool
  | 0,_,_,_,_=>false
  | k+1,t,h,nx,Q=>B t h nx fun x t h nx=>match x with
    | .normal=>aLN B k t h nx Q
    | .exit i=>Q (.exit i) t h nx
    | .ret=>Q .ret t h nx
def tC (P:Program) (ro:Ro) (C:sC) (n:Nat):Code→T Value→T Obj→Nat→QB→Bool
  | .skip,t,h,nx,Q=>Q .normal t h nx
  | .label _,t,h,nx,Q=>Q .normal t h nx
  | .ret,t,h,nx,Q=>Q .ret t h nx
  | .exit id,t,h,nx,Q=>Q (.exit id) t h nx
  | .seq a b,t,h,nx,Q=>tC P ro C n a t h nx fun x t h nx=>match x with
    | .normal=>tC P ro C n b t h nx Q
    | .exit i=>Q (.exit i) t h nx
    | .ret=>Q .ret t h nx
  | .cond c a b,t,h,nx,Q=>bB (evl t c) fun v=>match v with
    | .bool true=>tC P ro C n a t h nx Q
    | .bool false=>tC P ro C n b t h nx Q
    | _=>false
  | .block id b,t,h,nx,Q=>tC P ro C n b t h nx fun x t h nx=>match x with
    | .normal=>Q .normal t h nx
    | .exit i=>match Nat.beq i id with
      | true=>Q .normal t h nx
      | false=>Q (.exit i) t h nx
    | .ret=>Q .ret t h nx
  | .loop b,t,h,nx,Q=>aLN (tC P ro C n b) 100000 t h nx Q
  | .scope b,t,h,nx,Q=>tC P ro C n b t h nx Q
  | .region _ ops draw,t,h,nx,Q=>match draw with
    | false=>aNQ P ro C n ops ops.toList t h nx (Q .normal)
    | true=>match zC P ops (aJI ops) with
      | true=>fcN (nx+ops.size) fun nx'=>aD3 P ro C n ops (aJI ops) nx ops.toList 0 [] [] t h nx' (Q .normal)
      | false=>false
  | _,_,_,_,_=>false
def aDB (P:Program) (ro:Ro) (C:sC) (n:Nat) (c:Code):T Value→T Obj→Nat→QB→Bool:=Code.rec (motive:=fun _=>T Value→T Obj→Nat→QB→Bool)
  (fun t h nx Q=>Q .normal t h nx)
  (fun _ ops draw t h nx Q=>Bool.rec (motive:=fun _=>Bool) (aVi P ro C n ops ops.toList t h nx (Q .normal))
    (Bool.rec (motive:=fun _=>Bool) false (fcN (nx+ops.size) fun nx'=>aD3 P ro C n ops (aJI ops) nx ops.toList 0 [] [] t h nx' (Q .normal)) (zC P ops (aJI ops))) draw)
  (fun _ _ ia ib t h nx Q=>ia t h nx fun x t h nx=>Ex.rec (motive:=fun _=>Bool) (ib t h nx Q) (fun i=>Q (.exit i) t h nx) (Q .ret t h nx) x)
  (fun c _ _ ia ib t h nx Q=>bB (evl t c) fun v=>match v with
    | .bool true=>ia t h nx Q
    | .bool false=>ib t h nx Q
    | _=>false)
  (fun id _ ib t h nx Q=>ib t h nx fun x t h nx=>Ex.rec (motive:=fun _=>Bool) (Q .normal t h nx) (fun i=>Bool.rec (motive:=fun _=>Bool) (Q (.exit i) t h nx) (Q .normal t h nx) (Nat.beq i id)) (Q .ret t h nx) x)
  (fun _ ib t h nx Q=>aLN ib 100000 t h nx Q)
  (fun _ _ _ _ _ _ _ _ _ _=>false)
  (fun id t h nx Q=>Q (.exit id) t h nx)
  (fun _ ib t h nx Q=>ib t h nx Q)
  (fun _ t h nx Q=>Q .normal t h nx)
  (fun _ _ _ _ _=>false)
  (fun t h nx Q=>Q .ret t h nx) (fun _ _ _ _ _=>false) c
theorem aQm (P:Program) (ro:Ro) (C:sC) (n:Nat) (c:Code):aDB P ro C n c=tC P ro C n c:=by
  induction c with
  | skip=>rfl
  | region id ops draw =>
    funext t h nx Q
    show Bool.rec (motive:=fun _=>Bool) (aVi P ro C n ops ops.toList t h nx (Q .normal)) (Bool.rec (motive:=fun _=>Bool) false (fcN (nx+ops.size) fun nx'=>aD3 P ro C n ops (aJI ops) nx ops.toList 0 [] [] t h nx' (Q .normal)) (zC P ops (aJI ops))) draw=_
    rw[aOU]
    simp only[tC]
    cases draw with
    | false=>rfl
    | true=>cases zC P ops (aJI ops)<;>rfl
  | seq a b iha ihb =>
    funext t h nx Q
    show (aDB P ro C n a t h nx fun x t h nx=>Ex.rec (motive:=fun _=>Bool) (aDB P ro C n b t h nx Q) (fun i=>Q (.exit i) t h nx) (Q .ret t h nx) x)=_
    rw[iha,ihb]
    simp only[tC]
    congr 1
    funext x t h nx
    cases x<;>rfl
  | cond c a b iha ihb =>
    funext t h nx Q
    show (bB (evl t c) fun v=>match v with
      | .bool true=>aDB P ro C n a t h nx Q
      | .bool false=>aDB P ro C n b t h nx Q
      | _=>false)=_
    rw[iha,ihb]
    simp only[tC]
  | block id b ihb =>
    funext t h nx Q
    show (aDB P ro C n b t h nx fun x t h nx=>Ex.rec (motive:=fun _=>Bool) (Q .normal t h nx) (fun i=>Bool.rec (motive:=fun _=>Bool) (Q (.exit i) t h nx) (Q .normal t h nx) (Nat.beq i id)) (Q .ret t h nx) x)=_
    rw[ihb]
    simp only[tC]
    congr 1
    funext x t h nx
    cases x with
    | normal=>rfl
    | ret=>rfl
    | exit i=>simp only; cases Nat.beq i id<;>rfl
  | loop b ihb =>
    funext t h nx Q
    show aLN (aDB P ro C n b) 100000 t h nx Q=_
    rw[ihb]
    simp only[tC]
  | rangeFunc=>rfl
  | exit id=>rfl
  | scope b ihb =>
    funext t h nx Q
    show aDB P ro C n b t h nx Q=_
    rw[ihb]
    simp only[tC]
  | label l=>rfl
  | goto l=>rfl
  | ret=>rfl
  | refuse=>rfl
def aJU:List Value→Nat→T Value→(T Value→Bool)→Bool
  | [],_,t,K=>K t
  | v::vs,i,t,K=>upK t i (some v) fun t=>aJU vs (Nat.succ i) t K
theorem aIR:∀ (l:List Value) (i:Nat) (t:T Value) (K:T Value→Bool),aJU l i t K=K (aA6 l i t)
  | [],i,t,K=>rfl
  | v::vs,i,t,K=>by rw[aJU,aEe,aIR vs]; rfl
abbrev aKM:=FuncId→List Value→Option (Nat × Nat × Nat × TypeId × List Value)
abbrev aVJ:=FuncId→List Value→T Obj→Nat→Option (Value × T Obj × Nat)
def noM:aVJ:=fun _ _ _ _=>none
def aNw (P:Program) (ro:Ro) (O:aKM) (M:aVJ):Nat→sC
  | 0,_,_,_,_,_=>false
  | k+1,f,args,h,nx,K=>match M f args h nx with
   | some r=>K r.1 r.2.1 r.2.2
   | none=>match O f args with
   | some (z,l,c,e,cs)=>fcN z fun z=>fcN l fun l=>fcN c fun c=>fcL cs fun cs=>upK h nx (some (.cells cs.toArray e)) fun h'=>K (.slice (some ⟨nx,0,some z⟩) l c) h' (Nat.succ nx)
   | none=>bB P.funcs[f]? fun fn=>bB fn.body fun body=>match Nat.ble args.length fn.ntmps with
    | true=>aJU args 0 .e fun t=>aDB P ro (aNw P ro O M k) fn.ntmps body t h nx fun x t h nx=>match x with
      | .exit _=>false
      | .normal=>bB (aE2 P ro h t fn.results.toList) fun vs=>fcV (aDi vs) fun v=>K v h nx
      | .ret=>bB (aE2 P ro h t fn.results.toList) fun vs=>fcV (aDi vs) fun v=>K v h nx
    | false=>false
abbrev aNv (P:Program) (ro:Ro) (O:aKM):Nat→sC:=aNw P ro O noM
section
variable {P:Program}{ro:Ro}
def aFj (P:Program) (ro:Ro) (C:sC):Prop:=∀ f args h nx K,C f args h nx K=true→∃ k v h' nx',call P ro k f args h nx v h' nx'∧K v h' nx'=true
theorem aNO {C:sC} (hC:aFj P ro C) {t:T Value}{h:T Obj}{nx:Nat}{op:Op}{K:KB} (hl:aWX P ro C t h nx op K=true) :
    ∃ k v h' nx',opL P ro (call P ro k) t h nx op v h' nx'∧K v h' nx'=true:=by
  cases op with
  | store ty a x =>
    obtain⟨a',h1,hl⟩:=fS hl
    obtain⟨x',h2,hl⟩:=fS hl
    rw[aQS] at hl
    obtain⟨h',h4,hl⟩:=fS hl
    exact⟨0,_,_,_,⟨a',x',h1,h2,h4,rfl,rfl⟩,hl⟩
  | mapUpdate ty m k x | insert ty m k x =>
    obtain⟨m',h1,hl⟩:=fS hl
    obtain⟨k',h2,hl⟩:=fS hl
    obtain⟨x',h3,hl⟩:=fS hl
    obtain⟨h',h4,hl⟩:=fS hl
    exact⟨0,_,_,_,⟨m',k',x',h1,h2,h3,h4,rfl,rfl⟩,hl⟩
  | call c =>
    obtain⟨callee,args,ts⟩:=c
    cases callee with
    | builtin b =>
      obtain⟨vs,h1,hl⟩:=fS hl
      cases b<;>try (exact Bool.noConfusion hl)
      case append =>
        simp only[aMc] at hl
        obtain⟨r,h2,hl⟩:=fS hl
        exact⟨0,_,_,_,⟨vs,h1,h2⟩,hl⟩
      case copy =>
        obtain⟨r,h2,hl⟩:=fS hl
        rw[aVM] at hl
        exact⟨0,_,_,_,⟨vs,h1,h2⟩,hl⟩
      case clear =>
        simp only at hl
        split at hl
        · rename_i m ty hty
          obtain⟨d,h2,hl⟩:=fS hl
          obtain⟨h',h3,hl⟩:=fS hl
          exact⟨0,_,_,_,⟨_,h1,m,ty,rfl,hty,by rw[h2]; rfl,h3,rfl,rfl⟩,hl⟩
        · cases hl
    | value f =>
      obtain⟨fv,h1,hl⟩:=fS hl
      obtain⟨vs,h2,hl⟩:=fS hl
      split at hl
      · rename_i k a b _
        obtain⟨k',v,h',nx',h3,h4⟩:=hC _ _ _ _ _ hl
        exact⟨k',v,h',nx',⟨k,a,b,vs,h1,h2,h3⟩,h4⟩
      · cases hl
    | invoke r m=>cases hl
  | convert s d x =>
    obtain⟨v,h1,hl⟩:=fS hl
    obtain⟨r,h2,hl⟩:=fS hl
    exact⟨0,_,_,_,⟨v,h1,h2,rfl⟩,hl⟩
  | _=>cases hl
theorem aGg {C:sC} (hC:aFj P ro C) {t:T Value}{h:T Obj}{nx aid:Nat}{op:Op}{K:KB} (hl:aSH P ro C t h nx aid op K=true) :
    ∃ k v h' nx',opR P ro (call P ro k) t h nx aid op v h' nx'∧K v h' nx'=true:=by
  unfold aSH at hl
  unfold opR
  cases hq:iN op with
  | true=>rw[hq] at hl; exact aNO hC hl
  | false =>
    rw[hq] at hl
    have gen:∀ op,bB (aUI P ro t h aid op) (fun r=>fcV r.1 fun v=>aTP h aid r.2 fun h'=>K v h' nx)=true→∃ (v:Value) (h':T Obj) (nx':Nat),(∃ ob,kD P ro t h aid op=some (v,ob)∧h'=aCW h aid ob∧nx'=nx)∧K v h' nx'=true:=by
      intro op hl
      simp only[aJZ,aTQ,aUJ] at hl
      obtain⟨r,h1,h2⟩:=fS hl
      exact⟨r.1,_,_,⟨r.2,h1,rfl,rfl⟩,h2⟩
    simp only at hl ⊢
    have key:∃ v h' nx',(∃ ob,kD P ro t h aid op=some (v,ob)∧h'=aCW h aid ob∧nx'=nx)∧K v h' nx'=true:=by
      split at hl
      · rename_i ty x
        obtain⟨v,h1,hl⟩:=fS hl
        split at hl
        · rename_i a
          rw[aR0] at hl
          obtain⟨u,h2,h3⟩:=fS hl
          exact⟨u,h,nx,⟨none,by simp only[kD]; rw[h1]; show (pU P ro h ty a).bind _=_; rw[h2]; rfl,rfl,rfl⟩,h3⟩
        · cases hl
      · obtain⟨v,h1,hl⟩:=fS hl
        exact⟨v,h,nx,⟨none,by simp only[kD]; rw[h1]; rfl,rfl,rfl⟩,hl⟩
      · obtain⟨v,h1,hl⟩:=fS hl
        exact⟨v,h,nx,⟨none,by simp only[kD]; rw[h1]; rfl,rfl,rfl⟩,hl⟩
      · exact gen _ hl
    obtain⟨v,h',nx',q1,q2⟩:=key
    exact⟨0,v,h',nx',q1,q2⟩
theorem aNR {C:sC} (hC:aFj P ro C) {n:Nat}{ops:Array Oper}:∀ (l:List Oper) (t:T Value) (h:T Obj) (nx:Nat) (Q:T Value→T Obj→Nat→Bool),aNQ P ro C n ops l t h nx Q=true →
    ∃ k s',aBe P ro (call P ro k) n ops l ⟨t,h,nx⟩ s'∧Q s'.t s'.h s'.nx=true:=by
  intro l
  induction l with
  | nil=>intro t h nx Q hq; exact⟨0,_,rfl,hq⟩
  | cons o r ih =>
    intro t h nx Q hq
    simp only[aNQ,pL] at hq
    simp only[aBe]
    cases hw:wanted ops t o with
    | true =>
      rw[hw] at hq
      obtain⟨k1,v,h',nx',h1,h2⟩:=aGg hC hq
      obtain⟨t',h3,h4⟩:=aBa h2
      obtain⟨k2,s',h5,h6⟩:=ih _ _ _ _ h4
      exact⟨max k1 k2,s',⟨v,h',nx',t',uY (jG (Nat.le_max_left _ _)) h1,h3,aJh (jG (Nat.le_max_right _ _)) _ _ _ h5⟩,h6⟩
    | false =>
      rw[hw] at hq
      obtain⟨t',h3,h4⟩:=aBa hq
      obtain⟨k2,s',h5,h6⟩:=ih _ _ _ _ h4
      exact⟨k2,s',⟨t',h3,h5⟩,h6⟩
theorem aL6 {C:sC} (hC:aFj P ro C) {n n0:Nat}{ops:Array Oper}:∀ (l:List Oper) (i:Nat) (ls:List (Nat × Nat)) (ms:List (Nat × T Obj × T Obj)) (t:T Value) (h:T Obj) (nx:Nat) (Q:T Value→T Obj→Nat→Bool),
    aD3 P ro C n ops (bef ops).toList n0 l i ls ms t h nx Q=true→∃ k s',xQ P ro (call P ro k) n ops n0 l i ls ms ⟨t,h,nx⟩ s'∧Q s'.t s'.h s'.nx=true:=by
  intro l
  induction l with
  | nil=>intro i ls ms t h nx Q hq; exact⟨0,_,rfl,hq⟩
  | cons o r ih =>
    intro i ls ms t h nx Q hq
    simp only[aD3,pL] at hq
    simp only[xQ]
    cases hw:wanted ops t o with
    | true =>
      rw[hw] at hq
      obtain⟨k1,v,h',nx',h1,h2⟩:=aGg hC hq
      obtain⟨t',h3,h4⟩:=aBa h2
      cases hl:iN o.op with
      | true =>
        rw[hl] at h4
        simp only[Bool.and_eq_true] at h4
        obtain⟨k2,s',h5,h6⟩:=ih _ _ _ _ _ _ _ h4.2
        refine⟨max k1 k2,s',⟨v,h',nx',t',uY (jG (Nat.le_max_left _ _)) h1,h3,?_,wL (jG (Nat.le_max_right _ _)) _ _ _ _ _ _ h5⟩,h6⟩
        intro q hq hf
        exact aFn h4.1 q hq (by rw[← aAa] at hf; exact hf)
      | false =>
        rw[hl] at h4
        simp only at h4
        cases hr:rdB P t o.op with
        | none =>
          rw[hr] at h4
          obtain⟨k2,s',h5,h6⟩:=ih _ _ _ _ _ _ _ h4
          exact⟨max k1 k2,s',⟨v,h',nx',t',uY (jG (Nat.le_max_left _ _)) h1,h3,wL (jG (Nat.le_max_right _ _)) _ _ _ _ _ _ h5⟩,h6⟩
        | some a =>
          rw[hr] at h4
          simp only[Bool.and_eq_true] at h4
          obtain⟨k2,s',h5,h6⟩:=ih _ _ _ _ _ _ _ h4.2
          refine⟨max k1 k2,s',⟨v,h',nx',t',uY (jG (Nat.le_max_left _ _)) h1,h3,?_,wL (jG (Nat.le_max_right _ _)) _ _ _ _ _ _ h5⟩,h6⟩
          intro q hq hf
          exact aFo h4.1 q hq (by rw[← aAa] at hf; exact hf)
    | false =>
      rw[hw] at hq
      obtain⟨t',h3,h4⟩:=aBa hq
      obtain⟨k2,s',h5,h6⟩:=ih _ _ _ _ _ _ _ h4
      exact⟨k2,s',⟨t',h3,h5⟩,h6⟩
def aUw (P:Program) (ro:Ro) (n:Nat) (c:Code) (B:T Value→T Obj→Nat→QB→Bool):Prop :=
  ∀ t h nx Q,B t h nx Q=true→∃ k x s',code P ro k n c ⟨t,h,nx⟩ x s'∧Q x s'.t s'.h s'.nx=true
theorem aLO {n:Nat}{b:Code}{B:T Value→T Obj→Nat→QB→Bool} (hB:aUw P ro n b B):∀ (j:Nat) (t:T Value) (h:T Obj) (nx:Nat) (Q:QB),aLN B j t h nx Q=true →
    ∃ k x s',code P ro k n (.loop b) ⟨t,h,nx⟩ x s'∧Q x s'.t s'.h s'.nx=true:=by
  intro j
  induction j with
  | zero=>intro t h nx Q hq; cases hq
  | succ j ih =>
    intro t h nx Q hq
    obtain⟨k1,x,s1,h1,h2⟩:=hB _ _ _ _ hq
    cases x with
    | normal =>
      obtain⟨k2,x,s2,h5,h6⟩:=ih _ _ _ _ h2
      exact⟨max k1 k2+1,x,s2,.inl ⟨s1,s1.h,tJ (Nat.le_max_left _ _) _ _ _ _ _ h1,fun _ _ e=>e,tJ (Nat.le_max_right _ _) _ _ _ _ _ h5⟩,h6⟩
    | exit id=>exact⟨k1+1,_,s1,.inr ⟨by simp,h1⟩,h2⟩
    | ret=>exact⟨k1+1,_,s1,.inr ⟨by simp,h1⟩,h2⟩
theorem aKe {C:sC} (hC:aFj P ro C) {n:Nat}:∀ c:Code,aUw P ro n c (tC P ro C n c):=by
  intro c
  induction c with
  | skip | label=>intro t h nx Q hp; exact⟨1,.normal,_,⟨rfl,rfl⟩,hp⟩
  | ret=>intro t h nx Q hp; exact⟨1,.ret,_,⟨rfl,rfl⟩,hp⟩
  | exit id=>intro t h nx Q hp; exact⟨1,.exit id,_,⟨rfl,rfl⟩,hp⟩
  | seq a b iha ihb =>
    intro t h nx Q hp
    obtain⟨k1,x,s1,h1,h2⟩:=iha _ _ _ _ hp
    cases x with
    | normal =>
      obtain⟨k2,x,s2,h5,h6⟩:=ihb _ _ _ _ h2
      exact⟨max k1 k2+1,x,s2,.inl ⟨s1,tJ (Nat.le_max_left _ _) _ _ _ _ _ h1,tJ (Nat.le_max_right _ _) _ _ _ _ _ h5⟩,h6⟩
    | exit id=>exact⟨k1+1,_,s1,.inr ⟨by simp,h1⟩,h2⟩
    | ret=>exact⟨k1+1,_,s1,.inr ⟨by simp,h1⟩,h2⟩
  | cond c a b iha ihb =>
    intro t h nx Q hp
    obtain⟨v,h1,h2⟩:=fS hp
    split at h2
    · obtain⟨k,x,s1,h3,h4⟩:=iha _ _ _ _ h2
      exact⟨k+1,x,s1,⟨true,h1,h3⟩,h4⟩
    · obtain⟨k,x,s1,h3,h4⟩:=ihb _ _ _ _ h2
      exact⟨k+1,x,s1,⟨false,h1,h3⟩,h4⟩
    · cases h2
  | block id b ihb =>
    intro t h nx Q hp
    obtain⟨k,x,s1,h1,h2⟩:=ihb _ _ _ _ hp
    cases x with
    | normal=>exact⟨k+1,_,s1,⟨_,h1,rfl⟩,h2⟩
    | ret=>exact⟨k+1,_,s1,⟨_,h1,rfl⟩,h2⟩
    | exit i =>
      refine⟨k+1,_,s1,⟨_,h1,rfl⟩,?_⟩
      simp only at h2 ⊢
      cases hb:Nat.beq i id with
      | true=>rw[hb] at h2; exact h2
      | false=>rw[hb] at h2; exact h2
  | loop b ihb=>intro t h nx Q hp; exact aLO ihb _ _ _ _ _ hp
  | scope b ihb =>
    intro t h nx Q hp
    obtain⟨k,x,s1,h1,h2⟩:=ihb _ _ _ _ hp
    exact⟨k+1,x,s1,h1,h2⟩
  | region id ops draw =>
    intro t h nx Q hp
    cases draw with
    | false =>
      obtain⟨k,s',h1,h2⟩:=aNR hC _ _ _ _ _ hp
      exact⟨k+1,.normal,s',⟨rfl,h1⟩,h2⟩
    | true =>
      simp only[tC] at hp
      rw[aTV,aGH] at hp
      cases hd:xG P ops with
      | false=>rw[hd] at hp; cases hp
      | true =>
        rw[hd] at hp
        simp only[pL] at hp
        obtain⟨k,s',h1,h2⟩:=aL6 hC _ _ _ _ _ _ _ _ hp
        exact⟨k+1,.normal,s',⟨rfl,hd,h1⟩,h2⟩
  | _=>intro t h nx Q hp; cases hp
theorem aKa {O:aKM}{M:aVJ} (hO:∀ f args z l c e cs,O f args=some (z,l,c,e,cs)→aJC P f args z l c cs) (hM:∀ f args h nx v h' nx',M f args h nx=some (v,h',nx')→∃ j,call P ro j f args h nx v h' nx'):∀ k,aFj P ro (aNw P ro O M k):=by
  intro k
  induction k with
  | zero=>intro f args h nx K hc; cases hc
  | succ k ih =>
    intro f args h nx K hc
    simp only[aNw] at hc
    cases hm:M f args h nx with
    | some r =>
      obtain⟨v,h',nx'⟩:=r
      rw[hm] at hc
      obtain⟨j,hj⟩:=hM _ _ _ _ _ _ _ hm
      exact⟨j,v,h',nx',hj,hc⟩
    | none =>
    rw[hm] at hc
    simp only at hc
    cases hq:O f args with
    | some r =>
      obtain⟨z,l,c,e,cs⟩:=r
      rw[hq] at hc
      simp only[pL,aRA,aEe] at hc
      exact⟨0,_,_,_,.inr (.inr ⟨z,l,c,cs,e,hO _ _ _ _ _ _ _ hq,rfl,fun _ _ e=>e,rfl⟩),hc⟩
    | none =>
    rw[hq] at hc
    simp only at hc
    obtain⟨fn,h1,hc⟩:=fS hc
    obtain⟨body,h2,hc⟩:=fS hc
    split at hc
    · rename_i hb
      rw[aIR,aQm] at hc
      obtain⟨j,x,s,h3,h4⟩:=aKe ih body _ _ _ _ hc
      cases x with
      | exit i=>cases h4
      | normal =>
        obtain⟨vs,h5,h6⟩:=fS h4
        rw[aJZ] at h6
        exact⟨j,_,_,_,.inl ⟨fn,body,.normal,s,vs,h1,h2,Nat.le_of_ble_eq_true hb,h3,.inl rfl,h5,rfl,fun _ _ e=>e,rfl⟩,h6⟩
      | ret =>
        obtain⟨vs,h5,h6⟩:=fS h4
        rw[aJZ] at h6
        exact⟨j,_,_,_,.inl ⟨fn,body,.ret,s,vs,h1,h2,Nat.le_of_ble_eq_true hb,h3,.inr rfl,h5,rfl,fun _ _ e=>e,rfl⟩,h6⟩
    · cases hc
theorem aK9 {O:aKM} (hO:∀ f args z l c e cs,O f args=some (z,l,c,e,cs)→aJC P f args z l c cs) (k:Nat):aFj P ro (aNv P ro O k):=aKa hO (fun _ _ _ _ _ _ _ h=>by cases h) k
structure Cp where
  f:FuncId
  args:List Value
  h:T Obj
  nx:Nat
  v:Value
  h':T Obj
  nx':Nat
def aWJ (want:Value):KB:=fun v _ _=>aH0 v want
theorem aQe {k:Nat}{f:FuncId}{args:List Value}{h h' h1:T Obj}{nx nx':Nat}{v:Value} (hc:call P ro k f args h nx v h' nx') (hs:aU h1 h'):call P ro k f args h nx v h1 nx':=by
  rcases hc with ⟨fn,body,e,s,vs,g1,g2,g3,g4,g5,g6,g7,g8,g9⟩ | ⟨g1,g2,g3,g4⟩ | ⟨z,l,c,cs,e,g1,g2,g3,g4⟩
  · exact .inl ⟨fn,body,e,s,vs,g1,g2,g3,g4,g5,g6,g7,fun k o hk=>g8 k o (hs k o hk),g9⟩
  · exact .inr (.inl ⟨g1,g2,fun k o hk=>g3 k o (hs k o hk),g4⟩)
  · exact .inr (.inr ⟨z,l,c,cs,e,g1,g2,fun k o hk=>g3 k o (hs k o hk),g4⟩)
theorem aOr {O:aKM} (hO:∀ f args z l c e cs,O f args=some (z,l,c,e,cs)→aJC P f args z l c cs) {k:Nat}{f:FuncId}{args:List Value}{h:T Obj}{nx:Nat}{T:KB}{K:KV} (hc:aNv P ro O k f args h nx T=true) (hK:∀ v h' nx',T v h' nx'=true→∃ h1,aU h1 h'∧K v h1 nx'):aN P ro f args h nx K:=by
  obtain⟨j,v,h',nx',h1,h2⟩:=aK9 hO k _ _ _ _ _ hc
  obtain⟨h3,h4,h5⟩:=hK _ _ _ h2
  exact⟨j,v,h3,nx',aQe h1 h4,h5⟩
theorem aQc {O:aKM} (hO:∀ f args z l c e cs,O f args=some (z,l,c,e,cs)→aJC P f args z l c cs) {k:Nat}{f:FuncId}{args:List Value}{nx:Nat}{want:Value}{K:KV} (h:aNv P ro O k f args .e nx (aWJ want)=true) (hK:∀ n,K want .e n):aN P ro f args .e nx K :=
  aOr hO h fun v h' nx' hv=>⟨.e,(fun k o hk=>by rw[T.get_e] at hk; cases hk),by rw[aEf hv]; exact hK _⟩
end
end V
end Go.Proofs.YtjndkdmkecpllaaGreat
noncomputable section
namespace Go.Proofs.YtjndkdmkecpllaaGreat
namespace V
theorem aVm {P:Program} (hz:gC P=true) (hn:mZ P=true) (hm:P.follows .mixedOrders=true) {f:FuncId}{want:Value} (hf:flat want=true) (hb:((P.funcs[f]?).bind (·.body)).isSome=true)
    (he:∀ ro:Ro,aN P ro f [] .e 0 fun v _ _=>v=want):Orc P f want:=by
  refine⟨hf,?_,fun W=>?_⟩
  · cases hq:P.funcs[f]? with
    | none=>rw[hq] at hb; cases hb
    | some fn =>
      rw[hq] at hb
      refine⟨fn,rfl,?_⟩
      simp only[Option.bind_some] at hb
      cases hc:fn.body with
      | none=>rw[hc] at hb; cases hb
      | some b=>rfl
  · obtain⟨j,v,h',nx',hc,hv⟩:=he (xY W)
    subst hv
    have hs:SS (xY W) W.heap.size W (fun _=>none) .e 0 W:=⟨aHM W,fun _ _=>rfl⟩
    refine ((aC1 (ro:=xY W) (N:=W.heap.size) (w0:=W) hz hn hm _ _ _ _ _ _ _ hc).2 _ W #[] hs .nil).mono fun e W' ⟨v',φ',he,hst,hv⟩=>?_
    subst he
    exact⟨by rw[hv.of_flat hf],hst.size,fun b hb=>hst.frame b hb fun k B o r hk _=>absurd (T.get_e k) hk,hst.os,hst.tape,hst.output⟩
theorem aVl {P:Program} (hz:gC P=true) (hn:mZ P=true) (hm:P.follows .mixedOrders=true) {O:aKM} (hO:∀ f args z l c e cs,O f args=some (z,l,c,e,cs)→aJC P f args z l c cs) {f:FuncId}{want:Value}{k:Nat} (hf:flat want=true) (hb:((P.funcs[f]?).bind (·.body)).isSome=true)
    (he:∀ ro:Ro,aNv P ro O k f [] .e 0 (aWJ want)=true):Orc P f want:=aVm hz hn hm hf hb fun ro=>aQc hO (he ro) fun _=>rfl
theorem LR.rigid {N:Nat}{φ:gF}:∀ {l:List Value},l.all V.rigid=true→LR N φ l l
  | [],_=>.nil
  | x::l,h=>by
    simp only[List.all_cons,Bool.and_eq_true] at h
    refine .cons ?_ (LR.rigid h.2)
    have hx:=h.1
    cases x with
    | agg cs=>exact VR.aggL (LR.flat fun x hx'=>List.all_eq_true.1 (show cs.toList.all V.flat=true from hx) x hx')
    | _=>exact .flat hx
theorem aUP {P:Program} (hz:gC P=true) (hn:mZ P=true) (hm:P.follows .mixedOrders=true) {f:FuncId}{args:List Value}{z l c:Nat}{cs:List Value} (hr:args.all rigid=true) (hf:cs.all flat=true) (hb:((P.funcs[f]?).bind (·.body)).isSome=true)
    (hc0:l≤c) (hc1:c*z=cs.length) (hc2:0 < c) (he:∀ ro:Ro,aN P ro f args .e 0 fun v h _=>∃ id e,v=.slice (some ⟨id,0,some z⟩) l c∧h.get id=some (.cells cs.toArray e)):aJC P f args z l c cs:=by
  refine⟨hr,hf,?_,fun W=>?_⟩
  · cases hq:P.funcs[f]? with
    | none=>rw[hq] at hb; cases hb
    | some fn =>
      rw[hq] at hb
      refine⟨fn,rfl,?_⟩
      simp only[Option.bind_some] at hb
      cases hc:fn.body with
      | none=>rw[hc] at hb; cases hb
      | some b=>rfl
  · obtain⟨j,v,h',nx',hc,id,e,rfl,hg⟩:=he (xY W)
    have hs:SS (xY W) W.heap.size W (fun _=>none) .e 0 W:=⟨aHM W,fun _ _=>rfl⟩
    refine ((aC1 (ro:=xY W) (N:=W.heap.size) (w0:=W) hz hn hm _ _ _ _ _ _ _ hc).2 _ W args.toArray hs (by simpa using LR.rigid hr)).mono fun en W' ⟨v',φ',he,hst,hv⟩=>?_
    subst he
    refine⟨?_,hst.size,fun b hb=>hst.frame b hb fun k B o r hk _=>absurd (T.get_e k) hk,hst.os,hst.tape,hst.output⟩
    obtain⟨B,b,r,o',p1,p2,p3⟩:=hst.ss.sim.own id _ hg
    have hB:W.heap.size≤B:=by
      rcases hst.img id B b r (by rw[hg]; simp) p1 with h1 | ⟨k0,o0,r0,h1,_⟩
      · exact h1
      · exact absurd (T.get_e k0) h1
    cases o'<;>first
      | exact p3.elim
      | skip
    rename_i C E F
    obtain⟨r1,r2,r3,r4⟩:=p3
    have hflat:∀ (i:Nat) (x:Value),cs[i]?=some x→C[b+i]?=some x:=fun i x hx=>by
      obtain⟨y,hy,hxy⟩:=r3 i x (by simpa using hx)
      rw[hy,hxy.of_flat (List.all_eq_true.1 hf x (List.mem_of_getElem? hx))]
    cases hv with
    | flat h=>cases h
    | sliceRo h _=>cases h
    | sliceOwn h1 h2 h3 h4 =>
      cases h2
      simp only at h1
      rw[p1] at h1
      cases h1
      exact⟨B,_,r,_,C,E,F,rfl,h3,by simpa using h4,hB,(hst.ss.sim.dom id B b r p1).2,p2,r1,by simpa using r2,hflat,r4⟩
    | sliceEnd h1 h2=>omega
    | sliceNo h=>cases h
end V
end Go.Proofs.YtjndkdmkecpllaaGreat
namespace Go.Proofs.YtjndkdmkecpllaaGreat
namespace V
attribute [local irreducible] rR aN aA
abbrev wH:FuncId:=3
abbrev xJ:FuncId:=11
abbrev rU:FuncId:=12
abbrev aC8:FuncId:=13
abbrev aC9:FuncId:=14
abbrev zG:FuncId:=15
abbrev sX:FuncId:=16
abbrev rT:FuncId:=39
abbrev pH:FuncId:=40
abbrev j8:FuncId:=42
abbrev xM:FuncId:=43
abbrev aC7:FuncId:=44
abbrev xN:FuncId:=45
abbrev zF:FuncId:=48
abbrev xI:FuncId:=49
abbrev aCa:FuncId:=50
abbrev zJ:FuncId:=51
abbrev gW:FuncId:=53
abbrev xH:FuncId:=55
abbrev rS:FuncId:=79
abbrev rV:FuncId:=83
abbrev xK:FuncId:=84
abbrev oZ:FuncId:=86
abbrev lM:FuncId:=87
abbrev xO:FuncId:=91
abbrev eX:FuncId:=92
abbrev uP:FuncId:=93
abbrev nM:FuncId:=94
abbrev jA:FuncId:=95
abbrev iX:FuncId:=96
abbrev gK:FuncId:=97
abbrev jB:FuncId:=98
abbrev nP:FuncId:=99
abbrev iW:FuncId:=100
abbrev qP:FuncId:=102
abbrev xL:FuncId:=116
abbrev tN:FuncId:=117
abbrev zH:FuncId:=119
abbrev aAb:FuncId:=120
abbrev uR:FuncId:=121
abbrev fJ:FuncId:=122
abbrev zE:FuncId:=123
abbrev tM:FuncId:=124
abbrev fE:FuncId:=125
abbrev gI:FuncId:=126
abbrev oP:FuncId:=127
abbrev aAc:FuncId:=128
abbrev uQ:FuncId:=129
abbrev aAd:FuncId:=130
abbrev aJ0:FuncId:=139
abbrev aC6:FuncId:=140
abbrev fQ:FuncId:=141
abbrev qO:FuncId:=142
abbrev zI:FuncId:=147
abbrev cI:TypeId:=3
abbrev kM:TypeId:=4
abbrev bS:TypeId:=5
abbrev mH:TypeId:=9
abbrev eQ:TypeId:=22
abbrev iZ:TypeId:=24
abbrev cR:TypeId:=26
abbrev sV:TypeId:=27
abbrev cF:TypeId:=29
abbrev cT:TypeId:=35
abbrev gZ:TypeId:=36
abbrev fL:TypeId:=37
abbrev bI:TypeId:=39
abbrev aDr:TypeId:=62
abbrev bR:TypeId:=64
abbrev cJ:TypeId:=66
abbrev jP:TypeId:=77
abbrev sW:TypeId:=81
abbrev dH:TypeId:=91
abbrev bQ:TypeId:=95
abbrev aQ:TypeId:=97
abbrev aO:TypeId:=103
abbrev lQ:TypeId:=104
abbrev eP:TypeId:=105
abbrev eH:TypeId:=107
abbrev aR:TypeId:=109
abbrev bP:TypeId:=112
abbrev cB:TypeId:=113
abbrev bK:TypeId:=115
abbrev mG:TypeId:=117
abbrev cG:TypeId:=119
abbrev mK:TypeId:=120
abbrev mC:TypeId:=135
abbrev iL:TypeId:=146
abbrev eG:TypeId:=156
abbrev cO:TypeId:=164
@[irreducible] def vH (ro:Ro) (K:KV):dF→T Obj→Nat→Prop:=fun e h nx=>∃ h45,aU h45 h∧K (Value.bool true) h45 (nx+1)
@[irreducible] def aAx (ro:Ro):PT:=fun e h nx Q=>aA (aT 1 (e 1)) fun g'=>aA (load1 ro h g') fun h'=>aA (bM h') fun i'=>aA (aP .lss (e 3) i') fun j'=>aV j' (aA (aT 1 (e 1)) fun k'=>aA (load1 ro h k') fun l'=>aA (cD 9 l' (e 3)) fun m'=>aA (loadA ro h 9 m') fun n'=>aA (i8 Tryz.prog cJ) fun aO'=>dL h (nx+10) (.cells aO'.cells cJ) fun aP'=>aA (bH 9 aP' (ptr (nx+10)) n') fun o'=>aA (aT 0 (ptr (nx+10))) fun p'=>aA (loadA ro o' 4 p') fun q'=>aA (cX Tryz.prog bR []) fun r'=>aA (eE Tryz.prog 20 bR) fun aQ'=>aA (aH6 aQ' .eql q' r') fun c'=>bF c' false o' (nx+17) (fun aR'=>aA (aT 4 (ptr (nx+10))) fun aS'=>aR' aS' o' (nx+18)) fun s' t' Z'=>bF c' false t' Z' (fun aT'=>aA (load1 ro t' s') fun aU'=>aT' aU' t' (Z'+1)) fun u' aa' ab'=>bF c' false aa' ab' (fun aV'=>aA (aP .lss u' (Value.int IntKind.i64 1)) fun aW'=>aV' aW' aa' (ab'+1)) fun v' ac' ad'=>aA (b7 c' (Value.bool true) v') fun b'=>bF b' false ac' (ad'+2) (fun aX'=>aA (aT 4 (ptr (nx+10))) fun aY'=>aX' aY' ac' (ad'+3)) fun w' x' ae'=>bF b' false x' ae' (fun aZ'=>aA (load1 ro x' w') fun a0'=>aZ' a0' x' (ae'+1)) fun y' af' ag'=>bF b' false af' ag' (fun a1'=>aA (aT 5 (ptr (nx+10))) fun a2'=>a1' a2' af' (ag'+1)) fun z' A' ah'=>bF b' false A' ah' (fun a3'=>aA (load1 ro A' z') fun a4'=>a3' a4' A' (ah'+1)) fun B' ai' aj'=>bF b' false ai' aj' (fun a5'=>aA (aP .gtr y' B') fun a6'=>a5' a6' ai' (aj'+1)) fun C' ak' al'=>aA (b7 b' (Value.bool true) C') fun d'=>bF d' false ak' (al'+2) (fun a7'=>aA (aT 5 (ptr (nx+10))) fun a8'=>a7' a8' ak' (al'+3)) fun D' E' am'=>bF d' false E' am' (fun a9'=>aA (load1 ro E' D') fun ba'=>a9' ba' E' (am'+1)) fun F' an' ao'=>bF d' false an' ao' (fun bb'=>aA (aP .gtr F' (Value.int IntKind.i64 4096)) fun bc'=>bb' bc' an' (ao'+1)) fun G' ap' aq'=>aA (b7 d' (Value.bool true) G') fun e'=>bF e' false ap' (aq'+2) (fun bd'=>aA (aT 6 (ptr (nx+10))) fun be'=>bd' be' ap' (aq'+3)) fun H' I' ar'=>bF e' false I' ar' (fun bf'=>aA (load1 ro I' H') fun bg'=>bf' bg' I' (ar'+1)) fun J' as' at'=>bF e' false as' at' (fun bh'=>aA (aP .lss J' (Value.int IntKind.i64 0)) fun bi'=>bh' bi' as' (at'+1)) fun K' au' av'=>aA (b7 e' (Value.bool true) K') fun f'=>bF f' false au' (av'+2) (fun bj'=>aA (aT 6 (ptr (nx+10))) fun bk'=>bj' bk' au' (av'+3)) fun L' M' aw'=>bF f' false M' aw' (fun bl'=>aA (load1 ro M' L') fun bm'=>bl' bm' M' (aw'+1)) fun N' ax' ay'=>bF f' false ax' ay' (fun bn'=>aA (aP .geq N' (Value.int IntKind.i64 512)) fun bo'=>bn' bo' ax' (ay'+1)) fun O' az' aA'=>aA (b7 f' (Value.bool true) O') fun a'=>bF a' false az' (aA'+2) (fun bp'=>aA (aT 8 (ptr (nx+10))) fun bq'=>bp' bq' az' (aA'+3)) fun P' Q' aB'=>bF a' false Q' aB' (fun br'=>aA (load1 ro Q' P') fun bs'=>br' bs' Q' (aB'+1)) fun R' aC' aD'=>bF a' false aC' aD' (fun bt'=>aA (aT 1 (e 1)) fun bu'=>bt' bu' aC' (aD'+1)) fun S' T' aE'=>bF a' false T' aE' (fun bv'=>aA (load1 ro T' S') fun bw'=>bv' bw' T' (aE'+1)) fun U' aF' aG'=>bF a' false aF' aG' (fun bx'=>aA (bM U') fun by'=>bx' by' aF' (aG'+1)) fun V' aH' aI'=>bF a' false aH' aI' (fun bz'=>aN Tryz.prog ro rV [R',V'] aH' (aI'+1) fun bA' bB' bC'=>bz' bA' bB' bC') fun W' aJ' aK'=>bF a' false aJ' aK' (fun bD'=>aA (unV .not W') fun bE'=>bD' bE' aJ' (aK'+1)) fun X' aL' aM'=>aA (b7 a' (Value.bool true) X') fun Y'=>aV Y' (Q .ret (puts e [(18,(e 3)),(19,g'),(20,h'),(21,i'),(22,j'),(25,k'),(26,l'),(27,(e 3)),(28,m'),(29,n'),(4,(ptr (nx+10))),(30,p'),(31,q'),(32,r'),(33,c'),(34,c'),(35,s'),(36,u'),(37,v'),(38,b'),(39,b'),(40,w'),(41,y'),(42,z'),(43,B'),(44,C'),(45,d'),(46,d'),(47,D'),(48,F'),(49,G'),(50,e'),(51,e'),(52,H'),(53,J'),(54,K'),(55,f'),(56,f'),(57,L'),(58,N'),(59,O'),(60,a'),(61,a'),(62,P'),(63,R'),(64,S'),(65,U'),(66,V'),(67,W'),(68,X'),(69,Y'),(2,(Value.bool false))]) aL' (aM'+2)) (aA (aP .add (e 3) (Value.int IntKind.i64 1)) fun aN'=>Q .normal (puts e [(18,(e 3)),(19,g'),(20,h'),(21,i'),(22,j'),(25,k'),(26,l'),(27,(e 3)),(28,m'),(29,n'),(4,(ptr (nx+10))),(30,p'),(31,q'),(32,r'),(33,c'),(34,c'),(35,s'),(36,u'),(37,v'),(38,b'),(39,b'),(40,w'),(41,y'),(42,z'),(43,B'),(44,C'),(45,d'),(46,d'),(47,D'),(48,F'),(49,G'),(50,e'),(51,e'),(52,H'),(53,J'),(54,K'),(55,f'),(56,f'),(57,L'),(58,N'),(59,O'),(60,a'),(61,a'),(62,P'),(63,R'),(64,S'),(65,U'),(66,V'),(67,W'),(68,X'),(69,Y'),(23,(e 3)),(24,aN'),(3,aN')]) aL' (aM'+4))) (Q (.exit 0) (puts e [(18,(e 3)),(19,g'),(20,h'),(21,i'),(22,j')]) h (nx+5))
@[irreducible] def aFL (ro:Ro) (v0:Value) (h:T Obj) (nx:Nat) (K:KV):Prop:=dL h nx (.cells (Value.cells v0) cF) fun h1=>aA (aT 1 (ptr nx)) fun f'=>aA (load1 ro h1 f') fun g'=>aA (bM g') fun h'=>aA (aP .gtr h' (Value.int IntKind.i64 512)) fun a'=>bF a' false h1 (nx+7) (fun k6=>aA (aT 0 (ptr nx)) fun D'=>k6 D' h1 (nx+8)) fun i' h8 n9=>bF a' false h8 n9 (fun E'=>aA (load1 ro h8 i') fun F'=>E' F' h8 (n9+1)) fun j' k' l'=>bF a' false k' l' (fun G'=>aA (aT 1 (ptr nx)) fun H'=>G' H' k' (l'+1)) fun m' b' n'=>bF a' false b' n' (fun I'=>aA (load1 ro b' m') fun J'=>I' J' b' (n'+1)) fun o' p' q'=>bF a' false p' q' (fun K'=>aA (bM o') fun L'=>K' L' p' (q'+1)) fun r' s' t'=>bF a' false s' t' (fun M'=>aN Tryz.prog ro rV [j',r'] s' (t'+1) fun N' O' P'=>M' N' O' P') fun u' v' w'=>bF a' false v' w' (fun Q'=>aA (unV .not u') fun R'=>Q' R' v' (w'+1)) fun x' y' z'=>aA (b7 a' (Value.bool true) x') fun A'=>aV A' (∃ B',aU B' y'∧K (Value.bool false) B' (z'+2)) (dC (aAx ro) (puts (gS [v0]) [(1,(ptr nx)),(2,(Value.bool false)),(5,f'),(6,g'),(7,h'),(8,a'),(9,a'),(10,i'),(11,j'),(12,m'),(13,o'),(14,r'),(15,u'),(16,x'),(17,A'),(3,(Value.int IntKind.i64 0))]) y' (z'+2) fun S' c' d' e'=>iM S' (vH ro K c' d' e') (fun T'=>dE (Nat.beq T' 0) (vH ro K c' d' e') (False)) (∃ C',aU C' d'∧K (c' 2) C' e'))
theorem zzO{ro:Ro}{f:FuncId}{fn:Func}{vs:List Value}{h:T Obj}{nx:Nat}{K:KV}{X:Prop}(w:X)(h1:Tryz.prog.funcs[f]?=some fn:=by kernel_rfl)(h2:fn.body.isSome=true:=by kernel_rfl)(h3:Nat.ble vs.length fn.ntmps=true:=by kernel_rfl)(h4:rR Tryz.prog ro (aN Tryz.prog ro) fn vs h nx K=X:=by kernel_rfl):aN Tryz.prog ro f vs h nx K:=bG h1 h2 h3 (Eq.mpr h4 w)
theorem aHB {ro:Ro}{v0:Value}{h:T Obj}{nx:Nat}{K:KV} (hw:aFL ro v0 h nx K):aN Tryz.prog ro xM [v0] h nx K:=zzO (fn:=Tryz.f43) hw
@[irreducible] def vL (ro:Ro) (K:KV):dF→T Obj→Nat→Prop:=fun e h nx=>∃ h13,aU h13 h∧K (e 3) h13 (nx+2)
@[irreducible] def aBB (ro:Ro):PT:=fun e h nx Q=>aA (aP .lss (e 4) (e 0)) fun a'=>aV a' (aA (aP .mul (e 3) (Value.int IntKind.i64 3)) fun b'=>aA (aP .add (e 4) (Value.int IntKind.i64 1)) fun c'=>Q .normal (puts e [(11,(e 4)),(12,(e 0)),(13,a'),(16,(e 3)),(17,b'),(3,b'),(14,(e 4)),(15,c'),(4,c')]) h (nx+9)) (Q (.exit 0) (puts e [(11,(e 4)),(12,(e 0)),(13,a')]) h (nx+3))
@[irreducible] def aFO (ro:Ro) (v0:Value) (h:T Obj) (nx:Nat) (K:KV):Prop:=aA (aP .lss v0 (Value.int IntKind.i64 0)) fun a'=>bF a' false h (nx+4) (fun k2=>k2 v0 h (nx+5)) fun e' h4 n5=>bF a' false h4 n5 (fun k6=>aA (aP .gtr e' (Value.int IntKind.i64 3)) fun j'=>k6 j' h4 (n5+1)) fun f' h8 n9=>aA (b7 a' (Value.bool true) f') fun g'=>aV g' (∃ h',aU h' h8∧K (Value.int IntKind.i64 0) h' (n9+2)) (dC (aBB ro) (puts (gS [v0]) [(2,(Value.int IntKind.i64 0)),(5,v0),(6,a'),(7,a'),(8,e'),(9,f'),(10,g'),(3,(Value.int IntKind.i64 1)),(4,(Value.int IntKind.i64 0))]) h8 (n9+3) fun k' b' c' d'=>iM k' (vL ro K b' c' d') (fun l'=>dE (Nat.beq l' 0) (vL ro K b' c' d') (False)) (∃ i',aU i' c'∧K (b' 2) i' d'))
theorem aHE {ro:Ro}{v0:Value}{h:T Obj}{nx:Nat}{K:KV} (hw:aFO ro v0 h nx K):aN Tryz.prog ro xN [v0] h nx K:=zzO (fn:=Tryz.f45) hw
@[irreducible] def mI (ro:Ro) (K:KV):dF→T Obj→Nat→Prop:=fun e h nx=>aA (loadA ro h 259 (e 1)) fun c'=>aA (cX Tryz.prog eG [(0,c')]) fun d'=>aA (i8 Tryz.prog eG) fun e'=>dL h (nx+2) (.cells e'.cells eG) fun f'=>aA (bH 259 f' (ptr (nx+2)) d') fun a'=>aA (aT 258 (e 1)) fun g'=>aA (load1 ro a' g') fun h'=>aN Tryz.prog ro eX [h',(.func (.func uP) #[] #[(ptr (nx+2))])] a' (nx+8) fun i' j' k'=>aA (unV .not i') fun l'=>∃ b',aU b' j'∧K l' b' (k'+2)
@[irreducible] def xE (ro:Ro):PT:=fun e h nx Q=>aA (aP .lss (e 47) (e 46)) fun d'=>aV d' (aA (cD 2 (e 45) (e 47)) fun e'=>aA (loadA ro h 2 e') fun f'=>aA (i8 Tryz.prog eP) fun S'=>dL h (nx+3) (.cells S'.cells eP) fun T'=>aA (bH 2 T' (ptr (nx+3)) f') fun g'=>aA (ixArr 2 1 (ptr (nx+3)) (Value.int IntKind.i64 0)) fun h'=>aA (load1 ro g' h') fun i'=>aA (aP .lss i' (Value.int IntKind.i64 1)) fun a'=>bF a' false g' (nx+9) (fun U'=>aA (ixArr 2 1 (ptr (nx+3)) (Value.int IntKind.i64 0)) fun V'=>U' V' g' (nx+10)) fun j' k' z'=>bF a' false k' z' (fun W'=>aA (load1 ro k' j') fun X'=>W' X' k' (z'+1)) fun l' A' B'=>bF a' false A' B' (fun Y'=>aA (ixArr 2 1 (ptr (nx+3)) (Value.int IntKind.i64 1)) fun Z'=>Y' Z' A' (B'+1)) fun m' n' C'=>bF a' false n' C' (fun aa'=>aA (load1 ro n' m') fun ab'=>aa' ab' n' (C'+1)) fun o' D' E'=>bF a' false D' E' (fun ac'=>aA (aP .gtr l' o') fun ad'=>ac' ad' D' (E'+1)) fun p' F' G'=>aA (b7 a' (Value.bool true) p') fun b'=>bF b' false F' (G'+2) (fun ae'=>aA (ixArr 2 1 (ptr (nx+3)) (Value.int IntKind.i64 1)) fun af'=>ae' af' F' (G'+3)) fun q' r' H'=>bF b' false r' H' (fun ag'=>aA (load1 ro r' q') fun ah'=>ag' ah' r' (H'+1)) fun s' I' J'=>bF b' false I' J' (fun ai'=>aA (aP .lss s' (Value.int IntKind.i64 2)) fun aj'=>ai' aj' I' (J'+1)) fun t' K' L'=>aA (b7 b' (Value.bool true) t') fun c'=>bF c' false K' (L'+2) (fun ak'=>aA (ixArr 2 1 (ptr (nx+3)) (Value.int IntKind.i64 1)) fun al'=>ak' al' K' (L'+3)) fun u' v' M'=>bF c' false v' M' (fun am'=>aA (load1 ro v' u') fun an'=>am' an' v' (M'+1)) fun w' N' O'=>bF c' false N' O' (fun ao'=>aA (aP .gtr w' (Value.int IntKind.i64 4096)) fun ap'=>ao' ap' N' (O'+1)) fun x' P' Q'=>aA (b7 c' (Value.bool true) x') fun y'=>aV y' (Q .ret (puts e [(48,d'),(49,e'),(50,f'),(4,(ptr (nx+3))),(51,h'),(52,i'),(53,a'),(54,a'),(55,j'),(56,l'),(57,m'),(58,o'),(59,p'),(60,b'),(61,b'),(62,q'),(63,s'),(64,t'),(65,c'),(66,c'),(67,u'),(68,w'),(69,x'),(70,y'),(2,(Value.bool false))]) P' (Q'+2)) (aA (aP .add (e 47) (Value.int IntKind.i64 1)) fun R'=>Q .normal (puts e [(48,d'),(49,e'),(50,f'),(4,(ptr (nx+3))),(51,h'),(52,i'),(53,a'),(54,a'),(55,j'),(56,l'),(57,m'),(58,o'),(59,p'),(60,b'),(61,b'),(62,q'),(63,s'),(64,t'),(65,c'),(66,c'),(67,u'),(68,w'),(69,x'),(70,y'),(71,R'),(47,R')]) P' (Q'+3))) (Q (.exit 0) (puts e [(48,d')]) h (nx+1))
@[irreducible] def aFs (ro:Ro) (v0:Value) (h:T Obj) (nx:Nat) (K:KV):Prop:=dL h nx (.cells (Value.cells v0) bI) fun h1=>aA (aT 0 (ptr nx)) fun p'=>aA (loadA ro h1 257 p') fun q'=>aN Tryz.prog ro xO [q'] h1 (nx+40) fun r' h5 n6=>aA (unV .not r') fun b'=>bF b' false h5 n6 (fun k8=>aA (aT 257 (ptr nx)) fun aP'=>k8 aP' h5 n6) fun s' e' t'=>bF b' false e' t' (fun aQ'=>aA (load1 ro e' s') fun aR'=>aQ' aR' e' t') fun u' v' w'=>bF b' false v' w' (fun aS'=>aA (bM u') fun aT'=>aS' aT' v' w') fun x' y' z'=>bF b' false y' z' (fun aU'=>aA (aP .gtr x' (Value.int IntKind.i64 512)) fun aV'=>aU' aV' y' z') fun A' B' C'=>aA (b7 b' (Value.bool true) A') fun c'=>bF c' false B' C' (fun aW'=>aA (aT 258 (ptr nx)) fun aX'=>aW' aX' B' C') fun D' f' E'=>bF c' false f' E' (fun aY'=>aA (load1 ro f' D') fun aZ'=>aY' aZ' f' E') fun F' G' H'=>bF c' false G' H' (fun a0'=>aA (bM F') fun a1'=>a0' a1' G' H') fun I' J' K'=>bF c' false J' K' (fun a2'=>aA (aP .lss I' (Value.int IntKind.i64 1)) fun a3'=>a2' a3' J' K') fun L' M' N'=>aA (b7 c' (Value.bool true) L') fun d'=>bF d' false M' N' (fun a4'=>aA (aT 258 (ptr nx)) fun a5'=>a4' a5' M' N') fun O' g' P'=>bF d' false g' P' (fun a6'=>aA (load1 ro g' O') fun a7'=>a6' a7' g' P') fun Q' R' S'=>bF d' false R' S' (fun a8'=>aA (bM Q') fun a9'=>a8' a9' R' S') fun T' U' V'=>bF d' false U' V' (fun ba'=>aA (aP .gtr T' (Value.int IntKind.i64 256)) fun bb'=>ba' bb' U' V') fun W' X' Y'=>aA (b7 d' (Value.bool true) W') fun a'=>bF a' false X' Y' (fun bc'=>aA (aT 258 (ptr nx)) fun bd'=>bc' bd' X' Y') fun Z' h' aa'=>bF a' false h' aa' (fun be'=>aA (load1 ro h' Z') fun bf'=>be' bf' h' aa') fun ab' ac' ad'=>bF a' false ac' ad' (fun bg'=>aA (cD 4 ab' (Value.int IntKind.i64 0)) fun bh'=>bg' bh' ac' ad') fun ae' af' ag'=>bF a' false af' ag' (fun bi'=>aA (aT 0 ae') fun bj'=>bi' bj' af' ag') fun ah' i' ai'=>bF a' false i' ai' (fun bk'=>aA (load1 ro i' ah') fun bl'=>bk' bl' i' ai') fun aj' ak' al'=>bF a' false ak' al' (fun bm'=>aA (bM aj') fun bn'=>bm' bn' ak' al') fun am' an' ao'=>bF a' false an' ao' (fun bo'=>aA (aT 258 (ptr nx)) fun bp'=>bo' bp' an' ao') fun ap' j' aq'=>bF a' false j' aq' (fun bq'=>aA (load1 ro j' ap') fun br'=>bq' br' j' aq') fun ar' as' at'=>bF a' false as' at' (fun bs'=>aA (cD 4 ar' (Value.int IntKind.i64 0)) fun bt'=>bs' bt' as' at') fun au' av' aw'=>bF a' false av' aw' (fun bu'=>aA (aT 1 au') fun bv'=>bu' bv' av' aw') fun ax' k' ay'=>bF a' false k' ay' (fun bw'=>aA (load1 ro k' ax') fun bx'=>bw' bx' k' ay') fun az' aA' aB'=>bF a' false aA' aB' (fun by'=>aA (bM az') fun bz'=>by' bz' aA' aB') fun aC' aD' aE'=>bF a' false aD' aE' (fun bA'=>aA (aP .add am' aC') fun bB'=>bA' bB' aD' aE') fun aF' aG' aH'=>bF a' false aG' aH' (fun bC'=>aA (aP .gtr aF' (Value.int IntKind.i64 0)) fun bD'=>bC' bD' aG' aH') fun aI' l' aJ'=>aA (b7 a' (Value.bool true) aI') fun aK'=>aV aK' (∃ aL',aU aL' l'∧K (Value.bool false) aL' (aJ'+1)) (aA (aT 257 (ptr nx)) fun aM'=>aA (load1 ro l' aM') fun aN'=>aA (bM aN') fun bE'=>dC (xE ro) (puts (gS [v0]) [(1,(ptr nx)),(2,(Value.bool false)),(6,p'),(7,q'),(8,r'),(9,b'),(10,b'),(11,s'),(12,u'),(13,x'),(14,A'),(15,c'),(16,c'),(17,D'),(18,F'),(19,I'),(20,L'),(21,d'),(22,d'),(23,O'),(24,Q'),(25,T'),(26,W'),(27,a'),(28,a'),(29,Z'),(30,ab'),(31,ae'),(32,ah'),(33,aj'),(34,am'),(35,ap'),(36,ar'),(37,au'),(38,ax'),(39,az'),(40,aC'),(41,aF'),(42,aI'),(43,aK'),(44,aM'),(45,aN'),(46,bE'),(47,(Value.int IntKind.i64 0))]) l' (aJ'+4) fun bF' m' n' o'=>iM bF' (mI ro K m' n' o') (fun bG'=>dE (Nat.beq bG' 0) (mI ro K m' n' o') (False)) (∃ aO',aU aO' n'∧K (m' 2) aO' o'))
theorem aH8 {ro:Ro}{v0:Value}{h:T Obj}{nx:Nat}{K:KV} (hw:aFs ro v0 h nx K):aN Tryz.prog ro zF [v0] h nx K:=zzO (fn:=Tryz.f48) hw
@[irreducible] def qB (ro:Ro) (v0 v1:Value) (h:T Obj) (nx:Nat) (K:KV):Prop:=aN Tryz.prog ro qP [v0,v1] h (nx+4) fun a' h2 n3=>aA (aP .geq a' (Value.int IntKind.i64 0)) fun b'=>∃ h5,aU h5 h2∧K b' h5 (n3+2)
theorem vX {ro:Ro}{v0 v1:Value}{h:T Obj}{nx:Nat}{K:KV} (hw:qB ro v0 v1 h nx K):aN Tryz.prog ro gW [v0,v1] h nx K:=zzO (fn:=Tryz.f53) hw
@[irreducible] def vK (ro:Ro) (K:KV):dF→T Obj→Nat→Prop:=fun e h nx=>∃ h1,aU h1 h∧K (Value.bool true) h1 (nx+1)
@[irreducible] def aBA (ro:Ro):PT:=fun e h nx Q=>aA (bM (e 0)) fun d'=>aA (aP .lss (e 5) d') fun e'=>aV e' (aA (cD 1 (e 0) (e 5)) fun f'=>aA (load1 ro h f') fun g'=>aA (aP .lss g' (Value.int IntKind.i64 0)) fun b'=>bF b' false h (nx+33) (fun k7=>k7 (e 0) h (nx+33)) fun h' h9 E'=>bF b' false h9 E' (fun ap'=>ap' (e 5) h9 E') fun i' F' G'=>bF b' false F' G' (fun aq'=>aA (cD 1 h' i') fun ar'=>aq' ar' F' G') fun j' k' H'=>bF b' false k' H' (fun as'=>aA (load1 ro k' j') fun at'=>as' at' k' H') fun l' I' J'=>bF b' false I' J' (fun au'=>au' (e 1) I' J') fun m' K' L'=>bF b' false K' L' (fun av'=>aA (aP .geq l' m') fun aw'=>av' aw' K' L') fun n' M' N'=>aA (b7 b' (Value.bool true) n') fun c'=>bF c' false M' N' (fun ax'=>ax' (e 5) M' N') fun o' O' P'=>bF c' false O' P' (fun ay'=>aA (aP .gtr o' (Value.int IntKind.i64 0)) fun az'=>ay' az' O' P') fun p' Q' R'=>bF c' false Q' R' (fun aA'=>aA' p' Q' R') fun a' S' T'=>bF a' true S' T' (fun aB'=>aB' (e 0) S' T') fun q' U' V'=>bF a' true U' V' (fun aC'=>aC' (e 5) U' V') fun r' W' X'=>bF a' true W' X' (fun aD'=>aA (aP .sub r' (Value.int IntKind.i64 1)) fun aE'=>aD' aE' W' X') fun s' Y' Z'=>bF a' true Y' Z' (fun aF'=>aA (cD 1 q' s') fun aG'=>aF' aG' Y' Z') fun t' u' aa'=>bF a' true u' aa' (fun aH'=>aA (load1 ro u' t') fun aI'=>aH' aI' u' aa') fun v' ab' ac'=>bF a' true ab' ac' (fun aJ'=>aJ' (e 0) ab' ac') fun w' ad' ae'=>bF a' true ad' ae' (fun aK'=>aK' (e 5) ad' ae') fun x' af' ag'=>bF a' true af' ag' (fun aL'=>aA (cD 1 w' x') fun aM'=>aL' aM' af' ag') fun y' z' ah'=>bF a' true z' ah' (fun aN'=>aA (load1 ro z' y') fun aO'=>aN' aO' z' ah') fun A' ai' aj'=>bF a' true ai' aj' (fun aP'=>aA (aP .geq v' A') fun aQ'=>aP' aQ' ai' aj') fun B' ak' al'=>bF c' false ak' al' (fun aR'=>aA (b7 a' B' (Value.bool false)) fun aS'=>aR' aS' ak' al') fun C' am' an'=>aA (b7 c' (Value.bool true) C') fun D'=>aV D' (Q .ret (puts e [(6,(e 5)),(7,(e 0)),(8,d'),(9,e'),(12,(e 0)),(13,(e 5)),(14,f'),(15,g'),(16,b'),(17,b'),(18,h'),(19,i'),(20,j'),(21,l'),(22,m'),(23,n'),(24,c'),(25,c'),(26,o'),(27,p'),(28,a'),(29,q'),(30,r'),(31,s'),(32,t'),(33,v'),(34,w'),(35,x'),(36,y'),(37,A'),(38,B'),(39,C'),(40,D'),(4,(Value.bool false))]) am' (an'+1)) (aA (aP .add (e 5) (Value.int IntKind.i64 1)) fun ao'=>Q .normal (puts e [(6,(e 5)),(7,(e 0)),(8,d'),(9,e'),(12,(e 0)),(13,(e 5)),(14,f'),(15,g'),(16,b'),(17,b'),(18,h'),(19,i'),(20,j'),(21,l'),(22,m'),(23,n'),(24,c'),(25,c'),(26,o'),(27,p'),(28,a'),(29,q'),(30,r'),(31,s'),(32,t'),(33,v'),(34,w'),(35,x'),(36,y'),(37,A'),(38,B'),(39,C'),(40,D'),(10,(e 5)),(11,ao'),(5,ao')]) am' (an'+3))) (Q (.exit 0) (puts e [(6,(e 5)),(7,(e 0)),(8,d'),(9,e')]) h (nx+4))
@[irreducible] def aFN (ro:Ro) (v0 v1:Value) (h:T Obj) (nx:Nat) (K:KV):Prop:=dC (aBA ro) (puts (gS [v0,v1]) [(4,(Value.bool false)),(5,(Value.int IntKind.i64 0))]) h (nx+2) fun x104 e101 h102 n103=>iM x104 (vK ro K e101 h102 n103) (fun i105=>dE (Nat.beq i105 0) (vK ro K e101 h102 n103) (False)) (∃ h106,aU h106 h102∧K (e101 4) h106 n103)
theorem aHD {ro:Ro}{v0 v1:Value}{h:T Obj}{nx:Nat}{K:KV} (hw:aFN ro v0 v1 h nx K):aN Tryz.prog ro rV [v0,v1] h nx K:=zzO (fn:=Tryz.f83) hw
@[irreducible] def vA (ro:Ro) (K:KV):dF→T Obj→Nat→Prop:=fun e h nx=>∃ h22,aU h22 h∧K (e 3) h22 (nx+2)
@[irreducible] def qS (ro:Ro) (Q:KE):dF→T Obj→Nat→Prop:=fun e h nx=>aA (aP .add (e 4) (Value.int IntKind.i64 1)) fun a'=>Q .normal (puts e [(18,(e 4)),(19,a'),(4,a')]) h (nx+3)
@[irreducible] def aAl (ro:Ro):PT:=fun e h nx Q=>aA (aT 256 (e 1)) fun c'=>aA (load1 ro h c') fun d'=>aA (aP .lss (e 4) d') fun e'=>aV e' (aA (loadA ro h 257 (e 1)) fun h'=>aN Tryz.prog ro aAb [h',(e 4)] h (nx+7) fun i' q' r'=>aN Tryz.prog ro zH [i'] q' (r'+1) fun a' j' b'=>aA (bM a') fun k'=>aA (aP .eql k' (Value.int IntKind.i64 0)) fun l'=>aV l' (aA (bC Tryz.prog cB (b'+5) 1 [(0,(Value.int IntKind.u8 0))]) fun m'=>eJ j' (b'+5) m'.2 fun s'=>aA (bY Tryz.prog ro s' (b'+7) #[cB,cB] [(e 3),m'.1]) fun f'=>qS ro Q (puts e [(14,(e 4)),(15,c'),(16,d'),(17,e'),(20,h'),(21,(e 4)),(22,i'),(23,a'),(5,a'),(24,a'),(25,k'),(26,l'),(27,(e 3)),(28,m'.1),(29,f'.1),(3,f'.1)]) f'.2.1 (f'.2.2+1)) (aA (cD 1 a' (Value.int IntKind.i64 0)) fun o'=>aA (load1 ro j' o') fun p'=>aA (bC Tryz.prog cB (b'+8) 1 [(0,p')]) fun n'=>eJ j' (b'+8) n'.2 fun t'=>aA (bY Tryz.prog ro t' (b'+10) #[cB,cB] [(e 3),n'.1]) fun g'=>qS ro Q (puts e [(14,(e 4)),(15,c'),(16,d'),(17,e'),(20,h'),(21,(e 4)),(22,i'),(23,a'),(5,a'),(24,a'),(25,k'),(26,l'),(30,(e 3)),(31,a'),(32,o'),(33,p'),(34,n'.1),(35,g'.1),(3,g'.1)]) g'.2.1 (g'.2.2+1))) (Q (.exit 0) (puts e [(14,(e 4)),(15,c'),(16,d'),(17,e')]) h (nx+4))
@[irreducible] def aFA (ro:Ro) (v0:Value) (h:T Obj) (nx:Nat) (K:KV):Prop:=dL h nx (.cells (Value.cells v0) cT) fun h1=>aA (aT 256 (ptr nx)) fun e'=>aA (load1 ro h1 e') fun f'=>aA (aP .lss f' (Value.int IntKind.i64 1)) fun a'=>bF a' false h1 (nx+6) (fun k5=>aA (aT 256 (ptr nx)) fun q'=>k5 q' h1 (nx+7)) fun g' h7 n8=>bF a' false h7 n8 (fun r'=>aA (load1 ro h7 g') fun s'=>r' s' h7 (n8+1)) fun h' i' j'=>bF a' false i' j' (fun t'=>aA (aP .gtr h' (Value.int IntKind.i64 256)) fun u'=>t' u' i' (j'+1)) fun k' l' m'=>aA (b7 a' (Value.bool true) k') fun n'=>aV n' (∃ o',aU o' l'∧K (Value.slice none 0 0) o' (m'+2)) (dC (aAl ro) (puts (gS [v0]) [(1,(ptr nx)),(2,(Value.slice none 0 0)),(6,e'),(7,f'),(8,a'),(9,a'),(10,g'),(11,h'),(12,k'),(13,n'),(3,(Value.slice none 0 0)),(4,(Value.int IntKind.i64 0))]) l' (m'+3) fun v' b' c' d'=>iM v' (vA ro K b' c' d') (fun w'=>dE (Nat.beq w' 0) (vA ro K b' c' d') (False)) (∃ p',aU p' c'∧K (b' 2) p' d'))
theorem aGq {ro:Ro}{v0:Value}{h:T Obj}{nx:Nat}{K:KV} (hw:aFA ro v0 h nx K):aN Tryz.prog ro oZ [v0] h nx K:=zzO (fn:=Tryz.f86) hw
@[irreducible] def aIh (ro:Ro) (v0 v1:Value) (h:T Obj) (nx:Nat) (K:KV):Prop:=dL h nx (.cells (Value.cells v0) bR) fun h1=>aA (aP .quo v1 (Value.int IntKind.u8 64)) fun a'=>aA (ixArr 4 1 (ptr nx) a') fun b'=>aA (load1 ro h1 b') fun c'=>aA (aP .rem v1 (Value.int IntKind.u8 64)) fun d'=>aA (aP .shr c' d') fun e'=>aA (aP .rem e' (Value.int IntKind.u64 2)) fun f'=>aA (aP .eql f' (Value.int IntKind.u64 1)) fun g'=>∃ h9,aU h9 h1∧K g' h9 (nx+12)
theorem aJn {ro:Ro}{v0 v1:Value}{h:T Obj}{nx:Nat}{K:KV} (hw:aIh ro v0 v1 h nx K):aN Tryz.prog ro lM [v0,v1] h nx K:=zzO (fn:=Tryz.f87) hw
@[irreducible] def vY (ro:Ro) (K:KV):dF→T Obj→Nat→Prop:=fun e h nx=>aA (aT 256 (e 1)) fun a'=>aA (load1 ro h a') fun b'=>aA (aP .eql (e 3) b') fun c'=>∃ h5,aU h5 h∧K c' h5 (nx+5)
@[irreducible] def qW (ro:Ro) (Q:KE):dF→T Obj→Nat→Prop:=fun e h nx=>aA (aP .add (e 8) (Value.int IntKind.i64 1)) fun a'=>Q .normal (puts e [(23,a'),(8,a')]) h (nx+2)
@[irreducible] def aBQ (ro:Ro):PT:=fun e h nx Q=>aA (aP .lss (e 8) (Value.int IntKind.i64 256)) fun c'=>aV c' (aA (aTe 256 1 (e 7) (e 8)) fun a'=>aA (wB .i64 a') fun e'=>aA (aP .gtr e' (e 3)) fun b'=>aV b' (Q .ret (puts e [(9,c'),(10,a'),(5,a'),(12,a'),(13,e'),(14,(e 3)),(15,b'),(11,b'),(2,(Value.bool false))]) h (nx+9)) (aA (wB .i64 a') fun f'=>aA (aP .eql f' (e 3)) fun d'=>aV d' (aA (aP .add (e 3) (Value.int IntKind.i64 1)) fun g'=>qW ro Q (puts e [(9,c'),(10,a'),(5,a'),(12,a'),(13,e'),(14,(e 3)),(15,b'),(11,b'),(17,a'),(18,f'),(19,(e 3)),(20,d'),(16,d'),(21,(e 3)),(22,g'),(3,g')]) h (nx+16)) (qW ro Q (puts e [(9,c'),(10,a'),(5,a'),(12,a'),(13,e'),(14,(e 3)),(15,b'),(11,b'),(17,a'),(18,f'),(19,(e 3)),(20,d'),(16,d')]) h (nx+13)))) (Q (.exit 0) (puts e [(9,c')]) h (nx+1))
@[irreducible] def aFT (ro:Ro) (v0:Value) (h:T Obj) (nx:Nat) (K:KV):Prop:=dL h nx (.cells (Value.cells v0) cT) fun h1=>aA (aT 0 (ptr nx)) fun d'=>aA (loadA ro h1 256 d') fun f'=>dC (aBQ ro) (puts (gS [v0]) [(1,(ptr nx)),(2,(Value.bool false)),(3,(Value.int IntKind.i64 0)),(6,d'),(7,f'),(8,(Value.int IntKind.i64 0))]) h1 (nx+6) fun g' a' b' c'=>iM g' (vY ro K a' b' c') (fun h'=>dE (Nat.beq h' 0) (vY ro K a' b' c') (False)) (∃ e',aU e' b'∧K (a' 2) e' c')
theorem aHV {ro:Ro}{v0:Value}{h:T Obj}{nx:Nat}{K:KV} (hw:aFT ro v0 h nx K):aN Tryz.prog ro xO [v0] h nx K:=zzO (fn:=Tryz.f91) hw
@[irreducible] def hU (ro:Ro) (v0 v1:Value) (h:T Obj) (nx:Nat) (K:KV):Prop:=aN Tryz.prog ro fJ [v0,v1] h (nx+4) fun a' h2 n3=>aA (aP .geq a' (Value.int IntKind.i64 0)) fun b'=>∃ h5,aU h5 h2∧K b' h5 (n3+2)
theorem mA {ro:Ro}{v0 v1:Value}{h:T Obj}{nx:Nat}{K:KV} (hw:hU ro v0 v1 h nx K):aN Tryz.prog ro eX [v0,v1] h nx K:=zzO (fn:=Tryz.f92) hw
@[irreducible] def aCt (ro:Ro) (v0 v1:Value) (h:T Obj) (nx:Nat) (K:KV):Prop:=dL h nx (.cells (Value.cells v0) aR) fun h1=>aA (loadA ro h1 259 v1) fun a'=>aA (loadA ro h1 4 (ptr nx)) fun b'=>aN Tryz.prog ro nM [a',b'] h1 (nx+5) fun c' h5 n6=>aA (unV .not c') fun d'=>∃ h8,aU h8 h5∧K d' h8 (n6+2)
theorem aFW {ro:Ro}{v0 v1:Value}{h:T Obj}{nx:Nat}{K:KV} (hw:aCt ro v0 v1 h nx K):aN Tryz.prog ro uP [v0,v1] h nx K:=zzO (fn:=Tryz.f93) hw
@[irreducible] def mL (ro:Ro) (K:KV):dF→T Obj→Nat→Prop:=fun e h nx=>∃ h127,aU h127 h∧K (Value.bool true) h127 (nx+1)
@[irreducible] def qZ (ro:Ro):PT:=fun e h nx Q=>aA (aP .lss (e 47) (e 46)) fun d'=>aV d' (aA (cD 1 (e 45) (e 47)) fun e'=>aA (load1 ro h e') fun c'=>aA (aT 2 (e 3)) fun f'=>aA (load1 ro h f') fun g'=>aA (cD 1 g' (e 47)) fun h'=>aA (load1 ro h h') fun i'=>aA (aP .lss i' (Value.int IntKind.i64 (-1))) fun b'=>bF b' false h (nx+13) (fun ab'=>aA (aT 2 (e 3)) fun ac'=>ab' ac' h (nx+14)) fun j' x' B'=>bF b' false x' B' (fun ad'=>aA (load1 ro x' j') fun ae'=>ad' ae' x' (B'+1)) fun k' C' D'=>bF b' false C' D' (fun af'=>af' (e 47) C' (D'+1)) fun l' E' F'=>bF b' false E' F' (fun ag'=>aA (cD 1 k' l') fun ah'=>ag' ah' E' (F'+1)) fun m' y' G'=>bF b' false y' G' (fun ai'=>aA (load1 ro y' m') fun aj'=>ai' aj' y' (G'+1)) fun n' H' I'=>bF b' false H' I' (fun ak'=>aA (aP .geq n' (Value.int IntKind.i64 512)) fun al'=>ak' al' H' (I'+1)) fun o' J' K'=>aA (b7 b' (Value.bool true) o') fun a'=>bF a' false J' (K'+2) (fun am'=>am' c' J' (K'+3)) fun p' L' M'=>bF a' false L' M' (fun an'=>aA (bM p') fun ao'=>an' ao' L' (M'+1)) fun q' N' O'=>bF a' false N' O' (fun ap'=>aA (aT 0 (e 2)) fun aq'=>ap' aq' N' (O'+1)) fun r' P' Q'=>bF a' false P' Q' (fun ar'=>aA (aT 0 r') fun as'=>ar' as' P' (Q'+1)) fun s' R' S'=>bF a' false R' S' (fun at'=>aA (aT 256 s') fun au'=>at' au' R' (S'+1)) fun t' z' T'=>bF a' false z' T' (fun av'=>aA (load1 ro z' t') fun aw'=>av' aw' z' (T'+1)) fun u' U' V'=>bF a' false U' V' (fun ax'=>aA (aP .neq q' u') fun ay'=>ax' ay' U' (V'+1)) fun v' W' X'=>aA (b7 a' (Value.bool true) v') fun w'=>aV w' (Q .ret (puts e [(48,d'),(49,(e 47)),(50,e'),(51,c'),(6,(e 47)),(7,c'),(52,f'),(53,g'),(54,(e 47)),(55,h'),(56,i'),(57,b'),(58,b'),(59,j'),(60,k'),(61,l'),(62,m'),(63,n'),(64,o'),(65,a'),(66,a'),(67,p'),(68,q'),(69,r'),(70,s'),(71,t'),(72,u'),(73,v'),(74,w'),(4,(Value.bool false))]) W' (X'+2)) (aN Tryz.prog ro fE [c',(.func (.func gI) #[] #[(e 2),(e 3)])] W' (X'+4) fun A' Y' Z'=>aV A' (Q .ret (puts e [(48,d'),(49,(e 47)),(50,e'),(51,c'),(6,(e 47)),(7,c'),(52,f'),(53,g'),(54,(e 47)),(55,h'),(56,i'),(57,b'),(58,b'),(59,j'),(60,k'),(61,l'),(62,m'),(63,n'),(64,o'),(65,a'),(66,a'),(67,p'),(68,q'),(69,r'),(70,s'),(71,t'),(72,u'),(73,v'),(74,w'),(75,c'),(76,(.func (.func gI) #[] #[(e 2),(e 3)])),(77,A'),(4,(Value.bool false))]) Y' (Z'+1)) (aA (aP .add (e 47) (Value.int IntKind.i64 1)) fun aa'=>Q .normal (puts e [(48,d'),(49,(e 47)),(50,e'),(51,c'),(6,(e 47)),(7,c'),(52,f'),(53,g'),(54,(e 47)),(55,h'),(56,i'),(57,b'),(58,b'),(59,j'),(60,k'),(61,l'),(62,m'),(63,n'),(64,o'),(65,a'),(66,a'),(67,p'),(68,q'),(69,r'),(70,s'),(71,t'),(72,u'),(73,v'),(74,w'),(75,c'),(76,(.func (.func gI) #[] #[(e 2),(e 3)])),(77,A'),(78,aa'),(47,aa')]) Y' (Z'+2)))) (Q (.exit 0) (puts e [(48,d')]) h (nx+1))
@[irreducible] def uD (ro:Ro) (v0 v1:Value) (h:T Obj) (nx:Nat) (K:KV):Prop:=dL h nx (.cells (Value.cells v0) eG) fun h1=>dL h1 (nx+1) (.cells (Value.cells v1) aR) fun h2=>aA (aT 1 (ptr (nx+1))) fun o'=>aA (load1 ro h2 o') fun p'=>aA (bM p') fun q'=>aN Tryz.prog ro zE [q'] h2 (nx+7) fun e' h7 n8=>aA (aP .eql e' (Value.int IntKind.i64 0)) fun b'=>bF b' false h7 (n8+4) (fun aE'=>aA (aT 2 (ptr (nx+1))) fun aF'=>aE' aF' h7 (n8+5)) fun r' f' s'=>bF b' false f' s' (fun aG'=>aA (load1 ro f' r') fun aH'=>aG' aH' f' (s'+1)) fun t' u' v'=>bF b' false u' v' (fun aI'=>aA (bM t') fun aJ'=>aI' aJ' u' (v'+1)) fun w' x' y'=>bF b' false x' y' (fun aK'=>aK' e' x' (y'+1)) fun z' A' B'=>bF b' false A' B' (fun aL'=>aA (aP .neq w' z') fun aM'=>aL' aM' A' (B'+1)) fun C' D' E'=>aA (b7 b' (Value.bool true) C') fun c'=>bF c' false D' (E'+2) (fun aN'=>aA (aT 3 (ptr (nx+1))) fun aO'=>aN' aO' D' (E'+3)) fun F' g' G'=>bF c' false g' G' (fun aP'=>aA (load1 ro g' F') fun aQ'=>aP' aQ' g' (G'+1)) fun H' I' J'=>bF c' false I' J' (fun aR'=>aA (bM H') fun aS'=>aR' aS' I' (J'+1)) fun K' L' M'=>bF c' false L' M' (fun aT'=>aT' e' L' (M'+1)) fun N' O' P'=>bF c' false O' P' (fun aU'=>aA (aP .neq K' N') fun aV'=>aU' aV' O' (P'+1)) fun Q' R' S'=>aA (b7 c' (Value.bool true) Q') fun d'=>bF d' false R' (S'+2) (fun aW'=>aA (aT 0 (ptr (nx+1))) fun aX'=>aW' aX' R' (S'+3)) fun T' h' U'=>bF d' false h' U' (fun aY'=>aA (load1 ro h' T') fun aZ'=>aY' aZ' h' (U'+1)) fun V' W' X'=>bF d' false W' X' (fun a0'=>aN Tryz.prog ro tM [V',(Value.int IntKind.i64 512)] W' (X'+1) fun a1' a2' a3'=>a0' a1' a2' a3') fun Y' Z' aa'=>bF d' false Z' aa' (fun a4'=>aA (unV .not Y') fun a5'=>a4' a5' Z' (aa'+1)) fun ab' ac' ad'=>aA (b7 d' (Value.bool true) ab') fun a'=>bF a' false ac' (ad'+2) (fun a6'=>aA (aT 1 (ptr (nx+1))) fun a7'=>a6' a7' ac' (ad'+3)) fun ae' i' af'=>bF a' false i' af' (fun a8'=>aA (load1 ro i' ae') fun a9'=>a8' a9' i' (af'+1)) fun ag' ah' ai'=>bF a' false ah' ai' (fun ba'=>aA (aT 0 (ptr nx)) fun bb'=>ba' bb' ah' (ai'+1)) fun aj' ak' al'=>bF a' false ak' al' (fun bc'=>aA (aT 257 aj') fun bd'=>bc' bd' ak' (al'+1)) fun am' j' an'=>bF a' false j' an' (fun be'=>aA (load1 ro j' am') fun bf'=>be' bf' j' (an'+1)) fun ao' ap' aq'=>bF a' false ap' aq' (fun bg'=>aA (bM ao') fun bh'=>bg' bh' ap' (aq'+1)) fun ar' as' at'=>bF a' false as' at' (fun bi'=>aN Tryz.prog ro tM [ag',ar'] as' (at'+1) fun bj' bk' bl'=>bi' bj' bk' bl') fun au' av' aw'=>bF a' false av' aw' (fun bm'=>aA (unV .not au') fun bn'=>bm' bn' av' (aw'+1)) fun ax' k' ay'=>aA (b7 a' (Value.bool true) ax') fun az'=>aV az' (∃ aA',aU aA' k'∧K (Value.bool false) aA' (ay'+2)) (aA (aT 3 (ptr (nx+1))) fun aB'=>aA (load1 ro k' aB') fun aC'=>aA (bM aC') fun bo'=>dC (qZ ro) (puts (gS [v0,v1]) [(2,(ptr nx)),(3,(ptr (nx+1))),(4,(Value.bool false)),(8,o'),(9,p'),(10,q'),(11,e'),(5,e'),(12,e'),(13,b'),(14,b'),(15,r'),(16,t'),(17,w'),(18,z'),(19,C'),(20,c'),(21,c'),(22,F'),(23,H'),(24,K'),(25,N'),(26,Q'),(27,d'),(28,d'),(29,T'),(30,V'),(31,Y'),(32,ab'),(33,a'),(34,a'),(35,ae'),(36,ag'),(37,aj'),(38,am'),(39,ao'),(40,ar'),(41,au'),(42,ax'),(43,az'),(44,aB'),(45,aC'),(46,bo'),(47,(Value.int IntKind.i64 0))]) k' (ay'+5) fun bp' l' m' n'=>iM bp' (mL ro K l' m' n') (fun bq'=>dE (Nat.beq bq' 0) (mL ro K l' m' n') (False)) (∃ aD',aU aD' m'∧K (l' 4) aD' n'))
theorem aAK {ro:Ro}{v0 v1:Value}{h:T Obj}{nx:Nat}{K:KV} (hw:uD ro v0 v1 h nx K):aN Tryz.prog ro nM [v0,v1] h nx K:=zzO (fn:=Tryz.f94) hw
@[irreducible] def pF (ro:Ro) (v0:Value) (h:T Obj) (nx:Nat) (K:KV):Prop:=aA (slB .eql v0 (Value.slice none 0 0)) fun a'=>aV a' (∃ h2,aU h2 h∧K (Value.slice none 0 0) h2 (nx+4)) (aA (bC Tryz.prog gZ (nx+3) 0 []) fun r3=>eJ h (nx+3) r3.2 fun h4=>aA (bY Tryz.prog ro h4 (nx+6) #[gZ,gZ] [r3.1,v0]) fun r5=>∃ h6,aU h6 r5.2.1∧K r5.1 h6 (r5.2.2+1))
theorem tU {ro:Ro}{v0:Value}{h:T Obj}{nx:Nat}{K:KV} (hw:pF ro v0 h nx K):aN Tryz.prog ro jA [v0] h nx K:=zzO (fn:=Tryz.f95) hw
@[irreducible] def sS (ro:Ro) (v0:Value) (h:T Obj) (nx:Nat) (K:KV):Prop:=aA (slB .eql v0 (Value.slice none 0 0)) fun a'=>aV a' (∃ h2,aU h2 h∧K (Value.slice none 0 0) h2 (nx+4)) (aA (bC Tryz.prog cR (nx+3) 0 []) fun r3=>eJ h (nx+3) r3.2 fun h4=>aA (bY Tryz.prog ro h4 (nx+6) #[cR,cR] [r3.1,v0]) fun r5=>∃ h6,aU h6 r5.2.1∧K r5.1 h6 (r5.2.2+1))
theorem yS {ro:Ro}{v0:Value}{h:T Obj}{nx:Nat}{K:KV} (hw:sS ro v0 h nx K):aN Tryz.prog ro iX [v0] h nx K:=zzO (fn:=Tryz.f96) hw
@[irreducible] def lG (ro:Ro) (v0:Value) (h:T Obj) (nx:Nat) (K:KV):Prop:=aA (slB .eql v0 (Value.slice none 0 0)) fun a'=>aV a' (∃ h2,aU h2 h∧K (Value.slice none 0 0) h2 (nx+4)) (aA (bC Tryz.prog bP (nx+3) 0 []) fun r3=>eJ h (nx+3) r3.2 fun h4=>aA (bY Tryz.prog ro h4 (nx+6) #[bP,bP] [r3.1,v0]) fun r5=>∃ h6,aU h6 r5.2.1∧K r5.1 h6 (r5.2.2+1))
theorem qE {ro:Ro}{v0:Value}{h:T Obj}{nx:Nat}{K:KV} (hw:lG ro v0 h nx K):aN Tryz.prog ro gK [v0] h nx K:=zzO (fn:=Tryz.f97) hw
@[irreducible] def pG (ro:Ro) (v0:Value) (h:T Obj) (nx:Nat) (K:KV):Prop:=aA (slB .eql v0 (Value.slice none 0 0)) fun a'=>aV a' (∃ h2,aU h2 h∧K (Value.slice none 0 0) h2 (nx+4)) (aA (bC Tryz.prog cB (nx+3) 0 []) fun r3=>eJ h (nx+3) r3.2 fun h4=>aA (bY Tryz.prog ro h4 (nx+6) #[cB,cB] [r3.1,v0]) fun r5=>∃ h6,aU h6 r5.2.1∧K r5.1 h6 (r5.2.2+1))
theorem tV {ro:Ro}{v0:Value}{h:T Obj}{nx:Nat}{K:KV} (hw:pG ro v0 h nx K):aN Tryz.prog ro jB [v0] h nx K:=zzO (fn:=Tryz.f98) hw
@[irreducible] def lH (ro:Ro) (K:KV):dF→T Obj→Nat→Prop:=fun e h nx=>∃ h1,aU h1 h∧K (Value.int IntKind.i64 (-1)) h1 (nx+1)
@[irreducible] def qC (ro:Ro):PT:=fun e h nx Q=>aA (aP .lss (e 8) (e 7)) fun a'=>aV a' (aA (cD 1 (e 0) (e 8)) fun b'=>aA (load1 ro h b') fun c'=>aA (aP .eql (e 1) c') fun d'=>aV d' (Q .ret (puts e [(9,a'),(10,(e 8)),(5,(e 8)),(11,(e 1)),(12,(e 0)),(13,(e 8)),(14,b'),(15,c'),(16,d'),(17,(e 8)),(4,(e 8))]) h (nx+11)) (aA (aP .add (e 8) (Value.int IntKind.i64 1)) fun e'=>Q .normal (puts e [(9,a'),(10,(e 8)),(5,(e 8)),(11,(e 1)),(12,(e 0)),(13,(e 8)),(14,b'),(15,c'),(16,d'),(18,e'),(8,e')]) h (nx+11))) (Q (.exit 0) (puts e [(9,a')]) h (nx+1))
@[irreducible] def sT (ro:Ro) (v0 v1:Value) (h:T Obj) (nx:Nat) (K:KV):Prop:=aA (bM v0) fun c'=>dC (qC ro) (puts (gS [v0,v1]) [(4,(Value.int IntKind.i64 0)),(6,v0),(7,c'),(8,(Value.int IntKind.i64 0))]) h (nx+4) fun d' e8 h9 a'=>iM d' (lH ro K e8 h9 a') (fun e'=>dE (Nat.beq e' 0) (lH ro K e8 h9 a') (False)) (∃ b',aU b' h9∧K (e8 4) b' a')
theorem yT {ro:Ro}{v0 v1:Value}{h:T Obj}{nx:Nat}{K:KV} (hw:sT ro v0 v1 h nx K):aN Tryz.prog ro qP [v0,v1] h nx K:=zzO (fn:=Tryz.f102) hw
@[irreducible] def xS (ro:Ro) (K:KV):dF→T Obj→Nat→Prop:=fun e h nx=>∃ h2,aU h2 h∧K (e 3) h2 (nx+2)
@[irreducible] def rX (ro:Ro) (Q:KE):dF→T Obj→Nat→Prop:=fun e h nx=>aA (aP .add (e 4) (Value.int IntKind.i64 1)) fun a'=>Q .normal (puts e [(7,(e 4)),(8,a'),(4,a')]) h (nx+3)
@[irreducible] def aBz (ro:Ro):PT:=fun e h nx Q=>aA (aP .lss (e 4) (Value.int IntKind.i64 256)) fun a'=>aV a' (aA (loadA ro h 4 (e 1)) fun c'=>aA (wB .u8 (e 4)) fun d'=>aN Tryz.prog ro lM [c',d'] h (nx+6) fun e' h8 n9=>aV e' (aA (wB .u8 (e 4)) fun g'=>aA (bC Tryz.prog cB (n9+3) 1 [(0,g')]) fun f'=>eJ h8 (n9+3) f'.2 fun h'=>aA (bY Tryz.prog ro h' (n9+5) #[cB,cB] [(e 3),f'.1]) fun b'=>rX ro Q (puts e [(5,(e 4)),(6,a'),(9,c'),(10,(e 4)),(11,d'),(12,e'),(13,(e 3)),(14,(e 4)),(15,g'),(16,f'.1),(17,b'.1),(3,b'.1)]) b'.2.1 (b'.2.2+1)) (rX ro Q (puts e [(5,(e 4)),(6,a'),(9,c'),(10,(e 4)),(11,d'),(12,e')]) h8 n9)) (Q (.exit 0) (puts e [(5,(e 4)),(6,a')]) h (nx+2))
@[irreducible] def aGo (ro:Ro) (v0:Value) (h:T Obj) (nx:Nat) (K:KV):Prop:=dL h nx (.cells (Value.cells v0) bR) fun h1=>dC (aBz ro) (puts (gS [v0]) [(1,(ptr nx)),(2,(Value.slice none 0 0)),(3,(Value.slice none 0 0)),(4,(Value.int IntKind.i64 0))]) h1 (nx+4) fun x17 e14 h15 n16=>iM x17 (xS ro K e14 h15 n16) (fun i18=>dE (Nat.beq i18 0) (xS ro K e14 h15 n16) (False)) (∃ h19,aU h19 h15∧K (e14 2) h19 n16)
theorem aHj {ro:Ro}{v0:Value}{h:T Obj}{nx:Nat}{K:KV} (hw:aGo ro v0 h nx K):aN Tryz.prog ro zH [v0] h nx K:=zzO (fn:=Tryz.f119) hw
@[irreducible] def zS (ro:Ro) (K:KV):dF→T Obj→Nat→Prop:=fun e h nx=>aN Tryz.prog ro aC6 [(e 5)] h (nx+2) fun a' h5 n6=>aA (bH 4 h5 (e 4) a') fun h7=>aA (loadA ro h7 4 (e 4)) fun r8=>∃ h9,aU h9 h7∧K r8 h9 (n6+1)
@[irreducible] def tR (ro:Ro) (Q:KE):dF→T Obj→Nat→Prop:=fun e h nx=>aA (aP .add (e 6) (Value.int IntKind.i64 1)) fun a'=>Q .normal (puts e [(9,(e 6)),(10,a'),(6,a')]) h (nx+3)
@[irreducible] def aD7 (ro:Ro):PT:=fun e h nx Q=>aA (aP .lss (e 6) (Value.int IntKind.i64 256)) fun a'=>aV a' (aA (aT 0 (e 2)) fun c'=>aA (ixArr 256 1 c' (e 6)) fun d'=>aA (load1 ro h d') fun e'=>aA (wB .i64 e') fun f'=>aA (aP .eql f' (e 1)) fun g'=>aV g' (aA (wB .u8 (e 6)) fun i'=>aA (bC Tryz.prog cB (nx+12) 1 [(0,i')]) fun h'=>eJ h (nx+12) h'.2 fun j'=>aA (bY Tryz.prog ro j' (nx+14) #[cB,cB] [(e 5),h'.1]) fun b'=>tR ro Q (puts e [(7,(e 6)),(8,a'),(11,(e 6)),(12,c'),(13,d'),(14,e'),(15,f'),(16,(e 1)),(17,g'),(18,(e 5)),(19,(e 6)),(20,i'),(21,h'.1),(22,b'.1),(5,b'.1)]) b'.2.1 (b'.2.2+1)) (tR ro Q (puts e [(7,(e 6)),(8,a'),(11,(e 6)),(12,c'),(13,d'),(14,e'),(15,f'),(16,(e 1)),(17,g')]) h (nx+9))) (Q (.exit 0) (puts e [(7,(e 6)),(8,a')]) h (nx+2))
@[irreducible] def aIi (ro:Ro) (v0 v1:Value) (h:T Obj) (nx:Nat) (K:KV):Prop:=dL h nx (.cells (Value.cells v0) cT) fun h1=>aA (i8 Tryz.prog bR) fun z2=>dL h1 (nx+1) (.cells z2.cells bR) fun h3=>dC (aD7 ro) (puts (gS [v0,v1]) [(2,(ptr nx)),(4,(ptr (nx+1))),(5,(Value.slice none 0 0)),(6,(Value.int IntKind.i64 0))]) h3 (nx+4) fun x24 e21 h22 n23=>iM x24 (zS ro K e21 h22 n23) (fun i25=>dE (Nat.beq i25 0) (zS ro K e21 h22 n23) (False)) (aA (loadA ro h22 4 (e21 4)) fun r26=>∃ h27,aU h27 h22∧K r26 h27 n23)
theorem aJq {ro:Ro}{v0 v1:Value}{h:T Obj}{nx:Nat}{K:KV} (hw:aIi ro v0 v1 h nx K):aN Tryz.prog ro aAb [v0,v1] h nx K:=zzO (fn:=Tryz.f120) hw
@[irreducible] def aBL (ro:Ro) (K:KV):dF→T Obj→Nat→Prop:=fun e h nx=>∃ h1,aU h1 h∧K (Value.bool false) h1 (nx+1)
@[irreducible] def aFP (ro:Ro):PT:=fun e h nx Q=>aA (bM (e 0)) fun a'=>aA (aP .lss (e 5) a') fun b'=>aV b' (aA (cD 1 (e 0) (e 5)) fun c'=>aA (load1 ro h c') fun d'=>aA (aP .eql d' (e 1)) fun e'=>aV e' (Q .ret (puts e [(6,(e 5)),(7,(e 0)),(8,a'),(9,b'),(12,(e 0)),(13,(e 5)),(14,c'),(15,d'),(16,(e 1)),(17,e'),(4,(Value.bool true))]) h (nx+11)) (aA (aP .add (e 5) (Value.int IntKind.i64 1)) fun f'=>Q .normal (puts e [(6,(e 5)),(7,(e 0)),(8,a'),(9,b'),(12,(e 0)),(13,(e 5)),(14,c'),(15,d'),(16,(e 1)),(17,e'),(10,(e 5)),(11,f'),(5,f')]) h (nx+13))) (Q (.exit 0) (puts e [(6,(e 5)),(7,(e 0)),(8,a'),(9,b')]) h (nx+4))
@[irreducible] def aMC (ro:Ro) (v0 v1:Value) (h:T Obj) (nx:Nat) (K:KV):Prop:=dC (aFP ro) (puts (gS [v0,v1]) [(4,(Value.bool false)),(5,(Value.int IntKind.i64 0))]) h (nx+2) fun x11 e8 h9 n10=>iM x11 (aBL ro K e8 h9 n10) (fun i12=>dE (Nat.beq i12 0) (aBL ro K e8 h9 n10) (False)) (∃ h13,aU h13 h9∧K (e8 4) h13 n10)
theorem aMD {ro:Ro}{v0 v1:Value}{h:T Obj}{nx:Nat}{K:KV} (hw:aMC ro v0 v1 h nx K):aN Tryz.prog ro uR [v0,v1] h nx K:=zzO (fn:=Tryz.f121) hw
@[irreducible] def fF (ro:Ro) (K:KV):dF→T Obj→Nat→Prop:=fun e h nx=>∃ h1,aU h1 h∧K (Value.int IntKind.i64 (-1)) h1 (nx+1)
@[irreducible] def hY (ro:Ro):PT:=fun e h nx Q=>aA (aP .lss (e 8) (e 7)) fun a'=>aV a' (aA (cD 4 (e 0) (e 8)) fun b'=>aA (loadA ro h 4 b') fun c'=>aEl (aN Tryz.prog ro) (e 1) [c'] h (nx+9) fun d' h7 n8=>aV d' (Q .ret (puts e [(9,a'),(10,(e 8)),(5,(e 8)),(11,(e 1)),(12,(e 0)),(13,(e 8)),(14,b'),(15,c'),(16,d'),(17,(e 8)),(4,(e 8))]) h7 (n8+2)) (aA (aP .add (e 8) (Value.int IntKind.i64 1)) fun e'=>Q .normal (puts e [(9,a'),(10,(e 8)),(5,(e 8)),(11,(e 1)),(12,(e 0)),(13,(e 8)),(14,b'),(15,c'),(16,d'),(18,e'),(8,e')]) h7 (n8+2))) (Q (.exit 0) (puts e [(9,a')]) h (nx+1))
@[irreducible] def iU (ro:Ro) (v0 v1:Value) (h:T Obj) (nx:Nat) (K:KV):Prop:=aA (bM v0) fun e'=>dC (hY ro) (puts (gS [v0,v1]) [(4,(Value.int IntKind.i64 0)),(6,v0),(7,e'),(8,(Value.int IntKind.i64 0))]) h (nx+4) fun f' a' b' c'=>iM f' (fF ro K a' b' c') (fun g'=>dE (Nat.beq g' 0) (fF ro K a' b' c') (False)) (∃ d',aU d' b'∧K (a' 4) d' c')
theorem nD {ro:Ro}{v0 v1:Value}{h:T Obj}{nx:Nat}{K:KV} (hw:iU ro v0 v1 h nx K):aN Tryz.prog ro fJ [v0,v1] h nx K:=zzO (fn:=Tryz.f122) hw
@[irreducible] def xC (ro:Ro) (K:KV):dF→T Obj→Nat→Prop:=fun e h nx=>∃ h13,aU h13 h∧K (e 3) h13 (nx+2)
@[irreducible] def aBh (ro:Ro):PT:=fun e h nx Q=>aA (aP .lss (e 11) (e 10)) fun a'=>aV a' (aA (aP .mul (e 3) (Value.int IntKind.i64 3)) fun b'=>aA (aP .add (e 11) (Value.int IntKind.i64 1)) fun c'=>Q .normal (puts e [(12,a'),(13,(e 3)),(14,b'),(3,b'),(15,c'),(11,c')]) h (nx+6)) (Q (.exit 0) (puts e [(12,a')]) h (nx+1))
@[irreducible] def aFr (ro:Ro) (v0:Value) (h:T Obj) (nx:Nat) (K:KV):Prop:=aA (aP .lss v0 (Value.int IntKind.i64 0)) fun a'=>bF a' false h (nx+4) (fun k2=>k2 v0 h (nx+5)) fun e' h4 n5=>bF a' false h4 n5 (fun k6=>aA (aP .gtr e' (Value.int IntKind.i64 3)) fun j'=>k6 j' h4 (n5+1)) fun f' h8 n9=>aA (b7 a' (Value.bool true) f') fun g'=>aV g' (∃ h',aU h' h8∧K (Value.int IntKind.i64 0) h' (n9+2)) (dC (aBh ro) (puts (gS [v0]) [(2,(Value.int IntKind.i64 0)),(4,v0),(5,a'),(6,a'),(7,e'),(8,f'),(9,g'),(3,(Value.int IntKind.i64 1)),(10,v0),(11,(Value.int IntKind.i64 0))]) h8 (n9+4) fun k' b' c' d'=>iM k' (xC ro K b' c' d') (fun l'=>dE (Nat.beq l' 0) (xC ro K b' c' d') (False)) (∃ i',aU i' c'∧K (b' 2) i' d'))
theorem aH7 {ro:Ro}{v0:Value}{h:T Obj}{nx:Nat}{K:KV} (hw:aFr ro v0 h nx K):aN Tryz.prog ro zE [v0] h nx K:=zzO (fn:=Tryz.f123) hw
@[irreducible] def xF (ro:Ro) (K:KV):dF→T Obj→Nat→Prop:=fun e h nx=>∃ h1,aU h1 h∧K (Value.bool true) h1 (nx+1)
@[irreducible] def aBi (ro:Ro):PT:=fun e h nx Q=>aA (aP .lss (e 10) (e 9)) fun c'=>aV c' (aA (cD 1 (e 8) (e 10)) fun d'=>aA (load1 ro h d') fun a'=>aA (aP .leq a' (e 5)) fun b'=>bF b' false h (nx+8) (fun k7=>k7 a' h (nx+9)) fun e' h9 i'=>bF b' false h9 i' (fun o'=>o' (e 1) h9 (i'+1)) fun f' j' k'=>bF b' false j' k' (fun p'=>aA (aP .geq e' f') fun q'=>p' q' j' (k'+1)) fun g' l' m'=>aA (b7 b' (Value.bool true) g') fun h'=>aV h' (Q .ret (puts e [(11,c'),(12,d'),(13,a'),(7,a'),(14,a'),(15,(e 5)),(16,b'),(17,b'),(18,e'),(19,f'),(20,g'),(21,h'),(4,(Value.bool false))]) l' (m'+2)) (aA (aP .add (e 10) (Value.int IntKind.i64 1)) fun n'=>Q .normal (puts e [(11,c'),(12,d'),(13,a'),(7,a'),(14,a'),(15,(e 5)),(16,b'),(17,b'),(18,e'),(19,f'),(20,g'),(21,h'),(22,a'),(5,a'),(23,n'),(10,n')]) l' (m'+5))) (Q (.exit 0) (puts e [(11,c')]) h (nx+1))
@[irreducible] def aFu (ro:Ro) (v0 v1:Value) (h:T Obj) (nx:Nat) (K:KV):Prop:=aA (bM v0) fun e'=>dC (aBi ro) (puts (gS [v0,v1]) [(4,(Value.bool false)),(5,(Value.int IntKind.i64 (-1))),(8,v0),(9,e'),(10,(Value.int IntKind.i64 0))]) h (nx+5) fun f' a' b' c'=>iM f' (xF ro K a' b' c') (fun g'=>dE (Nat.beq g' 0) (xF ro K a' b' c') (False)) (∃ d',aU d' b'∧K (a' 4) d' c')
theorem aH9 {ro:Ro}{v0 v1:Value}{h:T Obj}{nx:Nat}{K:KV} (hw:aFu ro v0 v1 h nx K):aN Tryz.prog ro tM [v0,v1] h nx K:=zzO (fn:=Tryz.f124) hw
@[irreducible] def iR (ro:Ro) (v0 v1:Value) (h:T Obj) (nx:Nat) (K:KV):Prop:=aN Tryz.prog ro fQ [v0,v1] h (nx+4) fun a' h2 n3=>aA (aP .geq a' (Value.int IntKind.i64 0)) fun b'=>∃ h5,aU h5 h2∧K b' h5 (n3+2)
theorem mV {ro:Ro}{v0 v1:Value}{h:T Obj}{nx:Nat}{K:KV} (hw:iR ro v0 v1 h nx K):aN Tryz.prog ro fE [v0,v1] h nx K:=zzO (fn:=Tryz.f125) hw
@[irreducible] def sF (ro:Ro) (v0 v1 v2:Value) (h:T Obj) (nx:Nat) (K:KV):Prop:=dL h nx (.cells (Value.cells v0) bK) fun h1=>aA (loadA ro h1 259 v1) fun a'=>aA (loadA ro h1 4 v2) fun b'=>aA (loadA ro h1 2 (ptr nx)) fun c'=>aN Tryz.prog ro oP [a',b',c'] h1 (nx+6) fun d' h6 n7=>aA (unV .not d') fun e'=>∃ h9,aU h9 h6∧K e' h9 (n7+2)
theorem x8 {ro:Ro}{v0 v1 v2:Value}{h:T Obj}{nx:Nat}{K:KV} (hw:sF ro v0 v1 v2 h nx K):aN Tryz.prog ro gI [v0,v1,v2] h nx K:=zzO (fn:=Tryz.f126) hw
@[irreducible] def nH (ro:Ro) (K:KV):dF→T Obj→Nat→Prop:=fun e h nx=>∃ h118,aU h118 h∧K (Value.bool true) h118 (nx+1)
@[irreducible] def sE (ro:Ro):PT:=fun e h nx Q=>aA (aP .lss (e 46) (e 45)) fun e'=>aV e' (aA (cD 1 (e 44) (e 46)) fun f'=>aA (load1 ro h f') fun b'=>aA (aP .lss b' (Value.int IntKind.u8 1)) fun d'=>bF d' false h (nx+33) (fun as'=>as' b' h (nx+33)) fun g' G' H'=>bF d' false G' H' (fun at'=>aA (aP .gtr g' (Value.int IntKind.u8 3)) fun au'=>at' au' G' H') fun h' I' J'=>aA (b7 d' (Value.bool true) h') fun c'=>bF c' false I' J' (fun av'=>av' b' I' J') fun i' K' L'=>bF c' false K' L' (fun aw'=>aA (aP .neq i' (Value.int IntKind.u8 3)) fun ax'=>aw' ax' K' L') fun j' M' N'=>bF c' false M' N' (fun ay'=>ay' j' M' N') fun a' O' P'=>bF a' true O' P' (fun az'=>aA (aT 1 (e 4)) fun aA'=>az' aA' O' P') fun k' l' Q'=>bF a' true l' Q' (fun aB'=>aA (load1 ro l' k') fun aC'=>aB' aC' l' Q') fun m' R' S'=>bF a' true R' S' (fun aD'=>aA (aT 0 (e 3)) fun aE'=>aD' aE' R' S') fun n' T' U'=>bF a' true T' U' (fun aF'=>aA (aT 258 n') fun aG'=>aF' aG' T' U') fun o' p' V'=>bF a' true p' V' (fun aH'=>aA (load1 ro p' o') fun aI'=>aH' aI' p' V') fun q' W' X'=>bF a' true W' X' (fun aJ'=>aA (aT 0 (e 5)) fun aK'=>aJ' aK' W' X') fun r' s' Y'=>bF a' true s' Y' (fun aL'=>aA (load1 ro s' r') fun aM'=>aL' aM' s' Y') fun t' Z' aa'=>bF a' true Z' aa' (fun aN'=>aA (cD 4 q' t') fun aO'=>aN' aO' Z' aa') fun u' ab' ac'=>bF a' true ab' ac' (fun aP'=>aA (aT 1 u') fun aQ'=>aP' aQ' ab' ac') fun v' w' ad'=>bF a' true w' ad' (fun aR'=>aA (load1 ro w' v') fun aS'=>aR' aS' w' ad') fun x' ae' af'=>bF a' true ae' af' (fun aT'=>aT' (e 46) ae' af') fun y' ag' ah'=>bF a' true ag' ah' (fun aU'=>aA (cD 1 x' y') fun aV'=>aU' aV' ag' ah') fun z' A' ai'=>bF a' true A' ai' (fun aW'=>aA (load1 ro A' z') fun aX'=>aW' aX' A' ai') fun B' aj' ak'=>bF a' true aj' ak' (fun aY'=>aN Tryz.prog ro gW [m',B'] aj' ak' fun aZ' a0' a1'=>aY' aZ' a0' a1') fun C' al' am'=>bF a' true al' am' (fun a2'=>aA (unV .not C') fun a3'=>a2' a3' al' am') fun D' an' ao'=>bF c' false an' ao' (fun a4'=>aA (b7 a' D' (Value.bool false)) fun a5'=>a4' a5' an' ao') fun E' ap' aq'=>aA (b7 c' (Value.bool true) E') fun F'=>aV F' (Q .ret (puts e [(47,e'),(48,(e 46)),(49,f'),(50,b'),(7,(e 46)),(8,b'),(51,b'),(52,d'),(53,d'),(54,g'),(55,h'),(56,c'),(57,c'),(58,i'),(59,j'),(60,a'),(61,k'),(62,m'),(63,n'),(64,o'),(65,q'),(66,r'),(67,t'),(68,u'),(69,v'),(70,x'),(71,y'),(72,z'),(73,B'),(74,C'),(75,D'),(76,E'),(77,F'),(6,(Value.bool false))]) ap' (aq'+1)) (aA (aP .add (e 46) (Value.int IntKind.i64 1)) fun ar'=>Q .normal (puts e [(47,e'),(48,(e 46)),(49,f'),(50,b'),(7,(e 46)),(8,b'),(51,b'),(52,d'),(53,d'),(54,g'),(55,h'),(56,c'),(57,c'),(58,i'),(59,j'),(60,a'),(61,k'),(62,m'),(63,n'),(64,o'),(65,q'),(66,r'),(67,t'),(68,u'),(69,v'),(70,x'),(71,y'),(72,z'),(73,B'),(74,C'),(75,D'),(76,E'),(77,F'),(78,ar'),(46,ar')]) ap' (aq'+2))) (Q (.exit 0) (puts e [(47,e')]) h (nx+1))
@[irreducible] def wA (ro:Ro) (v0 v1 v2:Value) (h:T Obj) (nx:Nat) (K:KV):Prop:=dL h nx (.cells (Value.cells v0) eG) fun h1=>dL h1 (nx+1) (.cells (Value.cells v1) aR) fun h2=>dL h2 (nx+2) (.cells (Value.cells v2) bK) fun h3=>aA (aT 0 (ptr (nx+2))) fun m'=>aA (load1 ro h3 m') fun n'=>aA (aP .eql n' (Value.int IntKind.i64 (-1))) fun o'=>aV o' (aA (aT 1 (ptr (nx+2))) fun ay'=>aA (load1 ro h3 ay') fun az'=>aA (bM az') fun aA'=>aA (aP .eql aA' (Value.int IntKind.i64 0)) fun aB'=>∃ p',aU p' h3∧K aB' p' (nx+12)) (aA (aT 0 (ptr (nx+2))) fun q'=>aA (load1 ro h3 q') fun r'=>aA (aP .lss r' (Value.int IntKind.i64 1)) fun b'=>bF b' false h3 (nx+34) (fun aC'=>aA (aT 0 (ptr (nx+2))) fun aD'=>aC' aD' h3 (nx+34)) fun s' c' t'=>bF b' false c' t' (fun aE'=>aA (load1 ro c' s') fun aF'=>aE' aF' c' t') fun u' v' w'=>bF b' false v' w' (fun aG'=>aA (aT 0 (ptr nx)) fun aH'=>aG' aH' v' w') fun x' y' z'=>bF b' false y' z' (fun aI'=>aA (aT 258 x') fun aJ'=>aI' aJ' y' z') fun A' d' B'=>bF b' false d' B' (fun aK'=>aA (load1 ro d' A') fun aL'=>aK' aL' d' B') fun C' D' E'=>bF b' false D' E' (fun aM'=>aA (bM C') fun aN'=>aM' aN' D' E') fun F' G' H'=>bF b' false G' H' (fun aO'=>aA (aP .geq u' F') fun aP'=>aO' aP' G' H') fun I' J' K'=>aA (b7 b' (Value.bool true) I') fun a'=>bF a' false J' K' (fun aQ'=>aA (aT 1 (ptr (nx+2))) fun aR'=>aQ' aR' J' K') fun L' e' M'=>bF a' false e' M' (fun aS'=>aA (load1 ro e' L') fun aT'=>aS' aT' e' M') fun N' O' P'=>bF a' false O' P' (fun aU'=>aA (bM N') fun aV'=>aU' aV' O' P') fun Q' R' S'=>bF a' false R' S' (fun aW'=>aA (aT 0 (ptr nx)) fun aX'=>aW' aX' R' S') fun T' U' V'=>bF a' false U' V' (fun aY'=>aA (aT 258 T') fun aZ'=>aY' aZ' U' V') fun W' f' X'=>bF a' false f' X' (fun a0'=>aA (load1 ro f' W') fun a1'=>a0' a1' f' X') fun Y' Z' aa'=>bF a' false Z' aa' (fun a2'=>aA (aT 0 (ptr (nx+2))) fun a3'=>a2' a3' Z' aa') fun ab' g' ac'=>bF a' false g' ac' (fun a4'=>aA (load1 ro g' ab') fun a5'=>a4' a5' g' ac') fun ad' ae' af'=>bF a' false ae' af' (fun a6'=>aA (cD 4 Y' ad') fun a7'=>a6' a7' ae' af') fun ag' ah' ai'=>bF a' false ah' ai' (fun a8'=>aA (aT 1 ag') fun a9'=>a8' a9' ah' ai') fun aj' h' ak'=>bF a' false h' ak' (fun ba'=>aA (load1 ro h' aj') fun bb'=>ba' bb' h' ak') fun al' am' an'=>bF a' false am' an' (fun bc'=>aA (bM al') fun bd'=>bc' bd' am' an') fun ao' ap' aq'=>bF a' false ap' aq' (fun be'=>aA (aP .neq Q' ao') fun bf'=>be' bf' ap' aq') fun ar' i' as'=>aA (b7 a' (Value.bool true) ar') fun at'=>aV at' (∃ au',aU au' i'∧K (Value.bool false) au' (as'+1)) (aA (aT 1 (ptr (nx+2))) fun av'=>aA (load1 ro i' av') fun aw'=>aA (bM aw') fun bg'=>dC (sE ro) (puts (gS [v0,v1,v2]) [(3,(ptr nx)),(4,(ptr (nx+1))),(5,(ptr (nx+2))),(6,(Value.bool false)),(9,m'),(10,n'),(11,o'),(16,q'),(17,r'),(18,b'),(19,b'),(20,s'),(21,u'),(22,x'),(23,A'),(24,C'),(25,F'),(26,I'),(27,a'),(28,a'),(29,L'),(30,N'),(31,Q'),(32,T'),(33,W'),(34,Y'),(35,ab'),(36,ad'),(37,ag'),(38,aj'),(39,al'),(40,ao'),(41,ar'),(42,at'),(43,av'),(44,aw'),(45,bg'),(46,(Value.int IntKind.i64 0))]) i' (as'+4) fun bh' j' k' l'=>iM bh' (nH ro K j' k' l') (fun bi'=>dE (Nat.beq bi' 0) (nH ro K j' k' l') (False)) (∃ ax',aU ax' k'∧K (j' 6) ax' l')))
theorem aAY {ro:Ro}{v0 v1 v2:Value}{h:T Obj}{nx:Nat}{K:KV} (hw:wA ro v0 v1 v2 h nx K):aN Tryz.prog ro oP [v0,v1,v2] h nx K:=zzO (fn:=Tryz.f127) hw
@[irreducible] def wN (ro:Ro) (K:KV):dF→T Obj→Nat→Prop:=fun e h nx=>aA (loadA ro h 4 (e 3)) fun b'=>aA (bH 4 h (e 2) b') fun h8=>aA (loadA ro h8 4 (e 2)) fun r9=>∃ a',aU a' h8∧K r9 a' (nx+2)
@[irreducible] def aEz (ro:Ro):PT:=fun e h nx Q=>aA (bM (e 0)) fun a'=>aA (aP .lss (e 4) a') fun b'=>aV b' (aA (loadA ro h 4 (e 3)) fun c'=>aA (cD 1 (e 0) (e 4)) fun d'=>aA (load1 ro h d') fun e'=>aN Tryz.prog ro zI [c',e'] h (nx+11) fun f' h' i'=>aA (bH 4 h' (e 3) f') fun j'=>aA (aP .add (e 4) (Value.int IntKind.i64 1)) fun g'=>Q .normal (puts e [(6,(e 4)),(7,(e 0)),(8,a'),(9,b'),(12,c'),(13,(e 0)),(14,(e 4)),(15,d'),(16,e'),(17,f'),(10,(e 4)),(11,g'),(4,g')]) j' (i'+3)) (Q (.exit 0) (puts e [(6,(e 4)),(7,(e 0)),(8,a'),(9,b')]) h (nx+4))
@[irreducible] def aLo (ro:Ro) (v0:Value) (h:T Obj) (nx:Nat) (K:KV):Prop:=aA (i8 Tryz.prog bR) fun z1=>dL h nx (.cells z1.cells bR) fun h2=>aA (cX Tryz.prog bR []) fun d'=>aA (i8 Tryz.prog bR) fun z4=>dL h2 (nx+2) (.cells z4.cells bR) fun h5=>aA (bH 4 h5 (ptr (nx+2)) d') fun h6=>dC (aEz ro) (puts (gS [v0]) [(2,(ptr nx)),(5,d'),(3,(ptr (nx+2))),(4,(Value.int IntKind.i64 0))]) h6 (nx+5) fun f' b' a' c'=>iM f' (wN ro K b' a' c') (fun g'=>dE (Nat.beq g' 0) (wN ro K b' a' c') (False)) (aA (loadA ro a' 4 (b' 2)) fun h'=>∃ e',aU e' a'∧K h' e' c')
theorem aLp {ro:Ro}{v0:Value}{h:T Obj}{nx:Nat}{K:KV} (hw:aLo ro v0 h nx K):aN Tryz.prog ro aC6 [v0] h nx K:=zzO (fn:=Tryz.f140) hw
@[irreducible] def fN (ro:Ro) (K:KV):dF→T Obj→Nat→Prop:=fun e h nx=>∃ h1,aU h1 h∧K (Value.int IntKind.i64 (-1)) h1 (nx+1)
@[irreducible] def iS (ro:Ro):PT:=fun e h nx Q=>aA (aP .lss (e 8) (e 7)) fun a'=>aV a' (aA (cD 2 (e 0) (e 8)) fun b'=>aA (loadA ro h 2 b') fun c'=>aEl (aN Tryz.prog ro) (e 1) [c'] h (nx+9) fun d' h7 n8=>aV d' (Q .ret (puts e [(9,a'),(10,(e 8)),(5,(e 8)),(11,(e 1)),(12,(e 0)),(13,(e 8)),(14,b'),(15,c'),(16,d'),(17,(e 8)),(4,(e 8))]) h7 (n8+2)) (aA (aP .add (e 8) (Value.int IntKind.i64 1)) fun e'=>Q .normal (puts e [(9,a'),(10,(e 8)),(5,(e 8)),(11,(e 1)),(12,(e 0)),(13,(e 8)),(14,b'),(15,c'),(16,d'),(18,e'),(8,e')]) h7 (n8+2))) (Q (.exit 0) (puts e [(9,a')]) h (nx+1))
@[irreducible] def jD (ro:Ro) (v0 v1:Value) (h:T Obj) (nx:Nat) (K:KV):Prop:=aA (bM v0) fun e'=>dC (iS ro) (puts (gS [v0,v1]) [(4,(Value.int IntKind.i64 0)),(6,v0),(7,e'),(8,(Value.int IntKind.i64 0))]) h (nx+4) fun f' a' b' c'=>iM f' (fN ro K a' b' c') (fun g'=>dE (Nat.beq g' 0) (fN ro K a' b' c') (False)) (∃ d',aU d' b'∧K (a' 4) d' c')
theorem oG {ro:Ro}{v0 v1:Value}{h:T Obj}{nx:Nat}{K:KV} (hw:jD ro v0 v1 h nx K):aN Tryz.prog ro fQ [v0,v1] h nx K:=zzO (fn:=Tryz.f141) hw
@[irreducible] def rY (ro:Ro) (K:KV):dF→T Obj→Nat→Prop:=fun e h nx=>aA (loadA ro h 4 (e 2)) fun a'=>aA (bH 4 h (e 4) a') fun h5=>aA (loadA ro h5 4 (e 4)) fun r6=>∃ h7,aU h7 h5∧K r6 h7 (nx+2)
@[irreducible] def aGp (ro:Ro) (v0 v1:Value) (h:T Obj) (nx:Nat) (K:KV):Prop:=dL h nx (.cells (Value.cells v0) bR) fun h1=>aA (i8 Tryz.prog bR) fun z2=>dL h1 (nx+1) (.cells z2.cells bR) fun h3=>aA (loadA ro h3 4 (ptr nx)) fun a'=>aN Tryz.prog ro lM [a',v1] h3 (nx+5) fun b' c' e'=>aA (unV .not b') fun d'=>aV d' (aA (aP .quo v1 (Value.int IntKind.u8 64)) fun f'=>aA (aP .quo v1 (Value.int IntKind.u8 64)) fun g'=>aA (ixArr 4 1 (ptr nx) g') fun h'=>aA (load1 ro c' h') fun i'=>aA (aP .rem v1 (Value.int IntKind.u8 64)) fun j'=>aA (aP .shl (Value.int IntKind.u64 1) j') fun k'=>aA (aP .add i' k') fun l'=>aA (ixArr 4 1 (ptr nx) f') fun m'=>aA (bH 1 c' m' l') fun n'=>rY ro K (puts (gS [v0,v1]) [(2,(ptr nx)),(4,(ptr (nx+1))),(5,a'),(6,v1),(7,b'),(8,d'),(9,v1),(10,f'),(11,v1),(12,g'),(13,h'),(14,i'),(15,v1),(16,j'),(17,k'),(18,l'),(19,m')]) n' (e'+13)) (rY ro K (puts (gS [v0,v1]) [(2,(ptr nx)),(4,(ptr (nx+1))),(5,a'),(6,v1),(7,b'),(8,d')]) c' (e'+1))
theorem aHk {ro:Ro}{v0 v1:Value}{h:T Obj}{nx:Nat}{K:KV} (hw:aGp ro v0 v1 h nx K):aN Tryz.prog ro zI [v0,v1] h nx K:=zzO (fn:=Tryz.f147) hw
end V
end Go.Proofs.YtjndkdmkecpllaaGreat
noncomputable section
namespace Go.Proofs.YtjndkdmkecpllaaGreat
namespace V
theorem aA1 {ro:Ro}{h h':T Obj}{a:Addr}{n:Nat}{l:List Value} (hs:aU h h') (hc:cellsAt ro h a n=some l):cellsAt ro h' a n=some l:=by
 unfold cellsAt at hc ⊢
 cases hsp:a.spot with
 | none=>rw[hsp] at hc; exact hc
 | some z =>
  rw[hsp] at hc
  simp only at hc ⊢
  cases hg:h.get a.block with
  | none=>rw[hg] at hc; cases hc
  | some o=>rw[hg] at hc; rw[hs _ _ hg]; exact hc
theorem aBN {ro:Ro}:∀ {n:Nat}{a:Addr}{l:List Value},roCells ro a n=some l→l.length=n
 | 0,a,l,h=>by cases h; rfl
 | n+1,a,l,h=>by
  obtain⟨v,h1,h⟩:=aM h
  obtain⟨r,h2,h⟩:=aM h
  cases h
  simp[aBN h2]
theorem aAA {ro:Ro}:∀ {off n k:Nat}{a:Addr}{l:List Value},roCells ro a n=some l→a.spot=none→off+k≤n→roCells ro ⟨a.block,a.off+off,none⟩ k=some ((l.drop off).take k)
 | 0,n,0,a,l,h,hs,hk=>by simp[roCells]
 | 0,0,k+1,a,l,h,hs,hk=>by omega
 | 0,n+1,k+1,a,l,h,hs,hk=>by
  obtain⟨v,h1,h⟩:=aM h
  obtain⟨r,h2,h⟩:=aM h
  cases h
  have ih:=aAA (off:=0) (k:=k) h2 rfl (by omega)
  have ha:(⟨a.block,a.off+0,none⟩:Addr)=a:=by cases a; simp_all
  rw[ha]
  simp only[roCells,h1,Option.bind_some]
  simp only[Nat.add_zero] at ih
  rw[ih]; simp
 | off+1,0,k,a,l,h,hs,hk=>by omega
 | off+1,n+1,k,a,l,h,hs,hk=>by
  obtain⟨v,h1,h⟩:=aM h
  obtain⟨r,h2,h⟩:=aM h
  cases h
  have ih:=aAA (off:=off) (k:=k) h2 rfl (by omega)
  rw[show a.off+(off+1)=a.off+1+off by omega,List.drop_succ_cons]
  exact ih
theorem aHL {ro:Ro}:∀ {l:List Value}{a:Addr},a.spot=none→(∀ j x,l[j]?=some x→ro ⟨a.block,a.off+j,none⟩=some x)→roCells ro a l.length=some l
 | [],a,hs,h=>rfl
 | v::l,a,hs,h=>by
  have ha:(⟨a.block,a.off+0,none⟩:Addr)=a:=by cases a; simp_all
  have h0:=h 0 v rfl
  rw[ha] at h0
  have ih:=aHL (l:=l) (a:=⟨a.block,a.off+1,none⟩) rfl fun j x hx=>by
   have:=h (j+1) x (by simpa using hx)
   rw[show a.off+1+j=a.off+(j+1) by omega]; exact this
  simp[roCells,h0,ih]
theorem tH {ro:Ro}{h:T Obj}{a:Addr}{n off k:Nat}{l:List Value} (hc:cellsAt ro h a n=some l) (hk:off+k≤n):cellsAt ro h (elt a off) k=some ((l.drop off).take k):=by
 obtain⟨b,o,s⟩:=a
 cases s with
 | none=>exact aAA (a:=⟨b,o,none⟩) hc rfl hk
 | some z =>
  rw[pR] at hc
  obtain⟨c,h1,h2⟩:=aM hc
  split at h2
  ·rename_i hle
   cases h2
   show cellsAt ro h ⟨b,o+off,some 0⟩ k=_
   rw[pR,h1]
   simp only[Option.bind_some]
   rw[if_pos (by omega),List.drop_take,List.drop_drop,List.take_take,Nat.min_eq_left (by omega)]
  ·cases h2
theorem j6 {z:Nat}:∀ {l:List (List Value)},(∀ x∈l,x.length=z)→l.flatten.length=l.length*z∧∀ i x,l[i]?=some x→(l.flatten.drop (i*z)).take z=x
 | [],_=>⟨by simp,fun i x hx=>by simp at hx⟩
 | y::r,hz=>by
  have hy:=hz y (by simp)
  obtain⟨h1,h2⟩:=j6 (l:=r) fun x hx=>hz x (by simp[hx])
  refine⟨by simp[h1,hy,Nat.add_mul]; omega,?_⟩
  intro i x hx
  cases i with
  | zero=>simp at hx; subst hx; subst hy; simp
  | succ i =>
   have:=h2 i x (by simpa using hx)
   rw[Nat.succ_mul,show i*z+z=y.length+i*z by omega,List.flatten_cons,List.drop_append,List.drop_eq_nil_of_le (Nat.le_add_right _ _)]
   simpa using this
theorem aDJ {z:Nat}:∀ {l:List (List Value)} (n:Nat),(∀ x∈l,x.length=z)→l.flatten.take (n*z)=(l.take n).flatten
 | [],n,_=>by simp
 | y::r,0,_=>by simp
 | y::r,n+1,hz=>by
  have hy:=hz y (by simp)
  rw[List.take_succ_cons,List.flatten_cons,List.flatten_cons,Nat.succ_mul,show n*z+z=y.length+n*z by omega,List.take_append,List.take_of_length_le (Nat.le_add_right _ _),Nat.add_sub_cancel_left,
   aDJ n fun x hx=>hz x (by simp[hx])]
def Sl (ro:Ro) (h:T Obj) (v:Value) (z:Nat) (l:List (List Value)):Prop :=
 (v=.slice none 0 0∧l=[])∨∃ a cap,v=.slice (some a) l.length cap∧l.length≤cap∧(a.spot=none∨a.spot=some z)∧(∀ x∈l,x.length=z)∧cellsAt ro h a (l.length*z)=some l.flatten
theorem Sl.at {ro:Ro}{h:T Obj}{a:Addr}{z:Nat}{l:List (List Value)} (hz:∀ x∈l,x.length=z) (hc:cellsAt ro h a (l.length*z)=some l.flatten):∀ i x,l[i]?=some x→x.length=z∧cellsAt ro h (elt a (i*z)) z=some x:=by
 intro i x hx
 refine⟨hz x (List.mem_of_getElem? hx),?_⟩
 have hi:=(List.getElem?_eq_some_iff.1 hx).1
 have:i*z+z≤l.length*z:=by rw[← Nat.succ_mul]; exact Nat.mul_le_mul_right _ hi
 rw[tH hc this,(j6 hz).2 i x hx]
def fH (z:Nat) (v:Value) (i:Nat):Value:=match v with
 | .slice (some a) _ _=>.pointer (some (elt a (i*z)))
 | _=>undef
section
variable {ro:Ro}{h h':T Obj}{v:Value}{z:Nat}{l:List (List Value)}
theorem Sl.nil:Sl ro h (.slice none 0 0) z []:=.inl ⟨rfl,rfl⟩
theorem Sl.sub (hs:aU h h') (hl:Sl ro h v z l):Sl ro h' v z l:=by
 rcases hl with hl | ⟨a,cap,h1,h2,h3,h4⟩
 ·exact .inl hl
 ·exact .inr ⟨a,cap,h1,h2,h3,h4.1,aA1 hs h4.2⟩
theorem Sl.len (hl:Sl ro h v z l):bM v=some (.int .i64 l.length):=by
 rcases hl with ⟨rfl,rfl⟩ | ⟨a,cap,rfl,_⟩<;>rfl
theorem Sl.ix (hl:Sl ro h v z l) (k:IntKind) {i:Nat} (hi:i < l.length):cD z v (.int k (i:Int))=some (fH z v i):=by
 rcases hl with ⟨rfl,rfl⟩ | ⟨a,cap,rfl,h2,h3,h4⟩
 ·simp at hi
 ·have hn:nV (.int k (i:Int))=some i:=by simp[nV]
  have hb:Nat.blt i l.length=true:=by simp[Nat.blt]; omega
  unfold cD
  rw[hn]
  simp only[Option.bind,hb]
  rcases h3 with h3 | h3
  ·rw[h3]; simp[fH,elt,fwd,h3]
  ·rw[h3]; simp[fH,elt,h3]
theorem Sl.loadA (hl:Sl ro h v z l) {i:Nat}{x:List Value} (hx:l[i]?=some x):loadA ro h z (fH z v i)=some (.agg x.toArray):=by
 rcases hl with ⟨rfl,rfl⟩ | ⟨a,cap,rfl,h2,h3,h4⟩
 ·simp at hx
 ·simp[V.loadA,fH,asP,(Sl.at h4.1 h4.2 i x hx).2]
theorem Sl.load1 (hl:Sl ro h v 1 l) {i:Nat}{x:Value} (hx:l[i]?=some [x]):load1 ro h (fH 1 v i)=some x:=by
 rcases hl with ⟨rfl,rfl⟩ | ⟨a,cap,rfl,h2,h3,h4⟩
 ·simp at hx
 ·have:=(Sl.at h4.1 h4.2 i _ hx).2
  simp only[V.load1,fH,asP,Option.bind,this]
theorem aQE {a:Addr}{n:Nat}{x:List Value} (hs:aU h h') (hx:cellsAt ro h a n=some x):pC (.pointer (some a)) h h':=by
 unfold pC blk
 cases hz:a.spot with
 | none=>simp only[hz]
 | some z =>
  simp only[hz]
  unfold cellsAt at hx
  rw[hz] at hx
  cases hg:h.get a.block with
  | none=>rw[hg] at hx; cases hx
  | some o=>exact⟨by rw[hg,hs _ _ hg],by rw[hg]; rfl⟩
theorem Sl.same (hs:aU h h') (hl:Sl ro h v z l) {i:Nat} (hi:i < l.length):pC (fH z v i) h h':=by
 rcases hl with ⟨rfl,rfl⟩ | ⟨b,cap,rfl,h2,h3,h4⟩
 ·simp at hi
 ·exact aQE hs (Sl.at h4.1 h4.2 i _ (List.getElem?_eq_getElem hi)).2
end
theorem qA {h h':T Obj}{id off z:Nat}{o:Obj} (hg:h.get id=some o) (hs:h'.get id=some o):pC (at_ id off z) h h':=⟨by rw[hg,hs],by rw[hg]; rfl⟩
theorem Sl.own {ro:Ro}{h:T Obj}{id z cap:Nat}{l:List (List Value)}{e:TypeId}{f:Nat × Nat} (hg:h.get id=some (.cells l.flatten.toArray e f)) (hz:∀ x∈l,x.length=z) (hc:l.length≤cap):Sl ro h (.slice (some (V.own id z)) l.length cap) z l:=by
 refine .inr ⟨V.own id z,cap,rfl,hc,.inr rfl,hz,?_⟩
 have h1:=(j6 hz).1
 show cellsAt ro h ⟨id,0,some z⟩ _=_
 rw[pR,hg,bO]
 simp only[Option.bind_some]
 rw[if_pos (by rw[h1]; omega),List.drop_zero,List.take_of_length_le (by rw[h1]; omega)]
theorem aS5 {ro:Ro}{n id1 id2 m n0:Nat}{l1 l2:List Value}{e1 e2:TypeId}{f1 f2:Nat × Nat}{h h0:T Obj}{K:KV} (g1:h.get id1=some (.cells l1.toArray e1 f1)) (g2:h.get id2=some (.cells l2.toArray e2 f2))
  (q1:l1.length=n) (q2:l2.length=n) (q3:l1.all bV=true) (hf:Fr h0 n0) (hs:aU h0 h) (hid:n0≤id2) (hK:K (.agg l1.toArray) h0 m) :
  aA (loadA ro h n (at_ id1 0 0)) fun t=>aA (bH n h (at_ id2 0 0) t) fun h8=>aA (loadA ro h8 n (at_ id2 0 0)) fun r=>∃ h9,aU h9 h8∧K r h9 m:=by
 refine aB (bX g1 q1) ?_
 refine aB (eF (l:=l2) (vs:=l1) g2 rfl q1 q2 q3) ?_
 refine aB (bX (by rw[T.get_upd_same]) q1) ?_
 exact⟨h0,hs.new hf hid,hK⟩
theorem d3 {i:Nat}{A:Prop}{B:Nat→Prop}{D:Prop} (h:B i):iM (.exit i) A B D:=h
theorem kW {A:Prop}{B:Nat→Prop}{D:Prop} (h:D):iM .ret A B D:=h
theorem cU {A B:Prop} (h:A):dE true A B:=h
theorem Sl.take {P:Program}{t e:TypeId}{ro:Ro}{h:T Obj}{v:Value}{z:Nat}{l:List (List Value)} (hl:Sl ro h v z l) (hu:gG P t=some (.slice e)) (hz:pD P e=some z) (hz0:0 < z) {n:Nat} (hn:n≤l.length) (k:IntKind) :
  ∃ r,vW P t v none (some (.int k (n:Int))) none=some r∧Sl ro h r z (l.take n):=by
 have hnv:nV (.int k (n:Int))=some n:=by simp[nV]
 rcases hl with ⟨rfl,rfl⟩ | ⟨a,cap,rfl,h2,h3,h4⟩
 ·simp at hn; subst hn
  refine⟨.slice none 0 0,?_,.inl ⟨rfl,rfl⟩⟩
  unfold vW
  simp[hu,hz,mM,nV]
 ·have hb:Nat.ble n cap=true:=Nat.ble_eq_true_of_le (by omega)
  have hlen:(l.take n).length=n:=by rw[List.length_take]; omega
  refine⟨.slice (some a) n cap,?_,.inr ⟨a,cap,by rw[hlen],by rw[hlen]; omega,h3,fun x hx=>h4.1 x (List.mem_of_mem_take hx),?_⟩⟩
  ·unfold vW
   have hb1:Nat.ble n l.length=true:=Nat.ble_eq_true_of_le hn
   have hb0:Nat.ble 0 n=true:=Nat.ble_eq_true_of_le (Nat.zero_le _)
   have e0:fwd a (0*z)=a:=by simp[fwd]
   have e1:mM none cap cap=some cap:=rfl
   have e2:mM (some (.int k (n:Int))) l.length cap=some n:=by simp[mM,hnv,hb]
   have e3:mM none 0 n=some 0:=rfl
   simp only[hu,hz,Option.bind,e1,e2,e3,hb,Option.isNone,Bool.true_or,Nat.sub_zero]
   rcases h3 with h3 | h3
   ·simp only[h3]
    cases hc:Nat.beq cap 0 with
    | true=>simp only
    | false=>simp only[e0]
   ·simp only[h3,Nat.beq_refl,e0]
  ·have hk:0+n*z≤l.length*z:=by rw[Nat.zero_add]; exact Nat.mul_le_mul_right _ hn
   have:=tH h4.2 hk
   rw[List.drop_zero,aDJ n h4.1] at this
   rw[hlen]
   rcases h3 with h3 | h3
   ·have e:elt a 0=a:=by obtain⟨b,o,sp⟩:=a; change sp=none at h3; subst h3; rfl
    rw[e] at this; exact this
   ·unfold cellsAt at this ⊢
    simp only[elt,h3,Option.map,Nat.add_zero] at this ⊢
    exact this
def Own (h:T Obj) (v:Value) (z:Nat) (e:TypeId) (l:List (List Value)) (lo hi:Nat):Prop :=
 (v=.slice none 0 0∧l=[])∨∃ id,lo≤id∧id < hi∧v=.slice (some (own id z)) l.length l.length∧(∀ x∈l,x.length=z)∧h.get id=some (.cells l.flatten.toArray e)
theorem Own.sl {ro:Ro}{h:T Obj}{v:Value}{z:Nat}{e:TypeId}{l:List (List Value)}{lo hi:Nat} (ho:Own h v z e l lo hi):Sl ro h v z l:=by
 rcases ho with ho | ⟨id,_,_,rfl,h4,h5⟩
 ·exact .inl ho
 ·exact Sl.own h5 h4 (Nat.le_refl _)
theorem Own.nil {h:T Obj}{z:Nat}{e:TypeId}{lo hi:Nat}:Own h (.slice none 0 0) z e [] lo hi:=.inl ⟨rfl,rfl⟩
theorem Own.keep {h h':T Obj}{v:Value}{z:Nat}{e:TypeId}{l:List (List Value)}{lo hi hi':Nat} (ho:Own h v z e l lo hi) (hh:hi≤hi') (hk:∀ id,lo≤id→id < hi→∀ o,h.get id=some o→h'.get id=some o):Own h' v z e l lo hi':=by
 rcases ho with ho | ⟨id,h1,h2,h3,h4,h5⟩
 ·exact .inl ho
 ·exact .inr ⟨id,h1,by omega,h3,h4,hk id h1 h2 _ h5⟩
theorem aCX {P:Program}{ro:Ro}{h:T Obj}{v x:Value}{z nx lo hi:Nat}{t e:TypeId}{i:TypeInfo}{zv:Value}{l m:List (List Value)} (ho:Own h v z e l lo hi) (hx:Sl ro h x z m) (hu:gG P t=some (.slice e)) (hi':tin P e=some i) (hz:i.size=z) (hz0:0 < z) (hzer:i8 P e=some zv) (hzs:zv.cells.size=z)
  (hm:m≠[]) (hok:m.flatten.all bV=true) (hb:(l.length+m.length)*i.bytes≤oB) (hb2:l.length+m.length≤oB) (hlo:lo≤nx) (hnx:hi≤nx) :
  ∃ h',bY P ro h nx #[t,t] [v,x]=some (.slice (some (own nx z)) (l++m).length (l++m).length,h',nx+1)∧Own h' (.slice (some (own nx z)) (l++m).length (l++m).length) z e (l++m) lo (nx+1) ∧
   (∀ k,(k < lo∨hi≤k)→k≠nx→h'.get k=h.get k)∧(∀ k,k≠nx→h'.get k=h.get k∨h'.get k=none):=by
 have hml:0 < m.length:=List.length_pos_iff.2 hm
 obtain⟨a,capx,rfl,hcx,hsx,hzx,hxc⟩:∃ a cap,x=.slice (some a) m.length cap∧m.length≤cap∧(a.spot=none∨a.spot=some z)∧(∀ x∈m,x.length=z)∧cellsAt ro h a (m.length*z)=some m.flatten:=by
  rcases hx with ⟨_,hx⟩ | hx
  ·exact absurd hx hm
  ·exact hx
 have hb1:Nat.ble ((l.length+m.length)*i.bytes) oB=true:=Nat.ble_eq_true_of_le hb
 have hb2':Nat.ble (l.length+m.length) oB=true:=Nat.ble_eq_true_of_le hb2
 have hb3:Nat.blt 0 z=true:=by simp[Nat.blt]; omega
 have hfull:Nat.ble (l.length+m.length) l.length=false:=by
  cases hq:Nat.ble (l.length+m.length) l.length with
  | false=>rfl
  | true=>have:=Nat.le_of_ble_eq_true hq; omega
 rcases ho with ⟨rfl,rfl⟩ | ⟨id,h1,h2,rfl,h4,h5⟩
 ·refine⟨h.upd nx (some (.cells m.flatten.toArray e)),?_,.inr ⟨nx,hlo,by omega,by simp,by simpa using hzx,by rw[T.get_upd_same]; simp⟩,fun k _ hk=>T.get_upd_ne _ _ hk,fun k hk=>.inl (T.get_upd_ne _ _ hk)⟩
  simp only[List.length_nil] at hb1 hb2' hfull
  simp only[bY,List.getElem?_toArray,List.getElem?_cons_zero,List.getElem?_cons_succ,hu,hi',Option.bind_some,aHy,hz,hxc,hfull,hzer,hb1,hb2',hb3,hzs,Nat.beq_refl,hok,aLY]
  simp
 ·have hl:=(j6 h4).1
  have hcl:cellsAt ro h ⟨id,0,some z⟩ (l.length*z)=some l.flatten:=by
   rw[pR,h5,bO]
   simp only[Option.bind_some]
   rw[if_pos (by rw[hl]; omega),List.drop_zero,List.take_of_length_le (by rw[hl]; omega)]
  refine⟨(h.upd id none).upd nx (some (.cells (l.flatten++m.flatten).toArray e)),?_,.inr ⟨nx,hlo,by omega,by simp,?_,by rw[T.get_upd_same]; simp⟩,?_,?_⟩
  ·simp only[bY,List.getElem?_toArray,List.getElem?_cons_zero,List.getElem?_cons_succ,hu,hi',Option.bind_some,aHy,hz,hxc,hfull,hzer,hb1,hb2',hb3,hzs,Nat.beq_refl,hok,aLY,own,hcl]
   simp
  ·intro x hx
   rcases List.mem_append.1 hx with hx | hx
   ·exact h4 x hx
   ·exact hzx x hx
  ·intro k hk hne
   rw[T.get_upd_ne _ _ hne,T.get_upd_ne _ _ (by omega)]
  ·intro k hne
   rw[T.get_upd_ne _ _ hne]
   by_cases e:k=id
   ·subst e; right; rw[T.get_upd_same]
   ·left; rw[T.get_upd_ne _ _ e]
end V
end Go.Proofs.YtjndkdmkecpllaaGreat
noncomputable section
namespace Go.Proofs.YtjndkdmkecpllaaGreat
namespace V
theorem aT2 {p:Prop}{dp:Decidable p}{A B:Prop} (h1:p→A) (h2:¬ p→B):aV (.bool (@decide p dp)) A B:=by
 by_cases hp:p
 ·rw[decide_eq_true hp]; exact h1 hp
 ·rw[decide_eq_false hp]; exact h2 hp
theorem kb {K:KV}{h:T Obj}{nx n:Nat}{b c:Bool} (hK:∀ n,nx≤n→K (.bool b) h n) (e:b=c) (hn:nx≤n):K (.bool c) h n:=by subst e; exact hK n hn
theorem ki {K:KV}{h:T Obj}{nx n:Nat}{k:IntKind}{b c:Int} (hK:∀ n,nx≤n→K (.int k b) h n) (e:b=c) (hn:nx≤n):K (.int k c) h n:=by subst e; exact hK n hn
section
variable {k:IntKind}{a b:Int}{K:Value→Prop}
theorem aVC (h:a < b) (hk:K (.bool true)):aA (aP .lss (.int k a) (.int k b)) K:=by rw[bA,decide_eq_true h]; exact hk
theorem aR4 (h:b≤a) (hk:K (.bool false)):aA (aP .lss (.int k a) (.int k b)) K:=by rw[bA,decide_eq_false (by omega)]; exact hk
theorem cM (h1:a < b→K (.bool true)) (h2:b≤a→K (.bool false)):aA (aP .lss (.int k a) (.int k b)) K:=by
 by_cases h:a < b
 ·exact aVC h (h1 h)
 ·exact aR4 (by omega) (h2 (by omega))
theorem aWQ (h:a≤b) (hk:K (.bool true)):aA (aP .leq (.int k a) (.int k b)) K:=by rw[a9,decide_eq_true h]; exact hk
theorem aWP (h:b < a) (hk:K (.bool false)):aA (aP .leq (.int k a) (.int k b)) K:=by rw[a9,decide_eq_false (by omega)]; exact hk
theorem tE (h1:a≤b→K (.bool true)) (h2:b < a→K (.bool false)):aA (aP .leq (.int k a) (.int k b)) K:=by
 by_cases h:a≤b
 ·exact aWQ h (h1 h)
 ·exact aWP (by omega) (h2 (by omega))
theorem aWO (h:b < a) (hk:K (.bool true)):aA (aP .gtr (.int k a) (.int k b)) K:=by rw[aZ,decide_eq_true h]; exact hk
theorem aWN (h:a≤b) (hk:K (.bool false)):aA (aP .gtr (.int k a) (.int k b)) K:=by rw[aZ,decide_eq_false (by omega)]; exact hk
theorem jT (h1:b < a→K (.bool true)) (h2:a≤b→K (.bool false)):aA (aP .gtr (.int k a) (.int k b)) K:=by
 by_cases h:b < a
 ·exact aWO h (h1 h)
 ·exact aWN (by omega) (h2 (by omega))
theorem aWM (h:b≤a) (hk:K (.bool true)):aA (aP .geq (.int k a) (.int k b)) K:=by rw[aY,decide_eq_true h]; exact hk
theorem aWL (h:a < b) (hk:K (.bool false)):aA (aP .geq (.int k a) (.int k b)) K:=by rw[aY,decide_eq_false (by omega)]; exact hk
theorem mY (h1:b≤a→K (.bool true)) (h2:a < b→K (.bool false)):aA (aP .geq (.int k a) (.int k b)) K:=by
 by_cases h:b≤a
 ·exact aWM h (h1 h)
 ·exact aWL (by omega) (h2 (by omega))
theorem aOF (h:a=b) (hk:K (.bool true)):aA (aP .eql (.int k a) (.int k b)) K:=by rw[aW,decide_eq_true h]; exact hk
theorem aKn (h:a≠b) (hk:K (.bool false)):aA (aP .eql (.int k a) (.int k b)) K:=by rw[aW,decide_eq_false h]; exact hk
theorem i4 (h1:a=b→K (.bool true)) (h2:a≠b→K (.bool false)):aA (aP .eql (.int k a) (.int k b)) K:=by
 by_cases h:a=b
 ·exact aOF h (h1 h)
 ·exact aKn h (h2 h)
theorem aVE (h:a≠b) (hk:K (.bool true)):aA (aP .neq (.int k a) (.int k b)) K:=by rw[aX,decide_eq_false h]; exact hk
theorem aRo (h:a=b) (hk:K (.bool false)):aA (aP .neq (.int k a) (.int k b)) K:=by rw[aX,decide_eq_true h]; exact hk
theorem lN (h1:a≠b→K (.bool true)) (h2:a=b→K (.bool false)):aA (aP .neq (.int k a) (.int k b)) K:=by
 by_cases h:a=b
 ·exact aRo h (h2 h)
 ·exact aVE h (h1 h)
end
theorem aB6 {ro:Ro}{h h':T Obj}{p v:Value} (hs:aU h h') (hl:load1 ro h p=some v):load1 ro h' p=some v:=by
 unfold V.load1 at hl ⊢
 obtain⟨ad,y1,y2⟩:=aM hl
 rw[y1,Option.bind_some]
 cases hc:cellsAt ro h ad 1 with
 | none=>rw[hc] at y2; cases y2
 | some l=>rw[hc] at y2; rw[aA1 hs hc]; exact y2
theorem yM {ro:Ro}{h h':T Obj}{p v:Value}{n:Nat} (hs:aU h h') (hl:loadA ro h n p=some v):loadA ro h' n p=some v:=by
 unfold V.loadA at hl ⊢
 obtain⟨ad,y1,y2⟩:=aM hl
 obtain⟨l9,y3,y4⟩:=aM y2
 rw[y1,Option.bind_some,aA1 hs y3,Option.bind_some,y4]
def fK (l:List Int):List (List Value):=l.map fun b:Int=>[Value.int .i64 b]
theorem i6 (l:List Int):(fK l).length=l.length:=by simp[fK]
theorem aPV {l:List Int}{i:Nat} (hi:i < l.length):(fK l)[i]?=some [.int .i64 l[i]]:=by simp[fK,hi]
def ZI (ro:Ro) (h:T Obj) (v:Value) (l:List Int):Prop:=Sl ro h v 1 (fK l)
section
variable {ro:Ro}{h h':T Obj}{v:Value}{l:List Int}
theorem ZI.sub (hs:aU h h') (hl:ZI ro h v l):ZI ro h' v l:=Sl.sub hs hl
theorem ZI.len (hl:ZI ro h v l):bM v=some (.int .i64 l.length):=by have:=Sl.len hl; rwa [i6] at this
theorem ZI.ix (hl:ZI ro h v l) (k:IntKind) {i:Nat} (hi:i < l.length):cD 1 v (.int k (i:Int))=some (fH 1 v i):=Sl.ix hl k (by rw[i6]; exact hi)
theorem ZI.ixI (hl:ZI ro h v l) (k:IntKind) {i:Int} (h0:0≤i) (hi:i < l.length):cD 1 v (.int k i)=some (fH 1 v i.toNat):=by
 have:=hl.ix k (i:=i.toNat) (by omega)
 rwa [Int.toNat_of_nonneg h0] at this
theorem ZI.load (hl:ZI ro h v l) {i:Nat} (hi:i < l.length):load1 ro h (fH 1 v i)=some (.int .i64 l[i]):=Sl.load1 hl (aPV hi)
end
theorem ZI.load' {ro:Ro}{h:T Obj}{v:Value}{l:List Int} (hl:ZI ro h v l) {i:Nat}{x:Int} (hx:l[i]?=some x):load1 ro h (fH 1 v i)=some (.int .i64 x):=by
 obtain⟨hi,he⟩:=List.getElem?_eq_some_iff.1 hx
 rw[hl.load hi,he]
theorem Sl.ok {ro:Ro}{h:T Obj}{v:Value}{z:Nat}{cs:List (List Value)} (hl:Sl ro h v z cs):bV v=true:=by
 rcases hl with ⟨rfl,_⟩ | ⟨a,cap,rfl,_⟩<;>rfl
theorem ZI.ok {ro:Ro}{h:T Obj}{v:Value}{l:List Int} (hl:ZI ro h v l):bV v=true:=Sl.ok hl
theorem aVW {α:Type}{l:List α} (h:(l.length:Int)=0):l=[]:=List.eq_nil_iff_length_eq_zero.2 (by omega)
theorem cP {α:Type}{l:List α}{k:Nat} (hk:k < l.length):l.drop k=l[k]::l.drop (k+1):=List.drop_eq_getElem_cons hk
theorem eO {α:Type}{l:List α}{k:Nat} (hk:l.length≤k):l.drop k=[]:=List.drop_eq_nil_of_le hk
def fP (z:Nat) (v:Value) (i k:Nat):Value:=match v with
 | .slice (some a) _ _=>.pointer (some (elt a (i*z+k)))
 | _=>undef
def gD {D:Type} (ro:Ro) (h:T Obj) (v:Value) (z:Nat) (R:List Value→D→Prop) (l:List D):Prop:=∃ cs,Sl ro h v z cs∧cs.length=l.length∧∀ (i:Nat) x d,cs[i]?=some x→l[i]?=some d→R x d
section
variable {D:Type}{ro:Ro}{h h':T Obj}{v:Value}{z:Nat}{R R':List Value→D→Prop}{l:List D}
theorem gD.imp (hl:gD ro h v z R l) (hR:∀ x d,R x d→R' x d):gD ro h v z R' l:=by
 obtain⟨cs,h1,h2,h3⟩:=hl
 exact⟨cs,h1,h2,fun i x d hx hd=>hR _ _ (h3 i x d hx hd)⟩
theorem gD.sub (hs:aU h h') (hR:∀ x d,R x d→R' x d) (hl:gD ro h v z R l):gD ro h' v z R' l:=by
 obtain⟨cs,h1,h2,h3⟩:=hl
 exact⟨cs,h1.sub hs,h2,fun i x d hx hd=>hR _ _ (h3 i x d hx hd)⟩
theorem gD.nil:gD ro h (.slice none 0 0) z R ([]:List D):=⟨[],Sl.nil,rfl,fun i x d hx=>by simp at hx⟩
theorem gD.len (hl:gD ro h v z R l):bM v=some (.int .i64 l.length):=by
 obtain⟨cs,h1,h2,h3⟩:=hl
 have:=h1.len
 rwa [h2] at this
theorem gD.ix (hl:gD ro h v z R l) (k:IntKind) {i:Nat} (hi:i < l.length):cD z v (.int k (i:Int))=some (fH z v i):=by
 obtain⟨cs,h1,h2,h3⟩:=hl
 exact h1.ix k (by omega)
theorem gD.ixI (hl:gD ro h v z R l) (k:IntKind) {i:Int} (h0:0≤i) (hi:i < l.length):cD z v (.int k i)=some (fH z v i.toNat):=by
 have:=hl.ix k (i:=i.toNat) (by omega)
 rwa [Int.toNat_of_nonneg h0] at this
theorem aOD (a:Addr) (i j:Nat):fwd (elt a i) j=elt a (i+j):=by
 obtain⟨b,o,s⟩:=a
 cases s<;>simp[fwd,elt,Nat.add_assoc]
theorem Sl.fwd {cs:List (List Value)} (hl:Sl ro h v z cs) {i:Nat} (hi:i < cs.length) (k:Nat):aT k (fH z v i)=some (fP z v i k):=by
 rcases hl with ⟨rfl,rfl⟩ | ⟨a,cap,rfl,h2,h3,h4⟩
 ·simp at hi
 ·simp only[aT,fH,asP,Option.bind,fP,aOD]
theorem Sl.load1K {cs:List (List Value)} (hl:Sl ro h v z cs) {i k:Nat}{x:List Value}{w:Value} (hx:cs[i]?=some x) (hk:x[k]?=some w):V.load1 ro h (fP z v i k)=some w:=by
 rcases hl with ⟨rfl,rfl⟩ | ⟨a,cap,rfl,h2,h3,h4⟩
 ·simp at hx
 ·have h5:=(Sl.at h4.1 h4.2 i _ hx)
  have hkl:=(List.getElem?_eq_some_iff.1 hk).1
  have hi:=(List.getElem?_eq_some_iff.1 hx).1
  have h6:i*z+k+1≤cs.length*z:=by
   have:i*z+z≤cs.length*z:=by rw[← Nat.succ_mul]; exact Nat.mul_le_mul_right _ hi
   omega
  have h7:=tH h4.2 (off:=i*z+k) (k:=1) h6
  have h8:=(j6 h4.1).2 i x hx
  have h9:(cs.flatten.drop (i*z+k)).take 1=[w]:=by
   have:(cs.flatten.drop (i*z+k))[0]?=some w:=by
    rw[← h8] at hk
    rw[List.getElem?_take,if_pos (by omega),List.getElem?_drop] at hk
    rw[List.getElem?_drop]; simpa using hk
   have h10:=aCU (l:=cs.flatten.drop (i*z+k)) (off:=0) this
   simpa using h10
  rw[h9] at h7
  simp only[V.load1,fP,asP,Option.bind,h7]
theorem gD.at (hl:gD ro h v z R l) {i:Nat} (hi:i < l.length):∃ x,R x l[i]∧x.length=z∧V.loadA ro h z (fH z v i)=some (.agg x.toArray)∧(∀ k,aT k (fH z v i)=some (fP z v i k))∧∀ k w,x[k]?=some w→V.load1 ro h (fP z v i k)=some w:=by
 obtain⟨cs,h1,h2,h3⟩:=hl
 have hx:cs[i]?=some (cs[i]'(by omega)):=List.getElem?_eq_getElem _
 refine⟨_,h3 i _ _ hx (List.getElem?_eq_getElem hi),?_,h1.loadA hx,fun k=>h1.fwd (by omega) k,fun k w hk=>h1.load1K hx hk⟩
 rcases h1 with ⟨rfl,rfl⟩ | ⟨a,cap,rfl,g2,g3,g4⟩
 ·simp at hx
 ·exact g4.1 _ (List.getElem_mem _)
theorem gD.at1 (hl:gD ro h v 1 R l) {i:Nat} (hi:i < l.length):∃ w,R [w] l[i]∧V.load1 ro h (fH 1 v i)=some w:=by
 obtain⟨cs,h1,h2,h3⟩:=hl
 have hx:cs[i]?=some (cs[i]'(by omega)):=List.getElem?_eq_getElem _
 have hz:(cs[i]'(by omega)).length=1:=by
  rcases h1 with ⟨rfl,rfl⟩ | ⟨a,cap,rfl,g2,g3,g4⟩
  ·simp at hx
  ·exact g4.1 _ (List.getElem_mem _)
 generalize cs[i]'(by omega)=x at hx hz
 match x,hz with
 | [w],_=>exact⟨w,h3 i _ _ hx (List.getElem?_eq_getElem hi),h1.load1 hx⟩
end
theorem Sl.loadAK {ro:Ro}{h:T Obj}{v:Value}{z:Nat}{cs:List (List Value)} (hl:Sl ro h v z cs) {i k m:Nat}{x:List Value} (hx:cs[i]?=some x) (hk:k+m≤x.length):V.loadA ro h m (fP z v i k)=some (.agg ((x.drop k).take m).toArray):=by
 rcases hl with ⟨rfl,rfl⟩ | ⟨a,cap,rfl,h2,h3,h4⟩
 ·simp at hx
 ·have h5:=(Sl.at h4.1 h4.2 i _ hx)
  have hi:=(List.getElem?_eq_some_iff.1 hx).1
  have h6:i*z+k+m≤cs.length*z:=by
   have:i*z+z≤cs.length*z:=by rw[← Nat.succ_mul]; exact Nat.mul_le_mul_right _ hi
   omega
  have h7:=tH h4.2 (off:=i*z+k) (k:=m) h6
  have h8:=(j6 h4.1).2 i x hx
  have h9:(cs.flatten.drop (i*z+k)).take m=(x.drop k).take m:=by
   rw[← h8,List.drop_take,List.take_take,List.drop_drop,Nat.min_eq_left (by omega)]
  rw[h9] at h7
  simp only[V.loadA,fP,asP,Option.bind,h7]
theorem gD.loadAK {D:Type}{ro:Ro}{h:T Obj}{v:Value}{z:Nat}{R:List Value→D→Prop}{l:List D} (hl:gD ro h v z R l) {i:Nat} (hi:i < l.length):∃ x,R x l[i]∧∀ k m,k+m≤x.length→V.loadA ro h m (fP z v i k)=some (.agg ((x.drop k).take m).toArray):=by
 obtain⟨cs,h1,h2,h3⟩:=hl
 have hx:cs[i]?=some (cs[i]'(by omega)):=List.getElem?_eq_getElem _
 exact⟨_,h3 i _ _ hx (List.getElem?_eq_getElem hi),fun k m hk=>h1.loadAK hx hk⟩
theorem gD.same {D:Type}{ro:Ro}{h h':T Obj}{v:Value}{z:Nat}{R:List Value→D→Prop}{l:List D} (hl:gD ro h v z R l) (hs:aU h h') {i:Nat} (hi:i < l.length):pC (fH z v i) h h':=by
 obtain⟨cs,h1,h2,h3⟩:=hl
 exact h1.same hs (by omega)
theorem fV {h:T Obj}{nx m:Nat}{v:Value}{ty:TypeId}{K:T Obj→Prop} (hf:Fr h m) (hm:m≤nx) (hK:∀ h',aU h h'→Fr h' (nx+1)→h'.get nx=some (.cells (Value.cells v) ty)→(∀ k,k≠nx→h'.get k=h.get k)→K h'):dL h nx (.cells (Value.cells v) ty) K :=
 aD (hK _ ((aU.refl h).new hf hm) ((hf.mono (show m≤nx+1 by omega)).upd (Nat.le_refl _) (by omega)) (by rw[T.get_upd_same]) fun k hk=>T.get_upd_ne _ _ hk)
theorem zO {h:T Obj}{nx m:Nat}{o:Obj}{K:T Obj→Prop} (hf:Fr h m) (hm:m≤nx) (hK:∀ h',aU h h'→Fr h' (nx+1)→h'.get nx=some o→(∀ k,k≠nx→h'.get k=h.get k)→K h'):dL h nx o K :=
 aD (hK _ ((aU.refl h).new hf hm) ((hf.mono (show m≤nx+1 by omega)).upd (Nat.le_refl _) (by omega)) (by rw[T.get_upd_same]) fun k hk=>T.get_upd_ne _ _ hk)
theorem gP {P:Program}{h:T Obj}{a m n:Nat}{ty:TypeId}{zv v:Value}{x:List Value}{K:T Obj→Prop} (hz:i8 P ty=some zv) (hzs:zv.cells.size=n) (hv:v.cells=x.toArray) (hx:x.length=n) (hok:x.all bV=true) (hf:Fr h m) (hm:m≤a)
  (hK:∀ h',aU h h'→Fr h' (a+1)→h'.get a=some (.cells x.toArray ty)→(∀ k,k≠a→h'.get k=h.get k)→K h') :
  aA (i8 P ty) fun z=>dL h a (.cells z.cells ty) fun h1=>aA (bH n h1 (ptr a) v) K:=by
 refine aB hz (aD (aB (eF (l:=zv.cells.toList) (vs:=x) (e:=ty) (f:=(0,0)) (by rw[T.get_upd_same]) hv hx (by simpa using hzs) hok) ?_))
 refine hK _ (((aU.refl h).new hf hm).new hf hm) (((hf.mono (show m≤a+1 by omega)).upd (Nat.le_refl _) (by omega)).upd (Nat.le_refl _) (by omega)) (by rw[T.get_upd_same]) fun k hk=>?_
 rw[T.get_upd_ne _ _ hk,T.get_upd_ne _ _ hk]
theorem BB:(∀ (h:T Obj) (i:Nat) (o:Obj) (K:T Obj→Prop),dL h i o K=K (h.upd i (some o))) ∧
  (∀ (h:T Obj) (i:Nat) (o:Obj) (K:T Obj→Prop),eJ h i (some o) K=K (h.upd i (some o))) ∧
  (∀ (h:T Obj) (i:Nat) (K:T Obj→Prop),eJ h i none K=K h) ∧
  (∀ {α:Type} (a:α) (K:α→Prop),aA (some a) K=K a) ∧
  (∀ (A B:Prop),aV (.bool true) A B=A) ∧
  (∀ (A B:Prop),aV (.bool false) A B=B) ∧
  (∀ (h:T Obj) (nx:Nat) (A:KV→Prop) (K:KV),bF (.bool true) true h nx A K=A K) ∧
  (∀ (h:T Obj) (nx:Nat) (A:KV→Prop) (K:KV),bF (.bool false) false h nx A K=A K) ∧
  (∀ (h:T Obj) (nx:Nat) (A:KV→Prop) (K:KV),bF (.bool true) false h nx A K=K undef h nx) ∧
  (∀ (h:T Obj) (nx:Nat) (A:KV→Prop) (K:KV),bF (.bool false) true h nx A K=K undef h nx) ∧
  (∀ (A:Prop) (B:Nat→Prop) (D:Prop),iM .normal A B D=A) ∧
  (∀ (i:Nat) (A:Prop) (B:Nat→Prop) (D:Prop),iM (.exit i) A B D=B i) ∧
  (∀ (A:Prop) (B:Nat→Prop) (D:Prop),iM .ret A B D=D) ∧
  (∀ (A B:Prop),dE true A B=A) ∧
  (∀ (A B:Prop),dE false A B=B) ∧
  (∀ (cs:Array Value),Value.cells (.agg cs)=cs) ∧
  (∀ (k:IntKind) (n:Int),Value.cells (.int k n)=#[.int k n]) ∧
  (∀ (b:Bool),Value.cells (.bool b)=#[.bool b]) ∧
  (∀ (k:IntKind) (a b:Int),aP .add (.int k a) (.int k b)=some (.int k (wr k (a+b)))) ∧
  (∀ (k:IntKind) (a b:Int),aP .sub (.int k a) (.int k b)=some (.int k (wr k (a - b)))) ∧
  (∀ (k:IntKind) (a b:Int),aP .mul (.int k a) (.int k b)=some (.int k (wr k (a*b)))) ∧
  (∀ (k:IntKind) {a b:Int} (ha:0≤a) (hb:0 < b),aP .quo (.int k a) (.int k b)=some (.int k (wr k (a / b)))) ∧
  (∀ (k:IntKind) {a b:Int} (ha:0≤a) (hb:0 < b),aP .rem (.int k a) (.int k b)=some (.int k (a % b))) ∧
  (∀ (k':IntKind) (a:Nat) {b:Int} (hb:0≤b) (hk:b≤64),aP .shr (.int .u64 (a:Int)) (.int k' b)=some (.int .u64 ((a / 2 ^ b.toNat:Nat):Int))) ∧
  (∀ (k':IntKind) {b:Int} (hb:0≤b) (hk:b < 64),aP .shl (.int .u64 1) (.int k' b)=some (.int .u64 ((2 ^ b.toNat:Nat):Int))) ∧
  (∀ {a b:Int} (ha:0≤a) (hb:0≤b) (ha':a≤18446744073709551615) (hb':b≤18446744073709551615),aP .and (.int .u64 a) (.int .u64 b)=some (.int .u64 (Nat.land a.toNat b.toNat:Nat))) ∧
  (∀ {a b:Int} (ha:0≤a) (hb:0≤b) (ha':a≤18446744073709551615) (hb':b≤18446744073709551615),aP .or (.int .u64 a) (.int .u64 b)=some (.int .u64 (Nat.lor a.toNat b.toNat:Nat))) ∧
  (∀ {a b:Int} (ha:0≤a) (hb:0≤b) (ha':a≤18446744073709551615) (hb':b≤18446744073709551615),aP .xor (.int .u64 a) (.int .u64 b)=some (.int .u64 (Nat.xor a.toNat b.toNat:Nat))) ∧
  (∀ {n:Int} (h1:-9223372036854775808≤n) (h2:n≤9223372036854775807),wr .i64 n=n) ∧
  (∀ {n:Int} (h1:0≤n) (h2:n≤255),wr .u8 n=n) ∧
  (∀ {n:Int} (h1:0≤n) (h2:n≤18446744073709551615),wr .u64 n=n) ∧
  (∀ (k k':IntKind) (n:Int),wB k (.int k' n)=some (.int k (wr k n))) ∧
  (∀ (b:Bool),unV .not (.bool b)=some (.bool (!b))) ∧
  (∀ (a b:Bool),aCw .eql (.bool a) (.bool b)=some (.bool (a==b))) ∧
  (∀ (a b:Bool),aCw .neq (.bool a) (.bool b)=some (.bool (!(a==b)))) ∧
  (∀ (a b:Value),b7 (.bool true) a b=some a) ∧
  (∀ (a b:Value),b7 (.bool false) a b=some b) ∧
  (∀ (a:Option Addr) (n c:Nat),bM (.slice a n c)=some (.int .i64 n)) ∧
  (∀ (id:Nat),ptr id=at_ id 0 0) ∧
  (∀ (k id off z:Nat),aT k (at_ id off z)=some (at_ id (off+k) z)) ∧
  (∀ (n z id off y:Nat) (k:IntKind) {i:Int} (h0:0≤i) (h1:i < n),ixArr n z (at_ id off y) (.int k i)=some (at_ id (off+i.toNat*z) y)) ∧
  (∀ (ro:Ro) (h:T Obj) (id off z:Nat),load1 ro h (at_ id off z)=(qH (h.get id)).bind fun c=>c[off]?) ∧
  (∀ (ro:Ro) (h:T Obj) (n id off z:Nat),loadA ro h n (at_ id off z)=(qH (h.get id)).bind fun c=>if off+n≤c.length then some (.agg ((c.drop off).take n).toArray) else none) ∧
  (∀ (n:Nat) (h:T Obj) (id off z:Nat) (v:Value),bH n h (at_ id off z) v=if v.cells.size=n then (aIf (h.get id) off v.cells.toList).bind (fun o=>some (h.upd id (some o))) else none) ∧
  (∀ (c:Array Value) (e:TypeId) (f:Nat × Nat),qH (some (.cells c e f))=some c.toList) ∧
  (∀ {c:Array Value} {e:TypeId} {f:Nat × Nat} {off:Nat} {vs:List Value} (h1:off+vs.length≤c.size) (h2:vs.all bV=true),aIf (some (.cells c e f)) off vs=some (.cells (over c.toList off vs).toArray e f)) ∧
  (∀ (l:List Value),l.toArray.toList=l) ∧
  (∀ (l:List Value),l.toArray.size=l.length) :=
 ⟨@fA,@dT,@dS,@cH,@cZ,@cK,@gO,@gL,@gN,@gM,@c7,@d9,@fC,@dM,@cW,@Value.cells_agg,@dP,@cY,@dW,@eC,@d5,@eA,@eB,@b9,@bW,@c8,@dR,@dA,@fG,@jV,@fZ,@dQ,@fD,@dN,@dO,@dB,@cN,@cL,@eY,@eT,@eD,@dD,@cQ,@cS,@bO,@cC,@tl,@ts⟩
theorem B2:(∀ (h:Decidable True),@decide True h=true)∧(∀ (h:Decidable False),@decide False h=false)∧((!true)=false)∧((!false)=true) ∧
  (∀ {α β:Type} (a:α) (f:α→Option β),(some a).bind f=f a)∧(∀ {α:Type} (t:T α) (k:Nat) (o:Option α),(t.upd k o).get k=o)∧(∀ {α:Type} (t:T α) {k i:Nat} (o:Option α),i≠k→(t.upd k o).get i=t.get i) ∧
  (∀ {α:Type} {c:Prop} {h:Decidable c} {a b:α},c→@ite α c h a b=a)∧(∀ n:Nat,0+n=n)∧(∀ n:Nat,n*1=n)∧(∀ n:Nat,n+0=n)∧(∀ n:Nat,(n:Int).toNat=n)∧(∀ n:Nat,n≤n) :=
 ⟨fun _=>decide_true ..,fun _=>decide_false ..,rfl,rfl,fun _ _=>rfl,T.get_upd_same,fun t _ _ o h=>T.get_upd_ne t o h,fun h=>if_pos h,Nat.zero_add,Nat.mul_one,fun _=>rfl,fun _=>rfl,Nat.le_refl⟩
theorem CC:(∀ {k:IntKind}{a b:Int},a < b→aP .lss (.int k a) (.int k b)=some (.bool true))∧(∀ {k:IntKind}{a b:Int},b≤a→aP .lss (.int k a) (.int k b)=some (.bool false)) ∧
  (∀ {k:IntKind} {a b:Int},a≤b→aP .leq (.int k a) (.int k b)=some (.bool true))∧(∀ {k:IntKind} {a b:Int},b < a→aP .leq (.int k a) (.int k b)=some (.bool false)) ∧
  (∀ {k:IntKind} {a b:Int},b < a→aP .gtr (.int k a) (.int k b)=some (.bool true))∧(∀ {k:IntKind} {a b:Int},a≤b→aP .gtr (.int k a) (.int k b)=some (.bool false)) ∧
  (∀ {k:IntKind} {a b:Int},b≤a→aP .geq (.int k a) (.int k b)=some (.bool true))∧(∀ {k:IntKind} {a b:Int},a < b→aP .geq (.int k a) (.int k b)=some (.bool false)) ∧
  (∀ {k:IntKind} {a b:Int},a=b→aP .eql (.int k a) (.int k b)=some (.bool true))∧(∀ {k:IntKind} {a b:Int},a≠b→aP .eql (.int k a) (.int k b)=some (.bool false)) ∧
  (∀ {k:IntKind} {a b:Int},a≠b→aP .neq (.int k a) (.int k b)=some (.bool true))∧(∀ {k:IntKind} {a b:Int},a=b→aP .neq (.int k a) (.int k b)=some (.bool false)):=by
 refine⟨?_,?_,?_,?_,?_,?_,?_,?_,?_,?_,?_,?_⟩<;>intro k a b h
 ·rw[bA,decide_eq_true h]
 ·rw[bA,decide_eq_false (by omega)]
 ·rw[a9,decide_eq_true h]
 ·rw[a9,decide_eq_false (by omega)]
 ·rw[aZ,decide_eq_true h]
 ·rw[aZ,decide_eq_false (by omega)]
 ·rw[aY,decide_eq_true h]
 ·rw[aY,decide_eq_false (by omega)]
 ·rw[aW,decide_eq_true h]
 ·rw[aW,decide_eq_false h]
 ·rw[aX,decide_eq_false h]; rfl
 ·rw[aX,decide_eq_true h]; rfl
end V
end Go.Proofs.YtjndkdmkecpllaaGreat
noncomputable section
namespace Go.Proofs.YtjndkdmkecpllaaGreat
namespace V
def lK:Value→Option Nat
 | .slice (some a) _ _=>some a.block
 | _=>none
def bL (h:T Obj) (v:Value) (z:Nat) (e:TypeId) (l:List (List Value)) (lo:Nat):Prop :=
 (v=.slice none 0 0∧l=[])∨∃ id,lo≤id∧v=.slice (some (own id z)) l.length l.length∧(∀ x∈l,x.length=z)∧h.get id=some (.cells l.flatten.toArray e)
theorem bL.nil {h:T Obj}{z:Nat}{e:TypeId}{lo:Nat}:bL h (.slice none 0 0) z e [] lo:=.inl ⟨rfl,rfl⟩
theorem bL.mono {h:T Obj}{v:Value}{z:Nat}{e:TypeId}{l:List (List Value)}{lo lo':Nat} (ho:bL h v z e l lo) (hl:lo'≤lo):bL h v z e l lo':=by
 rcases ho with ho | ⟨id,h1,h2⟩
 ·exact .inl ho
 ·exact .inr ⟨id,by omega,h2⟩
theorem bL.sl {ro:Ro}{h:T Obj}{v:Value}{z:Nat}{e:TypeId}{l:List (List Value)}{lo:Nat} (ho:bL h v z e l lo):Sl ro h v z l:=by
 rcases ho with ho | ⟨id,_,rfl,h4,h5⟩
 ·exact .inl ho
 ·exact Sl.own h5 h4 (Nat.le_refl _)
def Kp (v:Value) (h h':T Obj):Prop:=∀ k o,h.get k=some o→lK v≠some k→h'.get k=some o
theorem Kp.trans {v:Value}{a b c:T Obj} (h1:Kp v a b) (h2:aU b c):Kp v a c:=fun k o hk hv=>h2 k o (h1 k o hk hv)
theorem bL.keep {h h':T Obj}{v w:Value}{z:Nat}{e:TypeId}{l:List (List Value)}{lo:Nat} (ho:bL h v z e l lo) (hk:Kp w h h') (hne:∀ id,lK v=some id→lK w≠some id):bL h' v z e l lo:=by
 rcases ho with ho | ⟨id,h1,rfl,h4,h5⟩
 ·exact .inl ho
 ·exact .inr ⟨id,h1,rfl,h4,hk id _ h5 (hne id rfl)⟩
theorem bL.keepS {h h':T Obj}{v:Value}{z:Nat}{e:TypeId}{l:List (List Value)}{lo:Nat} (ho:bL h v z e l lo) (hk:aU h h'):bL h' v z e l lo:=by
 rcases ho with ho | ⟨id,h1,rfl,h4,h5⟩
 ·exact .inl ho
 ·exact .inr ⟨id,h1,rfl,h4,hk id _ h5⟩
theorem bL.ne {h:T Obj}{v:Value}{z:Nat}{e e':TypeId}{l:List (List Value)}{lo k:Nat}{c:Array Value}{f:Nat × Nat} (ho:bL h v z e l lo) (hk:h.get k=some (.cells c e' f)) (he:e'≠e):lK v≠some k:=by
 rcases ho with ⟨rfl,_⟩ | ⟨id,_,rfl,_,h5⟩
 ·intro h; cases h
 ·intro h
  have:id=k:=Option.some.inj h
  subst this
  rw[hk] at h5
  simp only[Option.some.injEq,Obj.cells.injEq] at h5
  exact he h5.2.1
theorem bL.lt {h:T Obj}{v:Value}{z:Nat}{e:TypeId}{l:List (List Value)}{lo k:Nat} (ho:bL h v z e l lo) (hk:k < lo):lK v≠some k:=by
 rcases ho with ⟨rfl,_⟩ | ⟨id,h1,rfl,_,h5⟩
 ·intro h; cases h
 ·intro h
  have:id=k:=Option.some.inj h
  omega
theorem Fr.lt' {h:T Obj}{n k:Nat}{o:Obj} (hf:Fr h n) (hk:h.get k=some o):k < n:=by
 rcases Nat.lt_or_ge k n with h1 | h1
 ·exact h1
 ·rw[hf k h1] at hk; cases hk
theorem bL.sub {h0 h h':T Obj}{v:Value}{z:Nat}{e:TypeId}{l:List (List Value)}{lo n0:Nat} (ho:bL h v z e l lo) (hk:Kp v h h') (hf:Fr h0 n0) (hn:n0≤lo) (hs:aU h0 h):aU h0 h':=fun k o hk0=>hk k o (hs k o hk0) (ho.lt (by have:=hf.lt' hk0; omega))
theorem aF8 {P:Program}{ro:Ro}{h:T Obj}{v x:Value}{z nx lo:Nat}{t e:TypeId}{i:TypeInfo}{zv:Value}{l m:List (List Value)} (ho:bL h v z e l lo) (hx:Sl ro h x z m) (hu:gG P t=some (.slice e)) (hi':tin P e=some i) (hz:i.size=z) (hz0:0 < z) (hzer:i8 P e=some zv) (hzs:zv.cells.size=z)
  (hm:m≠[]) (hok:m.flatten.all bV=true) (hb:(l.length+m.length)*i.bytes≤oB) (hb2:l.length+m.length≤oB) (hlo:lo≤nx) (hf:Fr h nx) :
  ∃ h',bY P ro h nx #[t,t] [v,x]=some (.slice (some (own nx z)) (l++m).length (l++m).length,h',nx+1)∧bL h' (.slice (some (own nx z)) (l++m).length (l++m).length) z e (l++m) lo∧Kp v h h'∧Fr h' (nx+1)∧(∀ k,k≠nx→h'.get k=h.get k∨h'.get k=none):=by
 have fin:∀ h':T Obj,(∀ k,k≠nx→h'.get k=h.get k∨h'.get k=none)→Fr h' (nx+1):=fun h' h2 k hk=>by
  rcases h2 k (by omega) with h3 | h3
  ·rw[h3]; exact hf k (by omega)
  ·exact h3
 rcases ho with ⟨rfl,rfl⟩ | ⟨id,h1,rfl,h4,h5⟩
 ·obtain⟨h',q1,q2,q3,q4⟩:=aCX (P:=P) (t:=t) (lo:=nx) (hi:=nx) (Own.nil (h:=h) (z:=z) (e:=e)) hx hu hi' hz hz0 hzer hzs hm hok (by simpa using hb) (by simpa using hb2) (Nat.le_refl _) (Nat.le_refl _)
  refine⟨h',q1,?_,fun k o hk _=>?_,fin h' q4,q4⟩
  ·rcases q2 with ⟨h6,_⟩ | ⟨id,h6,h7,h8,h9,h10⟩
   ·cases h6
   ·exact .inr ⟨id,by omega,h8,h9,h10⟩
  ·have:=hf.lt' hk
   rw[q3 k (.inl this) (by omega)]; exact hk
 ·have hid:=hf.lt' h5
  obtain⟨h',q1,q2,q3,q4⟩:=aCX (P:=P) (t:=t) (lo:=id) (hi:=id+1) (.inr ⟨id,Nat.le_refl _,by omega,rfl,h4,h5⟩:Own h _ z e l id (id+1)) hx hu hi' hz hz0 hzer hzs hm hok hb hb2 (show id≤nx by omega) (by omega)
  refine⟨h',q1,?_,fun k o hk hne=>?_,fin h' q4,q4⟩
  ·rcases q2 with ⟨h6,_⟩ | ⟨id2,h6,h7,h8,h9,h10⟩
   ·cases h6
   ·exact .inr ⟨id2,by omega,h8,h9,h10⟩
  ·have h7:=hf.lt' hk
   have h8:id≠k:=fun h=>hne (by rw[← h]; rfl)
   rw[q3 k (by omega) (by omega)]; exact hk
theorem aKT {P:Program}{ro:Ro}{h:T Obj}{v x:Value}{z nx lo:Nat}{t e:TypeId}{i:TypeInfo}{l:List (List Value)} (ho:bL h v z e l lo) (hx:Sl ro h x z []) (hu:gG P t=some (.slice e)) (hi':tin P e=some i) :
  bY P ro h nx #[t,t] [v,x]=some (v,h,nx):=by
 obtain⟨a,len,rfl⟩:∃ a len,v=.slice a len len:=by
  rcases ho with ⟨rfl,_⟩ | ⟨id,_,rfl,_⟩
  ·exact⟨none,0,rfl⟩
  ·exact⟨_,_,rfl⟩
 have hs:aHy P ro h e i.size i.bytes t x=some (0,[]):=by
  rcases hx with ⟨rfl,_⟩ | ⟨a,cap,rfl,h2,h3,h4,h5⟩
  ·simp only[aHy,hu]
  ·have:cellsAt ro h a (0*i.size)=some []:=by
    have:cellsAt ro h a (0*z)=some []:=by simpa using h5
    rw[Nat.zero_mul] at this ⊢; exact this
   simp only[aHy,hu,List.length_nil,this,Option.bind]
 have hb:Nat.ble (len+0) len=true:=Nat.ble_eq_true_of_le (by omega)
 simp only[bY,List.getElem?_toArray,List.getElem?_cons_zero,List.getElem?_cons_succ,hu,hi',Option.bind_some,hs,hb]
theorem aFq {P:Program}{ro:Ro}{h:T Obj}{v x:Value}{z nx lo:Nat}{t e:TypeId}{i:TypeInfo}{zv:Value}{l m:List (List Value)} (ho:bL h v z e l lo) (hx:Sl ro h x z m) (hu:gG P t=some (.slice e)) (hi':tin P e=some i) (hz:i.size=z) (hz0:0 < z) (hzer:i8 P e=some zv) (hzs:zv.cells.size=z)
  (hok:m.flatten.all bV=true) (hb:(l.length+m.length)*i.bytes≤oB) (hb2:l.length+m.length≤oB) (hlo:lo≤nx) (hf:Fr h nx) :
  ∃ r h' n',bY P ro h nx #[t,t] [v,x]=some (r,h',n')∧bL h' r z e (l++m) lo∧Kp v h h'∧nx≤n'∧Fr h' n'∧(lK r=none∨lK r=lK v∨lK r=some nx):=by
 cases m with
 | nil=>exact⟨v,h,nx,aKT ho hx hu hi',by rw[List.append_nil]; exact ho,(fun k o hk _=>hk),Nat.le_refl _,hf,.inr (.inl rfl)⟩
 | cons y m =>
  obtain⟨h',q1,q2,q3,q4,q5⟩:=aF8 (P:=P) (t:=t) ho hx hu hi' hz hz0 hzer hzs (by simp) hok hb hb2 hlo hf
  exact⟨_,h',nx+1,q1,q2,q3,by omega,q4,.inr (.inr rfl)⟩
theorem pK {P:Program}{ro:Ro}{h:T Obj}{v w:Value}{z nx n1 n2 lo:Nat}{t e:TypeId}{i:TypeInfo}{zv:Value}{l:List (List Value)}{y:List Value}{K:Value × Option Obj→T Obj→Value × T Obj × Nat→Prop} (hlit:bC P t n1 1 [(0,w)]=some (.slice (some (own n1 z)) 1 1,some (.cells y.toArray e))) (hy:y.length=z) (ho:bL h v z e l lo)
  (hu:gG P t=some (.slice e)) (hi':tin P e=some i) (hz:i.size=z) (hz0:0 < z) (hzer:i8 P e=some zv) (hzs:zv.cells.size=z) (hok:y.all bV=true) (hb:(l.length+1)*i.bytes≤oB) (hb2:l.length+1≤oB) (hf:Fr h nx) (hlo:lo≤nx) (hn1:nx≤n1) (hn2:n1 < n2)
  (hK:∀ h',bL h' (.slice (some (own n2 z)) (l++[y]).length (l++[y]).length) z e (l++[y]) lo→Kp v h h'→Fr h' (n2+1)→K (.slice (some (own n1 z)) 1 1,some (.cells y.toArray e)) (h.upd n1 (some (.cells y.toArray e))) (.slice (some (own n2 z)) (l++[y]).length (l++[y]).length,h',n2+1)) :
  aA (bC P t n1 1 [(0,w)]) fun r=>eJ h n1 r.2 fun h'=>aA (bY P ro h' n2 #[t,t] [v,r.1]) (K r h'):=by
 refine aB hlit (aF ?_)
 have hs1:aU h (h.upd n1 (some (.cells y.toArray e))):=(aU.refl h).new hf hn1
 have hf1:Fr (h.upd n1 (some (.cells y.toArray e))) n2:=(hf.mono (show nx≤n2 by omega)).upd (Nat.le_refl _) hn2
 have hx1:Sl ro (h.upd n1 (some (.cells y.toArray e))) (.slice (some (own n1 z)) 1 1) z [y]:=Sl.own (l:=[y]) (e:=e) (f:=(0,0)) (by rw[T.get_upd_same]; simp) (by simpa using hy) (Nat.le_refl _)
 obtain⟨h',q1,q2,q3,q4,q5⟩:=aF8 (P:=P) (t:=t) (nx:=n2) (ho.keepS hs1) hx1 hu hi' hz hz0 hzer hzs (by simp) (by simpa using hok) hb hb2 (by omega) hf1
 exact aB q1 (hK h' q2 (fun k o hk hv=>q3 k o (hs1 k o hk) hv) q4)
end V
end Go.Proofs.YtjndkdmkecpllaaGreat
noncomputable section
namespace Go.Proofs.YtjndkdmkecpllaaGreat
namespace V
open Go.Deep
theorem aBM {ro:Ro}:∀ {n m:Nat}{a:Addr}{l1 l2:List Value},a.spot=none→roCells ro a n=some l1→roCells ro ⟨a.block,a.off+n,none⟩ m=some l2→roCells ro a (n+m)=some (l1++l2)
 | 0,m,a,l1,l2,hs,h1,h2=>by
  cases h1
  have:(⟨a.block,a.off+0,none⟩:Addr)=a:=by cases a; simp_all
  rw[this] at h2
  simpa using h2
 | n+1,m,a,l1,l2,hs,h1,h2=>by
  obtain⟨v,g1,h1⟩:=aM h1
  obtain⟨r,g2,h1⟩:=aM h1
  cases h1
  have ih:=aBM (n:=n) (m:=m) (a:=⟨a.block,a.off+1,none⟩) rfl g2 (by rw[show a.off+1+n=a.off+(n+1) by omega]; exact h2)
  rw[show n+1+m=n+m+1 by omega]
  simp[roCells,g1,ih]
section
variable {H:Type}{enc:TypeId × Value→H}{P:Program}{W:World}
theorem aI9 {N:Nat}:∀ {l l':List Value},aAi N l=some l'→∀ {j:Nat}{y:Value},l'[j]?=some y→∃ x,l[j]?=some x∧aET N x=some y
 | [],l',h,j,y,hy=>by cases h; simp at hy
 | v::l,l',h,j,y,hy=>by
  obtain⟨v',h1,h⟩:=aM h
  obtain⟨r,h2,h⟩:=aM h
  cases h
  cases j with
  | zero=>simp at hy; subst hy; exact⟨v,rfl,h1⟩
  | succ j =>
   obtain⟨x,h3,h4⟩:=aI9 h2 (j:=j) (by simpa using hy)
   exact⟨x,by simpa using h3,h4⟩
theorem aQg {a:Addr}{n:Nat}{cs cs':List Value} (h:W.cells? 0 a n=some cs) (hn:aAi W.heap.size cs=some cs') (ha:a.spot=none):roCells (xY W) a n=some cs':=by
 obtain⟨_,hlen,hg⟩:=World.cells?_some h
 have hl:=(aDX (φ:=fun _=>none) hn).length
 have:=aHL (ro:=xY W) (l:=cs') (a:=a) ha fun j y hy=>by
  obtain⟨x,hx,hxy⟩:=aI9 hn hy
  have hj:j < n:=by rw[← hlen,← hl]; exact (List.getElem?_eq_some_iff.1 hy).1
  have hc:=hg j hj
  rw[uB ha,hx] at hc
  have hb:a.block < W.heap.size:=by
   rcases Nat.lt_or_ge a.block W.heap.size with h1 | h1
   ·exact h1
   ·simp[World.cell?,Array.getElem?_eq_none h1] at hc
  have hbb:Nat.blt a.block W.heap.size=true:=by simp[Nat.blt]; omega
  simp only[xY,hbb,hc,Option.bind,hxy]
 rw[hl,hlen] at this
 exact this
theorem aNL {N:Nat}{a:Addr}{l c:Nat} (hs:a.spot=none) (hb:a.block < N) (hc:0 < c):aET N (.slice (some a) l c)=some (.slice (some a) l c):=by
 have:Nat.blt a.block N=true:=by simp[Nat.blt]; omega
 cases c with
 | zero=>omega
 | succ c=>cases l<;>simp[aET,hs,this]
theorem aUK {t e:TypeId}{z:Nat} (ht:P.underlying t=some (.slice e)) (hz:P.cellsOf e=z) (hz0:0 < z) {fuel:Nat}{cs:List Value}{x:DataW H × List MemPlace} (h:DataW.trod enc P W 0 (fun _=>true) true fuel t cs=some x)
  {El:List Value→Prop} (hel:∀ n cs' y,DataW.trod enc P W 0 (fun _=>true) true n e cs'=some y→∃ cs'',aAi W.heap.size cs'=some cs''∧El cs'') :
  ∃ v v',cs=[v]∧aET W.heap.size v=some v'∧∃ l,Sl (xY W) .e v' z l∧∀ x∈l,El x:=by
 rcases open_slice ht h with ⟨rfl,_⟩ | ⟨a,len,cap,m,n,D,Pl,rfl,_,hle,_,hm,_,hx⟩
 ·exact⟨_,_,rfl,rfl,[],Sl.nil,fun x hx=>by cases hx⟩
 ·simp only[if_true] at hm
  subst hm
  refine⟨.slice (some a) len m,?_⟩
  rcases Nat.eq_zero_or_pos m with hc0 | hc0
  ·subst hc0
   obtain rfl:len=0:=by omega
   exact⟨.slice (some aJb) 0 0,rfl,rfl,[],.inr ⟨aJb,0,rfl,Nat.le_refl _,.inl rfl,by simp,by simp[cellsAt,aJb,roCells]⟩,fun x hx=>by cases hx⟩
  ·have h0:a.spot=none∧a.block < W.heap.size:=by
    obtain⟨cs',h1,_⟩:=hx 0 hc0
    rw[hz] at h1
    obtain⟨_,hl,hg⟩:=World.cells?_some h1
    have h2:=hg 0 hz0
    have h3:cs'[0]?=some (cs'[0]'(by omega)):=List.getElem?_eq_getElem (by omega)
    rw[h3] at h2
    have hsp:a.spot=none:=by
     have:=World.cell?_spot h2
     simpa [Addr.add] using this
    refine⟨hsp,?_⟩
    rcases Nat.lt_or_ge a.block W.heap.size with h4 | h4
    ·exact h4
    ·rw[uB hsp,uB rfl] at h2
     simp[World.cell?,Array.getElem?_eq_none h4] at h2
   obtain⟨hs,hb⟩:=h0
   refine⟨.slice (some a) len m,rfl,aNL hs hb hc0,?_⟩
   have key:∀ k,k≤len→∃ l:List (List Value),l.length=k∧(∀ x∈l,x.length=z)∧(∀ x∈l,El x)∧roCells (xY W) a (k*z)=some l.flatten:=by
    intro k
    induction k with
    | zero=>intro _; exact⟨[],rfl,by simp,by simp,by simp[roCells]⟩
    | succ k ih =>
     intro hk
     obtain⟨l,l1,l2,l3,l4⟩:=ih (by omega)
     obtain⟨cs',h1,h2⟩:=hx k (by omega)
     rw[hz] at h1
     obtain⟨cs'',h3,h4⟩:=hel _ _ _ h2
     have h5:=aQg h1 h3 (by rw[uB hs])
     have hlen:cs''.length=z:=aBN h5
     rw[uB hs] at h5
     refine⟨l++[cs''],by simp[l1],?_,?_,?_⟩
     ·intro x hx2
      rcases List.mem_append.1 hx2 with h6 | h6
      ·exact l2 x h6
      ·simp at h6; subst h6; exact hlen
     ·intro x hx2
      rcases List.mem_append.1 hx2 with h6 | h6
      ·exact l3 x h6
      ·simp at h6; subst h6; exact h4
     ·rw[Nat.succ_mul]
      have:=aBM hs l4 h5
      simpa using this
   obtain⟨l,l1,l2,l3,l4⟩:=key len (Nat.le_refl _)
   refine⟨l,.inr ⟨a,m,by rw[l1],by omega,.inl hs,l2,?_⟩,l3⟩
   unfold cellsAt
   rw[hs,l1]
   exact l4
end
end V
end Go.Proofs.YtjndkdmkecpllaaGreat
namespace Go.Proofs.YtjndkdmkecpllaaGreat
namespace V
attribute [local irreducible] aA bF aV dL eJ iM dE
def kJ (m i:Nat):Nat:=m / 2 ^ (64*i) % 2 ^ 64
theorem aOf (m i:Nat):kJ m i < 18446744073709551616:=by unfold kJ; exact Nat.mod_lt _ (by decide)
theorem mB (m i j:Nat):(kJ m i).testBit j=(decide (j < 64)&&m.testBit (64*i+j)):=by
 unfold kJ
 rw[Nat.testBit_mod_two_pow,Nat.testBit_div_two_pow,Nat.add_comm]
theorem aTI (m b:Nat):(kJ m (b / 64) / 2 ^ (b % 64) % 2=1) ↔ m.testBit b=true:=by
 have h:=mB m (b / 64) (b % 64)
 rw[Nat.testBit_eq_decide_div_mod_eq] at h
 have h1:b % 64 < 64:=Nat.mod_lt _ (by decide)
 rw[Nat.div_add_mod] at h
 simp only[h1,decide_true,Bool.true_and] at h
 rw[← h]; simp
section
variable {α β:Type} [DecidableEq α] [DecidableEq β]
def xB (s:List α) (p:α):List α:=if p∈s then s else s++[p]
def dd (l:List α):List α:=l.foldl xB []
def pos (s:List α) (p:α):Nat:=s.idxOf p
def ix (l:List α) (p:α):Nat:=pos (dd l) p
end
@[irreducible] def bs:List Nat:=List.range 256
def sig (l:List Nat) (b:Nat):List Bool:=l.map fun s=>s.testBit b
def iB (l:List Nat):List (List Bool):=bs.map (sig l)
def many (l:List Nat):Nat:=(dd (iB l)).length
def gA (m:Nat):List Value:=[.int .u64 (kJ m 0),.int .u64 (kJ m 1),.int .u64 (kJ m 2),.int .u64 (kJ m 3)]
def qV (m:Nat):Value:=.agg #[.int .u64 (kJ m 0),.int .u64 (kJ m 1),.int .u64 (kJ m 2),.int .u64 (kJ m 3)]
theorem gY (m:Nat):Value.cells (qV m)=(gA m).toArray:=rfl
theorem aDl {m i:Nat} (hi:i < 4):(gA m)[i]?=some (.int .u64 (kJ m i)):=by
 match i,hi with
 | 0,_=>rfl
 | 1,_=>rfl
 | 2,_=>rfl
 | 3,_=>rfl
theorem aNx {q:Nat} (h:q < 18446744073709551616):(q:Int)≤18446744073709551615:=by omega
theorem pY {ro:Ro}{m b:Nat} (hb:b < 256) {h:T Obj}{nx:Nat}{K:KV} (hf:Fr h nx) (hK:∀ nx',nx≤nx'→K (.bool (m.testBit b)) h nx'):aN Tryz.prog ro lM [qV m,.int .u8 b] h nx K:=by
 apply aJn
 unfold aIh
 have h1:((b:Int) / 64).toNat=b / 64:=by omega
 have h2:((b:Int) % 64).toNat=b % 64:=by omega
 have h3:=aOf m (b / 64)
 have h4:b / 64 < 4:=by omega
 have h5:=aDl (m:=m) h4
 have h6:kJ m (b / 64) / 2 ^ (b % 64)≤kJ m (b / 64):=Nat.div_le_self _ _
 have h7:((kJ m (b / 64) / 2 ^ (b % 64):Nat):Int)≤18446744073709551615:=aNx (Nat.lt_of_le_of_lt h6 h3)
 simp (disch:=first | omega | exact Int.natCast_nonneg _ | assumption) only [fA,gY,cH,eA,eB,b9,aW,jV,fZ,eY,eD,dD,T.get_upd_same,bO,Option.bind,h1,h2,Nat.zero_add,Nat.mul_one,h5]
 refine⟨h,(aU.refl h).new hf (Nat.le_refl _),?_⟩
 have e:(decide ((((kJ m (b / 64) / 2 ^ (b % 64):Nat):Int) % 2)=1))=m.testBit b:=by
  have h9:=aTI m b
  cases hm:m.testBit b with
  | true=>rw[hm] at h9; have:=h9.2 rfl; apply decide_eq_true; omega
  | false =>
   rw[hm] at h9
   have:¬ (kJ m (b / 64) / 2 ^ (b % 64) % 2=1):=fun e=>by have:=h9.1 e; cases this
   apply decide_eq_false; omega
 rw[e]
 exact hK _ (by omega)
structure PosD where
 s:Nat
 lo:Int
 hi:Int
 rule:Int
 last:Bool
 next:List Int
structure GlD where
 first:List Int
 p:List PosD
def rz (last many:Int):List Int→Bool
 | []=>true
 | x::r=>decide (last < x)&&(decide (x < many)&&rz x many r)
def aBm:PosD:=⟨0,0,0,0,false,[]⟩
def GlD.at (g:GlD) (i:Int):PosD:=g.p.getD i.toNat aBm
theorem iA (a m x:Int) (r:List Int):rz a m (x::r)=(decide (a < x)&&(decide (x < m)&&rz x m r)):=rfl
theorem dX:∀ {l:List Int}{a m:Int},rz a m l=true→∀ x∈l,a < x∧x < m
 | [],a,m,h,x,hx=>by cases hx
 | y::r,a,m,h,x,hx=>by
  simp only[rz,Bool.and_eq_true,decide_eq_true_eq] at h
  rcases List.mem_cons.1 hx with rfl | hx
  ·exact⟨h.1,h.2.1⟩
  ·have:=dX h.2.2 x hx; omega
def oF (p:PosD) (nv:Value):List Value:=gA p.s++[.int .i64 p.lo,.int .i64 p.hi,.int .i64 p.rule,.bool p.last,nv]
def oU (ro:Ro) (h:T Obj) (x:List Value) (p:PosD):Prop:=∃ nv,x=oF p nv∧ZI ro h nv p.next∧p.s < 2 ^ 256
theorem oU.sub {ro:Ro}{h h':T Obj} (hs:aU h h'):∀ x d,oU ro h x d→oU ro h' x d:=fun x d ⟨nv,h1,h2,h3⟩=>⟨nv,h1,h2.sub hs,h3⟩
def RG (ro:Ro) (h:T Obj) (v:Value) (g:GlD):Prop:=∃ a b,v=.agg #[a,b]∧ZI ro h a g.first∧gD ro h b 9 (oU ro h) g.p
theorem RG.sub {ro:Ro}{h h':T Obj}{v:Value}{g:GlD} (hs:aU h h') (hg:RG ro h v g):RG ro h' v g:=by
 obtain⟨a,b,h1,h2,h3⟩:=hg
 exact⟨a,b,h1,h2.sub hs,h3.sub hs (oU.sub hs)⟩
def aBp {D:Type} (q:D→Bool) (k:Int):List D→Int
 | []=>-1
 | x::r=>if q x then k else aBp q (k+1) r
theorem aC4 {D:Type} (q:D→Bool) (k:Int) (x:D) (r:List D):aBp q k (x::r)=if q x then k else aBp q (k+1) r:=rfl
theorem aEG {D:Type} (q:D→Bool):∀ (l:List D) (k:Int),0≤k→decide (0≤aBp q k l)=l.any q
 | [],k,hk=>rfl
 | x::r,k,hk=>by
  rw[aC4,List.any_cons]
  by_cases h:q x=true
  ·rw[if_pos h,h]; simp[hk]
  ·rw[if_neg h,aEG q r (k+1) (by omega)]; simp[h]
theorem aNr {D:Type} (q:D→Bool) (l:List D):(!(l.any fun x=>!q x))=l.all q:=by
 induction l with
 | nil=>rfl
 | cons x r ih=>rw[List.any_cons,List.all_cons,Bool.not_or,ih,Bool.not_not]
def u8s (l:List Nat):List Value:=l.map fun b:Nat=>Value.int .u8 (b:Int)
theorem sB (l:List Nat):(u8s l).length=l.length:=by simp[u8s]
def fI (c:List Nat) (n:Int):List Value:=u8s c++[.int .i64 n]
def mW (c:List Nat) (n:Int):Value:=.agg (fI c n).toArray
theorem oH (c:List Nat) (n:Int):(mW c n).cells=(fI c n).toArray:=rfl
theorem dV {c:List Nat}{n:Int} (hc:c.length=256):(fI c n).length=257:=by simp[fI,sB,hc]
theorem aHU (c:List Nat) (n:Int):(fI c n).all bV=true:=by simp[fI,u8s,bV]
theorem aFS {c:List Nat}{n:Int}{i:Nat} (hi:i < c.length):(fI c n)[i]?=some (.int .u8 (c[i]:Nat)):=by
 unfold fI
 rw[List.getElem?_append_left (by rw[sB]; exact hi)]
 simp[u8s,hi]
theorem aAC {c:List Nat}{n:Int} (hc:c.length=256):(fI c n)[256]?=some (.int .i64 n):=by
 unfold fI
 rw[List.getElem?_append_right (by rw[sB]; omega)]
 simp[sB,hc]
theorem aRY {ro:Ro}{h:T Obj}{id z n:Nat}{c:List Nat}{m:Int}{e:TypeId}{f:Nat × Nat} (hg:h.get id=some (.cells (fI c m).toArray e f)) (hc:c.length=256):loadA ro h 256 (at_ id 0 z)=some (.agg (u8s c).toArray):=by
 rw[cQ,hg,bO]
 simp only[Option.bind_some,tl]
 rw[if_pos (by rw[dV hc]; omega),List.drop_zero]
 unfold fI
 rw[List.take_append_of_le_length (by rw[sB]; omega),List.take_of_length_le (by rw[sB]; omega)]
theorem aRO {c:List Nat}{i:Nat} (k:IntKind) (hi:i < c.length) (hc:c.length=256):aTe 256 1 (.agg (u8s c).toArray) (.int k (i:Int))=some (.int .u8 (c[i]:Nat)):=by
 have hn:nV (.int k (i:Int))=some i:=by simp[nV]
 have hb:Nat.blt i 256=true:=by simp[Nat.blt]; omega
 unfold aTe
 rw[hn]
 simp only[Option.bind_some,asAgg,hb,Nat.mul_one,List.getElem?_toArray]
 simp[u8s,hi]
def rt (c:List Nat):Nat→Option Nat
 | 0=>some 0
 | i+1=>(rt c i).bind fun m=>if m < c.getD i 0 then none else if c.getD i 0=m then some (m+1) else some m
def s8 (c:List Nat) (n:Int):Bool:=match rt c 256 with
 | some m=>decide ((m:Int)=n)
 | none=>false
theorem aSb {c:List Nat}:∀ {i m:Nat},rt c i=some m→m≤i
 | 0,m,h=>by cases h; exact Nat.le_refl _
 | i+1,m,h=>by
  obtain⟨m0,h1,h2⟩:=aM h
  have:=aSb h1
  split at h2
  ·cases h2
  ·split at h2<;>cases h2<;>omega
theorem aU1 {c:List Nat}{i:Nat} (h:rt c i=none):∀ j,i≤j→rt c j=none:=by
 intro j hj
 induction hj with
 | refl=>exact h
 | step _ ih=>simp only[rt,ih,Option.bind]
theorem zzI{A B:Prop}(k:B)(h:B→A:=by first|exact aB (by simp (disch:=first|omega|exact nnN _|assumption) only [BB,B2,↓reduceIte,Nat.reduceLeDiff,Nat.reduceAdd,aW,aX,bA,a9,aZ,aY]<;>rfl)|exact aD|exact aF|with_reducible first|exact aG|exact aE|exact aH|exact aI|exact aK|exact aJ|exact aL|exact aC):A:=h k
theorem zzIz{A B:Prop}(k:B)(h:B→A:=by first|exact aB (by simp (disch:=first|omega|exact nnN _|assumption) only [BB,B2,↓reduceIte,Nat.reduceLeDiff,Nat.reduceAdd,aW,aX,bA,a9,aZ,aY,zy]<;>rfl)|exact aD|exact aF|with_reducible first|exact aG|exact aE|exact aH|exact aI|exact aK|exact aJ|exact aL|exact aC):A:=h k
set_option maxRecDepth 4000 in
theorem aHx {ro:Ro}{c:List Nat}{n:Int} (hc:c.length=256) (hcl:∀ x∈c,x < 256) {h:T Obj}{nx:Nat}{K:KV} (hf:Fr h nx) (hK:∀ nx',nx≤nx'→K (.bool (s8 c n)) h nx'):aN Tryz.prog ro xO [mW c n] h nx K:=by
 apply aHV
 unfold aFT
 refine aD ?_
 (repeat refine zzI ?_)
 refine aB (aRY (n:=0) (c:=c) (m:=n) (e:=cT) (f:=(0,0)) (by simp (disch:=first | omega | exact Int.natCast_nonneg _ | assumption) only [BB,B2,↓reduceIte,Nat.reduceLeDiff,Nat.reduceAdd,aW,aX,bA,a9,aZ,aY,oH]) hc) ?_
 refine bD (fun j e h' nx'=>∃ (i m:Nat),i+j=256∧nx+1≤nx'∧e 1=ptr nx∧e 3=.int .i64 m∧e 7=.agg (u8s c).toArray∧e 8=.int .i64 i∧aU h h'∧Fr h' nx' ∧
  h'.get nx=some (.cells (fI c n).toArray cT)∧rt c i=some m) ?_ (n:=256) ⟨0,0,by omega,by omega,rfl,rfl,rfl,rfl,?_,?_,?_,rfl⟩
 ·rintro j e h' nx' ⟨i,m,hij,hnx,e1,e3,e7,e8,hs,hf',g0,hr⟩ Q' hq hx
  have hm:=aSb hr
  unfold aBQ
  rw[e3,e7,e8]
  (repeat refine zzI ?_)
  by_cases hi:i < 256
  ·refine iF (by simp; omega) ?_
   have hic:i < c.length:=by omega
   refine aB (aRO _ hic hc) ?_
   have hci:=hcl _ (List.getElem_mem hic)
   have hgd:c.getD i 0=c[i]:=by rw[List.getD_eq_getElem?_getD,List.getElem?_eq_getElem hic]; rfl
   have hrs:rt c (i+1)=if m < c[i] then none else if c[i]=m then some (m+1) else some m:=by simp only[rt,hr,Option.bind_some,hgd]
   (repeat refine zzI ?_)
   by_cases h1:m < c[i]
   ·refine iF (by simp; omega) ?_
    refine hx _ _ _ _ (fun e=>by cases e) (kW ?_)
    refine⟨h,hs,?_⟩
    have hn:rt c 256=none:=aU1 (i:=i+1) (by rw[hrs,if_pos h1]) 256 (by omega)
    have:=hK (nx'+9) (by omega)
    unfold s8 at this
    rw[hn] at this
    exact this
   ·refine iE (by simp; omega) ?_
    rw[if_neg h1] at hrs
    (repeat refine zzI ?_)
    have hj2:∀ (e:dF) (n2 m':Nat),nx'≤n2→e 1=ptr nx→e 3=.int .i64 m'→e 7=.agg (u8s c).toArray→e 8=.int .i64 i→rt c (i+1)=some m'→qW ro Q' e h' n2:=by
     intro e n2 m' hn2 e1 e3 e7 e8 hr'
     unfold qW
     rw[e8]
     (repeat refine zzI ?_)
     exact hq (j - 1) _ _ _ _ (by omega) ⟨i+1,m',by omega,by omega,e1,e3,e7,rfl,hs,hf'.mono (by omega),g0,hr'⟩ (aU.refl _)
    by_cases h2:c[i]=m
    ·refine iF (by simp; omega) ?_
     (repeat refine zzI ?_)
     rw[if_pos h2] at hrs
     exact hj2 _ _ (m+1) (by omega) e1 rfl e7 e8 hrs
    ·refine iE (by simp; omega) ?_
     rw[if_neg h2] at hrs
     exact hj2 _ _ m (by omega) e1 e3 e7 e8 hrs
  ·refine iE (by simp; omega) ?_
   refine hx _ _ _ _ (fun e=>by cases e) (d3 (cU ?_))
   have hi2:i=256:=by omega
   subst hi2
   unfold vY
   have f1:∀ a,dF.put e 9 a 1=ptr nx:=fun a=>e1
   have f3:∀ a,dF.put e 9 a 3=.int .i64 m:=fun a=>e3
   simp only[puts,f1,f3]
   have hg:=aAC (n:=n) hc
   (have zy:=And.intro g0 hg;repeat refine zzIz ?_)
   refine⟨h,hs,?_⟩
   have:=hK (nx'+1+5) (by omega)
   unfold s8 at this
   rw[hr] at this
   exact this
 ·exact (aU.refl h).new hf (Nat.le_refl _)
 ·exact hf.upd (m:=nx+6) (by omega) (by omega)
 ·simp (disch:=first | omega | exact Int.natCast_nonneg _ | assumption) only [BB,B2,↓reduceIte,Nat.reduceLeDiff,Nat.reduceAdd,aW,aX,bA,a9,aZ,aY,oH]
def eW (m:Int):Int:=if m=0 then 1 else if m=1 then 3 else if m=2 then 9 else if m=3 then 27 else 0
theorem aKg {m p:Int} (h:m=0∧p=1∨m=1∧p=3∨m=2∧p=9∨m=3∧p=27):eW m=p:=by
 unfold eW
 rcases h with ⟨h,rfl⟩ | ⟨h,rfl⟩ | ⟨h,rfl⟩ | ⟨h,rfl⟩<;>subst h<;>rfl
theorem yD {m:Int} (h:m < 0∨3 < m):eW m=0:=by
 unfold eW
 rw[if_neg (by omega),if_neg (by omega),if_neg (by omega),if_neg (by omega)]
theorem aGD (m:Int):0≤eW m∧eW m≤27:=by
 unfold eW
 repeat' split
 all_goals omega
theorem aIL {m:Int} (h:eW m≠0):0≤m∧m≤3:=by
 rcases Int.lt_or_le m 0 with h1 | h1
 ·exact absurd (yD (.inl h1)) h
 ·rcases Int.lt_or_le 3 m with h2 | h2
  ·exact absurd (yD (.inr h2)) h
  ·exact⟨h1,h2⟩
theorem zzC{A B:Prop}(k:B)(h:B→A:=by first|exact aB (by simp (disch:=first|omega|exact nnN _|assumption) only [BB,B2,↓reduceIte,Nat.reduceLeDiff,Nat.reduceAdd,CC]<;>rfl)|exact aD|exact aF|with_reducible first|exact aG|exact aE|exact aH|exact aI|exact aK|exact aJ|exact aL|exact aC):A:=h k
set_option maxRecDepth 4000 in
theorem aJG {ro:Ro}{m:Int}{h:T Obj}{nx:Nat}{K:KV} (hK:∀ nx',nx≤nx'→K (.int .i64 (eW m)) h nx'):aN Tryz.prog ro zE [.int .i64 m] h nx K:=by
 apply aH7
 unfold aFr
 refine cM (fun h1=>?_) (fun h1=>?_)
 ·(repeat refine zzC ?_)
  exact⟨_,aU.refl _,ki hK (yD (.inl h1)) (by omega)⟩
 ·(repeat refine zzC ?_)
  refine jT (fun h2=>?_) (fun h2=>?_)
  ·(repeat refine zzC ?_)
   exact⟨_,aU.refl _,ki hK (yD (.inr h2)) (by omega)⟩
  ·(repeat refine zzC ?_)
   refine bD (fun j e h' nx'=>∃ (k:Nat) (p:Int),(k:Int)+j=m∧nx≤nx'∧h'=h∧e 3=.int .i64 p∧e 10=.int .i64 m∧e 11=.int .i64 k∧(k=0∧p=1∨k=1∧p=3∨k=2∧p=9∨k=3∧p=27)) ?_ (n:=m.toNat) ⟨0,1,by omega,by omega,rfl,rfl,rfl,rfl,by omega⟩
   rintro j e h' nx' ⟨k,p,hj,hnx,rfl,e3,e10,e11,hp⟩ Q' hq hx
   unfold aBh
   rw[e3,e10,e11]
   refine cM (fun hk=>?_) (fun hk=>?_)
   ·(repeat refine zzC ?_)
    exact hq (j - 1) _ _ _ _ (by omega) ⟨k+1,p*3,by omega,by omega,rfl,rfl,e10,rfl,by omega⟩ (aU.refl _)
   ·(repeat refine zzC ?_)
    refine hx _ _ _ _ (fun e=>by cases e) (d3 (cU ?_))
    unfold xC
    have f3:∀ (e':dF) n,e' 3=.int .i64 p→nx≤n→∃ h13,aU h13 h'∧K (e' 3) h13 n:=fun e' n h3 hn=>by
     rw[h3]
     exact⟨_,aU.refl _,ki hK (aKg (by omega)) hn⟩
    exact f3 _ _ e3 (by omega)
set_option maxRecDepth 4000 in
theorem aHu {ro:Ro}{m:Int}{h:T Obj}{nx:Nat}{K:KV} (hK:∀ nx',nx≤nx'→K (.int .i64 (eW m)) h nx'):aN Tryz.prog ro xN [.int .i64 m] h nx K:=by
 apply aHE
 unfold aFO
 refine cM (fun h1=>?_) (fun h1=>?_)
 ·(repeat refine zzC ?_)
  exact⟨_,aU.refl _,ki hK (yD (.inl h1)) (by omega)⟩
 ·(repeat refine zzC ?_)
  refine jT (fun h2=>?_) (fun h2=>?_)
  ·(repeat refine zzC ?_)
   exact⟨_,aU.refl _,ki hK (yD (.inr h2)) (by omega)⟩
  ·(repeat refine zzC ?_)
   refine bD (fun j e h' nx'=>∃ (k:Nat) (p:Int),(k:Int)+j=m∧nx≤nx'∧h'=h∧e 3=.int .i64 p∧e 0=.int .i64 m∧e 4=.int .i64 k∧(k=0∧p=1∨k=1∧p=3∨k=2∧p=9∨k=3∧p=27)) ?_ (n:=m.toNat) ⟨0,1,by omega,by omega,rfl,rfl,rfl,rfl,by omega⟩
   rintro j e h' nx' ⟨k,p,hj,hnx,rfl,e3,e10,e11,hp⟩ Q' hq hx
   unfold aBB
   rw[e3,e10,e11]
   refine cM (fun hk=>?_) (fun hk=>?_)
   ·(repeat refine zzC ?_)
    exact hq (j - 1) _ _ _ _ (by omega) ⟨k+1,p*3,by omega,by omega,rfl,rfl,e10,rfl,by omega⟩ (aU.refl _)
   ·(repeat refine zzC ?_)
    refine hx _ _ _ _ (fun e=>by cases e) (d3 (cU ?_))
    unfold vL
    have f3:∀ (e':dF) n,e' 3=.int .i64 p→nx≤n→∃ h13,aU h13 h'∧K (e' 3) h13 n:=fun e' n h3 hn=>by
     rw[h3]
     exact⟨_,aU.refl _,ki hK (aKg (by omega)) hn⟩
    exact f3 _ _ e3 (by omega)
structure MoveD where
 to:Int
 ops:List Nat
structure StateD where
 l:List Int
 r:List Int
 rule:List Int
 next:List (List MoveD)
structure AutoD where
 c:List Nat
 many:Int
 counts:List (Int × Int)
 states:List StateD
def noS:StateD:=⟨[],[],[],[]⟩
def aL4 (R:List Int) (o:Nat) (r:Int):Bool:=decide (1≤o)&&(decide (o≤3)&&(decide (o=3) || R.contains r))
def aBv (R:List Int):List Nat→List Int→Bool
 | o::os,r::rs=>aL4 R o r&&aBv R os rs
 | _,_=>true
def kX (S:List StateD) (R:List Int) (m:MoveD):Bool :=
 if m.to=-1 then decide (m.ops.length=0) else decide (1≤m.to)&&(decide (m.to < S.length)&&(decide (m.ops.length=(S.getD m.to.toNat noS).r.length)&&aBv R m.ops (S.getD m.to.toNat noS).r))
def aAP:Nat:=9223372036854775807
def RU8 (x:List Value) (d:Nat):Prop:=x=[.int .u8 (d:Int)]∧d < 256
def aBg (ro:Ro) (h:T Obj) (x:List Value) (d:MoveD):Prop:=∃ ov,x=[.int .i64 d.to,ov]∧gD ro h ov 1 RU8 d.ops∧d.ops.length≤aAP
def v8 (ro:Ro) (h:T Obj) (x:List Value) (d:List MoveD):Prop:=∃ w,x=[w]∧gD ro h w 2 (aBg ro h) d∧d.length≤aAP
def eR (ro:Ro) (h:T Obj) (x:List Value) (d:StateD):Prop:=∃ lv rv uv nv,x=[lv,rv,uv,nv]∧ZI ro h lv d.l∧ZI ro h rv d.r∧ZI ro h uv d.rule∧gD ro h nv 1 (v8 ro h) d.next∧d.r.length≤aAP
def aCV (x:List Value) (d:Int × Int):Prop:=x=[.int .i64 d.1,.int .i64 d.2]
theorem aBg.sub {ro:Ro}{h h':T Obj} (hs:aU h h'):∀ x d,aBg ro h x d→aBg ro h' x d:=fun x d ⟨ov,h1,h2,h3⟩=>⟨ov,h1,h2.sub hs fun _ _ h=>h,h3⟩
theorem v8.sub {ro:Ro}{h h':T Obj} (hs:aU h h'):∀ x d,v8 ro h x d→v8 ro h' x d:=fun x d ⟨ov,h1,h2,h3⟩=>⟨ov,h1,h2.sub hs (aBg.sub hs),h3⟩
theorem eR.sub {ro:Ro}{h h':T Obj} (hs:aU h h'):∀ x d,eR ro h x d→eR ro h' x d:=fun x d ⟨lv,rv,uv,nv,h1,h2,h3,h4,h5,h6⟩=>⟨lv,rv,uv,nv,h1,h2.sub hs,h3.sub hs,h4.sub hs,h5.sub hs (v8.sub hs),h6⟩
def eK (c:List Nat) (n:Int) (cv sv:Value):List Value:=fI c n++[cv,sv]
section
variable {c:List Nat}{n:Int}{cv sv:Value}
theorem cV (hc:c.length=256):(eK c n cv sv).length=259:=by simp[eK,dV hc]
theorem aIF (hc:c.length=256):(eK c n cv sv)[256]?=some (.int .i64 n):=by
 unfold eK
 rw[List.getElem?_append_left (by rw[dV hc]; omega)]
 exact aAC hc
theorem pQ (hc:c.length=256):(eK c n cv sv)[257]?=some cv:=by
 unfold eK
 rw[List.getElem?_append_right (by rw[dV hc]; omega),dV hc]; rfl
theorem nF (hc:c.length=256):(eK c n cv sv)[258]?=some sv:=by
 unfold eK
 rw[List.getElem?_append_right (by rw[dV hc]; omega),dV hc]; rfl
theorem aB0 (h1:bV cv=true) (h2:bV sv=true):(eK c n cv sv).all bV=true:=by
 unfold eK
 rw[List.all_append,aHU,Bool.true_and]
 simp[h1,h2]
theorem aVA {ro:Ro}{h:T Obj}{id z:Nat}{e:TypeId}{f:Nat × Nat} (hg:h.get id=some (.cells (eK c n cv sv).toArray e f)) (hc:c.length=256):loadA ro h 257 (at_ id 0 z)=some (mW c n):=by
 rw[cQ,hg,bO]
 simp only[Option.bind_some,tl]
 rw[if_pos (by rw[cV hc]; omega),List.drop_zero]
 unfold eK
 rw[List.take_append_of_le_length (by rw[dV hc]; omega),List.take_of_length_le (by rw[dV hc]; omega)]
 rfl
end
def qF (ro:Ro) (h:T Obj) (x:List Value) (d:AutoD):Prop:=∃ cv sv,x=eK d.c d.many cv sv∧d.c.length=256∧(∀ x∈d.c,x < 256)∧gD ro h cv 2 aCV d.counts∧gD ro h sv 4 (eR ro h) d.states∧d.counts.length≤aAP∧d.states.length≤aAP
theorem aCf (R:List Int) (o:Nat) (os:List Nat) (r:Int) (rs:List Int):aBv R (o::os) (r::rs)=(aL4 R o r&&aBv R os rs):=rfl
theorem aPl (R:List Int) (rs:List Int):aBv R [] rs=true:=by cases rs<;>rfl
set_option maxRecDepth 4000 in
theorem aCu {ro:Ro}{v:Value}{l:List Int}{many:Int} (hm:many≤1000000) {h:T Obj}{nx:Nat}{K:KV} (hv:ZI ro h v l) (hK:∀ nx',nx≤nx'→K (.bool (rz (-1) many l)) h nx'):aN Tryz.prog ro tM [v,.int .i64 many] h nx K:=by
 apply aH9
 unfold aFu
 generalize hR:rz (-1) many l=R at hK
 refine aB hv.len ?_
 refine bD (fun j e h' nx'=>∃ (k:Nat) (last:Int),k+j=l.length∧nx≤nx'∧h'=h∧e 1=.int .i64 many∧e 5=.int .i64 last∧e 8=v∧e 9=.int .i64 l.length∧e 10=.int .i64 k∧(k:Int)≤last+1∧rz last many (l.drop k)=R) ?_ (n:=l.length) ⟨0,-1,by omega,by omega,rfl,rfl,rfl,rfl,rfl,rfl,by omega,hR⟩
 rintro j e h' nx' ⟨k,last,hj,hnx,rfl,e1,e5,e8,e9,e10,hk1,hr⟩ Q' hq hx
 unfold aBi
 rw[e1,e5,e8,e9,e10]
 (repeat refine zzI ?_)
 refine aT2 (fun hk=>?_) (fun hk=>?_)
 ·have hk:k < l.length:=by omega
  rw[cP hk,iA] at hr
  refine aB (hv.ix _ hk) (aB (hv.load hk) ?_)
  generalize l[k]=x at hr
  (repeat refine zzI ?_)
  by_cases h1:x≤last
  ·rw[decide_eq_true h1]
   (repeat refine zzI ?_)
   refine hx _ _ _ _ (fun e=>by cases e) (kW ?_)
   refine⟨_,aU.refl _,kb hK ?_ (by omega)⟩
   rw[← hr,decide_eq_false (by omega)]; rfl
  ·rw[decide_eq_false h1]
   (repeat refine zzI ?_)
   by_cases h2:many≤x
   ·rw[decide_eq_true h2]
    (repeat refine zzI ?_)
    refine hx _ _ _ _ (fun e=>by cases e) (kW ?_)
    refine⟨_,aU.refl _,kb hK ?_ (by omega)⟩
    rw[← hr,decide_eq_false (show ¬ x < many by omega)]; simp
   ·rw[decide_eq_false h2]
    (repeat refine zzI ?_)
    refine hq (j - 1) _ _ _ _ (by omega) ⟨k+1,x,by omega,by omega,rfl,e1,rfl,e8,e9,rfl,by omega,?_⟩ (aU.refl _)
    rw[← hr,decide_eq_true (show last < x by omega),decide_eq_true (show x < many by omega)]; rfl
 ·refine hx _ _ _ _ (fun e=>by cases e) (d3 (cU ?_))
  unfold xF
  rw[eO (by omega)] at hr
  exact⟨_,aU.refl _,kb hK hr.symm (by omega)⟩
theorem aCh {ro:Ro}{v:Value}{l:List Int}{p:Int} (hlen:l.length≤1000000) {h:T Obj}{nx:Nat}{K:KV} (hv:ZI ro h v l) (hK:∀ nx',nx≤nx'→K (.bool (l.contains p)) h nx'):aN Tryz.prog ro uR [v,.int .i64 p] h nx K:=by
 apply aMD
 unfold aMC
 generalize hR:l.contains p=R at hK
 refine bD (fun j e h' nx'=>∃ (k:Nat),k+j=l.length∧nx≤nx'∧h'=h∧e 0=v∧e 1=.int .i64 p∧e 5=.int .i64 k∧(l.drop k).contains p=R) ?_ (n:=l.length) ⟨0,by omega,by omega,rfl,rfl,rfl,rfl,hR⟩
 rintro j e h' nx' ⟨k,hj,hnx,rfl,e0,e1,e5,hr⟩ Q' hq hx
 unfold aFP
 rw[e0,e1,e5]
 refine aB hv.len ?_
 refine cM (fun hk=>?_) (fun hk=>?_)
 ·have hk:k < l.length:=by omega
  rw[cP hk] at hr
  (repeat refine zzC ?_)
  refine aB (hv.ix _ hk) (aB (hv.load hk) ?_)
  generalize l[k]=x at hr
  refine i4 (fun he=>?_) (fun he=>?_)
  ·(repeat refine zzC ?_)
   refine hx _ _ _ _ (fun e=>by cases e) (kW ?_)
   exact⟨_,aU.refl _,kb hK (by rw[← hr,he]; simp) (by omega)⟩
  ·(repeat refine zzC ?_)
   refine hq (j - 1) _ _ _ _ (by omega) ⟨k+1,by omega,by omega,rfl,e0,e1,rfl,?_⟩ (aU.refl _)
   rw[← hr,List.contains_cons,beq_eq_false_iff_ne.2 (Ne.symm he),Bool.false_or]
 ·(repeat refine zzC ?_)
  refine hx _ _ _ _ (fun e=>by cases e) (d3 (cU ?_))
  unfold aBL
  rw[eO (by omega)] at hr
  exact⟨_,aU.refl _,kb hK hr.symm (by omega)⟩
theorem wW {ro:Ro}{v:Value}{l:List Int}{p:Int} (hlen:l.length≤1000000) {h:T Obj}{nx:Nat}{K:KV} (hv:ZI ro h v l) (hK:∀ nx',nx≤nx'→K (.bool (l.contains p)) h nx'):aN Tryz.prog ro gW [v,.int .i64 p] h nx K:=by
 apply vX
 unfold qB
 apply yT
 unfold sT
 refine aB hv.len ?_
 have hyes:∀ (k:Nat) n,p∈l→nx≤n→aA (aP .geq (.int .i64 (k:Int)) (.int .i64 0)) fun t8_4=>∃ h5,aU h5 h∧K t8_4 h5 (n+2):=fun k n hp hn=>by
  refine mY (fun hg=>?_) (fun hg=>by omega)
  exact⟨_,aU.refl _,kb hK (by simpa using hp) (by omega)⟩
 generalize hR:l.contains p=R at hK
 refine bD (fun j e h' nx'=>∃ (k:Nat),k+j=l.length∧nx≤nx'∧h'=h∧e 0=v∧e 1=.int .i64 p∧e 7=.int .i64 l.length∧e 8=.int .i64 k∧(l.drop k).contains p=R) ?_ (n:=l.length) ⟨0,by omega,by omega,rfl,rfl,rfl,rfl,rfl,hR⟩
 rintro j e h' nx' ⟨k,hj,hnx,rfl,e0,e1,e7,e8,hr⟩ Q' hq hx
 unfold qC
 rw[e0,e1,e7,e8]
 refine cM (fun hk=>?_) (fun hk=>?_)
 ·have hk:k < l.length:=by omega
  have hmem:l[k]∈l:=List.getElem_mem hk
  rw[cP hk] at hr
  (repeat refine zzC ?_)
  refine aB (hv.ix _ hk) (aB (hv.load hk) ?_)
  generalize l[k]=x at hr hmem
  refine i4 (fun he=>?_) (fun he=>?_)
  ·(repeat refine zzC ?_)
   refine hx _ _ _ _ (fun e=>by cases e) (kW ?_)
   refine⟨_,aU.refl _,hyes _ _ (by rw[he]; exact hmem) (by omega)⟩
  ·(repeat refine zzC ?_)
   refine hq (j - 1) _ _ _ _ (by omega) ⟨k+1,by omega,by omega,rfl,e0,e1,e7,rfl,?_⟩ (aU.refl _)
   rw[← hr,List.contains_cons,beq_eq_false_iff_ne.2 he,Bool.false_or]
 ·(repeat refine zzC ?_)
  refine hx _ _ _ _ (fun e=>by cases e) (d3 (cU ?_))
  unfold lH
  rw[eO (by omega)] at hr
  refine⟨_,aU.refl _,?_⟩
  refine mY (fun hg=>by omega) (fun hg=>?_)
  exact⟨_,aU.refl _,kb hK hr.symm (by omega)⟩
theorem zzCz{A B:Prop}(k:B)(h:B→A:=by first|exact aB (by simp (disch:=first|omega|exact nnN _|assumption) only [BB,B2,↓reduceIte,Nat.reduceLeDiff,Nat.reduceAdd,CC,zy]<;>rfl)|exact aD|exact aF|with_reducible first|exact aG|exact aE|exact aH|exact aI|exact aK|exact aJ|exact aL|exact aC):A:=h k
set_option maxRecDepth 8000 in
set_option maxHeartbeats 1000000 in
theorem aGC {ro:Ro}{c:List Nat}{n:Int}{cv sv lv rv uv nv ov:Value}{S:List StateD}{R:List Int}{m:MoveD} (hc:c.length=256) (hSl:S.length≤256) (hR:R.length≤3) (hmo:m.ops.length≤aAP) {h:T Obj}{nx:Nat}{K:KV} (hf:Fr h nx)
  (hS:gD ro h sv 4 (eR ro h) S) (hrv:ZI ro h rv R) (hov:gD ro h ov 1 RU8 m.ops) (hK:∀ nx',nx≤nx'→K (.bool (kX S R m)) h nx'):aN Tryz.prog ro oP [.agg (eK c n cv sv).toArray,.agg #[lv,rv,uv,nv],.agg #[.int .i64 m.to,ov]] h nx K:=by
 apply aAY
 unfold wA
 refine fV hf (Nat.le_refl _) fun h1 hs1 hf1 g1 _=>?_
 refine fV hf1 (Nat.le_refl _) fun h2 hs2 hf2 g2 _=>?_
 refine fV hf2 (Nat.le_refl _) fun h3 hs3 hf3 g3 _=>?_
 have g1:h3.get nx=some (.cells (eK c n cv sv).toArray eG):=hs3 _ _ (hs2 _ _ g1)
 have g2:h3.get (nx+1)=some (.cells #[lv,rv,uv,nv] aR):=hs3 _ _ g2
 have g3:h3.get (nx+2)=some (.cells #[.int .i64 m.to,ov] bK):=g3
 have hs:=(hs1.trans hs2).trans hs3
 have hS:=hS.sub hs (eR.sub hs)
 have hrv:=hrv.sub hs
 have hov:=hov.sub hs fun _ _ h=>h
 have hsg:=nF (n:=n) (cv:=cv) (sv:=sv) hc
 have hol:=hov.len
 have hsl:=hS.len
 have hmb:m.ops.length≤9223372036854775807:=hmo
 have hno:∀ n,kX S R m=false→nx≤n→∃ h',aU h' h3∧K (.bool false) h' n:=fun n e hn=>⟨h,hs,kb hK e hn⟩
 (have zy:=g3;repeat refine zzCz ?_)
 refine i4 (fun ht=>?_) (fun ht=>?_)
 ·(have zy:=And.intro g3 hol;repeat refine zzCz ?_)
  refine aB (aW _ _ _) ?_
  refine⟨h,hs,kb hK ?_ (by omega)⟩
  unfold kX
  rw[if_pos ht,decide_eq_decide]
  omega
 ·unfold kX at hno hK
  rw[if_neg ht] at hno hK
  (have zy:=g3;repeat refine zzCz ?_)
  refine cM (fun h1=>?_) (fun h1=>?_)
  ·(repeat refine zzC ?_)
   exact hno _ (by rw[decide_eq_false (by omega)]; rfl) (by omega)
  ·rw[decide_eq_true h1,Bool.true_and] at hno hK
   (have zy:=And.intro g1 (And.intro g3 (And.intro hsg hsl));repeat refine zzCz ?_)
   refine mY (fun h2=>?_) (fun h2=>?_)
   ·(repeat refine zzC ?_)
    exact hno _ (by rw[decide_eq_false (by omega)]; rfl) (by omega)
   ·rw[decide_eq_true h2,Bool.true_and] at hno hK
    have hti:m.to.toNat < S.length:=by omega
    have hgd:S.getD m.to.toNat noS=S[m.to.toNat]:=by rw[List.getD_eq_getElem?_getD,List.getElem?_eq_getElem hti]; rfl
    rw[hgd] at hno hK
    have hix:=hS.ixI .i64 (i:=m.to) (by omega) h2
    obtain⟨x,⟨lv',rv',uv',nv',rfl,y1,y2,y3,y4,y5⟩,hx2,hx3,hx4,hx5⟩:=hS.at hti
    have hx1:=hx5 1 rv' rfl
    have hrl:=y2.len
    generalize S[m.to.toNat]=s at hno hK y1 y2 y3 y4 y5 hrl
    have y5:s.r.length≤9223372036854775807:=y5
    (have zy:=And.intro g1 (And.intro g3 (And.intro hsg (And.intro hol (And.intro hix (And.intro hx4 (And.intro hx1 hrl))))));repeat refine zzCz ?_)
    refine lN (fun u9=>?_) (fun u9=>?_)
    ·(repeat refine zzC ?_)
     exact hno _ (by rw[decide_eq_false (by omega)]; rfl) (by omega)
    ·have u9:m.ops.length=s.r.length:=by omega
     rw[decide_eq_true u9,Bool.true_and] at hno hK
     (have zy:=And.intro g3 hol;repeat refine zzCz ?_)
     generalize hB:aBv R m.ops s.r=B at hno hK
     refine bD (fun j e h' nx'=>∃ (k:Nat),k+j=m.ops.length∧nx≤nx'∧h'=h3∧e 3=ptr nx∧e 4=ptr (nx+1)∧e 5=ptr (nx+2)∧e 44=ov∧e 45=.int .i64 m.ops.length∧e 46=.int .i64 k∧aBv R (m.ops.drop k) (s.r.drop k)=B) ?_ (n:=m.ops.length) ⟨0,by omega,by omega,rfl,rfl,rfl,rfl,rfl,rfl,rfl,hB⟩
     rintro j e h' nx' ⟨k,hj,hnx,rfl,e3,e4,e5,e44,e45,e46,hr⟩ Q' hq hx
     unfold sE
     rw[e3,e4,e5,e44,e45,e46]
     refine cM (fun hk=>?_) (fun hk=>?_)
     ·have hk:k < m.ops.length:=by omega
      have hk2:k < s.r.length:=by omega
      rw[cP hk,cP hk2,aCf] at hr
      have oix:=hov.ix .i64 hk
      obtain⟨w,⟨ow,olt⟩,o1⟩:=hov.at1 hk
      simp only[List.cons.injEq,and_true] at ow
      subst ow
      have rix:=y2.ix .i64 hk2
      have rld:=y2.load hk2
      generalize m.ops[k]=o at hr o1 olt
      generalize s.r[k]=r at hr rld
      have hfin:∀ (e':dF) n,e' 6=.bool false→aL4 R o r=false→nx≤n→Q' .ret e' h' n:=fun e' n h6 hc hn=>by
       refine hx _ _ _ _ (fun e=>by cases e) (kW ?_)
       rw[h6]
       refine⟨h,hs,kb hK ?_ hn⟩
       rw[← hr,hc]; rfl
      have hok:∀ (e':dF) n,e' 3=ptr nx→e' 4=ptr (nx+1)→e' 5=ptr (nx+2)→e' 44=ov→e' 45=.int .i64 m.ops.length→e' 46=.int .i64 ((k:Int)+1)→aL4 R o r=true→nx≤n→Q' .normal e' h' n:=fun e' n f3 f4 f5 f44 f45 f46 hc hn =>
       hq (j - 1) _ _ _ _ (by omega) ⟨k+1,by omega,hn,rfl,f3,f4,f5,f44,f45,f46,by rw[← hr,hc]; rfl⟩ (aU.refl _)
      unfold aL4 at hfin hok
      (have zy:=And.intro oix o1;repeat refine zzCz ?_)
      refine cM (fun u1=>?_) (fun u1=>?_)
      ·(repeat refine zzC ?_)
       exact hfin _ _ rfl (by rw[decide_eq_false (by omega)]; rfl) (by omega)
      ·rw[decide_eq_true (by omega),Bool.true_and] at hfin hok
       (repeat refine zzC ?_)
       refine jT (fun u2=>?_) (fun u2=>?_)
       ·(repeat refine zzC ?_)
        exact hfin _ _ rfl (by rw[decide_eq_false (by omega)]; rfl) (by omega)
       ·rw[decide_eq_true (by omega),Bool.true_and] at hfin hok
        (repeat refine zzC ?_)
        refine lN (fun u3=>?_) (fun u3=>?_)
        ·rw[decide_eq_false (by omega),Bool.false_or] at hfin hok
         (have zy:=And.intro g1 (And.intro g2 (And.intro g3 (And.intro hsg (And.intro hix (And.intro hx4 (And.intro hx1 (And.intro rix rld)))))));repeat refine zzCz ?_)
         refine wW (by omega) hrv fun n9 hn9=>?_
         cases hcn:R.contains r with
         | true =>
          rw[hcn] at hok
          (repeat refine zzC ?_)
          exact hok _ _ e3 e4 e5 e44 e45 rfl rfl (by omega)
         | false =>
          rw[hcn] at hfin
          (repeat refine zzC ?_)
          exact hfin _ _ rfl rfl (by omega)
        ·rw[decide_eq_true (by omega),Bool.true_or] at hfin hok
         (repeat refine zzC ?_)
         exact hok _ _ e3 e4 e5 e44 e45 rfl rfl (by omega)
     ·(repeat refine zzC ?_)
      refine hx _ _ _ _ (fun e=>by cases e) (d3 (cU ?_))
      unfold nH
      rw[eO (by omega),aPl] at hr
      exact⟨h,hs,kb hK hr.symm (by omega)⟩
def aBO (S:List StateD) (R:List Int) (many ru:Int) (row:List MoveD):Bool:=decide (-1≤ru)&&(decide (ru < 512)&&(decide ((row.length:Int)=many)&&row.all (kX S R)))
def rO (S:List StateD) (R:List Int) (many:Int):List Int→List (List MoveD)→Bool
 | ru::rus,row::rows=>aBO S R many ru row&&rO S R many rus rows
 | _,_=>true
def kI (S:List StateD) (many:Int) (cn:Nat) (s:StateD):Bool:=decide (eW s.r.length≠0)&&(decide ((s.rule.length:Int)=eW s.r.length)&&(decide ((s.next.length:Int)=eW s.r.length)&&(rz (-1) 512 s.l&&(rz (-1) cn s.r&&rO S s.r many s.rule s.next))))
theorem sR (S:List StateD) (R:List Int) (many ru:Int) (row:List MoveD) (rus:List Int) (rows:List (List MoveD)):rO S R many (ru::rus) (row::rows)=(aBO S R many ru row&&rO S R many rus rows):=rfl
theorem aCl (S:List StateD) (R:List Int) (many:Int) (l:List Int):rO S R many l []=true:=by cases l<;>rfl
theorem aES {ro:Ro}{v f:Value}{D:Type}{l:List D}{R:List Value→D→Prop}{q:D→Bool} (hlen:l.length≤1000000) {h:T Obj}{nx:Nat}{K:KV} (hv:gD ro h v 2 R l)
  (hf:∀ (i:Nat) (hi:i < l.length) x n K',R x l[i]→nx≤n→(∀ n',n≤n'→K' (.bool (q l[i])) h n')→aEl (aN Tryz.prog ro) f [.agg x.toArray] h n K')
  (hK:∀ nx',nx≤nx'→K (.int .i64 (aBp q 0 l)) h nx'):aN Tryz.prog ro fQ [v,f] h nx K:=by
 apply oG
 unfold jD
 generalize hR:aBp q 0 l=r at hK
 refine aB hv.len ?_
 refine bD (fun j e h' nx'=>∃ (k:Nat),k+j=l.length∧nx≤nx'∧h'=h∧e 0=v∧e 1=f∧e 7=.int .i64 l.length∧e 8=.int .i64 k∧aBp q k (l.drop k)=r) ?_ (n:=l.length) ⟨0,by omega,by omega,rfl,rfl,rfl,rfl,rfl,hR⟩
 rintro j e h' nx' ⟨k,hj,hnx,rfl,e0,e1,e7,e8,hr⟩ Q' hq hx
 unfold iS
 rw[e0,e1,e7,e8]
 refine cM (fun hk=>?_) (fun hk=>?_)
 ·have hk:k < l.length:=by omega
  rw[cP hk,aC4] at hr
  obtain⟨x,hx1,hx2,hx3,hx4,hx5⟩:=hv.at hk
  (repeat refine zzC ?_)
  refine aB (hv.ix _ hk) (aB hx3 ?_)
  refine hf k hk x _ _ hx1 (by omega) fun n hn=>?_
  cases hc:q l[k] with
  | true =>
   rw[hc,if_pos rfl] at hr
   (repeat refine zzC ?_)
   refine hx _ _ _ _ (fun e=>by cases e) (kW ?_)
   exact⟨_,aU.refl _,ki hK hr.symm (by omega)⟩
  | false =>
   rw[hc,if_neg (by decide)] at hr
   (repeat refine zzC ?_)
   exact hq (j - 1) _ _ _ _ (by omega) ⟨k+1,by omega,by omega,rfl,e0,e1,e7,rfl,hr⟩ (aU.refl _)
 ·(repeat refine zzC ?_)
  refine hx _ _ _ _ (fun e=>by cases e) (d3 (cU ?_))
  unfold fN
  rw[eO (by omega)] at hr
  exact⟨_,aU.refl _,ki hK hr.symm (by omega)⟩
theorem aBd {ro:Ro}{v f:Value}{D:Type}{l:List D}{R:List Value→D→Prop}{q:D→Bool} (hlen:l.length≤1000000) {h:T Obj}{nx:Nat}{K:KV} (hv:gD ro h v 2 R l)
  (hf:∀ (i:Nat) (hi:i < l.length) x n K',R x l[i]→nx≤n→(∀ n',n≤n'→K' (.bool (q l[i])) h n')→aEl (aN Tryz.prog ro) f [.agg x.toArray] h n K')
  (hK:∀ nx',nx≤nx'→K (.bool (l.any q)) h nx'):aN Tryz.prog ro fE [v,f] h nx K:=by
 apply mV
 unfold iR
 refine aES hlen hv (fun i hi x n K' hx hn hk=>hf i hi x n K' hx (by omega) hk) fun n hn=>?_
 rw[← aEG q l 0 (by omega)] at hK
 (first | refine cM (fun hb=>?_) (fun hb=>?_) | refine tE (fun hb=>?_) (fun hb=>?_) | refine jT (fun hb=>?_) (fun hb=>?_) | refine mY (fun hb=>?_) (fun hb=>?_) | refine i4 (fun hb=>?_) (fun hb=>?_) | refine lN (fun hb=>?_) (fun hb=>?_))
 ·exact⟨_,aU.refl _,kb hK (decide_eq_true hb) (by omega)⟩
 ·exact⟨_,aU.refl _,kb hK (decide_eq_false (by omega)) (by omega)⟩
theorem aDo {ro:Ro}{v f:Value}{D:Type}{l:List D}{R:List Value→D→Prop}{q:D→Bool} (hlen:l.length≤1000000) {h:T Obj}{nx:Nat}{K:KV} (hv:gD ro h v 4 R l)
  (hf:∀ (i:Nat) (hi:i < l.length) x n K',R x l[i]→nx≤n→(∀ n',n≤n'→K' (.bool (q l[i])) h n')→aEl (aN Tryz.prog ro) f [.agg x.toArray] h n K')
  (hK:∀ nx',nx≤nx'→K (.int .i64 (aBp q 0 l)) h nx'):aN Tryz.prog ro fJ [v,f] h nx K:=by
 apply nD
 unfold iU
 generalize hR:aBp q 0 l=r at hK
 refine aB hv.len ?_
 refine bD (fun j e h' nx'=>∃ (k:Nat),k+j=l.length∧nx≤nx'∧h'=h∧e 0=v∧e 1=f∧e 7=.int .i64 l.length∧e 8=.int .i64 k∧aBp q k (l.drop k)=r) ?_ (n:=l.length) ⟨0,by omega,by omega,rfl,rfl,rfl,rfl,rfl,hR⟩
 rintro j e h' nx' ⟨k,hj,hnx,rfl,e0,e1,e7,e8,hr⟩ Q' hq hx
 unfold hY
 rw[e0,e1,e7,e8]
 refine cM (fun hk=>?_) (fun hk=>?_)
 ·have hk:k < l.length:=by omega
  rw[cP hk,aC4] at hr
  obtain⟨x,hx1,hx2,hx3,hx4,hx5⟩:=hv.at hk
  (repeat refine zzC ?_)
  refine aB (hv.ix _ hk) (aB hx3 ?_)
  refine hf k hk x _ _ hx1 (by omega) fun n hn=>?_
  cases hc:q l[k] with
  | true =>
   rw[hc,if_pos rfl] at hr
   (repeat refine zzC ?_)
   refine hx _ _ _ _ (fun e=>by cases e) (kW ?_)
   exact⟨_,aU.refl _,ki hK hr.symm (by omega)⟩
  | false =>
   rw[hc,if_neg (by decide)] at hr
   (repeat refine zzC ?_)
   exact hq (j - 1) _ _ _ _ (by omega) ⟨k+1,by omega,by omega,rfl,e0,e1,e7,rfl,hr⟩ (aU.refl _)
 ·(repeat refine zzC ?_)
  refine hx _ _ _ _ (fun e=>by cases e) (d3 (cU ?_))
  unfold fF
  rw[eO (by omega)] at hr
  exact⟨_,aU.refl _,ki hK hr.symm (by omega)⟩
theorem aBR {ro:Ro}{v f:Value}{D:Type}{l:List D}{R:List Value→D→Prop}{q:D→Bool} (hlen:l.length≤1000000) {h:T Obj}{nx:Nat}{K:KV} (hv:gD ro h v 4 R l)
  (hf:∀ (i:Nat) (hi:i < l.length) x n K',R x l[i]→nx≤n→(∀ n',n≤n'→K' (.bool (q l[i])) h n')→aEl (aN Tryz.prog ro) f [.agg x.toArray] h n K')
  (hK:∀ nx',nx≤nx'→K (.bool (l.any q)) h nx'):aN Tryz.prog ro eX [v,f] h nx K:=by
 apply mA
 unfold hU
 refine aDo hlen hv (fun i hi x n K' hx hn hk=>hf i hi x n K' hx (by omega) hk) fun n hn=>?_
 rw[← aEG q l 0 (by omega)] at hK
 (first | refine cM (fun hb=>?_) (fun hb=>?_) | refine tE (fun hb=>?_) (fun hb=>?_) | refine jT (fun hb=>?_) (fun hb=>?_) | refine mY (fun hb=>?_) (fun hb=>?_) | refine i4 (fun hb=>?_) (fun hb=>?_) | refine lN (fun hb=>?_) (fun hb=>?_))
 ·exact⟨_,aU.refl _,kb hK (decide_eq_true hb) (by omega)⟩
 ·exact⟨_,aU.refl _,kb hK (decide_eq_false (by omega)) (by omega)⟩
set_option maxRecDepth 8000 in
theorem aCy {ro:Ro}{c:List Nat}{n:Int}{cv sv lv rv uv nv ov:Value}{S:List StateD}{R:List Int}{m:MoveD}{i1 i2:Nat} (hc:c.length=256) (hSl:S.length≤256) (hR:R.length≤3) (hmo:m.ops.length≤aAP) {h:T Obj}{nx:Nat}{K:KV} (hf:Fr h nx)
  (g1:h.get i1=some (.cells (eK c n cv sv).toArray eG)) (g2:h.get i2=some (.cells #[lv,rv,uv,nv] aR)) (hS:gD ro h sv 4 (eR ro h) S) (hrv:ZI ro h rv R) (hov:gD ro h ov 1 RU8 m.ops) (hK:∀ nx',nx≤nx'→K (.bool (!kX S R m)) h nx'):aN Tryz.prog ro gI [.agg #[.int .i64 m.to,ov],ptr i1,ptr i2] h nx K:=by
 apply x8
 unfold sF
 refine fV hf (Nat.le_refl _) fun h1 hs1 hf1 g3 _=>?_
 have g3:h1.get nx=some (.cells #[.int .i64 m.to,ov] bK):=g3
 refine aB (bX (hs1 _ _ g1) (cV hc)) ?_
 refine aB (bX (l:=[lv,rv,uv,nv]) (hs1 _ _ g2) rfl) ?_
 refine aB (bX (l:=[.int .i64 m.to,ov]) g3 rfl) ?_
 refine aGC hc hSl hR hmo (hf1.mono (by omega)) (hS.sub hs1 (eR.sub hs1)) (hrv.sub hs1) (hov.sub hs1 fun _ _ h=>h) fun n hn=>?_
 (repeat refine zzC ?_)
 exact⟨h,hs1,hK _ (by omega)⟩
set_option maxRecDepth 8000 in
set_option maxHeartbeats 1000000 in
theorem aFX {ro:Ro}{c:List Nat}{n:Int}{cv sv lv rv uv nv:Value}{S:List StateD}{C:List (Int × Int)}{s:StateD} (hc:c.length=256) (hn:n≤256) (hSl:S.length≤256) (hC:C.length≤512) (hsr:s.r.length≤aAP) {h:T Obj}{nx:Nat}{K:KV} (hf:Fr h nx)
  (hcv:gD ro h cv 2 aCV C) (hS:gD ro h sv 4 (eR ro h) S) (h1:ZI ro h lv s.l) (h2:ZI ro h rv s.r) (h3:ZI ro h uv s.rule) (h4:gD ro h nv 1 (v8 ro h) s.next)
  (hK:∀ nx',nx≤nx'→K (.bool (kI S n C.length s)) h nx'):aN Tryz.prog ro nM [.agg (eK c n cv sv).toArray,.agg #[lv,rv,uv,nv]] h nx K:=by
 apply aAK
 unfold uD
 refine fV hf (Nat.le_refl _) fun p1 hs1 hf1 g1 _=>?_
 refine fV hf1 (Nat.le_refl _) fun p2 hs2 hf2 g2 _=>?_
 have g1:p2.get nx=some (.cells (eK c n cv sv).toArray eG):=hs2 _ _ g1
 have g2:p2.get (nx+1)=some (.cells #[lv,rv,uv,nv] aR):=g2
 have hs:=hs1.trans hs2
 have hS:=hS.sub hs (eR.sub hs)
 have hcv:=hcv.sub hs fun _ _ h=>h
 have h1:=h1.sub hs
 have h2:=h2.sub hs
 have h3:=h3.sub hs
 have h4:=h4.sub hs (v8.sub hs)
 have hsg:=nF (n:=n) (cv:=cv) (sv:=sv) hc
 have hcg:=pQ (n:=n) (cv:=cv) (sv:=sv) hc
 have hmg:=aIF (n:=n) (cv:=cv) (sv:=sv) hc
 have l1:=h1.len
 have l2:=h2.len
 have l3:=h3.len
 have l4:=h4.len
 have lc:=hcv.len
 have hno:∀ n',kI S n C.length s=false→nx≤n'→∃ h',aU h' p2∧K (.bool false) h' n':=fun n' e hn=>⟨h,hs,kb hK e hn⟩
 unfold kI at hno hK
 (have zy:=And.intro g2 l2;repeat refine zzCz ?_)
 refine aJG fun n1 hn1=>?_
 have hcl:=aGD s.r.length
 have hcf:=aIL (m:=s.r.length)
 generalize eW s.r.length=cd at hno hK hcl hcf
 refine i4 (fun u1=>?_) (fun u1=>?_)
 ·(repeat refine zzC ?_)
  exact hno _ (by rw[decide_eq_false (by omega)]; rfl) (by omega)
 ·rw[decide_eq_true u1,Bool.true_and] at hno hK
  have hcf:=hcf u1
  (have zy:=And.intro g2 l3;repeat refine zzCz ?_)
  refine lN (fun u2=>?_) (fun u2=>?_)
  ·(repeat refine zzC ?_)
   exact hno _ (by rw[decide_eq_false (by omega)]; rfl) (by omega)
  ·rw[decide_eq_true u2,Bool.true_and] at hno hK
   (have zy:=And.intro g2 l4;repeat refine zzCz ?_)
   refine lN (fun u3=>?_) (fun u3=>?_)
   ·(repeat refine zzC ?_)
    exact hno _ (by rw[decide_eq_false (by omega)]; rfl) (by omega)
   ·rw[decide_eq_true u3,Bool.true_and] at hno hK
    (have zy:=g2;repeat refine zzCz ?_)
    refine aCu (by omega) h1 fun n2 hn2=>?_
    cases u4:rz (-1) 512 s.l with
    | false =>
     (repeat refine zzC ?_)
     exact hno _ (by rw[u4]; rfl) (by omega)
    | true =>
     rw[u4,Bool.true_and] at hno hK
     (have zy:=And.intro g1 (And.intro g2 (And.intro hcg lc));repeat refine zzCz ?_)
     refine aCu (by omega) h2 fun n3 hn3=>?_
     cases u5:rz (-1) C.length s.r with
     | false =>
      (repeat refine zzC ?_)
      exact hno _ (by rw[u5]; rfl) (by omega)
     | true =>
      rw[u5,Bool.true_and] at hno hK
      (have zy:=And.intro g2 l4;repeat refine zzCz ?_)
      generalize hB:rO S s.r n s.rule s.next=B at hno hK
      refine bD (fun j e h' nx'=>∃ (k:Nat),k+j=s.next.length∧n3≤nx'∧h'=p2∧e 2=ptr nx∧e 3=ptr (nx+1)∧e 45=nv∧e 46=.int .i64 s.next.length∧e 47=.int .i64 k∧rO S s.r n (s.rule.drop k) (s.next.drop k)=B) ?_ (n:=s.next.length) ⟨0,by omega,by omega,rfl,rfl,rfl,rfl,rfl,rfl,hB⟩
      rintro j e h' nx' ⟨k,hj,hnx,rfl,e2,e3,e45,e46,e47,hr⟩ Q' hq hx
      unfold qZ
      rw[e2,e3,e45,e46,e47]
      refine cM (fun hk=>?_) (fun hk=>?_)
      ·have hk:k < s.next.length:=by omega
       have hk2:k < s.rule.length:=by omega
       rw[cP hk,cP hk2,sR] at hr
       have nix:=h4.ix .i64 hk
       obtain⟨w,⟨w',ow,orow,olen⟩,o1⟩:=h4.at1 hk
       simp only[List.cons.injEq,and_true] at ow
       subst ow
       have uix:=h3.ix .i64 hk2
       have uld:=h3.load hk2
       generalize s.next[k]=row at hr o1 orow olen
       generalize s.rule[k]=ru at hr uld
       have rl:=orow.len
       have hfin:∀ (e':dF) n',e' 4=.bool false→aBO S s.r n ru row=false→nx≤n'→Q' .ret e' h' n':=fun e' n' h6 hc hn=>by
        refine hx _ _ _ _ (fun e=>by cases e) (kW ?_)
        rw[h6]
        refine⟨h,hs,kb hK ?_ hn⟩
        rw[← hr,hc]; rfl
       have hok:∀ (e':dF) n',e' 2=ptr nx→e' 3=ptr (nx+1)→e' 45=nv→e' 46=.int .i64 s.next.length→e' 47=.int .i64 ((k:Int)+1)→aBO S s.r n ru row=true→n3≤n'→Q' .normal e' h' n':=fun e' n' f2 f3 f45 f46 f47 hc hn =>
        hq (j - 1) _ _ _ _ (by omega) ⟨k+1,by omega,hn,rfl,f2,f3,f45,f46,f47,by rw[← hr,hc]; rfl⟩ (aU.refl _)
       unfold aBO at hfin hok
       (have zy:=And.intro g2 (And.intro nix (And.intro o1 (And.intro uix uld)));repeat refine zzCz ?_)
       refine cM (fun v1=>?_) (fun v1=>?_)
       ·(repeat refine zzC ?_)
        exact hfin _ _ rfl (by rw[decide_eq_false (by omega)]; rfl) (by omega)
       ·rw[decide_eq_true v1,Bool.true_and] at hfin hok
        (have zy:=And.intro g2 (And.intro uix uld);repeat refine zzCz ?_)
        refine mY (fun v2=>?_) (fun v2=>?_)
        ·(repeat refine zzC ?_)
         exact hfin _ _ rfl (by rw[decide_eq_false (by omega)]; rfl) (by omega)
        ·rw[decide_eq_true v2,Bool.true_and] at hfin hok
         (have zy:=And.intro g1 (And.intro rl hmg);repeat refine zzCz ?_)
         refine lN (fun v3=>?_) (fun v3=>?_)
         ·(repeat refine zzC ?_)
          exact hfin _ _ rfl (by rw[decide_eq_false (by omega)]; rfl) (by omega)
         ·rw[decide_eq_true (by omega),Bool.true_and] at hfin hok
          (repeat refine zzC ?_)
          refine aBd (q:=fun m=>!kX S s.r m) (by omega) orow (fun i hi x n' K' hx hn' hk'=>?_) fun n' hn'=>?_
          ·obtain⟨ov,rfl,y1,y2⟩:=hx
           exact aCy hc hSl (by omega) y2 (hf2.mono (by omega)) g1 g2 hS h2 y1 hk'
          ·rw[← aNr] at hfin hok
           cases hany:row.any fun m=>!kX S s.r m with
           | true =>
            rw[hany] at hfin
            (repeat refine zzC ?_)
            exact hfin _ _ rfl rfl (by omega)
           | false =>
            rw[hany] at hok
            (repeat refine zzC ?_)
            exact hok _ _ e2 e3 e45 e46 rfl rfl (by omega)
      ·(repeat refine zzC ?_)
       refine hx _ _ _ _ (fun e=>by cases e) (d3 (cU ?_))
       unfold mL
       rw[eO (l:=s.next) (by omega),aCl] at hr
       exact⟨h,hs,kb hK hr.symm (by omega)⟩
theorem gD.okC {D:Type}{ro:Ro}{h:T Obj}{v:Value}{z:Nat}{R:List Value→D→Prop}{l:List D} (hl:gD ro h v z R l):bV v=true:=by obtain⟨cs,h9,_⟩:=hl; exact h9.ok
def tK (p:Int × Int):Bool:=decide (1≤p.1)&&(decide (p.1≤p.2)&&(decide (2≤p.2)&&decide (p.2≤4096)))
def aB4 (S:List StateD):Bool:=decide ((S.getD 0 noS).l.length=0)&&decide ((S.getD 0 noS).r.length=0)
def gU (d:AutoD):Bool:=s8 d.c d.many&&(decide (d.counts.length≤512)&&(decide (1≤d.states.length)&&(decide (d.states.length≤256)&&(aB4 d.states&&(d.counts.all tK&&d.states.all (kI d.states d.many d.counts.length))))))
theorem aHI {c:List Nat}{n:Int} (h:s8 c n=true):n≤256:=by
 unfold s8 at h
 split at h
 ·rename_i m hm
  have:=aSb hm
  simp only[decide_eq_true_eq] at h
  omega
 ·cases h
theorem aAB:∀ {l:List Int}{a m:Int},rz a m l=true→(l.length:Int)≤max 0 (m - a - 1)
 | [],a,m,_=>by simp only[List.length_nil]; omega
 | x::r,a,m,h=>by
  rw[iA] at h
  simp only[Bool.and_eq_true,decide_eq_true_eq] at h
  have:=aAB h.2.2
  rw[List.length_cons]
  omega
theorem aIt {S:List StateD}{n:Int}{cn:Nat}{s:StateD} (h:kI S n cn s=true):s.l.length≤512∧s.r.length≤3:=by
 unfold kI at h
 simp only[Bool.and_eq_true,decide_eq_true_eq] at h
 have h1:=aAB h.2.2.2.1
 have h2:=aIL h.1
 omega
theorem aWB {a b:Nat} (h:wr .i64 ((a:Int)+b)≤0):a+b=0∨9223372036854775807 < a+b:=by
 rcases Nat.lt_or_ge 9223372036854775807 (a+b) with h1 | h1
 ·exact .inr h1
 ·rw[fG (by omega) (by omega)] at h
  exact .inl (by omega)
theorem aUr {a b:Nat} (h:0 < wr .i64 ((a:Int)+b)):a≠0∨b≠0:=by
 rcases Nat.eq_zero_or_pos (a+b) with h1 | h1
 ·rw[show (a:Int)+b=0 by omega] at h
  exact absurd h (by decide)
 ·omega
theorem aHc {c:List Nat}{n:Int}{cv sv:Value} (hc:c.length=256):cX Tryz.prog eG [(0,.agg (eK c n cv sv).toArray)]=some (.agg (eK c n cv sv).toArray):=by
 have h1:((i8 Tryz.prog eG).bind fun z=>match z with
  | .agg a=>if a.size=259 then some true else none
  | _=>none)=some true:=by kernel_rfl
 have h2:((gG Tryz.prog eG).bind fun d=>match d with
  | .struct fs=>oE Tryz.prog fs.toList
  | _=>none)=some [(0,259)]:=by kernel_rfl
 obtain⟨z,h1,h4⟩:=aM h1
 cases z<;>try (cases h4; done)
 rename_i z
 simp only at h4
 split at h4
 ·rename_i h5
  obtain⟨d,h2,h3⟩:=aM h2
  cases d<;>try (cases h3; done)
  rename_i fs
  simp only at h3
  unfold cX
  rw[h1]
  simp only[Option.bind,h2,h3]
  have hl:=cV (n:=n) (cv:=cv) (sv:=sv) hc
  have hz:z.toList.length=259:=by simpa using h5
  have e1:Nat.beq (eK c n cv sv).toArray.size 259=true:=by simp[hl]
  have e2:Nat.ble (0+259) z.toList.length=true:=by rw[hz]; rfl
  simp only[nL,List.getElem?_cons_zero,Option.bind,Value.cells_agg,e1,e2]
  rw[aLa (by rw[hz]; simpa using hl)]
 ·cases h4
theorem aM9:∃ z,i8 Tryz.prog eG=some z∧z.cells.size=259:=by
 have h1:((i8 Tryz.prog eG).bind fun z=>if z.cells.size=259 then some true else none)=some true:=by kernel_rfl
 obtain⟨z,h1,h4⟩:=aM h1
 split at h4
 ·exact⟨z,h1,by assumption⟩
 ·cases h4
theorem aNm:i8 Tryz.prog eP=some (.agg #[.int .i64 0,.int .i64 0]):=by kernel_rfl
set_option maxRecDepth 8000 in
theorem aFt {ro:Ro}{c:List Nat}{n:Int}{cv sv lv rv uv nv:Value}{S:List StateD}{C:List (Int × Int)}{s:StateD}{i1:Nat} (hc:c.length=256) (hn:n≤256) (hSl:S.length≤256) (hC:C.length≤512) (hsr:s.r.length≤aAP) {h:T Obj}{nx:Nat}{K:KV} (hf:Fr h nx)
  (g1:h.get i1=some (.cells (eK c n cv sv).toArray eG)) (hcv:gD ro h cv 2 aCV C) (hS:gD ro h sv 4 (eR ro h) S) (h1:ZI ro h lv s.l) (h2:ZI ro h rv s.r) (h3:ZI ro h uv s.rule) (h4:gD ro h nv 1 (v8 ro h) s.next)
  (hK:∀ nx',nx≤nx'→K (.bool (!kI S n C.length s)) h nx'):aN Tryz.prog ro uP [.agg #[lv,rv,uv,nv],ptr i1] h nx K:=by
 apply aFW
 unfold aCt
 refine fV hf (Nat.le_refl _) fun p1 hs1 hf1 g3 _=>?_
 have g3:p1.get nx=some (.cells #[lv,rv,uv,nv] aR):=g3
 refine aB (bX (hs1 _ _ g1) (cV hc)) ?_
 refine aB (bX (l:=[lv,rv,uv,nv]) g3 rfl) ?_
 refine aFX hc hn hSl hC hsr (hf1.mono (by omega)) (hcv.sub hs1 fun _ _ h=>h) (hS.sub hs1 (eR.sub hs1)) (h1.sub hs1) (h2.sub hs1) (h3.sub hs1) (h4.sub hs1 (v8.sub hs1)) fun n hn=>?_
 (repeat refine zzC ?_)
 exact⟨h,hs1,hK _ (by omega)⟩
set_option maxRecDepth 8000 in
set_option maxHeartbeats 2000000 in
theorem aJH {ro:Ro}{x:List Value}{d:AutoD}{h:T Obj}{nx:Nat}{K:KV} (hf:Fr h nx) (hd:qF ro h x d) (hK:∀ nx',nx≤nx'→K (.bool (gU d)) h nx'):aN Tryz.prog ro zF [.agg x.toArray] h nx K:=by
 obtain⟨cv,sv,rfl,hc,hcl,hcv,hS,hb1,hb2⟩:=hd
 obtain⟨c,n,C,S⟩:=d
 simp only at hc hcl hcv hS hb1 hb2
 dsimp only
 apply aH8
 unfold aFs
 refine fV hf (Nat.le_refl _) fun p1 hs hf1 g1 _=>?_
 have g1:p1.get nx=some (.cells (eK c n cv sv).toArray bI):=g1
 have hS:=hS.sub hs (eR.sub hs)
 have hcv:=hcv.sub hs fun _ _ h=>h
 have hsg:=nF (n:=n) (cv:=cv) (sv:=sv) hc
 have hcg:=pQ (n:=n) (cv:=cv) (sv:=sv) hc
 have lc:=hcv.len
 have ls:=hS.len
 have hno:∀ n',gU ⟨c,n,C,S⟩=false→nx≤n'→∃ h',aU h' p1∧K (.bool false) h' n':=fun n' e hn=>⟨h,hs,kb hK e hn⟩
 unfold gU at hno hK
 dsimp only at hno hK
 (repeat refine zzC ?_)
 refine aB (aVA g1 hc) ?_
 refine aHx hc hcl (hf1.mono (by omega)) fun n1 hn1=>?_
 cases hr:s8 c n with
 | false =>
  (repeat refine zzC ?_)
  exact hno _ (by rw[hr]; rfl) (by omega)
 | true =>
  have hn:=aHI hr
  rw[hr,Bool.true_and] at hno hK
  (have zy:=And.intro g1 (And.intro hcg lc);repeat refine zzCz ?_)
  refine jT (fun u1=>?_) (fun u1=>?_)
  ·(repeat refine zzC ?_)
   exact hno _ (by rw[decide_eq_false (by omega)]; rfl) (by omega)
  ·have u1:C.length≤512:=by omega
   rw[decide_eq_true u1,Bool.true_and] at hno hK
   (have zy:=And.intro g1 (And.intro hsg ls);repeat refine zzCz ?_)
   refine cM (fun u2=>?_) (fun u2=>?_)
   ·(repeat refine zzC ?_)
    exact hno _ (by rw[decide_eq_false (by omega)]; rfl) (by omega)
   ·have u2:1≤S.length:=by omega
    rw[decide_eq_true u2,Bool.true_and] at hno hK
    (have zy:=And.intro g1 (And.intro hsg ls);repeat refine zzCz ?_)
    refine jT (fun u3=>?_) (fun u3=>?_)
    ·(repeat refine zzC ?_)
     exact hno _ (by rw[decide_eq_false (by omega)]; rfl) (by omega)
    ·have u3:S.length≤256:=by omega
     rw[decide_eq_true u3,Bool.true_and] at hno hK
     have h0:0 < S.length:=by omega
     have six:cD 4 sv (.int .i64 0)=some (fH 4 sv 0):=hS.ix .i64 (i:=0) h0
     obtain⟨x,⟨lv,rv,uv,nv,rfl,y1,y2,y3,y4,y5⟩,hx2,hx3,hx4,hx5⟩:=hS.at h0
     have q0:=hx5 0 lv rfl
     have q1:=hx5 1 rv rfl
     have ll:=y1.len
     have lr:=y2.len
     have hgd:S.getD 0 noS=S[0]:=by rw[List.getD_eq_getElem?_getD,List.getElem?_eq_getElem h0]; rfl
     have hfst:aB4 S=(decide (S[0].l.length=0)&&decide (S[0].r.length=0)):=by unfold aB4; rw[hgd]
     have hall:S.all (kI S n C.length)=true→S[0].l.length≤512∧S[0].r.length≤3:=fun h=>aIt (List.all_eq_true.1 h _ (List.getElem_mem h0))
     (have zy:=And.intro g1 (And.intro hsg (And.intro six (And.intro hx4 (And.intro q0 (And.intro q1 (And.intro ll @lr))))));repeat refine zzCz ?_)
     first
     | refine aB (dW _ _ _) ?_
     | skip
     (repeat refine zzC ?_)
     have hrest:(S[0].l.length=0∧S[0].r.length=0∨9223372036854775807 < S[0].l.length+S[0].r.length)→∀ (e':dF) n',e' 1=ptr nx→e' 2=.bool false→e' 45=cv→e' 46=.int .i64 C.length→e' 47=.int .i64 0→nx+1≤n' →
       dC (xE ro) e' p1 n' fun x229 e226 h227 n228=>iM x229 (mI ro K e226 h227 n228) (fun i230=>dE (Nat.beq i230 0) (mI ro K e226 h227 n228) (False)) (∃ h231,aU h231 h227∧K (e226 2) h231 n228):=by
      intro hlen e' n' f1 f2 f45 f46 f47 hn'
      generalize hB:C.all tK=B at hno hK
      refine bD (fun j e h' nx'=>∃ (k:Nat),k+j=C.length∧nx+1≤nx'∧h'=p1∧e 1=ptr nx∧e 2=.bool false∧e 45=cv∧e 46=.int .i64 C.length∧e 47=.int .i64 k∧(C.drop k).all tK=B) ?_ (n:=C.length) ⟨0,by omega,hn',rfl,f1,f2,f45,f46,f47,hB⟩
      rintro j e h' nx' ⟨k,hj,hnx,rfl,e1,e2,e45,e46,e47,hr2⟩ Q' hq hx
      unfold xE
      rw[e45,e46,e47]
      refine cM (fun hk=>?_) (fun hk=>?_)
      ·have hk:k < C.length:=by omega
       rw[cP hk,List.all_cons] at hr2
       have cix:=hcv.ix .i64 hk
       obtain⟨x,hx1,hx2,hx3,hx4,hx5⟩:=hcv.at hk
       generalize C[k]=p at hr2 hx1
       obtain rfl:x=[.int .i64 p.1,.int .i64 p.2]:=hx1
       (have zy:=And.intro cix hx3;repeat refine zzCz ?_)
       refine gP (x:=[.int .i64 p.1,.int .i64 p.2]) aNm rfl rfl rfl rfl hf1 (by omega) fun h6 hs6 hf6 g6 _=>?_
       have hfin:∀ (e':dF) n',e' 2=.bool false→tK p=false→nx≤n'→Q' .ret e' h6 n':=fun e' n' h6 hc hn=>by
        refine hx _ _ _ _ (fun e=>by cases e) (kW ?_)
        rw[h6]
        rw[hc,Bool.false_and] at hr2
        subst hr2
        obtain⟨h9,z1,z2⟩:=hno n' (by simp) hn
        exact⟨h9,z1.trans hs6,z2⟩
       have hok:∀ (e':dF) n',e' 1=ptr nx→e' 2=.bool false→e' 45=cv→e' 46=.int .i64 C.length→e' 47=.int .i64 ((k:Int)+1)→tK p=true→nx+1≤n'→Q' .normal e' h6 n':=fun e' n' f1 f2 f45 f46 f47 hc hn =>
        hq (j - 1) _ h' _ _ (by omega) ⟨k+1,by omega,hn,rfl,f1,f2,f45,f46,f47,by rw[← hr2,hc]; rfl⟩ hs6
       unfold tK at hfin hok
       (have zy:=g6;repeat refine zzCz ?_)
       refine cM (fun v1=>?_) (fun v1=>?_)
       ·(repeat refine zzC ?_)
        exact hfin _ _ rfl (by rw[decide_eq_false (by omega)]; rfl) (by omega)
       ·rw[decide_eq_true v1,Bool.true_and] at hfin hok
        (have zy:=g6;repeat refine zzCz ?_)
        refine jT (fun v2=>?_) (fun v2=>?_)
        ·(repeat refine zzC ?_)
         exact hfin _ _ rfl (by rw[decide_eq_false (by omega)]; rfl) (by omega)
        ·rw[decide_eq_true v2,Bool.true_and] at hfin hok
         (have zy:=g6;repeat refine zzCz ?_)
         refine cM (fun v3=>?_) (fun v3=>?_)
         ·(repeat refine zzC ?_)
          exact hfin _ _ rfl (by rw[decide_eq_false (by omega)]; rfl) (by omega)
         ·rw[decide_eq_true v3,Bool.true_and] at hfin hok
          (have zy:=g6;repeat refine zzCz ?_)
          refine jT (fun v4=>?_) (fun v4=>?_)
          ·(repeat refine zzC ?_)
           exact hfin _ _ rfl (by rw[decide_eq_false (by omega)]) (by omega)
          ·rw[decide_eq_true v4] at hok
           (repeat refine zzC ?_)
           exact hok _ _ e1 e2 e45 e46 rfl rfl (by omega)
      ·rw[eO (by omega)] at hr2
       have hr2:true=B:=hr2
       subst hr2
       rw[Bool.true_and] at hno hK
       (repeat refine zzC ?_)
       refine hx _ _ _ _ (fun e=>by cases e) (d3 (cU ?_))
       have hend:∀ (e':dF) n',e' 1=ptr nx→nx+1≤n'→mI ro K e' h' n':=by
        intro e' n' z1 hn'
        unfold mI
        rw[z1]
        refine aB (bX g1 (cV hc)) ?_
        refine aB (aHc hc) ?_
        obtain⟨z,hz,hzs⟩:=aM9
        refine gP (x:=eK c n cv sv) hz hzs rfl (cV hc) (aB0 (gD.okC hcv) (gD.okC hS)) hf1 (by omega) fun h6 hs6 hf6 g6 _=>?_
        have g16:=hs6 _ _ g1
        (have zy:=And.intro g16 hsg;repeat refine zzCz ?_)
        refine aBR (q:=fun s=>!kI S n C.length s) (by omega) (hS.sub hs6 (eR.sub hs6)) (fun i hi x n' K' hx hn' hk'=>?_) fun n' hn'=>?_
        ·obtain⟨lv,rv,uv,nv,rfl,w1,w2,w3,w4,w5⟩:=hx
         exact aFt hc hn u3 u1 w5 (hf6.mono (by omega)) g6 (hcv.sub hs6 fun _ _ h=>h) (hS.sub hs6 (eR.sub hs6)) w1 w2 w3 w4 hk'
        ·(repeat refine zzC ?_)
         refine⟨h,hs.trans hs6,kb hK ?_ (by omega)⟩
         rw[aNr]
         rcases hlen with hlen | hlen
         ·rw[hfst,decide_eq_true hlen.1,decide_eq_true hlen.2]; rfl
         ·cases ha:S.all (kI S n C.length) with
          | false=>simp
          | true=>have:=hall ha; omega
       exact hend _ _ e1 (by omega)
     refine jT (fun u4=>?_) (fun u4=>?_)
     ·(repeat refine zzC ?_)
      have:=aUr u4
      refine hno _ ?_ (by omega)
      rw[hfst]
      rcases this with h | h
      ·rw[decide_eq_false h]; simp
      ·rw[decide_eq_false h]; simp
     ·(have zy:=And.intro g1 (And.intro hcg lc);repeat refine zzCz ?_)
      exact hrest (by rcases aWB u4 with h | h<;>omega) _ _ rfl rfl rfl rfl rfl (by omega)
end V
end Go.Proofs.YtjndkdmkecpllaaGreat