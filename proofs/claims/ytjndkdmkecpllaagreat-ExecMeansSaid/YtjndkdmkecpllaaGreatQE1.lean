/- Texts laid one behind the other: V1.
   No condition. -/
import Derived.Orders
import Derived.Laws.AppendOwn
import Derived.Calls
import Derived.Laws.CopyRow
import Derived.Laws.IdiomStrings
import Derived.Laws.StructEq
import Derived.Laws.MakeOwn
import Derived.ChangeKeysEq
import Derived.Laws.BitsAllLaws
import Derived.Laws.Bits64
import Derived.Laws.Strings
import Derived.Laws.Small
set_option linter.unusedVariables false
set_option linter.unusedSimpArgs false
namespace Go.Proofs.YtjndkdmkecpllaaGreat
namespace V
theorem nnN(n:Nat):0≤(n:Int):=Int.natCast_nonneg n
end V
end Go.Proofs.YtjndkdmkecpllaaGreat
noncomputable section
namespace Go.Proofs.YtjndkdmkecpllaaGreat
namespace V
inductive T (α:Type) where
  | e:T α
  | n (l:T α) (v:Option α) (r:T α):T α
def T.get {α:Type} (t:T α):Nat→Option α:=T.rec (motive:=fun _=>Nat→Option α) (fun _=>none)
  (fun _ v _ gl gr k=>Nat.rec (motive:=fun _=>Option α) v (fun k' _=>Bool.rec (motive:=fun _=>Option α) (gr (Nat.div k' 2)) (gl (Nat.div k' 2)) (Nat.beq (Nat.mod k' 2) 0)) k) t
theorem T.get_e {α:Type} (i:Nat):(T.e:T α).get i=none:=rfl
theorem T.get_n {α:Type} (l:T α) (v:Option α) (r:T α) (k:Nat):(T.n l v r).get (k+1)=match Nat.beq (k % 2) 0 with
    | true=>l.get (k / 2)
    | false=>r.get (k / 2):=by
  show Bool.rec (motive:=fun _=>Option α) (r.get (k / 2)) (l.get (k / 2)) (Nat.beq (k % 2) 0)=_
  cases Nat.beq (k % 2) 0<;>rfl
def T.updF {α:Type} (o:Option α):Nat→T α→Nat→T α
  | 0,t,_=>t
  | f+1,.e,k=>match k with
    | 0=>.n .e o .e
    | k'+1=>match Nat.beq (k' % 2) 0 with
      | true=>.n (T.updF o f .e (k' / 2)) none .e
      | false=>.n .e none (T.updF o f .e (k' / 2))
  | f+1,.n l v r,k=>match k with
    | 0=>.n l o r
    | k'+1=>match Nat.beq (k' % 2) 0 with
      | true=>.n (T.updF o f l (k' / 2)) v r
      | false=>.n l v (T.updF o f r (k' / 2))
def T.upd {α:Type} (t:T α) (k:Nat) (o:Option α):T α:=T.updF o (k+1) t k
theorem T.get_updF_same {α:Type} (o:Option α):∀ (f:Nat) (t:T α) (k:Nat),k < f→(T.updF o f t k).get k=o:=by
  intro f
  induction f with
  | zero=>intro t k h; omega
  | succ f ih =>
    intro t k h
    cases t with
    | e =>
      cases k with
      | zero=>rfl
      | succ k =>
        simp only[T.updF]
        cases hb:Nat.beq (k % 2) 0 with
        | true=>simp only[T.get_n,hb]; exact ih _ _ (by omega)
        | false=>simp only[T.get_n,hb]; exact ih _ _ (by omega)
    | n l v r =>
      cases k with
      | zero=>rfl
      | succ k =>
        simp only[T.updF]
        cases hb:Nat.beq (k % 2) 0 with
        | true=>simp only[T.get_n,hb]; exact ih _ _ (by omega)
        | false=>simp only[T.get_n,hb]; exact ih _ _ (by omega)
theorem T.half_ne {i k:Nat} (h:i≠k) (hb:Nat.beq (i % 2) 0=Nat.beq (k % 2) 0):i / 2≠k / 2:=by
  intro e
  apply h
  have hi:=Nat.div_add_mod i 2
  have hk:=Nat.div_add_mod k 2
  have:i % 2=k % 2:=by
    rcases Nat.mod_two_eq_zero_or_one i with a | a<;>rcases Nat.mod_two_eq_zero_or_one k with b | b<;>simp[a,b] at hb ⊢
  omega
theorem T.get_updF_ne {α:Type} (o:Option α):∀ (f:Nat) (t:T α) (k i:Nat),i≠k→(T.updF o f t k).get i=t.get i:=by
  intro f
  induction f with
  | zero=>intro t k i h; rfl
  | succ f ih =>
    intro t k i h
    cases t with
    | e =>
      cases k with
      | zero =>
        cases i with
        | zero=>exact absurd rfl h
        | succ i=>simp only[T.updF,T.get_n,T.get_e]; cases Nat.beq (i % 2) 0<;>rfl
      | succ k =>
        simp only[T.updF]
        cases hb:Nat.beq (k % 2) 0 with
        | true =>
          cases i with
          | zero=>rfl
          | succ i =>
            simp only[T.get_n,T.get_e]
            cases hc:Nat.beq (i % 2) 0 with
            | true=>simp only; rw[ih _ _ _ (T.half_ne (by omega) (hc.trans hb.symm))]; rfl
            | false=>rfl
        | false =>
          cases i with
          | zero=>rfl
          | succ i =>
            simp only[T.get_n,T.get_e]
            cases hc:Nat.beq (i % 2) 0 with
            | true=>rfl
            | false=>simp only; rw[ih _ _ _ (T.half_ne (by omega) (hc.trans hb.symm))]; rfl
    | n l v r =>
      cases k with
      | zero =>
        cases i with
        | zero=>exact absurd rfl h
        | succ i=>simp only[T.updF,T.get_n,T.get_e]
      | succ k =>
        simp only[T.updF]
        cases hb:Nat.beq (k % 2) 0 with
        | true =>
          cases i with
          | zero=>rfl
          | succ i =>
            simp only[T.get_n,T.get_e]
            cases hc:Nat.beq (i % 2) 0 with
            | true=>simp only; exact ih _ _ _ (T.half_ne (by omega) (hc.trans hb.symm))
            | false=>rfl
        | false =>
          cases i with
          | zero=>rfl
          | succ i =>
            simp only[T.get_n,T.get_e]
            cases hc:Nat.beq (i % 2) 0 with
            | true=>rfl
            | false=>simp only; exact ih _ _ _ (T.half_ne (by omega) (hc.trans hb.symm))
theorem T.get_upd_same {α:Type} (t:T α) (k:Nat) (o:Option α):(t.upd k o).get k=o:=T.get_updF_same o (k+1) t k (by omega)
theorem T.get_upd_ne {α:Type} (t:T α) {k i:Nat} (o:Option α) (h:i≠k):(t.upd k o).get i=t.get i:=T.get_updF_ne o (k+1) t k i h
theorem T.get_upd {α:Type} (t:T α) (k i:Nat) (o:Option α):(t.upd k o).get i=if i=k then o else t.get i:=by
  by_cases h:i=k
  · subst h; rw[if_pos rfl,T.get_upd_same]
  · rw[if_neg h,T.get_upd_ne _ _ h]
def flat:Value→Bool
  | .bool _ | .int _ _ | .float _ _ | .complex _ _ _ | .string _ | .nilFunc | .nilIface=>true
  | .pointer a=>a.isNone
  | .slice a _ _=>a.isNone
  | .map r=>r.isNone
  | .chan r=>r.isNone
  | _=>false
abbrev Ro:=Addr→Option Value
def tin (P:Program) (t:TypeId):Option TypeInfo:=P.types[t]?
def gG (P:Program) (t:TypeId):Option TypeDesc :=
  match tin P t with
  | some { desc:=.named _ u,.. }=>(tin P u).map (·.desc)
  | some i=>some i.desc
  | none=>none
def pD (P:Program) (t:TypeId):Option Nat:=(tin P t).map (·.size)
def i8 (P:Program) (t:TypeId):Option Value:=(tin P t).bind fun i=>match i.zero with
  | some (.tuple _)=>none
  | z=>z
def isAgg (P:Program) (t:TypeId):Option Bool :=
  match gG P t with
  | some (.struct _)=>some true
  | some (.array _ _)=>some true
  | some _=>some false
  | none=>none
def evl (t:T Value):Operand→Option Value
  | .tmp i=>some ((t.get i).getD undef)
  | .const v=>match flat v with
    | true=>some v
    | false=>none
  | .global _=>none
  | .func f=>some (.func (.func f) #[] #[])
def aAL (t:T Value):List Operand→Option (List Value)
  | []=>some []
  | x::r=>(evl t x).bind fun v=>(aAL t r).bind fun vs=>some (v::vs)
def aKp (t:T Value):Option Operand→Option (Option Value)
  | none=>some none
  | some x=>(evl t x).bind fun v=>some (some v)
def aJV (t:T Value):List (Nat × Operand)→Option (List (Nat × Value))
  | []=>some []
  | x::r=>(evl t x.2).bind fun v=>(aJV t r).bind fun vs=>some ((x.1,v)::vs)
def roCells (ro:Ro) (a:Addr):Nat→Option (List Value)
  | 0=>some []
  | n+1=>(ro a).bind fun v=>(roCells ro ⟨a.block,a.off+1,none⟩ n).bind fun vs=>some (v::vs)
def cellsAt (ro:Ro) (h:T Obj) (a:Addr) (n:Nat):Option (List Value) :=
  match a.spot with
  | none=>roCells ro a n
  | some _=>match h.get a.block with
    | some (.cells c _ _)=>match Nat.ble (a.off+n) c.size with
      | true=>some ((c.toList.drop a.off).take n)
      | false=>none
    | _=>none
def pU (P:Program) (ro:Ro) (h:T Obj) (t:TypeId) (a:Addr):Option Value :=
  match isAgg P t with
  | some true=>(pD P t).bind fun n=>(cellsAt ro h a n).bind fun l=>some (.agg l.toArray)
  | some false=>match cellsAt ro h a 1 with
    | some [v]=>some v
    | _=>none
  | none=>none
def fwd (a:Addr) (n:Nat):Addr:={ a with off:=a.off+n }
def elt (a:Addr) (n:Nat):Addr:={ a with off:=a.off+n,spot:=a.spot.map fun _=>0 }
def wr (k:IntKind) (n:Int):Int :=
  match k with
  | .i64=>match decide (-9223372036854775808≤n),decide (n≤9223372036854775807) with
    | true,true=>n
    | _,_=>IntKind.i64.wrap n
  | .u8=>match decide (0≤n),decide (n≤255) with
    | true,true=>n
    | _,_=>IntKind.u8.wrap n
  | .u64=>match decide (0≤n),decide (n≤18446744073709551615) with
    | true,true=>n
    | _,_=>IntKind.u64.wrap n
  | k=>k.wrap n
def aBk (op:BinOp) (k:IntKind) (x y:Int):Option Int :=
  match op,k,decide (0≤x),decide (0≤y),decide (x≤18446744073709551615),decide (y≤18446744073709551615) with
  | .and,.u64,true,true,true,true=>some (Nat.land x.toNat y.toNat:Nat)
  | .or,.u64,true,true,true,true=>some (Nat.lor x.toNat y.toNat:Nat)
  | .xor,.u64,true,true,true,true=>some (Nat.xor x.toNat y.toNat:Nat)
  | .and,k,_,_,_,_=>some (k.wrap (BitVec.ofInt k.bits x &&& BitVec.ofInt k.bits y).toNat)
  | .or,k,_,_,_,_=>some (k.wrap (BitVec.ofInt k.bits x ||| BitVec.ofInt k.bits y).toNat)
  | .xor,k,_,_,_,_=>some (k.wrap (BitVec.ofInt k.bits x ^^^ BitVec.ofInt k.bits y).toNat)
  | _,_,_,_,_,_=>none
def uT (op:BinOp) (k:IntKind) (x y:Int):Option Value :=
  match op with
  | .add=>some (.int k (wr k (x+y)))
  | .sub=>some (.int k (wr k (x - y)))
  | .mul=>some (.int k (wr k (x*y)))
  | .quo=>match decide (y=0) with
    | true=>none
    | false=>some (.int k (wr k (x.tdiv y)))
  | .rem=>match decide (y=0) with
    | true=>none
    | false=>some (.int k (x.tmod y))
  | .eql=>some (.bool (decide (x=y)))
  | .neq=>some (.bool (!decide (x=y)))
  | .lss=>some (.bool (decide (x < y)))
  | .leq=>some (.bool (decide (x≤y)))
  | .gtr=>some (.bool (decide (y < x)))
  | .geq=>some (.bool (decide (y≤x)))
  | .and | .or | .xor=>(aBk op k x y).bind fun n=>some (.int k n)
  | _=>none
def aCo (op:BinOp) (k:IntKind) (x y:Int):Option Value :=
  match decide (0≤y),op with
  | true,.shl=>some (.int k (wr k (x*((2 ^ (min y.toNat k.bits):Nat):Int))))
  | true,.shr=>some (.int k (x.fdiv ((2 ^ (min y.toNat k.bits):Nat):Int)))
  | _,_=>none
def aSu (op:BinOp) (x y:ByteArray):Option Value :=
  match op with
  | .add=>match decide (((x.size+y.size:Nat):Int)≤9223372036854775807) with
    | true=>some (.string (x++y))
    | false=>none
  | .eql=>some (.bool (x.data.toList==y.data.toList))
  | .neq=>some (.bool (!(x.data.toList==y.data.toList)))
  | .lss=>some (.bool (Op.bytesLess x.data.toList y.data.toList))
  | .gtr=>some (.bool (!(Op.bytesLess x.data.toList y.data.toList || x.data.toList==y.data.toList)))
  | .leq=>some (.bool (Op.bytesLess x.data.toList y.data.toList || x.data.toList==y.data.toList))
  | .geq=>some (.bool (!(Op.bytesLess x.data.toList y.data.toList)))
  | _=>none
def kK:Nat→Value→Value→Option Bool
  | 0,.bool a,.bool b=>some (a==b)
  | 1,.int k a,.int k' b=>match decide (k=k') with
    | true=>some (decide (a=b))
    | false=>none
  | 2,.string a,.string b=>some (a.data.toList==b.data.toList)
  | _,_,_=>none
def dY:List Nat→List Value→List Value→Option Bool
  | [],[],[]=>some true
  | k::ks,x::xs,y::ys=>(kK k x y).bind fun b=>(dY ks xs ys).bind fun c=>some (b&&c)
  | _,_,_=>none
def x6 (l:List Nat):Nat→List Nat
  | 0=>[]
  | n+1=>l++x6 l n
def eE (P:Program):(d:Nat)→TypeId→Option (List Nat)
  | 0,_=>none
  | d+1,t=>match gG P t with
    | some .bool=>some [0]
    | some (.int _)=>some [1]
    | some .string=>some [2]
    | some (.array n e)=>(eE P d e).bind fun k=>match Nat.beq ((pD P e).getD 0) k.length,Nat.blt 0 k.length with
      | true,true=>some (x6 k n)
      | _,_=>none
    | some (.struct fs)=>match P.stoodInHeld t with
      | true=>none
      | false=>fs.toList.foldl (fun o f=>o.bind fun k=>(eE P d f.type).bind fun j =>
        match f.name == "_", Nat.beq f.offset k.length, Nat.beq ((pD P f.type).getD 0) j.length, Nat.blt 0 j.length with
        | false,true,true,true=>some (k++j)
        | _,_,_,_=>none) (some [])
    | _=>none
def aDW:TypeDesc→Value→Value→Option Bool
  | .pointer _,.pointer none,.pointer b=>some b.isNone
  | .pointer _,.pointer a,.pointer none=>some a.isNone
  | .slice _,.slice none _ _,.slice b _ _=>some b.isNone
  | .slice _,.slice a _ _,.slice none _ _=>some a.isNone
  | .bool,.bool a,.bool b=>some (a==b)
  | _,_,_=>none
def aFZ (P:Program) (t:TypeId) (x y:Value):Option Bool :=
  match x,y with
  | .agg xs,.agg ys=>match isAgg P t with
    | some true=>(eE P 20 t).bind fun ks=>dY ks xs.toList ys.toList
    | _=>none
  | x,y=>(gG P t).bind fun d=>aDW d x y
def aBo (P:Program) (op:BinOp) (t:TypeId) (x y:Value):Option Value :=
  match op with
  | .eql=>(aFZ P t x y).bind fun b=>some (.bool b)
  | .neq=>(aFZ P t x y).bind fun b=>some (.bool (!b))
  | _=>none
def aFw (P:Program) (op:BinOp) (t:TypeId) (x y:Value):Option Value :=
  match x,y with
  | .int k a,.int k' b=>match op with
    | .shl | .shr=>aCo op k a b
    | _=>match decide (k=k') with
      | true=>uT op k a b
      | false=>none
  | .string a,.string b=>aSu op a b
  | x,y=>aBo P op t x y
def unV (op:UnOp) (x:Value):Option Value :=
  match op,x with
  | .not,.bool b=>some (.bool (!b))
  | .neg,.int k n=>some (.int k (wr k (0 - n)))
  | _,_=>none
def aKv (P:Program) (t:TypeId) (f:Nat):Option Field :=
  match gG P t with
  | some (.struct fs)=>fs[f]?
  | _=>none
def aBw (P:Program) (t:TypeId) (cs:Array Value) (off:Nat):Option Value :=
  match isAgg P t with
  | some true=>(pD P t).bind fun n=>match Nat.ble (off+n) cs.size with
    | true=>some (.agg ((cs.toList.drop off).take n).toArray)
    | false=>none
  | some false=>cs[off]?
  | none=>none
def over (l:List Value) (off:Nat) (vs:List Value):List Value:=l.take off++vs++l.drop (off+vs.length)
def nL (place:Nat→Option (Nat × Nat)) (cells:List Value):List (Nat × Value)→Option (List Value)
  | []=>some cells
  | x::rest=>(place x.1).bind fun p=>match Nat.beq x.2.cells.size p.2,Nat.ble (p.1+p.2) cells.length with
    | true,true=>nL place (over cells p.1 x.2.cells.toList) rest
    | _,_=>none
def oE (P:Program):List Field→Option (List (Nat × Nat))
  | []=>some []
  | f::r=>(pD P f.type).bind fun n=>(oE P r).bind fun l=>some ((f.offset,n)::l)
def cX (P:Program) (t:TypeId) (parts:List (Nat × Value)):Option Value :=
  (i8 P t).bind fun z=>match gG P t with
    | some (.struct fs)=>(oE P fs.toList).bind fun pl=>(nL (pl[·]?) z.cells.toList parts).bind fun l=>some (.agg l.toArray)
    | some (.array _ e)=>(pD P e).bind fun n=>(nL (fun i=>some (i*n,n)) z.cells.toList parts).bind fun l=>some (.agg l.toArray)
    | _=>none
def vZ (z:List Value):Nat→List Value
  | 0=>[]
  | n+1=>z++vZ z n
def aH5 (P:Program) (e:TypeId) (n:Nat):Option (List Value) :=
  match n with
  | 0=>some []
  | n+1=>(i8 P e).bind fun z=>(pD P e).bind fun s=>match Nat.beq z.cells.size s,Nat.blt 0 s with
    | true,true=>some (vZ z.cells.toList (n+1))
    | _,_=>none
def own (id z:Nat):Addr:=⟨id,0,some z⟩
def bC (P:Program) (t:TypeId) (aid len:Nat) (parts:List (Nat × Value)):Option (Value × Option Obj) :=
  match gG P t with
  | some (.slice e)=>(pD P e).bind fun s=>(aH5 P e len).bind fun l=>match Nat.ble (len*s) 16777216 with
    | true=>(nL (fun i=>some (i*s,s)) l parts).bind fun l=>some (.slice (some (own aid s)) len len,some (.cells l.toArray e))
    | false=>none
  | _=>none
def oB:Nat:=70368744177664
def aBu (P:Program) (t:TypeId) (aid:Nat) (l c:Value):Option (Value × Option Obj) :=
  match gG P t,l,c with
  | some (.slice e),.int _ l,.int _ c=>match decide (0≤l),decide (l≤c) with
    | true,true=>(tin P e).bind fun i=>match Nat.ble (c.toNat*i.bytes) oB,decide (c≤70368744177664) with
      | true,true=>(aH5 P e c.toNat).bind fun r=>some (.slice (some (own aid i.size)) l.toNat c.toNat,some (.cells r.toArray e))
      | _,_=>none
    | _,_=>none
  | _,_,_=>none
def nV:Value→Option Nat
  | .int _ n=>match decide (0≤n) with
    | true=>some n.toNat
    | false=>none
  | _=>none
def mM (o:Option Value) (d top:Nat):Option Nat :=
  match o with
  | none=>some d
  | some v=>(nV v).bind fun n=>match Nat.ble n top with
    | true=>some n
    | false=>none
def vW (P:Program) (t:TypeId) (x:Value) (lo hi mx:Option Value):Option Value :=
  match gG P t,x with
  | some .string,.string s=>match mx with
    | none=>(mM hi s.size s.size).bind fun h=>(mM lo 0 h).bind fun l=>some (.string (s.extract l h))
    | some _=>none
  | some (.slice e),.slice a len cap=>(pD P e).bind fun z=>(mM mx cap cap).bind fun m=>(mM hi len m).bind fun h=>(mM lo 0 h).bind fun l =>
      match Nat.ble h m,mx.isNone || hi.isSome with
      | true,true=>match a with
        | none=>some (.slice none (h - l) (m - l))
        | some b=>match b.spot with
          | none=>match Nat.beq m l with
            | true=>some (.slice (some b) (h - l) (m - l))
            | false=>some (.slice (some (fwd b (l*z))) (h - l) (m - l))
          | some z'=>match Nat.beq z z' with
            | true=>some (.slice (some (fwd b (l*z))) (h - l) (m - l))
            | false=>none
      | _,_=>none
  | _,_=>none
def pM (P:Program) (t:TypeId) (x i:Value):Option Value :=
  (nV i).bind fun i=>match gG P t,x with
  | some (.array n e),.pointer (some a)=>(pD P e).bind fun z=>match Nat.blt i n with
    | true=>some (.pointer (some (fwd a (i*z))))
    | false=>none
  | some (.slice e),.slice (some a) len _=>(pD P e).bind fun z=>match Nat.blt i len with
    | true=>match a.spot with
      | none=>some (.pointer (some (fwd a (i*z))))
      | some z'=>match Nat.beq z z' with
        | true=>some (.pointer (some (elt a (i*z))))
        | false=>none
    | false=>none
  | _,_=>none
def aAe (P:Program) (t:TypeId) (x i:Value):Option Value :=
  (nV i).bind fun i=>match gG P t,x with
  | some (.array n e),.agg cs=>(pD P e).bind fun z=>match Nat.blt i n with
    | true=>aBw P e cs (i*z)
    | false=>none
  | some .string,.string s=>match s.data.toList[i]? with
    | some b=>some (.int .u8 b.toNat)
    | none=>none
  | _,_=>none
def aC0:List Value→Option (List UInt8)
  | []=>some []
  | .int .u8 n::r=>(aC0 r).bind fun l=>some (UInt8.ofNat n.toNat::l)
  | _=>none
def aEp (P:Program) (ro:Ro) (h:T Obj) (aid:Nat) (src dst:TypeId) (x:Value):Option (Value × Option Obj) :=
  match gG P src,gG P dst,x with
  | some (.int _),some (.int k),.int _ n=>some (.int k (wr k n),none)
  | some .string,some .string,.string s=>some (.string s,none)
  | some .string,some (.slice e),.string s=>match gG P e,Nat.ble s.size oB,pD P e with
    | some (.int .u8),true,some 1=>some (.slice (some (own aid 1)) s.size s.size,some (.cells (s.data.toList.map fun b=>Value.int .u8 b.toNat).toArray e))
    | _,_,_=>none
  | some (.slice e),some .string,.slice a len _=>match gG P e,a with
    | some (.int .u8),none=>some (.string .empty,none)
    | some (.int .u8),some a=>(cellsAt ro h a len).bind fun l=>(aC0 l).bind fun bs=>some (.string ⟨bs.toArray⟩,none)
    | _,_=>none
  | _,_,_=>none
def aAG (P:Program) (kt:TypeId) (a b:Value):Option Bool :=
  match a,b with
  | .agg xs,.agg ys=>match isAgg P kt with
    | some true=>(eE P 20 kt).bind fun ks=>dY ks xs.toList ys.toList
    | _=>none
  | a,b=>match gG P kt with
    | some (.int _)=>kK 1 a b
    | some .string=>kK 2 a b
    | some .bool=>kK 0 a b
    | _=>none
def uN (P:Program) (kt:TypeId) (k:Value):List MapEntry→Nat→Option (Option (Nat × Value))
  | [],_=>some none
  | e::es,i=>match aAG P kt k e.key with
    | some true=>some (some (i,e.val))
    | some false=>uN P kt k es (i+1)
    | none=>none
def jY (h:T Obj) (r:Nat):Option (List MapEntry × Nat) :=
  match h.get r with
  | some (.map es c)=>some (es.toList,c)
  | _=>none
def aAH (P:Program) (kt:TypeId) (k:Value):Bool :=
  match k,gG P kt with
  | .int _ _,some (.int _)=>true
  | .string _,some .string=>true
  | .bool _,some .bool=>true
  | .agg xs,some (.struct _)=>match eE P 2 kt with
    | some ks=>(dY ks xs.toList xs.toList).isSome
    | none=>false
  | _,_=>false
def aWa (ok:Bool) (v:Value) (b:Bool):Value:=match ok with
  | true=>.tuple #[v,.bool b]
  | false=>v
def aVZ (P:Program) (et:TypeId) (f:Option (Nat × Value)):Option (Value × Bool):=match f with
  | some f=>some (f.2,true)
  | none=>(i8 P et).bind fun z=>some (z,false)
def aNE (P:Program) (kt et:TypeId) (k:Value) (ok:Bool) (es:List MapEntry):Option Value :=
  (uN P kt k es 0).bind fun f=>(aVZ P et f).bind fun vb=>some (aWa ok vb.1 vb.2)
def aLQ (h:T Obj) (r:Option Nat):Option (List MapEntry × Nat):=match r with
  | none=>some ([],0)
  | some r=>jY h r
def aBt (P:Program) (h:T Obj) (t:TypeId) (x k:Value) (ok:Bool):Option Value :=
  match gG P t,x with
  | some (.map kt et),.map r=>match aAH P kt k with
    | true=>(aLQ h r).bind fun es=>aNE P kt et k ok es.1
    | false=>none
  | _,_=>none
def zN (less:Bool):List Value→Option Value
  | []=>none
  | [.int k x]=>some (.int k x)
  | .int k x::.int k' y::r=>zN less (.int k (match less,decide (y < x),decide (x < y) with
    | true,true,_=>y
    | true,false,_=>x
    | false,_,true=>y
    | false,_,false=>x)::r)
  | _=>none
termination_by l=>l.length
def aLH (P:Program) (h:T Obj) (t:TypeId) (x:Value):Option Value :=
  match gG P t,x with
  | some .string,.string s=>some (.int .i64 s.size)
  | some (.array n _),_=>some (.int .i64 n)
  | some (.slice _),.slice _ n _=>some (.int .i64 n)
  | some (.map _ _),.map none=>some (.int .i64 0)
  | some (.map _ _),.map (some r)=>(jY h r).bind fun es=>some (.int .i64 es.1.length)
  | _,_=>none
def iT (P:Program) (h:T Obj) (b:Builtin) (ts:Array TypeId) (vs:List Value):Option Value :=
  match b,vs with
  | .len,[x]=>(ts[0]?).bind fun t=>aLH P h t x
  | .min,vs=>zN true vs
  | .max,vs=>zN false vs
  | .cap,[.slice none l c]=>(ts[0]?).bind fun t=>match gG P t with
    | some (.slice _)=>some (.int .i64 c)
    | _=>none
  | _,_=>none
def kD (P:Program) (ro:Ro) (t:T Value) (h:T Obj) (aid:Nat) (op:Op):Option (Value × Option Obj) :=
  match op with
  | .move x | .assign x=>(evl t x).bind fun v=>some (v,none)
  | .pick c a b=>(evl t c).bind fun cv=>match cv with
    | .bool true=>(evl t a).bind fun v=>some (v,none)
    | .bool false=>(evl t b).bind fun v=>some (v,none)
    | _=>none
  | .alloc e=>(i8 P e).bind fun z=>some (.pointer (some (own aid 0)),some (.cells z.cells e))
  | .box e x=>(evl t x).bind fun v=>some (.pointer (some (own aid 0)),some (.cells v.cells e))
  | .build ty ps=>(aJV t ps.toList).bind fun vs=>(cX P ty vs).bind fun v=>some (v,none)
  | .buildSlice ty n ps=>(aJV t ps.toList).bind fun vs=>bC P ty aid n vs
  | .load ty x=>(evl t x).bind fun v=>match v with
    | .pointer (some a)=>(pU P ro h ty a).bind fun v=>some (v,none)
    | _=>none
  | .nilCheck x=>(evl t x).bind fun v=>match v with
    | .pointer (some a)=>some (.pointer (some a),none)
    | .func (.func f) a b=>some (.func (.func f) a b,none)
    | _=>none
  | .binOp op ty x y _=>(evl t x).bind fun a=>(evl t y).bind fun b=>(aFw P op ty a b).bind fun v=>some (v,none)
  | .unOp op _ x=>(evl t x).bind fun a=>(unV op a).bind fun v=>some (v,none)
  | .convert s d x=>(evl t x).bind fun v=>aEp P ro h aid s d v
  | .makeFunc (.func f) a b=>(aAL t a.toList).bind fun a=>(aAL t b.toList).bind fun b=>some (.func (.func f) a.toArray b.toArray,none)
  | .makeMap _ none=>some (.map (some aid),some (.map #[] 0))
  | .makeSlice ty l c=>(evl t l).bind fun l=>(evl t c).bind fun c=>aBu P ty aid l c
  | .slice ty x lo hi mx=>(evl t x).bind fun x=>(aKp t lo).bind fun lo=>(aKp t hi).bind fun hi=>(aKp t mx).bind fun mx =>
      (vW P ty x lo hi mx).bind fun v=>some (v,none)
  | .fieldAddr s x f=>(evl t x).bind fun v=>match v with
    | .pointer (some a)=>(aKv P s f).bind fun f=>(pD P f.type).bind fun n=>match n with
      | 0=>none
      | _+1=>some (.pointer (some (fwd a f.offset)),none)
    | _=>none
  | .field ty x f=>(evl t x).bind fun v=>match v with
    | .agg cs=>(aKv P ty f).bind fun f=>(aBw P f.type cs f.offset).bind fun v=>some (v,none)
    | _=>none
  | .indexAddr ty x i=>(evl t x).bind fun x=>(evl t i).bind fun i=>(pM P ty x i).bind fun v=>some (v,none)
  | .index ty x i=>(evl t x).bind fun x=>(evl t i).bind fun i=>(aAe P ty x i).bind fun v=>some (v,none)
  | .lookup ty x k ok=>(evl t x).bind fun x=>(evl t k).bind fun k=>(aBt P h ty x k ok).bind fun v=>some (v,none)
  | .extract x i=>(evl t x).bind fun v=>match v with
    | .tuple vs=>(vs[i]?).bind fun v=>some (v,none)
    | _=>none
  | .call { callee:=.builtin b,args,argTypes }=>(aAL t args.toList).bind fun vs=>(iT P h b argTypes vs).bind fun v=>some (v,none)
  | _=>none
def bV:Value→Bool
  | .agg _ | .tuple _=>false
  | _=>true
def mF (h:T Obj) (a:Addr) (vs:List Value):Option (T Obj) :=
  match a.spot with
  | none=>none
  | some _=>match h.get a.block with
    | some (.cells c e f)=>match Nat.ble (a.off+vs.length) c.size,vs.all bV with
      | true,true=>some (h.upd a.block (some (.cells (over c.toList a.off vs).toArray e f)))
      | _,_=>none
    | _=>none
def aBT (P:Program) (h:T Obj) (t:TypeId) (a v:Value):Option (T Obj) :=
  match a with
  | .pointer (some a)=>(pD P t).bind fun n=>match Nat.beq v.cells.size n with
    | true=>mF h a v.cells.toList
    | false=>none
  | _=>none
def aHy (P:Program) (ro:Ro) (h:T Obj) (e z by_:Nat) (t:TypeId) (x:Value):Option (Nat × List Value) :=
  match gG P t,x with
  | some (.int _),.int _ n=>match decide (0≤n),decide (n≤70368744177664),Nat.ble (n.toNat*by_) oB with
    | true,true,true=>(aH5 P e n.toNat).bind fun l=>some (n.toNat,l)
    | _,_,_=>none
  | some (.slice _),.slice none n _=>match n with
    | 0=>some (0,[])
    | _=>none
  | some (.slice _),.slice (some a) n _=>(cellsAt ro h a (n*z)).bind fun l=>some (n,l)
  | some .string,.string s=>match Nat.beq z 1 with
    | true=>some (s.size,s.data.toList.map fun b=>Value.int .u8 b.toNat)
    | false=>none
  | _,_=>none
def aLY (ro:Ro) (h:T Obj) (z:Nat) (base:Option Addr) (len:Nat):Option (List Value × T Obj) :=
  match base with
  | none=>match len with
    | 0=>some ([],h)
    | _+1=>none
  | some a=>(cellsAt ro h a (len*z)).bind fun l=>match a.spot with
    | none=>some (l,h)
    | some z'=>match Nat.beq z' z with
      | true=>some (l,h.upd a.block none)
      | false=>none
def bY (P:Program) (ro:Ro) (h:T Obj) (nx:Nat) (ts:Array TypeId) (vs:List Value):Option (Value × T Obj × Nat) :=
  match ts[0]?,ts[1]?,vs with
  | some t0,some t1,[.slice base len cap,x]=>match gG P t0 with
    | some (.slice e)=>(tin P e).bind fun i=>(aHy P ro h e i.size i.bytes t1 x).bind fun s =>
      match Nat.ble (len+s.1) cap with
      | true=>match s.1 with
        | 0=>some (.slice base len cap,h,nx)
        | _+1=>match base with
          | none=>none
          | some a=>match a.spot with
            | none=>none
            | some z=>match Nat.beq z i.size with
              | true=>(mF h (fwd a (len*i.size)) s.2).bind fun h=>some (.slice base (len+s.1) cap,h,nx)
              | false=>none
      | false=>(i8 P e).bind fun zv=>match Nat.ble ((len+s.1)*i.bytes) oB,Nat.ble (len+s.1) oB,Nat.blt 0 i.size,Nat.beq zv.cells.size i.size&&s.2.all bV with
        | true,true,true,true=>(aLY ro h i.size base len).bind fun p =>
            some (.slice (some (own nx i.size)) (len+s.1) (len+s.1),p.2.upd nx (some (.cells (p.1++s.2).toArray e)),nx+1)
        | _,_,_,_=>none
    | _=>none
  | _,_,_=>none
def aGF (P:Program) (ro:Ro) (h:T Obj) (nx:Nat) (ts:Array TypeId) (vs:List Value):Option (Value × T Obj × Nat) :=
  match ts[0]?,vs with
  | some t0,[.slice base dl _,.slice src sl _]=>match gG P t0 with
    | some (.slice e)=>(pD P e).bind fun z=>match Nat.min sl dl,base,src with
      | 0,_,_=>some (.int .i64 0,h,nx)
      | n+1,some a,some b=>match a.spot with
        | none=>none
        | some z'=>match Nat.beq z' z with
          | true=>(cellsAt ro h b ((n+1)*z)).bind fun l=>(mF h (elt a 0) l).bind fun h=>some (.int .i64 ((n+1:Nat):Int),h,nx)
          | false=>none
      | _,_,_=>none
    | _=>none
  | _,_=>none
def zM (P:Program) (h:T Obj) (t:TypeId) (m k v:Value):Option (T Obj) :=
  match gG P t,m with
  | some (.map kt _),.map (some r)=>(jY h r).bind fun es=>match aAH P kt k with
    | true=>(uN P kt k es.1 0).bind fun f=>match f with
      | some f=>some (h.upd r (some (.map (es.1.modify f.1 (fun e:MapEntry=>{ e with key:=k,val:=v })).toArray es.2)))
      | none=>some (h.upd r (some (.map (es.1++[({ key:=k,val:=v,born:=es.2 }:MapEntry)]).toArray (es.2+1))))
    | false=>none
  | _,_=>none
def aC3 (h:T Obj) (m:Value):Option (T Obj) :=
  match m with
  | .map none=>some h
  | .map (some r)=>(jY h r).bind fun es=>some (h.upd r (some (.map #[] es.2)))
  | _=>none
def yE (P:Program) (h:T Obj) (s d:TypeId) (v:Value):Option (Value × T Obj):=match v with
  | .slice (some a) l c=>match a.spot,h.get a.block with
    | some _,some (.cells cs e f)=>match Nat.beq s d,gG P d with
      | true,some (.slice el)=>match gG P el with
        | some (.int .u8)=>some (.slice (some a) l c,h.upd a.block (some (.cells cs e f)))
        | _=>none
      | _,_=>none
    | _,_=>none
  | _=>none
def iN:Op→Bool
  | .store _ _ _ | .mapUpdate _ _ _ _ | .insert _ _ _ _=>true
  | .call { callee:=.builtin b,.. }=>match b with
    | .append | .copy | .clear=>true
    | _=>false
  | .call _=>true
  | .convert s d _=>Nat.beq s d
  | _=>false
structure St where
  t:T Value
  h:T Obj
  nx:Nat
inductive Ex where
  | normal
  | exit (id:Nat)
  | ret
abbrev kU:=FuncId→List Value→T Obj→Nat→Value→T Obj→Nat→Prop
def opL (P:Program) (ro:Ro) (C:kU) (t:T Value) (h:T Obj) (nx:Nat) (op:Op) (v:Value) (h':T Obj) (nx':Nat):Prop :=
  match op with
  | .store ty a x=>∃ av xv,evl t a=some av∧evl t x=some xv∧aBT P h ty av xv=some h'∧nx'=nx∧v=undef
  | .mapUpdate ty m k x | .insert ty m k x=>∃ mv kv xv,evl t m=some mv∧evl t k=some kv∧evl t x=some xv∧zM P h ty mv kv xv=some h'∧nx'=nx∧v=undef
  | .call { callee:=.builtin b,args,argTypes }=>∃ vs,aAL t args.toList=some vs∧(match b with
    | .append=>bY P ro h nx argTypes vs=some (v,h',nx')
    | .copy=>aGF P ro h nx argTypes vs=some (v,h',nx')
    | .clear=>∃ m ty,vs=[m]∧argTypes[0]?=some ty∧(gG P ty).isSome=true∧aC3 h m=some h'∧nx'=nx∧v=.tuple #[]
    | _=>False)
  | .call { callee:=.value f,args,.. }=>∃ k a b vs,evl t f=some (.func (.func k) a b)∧aAL t args.toList=some vs∧C k (a.toList++vs++b.toList) h nx v h' nx'
  | .convert s d x=>∃ xv,evl t x=some xv∧yE P h s d xv=some (v,h')∧nx'=nx
  | _=>False
def wanted (ops:Array Oper) (t:T Value) (o:Oper):Bool :=
  match o.guard with
  | none=>true
  | some (j,w)=>match (ops[j]?).bind (·.dst) with
    | some d=>match t.get d with
      | some (.bool b)=>b==w
      | _=>false
    | none=>false
def put (n:Nat) (t:T Value) (dst:Option Tmp) (v:Value):Option (T Value) :=
  match dst with
  | none=>some t
  | some d=>match Nat.blt d n with
    | true=>some (t.upd d (some v))
    | false=>none
def aCW (h:T Obj) (id:Nat) (o:Option Obj):T Obj:=match o with
  | none=>h
  | some o=>h.upd id (some o)
def opR (P:Program) (ro:Ro) (C:kU) (t:T Value) (h:T Obj) (nx aid:Nat) (op:Op) (v:Value) (h':T Obj) (nx':Nat):Prop :=
  match iN op with
  | true=>opL P ro C t h nx op v h' nx'
  | false=>∃ ob,kD P ro t h aid op=some (v,ob)∧h'=aCW h aid ob∧nx'=nx
def aBe (P:Program) (ro:Ro) (C:kU) (n:Nat) (ops:Array Oper):List Oper→St→St→Prop
  | [],s,s'=>s'=s
  | o::r,s,s'=>match wanted ops s.t o with
    | true=>∃ v h' nx' t',opR P ro C s.t s.h (s.nx+1) s.nx o.op v h' nx'∧put n s.t o.dst v=some t'∧aBe P ro C n ops r ⟨t',h',nx'⟩ s'
    | false=>∃ t',put n s.t o.dst undef=some t'∧aBe P ro C n ops r ⟨t',s.h,s.nx⟩ s'
def bef (ops:Array Oper):Array Nat:=Region.before ops
def makes (P:Program):Op→Bool
  | .alloc _ | .box _ _ | .buildSlice _ _ _ | .makeSlice _ _ _ | .makeMap _ _=>true
  | .convert _ d _=>match gG P d with
    | some (.slice _)=>true
    | _=>false
  | _=>false
def blk:Value→Option Nat
  | .pointer (some a)=>match a.spot with
    | some _=>some a.block
    | none=>none
  | .slice (some a) _ _=>match a.spot with
    | some _=>some a.block
    | none=>none
  | .map r=>r
  | _=>none
def aBy (P:Program) (t:T Value):Op→Option Value
  | .load _ x=>evl t x
  | .lookup _ x _ _=>evl t x
  | .convert s _ x=>match gG P s with
    | some (.slice _)=>evl t x
    | _=>none
  | .call { callee:=.builtin _,args,argTypes }=>match (argTypes[0]?).bind (gG P) with
    | some (.map _ _)=>match aAL t args.toList with
      | some [v]=>some v
      | _=>none
    | _=>none
  | _=>none
def rdB (P:Program) (t:T Value) (op:Op):Option Nat:=(aBy P t op).bind blk
def looks (ops:Array Oper) (o:Oper):List Tmp:=o.looksAt ops
def free (b:Array Nat) (i j:Nat):Bool:=!(b.getD j 0).testBit i
def xR (P:Program) (ops:Array Oper) (oi oj:Oper):Bool :=
  !(iN oi.op&&iN oj.op)&&!(makes P oi.op&&iN oj.op)&&Oper.apart ops oi oj&&Oper.apart ops oj oi
def xG (P:Program) (ops:Array Oper):Bool :=
  let b:=bef ops
  (List.range ops.size).all fun j=>match ops[j]? with
    | none=>false
    | some oj=>(oj.after.toList.all fun e=>!Region.binds .any e || decide (e.on < j))&&(List.range j).all fun i=>match ops[i]? with
      | none=>false
      | some oi=>match free b i j with
        | false=>true
        | true=>xR P ops oi oj
def same (b:Nat) (h h':T Obj):Prop:=h.get b=h'.get b∧(h.get b).isSome=true
def xQ (P:Program) (ro:Ro) (C:kU) (n:Nat) (ops:Array Oper) (n0:Nat):List Oper→Nat→List (Nat × Nat)→List (Nat × T Obj × T Obj)→St→St→Prop
  | [],_,_,_,s,s'=>s'=s
  | o::r,i,ls,ms,s,s'=>match wanted ops s.t o with
    | true=>∃ v h' nx' t',opR P ro C s.t s.h s.nx (n0+i) o.op v h' nx'∧put n s.t o.dst v=some t' ∧
        (match iN o.op with
         | true=>(∀ l∈ls,free (bef ops) l.1 i=true→same l.2 s.h h')∧xQ P ro C n ops n0 r (i+1) ls ((i,s.h,h')::ms) ⟨t',h',nx'⟩ s'
         | false=>match rdB P s.t o.op with
           | some a=>(∀ m∈ms,free (bef ops) m.1 i=true→same a m.2.1 m.2.2)∧xQ P ro C n ops n0 r (i+1) ((i,a)::ls) ms ⟨t',h',nx'⟩ s'
           | none=>xQ P ro C n ops n0 r (i+1) ls ms ⟨t',h',nx'⟩ s')
    | false=>∃ t',put n s.t o.dst undef=some t'∧xQ P ro C n ops n0 r (i+1) ls ms ⟨t',s.h,s.nx⟩ s'
def aE2 (P:Program) (ro:Ro) (h:T Obj) (t:T Value):List ResultVar→Option (List Value)
  | []=>some []
  | .tmp i::r=>(aE2 P ro h t r).bind fun vs=>some ((t.get i).getD undef::vs)
  | .cell a ty::r=>match (t.get a).getD undef with
    | .pointer (some a)=>(pU P ro h ty a).bind fun v=>(aE2 P ro h t r).bind fun vs=>some (v::vs)
    | _=>none
def aDi:List Value→Value
  | [v]=>v
  | vs=>.tuple vs.toArray
def aA6:List Value→Nat→T Value→T Value
  | [],_,t=>t
  | v::vs,i,t=>aA6 vs (i+1) (t.upd i (some v))
def aU (h' h:T Obj):Prop:=∀ k o,h'.get k=some o→h.get k=some o
abbrev aAW:=Nat→Code→St→Ex→St→Prop
def Orc (P:Program) (f:FuncId) (v:Value):Prop:=flat v=true∧(∃ fn,P.funcs[f]?=some fn∧fn.body.isNone=false) ∧
  ∀ w:World,Calls P f #[] w fun e w'=>e=.returned v∧w.heap.size≤w'.heap.size∧(∀ b,b < w.heap.size→w'.heap[b]?=w.heap[b]?)∧w'.os=w.os∧w'.tape=w.tape∧w'.output=w.output
def rigid:Value→Bool
  | .agg cs=>cs.toList.all flat
  | v=>flat v
def aJC (P:Program) (f:FuncId) (args:List Value) (z l c:Nat) (cs:List Value):Prop:=args.all rigid=true∧cs.all flat=true∧(∃ fn,P.funcs[f]?=some fn∧fn.body.isNone=false) ∧
  ∀ w:World,Calls P f args.toArray w fun e w'=>(∃ B b r c' C E F,e=.returned (.slice (some ⟨B,b,none⟩) l c')∧c≤c'∧c'*z≤r∧w.heap.size≤B∧B < w'.heap.size∧w'.heap[B]?=some (.cells C E F)∧b+r≤C.size∧cs.length≤r ∧
      (∀ (i:Nat) (x:Value),cs[i]?=some x→C[b+i]?=some x)∧(F.1=F.2∨C.size≤F.1)) ∧
    w.heap.size≤w'.heap.size∧(∀ b,b < w.heap.size→w'.heap[b]?=w.heap[b]?)∧w'.os=w.os∧w'.tape=w.tape∧w'.output=w.output
def aFz (P:Program) (ro:Ro) (X:aAW):kU:=fun f args h nx v h' nx' =>
  (∃ fn body e s vs,P.funcs[f]?=some fn∧fn.body=some body∧args.length≤fn.ntmps ∧
    X fn.ntmps body ⟨aA6 args 0 .e,h,nx⟩ e s∧(e=.normal∨e=.ret) ∧
    aE2 P ro s.h s.t fn.results.toList=some vs∧v=aDi vs∧aU h' s.h∧nx'=s.nx) ∨
  (args=[]∧Orc P f v∧aU h' h∧nx'=nx) ∨
  (∃ z l c cs e,aJC P f args z l c cs∧v=.slice (some ⟨nx,0,some z⟩) l c∧aU h' (h.upd nx (some (.cells cs.toArray e)))∧nx'=nx+1)
def aWc (P:Program) (ro:Ro) (X:aAW) (n:Nat) (ops:Array Oper) (draw:Bool) (s s':St):Prop :=
  match draw with
  | false=>aBe P ro (aFz P ro X) n ops ops.toList s s'
  | true=>xG P ops=true∧xQ P ro (aFz P ro X) n ops s.nx ops.toList 0 [] [] ⟨s.t,s.h,s.nx+ops.size⟩ s'
def aKd (P:Program) (ro:Ro) (X:aAW):aAW:=fun n c s e s' =>
  match c with
  | .skip | .label _=>e=.normal∧s'=s
  | .ret=>e=.ret∧s'=s
  | .exit id=>e=.exit id∧s'=s
  | .seq a b=>(∃ s1,X n a s .normal s1∧X n b s1 e s')∨(e≠.normal∧X n a s e s')
  | .cond c a b=>∃ v,evl s.t c=some (.bool v)∧X n (match v with | true=>a | false=>b) s e s'
  | .block id b=>∃ e1,X n b s e1 s'∧e=(match e1 with | .exit i=>(match Nat.beq i id with | true=>.normal | false=>.exit i) | e1=>e1)
  | .loop b=>(∃ s1 h1,X n b s .normal s1∧aU h1 s1.h∧X n (.loop b) ⟨s1.t,h1,s1.nx⟩ e s')∨(e≠.normal∧X n b s e s')
  | .scope b=>X n b s e s'
  | .region _ ops draw=>e=.normal∧aWc P ro X n ops draw s s'
  | _=>False
def code (P:Program) (ro:Ro):Nat→aAW
  | 0=>fun _ _ _ _ _=>False
  | k+1=>aKd P ro (code P ro k)
def call (P:Program) (ro:Ro) (k:Nat):kU:=aFz P ro (code P ro k)
end V
end Go.Proofs.YtjndkdmkecpllaaGreat
noncomputable section
namespace Go.Proofs.YtjndkdmkecpllaaGreat
namespace V
abbrev gF:=Nat→Option (Nat × Nat × Nat)
inductive VR (N:Nat) (φ:gF):Value→Value→Prop where
  | flat {v:Value} (h:flat v=true):VR N φ v v
  | ptrRo {a:Addr} (h:a.spot=none) (hb:a.block < N):VR N φ (.pointer (some a)) (.pointer (some a))
  | ptrOwn {a:Addr} {z B o r:Nat} (h:φ a.block=some (B,o,r)) (hs:a.spot=some z):VR N φ (.pointer (some a)) (.pointer (some ⟨B,o+a.off,none⟩))
  | sliceRo {a:Addr} {l c:Nat} (h:a.spot=none) (hb:a.block < N):VR N φ (.slice (some a) l c) (.slice (some a) l c)
  | sliceOwn {a:Addr} {z B o r l c c':Nat} (h:φ a.block=some (B,o,r)) (hs:a.spot=some z) (hc:c≤c') (hr:a.off+c'*z≤r) :
      VR N φ (.slice (some a) l c) (.slice (some ⟨B,o+a.off,none⟩) l c')
  | sliceEnd {a:Addr} {z B o r b:Nat} (h:φ a.block=some (B,o,r)) (hs:a.spot=some z):VR N φ (.slice (some a) 0 0) (.slice (some ⟨B,b,none⟩) 0 0)
  | sliceNo {a a':Addr} (h:a.spot=none):VR N φ (.slice (some a) 0 0) (.slice (some a') 0 0)
  | map {k B:Nat} (h:φ k=some (B,0,0)):VR N φ (.map (some k)) (.map (some B))
  | agg {xs ys:Array Value} (hl:xs.size=ys.size) (h:∀ (i:Nat) (x y:Value),xs[i]?=some x→ys[i]?=some y→VR N φ x y):VR N φ (.agg xs) (.agg ys)
  | tuple {xs ys:Array Value} (hl:xs.size=ys.size) (h:∀ (i:Nat) (x y:Value),xs[i]?=some x→ys[i]?=some y→VR N φ x y):VR N φ (.tuple xs) (.tuple ys)
  | func {f:FuncId} {a b a' b':Array Value} (hl:a.size=a'.size) (h:∀ (i:Nat) (x y:Value),a[i]?=some x→a'[i]?=some y→VR N φ x y)
      (hk:b.size=b'.size) (g:∀ (i:Nat) (x y:Value),b[i]?=some x→b'[i]?=some y→VR N φ x y):VR N φ (.func (.func f) a b) (.func (.func f) a' b')
inductive LR (N:Nat) (φ:gF):List Value→List Value→Prop where
  | nil:LR N φ [] []
  | cons {x y:Value} {xs ys:List Value} (h:VR N φ x y) (t:LR N φ xs ys):LR N φ (x::xs) (y::ys)
section
variable {N:Nat}{φ:gF}
theorem LR.length {xs ys:List Value} (h:LR N φ xs ys):xs.length=ys.length:=by
  induction h with
  | nil=>rfl
  | cons _ _ ih=>simp[ih]
theorem LR.get {xs ys:List Value} (h:LR N φ xs ys):∀ (i:Nat) (x y:Value),xs[i]?=some x→ys[i]?=some y→VR N φ x y:=by
  induction h with
  | nil=>intro i x y hx; simp at hx
  | cons hv _ ih =>
    intro i x y hx hy
    cases i with
    | zero=>simp at hx hy; subst hx hy; exact hv
    | succ i=>exact ih i x y (by simpa using hx) (by simpa using hy)
theorem LR.of:∀ {xs ys:List Value},xs.length=ys.length→(∀ (i:Nat) (x y:Value),xs[i]?=some x→ys[i]?=some y→VR N φ x y)→LR N φ xs ys
  | [],[],_,_=>.nil
  | [],_::_,h,_=>by simp at h
  | _::_,[],h,_=>by simp at h
  | x::xs,y::ys,hl,h=>.cons (h 0 x y rfl rfl) (LR.of (by simpa using hl) fun i a b ha hb=>h (i+1) a b (by simpa using ha) (by simpa using hb))
theorem LR.some {xs ys:List Value} (h:LR N φ xs ys) {i:Nat}{x:Value} (hx:xs[i]?=some x):∃ y,ys[i]?=some y∧VR N φ x y:=by
  have hl:=h.length
  have hi:i < ys.length:=by rw[← hl]; exact (List.getElem?_eq_some_iff.1 hx).1
  exact⟨ys[i],List.getElem?_eq_getElem hi,h.get i x _ hx (List.getElem?_eq_getElem hi)⟩
theorem LR.append {xs ys zs ws:List Value} (h:LR N φ xs ys) (g:LR N φ zs ws):LR N φ (xs++zs) (ys++ws):=by
  induction h with
  | nil=>exact g
  | cons hv _ ih=>exact .cons hv ih
theorem LR.take {xs ys:List Value} (h:LR N φ xs ys):∀ n,LR N φ (xs.take n) (ys.take n):=by
  induction h with
  | nil=>intro n; simp; exact .nil
  | cons hv _ ih=>intro n; cases n with
    | zero=>exact .nil
    | succ n=>exact .cons hv (ih n)
theorem LR.drop {xs ys:List Value} (h:LR N φ xs ys):∀ n,LR N φ (xs.drop n) (ys.drop n):=by
  induction h with
  | nil=>intro n; simp; exact .nil
  | cons hv t ih=>intro n; cases n with
    | zero=>exact .cons hv t
    | succ n=>exact ih n
theorem LR.flat {xs:List Value} (h:∀ x∈xs,V.flat x=true):LR N φ xs xs:=by
  induction xs with
  | nil=>exact .nil
  | cons x xs ih=>exact .cons (.flat (h x (by simp))) (ih fun y hy=>h y (by simp[hy]))
theorem VR.aggL {xs ys:Array Value} (h:LR N φ xs.toList ys.toList):VR N φ (.agg xs) (.agg ys) :=
  .agg (by simpa using h.length) fun i x y hx hy=>h.get i x y (by simpa using hx) (by simpa using hy)
theorem VR.tupleL {xs ys:Array Value} (h:LR N φ xs.toList ys.toList):VR N φ (.tuple xs) (.tuple ys) :=
  .tuple (by simpa using h.length) fun i x y hx hy=>h.get i x y (by simpa using hx) (by simpa using hy)
theorem VR.undef:VR N φ undef undef:=.tuple rfl fun i x y hx _=>by simp at hx
theorem VR.of_agg {xs:Array Value}{v:Value} (h:VR N φ (.agg xs) v):∃ ys,v=.agg ys∧LR N φ xs.toList ys.toList:=by
  cases h with
  | flat h=>simp[V.flat] at h
  | agg hl h=>exact⟨_,rfl,LR.of (by simpa using hl) fun i x y hx hy=>h i x y (by simpa using hx) (by simpa using hy)⟩
theorem VR.of_tuple {xs:Array Value}{v:Value} (h:VR N φ (.tuple xs) v):∃ ys,v=.tuple ys∧LR N φ xs.toList ys.toList:=by
  cases h with
  | flat h=>simp[V.flat] at h
  | tuple hl h=>exact⟨_,rfl,LR.of (by simpa using hl) fun i x y hx hy=>h i x y (by simpa using hx) (by simpa using hy)⟩
theorem VR.of_flat {x v:Value} (h:VR N φ x v) (hf:V.flat x=true):v=x:=by
  cases h<;>first | rfl | simp[V.flat] at hf
theorem VR.of_int {k:IntKind}{n:Int}{v:Value} (h:VR N φ (.int k n) v):v=.int k n:=h.of_flat rfl
theorem VR.of_bool {b:Bool}{v:Value} (h:VR N φ (.bool b) v):v=.bool b:=h.of_flat rfl
theorem VR.of_string {s:ByteArray}{v:Value} (h:VR N φ (.string s) v):v=.string s:=h.of_flat rfl
theorem VR.of_nilPtr {v:Value} (h:VR N φ (.pointer none) v):v=.pointer none:=h.of_flat rfl
theorem VR.of_nilSlice {l c:Nat}{v:Value} (h:VR N φ (.slice none l c) v):v=.slice none l c:=h.of_flat rfl
theorem VR.of_nilMap {v:Value} (h:VR N φ (.map none) v):v=.map none:=h.of_flat rfl
theorem VR.of_map {k:Nat}{v:Value} (h:VR N φ (.map (some k)) v):∃ B,v=.map (some B)∧φ k=some (B,0,0):=by
  cases h with
  | flat h=>simp[V.flat] at h
  | map h=>exact⟨_,rfl,h⟩
theorem VR.of_func {f:FuncId}{a b:Array Value}{v:Value} (h:VR N φ (.func (.func f) a b) v):∃ a' b',v=.func (.func f) a' b'∧LR N φ a.toList a'.toList∧LR N φ b.toList b'.toList:=by
  cases h with
  | flat h=>simp[V.flat] at h
  | func hl h hk g =>
    exact⟨_,_,rfl,LR.of (by simpa using hl) fun i x y hx hy=>h i x y (by simpa using hx) (by simpa using hy),
      LR.of (by simpa using hk) fun i x y hx hy=>g i x y (by simpa using hx) (by simpa using hy)⟩
def AR (N:Nat) (φ:gF) (a b:Addr):Prop:=(a.spot=none∧a.block < N∧b=a)∨∃ z B o r,a.spot=some z∧φ a.block=some (B,o,r)∧b=⟨B,o+a.off,none⟩
theorem VR.of_ptr {a:Addr}{v:Value} (h:VR N φ (.pointer (some a)) v):∃ b,v=.pointer (some b)∧AR N φ a b:=by
  cases h with
  | flat h=>simp[V.flat] at h
  | ptrRo h hb=>exact⟨_,rfl,.inl ⟨h,hb,rfl⟩⟩
  | ptrOwn h hs=>exact⟨_,rfl,.inr ⟨_,_,_,_,hs,h,rfl⟩⟩
theorem AR.ptr {a b:Addr} (h:AR N φ a b):VR N φ (.pointer (some a)) (.pointer (some b)):=by
  rcases h with ⟨h1,h2,rfl⟩ | ⟨z,B,o,r,h1,h2,rfl⟩
  · exact .ptrRo h1 h2
  · exact .ptrOwn h2 h1
theorem AR.spot {a b:Addr} (h:AR N φ a b):b.spot=none:=by
  rcases h with ⟨h1,h2,rfl⟩ | ⟨z,B,o,r,h1,h2,rfl⟩
  · exact h1
  · rfl
theorem AR.fwd {a b:Addr} (h:AR N φ a b) (n:Nat):AR N φ (fwd a n) (b.add n):=by
  rcases h with ⟨h1,h2,rfl⟩ | ⟨z,B,o,r,h1,h2,rfl⟩
  · refine .inl ⟨h1,h2,?_⟩
    unfold Addr.add V.fwd
    split
    · rename_i h; subst h; rfl
    · rw[h1]
  · refine .inr ⟨z,B,o,r,h1,h2,?_⟩
    unfold Addr.add V.fwd
    split
    · rename_i h; subst h; rfl
    · simp[Nat.add_assoc]
def gF.le (φ ψ:gF):Prop:=∀ k p,φ k=some p→ψ k=some p
theorem gF.le_refl (φ:gF):gF.le φ φ:=fun _ _ h=>h
theorem gF.le_trans {φ ψ χ:gF} (h:gF.le φ ψ) (g:gF.le ψ χ):gF.le φ χ:=fun k p e=>g k p (h k p e)
theorem VR.mono {ψ:gF} (hl:gF.le φ ψ) {x y:Value} (h:VR N φ x y):VR N ψ x y:=by
  induction h with
  | flat h=>exact .flat h
  | ptrRo h hb=>exact .ptrRo h hb
  | ptrOwn h hs=>exact .ptrOwn (hl _ _ h) hs
  | sliceRo h hb=>exact .sliceRo h hb
  | sliceOwn h hs hc hr=>exact .sliceOwn (hl _ _ h) hs hc hr
  | sliceEnd h hs=>exact .sliceEnd (hl _ _ h) hs
  | sliceNo h=>exact .sliceNo h
  | map h=>exact .map (hl _ _ h)
  | agg hs _ ih=>exact .agg hs ih
  | tuple hs _ ih=>exact .tuple hs ih
  | func hs _ hk _ ih ih2=>exact .func hs ih hk ih2
theorem LR.mono {ψ:gF} (hl:gF.le φ ψ) {xs ys:List Value} (h:LR N φ xs ys):LR N ψ xs ys:=by
  induction h with
  | nil=>exact .nil
  | cons hv _ ih=>exact .cons (hv.mono hl) ih
theorem VR.cells {x y:Value} (h:VR N φ x y):LR N φ x.cells.toList y.cells.toList:=by
  cases h with
  | flat hf =>
    have:x.cells=#[x]:=by cases x<;>first | rfl | simp[V.flat] at hf
    rw[this]; exact .cons (.flat hf) .nil
  | ptrRo h hb=>exact .cons (.ptrRo h hb) .nil
  | ptrOwn h hs=>exact .cons (.ptrOwn h hs) .nil
  | sliceRo h hb=>exact .cons (.sliceRo h hb) .nil
  | sliceOwn h hs hc hr=>exact .cons (.sliceOwn h hs hc hr) .nil
  | sliceEnd h hs=>exact .cons (.sliceEnd h hs) .nil
  | sliceNo h=>exact .cons (.sliceNo h) .nil
  | map h=>exact .cons (.map h) .nil
  | agg hl h=>exact LR.of (by simpa [Value.cells] using hl) fun i x y hx hy=>h i x y (by simpa [Value.cells] using hx) (by simpa [Value.cells] using hy)
  | tuple hl h=>exact .cons (.tuple hl h) .nil
  | func hl h hk g=>exact .cons (.func hl h hk g) .nil
theorem VR.oneCell {x y:Value} (h:VR N φ x y) (hc:bV x=true):y.oneCell'=true:=by
  cases h<;>first | rfl | (rename_i hf; cases x<;>first | rfl | simp[V.flat] at hf) | simp[bV] at hc
inductive SR (N:Nat) (φ:gF) (a:Addr) (c:Nat):Addr→Nat→Prop where
  | ro (h:a.spot=none) (hb:a.block < N):SR N φ a c a c
  | own {z B o r c':Nat} (h:φ a.block=some (B,o,r)) (hs:a.spot=some z) (hc:c≤c') (hr:a.off+c'*z≤r):SR N φ a c ⟨B,o+a.off,none⟩ c'
theorem VR.of_slice {a:Addr}{l c:Nat}{v:Value} (h:VR N φ (.slice (some a) l c) v) :
    ∃ b c',v=.slice (some b) l c'∧(SR N φ a c b c'∨(l=0∧c=0∧c'=0∧(a.spot=none∨∃ z B o r,a.spot=some z∧φ a.block=some (B,o,r)∧b.spot=none∧b.block=B))):=by
  cases h with
  | flat h=>simp[V.flat] at h
  | sliceRo h hb=>exact⟨_,_,rfl,.inl (.ro h hb)⟩
  | sliceOwn h hs hc hr=>exact⟨_,_,rfl,.inl (.own h hs hc hr)⟩
  | sliceEnd h hs=>exact⟨_,_,rfl,.inr ⟨rfl,rfl,rfl,.inr ⟨_,_,_,_,hs,h,rfl,rfl⟩⟩⟩
  | sliceNo h=>exact⟨_,_,rfl,.inr ⟨rfl,rfl,rfl,.inl h⟩⟩
end
end V
end Go.Proofs.YtjndkdmkecpllaaGreat
noncomputable section
namespace Go.Proofs.YtjndkdmkecpllaaGreat
namespace V
section
variable {P:Program}{t:TypeId}
theorem sU {i:TypeInfo} (h:tin P t=some i):P.info? t=some i:=by
  unfold tin at h
  have hlt:t < P.types.size:=(Array.getElem?_eq_some_iff.1 h).1
  unfold Tables.info?
  rw[if_pos hlt]; exact h
theorem gB {d:TypeDesc} (h:gG P t=some d):P.underlying t=some d:=by
  unfold gG at h
  unfold Program.underlying
  cases ht:tin P t with
  | none=>rw[ht] at h; simp at h
  | some i =>
    rw[ht] at h
    rw[sU ht]
    obtain⟨desc,str,size,bytes,hp,al,fa,zero,comp,ms⟩:=i
    cases desc
    case named nm u =>
      simp only at h ⊢
      cases hu:tin P u with
      | none=>rw[hu] at h; simp at h
      | some j=>rw[hu] at h; rw[sU hu]; exact h
    all_goals exact h
theorem aDn {n:Nat} (h:pD P t=some n):∃ i,P.info? t=some i∧i.size=n:=by
  unfold pD at h
  cases ht:tin P t with
  | none=>rw[ht] at h; simp at h
  | some i=>rw[ht] at h; simp at h; exact⟨i,sU ht,h⟩
theorem aBY {z:Value} (h:i8 P t=some z):∃ i,P.info? t=some i∧i.zero=some z:=by
  unfold i8 at h
  cases ht:tin P t with
  | none=>rw[ht] at h; simp at h
  | some i =>
    rw[ht] at h
    simp only[Option.bind] at h
    split at h
    · cases h
    · exact⟨i,sU ht,h⟩
variable {w:World}
theorem b8 {d:TypeDesc} (h:gG P t=some d):(underlying t).run P w=.ok d w:=run_underlying (gB h) w
theorem lY {n:Nat} (h:pD P t=some n):(sizeOf t).run P w=.ok n w:=by
  obtain⟨i,hi,rfl⟩:=aDn h
  simp[sizeOf,typeInfo,hi]
theorem aDj {z:Value} (h:i8 P t=some z):(zeroValue t).run P w=.ok z w:=by
  obtain⟨i,hi,hz⟩:=aBY h
  simp[zeroValue,typeInfo,hi,hz]
theorem aBb {b:Bool} (h:isAgg P t=some b):(Go.isAgg t).run P w=.ok b w:=by
  unfold isAgg at h
  cases hd:gG P t with
  | none=>rw[hd] at h; simp at h
  | some d =>
    rw[hd] at h
    unfold Go.isAgg
    rw[Sem.run_bind,b8 hd]
    cases d<;>simp at h<;>subst h<;>rfl
end
def gC (P:Program):Bool:=P.types.toList.all fun i=>match i.zero with
  | some (.tuple _)=>true
  | some z=>z.cells.toList.all flat
  | none=>true
theorem aDt {P:Program} (hz:gC P=true) {t:TypeId}{z:Value} (h:i8 P t=some z):∀ x∈z.cells.toList,flat x=true:=by
  unfold i8 at h
  cases ht:tin P t with
  | none=>rw[ht] at h; simp at h
  | some i =>
    rw[ht] at h
    have hm:i∈P.types.toList:=by
      unfold tin at ht
      exact List.mem_of_getElem? (by simpa using ht)
    have:=List.all_eq_true.1 hz i hm
    simp only[Option.bind] at h
    split at h
    · cases h
    · rename_i hnt
      rw[h] at this
      cases z<;>first | exact fun x hx=>List.all_eq_true.1 this x hx | exact absurd h (hnt _)
inductive ER (N:Nat) (φ:gF):List MapEntry→List MapEntry→Prop where
  | nil:ER N φ [] []
  | cons {e E:MapEntry} {es ES:List MapEntry} (hk:VR N φ e.key E.key) (hv:VR N φ e.val E.val) (hb:e.born=E.born) (t:ER N φ es ES):ER N φ (e::es) (E::ES)
def aQ2 (n:Nat) (F:Nat × Nat):Prop:=F.1=F.2∨n≤F.1
theorem aQ2.no {n:Nat}{F:Nat × Nat} (h:aQ2 n F):∀ i,i < n→¬ (F.1≤i∧i < F.2):=fun i hi ⟨h1,h2⟩=>by rcases h with h | h<;>omega
def OR (N:Nat) (φ:gF) (o o':Obj) (base room:Nat):Prop :=
  match o,o' with
  | .cells c _ _,.cells C _ F=>base+room≤C.size∧c.size≤room∧(∀ i x,c[i]?=some x→∃ y,C[base+i]?=some y∧VR N φ x y)∧aQ2 C.size F
  | .map es k,.map ES K=>base=0∧room=0∧k=K∧ER N φ es.toList ES.toList
  | _,_=>False
theorem ER.mono {N:Nat}{φ ψ:gF} (hl:gF.le φ ψ) {es ES:List MapEntry} (h:ER N φ es ES):ER N ψ es ES:=by
  induction h with
  | nil=>exact .nil
  | cons hk hv hb _ ih=>exact .cons (hk.mono hl) (hv.mono hl) hb ih
theorem OR.mono {N:Nat}{φ ψ:gF} (hl:gF.le φ ψ) {o o':Obj}{b r:Nat} (h:OR N φ o o' b r):OR N ψ o o' b r:=by
  cases o<;>cases o'<;>simp only[OR] at h ⊢
  · obtain⟨h1,h2,h3,h4⟩:=h
    exact⟨h1,h2,fun i x hx=>let ⟨y,hy,hv⟩:=h3 i x hx; ⟨y,hy,hv.mono hl⟩,h4⟩
  · obtain⟨h1,h2,h3,h4⟩:=h
    exact⟨h1,h2,h3,h4.mono hl⟩
structure Sim (ro:Ro) (N:Nat) (φ:gF) (w0:World) (H:Nat→Option Obj) (w:World):Prop where
  n:N=w0.heap.size
  le:N≤w.heap.size
  old:∀ b,b < N→w.heap[b]?=w0.heap[b]?
  dom:∀ k B o r,φ k=some (B,o,r)→N≤B∧B < w.heap.size
  inj:∀ k k' B o r B' o' r',H k≠none→H k'≠none→φ k=some (B,o,r)→φ k'=some (B',o',r')→k≠k'→B≠B'
  own:∀ k o,H k=some o→∃ B b r o',φ k=some (B,b,r)∧w.heap[B]?=some o'∧OR N φ o o' b r
  ro:∀ a v,ro a=some v→a.spot=none∧a.block < N∧∃ v',w0.cell? a=some v'∧VR N (fun _=>none) v v'
theorem gF.le_none (φ:gF):gF.le (fun _=>none) φ:=fun _ _ h=>by cases h
section
variable {P:Program}{ro:Ro}{N:Nat}{φ:gF}{w0 w:World}{H:Nat→Option Obj}{h:T Obj}
theorem Sim.sub (hS:Sim ro N φ w0 H w) {H':Nat→Option Obj} (hs:∀ k o,H' k=some o→H k=some o):Sim ro N φ w0 H' w :=
  { hS with
    inj:=fun k k' B o r B' o' r' h1 h2=>hS.inj k k' B o r B' o' r'
      (fun e=>by cases hk:H' k with
        | none=>exact h1 hk
        | some x=>rw[hs k x hk] at e; cases e)
      (fun e=>by cases hk:H' k' with
        | none=>exact h2 hk
        | some x=>rw[hs k' x hk] at e; cases e)
    own:=fun k o hk=>hS.own k o (hs k o hk) }
theorem uB {b:Addr} (hb:b.spot=none) (i:Nat):b.add i=⟨b.block,b.off+i,none⟩:=by
  obtain⟨bb,bo,bs⟩:=b
  simp at hb; subst hb
  exact Addr.add_lit _ _ _
theorem Sim.roCells (hS:Sim ro N φ w0 H w):∀ (n:Nat) (a:Addr) (l:List Value),a.spot=none→V.roCells ro a n=some l →
    ∃ l',l.length=n∧LR N φ l l'∧∀ j v,l'[j]?=some v→w.cell? ⟨a.block,a.off+j,none⟩=some v:=by
  intro n
  induction n with
  | zero=>intro a l hs hl; simp[V.roCells] at hl; subst hl; exact⟨[],rfl,.nil,fun j v hj=>by simp at hj⟩
  | succ n ih =>
    intro a l hs hl
    simp only[V.roCells] at hl
    cases hv:ro a with
    | none=>rw[hv] at hl; simp at hl
    | some v =>
      rw[hv] at hl
      simp only[Option.bind] at hl
      cases hr:V.roCells ro ⟨a.block,a.off+1,none⟩ n with
      | none=>rw[hr] at hl; simp at hl
      | some vs =>
        rw[hr] at hl; simp at hl; subst hl
        obtain⟨l',h1,h2,h3⟩:=ih _ _ rfl hr
        obtain⟨_,r2,v',r3,r4⟩:=hS.ro a v hv
        refine⟨v'::l',by simp[h1],.cons (r4.mono (gF.le_none φ)) h2,?_⟩
        intro j u hj
        cases j with
        | zero =>
          simp at hj; subst hj
          rw[← r3]
          have ha:a=⟨a.block,a.off,none⟩:=by cases a; simp_all
          have:w.cell? ⟨a.block,a.off+0,none⟩=w0.cell? ⟨a.block,a.off+0,none⟩:=World.cell?_of_block (hS.old _ r2)
          rw[this]; exact congrArg w0.cell? ha.symm
        | succ j =>
          have:=h3 j u (by simpa using hj)
          rw[show a.off+(j+1)=a.off+1+j by omega]; exact this
theorem Sim.ownCell (hS:Sim ro N φ w0 H w) {k:Nat}{c:Array Value}{e:TypeId}{f:Nat × Nat} (hk:H k=some (.cells c e f)) {B b r:Nat} (hφ:φ k=some (B,b,r)) {i:Nat}{x:Value} (hx:c[i]?=some x) :
    ∃ y,w.cell? ⟨B,b+i,none⟩=some y∧VR N φ x y∧w.frozen? ⟨B,b+i,none⟩=false:=by
  obtain⟨B',b',r',o',h1,h2,h3⟩:=hS.own k _ hk
  rw[hφ] at h1; simp at h1; obtain⟨rfl,rfl,rfl⟩:=h1
  cases o'<;>simp only[OR] at h3
  rename_i C E F
  obtain⟨g1,g2,g3,g4⟩:=h3
  obtain⟨y,hy,hv⟩:=g3 i x hx
  refine⟨y,?_,hv,?_⟩
  · simp[World.cell?,h2,hy]
  · have hlt:b+i < C.size:=(Array.getElem?_eq_some_iff.1 hy).1
    have:=g4.no (b+i) hlt
    simp only[World.frozen?,h2]
    simpa using this
theorem Sim.cellsAt (hS:Sim ro N φ w0 H w) (hsub:∀ k o,h.get k=some o→H k=some o) {a b:Addr} (ha:AR N φ a b) {n:Nat}{l:List Value} (hl:V.cellsAt ro h a n=some l) :
    ∃ l',LR N φ l l'∧l.length=n∧∀ j v,l'[j]?=some v→w.cell? (b.add j)=some v:=by
  rcases ha with ⟨h1,h2,rfl⟩ | ⟨z,B,o,r,h1,h2,rfl⟩
  · unfold V.cellsAt at hl
    rw[h1] at hl
    obtain⟨l',g1,g2,g3⟩:=hS.roCells n _ _ h1 hl
    exact⟨l',g2,g1,fun j v hj=>by rw[uB h1]; exact g3 j v hj⟩
  · unfold V.cellsAt at hl
    rw[h1] at hl
    simp only at hl
    cases hk:h.get a.block with
    | none=>rw[hk] at hl; simp at hl
    | some ob =>
      rw[hk] at hl
      cases ob<;>simp only at hl<;>try (cases hl; done)
      case cells c e f =>
        cases hb:Nat.ble (a.off+n) c.size with
        | false=>rw[hb] at hl; simp at hl
        | true =>
          rw[hb] at hl; simp at hl; subst hl
          have hle:a.off+n≤c.size:=Nat.le_of_ble_eq_true hb
          have hlen:((c.toList.drop a.off).take n).length=n:=by simp; omega
          have hget:∀ j x,((c.toList.drop a.off).take n)[j]?=some x→c[a.off+j]?=some x:=by
            intro j x hj
            rw[List.getElem?_take] at hj
            split at hj
            · rw[List.getElem?_drop] at hj; simpa using hj
            · cases hj
          have hex:∀ j,j < n→∃ y,w.cell? ⟨B,o+(a.off+j),none⟩=some y∧∀ x,((c.toList.drop a.off).take n)[j]?=some x→VR N φ x y:=by
            intro j hj
            obtain⟨x,hx⟩:∃ x,((c.toList.drop a.off).take n)[j]?=some x:=⟨_,List.getElem?_eq_getElem (by omega)⟩
            obtain⟨y,hy,hv,_⟩:=hS.ownCell (hsub _ _ hk) h2 (hget j x hx)
            exact⟨y,hy,fun x' hx'=>by rw[hx] at hx'; cases hx'; exact hv⟩
          refine⟨(List.range n).map fun j=>(w.cell? ⟨B,o+(a.off+j),none⟩).getD undef,?_,hlen,?_⟩
          · refine LR.of (by simp; omega) fun i x y hx hy=>?_
            have hi:i < n:=by have:=(List.getElem?_eq_some_iff.1 hx).1; omega
            obtain⟨y',hy',hv⟩:=hex i hi
            simp[hi,hy'] at hy
            subst hy
            exact hv x hx
          · intro j v hj
            have hjn:j < n:=by have:=(List.getElem?_eq_some_iff.1 hj).1; simpa using this
            obtain⟨y',hy',_⟩:=hex j hjn
            simp[hjn,hy'] at hj
            subst hj
            rw[Addr.add_lit,Nat.add_assoc]; exact hy'
theorem Sim.load (hS:Sim ro N φ w0 H w) (hsub:∀ k o,h.get k=some o→H k=some o) {a b:Addr} (ha:AR N φ a b) {t:TypeId}{v:Value} (hl:pU P ro h t a=some v) :
    ∃ v',(loadVar t b).run P w=.ok v' w∧VR N φ v v':=by
  unfold pU at hl
  cases hg:isAgg P t with
  | none=>rw[hg] at hl; simp at hl
  | some g =>
    rw[hg] at hl
    cases g with
    | true =>
      simp only at hl
      cases hs:pD P t with
      | none=>rw[hs] at hl; simp at hl
      | some n =>
        rw[hs] at hl
        simp only[Option.bind] at hl
        cases hc:V.cellsAt ro h a n with
        | none=>rw[hc] at hl; simp at hl
        | some l =>
          rw[hc] at hl; simp at hl; subst hl
          obtain⟨l',h1,h2,h3⟩:=hS.cellsAt hsub ha hc
          have hr:=run_loadCells_list (P:=P) w b l' h3
          rw[← h1.length,h2] at hr
          refine⟨.agg l'.toArray,?_,VR.aggL (by simpa using h1)⟩
          unfold loadVar
          simp[aBb hg,lY hs,hr]
    | false =>
      simp only at hl
      cases hc:V.cellsAt ro h a 1 with
      | none=>rw[hc] at hl; simp at hl
      | some l =>
        rw[hc] at hl
        obtain⟨l',h1,h2,h3⟩:=hS.cellsAt hsub ha hc
        match l,h2 with
        | [x],_ =>
          simp at hl; subst hl
          cases h1 with
          | cons hv ht =>
            rename_i y ys
            have h0:=h3 0 y rfl
            rw[Addr.add_zero'] at h0
            refine⟨y,?_,hv⟩
            unfold loadVar
            simp[aBb hg,h0]
end
end V
end Go.Proofs.YtjndkdmkecpllaaGreat
noncomputable section
namespace Go.Proofs.YtjndkdmkecpllaaGreat
namespace V
theorem pW (l:List Value) (off:Nat) (vs:List Value) (h:off+vs.length≤l.length):(over l off vs).length=l.length:=by
  unfold over; simp; omega
theorem u0 (l:List Value) (off:Nat) (vs:List Value) (h:off+vs.length≤l.length) (i:Nat) :
    (over l off vs)[i]?=if i < off then l[i]? else if i < off+vs.length then vs[i - off]? else l[i]?:=by
  unfold over
  rw[List.append_assoc,List.getElem?_append]
  have h1:(l.take off).length=off:=by simp; omega
  rw[h1]
  by_cases a:i < off
  · rw[if_pos a,if_pos a,List.getElem?_take,if_pos a]
  · rw[if_neg a,if_neg a,List.getElem?_append]
    by_cases b:i < off+vs.length
    · rw[if_pos (by omega),if_pos b]
    · rw[if_neg (by omega),if_neg b,List.getElem?_drop]
      congr 1; omega
theorem LR.over {N:Nat}{φ:gF}{l l' vs vs':List Value} (h:LR N φ l l') (g:LR N φ vs vs') (off:Nat):LR N φ (V.over l off vs) (V.over l' off vs'):=by
  unfold V.over
  rw[← g.length]
  exact ((h.take off).append g).append (h.drop _)
theorem aGT:∀ (vs:List Value) (k off:Nat) (c:Array Value),off+k+vs.length≤c.size →
    ((vs.zipIdx k).foldl (fun (cs:Array Value) (x:Value × Nat)=>cs.setIfInBounds (off+x.2) x.1) c).toList=over c.toList (off+k) vs:=by
  intro vs
  induction vs with
  | nil=>intro k off c h; simp[over]
  | cons v vs ih =>
    intro k off c h
    simp only[List.length_cons] at h
    rw[List.zipIdx_cons,List.foldl_cons,ih (k+1) off _ (by simp; omega)]
    apply List.ext_getElem?
    intro i
    rw[u0 _ _ _ (by simp; omega),u0 _ _ _ (by simp; omega)]
    simp only[Array.toList_setIfInBounds,List.getElem?_set,List.length_cons]
    by_cases a:i < off+k
    · rw[if_pos (by omega),if_pos a,if_neg (by omega)]
    · by_cases e:off+k=i
      · subst e
        rw[if_pos (by omega),if_pos rfl,if_pos (by simp; omega),if_neg a,if_pos (by omega),Nat.sub_self]
        rfl
      · rw[if_neg (by omega:¬ i < off+k)]
        by_cases b:i < off+k+(vs.length+1)
        · rw[if_neg (by omega),if_pos (by omega),if_pos b]
          rw[show i - (off+k)=(i - (off+(k+1)))+1 by omega]
          simp
        · rw[if_neg (by omega),if_neg (by omega),if_neg b,if_neg e]
inductive PR (N:Nat) (φ:gF):List (Nat × Value)→List (Nat × Value)→Prop where
  | nil:PR N φ [] []
  | cons {i:Nat} {x y:Value} {xs ys:List (Nat × Value)} (h:VR N φ x y) (t:PR N φ xs ys):PR N φ ((i,x)::xs) ((i,y)::ys)
theorem aDH {N:Nat}{φ:gF} (place:Nat→Option (Nat × Nat)) {ps qs:List (Nat × Value)} (hp:PR N φ ps qs) :
    ∀ {cs:List Value} {ds:Array Value} {l:List Value},LR N φ cs ds.toList→nL place cs ps=some l→∃ r,Instr.fill place ds qs=some r∧LR N φ l r.toList:=by
  induction hp with
  | nil=>intro cs ds l hc hl; simp[nL] at hl; subst hl; exact⟨ds,rfl,hc⟩
  | cons hv _ ih =>
    rename_i i x y xs ys _
    intro cs ds l hc hl
    simp only[nL] at hl
    cases hpl:place i with
    | none=>rw[hpl] at hl; simp at hl
    | some p =>
      rw[hpl] at hl
      simp only[Option.bind] at hl
      cases h1:Nat.beq x.cells.size p.2 with
      | false=>rw[h1] at hl; simp at hl
      | true =>
        cases h2:Nat.ble (p.1+p.2) cs.length with
        | false=>rw[h1,h2] at hl; simp at hl
        | true =>
          rw[h1,h2] at hl
          simp only at hl
          have e1:x.cells.size=p.2:=Nat.eq_of_beq_eq_true h1
          have e2:p.1+p.2≤cs.length:=Nat.le_of_ble_eq_true h2
          have hcl:=hv.cells
          have e3:y.cells.size=p.2:=by have:=hcl.length; simp at this; omega
          have e4:cs.length=ds.size:=by simpa using hc.length
          obtain⟨r,hr,hlr⟩:=ih (cs:=over cs p.1 x.cells.toList) (ds:=(y.cells.zipIdx.foldl (fun cs (c,j)=>cs.setIfInBounds (p.1+j) c) ds)) (by
            have:(y.cells.zipIdx.foldl (fun (cs:Array Value) (x:Value × Nat)=>cs.setIfInBounds (p.1+x.2) x.1) ds).toList=over ds.toList p.1 y.cells.toList:=by
              rw[← Array.foldl_toList,Array.toList_zipIdx,aGT _ 0 p.1 ds (by simp; omega)]; rfl
            show LR N φ _ (y.cells.zipIdx.foldl (fun (cs:Array Value) (x:Value × Nat)=>cs.setIfInBounds (p.1+x.2) x.1) ds).toList
            rw[this]
            exact hc.over hcl p.1) hl
          refine⟨r,?_,hlr⟩
          rw[Instr.fill,hpl]
          simp only
          rw[if_neg (by simp; omega)]
          exact hr
theorem aJj {P:Program}:∀ (fs:List Field) (pl:List (Nat × Nat)),oE P fs=some pl→fs.mapM (fun f=>(P.info? f.type).map fun i=>(f.offset,i.size))=some pl:=by
  intro fs
  induction fs with
  | nil=>intro pl h; simp[oE] at h; subst h; simp
  | cons f fs ih =>
    intro pl h
    simp only[oE] at h
    cases hs:pD P f.type with
    | none=>rw[hs] at h; simp at h
    | some n =>
      rw[hs] at h
      cases hr:oE P fs with
      | none=>rw[hr] at h; simp at h
      | some l =>
        rw[hr] at h; simp at h; subst h
        obtain⟨i,hi,rfl⟩:=aDn hs
        simp[hi,ih l hr]
theorem aJJ {P:Program}{N:Nat}{φ:gF} (hz:gC P=true) {t:TypeId}{ps qs:List (Nat × Value)} (hp:PR N φ ps qs) {v:Value} (h:cX P t ps=some v) :
    ∃ l r,v=.agg l∧P.built t qs=some r∧LR N φ l.toList r.toList:=by
  unfold cX at h
  cases hzr:i8 P t with
  | none=>rw[hzr] at h; simp at h
  | some z =>
    rw[hzr] at h
    simp only[Option.bind] at h
    obtain⟨i,hi,hiz⟩:=aBY hzr
    have hflat:=aDt hz hzr
    cases hu:gG P t with
    | none=>rw[hu] at h; simp at h
    | some d =>
      rw[hu] at h
      cases d<;>simp only at h<;>try (cases h; done)
      case array n e =>
        cases hs:pD P e with
        | none=>rw[hs] at h; simp at h
        | some k =>
          rw[hs] at h
          simp only at h
          cases hf:nL (fun i=>some (i*k,k)) z.cells.toList ps with
          | none=>rw[hf] at h; simp at h
          | some l =>
            rw[hf] at h; simp at h; subst h
            obtain⟨r,hr,hlr⟩:=aDH _ hp (LR.flat hflat) hf
            obtain⟨j,hj,rfl⟩:=aDn hs
            refine⟨_,r,rfl,?_,by simpa using hlr⟩
            unfold Program.built
            rw[hi,gB hu]
            simp only[hiz,hj]
            exact hr
      case struct fs =>
        cases hs:oE P fs.toList with
        | none=>rw[hs] at h; simp at h
        | some pl =>
          rw[hs] at h
          simp only at h
          cases hf:nL (pl[·]?) z.cells.toList ps with
          | none=>rw[hf] at h; simp at h
          | some l =>
            rw[hf] at h; simp at h; subst h
            obtain⟨r,hr,hlr⟩:=aDH _ hp (LR.flat hflat) hf
            refine⟨_,r,rfl,?_,by simpa using hlr⟩
            unfold Program.built
            rw[hi,gB hu]
            simp only[hiz,aJj _ _ hs]
            simpa using hr
theorem x7 (z:List Value) (n:Nat):(vZ z n).length=n*z.length:=by
  induction n with
  | zero=>simp[vZ]
  | succ n ih=>simp[vZ,ih,Nat.succ_mul]; omega
theorem aNn (z:List Value) (hz:0 < z.length):∀ (n j:Nat),j < n*z.length→(vZ z n)[j]?=z[j % z.length]?:=by
  intro n
  induction n with
  | zero=>intro j h; simp at h
  | succ n ih =>
    intro j h
    rw[vZ,List.getElem?_append]
    by_cases a:j < z.length
    · rw[if_pos a,Nat.mod_eq_of_lt a]
    · rw[if_neg a,ih (j - z.length) (by rw[Nat.succ_mul] at h; omega)]
      congr 1
      rw[Nat.mod_eq_sub_mod (by omega:j ≥ z.length)]
theorem aEg {P:Program}{N:Nat}{φ:gF} (hz:gC P=true) {e:TypeId}{n:Nat}{l:List Value} (h:aH5 P e n=some l) :
    ∃ s,(n=0∧l=[])∨(pD P e=some s∧l.length=n*s∧0 < n*s∧∃ z,i8 P e=some z∧LR N φ l ((Array.range (n*s)).map (z.cells[· % z.cells.size]!)).toList∧z.cells.size=s):=by
  unfold aH5 at h
  cases n with
  | zero=>simp at h; exact⟨0,.inl ⟨rfl,h⟩⟩
  | succ n =>
    simp only at h
    cases hzr:i8 P e with
    | none=>rw[hzr] at h; simp at h
    | some z =>
      rw[hzr] at h
      cases hs:pD P e with
      | none=>rw[hs] at h; simp at h
      | some s =>
        rw[hs] at h
        simp only[Option.bind] at h
        cases h1:Nat.beq z.cells.size s with
        | false=>rw[h1] at h; simp at h
        | true =>
          cases h2:Nat.blt 0 s with
          | false=>rw[h1,h2] at h; simp at h
          | true =>
            rw[h1,h2] at h; simp at h; subst h
            have e1:z.cells.size=s:=Nat.eq_of_beq_eq_true h1
            have e2:0 < s:=by have:=h2; simp[Nat.blt] at this; omega
            have hlen:z.cells.toList.length=s:=by simpa using e1
            refine⟨s,.inr ⟨rfl,by rw[x7,hlen],Nat.mul_pos (by omega) e2,z,rfl,?_,e1⟩⟩
            have hflat:=aDt hz hzr
            refine LR.of (by rw[x7,hlen]; simp) fun i x y hx hy=>?_
            have hi:i < (n+1)*s:=by have:=(List.getElem?_eq_some_iff.1 hx).1; rw[x7,hlen] at this; exact this
            rw[aNn _ (by omega) _ _ (by rw[hlen]; exact hi),hlen] at hx
            have hm:i % s < s:=Nat.mod_lt _ e2
            simp[hi] at hy
            have hx':z.cells[i % s]?=some x:=by simpa using hx
            rw[e1] at hy
            rw[getElem!_pos z.cells (i % s) (by omega)] at hy
            rw[Array.getElem?_eq_getElem (by omega)] at hx'
            cases hx'
            subst hy
            exact .flat (hflat _ (by simp))
theorem OR.cells {N:Nat}{φ:gF}{c C:Array Value}{e E:TypeId} (h:LR N φ c.toList C.toList):OR N φ (.cells c e) (.cells C E) 0 C.size:=by
  refine⟨by simp,by have:=h.length; simp at this; omega,fun i x hx=>?_,.inl rfl⟩
  obtain⟨y,hy,hv⟩:=h.some (by simpa using hx:c.toList[i]?=some x)
  exact⟨y,by simpa using hy,hv⟩
def oT (N:Nat) (φ:gF) (aid:Nat) (w:World) (v:Value) (ob:Option Obj) (r:Result Value):Prop :=
  ∃ v' w',r=.ok v' w'∧match ob with
    | none=>w'=w∧VR N φ v v'
    | some o=>∃ o' rm,w'.heap=w.heap.push o'∧w'.os=w.os∧w'.tape=w.tape∧w'.output=w.output∧(N≤w.heap.size→∀ ψ,gF.le φ ψ→ψ aid=some (w.heap.size,0,rm)→VR N ψ v v'∧OR N ψ o o' 0 rm)
section
variable {P:Program}{ro:Ro}{N:Nat}{φ:gF}{w0 w:World}{H:Nat→Option Obj}{h:T Obj}
theorem oT.value {aid:Nat}{v v':Value}{r:Result Value} (hr:r=.ok v' w) (hv:VR N φ v v'):oT N φ aid w v none r:=⟨v',w,hr,rfl,hv⟩
theorem oT.ptr {aid:Nat}{c C:Array Value}{e:TypeId}{r:Result Value} (hr:r=.ok (.pointer (some ⟨w.heap.size,0,none⟩)) (w.alloc (.cells C e))) (hl:LR N φ c.toList C.toList) :
    oT N φ aid w (.pointer (some (own aid 0))) (some (.cells c e)) r :=
  ⟨_,_,hr,_,C.size,rfl,rfl,rfl,rfl,fun _ ψ hle hψ=>⟨.ptrOwn (a:=own aid 0) hψ rfl,OR.cells (hl.mono hle)⟩⟩
theorem oT.row {aid l cap z:Nat}{c C:Array Value}{e:TypeId}{r:Result Value} (hr:r=.ok (.slice (some ⟨w.heap.size,0,none⟩) l cap) (w.alloc (.cells C e))) (hl:LR N φ c.toList C.toList) (hc:cap*z≤C.size) :
    oT N φ aid w (.slice (some (own aid z)) l cap) (some (.cells c e)) r :=
  ⟨_,_,hr,_,C.size,rfl,rfl,rfl,rfl,fun _ ψ hle hψ=>⟨.sliceOwn (a:=own aid z) hψ rfl (Nat.le_refl _) (by simpa [own] using hc),OR.cells (hl.mono hle)⟩⟩
theorem aKC (hz:gC P=true) {t:TypeId}{aid len:Nat}{ps:List (Nat × Value)}{qs:Array (Nat × Value)} (hp:PR N φ ps qs.toList) {v:Value}{ob:Option Obj} (hs:bC P t aid len ps=some (v,ob)) :
    oT N φ aid w v ob ((Instr.buildSlice t len qs).run P w):=by
  unfold bC at hs
  cases hu:gG P t with
  | none=>rw[hu] at hs; simp at hs
  | some d =>
    rw[hu] at hs
    cases d<;>simp only at hs<;>try (cases hs; done)
    rename_i e
    cases hsz:pD P e with
    | none=>rw[hsz] at hs; simp at hs
    | some s =>
      rw[hsz] at hs
      simp only[Option.bind] at hs
      cases hr:aH5 P e len with
      | none=>rw[hr] at hs; simp at hs
      | some l =>
        rw[hr] at hs
        simp only at hs
        cases hb:Nat.ble (len*s) 16777216 with
        | false=>rw[hb] at hs; simp at hs
        | true =>
          rw[hb] at hs
          simp only at hs
          cases hf:nL (fun i=>some (i*s,s)) l ps with
          | none=>rw[hf] at hs; simp at hs
          | some l2 =>
            rw[hf] at hs; simp at hs; obtain⟨rfl,rfl⟩:=hs
            have hle:len*s≤16777216:=Nat.le_of_ble_eq_true hb
            have hnb:¬ (16777216 < len*s):=by omega
            obtain⟨s',hm⟩:=aEg (φ:=φ) (N:=N) hz hr
            rcases hm with ⟨h0,hl0⟩ | ⟨h1,h2,h3,z,h4,h5,_⟩
            · subst h0; subst hl0
              obtain⟨r,hfr,hlr⟩:=aDH _ hp (cs:=[]) (ds:=#[]) .nil hf
              refine oT.row (C:=r) ?_ (by simpa using hlr) (by simp)
              simp[Instr.buildSlice,b8 hu,lY hsz,hfr,newRow,Array.range_zero']
            · rw[hsz] at h1; cases h1
              obtain⟨r,hfr,hlr⟩:=aDH _ hp h5 hf
              have hrs:r.size=len*s:=by
                have e1:=hlr.length
                have e2:l2.length=l.length:=by
                  clear hlr hfr h5 e1
                  revert hf
                  have key:∀ (ps:List (Nat × Value)) (l l2:List Value),nL (fun i=>some (i*s,s)) l ps=some l2→l2.length=l.length:=by
                    intro ps
                    induction ps with
                    | nil=>intro l l2 h; simp[nL] at h; rw[h]
                    | cons x ps ih =>
                      intro l l2 h
                      simp only[nL,Option.bind] at h
                      split at h
                      · rename_i g1 g2
                        rw[ih _ _ h,pW]
                        have:=Nat.eq_of_beq_eq_true g1
                        have:=Nat.le_of_ble_eq_true g2
                        simp; omega
                      · cases h
                  exact key ps l l2
                simp at e1; omega
              refine oT.row (C:=r) ?_ (by simpa using hlr) (by omega)
              have hne:¬ (len*s=0):=by omega
              have hne':¬ (len=0∨s=0):=by intro hh; rcases hh with hh | hh<;>subst hh<;>simp at h3
              simp[Instr.buildSlice,b8 hu,lY hsz,aDj h4,hnb,hne,hne',newRow]
              rw[hfr]
              rfl
end
end V
end Go.Proofs.YtjndkdmkecpllaaGreat
noncomputable section
namespace Go.Proofs.YtjndkdmkecpllaaGreat
namespace V
def qD (P:Program) (t:TypeId) (l:List Value):Value:=match isAgg P t with
  | some true=>.agg l.toArray
  | _=>l.headD undef
theorem aNC {P:Program}{t:TypeId}{d:TypeDesc} (h:gG P t=some d):∃ b,isAgg P t=some b∧(b=true ↔ ((∃ fs,d=.struct fs)∨∃ n e,d=.array n e)):=by
  unfold isAgg
  rw[h]
  cases d<;>simp
theorem aE8 {P:Program}{w:World}{t:TypeId}{cs:Array Value}{off s:Nat}{g:Bool} (hg:isAgg P t=some g) (hs:pD P t=some s) (h:off+s≤cs.size) (h1:g=false→s=1) :
    (part t cs off).run P w=.ok (qD P t ((cs.toList.drop off).take s)) w:=by
  unfold part qD
  cases g with
  | true =>
    simp[aBb hg,lY hs,hg]
    apply Array.ext'
    simp[List.extract_eq_take_drop]
  | false =>
    have:=h1 rfl; subst this
    have hlt:off < cs.size:=by omega
    simp[aBb hg,hg,hlt]
    rw[List.take_one,List.head?_drop]
    simp[hlt]
theorem iG:∀ {ks:List Nat}{xs ys:List Value}{b:Bool},dY ks xs ys=some b→xs.length=ks.length∧ys.length=ks.length:=by
  intro ks
  induction ks with
  | nil=>intro xs ys b h; cases xs<;>cases ys<;>simp[dY] at h ⊢
  | cons k ks ih =>
    intro xs ys b h
    cases xs<;>cases ys<;>simp only[dY] at h<;>try (cases h; done)
    rename_i x xs y ys
    cases h1:kK k x y with
    | none=>rw[h1] at h; simp at h
    | some c =>
      rw[h1] at h
      cases h2:dY ks xs ys with
      | none=>rw[h2] at h; simp at h
      | some d=>have:=ih h2; simp[this]
theorem aBn:∀ {js ks:List Nat}{xs ys:List Value}{b:Bool},dY (js++ks) xs ys=some b →
    ∃ c d,dY js (xs.take js.length) (ys.take js.length)=some c∧dY ks (xs.drop js.length) (ys.drop js.length)=some d∧b=(c&&d):=by
  intro js
  induction js with
  | nil=>intro ks xs ys b h; exact⟨true,b,by simp[dY],by simpa using h,by simp⟩
  | cons k js ih =>
    intro ks xs ys b h
    cases xs<;>cases ys<;>simp only[List.cons_append,dY] at h<;>try (cases h; done)
    rename_i x xs y ys
    cases h1:kK k x y with
    | none=>rw[h1] at h; simp at h
    | some e =>
      rw[h1] at h
      cases h2:dY (js++ks) xs ys with
      | none=>rw[h2] at h; simp at h
      | some f =>
        rw[h2] at h; simp at h; subst h
        obtain⟨c,d,g1,g2,rfl⟩:=ih h2
        exact⟨e&&c,d,by simp[dY,h1,g1],by simpa using g2,by simp[Bool.and_assoc]⟩
section
variable {P:Program}
def gR (P:Program) (d:Nat) (o:Option (List Nat)) (f:Field):Option (List Nat):=o.bind fun k=>(eE P d f.type).bind fun j =>
  match f.name == "_", Nat.beq f.offset k.length, Nat.beq ((pD P f.type).getD 0) j.length, Nat.blt 0 j.length with
  | false,true,true,true=>some (k++j)
  | _,_,_,_=>none
theorem aAj (d:Nat) (fs:List Field):fs.foldl (gR P d) none=none:=by
  induction fs with
  | nil=>rfl
  | cons f fs ih=>rw[List.foldl_cons]; exact ih
theorem kZ {d:Nat}{k n:List Nat}{f:Field}{fs:List Field} (h:(f::fs).foldl (gR P d) (some k)=some n) :
    ∃ j, eE P d f.type = some j ∧ (f.name == "_") = false ∧ f.offset = k.length ∧ (pD P f.type).getD 0 = j.length ∧ 0 < j.length ∧ fs.foldl (gR P d) (some (k ++ j)) = some n := by
  rw[List.foldl_cons] at h
  cases hj:eE P d f.type with
  | none =>
    have e:gR P d (some k) f=none:=by simp[gR,hj]
    rw[e,aAj] at h; cases h
  | some j =>
    cases h1 : (f.name == "_") <;> cases h2 : Nat.beq f.offset k.length <;> cases h3 : Nat.beq ((pD P f.type).getD 0) j.length <;> cases h4 : Nat.blt 0 j.length
    case false.true.true.true =>
      have e:gR P d (some k) f=some (k++j):=by simp[gR,hj,h1,h2,h3,h4]
      rw[e] at h
      exact⟨j,rfl,rfl,Nat.eq_of_beq_eq_true h2,Nat.eq_of_beq_eq_true h3,by have:=h4; simp[Nat.blt] at this; omega,h⟩
    all_goals
      have e:gR P d (some k) f=none:=by simp[gR,hj,h1,h2,h3,h4]
      rw[e,aAj] at h; cases h
theorem aBx {d:Nat}:∀ {fs:List Field}{k n:List Nat},fs.foldl (gR P d) (some k)=some n→∃ m,n=k++m:=by
  intro fs
  induction fs with
  | nil=>intro k n h; simp at h; exact⟨[],by simp[h]⟩
  | cons f fs ih =>
    intro k n h
    obtain⟨j,_,_,_,_,_,h5⟩:=kZ h
    obtain⟨m,rfl⟩:=ih h5
    exact⟨j++m,by simp⟩
theorem tQ {d:Nat}{t:TypeId}{ks:List Nat}{fs:Array Field} (hu:gG P t=some (.struct fs)) (h:eE P (d+1) t=some ks) :
    P.stoodInHeld t=false∧fs.toList.foldl (gR P d) (some [])=some ks:=by
  unfold eE at h
  rw[hu] at h
  simp only at h
  cases hst:P.stoodInHeld t with
  | true=>rw[hst] at h; cases h
  | false=>rw[hst] at h; exact⟨rfl,h⟩
theorem aEy {d n:Nat}{t e:TypeId}{ks:List Nat} (hu:gG P t=some (.array n e)) (h:eE P (d+1) t=some ks) :
    ∃ k,eE P d e=some k∧(pD P e).getD 0=k.length∧0 < k.length∧ks=x6 k n:=by
  unfold eE at h
  rw[hu] at h
  simp only at h
  cases he:eE P d e with
  | none=>rw[he] at h; cases h
  | some k =>
    rw[he] at h
    simp only[Option.bind] at h
    cases h1:Nat.beq ((pD P e).getD 0) k.length<;>cases h2:Nat.blt 0 k.length<;>rw[h1,h2] at h<;>simp at h
    exact⟨k,rfl,Nat.eq_of_beq_eq_true h1,by have:=h2; simp[Nat.blt] at this; omega,h.symm⟩
theorem aId {d:Nat}{t:TypeId}{ks:List Nat} (h:eE P d t=some ks):(∃ b,isAgg P t=some b)∧(isAgg P t=some false→ks.length=1):=by
  cases d with
  | zero=>simp[eE] at h
  | succ d =>
    unfold eE at h
    cases hu:gG P t with
    | none=>rw[hu] at h; simp at h
    | some ds =>
      obtain⟨b,hb,hiff⟩:=aNC hu
      refine⟨⟨b,hb⟩,fun hf=>?_⟩
      rw[hu] at h
      unfold isAgg at hf
      rw[hu] at hf
      cases ds<;>simp at h hf<;>(subst h; rfl)
theorem aCp {t:TypeId}{n:Nat} (h:(pD P t).getD 0=n) (hn:0 < n):pD P t=some n:=by
  cases hs:pD P t with
  | none=>rw[hs] at h; simp at h; omega
  | some m=>rw[hs] at h; simp at h; rw[h]
theorem aLd:∀ (d:Nat) (t:TypeId) (n:List Nat),eE P d t=some n→∀ D,d≤D→P.eqGuardType D t=false:=by
  intro d
  induction d with
  | zero=>intro t n h; simp[eE] at h
  | succ d ih =>
    intro t n h D hD
    obtain⟨D,rfl⟩:∃ E,D=E+1:=⟨D - 1,by omega⟩
    have h0:=h
    unfold eE at h
    cases hu:gG P t with
    | none=>rw[hu] at h; simp at h
    | some ds =>
      rw[hu] at h
      unfold Program.eqGuardType
      rw[gB hu]
      cases ds<;>simp only at h ⊢<;>try (cases h; done)
      case array m e =>
        obtain⟨k,hk,_⟩:=aEy hu h0
        exact ih e k hk D (by omega)
      case struct fs =>
        obtain⟨_,h'⟩:=tQ hu h0
        have key : ∀ (l : List Field) (k : List Nat), l.foldl (gR P d) (some k) = some n → l.any (fun f => f.name != "_" && P.eqGuardType D f.type) = false := by
          intro l
          induction l with
          | nil=>intro k _; rfl
          | cons f l il =>
            intro k hk
            obtain⟨j,h1,h2,h3,h4,_,h5⟩:=kZ hk
            rw[List.any_cons,il _ h5,ih f.type j h1 D (by omega)]; simp
        rw[← Array.any_toList]
        exact key fs.toList [] h'
variable {w:World}
theorem aA0 {D k:Nat}{t:TypeId}{x y:Value}{b:Bool}{d:TypeDesc} (hu:gG P t=some d) (hd:(k=0∧d=.bool)∨(k=1∧∃ i,d=.int i)∨(k=2∧d=.string))
    (h:kK k x y=some b):(Op.equalIn (D+1) t x y).run P w=.ok b w:=by
  unfold Op.equalIn
  rw[Sem.run_bind,b8 hu,Result.andThen_ok]
  rcases hd with ⟨rfl,rfl⟩ | ⟨rfl,i,rfl⟩ | ⟨rfl,rfl⟩<;>cases x<;>cases y<;>simp[kK] at h
  · simp[h]
  · rename_i k1 n1 k2 n2
    by_cases hk:k1=k2
    · simp[hk] at h; subst h
      simp[hk]
      rfl
    · simp[hk] at h
  · rename_i s1 s2
    simp only[Sem.run_pure]
    rw[beq_toListBytes,ByteArray.toList_eq,ByteArray.toList_eq]
    simp[h]
theorem aSP:∀ (d:Nat) (t:TypeId) (ks:List Nat),eE P d t=some ks→∀ (D:Nat),d≤D→∀ (xs ys:List Value) (b:Bool),dY ks xs ys=some b →
    (Op.equalIn D t (qD P t xs) (qD P t ys)).run P w=.ok b w:=by
  intro d
  induction d with
  | zero=>intro t ks h; simp[eE] at h
  | succ d ih =>
    intro t ks h D hD xs ys b hb
    obtain⟨D,rfl⟩:∃ E,D=E+1:=⟨D - 1,by omega⟩
    have hstep:∀ (e:TypeId) (k:List Nat),eE P d e=some k→(pD P e).getD 0=k.length→0 < k.length→∀ (off:Nat) (as bs:Array Value) (c:Bool),off+k.length≤as.size→off+k.length≤bs.size →
        dY k ((as.toList.drop off).take k.length) ((bs.toList.drop off).take k.length)=some c →
        (part e as off).run P w=.ok (qD P e ((as.toList.drop off).take k.length)) w∧(part e bs off).run P w=.ok (qD P e ((bs.toList.drop off).take k.length)) w ∧
        (Op.equalIn D e (qD P e ((as.toList.drop off).take k.length)) (qD P e ((bs.toList.drop off).take k.length))).run P w=.ok c w:=by
      intro e k hk hs hp off as bs c h1 h2 hc
      obtain⟨⟨g,hg⟩,hone⟩:=aId hk
      have hs':=aCp hs hp
      refine⟨aE8 hg hs' h1 ?_,aE8 hg hs' h2 ?_,ih e k hk D (by omega) _ _ _ hc⟩
      · intro e; subst e; exact hone hg
      · intro e; subst e; exact hone hg
    have h0:=h
    unfold eE at h
    cases hu:gG P t with
    | none=>rw[hu] at h; simp at h
    | some ds =>
      rw[hu] at h
      cases ds<;>simp only at h<;>try (cases h; done)
      case array m e =>
        obtain⟨k,hk,hs,hp,rfl⟩:=aEy hu h0
        have hv:∀ l:List Value,qD P t l=.agg l.toArray:=fun l=>by unfold qD isAgg; rw[hu]
        obtain⟨i,hi,hie⟩:=aDn (aCp hs hp)
        rw[hv,hv,run_equalIn_array (P:=P) w D (e:=e) (n:=m) (i:=i) _ _ (gB hu) hi]
        have hce:P.cellsOf e=k.length:=by unfold Program.cellsOf; rw[hi]; simp[hie]
        rw[hce]
        have key:∀ (n j:Nat) (b:Bool),dY (x6 k n) (xs.drop (j*k.length)) (ys.drop (j*k.length))=some b→(j+n)*k.length≤xs.length→(j+n)*k.length≤ys.length →
            (Op.eqItems D e k.length xs.toArray ys.toArray (List.range' j n)).run P w=.ok b w:=by
          intro n
          induction n with
          | zero =>
            intro j b hb _ _
            have:=iG hb
            have e1:xs.drop (j*k.length)=[]:=by apply List.eq_nil_of_length_eq_zero; simpa [x6] using this.1
            have e2:ys.drop (j*k.length)=[]:=by apply List.eq_nil_of_length_eq_zero; simpa [x6] using this.2
            rw[e1,e2] at hb; simp[x6,dY] at hb; subst hb
            simp[Op.eqItems]
          | succ n il =>
            intro j b hb hx hy
            obtain⟨c,d',g1,g2,rfl⟩:=aBn hb
            rw[List.range'_succ]
            have hmul:(j+(n+1))*k.length=j*k.length+k.length+n*k.length:=by rw[Nat.add_mul,Nat.succ_mul]; omega
            have hxx:j*k.length+k.length≤xs.length:=by omega
            have hyy:j*k.length+k.length≤ys.length:=by omega
            obtain⟨p1,p2,p3⟩:=hstep e k hk hs hp (j*k.length) xs.toArray ys.toArray c (by simpa using hxx) (by simpa using hyy) (by simpa using g1)
            simp only[Op.eqItems,Sem.run_bind,p1,p2,p3,Result.andThen_ok]
            cases c
            · simp
            · simp only[Bool.not_true,Bool.false_eq_true,if_false,Bool.true_and]
              refine il (j+1) d' ?_ (by rw[show j+1+n=j+(n+1) by omega]; exact hx) (by rw[show j+1+n=j+(n+1) by omega]; exact hy)
              rw[Nat.succ_mul]
              simpa [List.drop_drop] using g2
        have htl:∀ n,(x6 k n).length=n*k.length:=by
          intro n; induction n with
          | zero=>simp[x6]
          | succ n il=>simp[x6,il,Nat.succ_mul]; omega
        have hl:=iG hb
        rw[htl] at hl
        have:=key m 0 b (by simpa using hb) (by simp; omega) (by simp; omega)
        rw[List.range_eq_range']
        exact this
      case struct fs =>
        obtain⟨hst,hfold⟩:=tQ hu h0
        have hv:∀ l:List Value,qD P t l=.agg l.toArray:=fun l=>by unfold qD isAgg; rw[hu]
        have hfo:P.fieldsOf t=fs:=by unfold Program.fieldsOf; rw[gB hu]
        rw[hv,hv,run_equalIn_struct (P:=P) w D t _ _ (by rw[hfo]; exact gB hu) hst,hfo]
        have key:∀ (l:List Field) (k m:List Nat),l.foldl (gR P d) (some k)=some (k++m)→k.length+m.length=xs.length→k.length+m.length=ys.length→∀ b,dY m (xs.drop k.length) (ys.drop k.length)=some b →
            (Op.eqFields D xs.toArray ys.toArray l).run P w=.ok b w:=by
          intro l
          induction l with
          | nil =>
            intro k m hk _ _ b hb
            simp at hk; subst hk
            have:=iG hb
            have e1:xs.drop k.length=[]:=by apply List.eq_nil_of_length_eq_zero; simpa using this.1
            have e2:ys.drop k.length=[]:=by apply List.eq_nil_of_length_eq_zero; simpa using this.2
            rw[e1,e2] at hb; simp[dY] at hb; subst hb
            simp[Op.eqFields]
          | cons f l il =>
            intro k m hk hx hy b hb
            obtain⟨j,h1,h2,h3,h4,hj,h5⟩:=kZ hk
            obtain⟨m',hm⟩:=aBx h5
            have hm':m=j++m':=by rw[List.append_assoc] at hm; exact List.append_cancel_left hm
            subst hm'
            obtain⟨c,d',g1,g2,rfl⟩:=aBn hb
            simp only[List.length_append] at hx hy
            have hne : f.name ≠ "_" := by simpa using h2
            obtain⟨p1,p2,p3⟩:=hstep f.type j h1 h4 hj k.length xs.toArray ys.toArray c (by simp; omega) (by simp; omega) (by simpa using g1)
            simp only[Op.eqFields,if_pos hne,h3,Sem.run_bind,p1,p2,p3,Result.andThen_ok]
            cases c
            · simp
            · simp only[Bool.not_true,Bool.false_eq_true,if_false,Bool.true_and]
              exact il (k++j) m' (by rw[h5,List.append_assoc]) (by simp; omega) (by simp; omega) d' (by simpa [List.drop_drop] using g2)
        have hl:=iG hb
        exact key fs.toList [] ks (by simpa using hfold) (by simp; omega) (by simp; omega) b (by simpa using hb)
      case bool =>
        simp at h; subst h
        have hl:=iG hb
        match xs,ys,hl with
        | [x],[y],_ =>
          have hv:∀ z,qD P t [z]=z:=fun z=>by unfold qD isAgg; rw[hu]; rfl
          rw[hv,hv]
          refine aA0 hu (.inl ⟨rfl,rfl⟩) ?_
          simp only[dY] at hb
          cases h1:kK 0 x y with
          | none=>rw[h1] at hb; simp at hb
          | some c=>rw[h1] at hb; simpa using hb
      case int k =>
        simp at h; subst h
        have hl:=iG hb
        match xs,ys,hl with
        | [x],[y],_ =>
          have hv:∀ z,qD P t [z]=z:=fun z=>by unfold qD isAgg; rw[hu]; rfl
          rw[hv,hv]
          refine aA0 hu (.inr (.inl ⟨rfl,k,rfl⟩)) ?_
          simp only[dY] at hb
          cases h1:kK 1 x y with
          | none=>rw[h1] at hb; simp at hb
          | some c=>rw[h1] at hb; simpa using hb
      case string =>
        simp at h; subst h
        have hl:=iG hb
        match xs,ys,hl with
        | [x],[y],_ =>
          have hv:∀ z,qD P t [z]=z:=fun z=>by unfold qD isAgg; rw[hu]; rfl
          rw[hv,hv]
          refine aA0 hu (.inr (.inr ⟨rfl,rfl⟩)) ?_
          simp only[dY] at hb
          cases h1:kK 2 x y with
          | none=>rw[h1] at hb; simp at hb
          | some c=>rw[h1] at hb; simpa using hb
end
end V
end Go.Proofs.YtjndkdmkecpllaaGreat
noncomputable section
namespace Go.Proofs.YtjndkdmkecpllaaGreat
namespace V
theorem aM8 (k:IntKind) (n:Int):wr k n=k.wrap n:=by
  unfold wr
  cases k<;>try rfl
  · by_cases h1:-9223372036854775808≤n<;>by_cases h2:n≤9223372036854775807<;>simp[h1,h2]
    rw[IntKind.wrap_i64]; omega
  · by_cases h1:0≤n<;>by_cases h2:n≤255<;>simp[h1,h2]
    rw[IntKind.wrap_u8]; omega
  · by_cases h1:0≤n<;>by_cases h2:n≤18446744073709551615<;>simp[h1,h2]
    rw[IntKind.wrap_u64]; omega
section
variable {P:Program}{w:World}
theorem aDL (op:BinOp) (t:TypeId) (x y:Operand) (a b:Value) (h:∀ xs ys,a=.agg xs→b=.agg ys→P.eqGuardType P.depth t=false) (hn:a≠.nilIface) :
    (eqGuard op t x y a b).run P w=.ok () w:=by
  unfold eqGuard
  cases op<;>simp
  all_goals
    cases a<;>cases b<;>simp at hn ⊢
    all_goals (rw[h _ _ rfl rfl]; simp)
theorem aHY {x:Int} (h0:0≤x) (h1:x≤18446744073709551615):(BitVec.ofInt 64 x).toNat=x.toNat:=by
  rw[BitVec.toNat_ofInt]
  norm_cast
  omega
theorem aQ8 {op:BinOp}{k:IntKind}{x y n:Int} (h:aBk op k x y=some n):(Op.intBits op k x y).run P w=.ok (.int k n) w:=by
  by_cases h64:k=.u64∧0≤x∧0≤y∧x≤18446744073709551615∧y≤18446744073709551615
  · obtain⟨rfl,h0,h1,h2,h3⟩:=h64
    have ex:=aHY h0 h2
    have ey:=aHY h1 h3
    have bx:(BitVec.ofInt 64 x).toNat < 2 ^ 64:=(BitVec.ofInt 64 x).isLt
    cases op<;>simp[aBk,h0,h1,h2,h3] at h<;>subst h<;>unfold Op.intBits<;>simp only[Sem.run_pure]<;>congr 2
    · show IntKind.u64.wrap ((BitVec.ofInt 64 x &&& BitVec.ofInt 64 y).toNat:Int)=_
      have lt:=(BitVec.ofInt 64 x &&& BitVec.ofInt 64 y).isLt
      rw[IntKind.wrap_u64,Int.emod_eq_of_lt (by omega) (by omega),BitVec.toNat_and,ex,ey]
    · show IntKind.u64.wrap ((BitVec.ofInt 64 x ||| BitVec.ofInt 64 y).toNat:Int)=_
      have lt:=(BitVec.ofInt 64 x ||| BitVec.ofInt 64 y).isLt
      rw[IntKind.wrap_u64,Int.emod_eq_of_lt (by omega) (by omega),BitVec.toNat_or,ex,ey]
    · show IntKind.u64.wrap ((BitVec.ofInt 64 x ^^^ BitVec.ofInt 64 y).toNat:Int)=_
      have lt:=(BitVec.ofInt 64 x ^^^ BitVec.ofInt 64 y).isLt
      rw[IntKind.wrap_u64,Int.emod_eq_of_lt (by omega) (by omega),BitVec.toNat_xor,ex,ey]
  · have:aBk op k x y=(match op with
      | .and=>some (k.wrap (BitVec.ofInt k.bits x &&& BitVec.ofInt k.bits y).toNat)
      | .or=>some (k.wrap (BitVec.ofInt k.bits x ||| BitVec.ofInt k.bits y).toNat)
      | .xor=>some (k.wrap (BitVec.ofInt k.bits x ^^^ BitVec.ofInt k.bits y).toNat)
      | _=>none):=by
      by_cases h0:0≤x<;>by_cases h1:0≤y<;>by_cases h2:x≤18446744073709551615<;>by_cases h3:y≤18446744073709551615<;>cases k<;>cases op<;>simp[aBk,h0,h1,h2,h3]<;>(exfalso; apply h64; exact⟨rfl,h0,h1,h2,h3⟩)
    rw[this] at h
    cases op<;>simp at h<;>subst h<;>rfl
theorem aFx {op:BinOp}{k:IntKind}{x y:Int}{v:Value} (h:((aBk op k x y).bind fun n=>some (Value.int k n))=some v):(Op.intBits op k x y).run P w=.ok v w∧flat v=true:=by
  cases hb:aBk op k x y with
  | none=>rw[hb] at h; cases h
  | some n=>rw[hb] at h; cases h; exact⟨aQ8 hb,rfl⟩
theorem aTd {op:BinOp}{k:IntKind}{x y:Int}{v:Value} (t:TypeId) (h:uT op k x y=some v) (hs:op≠.shl∧op≠.shr):(binOp op t (.int k x) (.int k y)).run P w=.ok v w∧flat v=true:=by
  cases op
  case and=>have:=aFx (P:=P) (w:=w) (op:=.and) h; simpa [binOp] using this
  case or=>have:=aFx (P:=P) (w:=w) (op:=.or) h; simpa [binOp] using this
  case xor=>have:=aFx (P:=P) (w:=w) (op:=.xor) h; simpa [binOp] using this
  case quo =>
    by_cases hy:y=0<;>simp[uT,hy] at h
    subst h
    refine⟨?_,rfl⟩
    simp[binOp,Op.intDiv,hy,aM8]
  case rem =>
    by_cases hy:y=0<;>simp[uT,hy] at h
    subst h
    refine⟨?_,rfl⟩
    simp[binOp,Op.intDiv,hy]
  case add | sub | mul =>
    simp[uT] at h
    subst h
    refine⟨?_,rfl⟩
    simp[binOp,Op.intArith,aM8]
  case eql | neq | lss | leq | gtr | geq =>
    simp[uT] at h
    subst h
    refine⟨?_,rfl⟩
    simp[binOp,Op.intCmp]
    try rfl
  all_goals first | (simp[uT] at h; done) | simp at hs
theorem aQK {op:BinOp}{k k':IntKind}{x y:Int}{v:Value} (t:TypeId) (h:aCo op k x y=some v):(op=.shl∨op=.shr)∧(binOp op t (.int k x) (.int k' y)).run P w=.ok v w∧flat v=true:=by
  unfold aCo at h
  by_cases hy:0≤y
  · have hy':¬ y < 0:=by omega
    cases op<;>simp[hy] at h<;>subst h
    · refine⟨.inl rfl,?_,rfl⟩
      simp[binOp,Op.shift,hy',aM8]
    · refine⟨.inr rfl,?_,rfl⟩
      simp[binOp,Op.shift,hy']
  · cases op<;>simp[hy] at h
theorem aUc {op:BinOp}{x y:ByteArray}{v:Value} (t:TypeId) (h:aSu op x y=some v):(binOp op t (.string x) (.string y)).run P w=.ok v w∧flat v=true:=by
  unfold aSu at h
  cases op<;>simp at h<;>(try (cases h; done))
  case add =>
    by_cases hs:((x.size:Int)+(y.size:Int))≤9223372036854775807<;>simp[hs] at h
    subst h
    have:¬ (9223372036854775807 < (x.size:Int)+(y.size:Int)):=by omega
    refine⟨?_,rfl⟩
    simp[binOp,Op.stringOp,this]
  all_goals
    subst h
    refine⟨?_,rfl⟩
    simp[binOp,Op.stringOp,ByteArray.toList_eq]
end
end V
end Go.Proofs.YtjndkdmkecpllaaGreat
noncomputable section
namespace Go.Proofs.YtjndkdmkecpllaaGreat
namespace V
section
variable {P:Program}{ro:Ro}{N:Nat}{φ:gF}{w0 w:World}{H:Nat→Option Obj}{h:T Obj}
theorem aEq {k:Nat}{x y:Value}{b:Bool} (h:kK k x y=some b):flat x=true∧flat y=true:=by
  match k,x,y,h with
  | 0,.bool a,.bool c,_=>exact⟨rfl,rfl⟩
  | 1,.int k a,.int k' c,_=>exact⟨rfl,rfl⟩
  | 2,.string a,.string c,_=>exact⟨rfl,rfl⟩
theorem aDF:∀ {ks:List Nat}{xs ys xs' ys':List Value}{b:Bool},dY ks xs ys=some b→LR N φ xs xs'→LR N φ ys ys'→xs'=xs∧ys'=ys:=by
  intro ks
  induction ks with
  | nil =>
    intro xs ys xs' ys' b h hx hy
    cases xs<;>cases ys<;>simp[dY] at h
    cases hx; cases hy; exact⟨rfl,rfl⟩
  | cons k ks ih =>
    intro xs ys xs' ys' b h hx hy
    cases xs<;>cases ys<;>simp only[dY] at h<;>try (cases h; done)
    rename_i x xs y ys
    cases hx with
    | cons hxv hxt=>cases hy with
      | cons hyv hyt =>
        cases h1:kK k x y with
        | none=>rw[h1] at h; simp at h
        | some c =>
          rw[h1] at h
          cases h2:dY ks xs ys with
          | none=>rw[h2] at h; simp at h
          | some d =>
            obtain⟨rfl,rfl⟩:=ih h2 hxt hyt
            obtain⟨f1,f2⟩:=aEq h1
            rw[hxv.of_flat f1,hyv.of_flat f2]; exact⟨rfl,rfl⟩
theorem VR.isNone {a:Option Addr}{v:Value} (hv:VR N φ (.pointer a) v):∃ b,v=.pointer b∧b.isNone=a.isNone:=by
  cases a with
  | none=>exact⟨none,hv.of_nilPtr,rfl⟩
  | some a=>obtain⟨b,rfl,_⟩:=hv.of_ptr; exact⟨_,rfl,rfl⟩
theorem VR.isNoneS {a:Option Addr}{l c:Nat}{v:Value} (hv:VR N φ (.slice a l c) v):∃ b l' c',v=.slice b l' c'∧b.isNone=a.isNone:=by
  cases a with
  | none=>exact⟨none,_,_,hv.of_nilSlice,rfl⟩
  | some a=>obtain⟨b,c',rfl,_⟩:=hv.of_slice; exact⟨_,_,_,rfl,rfl⟩
theorem aIC {t:TypeId} (h:isAgg P t=some true) (xs:Array Value):qD P t xs.toList=.agg xs:=by unfold qD; rw[h]
def other:Value→Bool
  | .int _ _ | .string _ | .float _ _ | .complex _ _ _ | .nilIface=>false
  | _=>true
theorem aPe {t:TypeId}{d:TypeDesc} (hu:gG P t=some d) {x y x' y':Value}{b:Bool} (h:aDW d x y=some b) (hx:VR N φ x x') (hy:VR N φ y y') :
    (Op.equal t x' y').run P w=.ok b w∧(∀ xs,x'≠.agg xs)∧other x'=true:=by
  unfold Op.equal Op.maxDepth Op.equalIn
  rw[Sem.run_bind,b8 hu,Result.andThen_ok]
  cases d<;>cases x<;>cases y<;>simp only[aDW] at h<;>try (cases h; done)
  case bool.bool.bool =>
    rw[hx.of_bool,hy.of_bool]
    simp at h; simp[h,other]
  case pointer.pointer.pointer e a c =>
    obtain⟨a',rfl,ha⟩:=hx.isNone
    obtain⟨c',rfl,hc⟩:=hy.isNone
    refine⟨?_,by simp,rfl⟩
    cases a<;>cases a'<;>simp at ha<;>cases c<;>cases c'<;>simp at hc<;>simp[aDW] at h<;>subst h<;>simp
  case slice.slice.slice e a l1 c1 c l2 c2 =>
    obtain⟨a',_,_,rfl,ha⟩:=hx.isNoneS
    obtain⟨c',_,_,rfl,hc⟩:=hy.isNoneS
    refine⟨?_,by simp,rfl⟩
    cases a<;>cases a'<;>simp at ha<;>cases c<;>cases c'<;>simp at hc<;>simp[aDW] at h<;>subst h<;>simp
theorem aDu {t:TypeId}{xs ys xs' ys':Array Value}{b:Bool} (h:(match isAgg P t with
    | some true=>(eE P 20 t).bind fun ks=>dY ks xs.toList ys.toList
    | _=>none)=some b) (hx:LR N φ xs.toList xs'.toList) (hy:LR N φ ys.toList ys'.toList) :
    xs'=xs∧ys'=ys∧(Op.equal t (.agg xs) (.agg ys)).run P w=.ok b w∧P.eqGuardType P.depth t=false:=by
  cases hg:isAgg P t with
  | none=>rw[hg] at h; cases h
  | some g =>
    cases g with
    | false=>rw[hg] at h; cases h
    | true =>
      rw[hg] at h
      cases hp:eE P 20 t with
      | none=>rw[hp] at h; cases h
      | some ks =>
        rw[hp] at h
        simp only[Option.bind] at h
        obtain⟨e1,e2⟩:=aDF h hx hy
        have e1':xs'=xs:=Array.ext' e1
        have e2':ys'=ys:=Array.ext' e2
        refine⟨e1',e2',?_,aLd 20 t ks hp _ (by unfold Program.depth Made.depth; omega)⟩
        have:=aSP (P:=P) (w:=w) 20 t ks hp 10000 (by omega) xs.toList ys.toList b h
        rw[aIC hg,aIC hg] at this
        exact this
theorem aIS {t:TypeId}{x y x' y':Value}{b:Bool} (h:aFZ P t x y=some b) (hx:VR N φ x x') (hy:VR N φ y y') :
    (Op.equal t x' y').run P w=.ok b w∧(∀ xs ys,x'=.agg xs→y'=.agg ys→P.eqGuardType P.depth t=false)∧other x'=true:=by
  have gen:((gG P t).bind fun d=>aDW d x y)=some b→(Op.equal t x' y').run P w=.ok b w∧(∀ xs ys,x'=.agg xs→y'=.agg ys→P.eqGuardType P.depth t=false)∧other x'=true:=by
    intro h
    cases hu:gG P t with
    | none=>rw[hu] at h; cases h
    | some d =>
      rw[hu] at h
      obtain⟨h1,h2,h3⟩:=aPe (w:=w) hu h hx hy
      exact⟨h1,fun xs _ e _=>absurd e (h2 xs),h3⟩
  cases x<;>cases y<;>first
    | exact gen h
    | (rename_i xs ys
       obtain⟨xs',rfl,hxl⟩:=hx.of_agg
       obtain⟨ys',rfl,hyl⟩:=hy.of_agg
       obtain⟨rfl,rfl,h1,h2⟩:=aDu (w:=w) h hxl hyl
       exact⟨h1,fun _ _ _ _=>h2,rfl⟩)
theorem aIG {op:BinOp}{t:TypeId}{x y:Value} (hx:other x=true):(op=.eql→binOp op t x y=(do pure (.bool (← Op.equal t x y))))∧(op=.neq→binOp op t x y=(do pure (.bool (!(← Op.equal t x y))))):=by
  refine⟨fun e=>?_,fun e=>?_⟩<;>subst e<;>cases x<;>simp[other] at hx<;>cases y<;>rfl
theorem aOm {op:BinOp}{t:TypeId}{x y x' y' v:Value}{xo yo:Operand} (h:aFw P op t x y=some v) (hx:VR N φ x x') (hy:VR N φ y y') :
    (do eqGuard op t xo yo x' y'; binOp op t x' y':Sem Value).run P w=.ok v w∧flat v=true:=by
  have gen:aBo P op t x y=some v→(do eqGuard op t xo yo x' y'; binOp op t x' y':Sem Value).run P w=.ok v w∧flat v=true:=by
    intro h
    unfold aBo at h
    cases op<;>simp only at h<;>try (cases h; done)
    case eql =>
      cases hb:aFZ P t x y with
      | none=>rw[hb] at h; cases h
      | some b =>
        rw[hb] at h; cases h
        obtain⟨h1,h2,h3⟩:=aIS (w:=w) hb hx hy
        refine⟨?_,rfl⟩
        rw[Sem.run_bind,aDL _ _ _ _ _ _ h2 (by intro e; subst e; cases h3),Result.andThen_ok,(aIG h3).1 rfl]
        simp[h1]
    case neq =>
      cases hb:aFZ P t x y with
      | none=>rw[hb] at h; cases h
      | some b =>
        rw[hb] at h; cases h
        obtain⟨h1,h2,h3⟩:=aIS (w:=w) hb hx hy
        refine⟨?_,rfl⟩
        rw[Sem.run_bind,aDL _ _ _ _ _ _ h2 (by intro e; subst e; cases h3),Result.andThen_ok,(aIG h3).2 rfl]
        simp[h1]
  cases x<;>cases y<;>first
    | exact gen h
    | (rename_i k a k' b
       rw[hx.of_int,hy.of_int,Sem.run_bind,aDL _ _ _ _ _ _ (by intro _ _ e; cases e) (by simp),Result.andThen_ok]
       have hsh:∀ {v},aCo op k a b=some v→(binOp op t (.int k a) (.int k' b)).run P w=.ok v w∧flat v=true:=fun h=>(aQK t h).2
       have hint:(op≠.shl∧op≠.shr)→(match decide (k=k') with | true=>uT op k a b | false=>none)=some v→(binOp op t (.int k a) (.int k' b)).run P w=.ok v w∧flat v=true:=by
         intro hne h
         by_cases hk:k=k'
         · subst hk; simp at h; exact aTd t h hne
         · simp[hk] at h
       cases op<;>first | exact hsh h | exact hint (by simp) h)
    | (rename_i a b
       rw[hx.of_string,hy.of_string,Sem.run_bind,aDL _ _ _ _ _ _ (by intro _ _ e; cases e) (by simp),Result.andThen_ok]
       exact aUc t h)
theorem aTB {op:UnOp}{x x' v:Value} (h:unV op x=some v) (hx:VR N φ x x'):(Op.unary op x').run P w=.ok v w∧flat v=true:=by
  cases op<;>cases x<;>simp[unV] at h<;>subst h
  · rw[hx.of_int]; refine⟨?_,rfl⟩; simp[Op.unary,Op.intArith,aM8]
  · rw[hx.of_bool]; refine⟨?_,rfl⟩; simp[Op.unary]
end
end V
end Go.Proofs.YtjndkdmkecpllaaGreat
noncomputable section
namespace Go.Proofs.YtjndkdmkecpllaaGreat
namespace V
section
variable {P:Program}{ro:Ro}{N:Nat}{φ:gF}{w0 w:World}{H:Nat→Option Obj}{h:T Obj}
theorem aAg {v:Value}{n:Nat} (h:nV v=some n):∃ k m,v=.int k m∧0≤m∧m.toNat=n:=by
  unfold nV at h
  cases v<;>simp at h
  rename_i k m
  by_cases hm:0≤m<;>simp[hm] at h
  exact⟨k,m,rfl,hm,h⟩
theorem aI7 {v v':Value}{n:Nat} (h:nV v=some n) (hv:VR N φ v v'):v'=v:=by
  obtain⟨k,m,rfl,_,_⟩:=aAg h
  exact hv.of_int
theorem oD {v:Value}{n y:Nat} (code:BoundsCode) (h:nV v=some n) (hy:n≤y):(Instr.sliceBound v y code).run P w=.ok n w:=by
  obtain⟨k,m,rfl,h0,rfl⟩:=aAg h
  simp only[Instr.sliceBound,asIntOf,Sem.run_bind,Sem.run_pure,Result.andThen_ok]
  rw[if_pos (by omega)]; rfl
inductive BR (o:Option Value) (d top:Nat) (n:Nat):Prop where
  | no (h:o=none) (hn:n=d)
  | yes (v:Value) (h:o=some v) (hv:nV v=some n) (hn:n≤top)
theorem yB {o:Option Value}{d top n:Nat} (h:mM o d top=some n):BR o d top n:=by
  unfold mM at h
  cases o with
  | none=>simp at h; exact .no rfl h.symm
  | some v =>
    simp only at h
    cases hv:nV v with
    | none=>rw[hv] at h; cases h
    | some k =>
      rw[hv] at h
      simp only[Option.bind] at h
      cases hb:Nat.ble k top with
      | false=>rw[hb] at h; cases h
      | true=>rw[hb] at h; cases h; exact .yes v rfl hv (Nat.le_of_ble_eq_true hb)
theorem aCZ {isS:Bool}{len cap l hh m:Nat}{lo hi mx:Option Value} (hm:BR mx cap cap m) (hx:(mx.isNone || hi.isSome)=true) (hh':BR hi len m hh) (hl:BR lo 0 hh l) :
    (Instr.sliceBounds isS len cap lo hi mx).run P w=.ok (l,hh,m) w:=by
  unfold Instr.sliceBounds
  rcases hm with ⟨rfl,rfl⟩ | ⟨vm,rfl,hmv,hmn⟩
  · rcases hh' with ⟨rfl,rfl⟩ | ⟨vh,rfl,hhv,hhn⟩<;>rcases hl with ⟨rfl,rfl⟩ | ⟨vl,rfl,hlv,hln⟩
    · simp
    · simp[oD _ hlv hln]
    · simp[oD _ hhv hhn]
    · simp[oD _ hlv hln,oD _ hhv hhn]
  · rcases hh' with ⟨rfl,rfl⟩ | ⟨vh,rfl,hhv,hhn⟩
    · simp at hx
    · rcases hl with ⟨rfl,rfl⟩ | ⟨vl,rfl,hlv,hln⟩
      · simp[oD _ hhv hhn,oD _ hmv hmn]
      · simp[oD _ hhv hhn,oD _ hmv hmn,oD _ hlv hln]
def aRw (o:Option Value):Prop:=∀ v,o=some v→∃ k n,v=Value.int k n
theorem BR.num {o:Option Value}{d top n:Nat} (h:BR o d top n):aRw o:=by
  intro v e
  rcases h with ⟨rfl,_⟩ | ⟨u,rfl,hv,_⟩
  · cases e
  · cases e
    obtain⟨k,m,rfl,_⟩:=aAg hv
    exact⟨k,m,rfl⟩
theorem aMX {t:TypeId}{x x' v:Value}{lo hi mx:Option Value} (hs:vW P t x lo hi mx=some v) (hx:VR N φ x x') :
    (∃ v',(Instr.sliceAt t x' lo hi mx).run P w=.ok v' w∧VR N φ v v')∧aRw lo∧aRw hi∧aRw mx:=by
  unfold vW at hs
  cases hu:gG P t with
  | none=>rw[hu] at hs; cases hs
  | some d =>
    rw[hu] at hs
    cases d<;>cases x<;>simp only at hs<;>try (cases hs; done)
    case string.string s0 =>
      cases mx with
      | some m=>cases hs
      | none =>
        simp only at hs
        cases hh:mM hi s0.size s0.size with
        | none=>rw[hh] at hs; cases hs
        | some hb =>
          rw[hh] at hs
          simp only[Option.bind] at hs
          cases hl:mM lo 0 hb with
          | none=>rw[hl] at hs; cases hs
          | some lb =>
            rw[hl] at hs; cases hs
            have b1:=yB hh
            have b2:=yB hl
            refine⟨?_,b2.num,b1.num,by intro v e; cases e⟩
            rw[hx.of_string]
            refine⟨_,?_,.flat rfl⟩
            unfold Instr.sliceAt Instr.slice
            have hbr:(Instr.sliceBounds false s0.size s0.size lo hi none).run P w=.ok (lb,hb,s0.size) w:=aCZ (.no rfl rfl) (by simp) b1 b2
            simp[b8 hu,hbr]
    case slice.slice e a len cap =>
      cases hz:pD P e with
      | none=>rw[hz] at hs; cases hs
      | some z =>
        rw[hz] at hs
        simp only[Option.bind] at hs
        cases hm:mM mx cap cap with
        | none=>rw[hm] at hs; cases hs
        | some m =>
          rw[hm] at hs
          simp only at hs
          cases hh:mM hi len m with
          | none=>rw[hh] at hs; cases hs
          | some hb =>
            rw[hh] at hs
            simp only at hs
            cases hl:mM lo 0 hb with
            | none=>rw[hl] at hs; cases hs
            | some l =>
              rw[hl] at hs
              simp only at hs
              cases h1:Nat.ble hb m with
              | false=>rw[h1] at hs; cases hs
              | true =>
                cases hmx:(mx.isNone || hi.isSome) with
                | false=>rw[h1,hmx] at hs; cases hs
                | true =>
                  rw[h1,hmx] at hs
                  simp only at hs
                  have hbm:=Nat.le_of_ble_eq_true h1
                  have b0:=yB hm
                  have b1:=yB hh
                  have b2:=yB hl
                  have hlh:l≤hb:=by rcases b2 with ⟨_,rfl⟩ | ⟨_,_,_,h⟩<;>omega
                  refine⟨?_,b2.num,b1.num,b0.num⟩
                  cases a with
                  | none =>
                    simp only at hs; cases hs
                    rw[hx.of_nilSlice]
                    refine⟨_,?_,.flat rfl⟩
                    unfold Instr.sliceAt Instr.slice
                    have hbr:(Instr.sliceBounds true len cap lo hi mx).run P w=.ok (l,hb,m) w:=aCZ b0 hmx b1 b2
                    simp[b8 hu,hbr,lY hz]
                  | some b =>
                    simp only at hs
                    obtain⟨b',c',rfl,hsr⟩:=hx.of_slice
                    have hcc:cap≤c':=by
                      rcases hsr with hsr | ⟨_,rfl,rfl,_⟩
                      · cases hsr with
                        | ro _ _=>exact Nat.le_refl _
                        | own _ _ h _=>exact h
                      · exact Nat.le_refl _
                    have hm':∃ m',BR mx c' c' m'∧m≤m'∧m'≤c'∧(mx≠none→m'=m)∧(mx=none→m'=c'∧m=cap):=by
                      rcases b0 with ⟨rfl,rfl⟩ | ⟨vm,rfl,hmv,hmn⟩
                      · exact⟨c',.no rfl rfl,hcc,Nat.le_refl _,by simp,fun _=>⟨rfl,rfl⟩⟩
                      · exact⟨m,.yes vm rfl hmv (by omega),Nat.le_refl _,by omega,fun _=>rfl,by simp⟩
                    obtain⟨m',q1,q2,q3,q4,q5⟩:=hm'
                    have b1':BR hi len m' hb:=by
                      rcases b1 with ⟨rfl,rfl⟩ | ⟨vh,rfl,hv,hn⟩
                      · exact .no rfl rfl
                      · exact .yes vh rfl hv (by omega)
                    have hbr:(Instr.sliceBounds true len c' lo hi mx).run P w=.ok (l,hb,m') w:=aCZ q1 hmx b1' b2
                    have hrun:(Instr.sliceAt t (.slice (some b') len c') lo hi mx).run P w=.ok (.slice (if m'=l then some b' else (some b').map (·.add (l*z))) (hb - l) (m' - l)) w:=by
                      unfold Instr.sliceAt Instr.slice
                      simp[b8 hu,hbr,lY hz]
                    refine⟨_,hrun,?_⟩
                    rcases hsr with hsr | ⟨rfl,rfl,rfl,hsr⟩
                    · cases hsr with
                      | ro hs0 hb0 =>
                        rw[hs0] at hs
                        simp only at hs
                        have hmm:m'=m:=by
                          by_cases e:mx=none
                          · have:=q5 e; omega
                          · exact q4 e
                        subst hmm
                        cases hq:Nat.beq m' l with
                        | true =>
                          rw[hq] at hs; cases hs
                          rw[if_pos (Nat.eq_of_beq_eq_true hq)]
                          exact .sliceRo hs0 hb0
                        | false =>
                          rw[hq] at hs; cases hs
                          have hne:m'≠l:=by intro e; rw[e] at hq; simp at hq
                          rw[if_neg hne]
                          have he:b.add (l*z)=fwd b (l*z):=by rw[uB hs0]; unfold fwd; rw[hs0]
                          show VR N φ _ (.slice (some (b.add (l*z))) _ _)
                          rw[he]
                          exact .sliceRo hs0 hb0
                      | own hφ hs0 hc hr =>
                        rename_i z0 B o r
                        rw[hs0] at hs
                        simp only at hs
                        cases hq:Nat.beq z z0 with
                        | false=>rw[hq] at hs; cases hs
                        | true =>
                          rw[hq] at hs; cases hs
                          have e:=Nat.eq_of_beq_eq_true hq
                          subst e
                          by_cases hml:m'=l
                          · rw[if_pos hml]
                            have e1:m - l=0:=by omega
                            have e2:m' - l=0:=by omega
                            have e3:hb - l=0:=by omega
                            rw[e1,e2,e3]
                            exact .sliceEnd (a:=fwd b (l*z)) hφ hs0
                          · rw[if_neg hml]
                            show VR N φ _ (.slice (some (Addr.add ⟨B,o+b.off,none⟩ (l*z))) _ _)
                            rw[Addr.add_lit,Nat.add_assoc]
                            refine .sliceOwn (a:=fwd b (l*z)) hφ hs0 (by omega) ?_
                            have:l*z+(m' - l)*z=m'*z:=by rw[← Nat.add_mul]; congr 1; omega
                            have:m'*z≤c'*z:=Nat.mul_le_mul_right _ q3
                            show b.off+l*z+(m' - l)*z≤r
                            omega
                    · have e1:m'=0:=by omega
                      have e2:m=0:=by omega
                      have e3:hb=0:=by omega
                      have e4:l=0:=by omega
                      subst e1 e2 e3 e4
                      rcases hsr with hs0 | ⟨z0,B,o,r,hs0,hφ,hb0,hB⟩
                      · rw[hs0] at hs
                        simp only at hs
                        cases hs
                        exact .sliceNo hs0
                      rw[hs0] at hs
                      simp only at hs
                      cases hq:Nat.beq z z0 with
                      | false=>rw[hq] at hs; cases hs
                      | true =>
                        rw[hq] at hs; cases hs
                        obtain⟨bb,bo,bs⟩:=b'
                        change bs=none at hb0; change bb=B at hB; subst hb0 hB
                        exact .sliceEnd (a:=fwd b (0*z)) hφ hs0
theorem aF1 {t:TypeId}{x x' i i' v:Value} (hs:pM P t x i=some v) (hx:VR N φ x x') (hi:VR N φ i i') :
    ∃ v',(Instr.indexAt t x' i').run P w=.ok v' w∧VR N φ v v':=by
  unfold pM at hs
  cases hn:nV i with
  | none=>rw[hn] at hs; cases hs
  | some n =>
    rw[hn] at hs
    rw[aI7 hn hi]
    obtain⟨k,m,rfl,h0,rfl⟩:=aAg hn
    simp only[Option.bind] at hs
    cases hu:gG P t with
    | none=>rw[hu] at hs; cases hs
    | some d =>
      rw[hu] at hs
      cases d<;>cases x<;>(try simp only at hs)<;>try (cases hs; done)
      case array.pointer l e a =>
        cases a with
        | none=>cases hs
        | some a =>
          dsimp only at hs
          cases hz:pD P e with
          | none=>rw[hz] at hs; cases hs
          | some z =>
            rw[hz] at hs
            simp only at hs
            cases hb:Nat.blt m.toNat l with
            | false=>rw[hb] at hs; cases hs
            | true =>
              rw[hb] at hs; cases hs
              have hlt:m.toNat < l:=by have:=hb; simp[Nat.blt] at this; omega
              obtain⟨b,rfl,ha⟩:=hx.of_ptr
              refine⟨_,?_,(ha.fwd (m.toNat*z)).ptr⟩
              have hc:0≤m∧m < (l:Int):=⟨h0,by omega⟩
              simp[Instr.indexAt,asIntOf,b8 hu,Instr.sureAddr,hc,lY hz]
      case slice.slice e a len cap =>
        cases a with
        | none=>cases hs
        | some a =>
          dsimp only at hs
          cases hz:pD P e with
          | none=>rw[hz] at hs; cases hs
          | some z =>
            rw[hz] at hs
            simp only at hs
            cases hb:Nat.blt m.toNat len with
            | false=>rw[hb] at hs; cases hs
            | true =>
              rw[hb] at hs
              simp only at hs
              have hlt:m.toNat < len:=by have:=hb; simp[Nat.blt] at this; omega
              obtain⟨b,c',rfl,hsr⟩:=hx.of_slice
              have hc:0≤m∧m < (len:Int):=⟨h0,by omega⟩
              have hrun:(Instr.indexAt t (.slice (some b) len c') (.int k m)).run P w=.ok (.pointer (some (b.add (m.toNat*z)))) w:=by
                simp[Instr.indexAt,asIntOf,b8 hu,Instr.sureAddr,hc,lY hz]
              refine⟨_,hrun,?_⟩
              rcases hsr with hsr | ⟨e0,_⟩
              · cases hsr with
                | ro hs0 hb0 =>
                  rw[hs0] at hs; cases hs
                  exact (AR.fwd (.inl ⟨hs0,hb0,rfl⟩) _).ptr
                | own hφ hs0 hcc hr =>
                  rename_i z0 B o r
                  rw[hs0] at hs
                  simp only at hs
                  cases hq:Nat.beq z z0 with
                  | false=>rw[hq] at hs; cases hs
                  | true =>
                    rw[hq] at hs; cases hs
                    rw[Addr.add_lit,Nat.add_assoc]
                    exact .ptrOwn (a:=elt a (m.toNat*z)) (z:=0) hφ (by simp[elt,hs0])
              · omega
theorem aGj {t:TypeId}{xs ys:Array Value}{off:Nat}{v:Value} (hp:aBw P t xs off=some v) (hl:LR N φ xs.toList ys.toList) :
    ∃ v',(part t ys off).run P w=.ok v' w∧VR N φ v v':=by
  unfold aBw at hp
  cases hg:isAgg P t with
  | none=>rw[hg] at hp; cases hp
  | some g =>
    rw[hg] at hp
    cases g with
    | true =>
      simp only at hp
      cases hs:pD P t with
      | none=>rw[hs] at hp; cases hp
      | some n =>
        rw[hs] at hp
        simp only[Option.bind] at hp
        cases hb:Nat.ble (off+n) xs.size with
        | false=>rw[hb] at hp; cases hp
        | true =>
          rw[hb] at hp; cases hp
          refine⟨.agg (ys.extract off (off+n)),?_,VR.aggL ?_⟩
          · unfold part; simp[aBb hg,lY hs]
          · have e:(ys.extract off (off+n)).toList=(ys.toList.drop off).take n:=by simp[List.extract_eq_take_drop]
            rw[e]
            exact (hl.drop off).take n
    | false =>
      simp only at hp
      obtain⟨y,hy,hv⟩:=hl.some (by simpa using hp:xs.toList[off]?=some v)
      refine⟨y,?_,hv⟩
      have:ys[off]?=some y:=by simpa using hy
      unfold part; simp[aBb hg,this]
theorem aOq (s:ByteArray) (n:Nat):s[n]?=s.data.toList[n]?:=by
  obtain⟨⟨l⟩⟩:=s
  show (if h:n < (ByteArray.mk ⟨l⟩).size then some (ByteArray.mk ⟨l⟩)[n] else none)=l[n]?
  by_cases h:n < l.length
  · rw[dif_pos (show n < (ByteArray.mk ⟨l⟩).size from h),List.getElem?_eq_getElem h]; rfl
  · rw[dif_neg (show ¬ n < (ByteArray.mk ⟨l⟩).size from h),List.getElem?_eq_none (by omega)]
theorem aLB {t:TypeId}{x x' i i' v:Value} (hs:aAe P t x i=some v) (hx:VR N φ x x') (hi:VR N φ i i') :
    ∃ v',(Instr.index t x' i').run P w=.ok v' w∧VR N φ v v':=by
  unfold aAe at hs
  cases hn:nV i with
  | none=>rw[hn] at hs; cases hs
  | some n =>
    rw[hn] at hs
    rw[aI7 hn hi]
    obtain⟨k,m,rfl,h0,rfl⟩:=aAg hn
    simp only[Option.bind] at hs
    cases hu:gG P t with
    | none=>rw[hu] at hs; cases hs
    | some d =>
      rw[hu] at hs
      cases d<;>cases x<;>simp only at hs<;>try (cases hs; done)
      case array.agg l e xs =>
        cases hz:pD P e with
        | none=>rw[hz] at hs; cases hs
        | some z =>
          rw[hz] at hs
          simp only at hs
          cases hb:Nat.blt m.toNat l with
          | false=>rw[hb] at hs; cases hs
          | true =>
            rw[hb] at hs
            simp only at hs
            have hlt:m.toNat < l:=by have:=hb; simp[Nat.blt] at this; omega
            obtain⟨ys,rfl,hl⟩:=hx.of_agg
            obtain⟨v',hv',hr⟩:=aGj (w:=w) hs hl
            refine⟨v',?_,hr⟩
            have hc:0≤m∧m < (l:Int):=⟨h0,by omega⟩
            simp[Instr.index,asIntOf,b8 hu,hc,lY hz,hv']
      case string.string s0 =>
        cases hb:s0.data.toList[m.toNat]? with
        | none=>rw[hb] at hs; cases hs
        | some b =>
          rw[hb] at hs; cases hs
          rw[hx.of_string]
          refine⟨_,?_,.flat rfl⟩
          have e:s0[m.toNat]?=some b:=by rw[aOq]; exact hb
          simp[Instr.index,asIntOf,b8 hu,h0,e]
end
end V
end Go.Proofs.YtjndkdmkecpllaaGreat
noncomputable section
namespace Go.Proofs.YtjndkdmkecpllaaGreat
namespace V
section
variable {P:Program}{ro:Ro}{N:Nat}{φ:gF}{w0 w:World}{H:Nat→Option Obj}{h:T Obj}
theorem aGS (f:Int→UInt8):∀ (ns:List Int) (r:ByteArray),ns.foldl (fun r n=>r.push (f n)) r=⟨r.data++(ns.map f).toArray⟩:=by
  intro ns
  induction ns with
  | nil=>intro r; simp
  | cons n ns ih=>intro r; rw[List.foldl_cons,ih]; simp[ByteArray.push]
theorem aK8:∀ {l:List Value}{bs:List UInt8},aC0 l=some bs→∃ ns:List Int,l=ns.map (Value.int .u8)∧bs=ns.map (fun n=>UInt8.ofNat n.toNat):=by
  intro l
  induction l with
  | nil=>intro bs h; simp[aC0] at h; subst h; exact⟨[],rfl,rfl⟩
  | cons x l ih =>
    intro bs h
    unfold aC0 at h
    split at h
    · rename_i heq; cases heq
    · rename_i n r heq
      cases heq
      cases hr:aC0 l with
      | none=>rw[hr] at h; cases h
      | some bs' =>
        rw[hr] at h; cases h
        obtain⟨ns,rfl,rfl⟩:=ih hr
        exact⟨n::ns,rfl,rfl⟩
    · cases h
theorem LR.flat_eq {xs ys:List Value} (h:LR N φ xs ys) (hf:∀ x∈xs,V.flat x=true):ys=xs:=by
  induction h with
  | nil=>rfl
  | cons hv _ ih=>rw[hv.of_flat (hf _ (by simp)),ih fun x hx=>hf x (by simp[hx])]
theorem VR.of_sliceP {a:Addr}{l c:Nat}{v:Value} (h:VR N φ (.slice (some a) l c) v):∃ b c',v=.slice (some b) l c'∧(AR N φ a b∨l=0):=by
  obtain⟨b,c',rfl,hs⟩:=h.of_slice
  refine⟨b,c',rfl,?_⟩
  rcases hs with hs | ⟨hs,_⟩
  · cases hs with
    | ro h1 h2=>exact .inl (.inl ⟨h1,h2,rfl⟩)
    | own h1 h2 _ _=>exact .inl (.inr ⟨_,_,_,_,h2,h1,rfl⟩)
  · exact .inr hs
theorem Sim.sliceCells (hS:Sim ro N φ w0 H w) (hsub:∀ k o,h.get k=some o→H k=some o) {a:Addr}{l c z:Nat}{v:Value} (hv:VR N φ (.slice (some a) l c) v) {cs:List Value} (hc:V.cellsAt ro h a (l*z)=some cs) :
    ∃ b c' cs',v=.slice (some b) l c'∧LR N φ cs cs'∧cs.length=l*z∧∀ j u,cs'[j]?=some u→w.cell? (b.add j)=some u:=by
  obtain⟨b,c',rfl,h1⟩:=hv.of_sliceP
  rcases h1 with h1 | h1
  · obtain⟨cs',g1,g2,g3⟩:=hS.cellsAt hsub h1 hc
    exact⟨b,c',cs',rfl,g1,g2,g3⟩
  · subst h1
    rw[Nat.zero_mul] at hc
    have:cs=[]:=by
      unfold V.cellsAt at hc
      split at hc
      · simp[V.roCells] at hc; exact hc
      · split at hc
        · split at hc
          · simp at hc; exact hc
          · cases hc
        · cases hc
    subst this
    exact⟨b,c',[],rfl,.nil,by simp,fun j u hj=>by simp at hj⟩
theorem aMq (hS:Sim ro N φ w0 H w) (hsub:∀ k o,h.get k=some o→H k=some o) {aid:Nat}{src dst:TypeId}{x x' v:Value}{ob:Option Obj} (hc:aEp P ro h aid src dst x=some (v,ob)) (hx:VR N φ x x') :
    oT N φ aid w v ob ((convert src dst x').run P w):=by
  unfold aEp at hc
  cases hs:gG P src with
  | none=>rw[hs] at hc; cases hc
  | some ds =>
    cases hd:gG P dst with
    | none=>rw[hs,hd] at hc; cases ds<;>cases hc
    | some dd =>
      rw[hs,hd] at hc
      cases ds<;>cases dd<;>(try (cases hc; done))<;>cases x<;>(try simp only at hc)<;>(try (cases hc; done))
      case int.int.int k1 k2 k n =>
        cases hc
        rw[hx.of_int]
        refine oT.value (v':=.int k2 (wr k2 n)) ?_ (.flat rfl)
        simp[convert,b8 hs,b8 hd,Conv.intToInt,aM8]
      case string.string.string s0 =>
        cases hc
        rw[hx.of_string]
        refine oT.value (v':=.string s0) ?_ (.flat rfl)
        simp[convert,b8 hs,b8 hd]
      case string.slice.string e s0 =>
        cases he:gG P e with
        | none=>rw[he] at hc; cases hc
        | some de =>
          rw[he] at hc
          cases hb:Nat.ble s0.size oB with
          | false=>rw[hb] at hc; cases de<;>(try cases hc) ; rename_i k; cases k<;>cases hc
          | true =>
            rw[hb] at hc
            cases hz:pD P e with
            | none=>rw[hz] at hc; cases de<;>(try cases hc) ; rename_i k; cases k<;>cases hc
            | some z =>
              rw[hz] at hc
              have hde:de=.int .u8∧z=1:=by
                cases de<;>(try cases hc)
                rename_i k
                cases k<;>(try cases hc)
                match z,hc with
                | 1,_=>exact⟨rfl,rfl⟩
              obtain⟨rfl,rfl⟩:=hde
              simp only at hc
              cases hc
              rw[hx.of_string]
              have hrun:=run_bytes_of_string (P:=P) w src dst e s0 (gB hs) (gB hd) (gB he)
              have hsz:(bytesRow s0 (grownCap w s0.size 0 e)).size=grownCap w s0.size 0 e:=by
                have h1:=grownCap_ge w s0.size 0 e
                have h2:s0.data.size=s0.size:=rfl
                simp[bytesRow]; omega
              refine⟨_,_,hrun,_,(bytesRow s0 (grownCap w s0.size 0 e)).size,rfl,rfl,rfl,rfl,fun _ ψ hle hψ=>⟨?_,?_⟩⟩
              · refine .sliceOwn (a:=own aid 1) hψ rfl (grownCap_ge w s0.size 0 e) ?_
                simp[own,hsz]
              · refine⟨by simp,?_,fun i x hi=>?_,.inr (Nat.le_refl _)⟩
                · have h1:=grownCap_ge w s0.size 0 e
                  have h2:s0.data.size=s0.size:=rfl
                  simp[hsz]; omega
                · refine⟨x,?_,?_⟩
                  · have hlt:i < s0.data.size:=by have:=(Array.getElem?_eq_some_iff.1 hi).1; simpa using this
                    simp at hi
                    have hlt':i < s0.size:=hlt
                    simp[bytesRow,Array.getElem?_append,hlt']
                    obtain⟨b,hb1,hb2⟩:=hi
                    rw[Array.getElem?_eq_getElem hlt] at hb1
                    cases hb1; exact hb2
                  · simp at hi
                    obtain⟨b,_,rfl⟩:=hi
                    exact .flat rfl
      case slice.string.slice e a l c =>
        cases he:gG P e with
        | none=>rw[he] at hc; cases hc
        | some de =>
          rw[he] at hc
          have hde:de=.int .u8:=by
            cases de<;>(try cases hc)
            rename_i k
            cases k<;>(try cases hc)
            rfl
          subst hde
          cases a with
          | none =>
            cases hc
            rw[hx.of_nilSlice]
            refine oT.value (v':=.string .empty) ?_ (.flat rfl)
            rw[run_convert_bytes_string w src dst e none l c (gB hs) (gB he) (gB hd)]
            rfl
          | some a =>
            simp only at hc
            cases hcs:cellsAt ro h a l with
            | none=>rw[hcs] at hc; cases hc
            | some cs =>
              rw[hcs] at hc
              simp only[Option.bind] at hc
              cases hbs:aC0 cs with
              | none=>rw[hbs] at hc; cases hc
              | some bs =>
                rw[hbs] at hc; cases hc
                obtain⟨b,c',cs',rfl,g1,g2,g3⟩:=hS.sliceCells hsub (z:=1) hx (by rw[Nat.mul_one]; exact hcs)
                obtain⟨ns,rfl,rfl⟩:=aK8 hbs
                have e1:=g1.flat_eq (by intro x hx; simp at hx; obtain⟨n,_,rfl⟩:=hx; rfl)
                subst e1
                have hl:=run_loadCells_list (P:=P) w b _ g3
                rw[g2,Nat.mul_one] at hl
                refine oT.value ?_ (.flat rfl)
                rw[run_convert_bytes_string w src dst e (some b) l c' (gB hs) (gB he) (gB hd),run_bytesToString w b l c' ns hl,aGS]
                have he0:ByteArray.empty.data=#[]:=rfl
                rw[he0]; simp
theorem Sim.entries (hS:Sim ro N φ w0 H w) (hsub:∀ k o,h.get k=some o→H k=some o) {r B:Nat} (hφ:φ r=some (B,0,0)) {es:List MapEntry × Nat} (he:jY h r=some es) :
    ∃ ES,w.heap[B]?=some (.map ES es.2)∧ER N φ es.1 ES.toList:=by
  unfold jY at he
  cases hk:h.get r with
  | none=>rw[hk] at he; cases he
  | some o =>
    rw[hk] at he
    cases o<;>(try cases he)
    obtain⟨B',b,r',o',h1,h2,h3⟩:=hS.own r _ (hsub _ _ hk)
    rw[hφ] at h1; cases h1
    cases o'<;>simp only[OR] at h3
    obtain⟨_,_,rfl,h4⟩:=h3
    exact⟨_,h2,h4⟩
theorem aCb {kt:TypeId}{a b a' b':Value}{c:Bool} (h:aAG P kt a b=some c) (ha:VR N φ a a') (hb:VR N φ b b'):a'=a∧b'=b:=by
  unfold aAG at h
  split at h
  · rename_i xs ys
    obtain⟨xs',rfl,hx⟩:=ha.of_agg
    obtain⟨ys',rfl,hy⟩:=hb.of_agg
    obtain⟨rfl,rfl,_⟩:=aDu (P:=P) (w:=default) h hx hy
    exact⟨rfl,rfl⟩
  · split at h<;>first
      | (cases h; done)
      | (obtain⟨f1,f2⟩:=aEq h; exact⟨ha.of_flat f1,hb.of_flat f2⟩)
theorem aPX {kt:TypeId}{d:TypeDesc} (hu:gG P kt=some d) {a b:Value}{c:Bool} (h:aAG P kt a b=some c) (hd:(∃ k,d=.int k)∨d=.string∨d=.bool):Instr.sameNow d a b=some c:=by
  have hg:isAgg P kt=some false:=by unfold isAgg; rw[hu]; rcases hd with ⟨k,rfl⟩ | rfl | rfl<;>rfl
  unfold aAG at h
  split at h
  · rw[hg] at h; cases h
  · rw[hu] at h
    rcases hd with ⟨k,rfl⟩ | rfl | rfl
    · simp only at h
      cases a<;>cases b<;>simp[kK] at h
      rename_i k1 n1 k2 n2 _
      by_cases hk:k1=k2<;>simp[hk] at h
      subst h
      simp[Instr.sameNow,hk]; rfl
    · simp only at h
      cases a<;>cases b<;>simp[kK] at h
      rename_i s1 s2 _
      simp only[Instr.sameNow]
      rw[beq_toListBytes,ByteArray.toList_eq,ByteArray.toList_eq]; simp[h]
    · simp only at h
      cases a<;>cases b<;>simp[kK] at h
      simp[Instr.sameNow,h]
def FR (N:Nat) (φ:gF):Option (Nat × Value)→Option (Nat × Value)→Prop
  | none,none=>True
  | some x,some y=>x.1=y.1∧VR N φ x.2 y.2
  | _,_=>False
theorem aRE {kt:TypeId}{d:TypeDesc} (hu:gG P kt=some d) (hd:(∃ k,d=.int k)∨d=.string∨d=.bool) {k:Value} :
    ∀ {es ES:List MapEntry} (he:ER N φ es ES) (hk:VR N φ k k) (i:Nat) (r:Option (Nat × Value)),uN P kt k es i=some r →
      ∃ r',Instr.findNow d k ES i=some r'∧FR N φ r r':=by
  intro es ES he
  induction he with
  | nil=>intro hk i r h; simp[uN] at h; subst h; exact⟨none,rfl,trivial⟩
  | cons h1 h2 h3 _ ih =>
    rename_i e E es ES _
    intro hk i r h
    simp only[uN] at h
    cases hq:aAG P kt k e.key with
    | none=>rw[hq] at h; cases h
    | some c =>
      rw[hq] at h
      have e1:=aPX hu hq hd
      obtain⟨_,e2⟩:=aCb hq hk h1
      cases c with
      | true =>
        cases h
        refine⟨some (i,E.val),?_,rfl,h2⟩
        rw[← e2] at e1
        simp[Instr.findNow,e1]
      | false =>
        obtain⟨r',g1,g2⟩:=ih hk (i+1) r h
        refine⟨r',?_,g2⟩
        rw[← e2] at e1
        simp[Instr.findNow,e1,g1]
theorem aKu {kt:TypeId}{k:Value} (hu:∃ fs,gG P kt=some (.struct fs)) (hka:∃ xs,k=.agg xs) :
    ∀ {es ES:List MapEntry} (he:ER N φ es ES) (hk:VR N φ k k) (i:Nat) (r:Option (Nat × Value)),uN P kt k es i=some r →
      ∃ r',(Instr.findAsking kt k ES i).run P w=.ok r' w∧FR N φ r r':=by
  intro es ES he
  obtain⟨fs,hu⟩:=hu
  obtain⟨xs,rfl⟩:=hka
  induction he with
  | nil=>intro hk i r h; simp[uN] at h; subst h; exact⟨none,rfl,trivial⟩
  | cons h1 h2 h3 _ ih =>
    rename_i e E es ES _
    intro hk i r h
    simp only[uN] at h
    cases hq:aAG P kt (.agg xs) e.key with
    | none=>rw[hq] at h; cases h
    | some c =>
      rw[hq] at h
      obtain⟨_,e2⟩:=aCb hq hk h1
      have hrun:(Op.equal kt (.agg xs) E.key).run P w=.ok c w:=by
        rw[e2]
        unfold aAG at hq
        split at hq
        · rename_i xs' ys' e3 e4
          cases e3
          rw[e4]
          rw[e4] at h1
          obtain⟨ys2,e5,hy⟩:=h1.of_agg
          obtain⟨zs,e6,hx⟩:=hk.of_agg
          cases e6
          exact (aDu (w:=w) hq hx hy).2.2.1
        · rw[hu] at hq; cases hq
      cases c with
      | true =>
        cases h
        refine⟨some (i,E.val),?_,rfl,h2⟩
        simp[Instr.findAsking,hrun]
      | false =>
        obtain⟨r',g1,g2⟩:=ih hk (i+1) r h
        refine⟨r',?_,g2⟩
        simp[Instr.findAsking,hrun,g1]
theorem aPn {t:TypeId}{ks:List Nat}{fs:Array Field} (hu:gG P t=some (.struct fs)) (h:eE P 2 t=some ks) :
    ∀ f∈fs.toList,∃ d,gG P f.type=some d∧(d=.bool∨(∃ k,d=.int k)∨d=.string):=by
  obtain⟨_,hf⟩:=tQ hu h
  have key:∀ (l:List Field) (k:List Nat),l.foldl (gR P 1) (some k)=some ks→∀ f∈l,∃ d,gG P f.type=some d∧(d=.bool∨(∃ k,d=.int k)∨d=.string):=by
    intro l
    induction l with
    | nil=>intro k _ f hf; cases hf
    | cons f l il =>
      intro k hk g hg
      obtain⟨j,h1,_,_,h4,h5,h6⟩:=kZ hk
      rcases List.mem_cons.1 hg with rfl | hg
      · unfold eE at h1
        cases hd:gG P g.type with
        | none=>rw[hd] at h1; cases h1
        | some d =>
          rw[hd] at h1
          refine⟨d,rfl,?_⟩
          cases d<;>simp only at h1<;>first
            | exact .inl rfl
            | exact .inr (.inl ⟨_,rfl⟩)
            | exact .inr (.inr rfl)
            | (simp[eE] at h1; done)
            | (rename_i fs'
               cases hst:P.stoodInHeld g.type<;>rw[hst] at h1<;>simp only at h1<;>try (cases h1; done)
               cases hl:fs'.toList with
               | nil=>rw[hl] at h1; simp at h1; subst h1; simp at h5
               | cons f' fs'' =>
                 rw[hl] at h1
                 have h1':(f'::fs'').foldl (gR P 0) (some [])=some j:=h1
                 obtain⟨j',g1,_⟩:=kZ h1'
                 simp[eE] at g1)
      · exact il _ h6 g hg
  exact key _ _ hf
theorem tI {D:Nat}{t:TypeId}{d:TypeDesc} (em:Bool) (hu:gG P t=some d) (hd:d=.bool∨(∃ k,d=.int k)∨d=.string) (v:Value):(Instr.checkKey em (D+1) t v).run P w=.ok () w:=by
  unfold Instr.checkKey
  rw[Sem.run_bind,b8 hu,Result.andThen_ok]
  rcases hd with rfl | ⟨k,rfl⟩ | rfl<;>cases v<;>rfl
theorem aDz {kt:TypeId}{k:Value} (em:Bool) (h:aAH P kt k=true):(Instr.checkKey em 10000 kt k).run P w=.ok () w:=by
  unfold aAH at h
  split at h
  · rename_i d hu; exact tI em hu (.inr (.inl ⟨_,rfl⟩)) _
  · rename_i hu; exact tI em hu (.inr (.inr rfl)) _
  · rename_i hu; exact tI em hu (.inl rfl) _
  · rename_i xs fs hu
    cases hp:eE P 2 kt with
    | none=>rw[hp] at h; cases h
    | some ks =>
      rw[hp] at h
      simp only at h
      cases hc:dY ks xs.toList xs.toList with
      | none=>rw[hc] at h; cases h
      | some b =>
        have hl:=(iG hc).1
        have hall:=aPn hu hp
        obtain⟨_,hf⟩:=tQ hu hp
        unfold Instr.checkKey
        rw[Sem.run_bind,b8 hu,Result.andThen_ok]
        simp only
        rw[← Array.forIn_toList]
        have key:∀ (l:List Field) (k m:List Nat),l.foldl (gR P 1) (some k)=some (k++m)→k.length+m.length=xs.size→(∀ f∈l,∃ d,gG P f.type=some d∧(d=.bool∨(∃ k,d=.int k)∨d=.string)) →
            ((forIn l PUnit.unit fun f (_ : PUnit) => if f.name ≠ "_" then do
                let x ← part f.type xs f.offset
                Instr.checkKey em 9999 f.type x
                pure (ForInStep.yield PUnit.unit)
              else pure (ForInStep.yield PUnit.unit)):Sem PUnit).run P w=.ok PUnit.unit w:=by
          intro l
          induction l with
          | nil=>intro k m _ _ _; simp
          | cons f l il =>
            intro k m hk hx hall
            obtain⟨j,h1,h2,h3,h4,hj,h5⟩:=kZ hk
            obtain⟨m',hm⟩:=aBx h5
            have hm':m=j++m':=by rw[List.append_assoc] at hm; exact List.append_cancel_left hm
            subst hm'
            simp only[List.length_append] at hx
            obtain⟨d,hd,hdd⟩:=hall f (by simp)
            obtain⟨⟨g,hg⟩,hone⟩:=aId h1
            have hs':=aCp h4 hj
            have hpart:=aE8 (P:=P) (w:=w) hg hs' (cs:=xs) (off:=f.offset) (by omega) (by intro e; subst e; exact hone hg)
            rw[List.forIn_cons]
            have hne : f.name ≠ "_" := by simpa using h2
            have hrest:=il (k++j) m' (by rw[h5,List.append_assoc]) (by simp; omega) (fun g hg=>hall g (by simp[hg]))
            simp only[if_pos hne,Sem.run_bind,hpart,Result.andThen_ok,tI em hd hdd,Sem.run_pure]
            exact hrest
        rw[Sem.run_bind,key fs.toList [] ks (by simpa using hf) (by simpa using hl.symm) hall]; rfl
  · cases h
theorem aGZ {kt:TypeId}{k k':Value} (h:aAH P kt k=true) (hv:VR N φ k k'):k'=k∧VR N φ k k:=by
  unfold aAH at h
  split at h
  · exact⟨hv.of_int,.flat rfl⟩
  · exact⟨hv.of_string,.flat rfl⟩
  · exact⟨hv.of_bool,.flat rfl⟩
  · rename_i xs fs hu
    cases hp:eE P 2 kt with
    | none=>rw[hp] at h; cases h
    | some ks =>
      rw[hp] at h
      simp only at h
      cases hc:dY ks xs.toList xs.toList with
      | none=>rw[hc] at h; cases h
      | some b =>
        obtain⟨ys,rfl,hl⟩:=hv.of_agg
        obtain⟨e,_⟩:=aDF hc hl hl
        have e':ys=xs:=Array.ext' e
        subst e'
        exact⟨rfl,hv⟩
  · cases h
theorem aGQ {kt:TypeId}{k:Value}{es ES:List MapEntry} (hok:aAH P kt k=true) (hk:VR N φ k k) (he:ER N φ es ES) {r:Option (Nat × Value)} (h:uN P kt k es 0=some r) :
    ∃ r',(Instr.findKey kt k ES).run P w=.ok r' w∧FR N φ r r':=by
  unfold Instr.findKey
  have hok0:=hok
  unfold aAH at hok
  have scalar:∀ d,gG P kt=some d→((∃ k,d=.int k)∨d=.string∨d=.bool)→∃ r',(do match Instr.findNow (← underlying kt) k ES 0 with
      | some r=>pure r
      | none=>Instr.findAsking kt k ES:Sem (Option (Nat × Value))).run P w=.ok r' w∧FR N φ r r':=by
    intro d hu hd
    obtain⟨r',g1,g2⟩:=aRE hu hd he hk 0 r h
    exact⟨r',by rw[Sem.run_bind,b8 hu,Result.andThen_ok,g1]; rfl,g2⟩
  split at hok
  · rename_i hu; exact scalar _ hu (.inl ⟨_,rfl⟩)
  · rename_i hu; exact scalar _ hu (.inr (.inl rfl))
  · rename_i hu; exact scalar _ hu (.inr (.inr rfl))
  · rename_i xs fs hu
    obtain⟨r',g1,g2⟩:=aKu (w:=w) ⟨fs,hu⟩ ⟨xs,rfl⟩ he hk 0 r h
    cases he with
    | nil =>
      simp[uN] at h; subst h
      refine⟨none,?_,trivial⟩
      rw[Sem.run_bind,b8 hu,Result.andThen_ok]; rfl
    | cons h1 h2 h3 ht =>
      refine⟨r',?_,g2⟩
      rw[Sem.run_bind,b8 hu,Result.andThen_ok]
      exact g1
  · cases hok
end
end V
end Go.Proofs.YtjndkdmkecpllaaGreat