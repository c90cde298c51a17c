/- Texts laid one behind the other: XB, XF, XS, XQ, XK, GE, XR, XA, SA, SB, XC, XD.
   No condition. -/
import Derived.Test.YtcaccnneblghgaaGreatRows
import Derived.OpenShut
import Derived.ChangeMaps5
import Derived.KernelRfl
import Derived.Test.YtcaccnneblghgaaGreatQ53
set_option linter.unusedVariables false
set_option linter.unusedSimpArgs false
namespace Go.Proofs.YtcaccnneblghgaaGreat
namespace V
attribute [local irreducible] aB ifP aR cT eQ exP cO
def oT (m i:Nat):Nat:=m / 2 ^ (64*i) % 2 ^ 64
theorem aK8 (m i:Nat):oT m i < 18446744073709551616:=by unfold oT; exact Nat.mod_lt _ (by decide)
theorem oR (m i j:Nat):(oT m i).testBit j=(decide (j < 64)&&m.testBit (64*i+j)):=by
 unfold oT
 rw[Nat.testBit_mod_two_pow,Nat.testBit_div_two_pow,Nat.add_comm]
theorem aN1 (m b:Nat):(oT m (b / 64) / 2 ^ (b % 64) % 2=1) ↔ m.testBit b=true:=by
 have h:=oR m (b / 64) (b % 64)
 rw[Nat.testBit_eq_decide_div_mod_eq] at h
 have h1:b % 64 < 64:=Nat.mod_lt _ (by decide)
 rw[Nat.div_add_mod] at h
 simp only[h1,decide_true,Bool.true_and] at h
 rw[← h]; simp
section
variable {α β:Type} [DecidableEq α] [DecidableEq β]
def aQT (s:List α) (p:α):List α:=if p∈s then s else s++[p]
def dd (l:List α):List α:=l.foldl aQT []
def pos (s:List α) (p:α):Nat:=s.idxOf p
def ix (l:List α) (p:α):Nat:=pos (dd l) p
end
@[irreducible] def bs:List Nat:=List.range 256
def sig (l:List Nat) (b:Nat):List Bool:=l.map fun s=>s.testBit b
def aRA (l:List Nat):List (List Bool):=bs.map (sig l)
def many (l:List Nat):Nat:=(dd (aRA l)).length
def mY (m:Nat):List Value:=[.int .u64 (oT m 0),.int .u64 (oT m 1),.int .u64 (oT m 2),.int .u64 (oT m 3)]
def aB4 (m:Nat):Value:=.agg #[.int .u64 (oT m 0),.int .u64 (oT m 1),.int .u64 (oT m 2),.int .u64 (oT m 3)]
theorem gN (m:Nat):Value.cells (aB4 m)=(mY m).toArray:=rfl
theorem aIi {m i:Nat} (hi:i < 4):(mY m)[i]?=some (.int .u64 (oT m i)):=by
 match i,hi with
 | 0,_=>rfl
 | 1,_=>rfl
 | 2,_=>rfl
 | 3,_=>rfl
theorem aJw {q:Nat} (h:q < 18446744073709551616):(q:Int)≤18446744073709551615:=by omega
theorem aC1 {ro:Ro}{m b:Nat} (hb:b < 256) {h:T Obj}{nx:Nat}{K:KV} (hf:Fr h nx) (hK:∀ nx',nx≤nx'→K (.bool (m.testBit b)) h nx'):aN Tryz.prog ro tM [aB4 m,.int .u8 b] h nx K:=by
 apply aGn
 unfold aFq
 have h1:((b:Int) / 64).toNat=b / 64:=by omega
 have h2:((b:Int) % 64).toNat=b % 64:=by omega
 have h3:=aK8 m (b / 64)
 have h4:b / 64 < 4:=by omega
 have h5:=aIi (m:=m) h4
 have h6:oT m (b / 64) / 2 ^ (b % 64)≤oT m (b / 64):=Nat.div_le_self _ _
 have h7:((oT m (b / 64) / 2 ^ (b % 64):Nat):Int)≤18446744073709551615:=aJw (Nat.lt_of_le_of_lt h6 h3)
 simp (disch:=first | omega | exact Int.natCast_nonneg _ | assumption) only [eO,gN,bW,dV,dW,bQ,aT,i6,fR,fU,dY,cP,T.get_upd_same,bG,Option.bind,h1,h2,Nat.zero_add,Nat.mul_one,h5]
 refine⟨h,(Sub.refl h).new hf (Nat.le_refl _),?_⟩
 have e:(decide ((((oT m (b / 64) / 2 ^ (b % 64):Nat):Int) % 2)=1))=m.testBit b:=by
  have h9:=aN1 m b
  cases hm:m.testBit b with
  | true=>rw[hm] at h9; have:=h9.2 rfl; apply decide_eq_true; omega
  | false =>
   rw[hm] at h9
   have:¬ (oT m (b / 64) / 2 ^ (b % 64) % 2=1):=fun e=>by have:=h9.1 e; cases this
   apply decide_eq_false; omega
 rw[e]
 exact hK _ (by omega)
structure PosD where
 s:Nat
 lo:Int
 hi:Int
 rule:Int
 last:Bool
 next:List Int
structure GlD where
 first:List Int
 p:List PosD
def rz (last many:Int):List Int→Bool
 | []=>true
 | x::r=>decide (last < x)&&(decide (x < many)&&rz x many r)
def aQA:PosD:=⟨0,0,0,0,false,[]⟩
def GlD.at (g:GlD) (i:Int):PosD:=g.p.getD i.toNat aQA
theorem aDK (a m x:Int) (r:List Int):rz a m (x::r)=(decide (a < x)&&(decide (x < m)&&rz x m r)):=rfl
theorem aJe:∀ {l:List Int}{a m:Int},rz a m l=true→∀ x∈l,a < x∧x < m
 | [],a,m,h,x,hx=>by cases hx
 | y::r,a,m,h,x,hx=>by
  simp only[rz,Bool.and_eq_true,decide_eq_true_eq] at h
  rcases List.mem_cons.1 hx with rfl | hx
  ·exact⟨h.1,h.2.1⟩
  ·have:=aJe h.2.2 x hx; omega
def aQy (p:PosD) (nv:Value):List Value:=mY p.s++[.int .i64 p.lo,.int .i64 p.hi,.int .i64 p.rule,.bool p.last,nv]
def aLf (ro:Ro) (h:T Obj) (x:List Value) (p:PosD):Prop:=∃ nv,x=aQy p nv∧ZI ro h nv p.next∧p.s < 2 ^ 256
theorem aLf.sub {ro:Ro}{h h':T Obj} (hs:Sub h h'):∀ x d,aLf ro h x d→aLf ro h' x d:=fun x d ⟨nv,h1,h2,h3⟩=>⟨nv,h1,h2.sub hs,h3⟩
def RG (ro:Ro) (h:T Obj) (v:Value) (g:GlD):Prop:=∃ a b,v=.agg #[a,b]∧ZI ro h a g.first∧SlR ro h b 9 (aLf ro h) g.p
theorem RG.sub {ro:Ro}{h h':T Obj}{v:Value}{g:GlD} (hs:Sub h h') (hg:RG ro h v g):RG ro h' v g:=by
 obtain⟨a,b,h1,h2,h3⟩:=hg
 exact⟨a,b,h1,h2.sub hs,h3.sub hs (aLf.sub hs)⟩
def oY {D:Type} (q:D→Bool) (k:Int):List D→Int
 | []=>-1
 | x::r=>if q x then k else oY q (k+1) r
theorem nF {D:Type} (q:D→Bool) (k:Int) (x:D) (r:List D):oY q k (x::r)=if q x then k else oY q (k+1) r:=rfl
theorem zC {D:Type} (q:D→Bool):∀ (l:List D) (k:Int),0≤k→decide (0≤oY q k l)=l.any q
 | [],k,hk=>rfl
 | x::r,k,hk=>by
  rw[nF,List.any_cons]
  by_cases h:q x=true
  ·rw[if_pos h,h]; simp[hk]
  ·rw[if_neg h,zC q r (k+1) (by omega)]; simp[h]
theorem aGB {D:Type} (q:D→Bool) (l:List D):(!(l.any fun x=>!q x))=l.all q:=by
 induction l with
 | nil=>rfl
 | cons x r ih=>rw[List.any_cons,List.all_cons,Bool.not_or,ih,Bool.not_not]
def u8s (l:List Nat):List Value:=l.map fun b:Nat=>Value.int .u8 (b:Int)
theorem zJ (l:List Nat):(u8s l).length=l.length:=by simp[u8s]
def fG (c:List Nat) (n:Int):List Value:=u8s c++[.int .i64 n]
def mS (c:List Nat) (n:Int):Value:=.agg (fG c n).toArray
theorem mJ (c:List Nat) (n:Int):(mS c n).cells=(fG c n).toArray:=rfl
theorem eK {c:List Nat}{n:Int} (hc:c.length=256):(fG c n).length=257:=by simp[fG,zJ,hc]
theorem aJk (c:List Nat) (n:Int):(fG c n).all cU=true:=by simp[fG,u8s,cU]
theorem yX {c:List Nat}{n:Int}{i:Nat} (hi:i < c.length):(fG c n)[i]?=some (.int .u8 (c[i]:Nat)):=by
 unfold fG
 rw[List.getElem?_append_left (by rw[zJ]; exact hi)]
 simp[u8s,hi]
theorem rL {c:List Nat}{n:Int} (hc:c.length=256):(fG c n)[256]?=some (.int .i64 n):=by
 unfold fG
 rw[List.getElem?_append_right (by rw[zJ]; omega)]
 simp[zJ,hc]
theorem aMc {ro:Ro}{h:T Obj}{id z n:Nat}{c:List Nat}{m:Int}{e:TypeId}{f:Nat × Nat} (hg:h.get id=some (.cells (fG c m).toArray e f)) (hc:c.length=256):loadA ro h 256 (at_ id 0 z)=some (.agg (u8s c).toArray):=by
 rw[cD,hg,bG]
 simp only[Option.bind_some,tl]
 rw[if_pos (by rw[eK hc]; omega),List.drop_zero]
 unfold fG
 rw[List.take_append_of_le_length (by rw[zJ]; omega),List.take_of_length_le (by rw[zJ]; omega)]
theorem aMY {c:List Nat}{i:Nat} (k:IntKind) (hi:i < c.length) (hc:c.length=256):aNp 256 1 (.agg (u8s c).toArray) (.int k (i:Int))=some (.int .u8 (c[i]:Nat)):=by
 have hn:mH (.int k (i:Int))=some i:=by simp[mH]
 have hb:Nat.blt i 256=true:=by simp[Nat.blt]; omega
 unfold aNp
 rw[hn]
 simp only[Option.bind_some,asAgg,hb,Nat.mul_one,List.getElem?_toArray]
 simp[u8s,hi]
def rt (c:List Nat):Nat→Option Nat
 | 0=>some 0
 | i+1=>(rt c i).bind fun m=>if m < c.getD i 0 then none else if c.getD i 0=m then some (m+1) else some m
def oM (c:List Nat) (n:Int):Bool:=match rt c 256 with
 | some m=>decide ((m:Int)=n)
 | none=>false
theorem aK1 {c:List Nat}:∀ {i m:Nat},rt c i=some m→m≤i
 | 0,m,h=>by cases h; exact Nat.le_refl _
 | i+1,m,h=>by
  obtain⟨m0,h1,h2⟩:=aM h
  have:=aK1 h1
  split at h2
  ·cases h2
  ·split at h2<;>cases h2<;>omega
theorem aK2 {c:List Nat}{i:Nat} (h:rt c i=none):∀ j,i≤j→rt c j=none:=by
 intro j hj
 induction hj with
 | refl=>exact h
 | step _ ih=>simp only[rt,ih,Option.bind]
set_option maxRecDepth 4000 in
theorem aFP {ro:Ro}{c:List Nat}{n:Int} (hc:c.length=256) (hcl:∀ x∈c,x < 256) {h:T Obj}{nx:Nat}{K:KV} (hf:Fr h nx) (hK:∀ nx',nx≤nx'→K (.bool (oM c n)) h nx'):aN Tryz.prog ro uF [mS c n] h nx K:=by
 apply aE6
 unfold aCf
 refine aD ?_
 (repeat(first|refine aA (by simp (disch:=first|omega|exact nnN _|assumption) only [BB,B2,↓reduceIte,Nat.reduceLeDiff,Nat.reduceAdd,aT,aU,aY,aX,aW,aV]<;>rfl) ?_|apply aD|apply aE|with_reducible first|apply aG|apply aF|apply aK|apply aH|apply aJ|apply aI|apply aL|apply aC))
 refine aA (aMc (n:=0) (c:=c) (m:=n) (e:=dN) (f:=(0,0)) (by simp (disch:=first | omega | exact Int.natCast_nonneg _ | assumption) only [BB,B2,↓reduceIte,Nat.reduceLeDiff,Nat.reduceAdd,aT,aU,aY,aX,aW,aV,mJ]) hc) ?_
 refine bE (fun j e h' nx'=>∃ (i m:Nat),i+j=256∧nx+1≤nx'∧e 1=ptr nx∧e 3=.int .i64 m∧e 7=.agg (u8s c).toArray∧e 8=.int .i64 i∧Sub h h'∧Fr h' nx' ∧
  h'.get nx=some (.cells (fG c n).toArray dN)∧rt c i=some m) ?_ (n:=256) ⟨0,0,by omega,by omega,rfl,rfl,rfl,rfl,?_,?_,?_,rfl⟩
 ·rintro j e h' nx' ⟨i,m,hij,hnx,e1,e3,e7,e8,hs,hf',g0,hr⟩ Q' hq hx
  have hm:=aK1 hr
  unfold yY
  rw[e3,e7,e8]
  (repeat(first|refine aA (by simp (disch:=first|omega|exact nnN _|assumption) only [BB,B2,↓reduceIte,Nat.reduceLeDiff,Nat.reduceAdd,aT,aU,aY,aX,aW,aV]<;>rfl) ?_|apply aD|apply aE|with_reducible first|apply aG|apply aF|apply aK|apply aH|apply aJ|apply aI|apply aL|apply aC))
  by_cases hi:i < 256
  ·refine iO (by simp; omega) ?_
   have hic:i < c.length:=by omega
   refine aA (aMY _ hic hc) ?_
   have hci:=hcl _ (List.getElem_mem hic)
   have hgd:c.getD i 0=c[i]:=by rw[List.getD_eq_getElem?_getD,List.getElem?_eq_getElem hic]; rfl
   have hrs:rt c (i+1)=if m < c[i] then none else if c[i]=m then some (m+1) else some m:=by simp only[rt,hr,Option.bind_some,hgd]
   (repeat(first|refine aA (by simp (disch:=first|omega|exact nnN _|assumption) only [BB,B2,↓reduceIte,Nat.reduceLeDiff,Nat.reduceAdd,aT,aU,aY,aX,aW,aV]<;>rfl) ?_|apply aD|apply aE|with_reducible first|apply aG|apply aF|apply aK|apply aH|apply aJ|apply aI|apply aL|apply aC))
   by_cases h1:m < c[i]
   ·refine iO (by simp; omega) ?_
    refine hx _ _ _ _ (fun e=>by cases e) (eS ?_)
    refine⟨h,hs,?_⟩
    have hn:rt c 256=none:=aK2 (i:=i+1) (by rw[hrs,if_pos h1]) 256 (by omega)
    have:=hK (nx'+9) (by omega)
    unfold oM at this
    rw[hn] at this
    exact this
   ·refine iN (by simp; omega) ?_
    rw[if_neg h1] at hrs
    (repeat(first|refine aA (by simp (disch:=first|omega|exact nnN _|assumption) only [BB,B2,↓reduceIte,Nat.reduceLeDiff,Nat.reduceAdd,aT,aU,aY,aX,aW,aV]<;>rfl) ?_|apply aD|apply aE|with_reducible first|apply aG|apply aF|apply aK|apply aH|apply aJ|apply aI|apply aL|apply aC))
    have hj2:∀ (e:Env) (n2 m':Nat),nx'≤n2→e 1=ptr nx→e 3=.int .i64 m'→e 7=.agg (u8s c).toArray→e 8=.int .i64 i→rt c (i+1)=some m'→oP ro Q' e h' n2:=by
     intro e n2 m' hn2 e1 e3 e7 e8 hr'
     unfold oP
     rw[e8]
     (repeat(first|refine aA (by simp (disch:=first|omega|exact nnN _|assumption) only [BB,B2,↓reduceIte,Nat.reduceLeDiff,Nat.reduceAdd,aT,aU,aY,aX,aW,aV]<;>rfl) ?_|apply aD|apply aE|with_reducible first|apply aG|apply aF|apply aK|apply aH|apply aJ|apply aI|apply aL|apply aC))
     exact hq (j - 1) _ _ _ _ (by omega) ⟨i+1,m',by omega,by omega,e1,e3,e7,rfl,hs,hf'.mono (by omega),g0,hr'⟩ (Sub.refl _)
    by_cases h2:c[i]=m
    ·refine iO (by simp; omega) ?_
     (repeat(first|refine aA (by simp (disch:=first|omega|exact nnN _|assumption) only [BB,B2,↓reduceIte,Nat.reduceLeDiff,Nat.reduceAdd,aT,aU,aY,aX,aW,aV]<;>rfl) ?_|apply aD|apply aE|with_reducible first|apply aG|apply aF|apply aK|apply aH|apply aJ|apply aI|apply aL|apply aC))
     rw[if_pos h2] at hrs
     exact hj2 _ _ (m+1) (by omega) e1 rfl e7 e8 hrs
    ·refine iN (by simp; omega) ?_
     rw[if_neg h2] at hrs
     exact hj2 _ _ m (by omega) e1 e3 e7 e8 hrs
  ·refine iN (by simp; omega) ?_
   refine hx _ _ _ _ (fun e=>by cases e) (eD (cQ ?_))
   have hi2:i=256:=by omega
   subst hi2
   unfold s9
   have f1:∀ a,Env.put e 9 a 1=ptr nx:=fun a=>e1
   have f3:∀ a,Env.put e 9 a 3=.int .i64 m:=fun a=>e3
   simp only[puts,f1,f3]
   have hg:=rL (n:=n) hc
   (repeat(first|refine aA (by simp (disch:=first|omega|exact nnN _|assumption) only [BB,B2,↓reduceIte,Nat.reduceLeDiff,Nat.reduceAdd,aT,aU,aY,aX,aW,aV,g0,hg]<;>rfl) ?_|apply aD|apply aE|with_reducible first|apply aG|apply aF|apply aK|apply aH|apply aJ|apply aI|apply aL|apply aC))
   refine⟨h,hs,?_⟩
   have:=hK (nx'+1+5) (by omega)
   unfold oM at this
   rw[hr] at this
   exact this
 ·exact (Sub.refl h).new hf (Nat.le_refl _)
 ·exact hf.upd (m:=nx+6) (by omega) (by omega)
 ·simp (disch:=first | omega | exact Int.natCast_nonneg _ | assumption) only [BB,B2,↓reduceIte,Nat.reduceLeDiff,Nat.reduceAdd,aT,aU,aY,aX,aW,aV,mJ]
set_option maxRecDepth 4000 in
theorem aFE {ro:Ro}{c:List Nat}{n:Int} (hc:c.length=256) (hcl:∀ x∈c,x < 256) {h:T Obj}{nx:Nat}{K:KV} (hf:Fr h nx) (hK:∀ nx',nx≤nx'→K (.bool (oM c n)) h nx'):aN Tryz.prog ro t7 [mS c n] h nx K:=by
 apply aEL
 unfold aC4
 refine aD ?_
 refine bE (fun j e h' nx'=>∃ (i m:Nat),i+j=256∧nx+1≤nx'∧e 1=ptr nx∧e 3=.int .i64 m∧e 4=.int .i64 i∧Sub h h'∧Fr h' nx' ∧
  h'.get nx=some (.cells (fG c n).toArray dN)∧rt c i=some m) ?_ (n:=256) ⟨0,0,by omega,by omega,rfl,rfl,rfl,?_,?_,?_,rfl⟩
 ·rintro j e h' nx' ⟨i,m,hij,hnx,e1,e3,e4,hs,hf',g0,hr⟩ Q' hq hx
  have hm:=aK1 hr
  unfold yD
  rw[e1,e3,e4]
  (repeat(first|refine aA (by simp (disch:=first|omega|exact nnN _|assumption) only [BB,B2,↓reduceIte,Nat.reduceLeDiff,Nat.reduceAdd,aT,aU,aY,aX,aW,aV]<;>rfl) ?_|apply aD|apply aE|with_reducible first|apply aG|apply aF|apply aK|apply aH|apply aJ|apply aI|apply aL|apply aC))
  by_cases hi:i < 256
  ·refine iO (by simp; omega) ?_
   have hic:i < c.length:=by omega
   have hci:=hcl _ (List.getElem_mem hic)
   have hg:=yX (n:=n) hic
   have hgd:c.getD i 0=c[i]:=by rw[List.getD_eq_getElem?_getD,List.getElem?_eq_getElem hic]; rfl
   have hrs:rt c (i+1)=if m < c[i] then none else if c[i]=m then some (m+1) else some m:=by simp only[rt,hr,Option.bind_some,hgd]
   (repeat(first|refine aA (by simp (disch:=first|omega|exact nnN _|assumption) only [BB,B2,↓reduceIte,Nat.reduceLeDiff,Nat.reduceAdd,aT,aU,aY,aX,aW,aV,g0,hg]<;>rfl) ?_|apply aD|apply aE|with_reducible first|apply aG|apply aF|apply aK|apply aH|apply aJ|apply aI|apply aL|apply aC))
   by_cases h1:m < c[i]
   ·refine iO (by simp; omega) ?_
    refine hx _ _ _ _ (fun e=>by cases e) (eS ?_)
    refine⟨h,hs,?_⟩
    have hn:rt c 256=none:=aK2 (i:=i+1) (by rw[hrs,if_pos h1]) 256 (by omega)
    have:=hK (nx'+10) (by omega)
    unfold oM at this
    rw[hn] at this
    exact this
   ·refine iN (by simp; omega) ?_
    rw[if_neg h1] at hrs
    (repeat(first|refine aA (by simp (disch:=first|omega|exact nnN _|assumption) only [BB,B2,↓reduceIte,Nat.reduceLeDiff,Nat.reduceAdd,aT,aU,aY,aX,aW,aV,g0,hg]<;>rfl) ?_|apply aD|apply aE|with_reducible first|apply aG|apply aF|apply aK|apply aH|apply aJ|apply aI|apply aL|apply aC))
    have hj2:∀ (e:Env) (n2 m':Nat),nx'≤n2→e 1=ptr nx→e 3=.int .i64 m'→e 4=.int .i64 i→rt c (i+1)=some m'→oH ro Q' e h' n2:=by
     intro e n2 m' hn2 e1 e3 e4 hr'
     unfold oH
     rw[e4]
     (repeat(first|refine aA (by simp (disch:=first|omega|exact nnN _|assumption) only [BB,B2,↓reduceIte,Nat.reduceLeDiff,Nat.reduceAdd,aT,aU,aY,aX,aW,aV]<;>rfl) ?_|apply aD|apply aE|with_reducible first|apply aG|apply aF|apply aK|apply aH|apply aJ|apply aI|apply aL|apply aC))
     exact hq (j - 1) _ _ _ _ (by omega) ⟨i+1,m',by omega,by omega,e1,e3,rfl,hs,hf'.mono (by omega),g0,hr'⟩ (Sub.refl _)
    by_cases h2:c[i]=m
    ·refine iO (by simp; omega) ?_
     (repeat(first|refine aA (by simp (disch:=first|omega|exact nnN _|assumption) only [BB,B2,↓reduceIte,Nat.reduceLeDiff,Nat.reduceAdd,aT,aU,aY,aX,aW,aV]<;>rfl) ?_|apply aD|apply aE|with_reducible first|apply aG|apply aF|apply aK|apply aH|apply aJ|apply aI|apply aL|apply aC))
     rw[if_pos h2] at hrs
     exact hj2 _ _ (m+1) (by omega) e1 rfl e4 hrs
    ·refine iN (by simp; omega) ?_
     rw[if_neg h2] at hrs
     exact hj2 _ _ m (by omega) e1 e3 e4 hrs
  ·refine iN (by simp; omega) ?_
   refine hx _ _ _ _ (fun e=>by cases e) (eD (cQ ?_))
   have hi2:i=256:=by omega
   subst hi2
   unfold sU
   have f1:∀ a b,Env.put (Env.put e 5 a) 6 b 1=ptr nx:=fun a b=>e1
   have f3:∀ a b,Env.put (Env.put e 5 a) 6 b 3=.int .i64 m:=fun a b=>e3
   simp only[puts,f1,f3]
   have hg:=rL (n:=n) hc
   (repeat(first|refine aA (by simp (disch:=first|omega|exact nnN _|assumption) only [BB,B2,↓reduceIte,Nat.reduceLeDiff,Nat.reduceAdd,aT,aU,aY,aX,aW,aV,g0,hg]<;>rfl) ?_|apply aD|apply aE|with_reducible first|apply aG|apply aF|apply aK|apply aH|apply aJ|apply aI|apply aL|apply aC))
   refine⟨h,hs,?_⟩
   have:=hK (nx'+2+5) (by omega)
   unfold oM at this
   rw[hr] at this
   exact this
 ·exact (Sub.refl h).new hf (Nat.le_refl _)
 ·exact hf.upd (m:=nx+4) (by omega) (by omega)
 ·simp (disch:=first | omega | exact Int.natCast_nonneg _ | assumption) only [BB,B2,↓reduceIte,Nat.reduceLeDiff,Nat.reduceAdd,aT,aU,aY,aX,aW,aV,mJ]
def j6 (m:Int):Int:=if m=0 then 1 else if m=1 then 3 else if m=2 then 9 else if m=3 then 27 else 0
theorem aH1 {m p:Int} (h:m=0∧p=1∨m=1∧p=3∨m=2∧p=9∨m=3∧p=27):j6 m=p:=by
 unfold j6
 rcases h with ⟨h,rfl⟩ | ⟨h,rfl⟩ | ⟨h,rfl⟩ | ⟨h,rfl⟩<;>subst h<;>rfl
theorem uT {m:Int} (h:m < 0∨3 < m):j6 m=0:=by
 unfold j6
 rw[if_neg (by omega),if_neg (by omega),if_neg (by omega),if_neg (by omega)]
theorem aAv (m:Int):0≤j6 m∧j6 m≤27:=by
 unfold j6
 repeat' split
 all_goals omega
theorem aBg {m:Int} (h:j6 m≠0):0≤m∧m≤3:=by
 rcases Int.lt_or_le m 0 with h1 | h1
 ·exact absurd (uT (.inl h1)) h
 ·rcases Int.lt_or_le 3 m with h2 | h2
  ·exact absurd (uT (.inr h2)) h
  ·exact⟨h1,h2⟩
set_option maxRecDepth 4000 in
theorem aGF {ro:Ro}{m:Int}{h:T Obj}{nx:Nat}{K:KV} (hK:∀ nx',nx≤nx'→K (.int .i64 (j6 m)) h nx'):aN Tryz.prog ro vS [.int .i64 m] h nx K:=by
 apply aEm
 unfold aDS
 refine cV (fun h1=>?_) (fun h1=>?_)
 ·(repeat(first|refine zzB ?_|apply aD|apply aE|with_reducible first|apply aG|apply aF|apply aK|apply aH|apply aJ|apply aI|apply aL|apply aC))
  exact⟨_,Sub.refl _,ki hK (uT (.inl h1)) (by omega)⟩
 ·(repeat(first|refine zzB ?_|apply aD|apply aE|with_reducible first|apply aG|apply aF|apply aK|apply aH|apply aJ|apply aI|apply aL|apply aC))
  refine lK (fun h2=>?_) (fun h2=>?_)
  ·(repeat(first|refine zzB ?_|apply aD|apply aE|with_reducible first|apply aG|apply aF|apply aK|apply aH|apply aJ|apply aI|apply aL|apply aC))
   exact⟨_,Sub.refl _,ki hK (uT (.inr h2)) (by omega)⟩
  ·(repeat(first|refine zzB ?_|apply aD|apply aE|with_reducible first|apply aG|apply aF|apply aK|apply aH|apply aJ|apply aI|apply aL|apply aC))
   refine bE (fun j e h' nx'=>∃ (k:Nat) (p:Int),(k:Int)+j=m∧nx≤nx'∧h'=h∧e 3=.int .i64 p∧e 10=.int .i64 m∧e 11=.int .i64 k∧(k=0∧p=1∨k=1∧p=3∨k=2∧p=9∨k=3∧p=27)) ?_ (n:=m.toNat) ⟨0,1,by omega,by omega,rfl,rfl,rfl,rfl,by omega⟩
   rintro j e h' nx' ⟨k,p,hj,hnx,rfl,e3,e10,e11,hp⟩ Q' hq hx
   unfold zQ
   rw[e3,e10,e11]
   refine cV (fun hk=>?_) (fun hk=>?_)
   ·(repeat(first|refine zzB ?_|apply aD|apply aE|with_reducible first|apply aG|apply aF|apply aK|apply aH|apply aJ|apply aI|apply aL|apply aC))
    exact hq (j - 1) _ _ _ _ (by omega) ⟨k+1,p*3,by omega,by omega,rfl,rfl,e10,rfl,by omega⟩ (Sub.refl _)
   ·(repeat(first|refine zzB ?_|apply aD|apply aE|with_reducible first|apply aG|apply aF|apply aK|apply aH|apply aJ|apply aI|apply aL|apply aC))
    refine hx _ _ _ _ (fun e=>by cases e) (eD (cQ ?_))
    unfold tV
    have f3:∀ (e':Env) n,e' 3=.int .i64 p→nx≤n→∃ h13,Sub h13 h'∧K (e' 3) h13 n:=fun e' n h3 hn=>by
     rw[h3]
     exact⟨_,Sub.refl _,ki hK (aH1 (by omega)) hn⟩
    exact f3 _ _ e3 (by omega)
set_option maxRecDepth 4000 in
theorem aFH {ro:Ro}{m:Int}{h:T Obj}{nx:Nat}{K:KV} (hK:∀ nx',nx≤nx'→K (.int .i64 (j6 m)) h nx'):aN Tryz.prog ro uB [.int .i64 m] h nx K:=by
 apply aEP
 unfold aC6
 refine cV (fun h1=>?_) (fun h1=>?_)
 ·(repeat(first|refine zzB ?_|apply aD|apply aE|with_reducible first|apply aG|apply aF|apply aK|apply aH|apply aJ|apply aI|apply aL|apply aC))
  exact⟨_,Sub.refl _,ki hK (uT (.inl h1)) (by omega)⟩
 ·(repeat(first|refine zzB ?_|apply aD|apply aE|with_reducible first|apply aG|apply aF|apply aK|apply aH|apply aJ|apply aI|apply aL|apply aC))
  refine lK (fun h2=>?_) (fun h2=>?_)
  ·(repeat(first|refine zzB ?_|apply aD|apply aE|with_reducible first|apply aG|apply aF|apply aK|apply aH|apply aJ|apply aI|apply aL|apply aC))
   exact⟨_,Sub.refl _,ki hK (uT (.inr h2)) (by omega)⟩
  ·(repeat(first|refine zzB ?_|apply aD|apply aE|with_reducible first|apply aG|apply aF|apply aK|apply aH|apply aJ|apply aI|apply aL|apply aC))
   refine bE (fun j e h' nx'=>∃ (k:Nat) (p:Int),(k:Int)+j=m∧nx≤nx'∧h'=h∧e 3=.int .i64 p∧e 0=.int .i64 m∧e 4=.int .i64 k∧(k=0∧p=1∨k=1∧p=3∨k=2∧p=9∨k=3∧p=27)) ?_ (n:=m.toNat) ⟨0,1,by omega,by omega,rfl,rfl,rfl,rfl,by omega⟩
   rintro j e h' nx' ⟨k,p,hj,hnx,rfl,e3,e10,e11,hp⟩ Q' hq hx
   unfold yE
   rw[e3,e10,e11]
   refine cV (fun hk=>?_) (fun hk=>?_)
   ·(repeat(first|refine zzB ?_|apply aD|apply aE|with_reducible first|apply aG|apply aF|apply aK|apply aH|apply aJ|apply aI|apply aL|apply aC))
    exact hq (j - 1) _ _ _ _ (by omega) ⟨k+1,p*3,by omega,by omega,rfl,rfl,e10,rfl,by omega⟩ (Sub.refl _)
   ·(repeat(first|refine zzB ?_|apply aD|apply aE|with_reducible first|apply aG|apply aF|apply aK|apply aH|apply aJ|apply aI|apply aL|apply aC))
    refine hx _ _ _ _ (fun e=>by cases e) (eD (cQ ?_))
    unfold sV
    have f3:∀ (e':Env) n,e' 3=.int .i64 p→nx≤n→∃ h13,Sub h13 h'∧K (e' 3) h13 n:=fun e' n h3 hn=>by
     rw[h3]
     exact⟨_,Sub.refl _,ki hK (aH1 (by omega)) hn⟩
    exact f3 _ _ e3 (by omega)
structure MoveD where
 to:Int
 ops:List Nat
structure StateD where
 l:List Int
 r:List Int
 rule:List Int
 next:List (List MoveD)
structure AutoD where
 c:List Nat
 many:Int
 counts:List (Int × Int)
 states:List StateD
def noS:StateD:=⟨[],[],[],[]⟩
def aGg (R:List Int) (o:Nat) (r:Int):Bool:=decide (1≤o)&&(decide (o≤3)&&(decide (o=3) || R.contains r))
def x8 (R:List Int):List Nat→List Int→Bool
 | o::os,r::rs=>aGg R o r&&x8 R os rs
 | _,_=>true
def hZ (S:List StateD) (R:List Int) (m:MoveD):Bool :=
 if m.to=-1 then decide (m.ops.length=0) else decide (1≤m.to)&&(decide (m.to < S.length)&&(decide (m.ops.length=(S.getD m.to.toNat noS).r.length)&&x8 R m.ops (S.getD m.to.toNat noS).r))
def kN:Nat:=9223372036854775807
def RU8 (x:List Value) (d:Nat):Prop:=x=[.int .u8 (d:Int)]∧d < 256
def xI (ro:Ro) (h:T Obj) (x:List Value) (d:MoveD):Prop:=∃ ov,x=[.int .i64 d.to,ov]∧SlR ro h ov 1 RU8 d.ops∧d.ops.length≤kN
def rT (ro:Ro) (h:T Obj) (x:List Value) (d:List MoveD):Prop:=∃ w,x=[w]∧SlR ro h w 2 (xI ro h) d∧d.length≤kN
def eG (ro:Ro) (h:T Obj) (x:List Value) (d:StateD):Prop:=∃ lv rv uv nv,x=[lv,rv,uv,nv]∧ZI ro h lv d.l∧ZI ro h rv d.r∧ZI ro h uv d.rule∧SlR ro h nv 1 (rT ro h) d.next∧d.r.length≤kN
def vM (x:List Value) (d:Int × Int):Prop:=x=[.int .i64 d.1,.int .i64 d.2]
theorem xI.sub {ro:Ro}{h h':T Obj} (hs:Sub h h'):∀ x d,xI ro h x d→xI ro h' x d:=fun x d ⟨ov,h1,h2,h3⟩=>⟨ov,h1,h2.sub hs fun _ _ h=>h,h3⟩
theorem rT.sub {ro:Ro}{h h':T Obj} (hs:Sub h h'):∀ x d,rT ro h x d→rT ro h' x d:=fun x d ⟨ov,h1,h2,h3⟩=>⟨ov,h1,h2.sub hs (xI.sub hs),h3⟩
theorem eG.sub {ro:Ro}{h h':T Obj} (hs:Sub h h'):∀ x d,eG ro h x d→eG ro h' x d:=fun x d ⟨lv,rv,uv,nv,h1,h2,h3,h4,h5,h6⟩=>⟨lv,rv,uv,nv,h1,h2.sub hs,h3.sub hs,h4.sub hs,h5.sub hs (rT.sub hs),h6⟩
def eA (c:List Nat) (n:Int) (cv sv:Value):List Value:=fG c n++[cv,sv]
section
variable {c:List Nat}{n:Int}{cv sv:Value}
theorem cS (hc:c.length=256):(eA c n cv sv).length=259:=by simp[eA,eK hc]
theorem aFW (hc:c.length=256):(eA c n cv sv)[256]?=some (.int .i64 n):=by
 unfold eA
 rw[List.getElem?_append_left (by rw[eK hc]; omega)]
 exact rL hc
theorem lF (hc:c.length=256):(eA c n cv sv)[257]?=some cv:=by
 unfold eA
 rw[List.getElem?_append_right (by rw[eK hc]; omega),eK hc]; rfl
theorem iF (hc:c.length=256):(eA c n cv sv)[258]?=some sv:=by
 unfold eA
 rw[List.getElem?_append_right (by rw[eK hc]; omega),eK hc]; rfl
theorem aDA (h1:cU cv=true) (h2:cU sv=true):(eA c n cv sv).all cU=true:=by
 unfold eA
 rw[List.all_append,aJk,Bool.true_and]
 simp[h1,h2]
theorem aMf {ro:Ro}{h:T Obj}{id z:Nat}{e:TypeId}{f:Nat × Nat} (hg:h.get id=some (.cells (eA c n cv sv).toArray e f)) (hc:c.length=256):loadA ro h 257 (at_ id 0 z)=some (mS c n):=by
 rw[cD,hg,bG]
 simp only[Option.bind_some,tl]
 rw[if_pos (by rw[cS hc]; omega),List.drop_zero]
 unfold eA
 rw[List.take_append_of_le_length (by rw[eK hc]; omega),List.take_of_length_le (by rw[eK hc]; omega)]
 rfl
end
def qN (ro:Ro) (h:T Obj) (x:List Value) (d:AutoD):Prop:=∃ cv sv,x=eA d.c d.many cv sv∧d.c.length=256∧(∀ x∈d.c,x < 256)∧SlR ro h cv 2 vM d.counts∧SlR ro h sv 4 (eG ro h) d.states∧d.counts.length≤kN∧d.states.length≤kN
theorem aAb (R:List Int) (o:Nat) (os:List Nat) (r:Int) (rs:List Int):x8 R (o::os) (r::rs)=(aGg R o r&&x8 R os rs):=rfl
theorem aFj (R:List Int) (rs:List Int):x8 R [] rs=true:=by cases rs<;>rfl
set_option maxRecDepth 4000 in
theorem aAq {ro:Ro}{v:Value}{l:List Int}{many:Int} (hm:many≤1000000) {h:T Obj}{nx:Nat}{K:KV} (hv:ZI ro h v l) (hK:∀ nx',nx≤nx'→K (.bool (rz (-1) many l)) h nx'):aN Tryz.prog ro rA [v,.int .i64 many] h nx K:=by
 apply aEo
 unfold aDV
 generalize hR:rz (-1) many l=R at hK
 refine aA hv.len ?_
 refine bE (fun j e h' nx'=>∃ (k:Nat) (last:Int),k+j=l.length∧nx≤nx'∧h'=h∧e 1=.int .i64 many∧e 5=.int .i64 last∧e 8=v∧e 9=.int .i64 l.length∧e 10=.int .i64 k∧(k:Int)≤last+1∧rz last many (l.drop k)=R) ?_ (n:=l.length) ⟨0,-1,by omega,by omega,rfl,rfl,rfl,rfl,rfl,rfl,by omega,hR⟩
 rintro j e h' nx' ⟨k,last,hj,hnx,rfl,e1,e5,e8,e9,e10,hk1,hr⟩ Q' hq hx
 unfold zR
 rw[e1,e5,e8,e9,e10]
 (repeat(first|refine aA (by simp (disch:=first|omega|exact nnN _|assumption) only [BB,B2,↓reduceIte,Nat.reduceLeDiff,Nat.reduceAdd,aT,aU,aY,aX,aW,aV]<;>rfl) ?_|apply aD|apply aE|with_reducible first|apply aG|apply aF|apply aK|apply aH|apply aJ|apply aI|apply aL|apply aC))
 refine aNf (fun hk=>?_) (fun hk=>?_)
 ·have hk:k < l.length:=by omega
  rw[bX hk,aDK] at hr
  refine aA (hv.ix _ hk) (aA (hv.load hk) ?_)
  generalize l[k]=x at hr
  (repeat(first|refine aA (by simp (disch:=first|omega|exact nnN _|assumption) only [BB,B2,↓reduceIte,Nat.reduceLeDiff,Nat.reduceAdd,aT,aU,aY,aX,aW,aV]<;>rfl) ?_|apply aD|apply aE|with_reducible first|apply aG|apply aF|apply aK|apply aH|apply aJ|apply aI|apply aL|apply aC))
  by_cases h1:x≤last
  ·rw[decide_eq_true h1]
   (repeat(first|refine aA (by simp (disch:=first|omega|exact nnN _|assumption) only [BB,B2,↓reduceIte,Nat.reduceLeDiff,Nat.reduceAdd,aT,aU,aY,aX,aW,aV]<;>rfl) ?_|apply aD|apply aE|with_reducible first|apply aG|apply aF|apply aK|apply aH|apply aJ|apply aI|apply aL|apply aC))
   refine hx _ _ _ _ (fun e=>by cases e) (eS ?_)
   refine⟨_,Sub.refl _,kb hK ?_ (by omega)⟩
   rw[← hr,decide_eq_false (by omega)]; rfl
  ·rw[decide_eq_false h1]
   (repeat(first|refine aA (by simp (disch:=first|omega|exact nnN _|assumption) only [BB,B2,↓reduceIte,Nat.reduceLeDiff,Nat.reduceAdd,aT,aU,aY,aX,aW,aV]<;>rfl) ?_|apply aD|apply aE|with_reducible first|apply aG|apply aF|apply aK|apply aH|apply aJ|apply aI|apply aL|apply aC))
   by_cases h2:many≤x
   ·rw[decide_eq_true h2]
    (repeat(first|refine aA (by simp (disch:=first|omega|exact nnN _|assumption) only [BB,B2,↓reduceIte,Nat.reduceLeDiff,Nat.reduceAdd,aT,aU,aY,aX,aW,aV]<;>rfl) ?_|apply aD|apply aE|with_reducible first|apply aG|apply aF|apply aK|apply aH|apply aJ|apply aI|apply aL|apply aC))
    refine hx _ _ _ _ (fun e=>by cases e) (eS ?_)
    refine⟨_,Sub.refl _,kb hK ?_ (by omega)⟩
    rw[← hr,decide_eq_false (show ¬ x < many by omega)]; simp
   ·rw[decide_eq_false h2]
    (repeat(first|refine aA (by simp (disch:=first|omega|exact nnN _|assumption) only [BB,B2,↓reduceIte,Nat.reduceLeDiff,Nat.reduceAdd,aT,aU,aY,aX,aW,aV]<;>rfl) ?_|apply aD|apply aE|with_reducible first|apply aG|apply aF|apply aK|apply aH|apply aJ|apply aI|apply aL|apply aC))
    refine hq (j - 1) _ _ _ _ (by omega) ⟨k+1,x,by omega,by omega,rfl,e1,rfl,e8,e9,rfl,by omega,?_⟩ (Sub.refl _)
    rw[← hr,decide_eq_true (show last < x by omega),decide_eq_true (show x < many by omega)]; rfl
 ·refine hx _ _ _ _ (fun e=>by cases e) (eD (cQ ?_))
  unfold tX
  rw[gJ (by omega)] at hr
  exact⟨_,Sub.refl _,kb hK hr.symm (by omega)⟩
set_option maxRecDepth 4000 in
theorem aAH {ro:Ro}{v:Value}{l:List Int}{many:Int} (hm:many≤1000000) {h:T Obj}{nx:Nat}{K:KV} (hv:ZI ro h v l) (hK:∀ nx',nx≤nx'→K (.bool (rz (-1) many l)) h nx'):aN Tryz.prog ro pG [v,.int .i64 many] h nx K:=by
 apply aES
 unfold aC9
 generalize hR:rz (-1) many l=R at hK
 refine bE (fun j e h' nx'=>∃ (k:Nat) (last:Int),k+j=l.length∧nx≤nx'∧h'=h∧e 0=v∧e 1=.int .i64 many∧e 5=.int .i64 k∧(k:Int)≤last+1∧last≤1000000∧(k=0→last=-1)∧(∀ q,q+1=k→l[q]?=some last)∧rz last many (l.drop k)=R) ?_ (n:=l.length) ⟨0,-1,by omega,by omega,rfl,rfl,rfl,rfl,by omega,by omega,fun _=>rfl,fun q hq=>by omega,hR⟩
 rintro j e h' nx' ⟨k,last,hj,hnx,rfl,e0,e1,e5,hk1,hk2,hk0,hkp,hr⟩ Q' hq hx
 unfold yI
 rw[e0,e1,e5]
 refine aA hv.len ?_
 refine cV (fun hk=>?_) (fun hk=>?_)
 ·have hk:k < l.length:=by omega
  have hxk:l[k]?=some l[k]:=List.getElem?_eq_getElem hk
  rw[bX hk,aDK] at hr
  (repeat(first|refine zzB ?_|apply aD|apply aE|with_reducible first|apply aG|apply aF|apply aK|apply aH|apply aJ|apply aI|apply aL|apply aC))
  refine aA (hv.ix _ hk) (aA (hv.load hk) ?_)
  generalize l[k]=x at hr hxk
  have hfin:∀ (e':Env) n,e' 4=.bool false→(¬ last < x∨¬ x < many)→nx≤n→Q' .ret e' h' n:=fun e' n h4 hc hn=>by
   refine hx _ _ _ _ (fun e=>by cases e) (eS ?_)
   rw[h4]
   refine⟨_,Sub.refl _,kb hK ?_ hn⟩
   rw[← hr]
   rcases hc with hc | hc
   ·rw[decide_eq_false hc]; rfl
   ·rw[decide_eq_false hc]; simp
  have hok:∀ (e':Env) n,e' 0=v→e' 1=.int .i64 many→e' 5=.int .i64 ((k:Int)+1)→last < x→x < many→nx≤n→Q' .normal e' h' n:=fun e' n g0 g1 g5 hc1 hc2 hn=>by
   refine hq (j - 1) _ _ _ _ (by omega) ⟨k+1,x,by omega,hn,rfl,g0,g1,g5,by omega,by omega,fun h=>by omega,fun q hq=>?_,?_⟩ (Sub.refl _)
   ·have:q=k:=by omega
    subst this; exact hxk
   ·rw[← hr,decide_eq_true hc1,decide_eq_true hc2]; rfl
  (first | refine cV (fun hb=>?_) (fun hb=>?_) | refine aDt (fun hb=>?_) (fun hb=>?_) | refine lK (fun hb=>?_) (fun hb=>?_) | refine uY (fun hb=>?_) (fun hb=>?_) | refine sD (fun hb=>?_) (fun hb=>?_) | refine pW (fun hb=>?_) (fun hb=>?_))
  ·(repeat(first|refine zzB ?_|apply aD|apply aE|with_reducible first|apply aG|apply aF|apply aK|apply aH|apply aJ|apply aI|apply aL|apply aC))
   exact hfin _ _ rfl (.inl (by omega)) (by omega)
  ·(repeat(first|refine zzB ?_|apply aD|apply aE|with_reducible first|apply aG|apply aF|apply aK|apply aH|apply aJ|apply aI|apply aL|apply aC))
   refine aA (hv.ix _ hk) ?_
   (repeat(first|refine zzB ?_|apply aD|apply aE|with_reducible first|apply aG|apply aF|apply aK|apply aH|apply aJ|apply aI|apply aL|apply aC))
   refine aA (hv.load' hxk) ?_
   (repeat(first|refine zzB ?_|apply aD|apply aE|with_reducible first|apply aG|apply aF|apply aK|apply aH|apply aJ|apply aI|apply aL|apply aC))
   (first | refine cV (fun hb=>?_) (fun hb=>?_) | refine aDt (fun hb=>?_) (fun hb=>?_) | refine lK (fun hb=>?_) (fun hb=>?_) | refine uY (fun hb=>?_) (fun hb=>?_) | refine sD (fun hb=>?_) (fun hb=>?_) | refine pW (fun hb=>?_) (fun hb=>?_))
   ·(repeat(first|refine zzB ?_|apply aD|apply aE|with_reducible first|apply aG|apply aF|apply aK|apply aH|apply aJ|apply aI|apply aL|apply aC))
    exact hfin _ _ rfl (.inr (by omega)) (by omega)
   ·(repeat(first|refine zzB ?_|apply aD|apply aE|with_reducible first|apply aG|apply aF|apply aK|apply aH|apply aJ|apply aI|apply aL|apply aC))
    (first | refine cV (fun hb=>?_) (fun hb=>?_) | refine aDt (fun hb=>?_) (fun hb=>?_) | refine lK (fun hb=>?_) (fun hb=>?_) | refine uY (fun hb=>?_) (fun hb=>?_) | refine sD (fun hb=>?_) (fun hb=>?_) | refine pW (fun hb=>?_) (fun hb=>?_))
    ·have h2:=hkp (k - 1) (by omega)
     have h3:=(List.getElem?_eq_some_iff.1 h2).1
     have h4:((k:Int) - 1).toNat=k - 1:=by omega
     (repeat(first|refine zzB ?_|apply aD|apply aE|with_reducible first|apply aG|apply aF|apply aK|apply aH|apply aJ|apply aI|apply aL|apply aC))
     refine aA (hv.ixI _ (by omega) (by omega)) ?_
     rw[h4]
     (repeat(first|refine zzB ?_|apply aD|apply aE|with_reducible first|apply aG|apply aF|apply aK|apply aH|apply aJ|apply aI|apply aL|apply aC))
     refine aA (hv.load' h2) ?_
     (repeat(first|refine zzB ?_|apply aD|apply aE|with_reducible first|apply aG|apply aF|apply aK|apply aH|apply aJ|apply aI|apply aL|apply aC))
     refine aA (hv.ix _ hk) ?_
     (repeat(first|refine zzB ?_|apply aD|apply aE|with_reducible first|apply aG|apply aF|apply aK|apply aH|apply aJ|apply aI|apply aL|apply aC))
     refine aA (hv.load' hxk) ?_
     (repeat(first|refine zzB ?_|apply aD|apply aE|with_reducible first|apply aG|apply aF|apply aK|apply aH|apply aJ|apply aI|apply aL|apply aC))
     (first | refine cV (fun hb=>?_) (fun hb=>?_) | refine aDt (fun hb=>?_) (fun hb=>?_) | refine lK (fun hb=>?_) (fun hb=>?_) | refine uY (fun hb=>?_) (fun hb=>?_) | refine sD (fun hb=>?_) (fun hb=>?_) | refine pW (fun hb=>?_) (fun hb=>?_))
     ·(repeat(first|refine zzB ?_|apply aD|apply aE|with_reducible first|apply aG|apply aF|apply aK|apply aH|apply aJ|apply aI|apply aL|apply aC))
      exact hfin _ _ rfl (.inl (by omega)) (by omega)
     ·(repeat(first|refine zzB ?_|apply aD|apply aE|with_reducible first|apply aG|apply aF|apply aK|apply aH|apply aJ|apply aI|apply aL|apply aC))
      exact hok _ _ e0 e1 rfl (by omega) (by omega) (by omega)
    ·(repeat(first|refine zzB ?_|apply aD|apply aE|with_reducible first|apply aG|apply aF|apply aK|apply aH|apply aJ|apply aI|apply aL|apply aC))
     exact hok _ _ e0 e1 rfl (by omega) (by omega) (by omega)
 ·(repeat(first|refine zzB ?_|apply aD|apply aE|with_reducible first|apply aG|apply aF|apply aK|apply aH|apply aJ|apply aI|apply aL|apply aC))
  refine hx _ _ _ _ (fun e=>by cases e) (eD (cQ ?_))
  unfold sX
  rw[gJ (by omega)] at hr
  exact⟨_,Sub.refl _,kb hK hr.symm (by omega)⟩
theorem aJ7 {ro:Ro}{v:Value}{l:List Int}{p:Int} (hlen:l.length≤1000000) {h:T Obj}{nx:Nat}{K:KV} (hv:ZI ro h v l) (hK:∀ nx',nx≤nx'→K (.bool (l.contains p)) h nx'):aN Tryz.prog ro aA7 [v,.int .i64 p] h nx K:=by
 apply aI4
 unfold aI3
 generalize hR:l.contains p=R at hK
 refine bE (fun j e h' nx'=>∃ (k:Nat),k+j=l.length∧nx≤nx'∧h'=h∧e 0=v∧e 1=.int .i64 p∧e 5=.int .i64 k∧(l.drop k).contains p=R) ?_ (n:=l.length) ⟨0,by omega,by omega,rfl,rfl,rfl,rfl,hR⟩
 rintro j e h' nx' ⟨k,hj,hnx,rfl,e0,e1,e5,hr⟩ Q' hq hx
 unfold aC8
 rw[e0,e1,e5]
 refine aA hv.len ?_
 refine cV (fun hk=>?_) (fun hk=>?_)
 ·have hk:k < l.length:=by omega
  rw[bX hk] at hr
  (repeat(first|refine zzB ?_|apply aD|apply aE|with_reducible first|apply aG|apply aF|apply aK|apply aH|apply aJ|apply aI|apply aL|apply aC))
  refine aA (hv.ix _ hk) (aA (hv.load hk) ?_)
  generalize l[k]=x at hr
  refine sD (fun he=>?_) (fun he=>?_)
  ·(repeat(first|refine zzB ?_|apply aD|apply aE|with_reducible first|apply aG|apply aF|apply aK|apply aH|apply aJ|apply aI|apply aL|apply aC))
   refine hx _ _ _ _ (fun e=>by cases e) (eS ?_)
   exact⟨_,Sub.refl _,kb hK (by rw[← hr,he]; simp) (by omega)⟩
  ·(repeat(first|refine zzB ?_|apply aD|apply aE|with_reducible first|apply aG|apply aF|apply aK|apply aH|apply aJ|apply aI|apply aL|apply aC))
   refine hq (j - 1) _ _ _ _ (by omega) ⟨k+1,by omega,by omega,rfl,e0,e1,rfl,?_⟩ (Sub.refl _)
   rw[← hr,List.contains_cons,beq_eq_false_iff_ne.2 (Ne.symm he),Bool.false_or]
 ·(repeat(first|refine zzB ?_|apply aD|apply aE|with_reducible first|apply aG|apply aF|apply aK|apply aH|apply aJ|apply aI|apply aL|apply aC))
  refine hx _ _ _ _ (fun e=>by cases e) (eD (cQ ?_))
  unfold yH
  rw[gJ (by omega)] at hr
  exact⟨_,Sub.refl _,kb hK hr.symm (by omega)⟩
theorem tU {ro:Ro}{v:Value}{l:List Int}{p:Int} (hlen:l.length≤1000000) {h:T Obj}{nx:Nat}{K:KV} (hv:ZI ro h v l) (hK:∀ nx',nx≤nx'→K (.bool (l.contains p)) h nx'):aN Tryz.prog ro gI [v,.int .i64 p] h nx K:=by
 apply s7
 unfold nO
 apply vI
 unfold qB
 refine aA hv.len ?_
 have hyes:∀ (k:Nat) n,p∈l→nx≤n→aB (aO .geq (.int .i64 (k:Int)) (.int .i64 0)) fun t8_4=>∃ h5,Sub h5 h∧K t8_4 h5 (n+2):=fun k n hp hn=>by
  refine uY (fun hg=>?_) (fun hg=>by omega)
  exact⟨_,Sub.refl _,kb hK (by simpa using hp) (by omega)⟩
 generalize hR:l.contains p=R at hK
 refine bE (fun j e h' nx'=>∃ (k:Nat),k+j=l.length∧nx≤nx'∧h'=h∧e 0=v∧e 1=.int .i64 p∧e 7=.int .i64 l.length∧e 8=.int .i64 k∧(l.drop k).contains p=R) ?_ (n:=l.length) ⟨0,by omega,by omega,rfl,rfl,rfl,rfl,rfl,hR⟩
 rintro j e h' nx' ⟨k,hj,hnx,rfl,e0,e1,e7,e8,hr⟩ Q' hq hx
 unfold nP
 rw[e0,e1,e7,e8]
 refine cV (fun hk=>?_) (fun hk=>?_)
 ·have hk:k < l.length:=by omega
  have hmem:l[k]∈l:=List.getElem_mem hk
  rw[bX hk] at hr
  (repeat(first|refine zzB ?_|apply aD|apply aE|with_reducible first|apply aG|apply aF|apply aK|apply aH|apply aJ|apply aI|apply aL|apply aC))
  refine aA (hv.ix _ hk) (aA (hv.load hk) ?_)
  generalize l[k]=x at hr hmem
  refine sD (fun he=>?_) (fun he=>?_)
  ·(repeat(first|refine zzB ?_|apply aD|apply aE|with_reducible first|apply aG|apply aF|apply aK|apply aH|apply aJ|apply aI|apply aL|apply aC))
   refine hx _ _ _ _ (fun e=>by cases e) (eS ?_)
   refine⟨_,Sub.refl _,hyes _ _ (by rw[he]; exact hmem) (by omega)⟩
  ·(repeat(first|refine zzB ?_|apply aD|apply aE|with_reducible first|apply aG|apply aF|apply aK|apply aH|apply aJ|apply aI|apply aL|apply aC))
   refine hq (j - 1) _ _ _ _ (by omega) ⟨k+1,by omega,by omega,rfl,e0,e1,e7,rfl,?_⟩ (Sub.refl _)
   rw[← hr,List.contains_cons,beq_eq_false_iff_ne.2 he,Bool.false_or]
 ·(repeat(first|refine zzB ?_|apply aD|apply aE|with_reducible first|apply aG|apply aF|apply aK|apply aH|apply aJ|apply aI|apply aL|apply aC))
  refine hx _ _ _ _ (fun e=>by cases e) (eD (cQ ?_))
  unfold kG
  rw[gJ (by omega)] at hr
  refine⟨_,Sub.refl _,?_⟩
  refine uY (fun hg=>by omega) (fun hg=>?_)
  exact⟨_,Sub.refl _,kb hK hr.symm (by omega)⟩
set_option maxRecDepth 8000 in
set_option maxHeartbeats 1000000 in
theorem aD2 {ro:Ro}{c:List Nat}{n:Int}{cv sv lv rv uv nv ov:Value}{S:List StateD}{R:List Int}{m:MoveD} (hc:c.length=256) (hSl:S.length≤256) (hR:R.length≤3) (hmo:m.ops.length≤kN) {h:T Obj}{nx:Nat}{K:KV} (hf:Fr h nx)
  (hS:SlR ro h sv 4 (eG ro h) S) (hrv:ZI ro h rv R) (hov:SlR ro h ov 1 RU8 m.ops) (hK:∀ nx',nx≤nx'→K (.bool (hZ S R m)) h nx'):aN Tryz.prog ro mO [.agg (eA c n cv sv).toArray,.agg #[lv,rv,uv,nv],.agg #[.int .i64 m.to,ov]] h nx K:=by
 apply xJ
 unfold tD
 refine eJ hf (Nat.le_refl _) fun h1 hs1 hf1 g1 _=>?_
 refine eJ hf1 (Nat.le_refl _) fun h2 hs2 hf2 g2 _=>?_
 refine eJ hf2 (Nat.le_refl _) fun h3 hs3 hf3 g3 _=>?_
 have g1:h3.get nx=some (.cells (eA c n cv sv).toArray dZ):=hs3 _ _ (hs2 _ _ g1)
 have g2:h3.get (nx+1)=some (.cells #[lv,rv,uv,nv] bD):=hs3 _ _ g2
 have g3:h3.get (nx+2)=some (.cells #[.int .i64 m.to,ov] cE):=g3
 have hs:=(hs1.trans hs2).trans hs3
 have hS:=hS.sub hs (eG.sub hs)
 have hrv:=hrv.sub hs
 have hov:=hov.sub hs fun _ _ h=>h
 have hsg:=iF (n:=n) (cv:=cv) (sv:=sv) hc
 have hol:=hov.len
 have hsl:=hS.len
 have hmb:m.ops.length≤9223372036854775807:=hmo
 have hno:∀ n,hZ S R m=false→nx≤n→∃ h',Sub h' h3∧K (.bool false) h' n:=fun n e hn=>⟨h,hs,kb hK e hn⟩
 (repeat(first|refine aA (by simp (disch:=first|omega|exact nnN _|assumption) only [BB,B2,↓reduceIte,Nat.reduceLeDiff,Nat.reduceAdd,CC,g3]<;>rfl) ?_|apply aD|apply aE|with_reducible first|apply aG|apply aF|apply aK|apply aH|apply aJ|apply aI|apply aL|apply aC))
 refine sD (fun ht=>?_) (fun ht=>?_)
 ·(repeat(first|refine aA (by simp (disch:=first|omega|exact nnN _|assumption) only [BB,B2,↓reduceIte,Nat.reduceLeDiff,Nat.reduceAdd,CC,g3,hol]<;>rfl) ?_|apply aD|apply aE|with_reducible first|apply aG|apply aF|apply aK|apply aH|apply aJ|apply aI|apply aL|apply aC))
  refine aA (aT _ _ _) ?_
  refine⟨h,hs,kb hK ?_ (by omega)⟩
  unfold hZ
  rw[if_pos ht,decide_eq_decide]
  omega
 ·unfold hZ at hno hK
  rw[if_neg ht] at hno hK
  (repeat(first|refine aA (by simp (disch:=first|omega|exact nnN _|assumption) only [BB,B2,↓reduceIte,Nat.reduceLeDiff,Nat.reduceAdd,CC,g3]<;>rfl) ?_|apply aD|apply aE|with_reducible first|apply aG|apply aF|apply aK|apply aH|apply aJ|apply aI|apply aL|apply aC))
  refine cV (fun h1=>?_) (fun h1=>?_)
  ·(repeat(first|refine zzB ?_|apply aD|apply aE|with_reducible first|apply aG|apply aF|apply aK|apply aH|apply aJ|apply aI|apply aL|apply aC))
   exact hno _ (by rw[decide_eq_false (by omega)]; rfl) (by omega)
  ·rw[decide_eq_true h1,Bool.true_and] at hno hK
   (repeat(first|refine aA (by simp (disch:=first|omega|exact nnN _|assumption) only [BB,B2,↓reduceIte,Nat.reduceLeDiff,Nat.reduceAdd,CC,g1,g3,hsg,hsl]<;>rfl) ?_|apply aD|apply aE|with_reducible first|apply aG|apply aF|apply aK|apply aH|apply aJ|apply aI|apply aL|apply aC))
   refine uY (fun h2=>?_) (fun h2=>?_)
   ·(repeat(first|refine zzB ?_|apply aD|apply aE|with_reducible first|apply aG|apply aF|apply aK|apply aH|apply aJ|apply aI|apply aL|apply aC))
    exact hno _ (by rw[decide_eq_false (by omega)]; rfl) (by omega)
   ·rw[decide_eq_true h2,Bool.true_and] at hno hK
    have hti:m.to.toNat < S.length:=by omega
    have hgd:S.getD m.to.toNat noS=S[m.to.toNat]:=by rw[List.getD_eq_getElem?_getD,List.getElem?_eq_getElem hti]; rfl
    rw[hgd] at hno hK
    have hix:=hS.ixI .i64 (i:=m.to) (by omega) h2
    obtain⟨x,⟨lv',rv',uv',nv',rfl,y1,y2,y3,y4,y5⟩,hx2,hx3,hx4,hx5⟩:=hS.at hti
    have hx1:=hx5 1 rv' rfl
    have hrl:=y2.len
    generalize S[m.to.toNat]=s at hno hK y1 y2 y3 y4 y5 hrl
    have y5:s.r.length≤9223372036854775807:=y5
    (repeat(first|refine aA (by simp (disch:=first|omega|exact nnN _|assumption) only [BB,B2,↓reduceIte,Nat.reduceLeDiff,Nat.reduceAdd,CC,g1,g3,hsg,hol,hix,hx4,hx1,hrl]<;>rfl) ?_|apply aD|apply aE|with_reducible first|apply aG|apply aF|apply aK|apply aH|apply aJ|apply aI|apply aL|apply aC))
    refine pW (fun u9=>?_) (fun u9=>?_)
    ·(repeat(first|refine zzB ?_|apply aD|apply aE|with_reducible first|apply aG|apply aF|apply aK|apply aH|apply aJ|apply aI|apply aL|apply aC))
     exact hno _ (by rw[decide_eq_false (by omega)]; rfl) (by omega)
    ·have u9:m.ops.length=s.r.length:=by omega
     rw[decide_eq_true u9,Bool.true_and] at hno hK
     (repeat(first|refine aA (by simp (disch:=first|omega|exact nnN _|assumption) only [BB,B2,↓reduceIte,Nat.reduceLeDiff,Nat.reduceAdd,CC,g3,hol]<;>rfl) ?_|apply aD|apply aE|with_reducible first|apply aG|apply aF|apply aK|apply aH|apply aJ|apply aI|apply aL|apply aC))
     generalize hB:x8 R m.ops s.r=B at hno hK
     refine bE (fun j e h' nx'=>∃ (k:Nat),k+j=m.ops.length∧nx≤nx'∧h'=h3∧e 3=ptr nx∧e 4=ptr (nx+1)∧e 5=ptr (nx+2)∧e 44=ov∧e 45=.int .i64 m.ops.length∧e 46=.int .i64 k∧x8 R (m.ops.drop k) (s.r.drop k)=B) ?_ (n:=m.ops.length) ⟨0,by omega,by omega,rfl,rfl,rfl,rfl,rfl,rfl,rfl,hB⟩
     rintro j e h' nx' ⟨k,hj,hnx,rfl,e3,e4,e5,e44,e45,e46,hr⟩ Q' hq hx
     unfold pP
     rw[e3,e4,e5,e44,e45,e46]
     refine cV (fun hk=>?_) (fun hk=>?_)
     ·have hk:k < m.ops.length:=by omega
      have hk2:k < s.r.length:=by omega
      rw[bX hk,bX hk2,aAb] at hr
      have oix:=hov.ix .i64 hk
      obtain⟨w,⟨ow,olt⟩,o1⟩:=hov.at1 hk
      simp only[List.cons.injEq,and_true] at ow
      subst ow
      have rix:=y2.ix .i64 hk2
      have rld:=y2.load hk2
      generalize m.ops[k]=o at hr o1 olt
      generalize s.r[k]=r at hr rld
      have hfin:∀ (e':Env) n,e' 6=.bool false→aGg R o r=false→nx≤n→Q' .ret e' h' n:=fun e' n h6 hc hn=>by
       refine hx _ _ _ _ (fun e=>by cases e) (eS ?_)
       rw[h6]
       refine⟨h,hs,kb hK ?_ hn⟩
       rw[← hr,hc]; rfl
      have hok:∀ (e':Env) n,e' 3=ptr nx→e' 4=ptr (nx+1)→e' 5=ptr (nx+2)→e' 44=ov→e' 45=.int .i64 m.ops.length→e' 46=.int .i64 ((k:Int)+1)→aGg R o r=true→nx≤n→Q' .normal e' h' n:=fun e' n f3 f4 f5 f44 f45 f46 hc hn =>
       hq (j - 1) _ _ _ _ (by omega) ⟨k+1,by omega,hn,rfl,f3,f4,f5,f44,f45,f46,by rw[← hr,hc]; rfl⟩ (Sub.refl _)
      unfold aGg at hfin hok
      (repeat(first|refine aA (by simp (disch:=first|omega|exact nnN _|assumption) only [BB,B2,↓reduceIte,Nat.reduceLeDiff,Nat.reduceAdd,CC,oix,o1]<;>rfl) ?_|apply aD|apply aE|with_reducible first|apply aG|apply aF|apply aK|apply aH|apply aJ|apply aI|apply aL|apply aC))
      refine cV (fun u1=>?_) (fun u1=>?_)
      ·(repeat(first|refine zzB ?_|apply aD|apply aE|with_reducible first|apply aG|apply aF|apply aK|apply aH|apply aJ|apply aI|apply aL|apply aC))
       exact hfin _ _ rfl (by rw[decide_eq_false (by omega)]; rfl) (by omega)
      ·rw[decide_eq_true (by omega),Bool.true_and] at hfin hok
       (repeat(first|refine zzB ?_|apply aD|apply aE|with_reducible first|apply aG|apply aF|apply aK|apply aH|apply aJ|apply aI|apply aL|apply aC))
       refine lK (fun u2=>?_) (fun u2=>?_)
       ·(repeat(first|refine zzB ?_|apply aD|apply aE|with_reducible first|apply aG|apply aF|apply aK|apply aH|apply aJ|apply aI|apply aL|apply aC))
        exact hfin _ _ rfl (by rw[decide_eq_false (by omega)]; rfl) (by omega)
       ·rw[decide_eq_true (by omega),Bool.true_and] at hfin hok
        (repeat(first|refine zzB ?_|apply aD|apply aE|with_reducible first|apply aG|apply aF|apply aK|apply aH|apply aJ|apply aI|apply aL|apply aC))
        refine pW (fun u3=>?_) (fun u3=>?_)
        ·rw[decide_eq_false (by omega),Bool.false_or] at hfin hok
         (repeat(first|refine aA (by simp (disch:=first|omega|exact nnN _|assumption) only [BB,B2,↓reduceIte,Nat.reduceLeDiff,Nat.reduceAdd,CC,g1,g2,g3,hsg,hix,hx4,hx1,rix,rld]<;>rfl) ?_|apply aD|apply aE|with_reducible first|apply aG|apply aF|apply aK|apply aH|apply aJ|apply aI|apply aL|apply aC))
         refine tU (by omega) hrv fun n9 hn9=>?_
         cases hcn:R.contains r with
         | true =>
          rw[hcn] at hok
          (repeat(first|refine zzB ?_|apply aD|apply aE|with_reducible first|apply aG|apply aF|apply aK|apply aH|apply aJ|apply aI|apply aL|apply aC))
          exact hok _ _ e3 e4 e5 e44 e45 rfl rfl (by omega)
         | false =>
          rw[hcn] at hfin
          (repeat(first|refine zzB ?_|apply aD|apply aE|with_reducible first|apply aG|apply aF|apply aK|apply aH|apply aJ|apply aI|apply aL|apply aC))
          exact hfin _ _ rfl rfl (by omega)
        ·rw[decide_eq_true (by omega),Bool.true_or] at hfin hok
         (repeat(first|refine zzB ?_|apply aD|apply aE|with_reducible first|apply aG|apply aF|apply aK|apply aH|apply aJ|apply aI|apply aL|apply aC))
         exact hok _ _ e3 e4 e5 e44 e45 rfl rfl (by omega)
     ·(repeat(first|refine zzB ?_|apply aD|apply aE|with_reducible first|apply aG|apply aF|apply aK|apply aH|apply aJ|apply aI|apply aL|apply aC))
      refine hx _ _ _ _ (fun e=>by cases e) (eD (cQ ?_))
      unfold lG
      rw[gJ (by omega),aFj] at hr
      exact⟨h,hs,kb hK hr.symm (by omega)⟩
set_option maxRecDepth 8000 in
set_option maxHeartbeats 1000000 in
theorem aGr {ro:Ro}{c:List Nat}{n:Int}{cv sv lv rv uv nv ov:Value}{S:List StateD}{R:List Int}{m:MoveD} (hc:c.length=256) (hSl:S.length≤256) (hR:R.length≤3) (hmo:m.ops.length≤kN) {h:T Obj}{nx:Nat}{K:KV} (hf:Fr h nx)
  (hS:SlR ro h sv 4 (eG ro h) S) (hrv:ZI ro h rv R) (hov:SlR ro h ov 1 RU8 m.ops) (hK:∀ nx',nx≤nx'→K (.bool (hZ S R m)) h nx'):aN Tryz.prog ro vW [.agg (eA c n cv sv).toArray,.agg #[lv,rv,uv,nv],.agg #[.int .i64 m.to,ov]] h nx K:=by
 apply aFJ
 unfold aER
 refine eJ hf (Nat.le_refl _) fun h1 hs1 hf1 g1 _=>?_
 refine eJ hf1 (Nat.le_refl _) fun h2 hs2 hf2 g2 _=>?_
 refine eJ hf2 (Nat.le_refl _) fun h3 hs3 hf3 g3 _=>?_
 have g1:h3.get nx=some (.cells (eA c n cv sv).toArray bK):=hs3 _ _ (hs2 _ _ g1)
 have g2:h3.get (nx+1)=some (.cells #[lv,rv,uv,nv] bD):=hs3 _ _ g2
 have g3:h3.get (nx+2)=some (.cells #[.int .i64 m.to,ov] cE):=g3
 have hs:=(hs1.trans hs2).trans hs3
 have hS:=hS.sub hs (eG.sub hs)
 have hrv:=hrv.sub hs
 have hov:=hov.sub hs fun _ _ h=>h
 have hsg:=iF (n:=n) (cv:=cv) (sv:=sv) hc
 have hol:=hov.len
 have hsl:=hS.len
 have hmb:m.ops.length≤9223372036854775807:=hmo
 have hno:∀ n,hZ S R m=false→nx≤n→∃ h',Sub h' h3∧K (.bool false) h' n:=fun n e hn=>⟨h,hs,kb hK e hn⟩
 (repeat(first|refine aA (by simp (disch:=first|omega|exact nnN _|assumption) only [BB,B2,↓reduceIte,Nat.reduceLeDiff,Nat.reduceAdd,CC,g3]<;>rfl) ?_|apply aD|apply aE|with_reducible first|apply aG|apply aF|apply aK|apply aH|apply aJ|apply aI|apply aL|apply aC))
 refine sD (fun ht=>?_) (fun ht=>?_)
 ·(repeat(first|refine aA (by simp (disch:=first|omega|exact nnN _|assumption) only [BB,B2,↓reduceIte,Nat.reduceLeDiff,Nat.reduceAdd,CC,g3,hol]<;>rfl) ?_|apply aD|apply aE|with_reducible first|apply aG|apply aF|apply aK|apply aH|apply aJ|apply aI|apply aL|apply aC))
  refine aA (aT _ _ _) ?_
  refine⟨h,hs,kb hK ?_ (by omega)⟩
  unfold hZ
  rw[if_pos ht,decide_eq_decide]
  omega
 ·unfold hZ at hno hK
  rw[if_neg ht] at hno hK
  (repeat(first|refine aA (by simp (disch:=first|omega|exact nnN _|assumption) only [BB,B2,↓reduceIte,Nat.reduceLeDiff,Nat.reduceAdd,CC,g3]<;>rfl) ?_|apply aD|apply aE|with_reducible first|apply aG|apply aF|apply aK|apply aH|apply aJ|apply aI|apply aL|apply aC))
  refine cV (fun h1=>?_) (fun h1=>?_)
  ·(repeat(first|refine zzB ?_|apply aD|apply aE|with_reducible first|apply aG|apply aF|apply aK|apply aH|apply aJ|apply aI|apply aL|apply aC))
   exact hno _ (by rw[decide_eq_false (by omega)]; rfl) (by omega)
  ·rw[decide_eq_true h1,Bool.true_and] at hno hK
   (repeat(first|refine aA (by simp (disch:=first|omega|exact nnN _|assumption) only [BB,B2,↓reduceIte,Nat.reduceLeDiff,Nat.reduceAdd,CC,g1,g3,hsg,hsl]<;>rfl) ?_|apply aD|apply aE|with_reducible first|apply aG|apply aF|apply aK|apply aH|apply aJ|apply aI|apply aL|apply aC))
   refine uY (fun h2=>?_) (fun h2=>?_)
   ·(repeat(first|refine zzB ?_|apply aD|apply aE|with_reducible first|apply aG|apply aF|apply aK|apply aH|apply aJ|apply aI|apply aL|apply aC))
    exact hno _ (by rw[decide_eq_false (by omega)]; rfl) (by omega)
   ·rw[decide_eq_true h2,Bool.true_and] at hno hK
    have hti:m.to.toNat < S.length:=by omega
    have hgd:S.getD m.to.toNat noS=S[m.to.toNat]:=by rw[List.getD_eq_getElem?_getD,List.getElem?_eq_getElem hti]; rfl
    rw[hgd] at hno hK
    have hix:=hS.ixI .i64 (i:=m.to) (by omega) h2
    obtain⟨x,⟨lv',rv',uv',nv',rfl,y1,y2,y3,y4,y5⟩,hx2,hx3,hx4,hx5⟩:=hS.at hti
    have hx1:=hx5 1 rv' rfl
    have hrl:=y2.len
    generalize S[m.to.toNat]=s at hno hK y1 y2 y3 y4 y5 hrl
    have y5:s.r.length≤9223372036854775807:=y5
    (repeat(first|refine aA (by simp (disch:=first|omega|exact nnN _|assumption) only [BB,B2,↓reduceIte,Nat.reduceLeDiff,Nat.reduceAdd,CC,g1,g3,hsg,hol,hix,hx4,hx1,hrl]<;>rfl) ?_|apply aD|apply aE|with_reducible first|apply aG|apply aF|apply aK|apply aH|apply aJ|apply aI|apply aL|apply aC))
    refine pW (fun u9=>?_) (fun u9=>?_)
    ·(repeat(first|refine zzB ?_|apply aD|apply aE|with_reducible first|apply aG|apply aF|apply aK|apply aH|apply aJ|apply aI|apply aL|apply aC))
     exact hno _ (by rw[decide_eq_false (by omega)]; rfl) (by omega)
    ·have u9:m.ops.length=s.r.length:=by omega
     rw[decide_eq_true u9,Bool.true_and] at hno hK
     (repeat(first|refine aA (by simp (disch:=first|omega|exact nnN _|assumption) only [BB,B2,↓reduceIte,Nat.reduceLeDiff,Nat.reduceAdd,CC,g3,hol]<;>rfl) ?_|apply aD|apply aE|with_reducible first|apply aG|apply aF|apply aK|apply aH|apply aJ|apply aI|apply aL|apply aC))
     generalize hB:x8 R m.ops s.r=B at hno hK
     refine bE (fun j e h' nx'=>∃ (k:Nat),k+j=m.ops.length∧nx≤nx'∧h'=h3∧e 3=ptr nx∧e 4=ptr (nx+1)∧e 5=ptr (nx+2)∧e 7=.int .i64 k∧x8 R (m.ops.drop k) (s.r.drop k)=B) ?_ (n:=m.ops.length) ⟨0,by omega,by omega,rfl,rfl,rfl,rfl,rfl,hB⟩
     rintro j e h' nx' ⟨k,hj,hnx,rfl,e3,e4,e5,e7,hr⟩ Q' hq hx
     unfold aAG
     rw[e3,e4,e5,e7]
     (repeat(first|refine aA (by simp (disch:=first|omega|exact nnN _|assumption) only [BB,B2,↓reduceIte,Nat.reduceLeDiff,Nat.reduceAdd,CC,g3,hol]<;>rfl) ?_|apply aD|apply aE|with_reducible first|apply aG|apply aF|apply aK|apply aH|apply aJ|apply aI|apply aL|apply aC))
     refine cV (fun hk=>?_) (fun hk=>?_)
     ·have hk:k < m.ops.length:=by omega
      have hk2:k < s.r.length:=by omega
      rw[bX hk,bX hk2,aAb] at hr
      have oix:=hov.ix .i64 hk
      obtain⟨w,⟨ow,olt⟩,o1⟩:=hov.at1 hk
      simp only[List.cons.injEq,and_true] at ow
      subst ow
      have rix:=y2.ix .i64 hk2
      have rld:=y2.load hk2
      generalize m.ops[k]=o at hr o1 olt
      generalize s.r[k]=r at hr rld
      have hfin:∀ (e':Env) n,e' 6=.bool false→aGg R o r=false→nx≤n→Q' .ret e' h' n:=fun e' n h6 hc hn=>by
       refine hx _ _ _ _ (fun e=>by cases e) (eS ?_)
       rw[h6]
       refine⟨h,hs,kb hK ?_ hn⟩
       rw[← hr,hc]; rfl
      have hok:∀ (e':Env) n,e' 3=ptr nx→e' 4=ptr (nx+1)→e' 5=ptr (nx+2)→e' 7=.int .i64 ((k:Int)+1)→aGg R o r=true→nx≤n→Q' .normal e' h' n:=fun e' n f3 f4 f5 f7 hc hn =>
       hq (j - 1) _ _ _ _ (by omega) ⟨k+1,by omega,hn,rfl,f3,f4,f5,f7,by rw[← hr,hc]; rfl⟩ (Sub.refl _)
      unfold aGg at hfin hok
      (repeat(first|refine aA (by simp (disch:=first|omega|exact nnN _|assumption) only [BB,B2,↓reduceIte,Nat.reduceLeDiff,Nat.reduceAdd,CC,g3,oix,o1]<;>rfl) ?_|apply aD|apply aE|with_reducible first|apply aG|apply aF|apply aK|apply aH|apply aJ|apply aI|apply aL|apply aC))
      refine cV (fun u1=>?_) (fun u1=>?_)
      ·(repeat(first|refine aA (by simp (disch:=first|omega|exact nnN _|assumption) only [BB,B2,↓reduceIte,Nat.reduceLeDiff,Nat.reduceAdd,CC,g3,oix,o1]<;>rfl) ?_|apply aD|apply aE|with_reducible first|apply aG|apply aF|apply aK|apply aH|apply aJ|apply aI|apply aL|apply aC))
       exact hfin _ _ rfl (by rw[decide_eq_false (by omega)]; rfl) (by omega)
      ·rw[decide_eq_true (by omega),Bool.true_and] at hfin hok
       (repeat(first|refine aA (by simp (disch:=first|omega|exact nnN _|assumption) only [BB,B2,↓reduceIte,Nat.reduceLeDiff,Nat.reduceAdd,CC,g3,oix,o1]<;>rfl) ?_|apply aD|apply aE|with_reducible first|apply aG|apply aF|apply aK|apply aH|apply aJ|apply aI|apply aL|apply aC))
       refine lK (fun u2=>?_) (fun u2=>?_)
       ·(repeat(first|refine aA (by simp (disch:=first|omega|exact nnN _|assumption) only [BB,B2,↓reduceIte,Nat.reduceLeDiff,Nat.reduceAdd,CC,g3,oix,o1]<;>rfl) ?_|apply aD|apply aE|with_reducible first|apply aG|apply aF|apply aK|apply aH|apply aJ|apply aI|apply aL|apply aC))
        exact hfin _ _ rfl (by rw[decide_eq_false (by omega)]; rfl) (by omega)
       ·rw[decide_eq_true (by omega),Bool.true_and] at hfin hok
        (repeat(first|refine aA (by simp (disch:=first|omega|exact nnN _|assumption) only [BB,B2,↓reduceIte,Nat.reduceLeDiff,Nat.reduceAdd,CC,g3,oix,o1]<;>rfl) ?_|apply aD|apply aE|with_reducible first|apply aG|apply aF|apply aK|apply aH|apply aJ|apply aI|apply aL|apply aC))
        refine pW (fun u3=>?_) (fun u3=>?_)
        ·rw[decide_eq_false (by omega),Bool.false_or] at hfin hok
         (repeat(first|refine aA (by simp (disch:=first|omega|exact nnN _|assumption) only [BB,B2,↓reduceIte,Nat.reduceLeDiff,Nat.reduceAdd,CC,g1,g2,g3,hsg,hix,hx4,hx1,rix,rld]<;>rfl) ?_|apply aD|apply aE|with_reducible first|apply aG|apply aF|apply aK|apply aH|apply aJ|apply aI|apply aL|apply aC))
         refine aJ7 (by omega) hrv fun n9 hn9=>?_
         cases hcn:R.contains r with
         | true =>
          rw[hcn] at hok
          (repeat(first|refine zzB ?_|apply aD|apply aE|with_reducible first|apply aG|apply aF|apply aK|apply aH|apply aJ|apply aI|apply aL|apply aC))
          exact hok _ _ e3 e4 e5 rfl rfl (by omega)
         | false =>
          rw[hcn] at hfin
          (repeat(first|refine zzB ?_|apply aD|apply aE|with_reducible first|apply aG|apply aF|apply aK|apply aH|apply aJ|apply aI|apply aL|apply aC))
          exact hfin _ _ rfl rfl (by omega)
        ·rw[decide_eq_true (by omega),Bool.true_or] at hfin hok
         (repeat(first|refine zzB ?_|apply aD|apply aE|with_reducible first|apply aG|apply aF|apply aK|apply aH|apply aJ|apply aI|apply aL|apply aC))
         exact hok _ _ e3 e4 e5 rfl rfl (by omega)
     ·(repeat(first|refine zzB ?_|apply aD|apply aE|with_reducible first|apply aG|apply aF|apply aK|apply aH|apply aJ|apply aI|apply aL|apply aC))
      refine hx _ _ _ _ (fun e=>by cases e) (eD (cQ ?_))
      unfold uI
      rw[gJ (by omega),aFj] at hr
      exact⟨h,hs,kb hK hr.symm (by omega)⟩
def wV (S:List StateD) (R:List Int) (many ru:Int) (row:List MoveD):Bool:=decide (-1≤ru)&&(decide (ru < 512)&&(decide ((row.length:Int)=many)&&row.all (hZ S R)))
def oN (S:List StateD) (R:List Int) (many:Int):List Int→List (List MoveD)→Bool
 | ru::rus,row::rows=>wV S R many ru row&&oN S R many rus rows
 | _,_=>true
def gU (S:List StateD) (many:Int) (cn:Nat) (s:StateD):Bool:=decide (j6 s.r.length≠0)&&(decide ((s.rule.length:Int)=j6 s.r.length)&&(decide ((s.next.length:Int)=j6 s.r.length)&&(rz (-1) 512 s.l&&(rz (-1) cn s.r&&oN S s.r many s.rule s.next))))
theorem pZ (S:List StateD) (R:List Int) (many ru:Int) (row:List MoveD) (rus:List Int) (rows:List (List MoveD)):oN S R many (ru::rus) (row::rows)=(wV S R many ru row&&oN S R many rus rows):=rfl
theorem wG (S:List StateD) (R:List Int) (many:Int) (l:List Int):oN S R many l []=true:=by cases l<;>rfl
theorem aBv {ro:Ro}{v f:Value}{D:Type}{l:List D}{R:List Value→D→Prop}{q:D→Bool} (hlen:l.length≤1000000) {h:T Obj}{nx:Nat}{K:KV} (hv:SlR ro h v 2 R l)
  (hf:∀ (i:Nat) (hi:i < l.length) x n K',R x l[i]→nx≤n→(∀ n',n≤n'→K' (.bool (q l[i])) h n')→xK (aN Tryz.prog ro) f [.agg x.toArray] h n K')
  (hK:∀ nx',nx≤nx'→K (.int .i64 (oY q 0 l)) h nx'):aN Tryz.prog ro fK [v,f] h nx K:=by
 apply mI
 unfold iV
 generalize hR:oY q 0 l=r at hK
 refine aA hv.len ?_
 refine bE (fun j e h' nx'=>∃ (k:Nat),k+j=l.length∧nx≤nx'∧h'=h∧e 0=v∧e 1=f∧e 7=.int .i64 l.length∧e 8=.int .i64 k∧oY q k (l.drop k)=r) ?_ (n:=l.length) ⟨0,by omega,by omega,rfl,rfl,rfl,rfl,rfl,hR⟩
 rintro j e h' nx' ⟨k,hj,hnx,rfl,e0,e1,e7,e8,hr⟩ Q' hq hx
 unfold hJ
 rw[e0,e1,e7,e8]
 refine cV (fun hk=>?_) (fun hk=>?_)
 ·have hk:k < l.length:=by omega
  rw[bX hk,nF] at hr
  obtain⟨x,hx1,hx2,hx3,hx4,hx5⟩:=hv.at hk
  (repeat(first|refine zzB ?_|apply aD|apply aE|with_reducible first|apply aG|apply aF|apply aK|apply aH|apply aJ|apply aI|apply aL|apply aC))
  refine aA (hv.ix _ hk) (aA hx3 ?_)
  refine hf k hk x _ _ hx1 (by omega) fun n hn=>?_
  cases hc:q l[k] with
  | true =>
   rw[hc,if_pos rfl] at hr
   (repeat(first|refine zzB ?_|apply aD|apply aE|with_reducible first|apply aG|apply aF|apply aK|apply aH|apply aJ|apply aI|apply aL|apply aC))
   refine hx _ _ _ _ (fun e=>by cases e) (eS ?_)
   exact⟨_,Sub.refl _,ki hK hr.symm (by omega)⟩
  | false =>
   rw[hc,if_neg (by decide)] at hr
   (repeat(first|refine zzB ?_|apply aD|apply aE|with_reducible first|apply aG|apply aF|apply aK|apply aH|apply aJ|apply aI|apply aL|apply aC))
   exact hq (j - 1) _ _ _ _ (by omega) ⟨k+1,by omega,by omega,rfl,e0,e1,e7,rfl,hr⟩ (Sub.refl _)
 ·(repeat(first|refine zzB ?_|apply aD|apply aE|with_reducible first|apply aG|apply aF|apply aK|apply aH|apply aJ|apply aI|apply aL|apply aC))
  refine hx _ _ _ _ (fun e=>by cases e) (eD (cQ ?_))
  unfold fF
  rw[gJ (by omega)] at hr
  exact⟨_,Sub.refl _,ki hK hr.symm (by omega)⟩
theorem zM {ro:Ro}{v f:Value}{D:Type}{l:List D}{R:List Value→D→Prop}{q:D→Bool} (hlen:l.length≤1000000) {h:T Obj}{nx:Nat}{K:KV} (hv:SlR ro h v 2 R l)
  (hf:∀ (i:Nat) (hi:i < l.length) x n K',R x l[i]→nx≤n→(∀ n',n≤n'→K' (.bool (q l[i])) h n')→xK (aN Tryz.prog ro) f [.agg x.toArray] h n K')
  (hK:∀ nx',nx≤nx'→K (.bool (l.any q)) h nx'):aN Tryz.prog ro eX [v,f] h nx K:=by
 apply k9
 unfold hG
 refine aBv hlen hv (fun i hi x n K' hx hn hk=>hf i hi x n K' hx (by omega) hk) fun n hn=>?_
 rw[← zC q l 0 (by omega)] at hK
 (first | refine cV (fun hb=>?_) (fun hb=>?_) | refine aDt (fun hb=>?_) (fun hb=>?_) | refine lK (fun hb=>?_) (fun hb=>?_) | refine uY (fun hb=>?_) (fun hb=>?_) | refine sD (fun hb=>?_) (fun hb=>?_) | refine pW (fun hb=>?_) (fun hb=>?_))
 ·exact⟨_,Sub.refl _,kb hK (decide_eq_true hb) (by omega)⟩
 ·exact⟨_,Sub.refl _,kb hK (decide_eq_false (by omega)) (by omega)⟩
theorem aB6 {ro:Ro}{v f:Value}{D:Type}{l:List D}{R:List Value→D→Prop}{q:D→Bool} (hlen:l.length≤1000000) {h:T Obj}{nx:Nat}{K:KV} (hv:SlR ro h v 4 R l)
  (hf:∀ (i:Nat) (hi:i < l.length) x n K',R x l[i]→nx≤n→(∀ n',n≤n'→K' (.bool (q l[i])) h n')→xK (aN Tryz.prog ro) f [.agg x.toArray] h n K')
  (hK:∀ nx',nx≤nx'→K (.int .i64 (oY q 0 l)) h nx'):aN Tryz.prog ro fD [v,f] h nx K:=by
 apply lE
 unfold iC
 generalize hR:oY q 0 l=r at hK
 refine aA hv.len ?_
 refine bE (fun j e h' nx'=>∃ (k:Nat),k+j=l.length∧nx≤nx'∧h'=h∧e 0=v∧e 1=f∧e 7=.int .i64 l.length∧e 8=.int .i64 k∧oY q k (l.drop k)=r) ?_ (n:=l.length) ⟨0,by omega,by omega,rfl,rfl,rfl,rfl,rfl,hR⟩
 rintro j e h' nx' ⟨k,hj,hnx,rfl,e0,e1,e7,e8,hr⟩ Q' hq hx
 unfold gS
 rw[e0,e1,e7,e8]
 refine cV (fun hk=>?_) (fun hk=>?_)
 ·have hk:k < l.length:=by omega
  rw[bX hk,nF] at hr
  obtain⟨x,hx1,hx2,hx3,hx4,hx5⟩:=hv.at hk
  (repeat(first|refine zzB ?_|apply aD|apply aE|with_reducible first|apply aG|apply aF|apply aK|apply aH|apply aJ|apply aI|apply aL|apply aC))
  refine aA (hv.ix _ hk) (aA hx3 ?_)
  refine hf k hk x _ _ hx1 (by omega) fun n hn=>?_
  cases hc:q l[k] with
  | true =>
   rw[hc,if_pos rfl] at hr
   (repeat(first|refine zzB ?_|apply aD|apply aE|with_reducible first|apply aG|apply aF|apply aK|apply aH|apply aJ|apply aI|apply aL|apply aC))
   refine hx _ _ _ _ (fun e=>by cases e) (eS ?_)
   exact⟨_,Sub.refl _,ki hK hr.symm (by omega)⟩
  | false =>
   rw[hc,if_neg (by decide)] at hr
   (repeat(first|refine zzB ?_|apply aD|apply aE|with_reducible first|apply aG|apply aF|apply aK|apply aH|apply aJ|apply aI|apply aL|apply aC))
   exact hq (j - 1) _ _ _ _ (by omega) ⟨k+1,by omega,by omega,rfl,e0,e1,e7,rfl,hr⟩ (Sub.refl _)
 ·(repeat(first|refine zzB ?_|apply aD|apply aE|with_reducible first|apply aG|apply aF|apply aK|apply aH|apply aJ|apply aI|apply aL|apply aC))
  refine hx _ _ _ _ (fun e=>by cases e) (eD (cQ ?_))
  unfold fA
  rw[gJ (by omega)] at hr
  exact⟨_,Sub.refl _,ki hK hr.symm (by omega)⟩
theorem qD {ro:Ro}{v f:Value}{D:Type}{l:List D}{R:List Value→D→Prop}{q:D→Bool} (hlen:l.length≤1000000) {h:T Obj}{nx:Nat}{K:KV} (hv:SlR ro h v 4 R l)
  (hf:∀ (i:Nat) (hi:i < l.length) x n K',R x l[i]→nx≤n→(∀ n',n≤n'→K' (.bool (q l[i])) h n')→xK (aN Tryz.prog ro) f [.agg x.toArray] h n K')
  (hK:∀ nx',nx≤nx'→K (.bool (l.any q)) h nx'):aN Tryz.prog ro dP [v,f] h nx K:=by
 apply kR
 unfold gQ
 refine aB6 hlen hv (fun i hi x n K' hx hn hk=>hf i hi x n K' hx (by omega) hk) fun n hn=>?_
 rw[← zC q l 0 (by omega)] at hK
 (first | refine cV (fun hb=>?_) (fun hb=>?_) | refine aDt (fun hb=>?_) (fun hb=>?_) | refine lK (fun hb=>?_) (fun hb=>?_) | refine uY (fun hb=>?_) (fun hb=>?_) | refine sD (fun hb=>?_) (fun hb=>?_) | refine pW (fun hb=>?_) (fun hb=>?_))
 ·exact⟨_,Sub.refl _,kb hK (decide_eq_true hb) (by omega)⟩
 ·exact⟨_,Sub.refl _,kb hK (decide_eq_false (by omega)) (by omega)⟩
set_option maxRecDepth 8000 in
theorem aAs {ro:Ro}{c:List Nat}{n:Int}{cv sv lv rv uv nv ov:Value}{S:List StateD}{R:List Int}{m:MoveD}{i1 i2:Nat} (hc:c.length=256) (hSl:S.length≤256) (hR:R.length≤3) (hmo:m.ops.length≤kN) {h:T Obj}{nx:Nat}{K:KV} (hf:Fr h nx)
  (g1:h.get i1=some (.cells (eA c n cv sv).toArray dZ)) (g2:h.get i2=some (.cells #[lv,rv,uv,nv] bD)) (hS:SlR ro h sv 4 (eG ro h) S) (hrv:ZI ro h rv R) (hov:SlR ro h ov 1 RU8 m.ops) (hK:∀ nx',nx≤nx'→K (.bool (!hZ S R m)) h nx'):aN Tryz.prog ro fX [.agg #[.int .i64 m.to,ov],ptr i1,ptr i2] h nx K:=by
 apply uR
 unfold pQ
 refine eJ hf (Nat.le_refl _) fun h1 hs1 hf1 g3 _=>?_
 have g3:h1.get nx=some (.cells #[.int .i64 m.to,ov] cE):=g3
 refine aA (dF (hs1 _ _ g1) (cS hc)) ?_
 refine aA (dF (l:=[lv,rv,uv,nv]) (hs1 _ _ g2) rfl) ?_
 refine aA (dF (l:=[.int .i64 m.to,ov]) g3 rfl) ?_
 refine aD2 hc hSl hR hmo (hf1.mono (by omega)) (hS.sub hs1 (eG.sub hs1)) (hrv.sub hs1) (hov.sub hs1 fun _ _ h=>h) fun n hn=>?_
 (repeat(first|refine zzB ?_|apply aD|apply aE|with_reducible first|apply aG|apply aF|apply aK|apply aH|apply aJ|apply aI|apply aL|apply aC))
 exact⟨h,hs1,hK _ (by omega)⟩
set_option maxRecDepth 8000 in
set_option maxHeartbeats 1000000 in
theorem aCl {ro:Ro}{c:List Nat}{n:Int}{cv sv lv rv uv nv:Value}{S:List StateD}{C:List (Int × Int)}{s:StateD} (hc:c.length=256) (hn:n≤256) (hSl:S.length≤256) (hC:C.length≤512) (hsr:s.r.length≤kN) {h:T Obj}{nx:Nat}{K:KV} (hf:Fr h nx)
  (hcv:SlR ro h cv 2 vM C) (hS:SlR ro h sv 4 (eG ro h) S) (h1:ZI ro h lv s.l) (h2:ZI ro h rv s.r) (h3:ZI ro h uv s.rule) (h4:SlR ro h nv 1 (rT ro h) s.next)
  (hK:∀ nx',nx≤nx'→K (.bool (gU S n C.length s)) h nx'):aN Tryz.prog ro lL [.agg (eA c n cv sv).toArray,.agg #[lv,rv,uv,nv]] h nx K:=by
 apply wX
 unfold rX
 refine eJ hf (Nat.le_refl _) fun p1 hs1 hf1 g1 _=>?_
 refine eJ hf1 (Nat.le_refl _) fun p2 hs2 hf2 g2 _=>?_
 have g1:p2.get nx=some (.cells (eA c n cv sv).toArray dZ):=hs2 _ _ g1
 have g2:p2.get (nx+1)=some (.cells #[lv,rv,uv,nv] bD):=g2
 have hs:=hs1.trans hs2
 have hS:=hS.sub hs (eG.sub hs)
 have hcv:=hcv.sub hs fun _ _ h=>h
 have h1:=h1.sub hs
 have h2:=h2.sub hs
 have h3:=h3.sub hs
 have h4:=h4.sub hs (rT.sub hs)
 have hsg:=iF (n:=n) (cv:=cv) (sv:=sv) hc
 have hcg:=lF (n:=n) (cv:=cv) (sv:=sv) hc
 have hmg:=aFW (n:=n) (cv:=cv) (sv:=sv) hc
 have l1:=h1.len
 have l2:=h2.len
 have l3:=h3.len
 have l4:=h4.len
 have lc:=hcv.len
 have hno:∀ n',gU S n C.length s=false→nx≤n'→∃ h',Sub h' p2∧K (.bool false) h' n':=fun n' e hn=>⟨h,hs,kb hK e hn⟩
 unfold gU at hno hK
 (repeat(first|refine aA (by simp (disch:=first|omega|exact nnN _|assumption) only [BB,B2,↓reduceIte,Nat.reduceLeDiff,Nat.reduceAdd,CC,g2,l2]<;>rfl) ?_|apply aD|apply aE|with_reducible first|apply aG|apply aF|apply aK|apply aH|apply aJ|apply aI|apply aL|apply aC))
 refine aGF fun n1 hn1=>?_
 have hcl:=aAv s.r.length
 have hcf:=aBg (m:=s.r.length)
 generalize j6 s.r.length=cd at hno hK hcl hcf
 refine sD (fun u1=>?_) (fun u1=>?_)
 ·(repeat(first|refine zzB ?_|apply aD|apply aE|with_reducible first|apply aG|apply aF|apply aK|apply aH|apply aJ|apply aI|apply aL|apply aC))
  exact hno _ (by rw[decide_eq_false (by omega)]; rfl) (by omega)
 ·rw[decide_eq_true u1,Bool.true_and] at hno hK
  have hcf:=hcf u1
  (repeat(first|refine aA (by simp (disch:=first|omega|exact nnN _|assumption) only [BB,B2,↓reduceIte,Nat.reduceLeDiff,Nat.reduceAdd,CC,g2,l3]<;>rfl) ?_|apply aD|apply aE|with_reducible first|apply aG|apply aF|apply aK|apply aH|apply aJ|apply aI|apply aL|apply aC))
  refine pW (fun u2=>?_) (fun u2=>?_)
  ·(repeat(first|refine zzB ?_|apply aD|apply aE|with_reducible first|apply aG|apply aF|apply aK|apply aH|apply aJ|apply aI|apply aL|apply aC))
   exact hno _ (by rw[decide_eq_false (by omega)]; rfl) (by omega)
  ·rw[decide_eq_true u2,Bool.true_and] at hno hK
   (repeat(first|refine aA (by simp (disch:=first|omega|exact nnN _|assumption) only [BB,B2,↓reduceIte,Nat.reduceLeDiff,Nat.reduceAdd,CC,g2,l4]<;>rfl) ?_|apply aD|apply aE|with_reducible first|apply aG|apply aF|apply aK|apply aH|apply aJ|apply aI|apply aL|apply aC))
   refine pW (fun u3=>?_) (fun u3=>?_)
   ·(repeat(first|refine zzB ?_|apply aD|apply aE|with_reducible first|apply aG|apply aF|apply aK|apply aH|apply aJ|apply aI|apply aL|apply aC))
    exact hno _ (by rw[decide_eq_false (by omega)]; rfl) (by omega)
   ·rw[decide_eq_true u3,Bool.true_and] at hno hK
    (repeat(first|refine aA (by simp (disch:=first|omega|exact nnN _|assumption) only [BB,B2,↓reduceIte,Nat.reduceLeDiff,Nat.reduceAdd,CC,g2]<;>rfl) ?_|apply aD|apply aE|with_reducible first|apply aG|apply aF|apply aK|apply aH|apply aJ|apply aI|apply aL|apply aC))
    refine aAq (by omega) h1 fun n2 hn2=>?_
    cases u4:rz (-1) 512 s.l with
    | false =>
     (repeat(first|refine zzB ?_|apply aD|apply aE|with_reducible first|apply aG|apply aF|apply aK|apply aH|apply aJ|apply aI|apply aL|apply aC))
     exact hno _ (by rw[u4]; rfl) (by omega)
    | true =>
     rw[u4,Bool.true_and] at hno hK
     (repeat(first|refine aA (by simp (disch:=first|omega|exact nnN _|assumption) only [BB,B2,↓reduceIte,Nat.reduceLeDiff,Nat.reduceAdd,CC,g1,g2,hcg,lc]<;>rfl) ?_|apply aD|apply aE|with_reducible first|apply aG|apply aF|apply aK|apply aH|apply aJ|apply aI|apply aL|apply aC))
     refine aAq (by omega) h2 fun n3 hn3=>?_
     cases u5:rz (-1) C.length s.r with
     | false =>
      (repeat(first|refine zzB ?_|apply aD|apply aE|with_reducible first|apply aG|apply aF|apply aK|apply aH|apply aJ|apply aI|apply aL|apply aC))
      exact hno _ (by rw[u5]; rfl) (by omega)
     | true =>
      rw[u5,Bool.true_and] at hno hK
      (repeat(first|refine aA (by simp (disch:=first|omega|exact nnN _|assumption) only [BB,B2,↓reduceIte,Nat.reduceLeDiff,Nat.reduceAdd,CC,g2,l4]<;>rfl) ?_|apply aD|apply aE|with_reducible first|apply aG|apply aF|apply aK|apply aH|apply aJ|apply aI|apply aL|apply aC))
      generalize hB:oN S s.r n s.rule s.next=B at hno hK
      refine bE (fun j e h' nx'=>∃ (k:Nat),k+j=s.next.length∧n3≤nx'∧h'=p2∧e 2=ptr nx∧e 3=ptr (nx+1)∧e 45=nv∧e 46=.int .i64 s.next.length∧e 47=.int .i64 k∧oN S s.r n (s.rule.drop k) (s.next.drop k)=B) ?_ (n:=s.next.length) ⟨0,by omega,by omega,rfl,rfl,rfl,rfl,rfl,rfl,hB⟩
      rintro j e h' nx' ⟨k,hj,hnx,rfl,e2,e3,e45,e46,e47,hr⟩ Q' hq hx
      unfold oV
      rw[e2,e3,e45,e46,e47]
      refine cV (fun hk=>?_) (fun hk=>?_)
      ·have hk:k < s.next.length:=by omega
       have hk2:k < s.rule.length:=by omega
       rw[bX hk,bX hk2,pZ] at hr
       have nix:=h4.ix .i64 hk
       obtain⟨w,⟨w',ow,orow,olen⟩,o1⟩:=h4.at1 hk
       simp only[List.cons.injEq,and_true] at ow
       subst ow
       have uix:=h3.ix .i64 hk2
       have uld:=h3.load hk2
       generalize s.next[k]=row at hr o1 orow olen
       generalize s.rule[k]=ru at hr uld
       have rl:=orow.len
       have hfin:∀ (e':Env) n',e' 4=.bool false→wV S s.r n ru row=false→nx≤n'→Q' .ret e' h' n':=fun e' n' h6 hc hn=>by
        refine hx _ _ _ _ (fun e=>by cases e) (eS ?_)
        rw[h6]
        refine⟨h,hs,kb hK ?_ hn⟩
        rw[← hr,hc]; rfl
       have hok:∀ (e':Env) n',e' 2=ptr nx→e' 3=ptr (nx+1)→e' 45=nv→e' 46=.int .i64 s.next.length→e' 47=.int .i64 ((k:Int)+1)→wV S s.r n ru row=true→n3≤n'→Q' .normal e' h' n':=fun e' n' f2 f3 f45 f46 f47 hc hn =>
        hq (j - 1) _ _ _ _ (by omega) ⟨k+1,by omega,hn,rfl,f2,f3,f45,f46,f47,by rw[← hr,hc]; rfl⟩ (Sub.refl _)
       unfold wV at hfin hok
       (repeat(first|refine aA (by simp (disch:=first|omega|exact nnN _|assumption) only [BB,B2,↓reduceIte,Nat.reduceLeDiff,Nat.reduceAdd,CC,g2,nix,o1,uix,uld]<;>rfl) ?_|apply aD|apply aE|with_reducible first|apply aG|apply aF|apply aK|apply aH|apply aJ|apply aI|apply aL|apply aC))
       refine cV (fun v1=>?_) (fun v1=>?_)
       ·(repeat(first|refine zzB ?_|apply aD|apply aE|with_reducible first|apply aG|apply aF|apply aK|apply aH|apply aJ|apply aI|apply aL|apply aC))
        exact hfin _ _ rfl (by rw[decide_eq_false (by omega)]; rfl) (by omega)
       ·rw[decide_eq_true v1,Bool.true_and] at hfin hok
        (repeat(first|refine aA (by simp (disch:=first|omega|exact nnN _|assumption) only [BB,B2,↓reduceIte,Nat.reduceLeDiff,Nat.reduceAdd,CC,g2,uix,uld]<;>rfl) ?_|apply aD|apply aE|with_reducible first|apply aG|apply aF|apply aK|apply aH|apply aJ|apply aI|apply aL|apply aC))
        refine uY (fun v2=>?_) (fun v2=>?_)
        ·(repeat(first|refine zzB ?_|apply aD|apply aE|with_reducible first|apply aG|apply aF|apply aK|apply aH|apply aJ|apply aI|apply aL|apply aC))
         exact hfin _ _ rfl (by rw[decide_eq_false (by omega)]; rfl) (by omega)
        ·rw[decide_eq_true v2,Bool.true_and] at hfin hok
         (repeat(first|refine aA (by simp (disch:=first|omega|exact nnN _|assumption) only [BB,B2,↓reduceIte,Nat.reduceLeDiff,Nat.reduceAdd,CC,g1,rl,hmg]<;>rfl) ?_|apply aD|apply aE|with_reducible first|apply aG|apply aF|apply aK|apply aH|apply aJ|apply aI|apply aL|apply aC))
         refine pW (fun v3=>?_) (fun v3=>?_)
         ·(repeat(first|refine zzB ?_|apply aD|apply aE|with_reducible first|apply aG|apply aF|apply aK|apply aH|apply aJ|apply aI|apply aL|apply aC))
          exact hfin _ _ rfl (by rw[decide_eq_false (by omega)]; rfl) (by omega)
         ·rw[decide_eq_true (by omega),Bool.true_and] at hfin hok
          (repeat(first|refine zzB ?_|apply aD|apply aE|with_reducible first|apply aG|apply aF|apply aK|apply aH|apply aJ|apply aI|apply aL|apply aC))
          refine zM (q:=fun m=>!hZ S s.r m) (by omega) orow (fun i hi x n' K' hx hn' hk'=>?_) fun n' hn'=>?_
          ·obtain⟨ov,rfl,y1,y2⟩:=hx
           exact aAs hc hSl (by omega) y2 (hf2.mono (by omega)) g1 g2 hS h2 y1 hk'
          ·rw[← aGB] at hfin hok
           cases hany:row.any fun m=>!hZ S s.r m with
           | true =>
            rw[hany] at hfin
            (repeat(first|refine zzB ?_|apply aD|apply aE|with_reducible first|apply aG|apply aF|apply aK|apply aH|apply aJ|apply aI|apply aL|apply aC))
            exact hfin _ _ rfl rfl (by omega)
           | false =>
            rw[hany] at hok
            (repeat(first|refine zzB ?_|apply aD|apply aE|with_reducible first|apply aG|apply aF|apply aK|apply aH|apply aJ|apply aI|apply aL|apply aC))
            exact hok _ _ e2 e3 e45 e46 rfl rfl (by omega)
      ·(repeat(first|refine zzB ?_|apply aD|apply aE|with_reducible first|apply aG|apply aF|apply aK|apply aH|apply aJ|apply aI|apply aL|apply aC))
       refine hx _ _ _ _ (fun e=>by cases e) (eD (cQ ?_))
       unfold kX
       rw[gJ (l:=s.next) (by omega),wG] at hr
       exact⟨h,hs,kb hK hr.symm (by omega)⟩
set_option maxRecDepth 8000 in
set_option maxHeartbeats 2000000 in
theorem aFK {ro:Ro}{c:List Nat}{n:Int}{cv sv lv rv uv nv:Value}{S:List StateD}{C:List (Int × Int)}{s:StateD} (hc:c.length=256) (hn:n≤256) (hSl:S.length≤256) (hC:C.length≤512) (hsr:s.r.length≤kN) {h:T Obj}{nx:Nat}{K:KV} (hf:Fr h nx)
  (hcv:SlR ro h cv 2 vM C) (hS:SlR ro h sv 4 (eG ro h) S) (h1:ZI ro h lv s.l) (h2:ZI ro h rv s.r) (h3:ZI ro h uv s.rule) (h4:SlR ro h nv 1 (rT ro h) s.next)
  (hK:∀ nx',nx≤nx'→K (.bool (gU S n C.length s)) h nx'):aN Tryz.prog ro uD [.agg (eA c n cv sv).toArray,.agg #[lv,rv,uv,nv]] h nx K:=by
 apply aET
 unfold aCa
 refine eJ hf (Nat.le_refl _) fun p1 hs1 hf1 g1 _=>?_
 refine eJ hf1 (Nat.le_refl _) fun p2 hs2 hf2 g2 _=>?_
 have g1:p2.get nx=some (.cells (eA c n cv sv).toArray bK):=hs2 _ _ g1
 have g2:p2.get (nx+1)=some (.cells #[lv,rv,uv,nv] bD):=g2
 have hs:=hs1.trans hs2
 have hS:=hS.sub hs (eG.sub hs)
 have hcv:=hcv.sub hs fun _ _ h=>h
 have h1:=h1.sub hs
 have h2:=h2.sub hs
 have h3:=h3.sub hs
 have h4:=h4.sub hs (rT.sub hs)
 have hsg:=iF (n:=n) (cv:=cv) (sv:=sv) hc
 have hcg:=lF (n:=n) (cv:=cv) (sv:=sv) hc
 have hmg:=aFW (n:=n) (cv:=cv) (sv:=sv) hc
 have LA:=dF (ro:=ro) (z:=0) (n:=259) (l:=eA c n cv sv) g1 (cS hc)
 have LS:=dF (ro:=ro) (z:=0) (n:=4) (l:=[lv,rv,uv,nv]) g2 rfl
 have l1:=h1.len
 have l2:=h2.len
 have l3:=h3.len
 have l4:=h4.len
 have lc:=hcv.len
 have hno:∀ n',gU S n C.length s=false→nx≤n'→∃ h',Sub h' p2∧K (.bool false) h' n':=fun n' e hn=>⟨h,hs,kb hK e hn⟩
 unfold gU at hno hK
 (repeat(first|refine aA (by simp (disch:=first|omega|exact nnN _|assumption) only [BB,B2,↓reduceIte,Nat.reduceLeDiff,Nat.reduceAdd,CC,g2,l2]<;>rfl) ?_|apply aD|apply aE|with_reducible first|apply aG|apply aF|apply aK|apply aH|apply aJ|apply aI|apply aL|apply aC))
 refine aFH fun n1 hn1=>?_
 have hcl:=aAv s.r.length
 have hcf:=aBg (m:=s.r.length)
 generalize j6 s.r.length=cd at hno hK hcl hcf
 refine sD (fun u1=>?_) (fun u1=>?_)
 ·(repeat(first|refine zzB ?_|apply aD|apply aE|with_reducible first|apply aG|apply aF|apply aK|apply aH|apply aJ|apply aI|apply aL|apply aC))
  exact hno _ (by rw[decide_eq_false (by omega)]; rfl) (by omega)
 ·rw[decide_eq_true u1,Bool.true_and] at hno hK
  have hcf:=hcf u1
  (repeat(first|refine aA (by simp (disch:=first|omega|exact nnN _|assumption) only [BB,B2,↓reduceIte,Nat.reduceLeDiff,Nat.reduceAdd,CC,g2]<;>rfl) ?_|apply aD|apply aE|with_reducible first|apply aG|apply aF|apply aK|apply aH|apply aJ|apply aI|apply aL|apply aC))
  refine aAH (by omega) h1 fun n2 hn2=>?_
  cases u4:rz (-1) 512 s.l with
  | false =>
   (repeat(first|refine zzB ?_|apply aD|apply aE|with_reducible first|apply aG|apply aF|apply aK|apply aH|apply aJ|apply aI|apply aL|apply aC))
   exact hno _ (by rw[u4]; simp) (by omega)
  | true =>
   rw[u4,Bool.true_and] at hno hK
   (repeat(first|refine aA (by simp (disch:=first|omega|exact nnN _|assumption) only [BB,B2,↓reduceIte,Nat.reduceLeDiff,Nat.reduceAdd,CC,g1,g2,hcg,lc]<;>rfl) ?_|apply aD|apply aE|with_reducible first|apply aG|apply aF|apply aK|apply aH|apply aJ|apply aI|apply aL|apply aC))
   refine aAH (by omega) h2 fun n3 hn3=>?_
   cases u5:rz (-1) C.length s.r with
   | false =>
    (repeat(first|refine zzB ?_|apply aD|apply aE|with_reducible first|apply aG|apply aF|apply aK|apply aH|apply aJ|apply aI|apply aL|apply aC))
    exact hno _ (by rw[u5]; simp) (by omega)
   | true =>
    rw[u5,Bool.true_and] at hno hK
    (repeat(first|refine aA (by simp (disch:=first|omega|exact nnN _|assumption) only [BB,B2,↓reduceIte,Nat.reduceLeDiff,Nat.reduceAdd,CC,g2,l3]<;>rfl) ?_|apply aD|apply aE|with_reducible first|apply aG|apply aF|apply aK|apply aH|apply aJ|apply aI|apply aL|apply aC))
    refine pW (fun u2=>?_) (fun u2=>?_)
    ·(repeat(first|refine zzB ?_|apply aD|apply aE|with_reducible first|apply aG|apply aF|apply aK|apply aH|apply aJ|apply aI|apply aL|apply aC))
     exact hno _ (by rw[decide_eq_false (by omega)]; rfl) (by omega)
    ·rw[decide_eq_true u2,Bool.true_and] at hno hK
     (repeat(first|refine aA (by simp (disch:=first|omega|exact nnN _|assumption) only [BB,B2,↓reduceIte,Nat.reduceLeDiff,Nat.reduceAdd,CC,g2,l4]<;>rfl) ?_|apply aD|apply aE|with_reducible first|apply aG|apply aF|apply aK|apply aH|apply aJ|apply aI|apply aL|apply aC))
     refine pW (fun u3=>?_) (fun u3=>?_)
     ·(repeat(first|refine zzB ?_|apply aD|apply aE|with_reducible first|apply aG|apply aF|apply aK|apply aH|apply aJ|apply aI|apply aL|apply aC))
      exact hno _ (by rw[decide_eq_false (by omega)]; rfl) (by omega)
     ·rw[decide_eq_true u3,Bool.true_and] at hno hK
      (repeat(first|refine zzB ?_|apply aD|apply aE|with_reducible first|apply aG|apply aF|apply aK|apply aH|apply aJ|apply aI|apply aL|apply aC))
      generalize hB:oN S s.r n s.rule s.next=B at hno hK
      refine bE (fun j e h' nx'=>∃ (k:Nat),k+j=s.next.length∧n3≤nx'∧h'=p2∧e 2=ptr nx∧e 3=ptr (nx+1)∧e 5=.int .i64 cd∧e 6=.int .i64 k∧oN S s.r n (s.rule.drop k) (s.next.drop k)=B) ?_ (n:=s.next.length) ⟨0,by omega,by omega,rfl,rfl,rfl,rfl,rfl,hB⟩
      rintro j e h' nx' ⟨k,hj,hnx,rfl,e2,e3,e5,e6,hr⟩ Q' hq hx
      unfold yJ
      rw[e2,e3,e5,e6]
      refine cV (fun hk=>?_) (fun hk=>?_)
      ·have hk:k < s.next.length:=by omega
       have hk2:k < s.rule.length:=by omega
       rw[bX hk,bX hk2,pZ] at hr
       have nix:=h4.ix .i64 hk
       obtain⟨w,⟨w',ow,orow,olen⟩,o1⟩:=h4.at1 hk
       simp only[List.cons.injEq,and_true] at ow
       subst ow
       have uix:=h3.ix .i64 hk2
       have uld:=h3.load hk2
       generalize s.next[k]=row at hr o1 orow olen
       generalize s.rule[k]=ru at hr uld
       have rl:=orow.len
       have hfin:∀ (e':Env) n',e' 4=.bool false→wV S s.r n ru row=false→nx≤n'→Q' .ret e' h' n':=fun e' n' h6 hc hn=>by
        refine hx _ _ _ _ (fun e=>by cases e) (eS ?_)
        rw[h6]
        refine⟨h,hs,kb hK ?_ hn⟩
        rw[← hr,hc]; rfl
       have hok:∀ (e':Env) n',e' 2=ptr nx→e' 3=ptr (nx+1)→e' 5=.int .i64 cd→e' 6=.int .i64 ((k:Int)+1)→wV S s.r n ru row=true→n3≤n'→Q' .normal e' h' n':=fun e' n' f2 f3 f5 f6 hc hn =>
        hq (j - 1) _ _ _ _ (by omega) ⟨k+1,by omega,hn,rfl,f2,f3,f5,f6,by rw[← hr,hc]; rfl⟩ (Sub.refl _)
       unfold wV at hfin hok
       (repeat(first|refine aA (by simp (disch:=first|omega|exact nnN _|assumption) only [BB,B2,↓reduceIte,Nat.reduceLeDiff,Nat.reduceAdd,CC,g2,uix,uld]<;>rfl) ?_|apply aD|apply aE|with_reducible first|apply aG|apply aF|apply aK|apply aH|apply aJ|apply aI|apply aL|apply aC))
       refine cV (fun v1=>?_) (fun v1=>?_)
       ·(repeat(first|refine zzB ?_|apply aD|apply aE|with_reducible first|apply aG|apply aF|apply aK|apply aH|apply aJ|apply aI|apply aL|apply aC))
        exact hfin _ _ rfl (by rw[decide_eq_false (by omega)]; rfl) (by omega)
       ·rw[decide_eq_true v1,Bool.true_and] at hfin hok
        (repeat(first|refine aA (by simp (disch:=first|omega|exact nnN _|assumption) only [BB,B2,↓reduceIte,Nat.reduceLeDiff,Nat.reduceAdd,CC,g2,uix,uld]<;>rfl) ?_|apply aD|apply aE|with_reducible first|apply aG|apply aF|apply aK|apply aH|apply aJ|apply aI|apply aL|apply aC))
        refine uY (fun v2=>?_) (fun v2=>?_)
        ·(repeat(first|refine zzB ?_|apply aD|apply aE|with_reducible first|apply aG|apply aF|apply aK|apply aH|apply aJ|apply aI|apply aL|apply aC))
         exact hfin _ _ rfl (by rw[decide_eq_false (by omega)]; rfl) (by omega)
        ·rw[decide_eq_true v2,Bool.true_and] at hfin hok
         (repeat(first|refine aA (by simp (disch:=first|omega|exact nnN _|assumption) only [BB,B2,↓reduceIte,Nat.reduceLeDiff,Nat.reduceAdd,CC,g1,g2,nix,o1,rl,hmg]<;>rfl) ?_|apply aD|apply aE|with_reducible first|apply aG|apply aF|apply aK|apply aH|apply aJ|apply aI|apply aL|apply aC))
         refine pW (fun v3=>?_) (fun v3=>?_)
         ·(repeat(first|refine zzB ?_|apply aD|apply aE|with_reducible first|apply aG|apply aF|apply aK|apply aH|apply aJ|apply aI|apply aL|apply aC))
          exact hfin _ _ rfl (by rw[decide_eq_false (by omega)]; rfl) (by omega)
         ·rw[decide_eq_true (by omega),Bool.true_and] at hfin hok
          (repeat(first|refine zzB ?_|apply aD|apply aE|with_reducible first|apply aG|apply aF|apply aK|apply aH|apply aJ|apply aI|apply aL|apply aC))
          generalize hA:row.all (hZ S s.r)=A at hfin hok
          refine bE (fun j e h'' nx'=>∃ (q:Nat),q+j=row.length∧n3≤nx'∧h''=h'∧e 2=ptr nx∧e 3=ptr (nx+1)∧e 5=.int .i64 cd∧e 6=.int .i64 k∧e 7=.int .i64 q∧(row.drop q).all (hZ S s.r)=A) ?_ (n:=row.length) ⟨0,by omega,by omega,rfl,e2,e3,e5,e6,rfl,hA⟩
          rintro j2 e' h'' nx2 ⟨q,hj2,hnx2,rfl,f2,f3,f5,f6,f7,hr2⟩ Q2 hq2 hx
          unfold yK
          rw[f2,f3,f6,f7]
          (repeat(first|refine aA (by simp (disch:=first|omega|exact nnN _|assumption) only [BB,B2,↓reduceIte,Nat.reduceLeDiff,Nat.reduceAdd,CC,g2,nix,o1,rl]<;>rfl) ?_|apply aD|apply aE|with_reducible first|apply aG|apply aF|apply aK|apply aH|apply aJ|apply aI|apply aL|apply aC))
          refine cV (fun hk3=>?_) (fun hk3=>?_)
          ·have hk3:q < row.length:=by omega
           rw[bX hk3,List.all_cons] at hr2
           have qix:=orow.ix .i64 hk3
           obtain⟨x,⟨ov,rfl,y1,y2⟩,hx2,hx3,hx4,hx5⟩:=orow.at hk3
           generalize row[q]=m at hr2 y1 y2 hx3 hx5
           (repeat(first|refine aA (by simp (disch:=first|omega|exact nnN _|assumption) only [BB,B2,↓reduceIte,Nat.reduceLeDiff,Nat.reduceAdd,CC,LA,LS,g2,nix,o1,qix,hx3]<;>rfl) ?_|apply aD|apply aE|with_reducible first|apply aG|apply aF|apply aK|apply aH|apply aJ|apply aI|apply aL|apply aC))
           refine aGr hc hSl (by omega) y2 (hf2.mono (by omega)) hS h2 y1 fun n4 hn4=>?_
           cases hm:hZ S s.r m with
           | true =>
            rw[hm,Bool.true_and] at hr2
            have hok2:∀ (e':Env) n',e' 2=ptr nx→e' 3=ptr (nx+1)→e' 5=.int .i64 cd→e' 6=.int .i64 k→e' 7=.int .i64 ((q:Int)+1)→n3≤n'→Q2 .normal e' h'' n':=fun e' n' z2 z3 z5 z6 z7 hn =>
             hq2 (j2 - 1) _ _ _ _ (by omega) ⟨q+1,by omega,hn,rfl,z2,z3,z5,z6,z7,hr2⟩ (Sub.refl _)
            (repeat(first|refine zzB ?_|apply aD|apply aE|with_reducible first|apply aG|apply aF|apply aK|apply aH|apply aJ|apply aI|apply aL|apply aC))
            exact hok2 _ _ f2 f3 f5 f6 rfl (by omega)
           | false =>
            rw[hm,Bool.false_and] at hr2
            subst hr2
            (repeat(first|refine zzB ?_|apply aD|apply aE|with_reducible first|apply aG|apply aF|apply aK|apply aH|apply aJ|apply aI|apply aL|apply aC))
            refine hx _ _ _ _ (fun e=>by cases e) (eS ?_)
            exact hfin _ _ rfl rfl (by omega)
          ·rw[gJ (by omega)] at hr2
           have hr2:true=A:=hr2
           subst hr2
           (repeat(first|refine zzB ?_|apply aD|apply aE|with_reducible first|apply aG|apply aF|apply aK|apply aH|apply aJ|apply aI|apply aL|apply aC))
           refine hx _ _ _ _ (fun e=>by cases e) (eD (cQ ?_))
           have hend:∀ (e':Env) n',e' 2=ptr nx→e' 3=ptr (nx+1)→e' 5=.int .i64 cd→e' 6=.int .i64 k→n3≤n'→lQ ro Q' e' h'' n':=fun e' n' z2 z3 z5 z6 hn=>by
            unfold lQ
            rw[z6]
            (repeat(first|refine zzB ?_|apply aD|apply aE|with_reducible first|apply aG|apply aF|apply aK|apply aH|apply aJ|apply aI|apply aL|apply aC))
            exact hok _ _ z2 z3 z5 rfl rfl (by omega)
           exact hend _ _ f2 f3 f5 f6 (by omega)
      ·(repeat(first|refine zzB ?_|apply aD|apply aE|with_reducible first|apply aG|apply aF|apply aK|apply aH|apply aJ|apply aI|apply aL|apply aC))
       refine hx _ _ _ _ (fun e=>by cases e) (eD (cQ ?_))
       unfold sY
       rw[gJ (l:=s.next) (by omega),wG] at hr
       exact⟨h,hs,kb hK hr.symm (by omega)⟩
theorem SlR.okC {D:Type}{ro:Ro}{h:T Obj}{v:Value}{z:Nat}{R:List Value→D→Prop}{l:List D} (hl:SlR ro h v z R l):cU v=true:=by obtain⟨cs,h9,_⟩:=hl; exact h9.ok
def m6 (p:Int × Int):Bool:=decide (1≤p.1)&&(decide (p.1≤p.2)&&(decide (2≤p.2)&&decide (p.2≤4096)))
def zD (S:List StateD):Bool:=decide ((S.getD 0 noS).l.length=0)&&decide ((S.getD 0 noS).r.length=0)
def fH (d:AutoD):Bool:=oM d.c d.many&&(decide (d.counts.length≤512)&&(decide (1≤d.states.length)&&(decide (d.states.length≤256)&&(zD d.states&&(d.counts.all m6&&d.states.all (gU d.states d.many d.counts.length))))))
theorem aAd {c:List Nat}{n:Int} (h:oM c n=true):n≤256:=by
 unfold oM at h
 split at h
 ·rename_i m hm
  have:=aK1 hm
  simp only[decide_eq_true_eq] at h
  omega
 ·cases h
theorem aK3:∀ {l:List Int}{a m:Int},rz a m l=true→(l.length:Int)≤max 0 (m - a - 1)
 | [],a,m,_=>by simp only[List.length_nil]; omega
 | x::r,a,m,h=>by
  rw[aDK] at h
  simp only[Bool.and_eq_true,decide_eq_true_eq] at h
  have:=aK3 h.2.2
  rw[List.length_cons]
  omega
theorem aFv {S:List StateD}{n:Int}{cn:Nat}{s:StateD} (h:gU S n cn s=true):s.l.length≤512∧s.r.length≤3:=by
 unfold gU at h
 simp only[Bool.and_eq_true,decide_eq_true_eq] at h
 have h1:=aK3 h.2.2.2.1
 have h2:=aBg h.1
 omega
theorem aPp {a b:Nat} (h:wr .i64 ((a:Int)+b)≤0):a+b=0∨9223372036854775807 < a+b:=by
 rcases Nat.lt_or_ge 9223372036854775807 (a+b) with h1 | h1
 ·exact .inr h1
 ·rw[fB (by omega) (by omega)] at h
  exact .inl (by omega)
theorem aOd {a b:Nat} (h:0 < wr .i64 ((a:Int)+b)):a≠0∨b≠0:=by
 rcases Nat.eq_zero_or_pos (a+b) with h1 | h1
 ·rw[show (a:Int)+b=0 by omega] at h
  exact absurd h (by decide)
 ·omega
theorem aEq {c:List Nat}{n:Int}{cv sv:Value} (hc:c.length=256):fJ Tryz.prog dZ [(0,.agg (eA c n cv sv).toArray)]=some (.agg (eA c n cv sv).toArray):=by
 have h1:((zer Tryz.prog dZ).bind fun z=>match z with
  | .agg a=>if a.size=259 then some true else none
  | _=>none)=some true:=by kernel_rfl
 have h2:((und Tryz.prog dZ).bind fun d=>match d with
  | .struct fs=>oF Tryz.prog fs.toList
  | _=>none)=some [(0,259)]:=by kernel_rfl
 obtain⟨z,h1,h4⟩:=aM h1
 cases z<;>try (cases h4; done)
 rename_i z
 simp only at h4
 split at h4
 ·rename_i h5
  obtain⟨d,h2,h3⟩:=aM h2
  cases d<;>try (cases h3; done)
  rename_i fs
  simp only at h3
  unfold fJ
  rw[h1]
  simp only[Option.bind,h2,h3]
  have hl:=cS (n:=n) (cv:=cv) (sv:=sv) hc
  have hz:z.toList.length=259:=by simpa using h5
  have e1:Nat.beq (eA c n cv sv).toArray.size 259=true:=by simp[hl]
  have e2:Nat.ble (0+259) z.toList.length=true:=by rw[hz]; rfl
  simp only[nK,List.getElem?_cons_zero,Option.bind,Value.cells_agg,e1,e2]
  rw[aIO (by rw[hz]; simpa using hl)]
 ·cases h4
theorem aIs:∃ z,zer Tryz.prog dZ=some z∧z.cells.size=259:=by
 have h1:((zer Tryz.prog dZ).bind fun z=>if z.cells.size=259 then some true else none)=some true:=by kernel_rfl
 obtain⟨z,h1,h4⟩:=aM h1
 split at h4
 ·exact⟨z,h1,by assumption⟩
 ·cases h4
theorem aHE:zer Tryz.prog gL=some (.agg #[.int .i64 0,.int .i64 0]):=by kernel_rfl
set_option maxRecDepth 8000 in
theorem aDU {ro:Ro}{c:List Nat}{n:Int}{cv sv lv rv uv nv:Value}{S:List StateD}{C:List (Int × Int)}{s:StateD}{i1:Nat} (hc:c.length=256) (hn:n≤256) (hSl:S.length≤256) (hC:C.length≤512) (hsr:s.r.length≤kN) {h:T Obj}{nx:Nat}{K:KV} (hf:Fr h nx)
  (g1:h.get i1=some (.cells (eA c n cv sv).toArray dZ)) (hcv:SlR ro h cv 2 vM C) (hS:SlR ro h sv 4 (eG ro h) S) (h1:ZI ro h lv s.l) (h2:ZI ro h rv s.r) (h3:ZI ro h uv s.rule) (h4:SlR ro h nv 1 (rT ro h) s.next)
  (hK:∀ nx',nx≤nx'→K (.bool (!gU S n C.length s)) h nx'):aN Tryz.prog ro sL [.agg #[lv,rv,uv,nv],ptr i1] h nx K:=by
 apply aCk
 unfold aAo
 refine eJ hf (Nat.le_refl _) fun p1 hs1 hf1 g3 _=>?_
 have g3:p1.get nx=some (.cells #[lv,rv,uv,nv] bD):=g3
 refine aA (dF (hs1 _ _ g1) (cS hc)) ?_
 refine aA (dF (l:=[lv,rv,uv,nv]) g3 rfl) ?_
 refine aCl hc hn hSl hC hsr (hf1.mono (by omega)) (hcv.sub hs1 fun _ _ h=>h) (hS.sub hs1 (eG.sub hs1)) (h1.sub hs1) (h2.sub hs1) (h3.sub hs1) (h4.sub hs1 (rT.sub hs1)) fun n hn=>?_
 (repeat(first|refine zzB ?_|apply aD|apply aE|with_reducible first|apply aG|apply aF|apply aK|apply aH|apply aJ|apply aI|apply aL|apply aC))
 exact⟨h,hs1,hK _ (by omega)⟩
set_option maxRecDepth 8000 in
set_option maxHeartbeats 2000000 in
theorem aAp {ro:Ro}{x:List Value}{d:AutoD}{h:T Obj}{nx:Nat}{K:KV} (hf:Fr h nx) (hd:qN ro h x d) (hK:∀ nx',nx≤nx'→K (.bool (fH d)) h nx'):aN Tryz.prog ro qZ [.agg x.toArray] h nx K:=by
 obtain⟨cv,sv,rfl,hc,hcl,hcv,hS,hb1,hb2⟩:=hd
 obtain⟨c,n,C,S⟩:=d
 simp only at hc hcl hcv hS hb1 hb2
 dsimp only
 apply aEn
 unfold aDT
 refine eJ hf (Nat.le_refl _) fun p1 hs hf1 g1 _=>?_
 have g1:p1.get nx=some (.cells (eA c n cv sv).toArray bK):=g1
 have hS:=hS.sub hs (eG.sub hs)
 have hcv:=hcv.sub hs fun _ _ h=>h
 have hsg:=iF (n:=n) (cv:=cv) (sv:=sv) hc
 have hcg:=lF (n:=n) (cv:=cv) (sv:=sv) hc
 have lc:=hcv.len
 have ls:=hS.len
 have hno:∀ n',fH ⟨c,n,C,S⟩=false→nx≤n'→∃ h',Sub h' p1∧K (.bool false) h' n':=fun n' e hn=>⟨h,hs,kb hK e hn⟩
 unfold fH at hno hK
 dsimp only at hno hK
 (repeat(first|refine zzB ?_|apply aD|apply aE|with_reducible first|apply aG|apply aF|apply aK|apply aH|apply aJ|apply aI|apply aL|apply aC))
 refine aA (aMf g1 hc) ?_
 refine aFP hc hcl (hf1.mono (by omega)) fun n1 hn1=>?_
 cases hr:oM c n with
 | false =>
  (repeat(first|refine zzB ?_|apply aD|apply aE|with_reducible first|apply aG|apply aF|apply aK|apply aH|apply aJ|apply aI|apply aL|apply aC))
  exact hno _ (by rw[hr]; rfl) (by omega)
 | true =>
  have hn:=aAd hr
  rw[hr,Bool.true_and] at hno hK
  (repeat(first|refine aA (by simp (disch:=first|omega|exact nnN _|assumption) only [BB,B2,↓reduceIte,Nat.reduceLeDiff,Nat.reduceAdd,CC,g1,hcg,lc]<;>rfl) ?_|apply aD|apply aE|with_reducible first|apply aG|apply aF|apply aK|apply aH|apply aJ|apply aI|apply aL|apply aC))
  refine lK (fun u1=>?_) (fun u1=>?_)
  ·(repeat(first|refine zzB ?_|apply aD|apply aE|with_reducible first|apply aG|apply aF|apply aK|apply aH|apply aJ|apply aI|apply aL|apply aC))
   exact hno _ (by rw[decide_eq_false (by omega)]; rfl) (by omega)
  ·have u1:C.length≤512:=by omega
   rw[decide_eq_true u1,Bool.true_and] at hno hK
   (repeat(first|refine aA (by simp (disch:=first|omega|exact nnN _|assumption) only [BB,B2,↓reduceIte,Nat.reduceLeDiff,Nat.reduceAdd,CC,g1,hsg,ls]<;>rfl) ?_|apply aD|apply aE|with_reducible first|apply aG|apply aF|apply aK|apply aH|apply aJ|apply aI|apply aL|apply aC))
   refine cV (fun u2=>?_) (fun u2=>?_)
   ·(repeat(first|refine zzB ?_|apply aD|apply aE|with_reducible first|apply aG|apply aF|apply aK|apply aH|apply aJ|apply aI|apply aL|apply aC))
    exact hno _ (by rw[decide_eq_false (by omega)]; rfl) (by omega)
   ·have u2:1≤S.length:=by omega
    rw[decide_eq_true u2,Bool.true_and] at hno hK
    (repeat(first|refine aA (by simp (disch:=first|omega|exact nnN _|assumption) only [BB,B2,↓reduceIte,Nat.reduceLeDiff,Nat.reduceAdd,CC,g1,hsg,ls]<;>rfl) ?_|apply aD|apply aE|with_reducible first|apply aG|apply aF|apply aK|apply aH|apply aJ|apply aI|apply aL|apply aC))
    refine lK (fun u3=>?_) (fun u3=>?_)
    ·(repeat(first|refine zzB ?_|apply aD|apply aE|with_reducible first|apply aG|apply aF|apply aK|apply aH|apply aJ|apply aI|apply aL|apply aC))
     exact hno _ (by rw[decide_eq_false (by omega)]; rfl) (by omega)
    ·have u3:S.length≤256:=by omega
     rw[decide_eq_true u3,Bool.true_and] at hno hK
     have h0:0 < S.length:=by omega
     have six:cM 4 sv (.int .i64 0)=some (iP 4 sv 0):=hS.ix .i64 (i:=0) h0
     obtain⟨x,⟨lv,rv,uv,nv,rfl,y1,y2,y3,y4,y5⟩,hx2,hx3,hx4,hx5⟩:=hS.at h0
     have q0:=hx5 0 lv rfl
     have q1:=hx5 1 rv rfl
     have ll:=y1.len
     have lr:=y2.len
     have hgd:S.getD 0 noS=S[0]:=by rw[List.getD_eq_getElem?_getD,List.getElem?_eq_getElem h0]; rfl
     have hfst:zD S=(decide (S[0].l.length=0)&&decide (S[0].r.length=0)):=by unfold zD; rw[hgd]
     have hall:S.all (gU S n C.length)=true→S[0].l.length≤512∧S[0].r.length≤3:=fun h=>aFv (List.all_eq_true.1 h _ (List.getElem_mem h0))
     (repeat(first|refine aA (by simp (disch:=first|omega|exact nnN _|assumption) only [BB,B2,↓reduceIte,Nat.reduceLeDiff,Nat.reduceAdd,CC,g1,hsg,six,hx4,q0,q1,ll,lr]<;>rfl) ?_|apply aD|apply aE|with_reducible first|apply aG|apply aF|apply aK|apply aH|apply aJ|apply aI|apply aL|apply aC))
     first
     | refine aA (dK _ _ _) ?_
     | skip
     (repeat(first|refine zzB ?_|apply aD|apply aE|with_reducible first|apply aG|apply aF|apply aK|apply aH|apply aJ|apply aI|apply aL|apply aC))
     have hrest:(S[0].l.length=0∧S[0].r.length=0∨9223372036854775807 < S[0].l.length+S[0].r.length)→∀ (e':Env) n',e' 1=ptr nx→e' 2=.bool false→e' 45=cv→e' 46=.int .i64 C.length→e' 47=.int .i64 0→nx+1≤n' →
       dT (tW ro) e' p1 n' fun x229 e226 h227 n228=>exP x229 (kV ro K e226 h227 n228) (fun i230=>cO (Nat.beq i230 0) (kV ro K e226 h227 n228) (False)) (∃ h231,Sub h231 h227∧K (e226 2) h231 n228):=by
      intro hlen e' n' f1 f2 f45 f46 f47 hn'
      generalize hB:C.all m6=B at hno hK
      refine bE (fun j e h' nx'=>∃ (k:Nat),k+j=C.length∧nx+1≤nx'∧h'=p1∧e 1=ptr nx∧e 2=.bool false∧e 45=cv∧e 46=.int .i64 C.length∧e 47=.int .i64 k∧(C.drop k).all m6=B) ?_ (n:=C.length) ⟨0,by omega,hn',rfl,f1,f2,f45,f46,f47,hB⟩
      rintro j e h' nx' ⟨k,hj,hnx,rfl,e1,e2,e45,e46,e47,hr2⟩ Q' hq hx
      unfold tW
      rw[e45,e46,e47]
      refine cV (fun hk=>?_) (fun hk=>?_)
      ·have hk:k < C.length:=by omega
       rw[bX hk,List.all_cons] at hr2
       have cix:=hcv.ix .i64 hk
       obtain⟨x,hx1,hx2,hx3,hx4,hx5⟩:=hcv.at hk
       generalize C[k]=p at hr2 hx1
       obtain rfl:x=[.int .i64 p.1,.int .i64 p.2]:=hx1
       (repeat(first|refine aA (by simp (disch:=first|omega|exact nnN _|assumption) only [BB,B2,↓reduceIte,Nat.reduceLeDiff,Nat.reduceAdd,CC,cix,hx3]<;>rfl) ?_|apply aD|apply aE|with_reducible first|apply aG|apply aF|apply aK|apply aH|apply aJ|apply aI|apply aL|apply aC))
       refine kA (x:=[.int .i64 p.1,.int .i64 p.2]) aHE rfl rfl rfl rfl hf1 (by omega) fun h6 hs6 hf6 g6 _=>?_
       have hfin:∀ (e':Env) n',e' 2=.bool false→m6 p=false→nx≤n'→Q' .ret e' h6 n':=fun e' n' h6 hc hn=>by
        refine hx _ _ _ _ (fun e=>by cases e) (eS ?_)
        rw[h6]
        rw[hc,Bool.false_and] at hr2
        subst hr2
        obtain⟨h9,z1,z2⟩:=hno n' (by simp) hn
        exact⟨h9,z1.trans hs6,z2⟩
       have hok:∀ (e':Env) n',e' 1=ptr nx→e' 2=.bool false→e' 45=cv→e' 46=.int .i64 C.length→e' 47=.int .i64 ((k:Int)+1)→m6 p=true→nx+1≤n'→Q' .normal e' h6 n':=fun e' n' f1 f2 f45 f46 f47 hc hn =>
        hq (j - 1) _ h' _ _ (by omega) ⟨k+1,by omega,hn,rfl,f1,f2,f45,f46,f47,by rw[← hr2,hc]; rfl⟩ hs6
       unfold m6 at hfin hok
       (repeat(first|refine aA (by simp (disch:=first|omega|exact nnN _|assumption) only [BB,B2,↓reduceIte,Nat.reduceLeDiff,Nat.reduceAdd,CC,g6]<;>rfl) ?_|apply aD|apply aE|with_reducible first|apply aG|apply aF|apply aK|apply aH|apply aJ|apply aI|apply aL|apply aC))
       refine cV (fun v1=>?_) (fun v1=>?_)
       ·(repeat(first|refine zzB ?_|apply aD|apply aE|with_reducible first|apply aG|apply aF|apply aK|apply aH|apply aJ|apply aI|apply aL|apply aC))
        exact hfin _ _ rfl (by rw[decide_eq_false (by omega)]; rfl) (by omega)
       ·rw[decide_eq_true v1,Bool.true_and] at hfin hok
        (repeat(first|refine aA (by simp (disch:=first|omega|exact nnN _|assumption) only [BB,B2,↓reduceIte,Nat.reduceLeDiff,Nat.reduceAdd,CC,g6]<;>rfl) ?_|apply aD|apply aE|with_reducible first|apply aG|apply aF|apply aK|apply aH|apply aJ|apply aI|apply aL|apply aC))
        refine lK (fun v2=>?_) (fun v2=>?_)
        ·(repeat(first|refine zzB ?_|apply aD|apply aE|with_reducible first|apply aG|apply aF|apply aK|apply aH|apply aJ|apply aI|apply aL|apply aC))
         exact hfin _ _ rfl (by rw[decide_eq_false (by omega)]; rfl) (by omega)
        ·rw[decide_eq_true v2,Bool.true_and] at hfin hok
         (repeat(first|refine aA (by simp (disch:=first|omega|exact nnN _|assumption) only [BB,B2,↓reduceIte,Nat.reduceLeDiff,Nat.reduceAdd,CC,g6]<;>rfl) ?_|apply aD|apply aE|with_reducible first|apply aG|apply aF|apply aK|apply aH|apply aJ|apply aI|apply aL|apply aC))
         refine cV (fun v3=>?_) (fun v3=>?_)
         ·(repeat(first|refine zzB ?_|apply aD|apply aE|with_reducible first|apply aG|apply aF|apply aK|apply aH|apply aJ|apply aI|apply aL|apply aC))
          exact hfin _ _ rfl (by rw[decide_eq_false (by omega)]; rfl) (by omega)
         ·rw[decide_eq_true v3,Bool.true_and] at hfin hok
          (repeat(first|refine aA (by simp (disch:=first|omega|exact nnN _|assumption) only [BB,B2,↓reduceIte,Nat.reduceLeDiff,Nat.reduceAdd,CC,g6]<;>rfl) ?_|apply aD|apply aE|with_reducible first|apply aG|apply aF|apply aK|apply aH|apply aJ|apply aI|apply aL|apply aC))
          refine lK (fun v4=>?_) (fun v4=>?_)
          ·(repeat(first|refine zzB ?_|apply aD|apply aE|with_reducible first|apply aG|apply aF|apply aK|apply aH|apply aJ|apply aI|apply aL|apply aC))
           exact hfin _ _ rfl (by rw[decide_eq_false (by omega)]) (by omega)
          ·rw[decide_eq_true v4] at hok
           (repeat(first|refine zzB ?_|apply aD|apply aE|with_reducible first|apply aG|apply aF|apply aK|apply aH|apply aJ|apply aI|apply aL|apply aC))
           exact hok _ _ e1 e2 e45 e46 rfl rfl (by omega)
      ·rw[gJ (by omega)] at hr2
       have hr2:true=B:=hr2
       subst hr2
       rw[Bool.true_and] at hno hK
       (repeat(first|refine zzB ?_|apply aD|apply aE|with_reducible first|apply aG|apply aF|apply aK|apply aH|apply aJ|apply aI|apply aL|apply aC))
       refine hx _ _ _ _ (fun e=>by cases e) (eD (cQ ?_))
       have hend:∀ (e':Env) n',e' 1=ptr nx→nx+1≤n'→kV ro K e' h' n':=by
        intro e' n' z1 hn'
        unfold kV
        rw[z1]
        refine aA (dF g1 (cS hc)) ?_
        refine aA (aEq hc) ?_
        obtain⟨z,hz,hzs⟩:=aIs
        refine kA (x:=eA c n cv sv) hz hzs rfl (cS hc) (aDA (SlR.okC hcv) (SlR.okC hS)) hf1 (by omega) fun h6 hs6 hf6 g6 _=>?_
        have g16:=hs6 _ _ g1
        (repeat(first|refine aA (by simp (disch:=first|omega|exact nnN _|assumption) only [BB,B2,↓reduceIte,Nat.reduceLeDiff,Nat.reduceAdd,CC,g16,hsg]<;>rfl) ?_|apply aD|apply aE|with_reducible first|apply aG|apply aF|apply aK|apply aH|apply aJ|apply aI|apply aL|apply aC))
        refine qD (q:=fun s=>!gU S n C.length s) (by omega) (hS.sub hs6 (eG.sub hs6)) (fun i hi x n' K' hx hn' hk'=>?_) fun n' hn'=>?_
        ·obtain⟨lv,rv,uv,nv,rfl,w1,w2,w3,w4,w5⟩:=hx
         exact aDU hc hn u3 u1 w5 (hf6.mono (by omega)) g6 (hcv.sub hs6 fun _ _ h=>h) (hS.sub hs6 (eG.sub hs6)) w1 w2 w3 w4 hk'
        ·(repeat(first|refine zzB ?_|apply aD|apply aE|with_reducible first|apply aG|apply aF|apply aK|apply aH|apply aJ|apply aI|apply aL|apply aC))
         refine⟨h,hs.trans hs6,kb hK ?_ (by omega)⟩
         rw[aGB]
         rcases hlen with hlen | hlen
         ·rw[hfst,decide_eq_true hlen.1,decide_eq_true hlen.2]; rfl
         ·cases ha:S.all (gU S n C.length) with
          | false=>simp
          | true=>have:=hall ha; omega
       exact hend _ _ e1 (by omega)
     refine lK (fun u4=>?_) (fun u4=>?_)
     ·(repeat(first|refine zzB ?_|apply aD|apply aE|with_reducible first|apply aG|apply aF|apply aK|apply aH|apply aJ|apply aI|apply aL|apply aC))
      have:=aOd u4
      refine hno _ ?_ (by omega)
      rw[hfst]
      rcases this with h | h
      ·rw[decide_eq_false h]; simp
      ·rw[decide_eq_false h]; simp
     ·(repeat(first|refine aA (by simp (disch:=first|omega|exact nnN _|assumption) only [BB,B2,↓reduceIte,Nat.reduceLeDiff,Nat.reduceAdd,CC,g1,hcg,lc]<;>rfl) ?_|apply aD|apply aE|with_reducible first|apply aG|apply aF|apply aK|apply aH|apply aJ|apply aI|apply aL|apply aC))
      exact hrest (by rcases aPp u4 with h | h<;>omega) _ _ rfl rfl rfl rfl rfl (by omega)
set_option maxRecDepth 8000 in
set_option maxHeartbeats 2000000 in
theorem aFI {ro:Ro}{x:List Value}{d:AutoD}{h:T Obj}{nx:Nat}{K:KV} (hf:Fr h nx) (hd:qN ro h x d) (hK:∀ nx',nx≤nx'→K (.bool (fH d)) h nx'):aN Tryz.prog ro uC [.agg x.toArray] h nx K:=by
 obtain⟨cv,sv,rfl,hc,hcl,hcv,hS,hb1,hb2⟩:=hd
 obtain⟨c,n,C,S⟩:=d
 simp only at hc hcl hcv hS hb1 hb2
 dsimp only
 apply aEQ
 unfold aC7
 refine eJ hf (Nat.le_refl _) fun p1 hs hf1 g1 _=>?_
 have g1:p1.get nx=some (.cells (eA c n cv sv).toArray bK):=g1
 have hS:=hS.sub hs (eG.sub hs)
 have hcv:=hcv.sub hs fun _ _ h=>h
 have hsg:=iF (n:=n) (cv:=cv) (sv:=sv) hc
 have hcg:=lF (n:=n) (cv:=cv) (sv:=sv) hc
 have lc:=hcv.len
 have ls:=hS.len
 have hno:∀ n',fH ⟨c,n,C,S⟩=false→nx≤n'→∃ h',Sub h' p1∧K (.bool false) h' n':=fun n' e hn=>⟨h,hs,kb hK e hn⟩
 unfold fH at hno hK
 dsimp only at hno hK
 (repeat(first|refine zzB ?_|apply aD|apply aE|with_reducible first|apply aG|apply aF|apply aK|apply aH|apply aJ|apply aI|apply aL|apply aC))
 refine aA (aMf g1 hc) ?_
 refine aFE hc hcl (hf1.mono (by omega)) fun n1 hn1=>?_
 cases hr:oM c n with
 | false =>
  (repeat(first|refine zzB ?_|apply aD|apply aE|with_reducible first|apply aG|apply aF|apply aK|apply aH|apply aJ|apply aI|apply aL|apply aC))
  exact hno _ (by rw[hr]; rfl) (by omega)
 | true =>
  have hn:=aAd hr
  rw[hr,Bool.true_and] at hno hK
  (repeat(first|refine aA (by simp (disch:=first|omega|exact nnN _|assumption) only [BB,B2,↓reduceIte,Nat.reduceLeDiff,Nat.reduceAdd,CC,g1,hcg,lc]<;>rfl) ?_|apply aD|apply aE|with_reducible first|apply aG|apply aF|apply aK|apply aH|apply aJ|apply aI|apply aL|apply aC))
  refine lK (fun u1=>?_) (fun u1=>?_)
  ·(repeat(first|refine zzB ?_|apply aD|apply aE|with_reducible first|apply aG|apply aF|apply aK|apply aH|apply aJ|apply aI|apply aL|apply aC))
   exact hno _ (by rw[decide_eq_false (by omega)]; rfl) (by omega)
  ·have u1:C.length≤512:=by omega
   rw[decide_eq_true u1,Bool.true_and] at hno hK
   (repeat(first|refine aA (by simp (disch:=first|omega|exact nnN _|assumption) only [BB,B2,↓reduceIte,Nat.reduceLeDiff,Nat.reduceAdd,CC,g1,hsg,ls]<;>rfl) ?_|apply aD|apply aE|with_reducible first|apply aG|apply aF|apply aK|apply aH|apply aJ|apply aI|apply aL|apply aC))
   refine cV (fun u2=>?_) (fun u2=>?_)
   ·(repeat(first|refine zzB ?_|apply aD|apply aE|with_reducible first|apply aG|apply aF|apply aK|apply aH|apply aJ|apply aI|apply aL|apply aC))
    exact hno _ (by rw[decide_eq_false (by omega)]; rfl) (by omega)
   ·have u2:1≤S.length:=by omega
    rw[decide_eq_true u2,Bool.true_and] at hno hK
    (repeat(first|refine aA (by simp (disch:=first|omega|exact nnN _|assumption) only [BB,B2,↓reduceIte,Nat.reduceLeDiff,Nat.reduceAdd,CC,g1,hsg,ls]<;>rfl) ?_|apply aD|apply aE|with_reducible first|apply aG|apply aF|apply aK|apply aH|apply aJ|apply aI|apply aL|apply aC))
    refine lK (fun u3=>?_) (fun u3=>?_)
    ·(repeat(first|refine zzB ?_|apply aD|apply aE|with_reducible first|apply aG|apply aF|apply aK|apply aH|apply aJ|apply aI|apply aL|apply aC))
     exact hno _ (by rw[decide_eq_false (by omega)]; rfl) (by omega)
    ·have u3:S.length≤256:=by omega
     rw[decide_eq_true u3,Bool.true_and] at hno hK
     have h0:0 < S.length:=by omega
     have six:cM 4 sv (.int .i64 0)=some (iP 4 sv 0):=hS.ix .i64 (i:=0) h0
     obtain⟨x,⟨lv,rv,uv,nv,rfl,y1,y2,y3,y4,y5⟩,hx2,hx3,hx4,hx5⟩:=hS.at h0
     have q0:=hx5 0 lv rfl
     have q1:=hx5 1 rv rfl
     have ll:=y1.len
     have lr:=y2.len
     have hgd:S.getD 0 noS=S[0]:=by rw[List.getD_eq_getElem?_getD,List.getElem?_eq_getElem h0]; rfl
     have hfst:zD S=(decide (S[0].l.length=0)&&decide (S[0].r.length=0)):=by unfold zD; rw[hgd]
     rw[hfst] at hno hK
     (repeat(first|refine aA (by simp (disch:=first|omega|exact nnN _|assumption) only [BB,B2,↓reduceIte,Nat.reduceLeDiff,Nat.reduceAdd,CC,g1,hsg,six,hx4,q0,ll]<;>rfl) ?_|apply aD|apply aE|with_reducible first|apply aG|apply aF|apply aK|apply aH|apply aJ|apply aI|apply aL|apply aC))
     refine lK (fun u4=>?_) (fun u4=>?_)
     ·(repeat(first|refine zzB ?_|apply aD|apply aE|with_reducible first|apply aG|apply aF|apply aK|apply aH|apply aJ|apply aI|apply aL|apply aC))
      exact hno _ (by rw[decide_eq_false (by omega)]; rfl) (by omega)
     ·rw[decide_eq_true (show S[0].l.length=0 by omega),Bool.true_and] at hno hK
      (repeat(first|refine aA (by simp (disch:=first|omega|exact nnN _|assumption) only [BB,B2,↓reduceIte,Nat.reduceLeDiff,Nat.reduceAdd,CC,g1,hsg,six,hx4,q1,lr]<;>rfl) ?_|apply aD|apply aE|with_reducible first|apply aG|apply aF|apply aK|apply aH|apply aJ|apply aI|apply aL|apply aC))
      refine lK (fun u5=>?_) (fun u5=>?_)
      ·(repeat(first|refine zzB ?_|apply aD|apply aE|with_reducible first|apply aG|apply aF|apply aK|apply aH|apply aJ|apply aI|apply aL|apply aC))
       exact hno _ (by rw[decide_eq_false (by omega)]; rfl) (by omega)
      ·rw[decide_eq_true (show S[0].r.length=0 by omega),Bool.true_and] at hno hK
       (repeat(first|refine zzB ?_|apply aD|apply aE|with_reducible first|apply aG|apply aF|apply aK|apply aH|apply aJ|apply aI|apply aL|apply aC))
       generalize hB:C.all m6=B at hno hK
       refine bE (fun j e h' nx'=>∃ (k:Nat),k+j=C.length∧nx+1≤nx'∧h'=p1∧e 1=ptr nx∧e 3=.int .i64 k∧(C.drop k).all m6=B) ?_ (n:=C.length) ⟨0,by omega,by omega,rfl,rfl,rfl,hB⟩
       rintro j e h' nx' ⟨k,hj,hnx,rfl,e1,e3,hr2⟩ Q' hq hx
       unfold yG
       rw[e1,e3]
       (repeat(first|refine aA (by simp (disch:=first|omega|exact nnN _|assumption) only [BB,B2,↓reduceIte,Nat.reduceLeDiff,Nat.reduceAdd,CC,g1,hcg,lc]<;>rfl) ?_|apply aD|apply aE|with_reducible first|apply aG|apply aF|apply aK|apply aH|apply aJ|apply aI|apply aL|apply aC))
       refine cV (fun hk=>?_) (fun hk=>?_)
       ·have hk:k < C.length:=by omega
        rw[bX hk,List.all_cons] at hr2
        have cix:=hcv.ix .i64 hk
        obtain⟨x,hx1,hx2,hx3,hx4,hx5⟩:=hcv.at hk
        generalize C[k]=p at hr2 hx1
        obtain rfl:x=[.int .i64 p.1,.int .i64 p.2]:=hx1
        (repeat(first|refine aA (by simp (disch:=first|omega|exact nnN _|assumption) only [BB,B2,↓reduceIte,Nat.reduceLeDiff,Nat.reduceAdd,CC,g1,hcg,cix,hx3]<;>rfl) ?_|apply aD|apply aE|with_reducible first|apply aG|apply aF|apply aK|apply aH|apply aJ|apply aI|apply aL|apply aC))
        refine kA (x:=[.int .i64 p.1,.int .i64 p.2]) aHE rfl rfl rfl rfl hf1 (by omega) fun h6 hs6 hf6 g6 _=>?_
        have hfin:∀ (e':Env) n',e' 2=.bool false→m6 p=false→nx≤n'→Q' .ret e' h6 n':=fun e' n' h6 hc hn=>by
         refine hx _ _ _ _ (fun e=>by cases e) (eS ?_)
         rw[h6]
         rw[hc,Bool.false_and] at hr2
         subst hr2
         obtain⟨h9,z1,z2⟩:=hno n' (by simp) hn
         exact⟨h9,z1.trans hs6,z2⟩
        have hok:∀ (e':Env) n',e' 1=ptr nx→e' 3=.int .i64 ((k:Int)+1)→m6 p=true→nx+1≤n'→Q' .normal e' h6 n':=fun e' n' f1 f3 hc hn =>
         hq (j - 1) _ h' _ _ (by omega) ⟨k+1,by omega,hn,rfl,f1,f3,by rw[← hr2,hc]; rfl⟩ hs6
        unfold m6 at hfin hok
        (repeat(first|refine aA (by simp (disch:=first|omega|exact nnN _|assumption) only [BB,B2,↓reduceIte,Nat.reduceLeDiff,Nat.reduceAdd,CC,g6]<;>rfl) ?_|apply aD|apply aE|with_reducible first|apply aG|apply aF|apply aK|apply aH|apply aJ|apply aI|apply aL|apply aC))
        refine cV (fun v1=>?_) (fun v1=>?_)
        ·(repeat(first|refine zzB ?_|apply aD|apply aE|with_reducible first|apply aG|apply aF|apply aK|apply aH|apply aJ|apply aI|apply aL|apply aC))
         exact hfin _ _ rfl (by rw[decide_eq_false (by omega)]; rfl) (by omega)
        ·rw[decide_eq_true v1,Bool.true_and] at hfin hok
         (repeat(first|refine aA (by simp (disch:=first|omega|exact nnN _|assumption) only [BB,B2,↓reduceIte,Nat.reduceLeDiff,Nat.reduceAdd,CC,g6]<;>rfl) ?_|apply aD|apply aE|with_reducible first|apply aG|apply aF|apply aK|apply aH|apply aJ|apply aI|apply aL|apply aC))
         refine lK (fun v2=>?_) (fun v2=>?_)
         ·(repeat(first|refine zzB ?_|apply aD|apply aE|with_reducible first|apply aG|apply aF|apply aK|apply aH|apply aJ|apply aI|apply aL|apply aC))
          exact hfin _ _ rfl (by rw[decide_eq_false (by omega)]; rfl) (by omega)
         ·rw[decide_eq_true v2,Bool.true_and] at hfin hok
          (repeat(first|refine aA (by simp (disch:=first|omega|exact nnN _|assumption) only [BB,B2,↓reduceIte,Nat.reduceLeDiff,Nat.reduceAdd,CC,g6]<;>rfl) ?_|apply aD|apply aE|with_reducible first|apply aG|apply aF|apply aK|apply aH|apply aJ|apply aI|apply aL|apply aC))
          refine cV (fun v3=>?_) (fun v3=>?_)
          ·(repeat(first|refine zzB ?_|apply aD|apply aE|with_reducible first|apply aG|apply aF|apply aK|apply aH|apply aJ|apply aI|apply aL|apply aC))
           exact hfin _ _ rfl (by rw[decide_eq_false (by omega)]; rfl) (by omega)
          ·rw[decide_eq_true v3,Bool.true_and] at hfin hok
           (repeat(first|refine aA (by simp (disch:=first|omega|exact nnN _|assumption) only [BB,B2,↓reduceIte,Nat.reduceLeDiff,Nat.reduceAdd,CC,g6]<;>rfl) ?_|apply aD|apply aE|with_reducible first|apply aG|apply aF|apply aK|apply aH|apply aJ|apply aI|apply aL|apply aC))
           refine lK (fun v4=>?_) (fun v4=>?_)
           ·(repeat(first|refine zzB ?_|apply aD|apply aE|with_reducible first|apply aG|apply aF|apply aK|apply aH|apply aJ|apply aI|apply aL|apply aC))
            exact hfin _ _ rfl (by rw[decide_eq_false (by omega)]) (by omega)
           ·rw[decide_eq_true v4] at hok
            (repeat(first|refine zzB ?_|apply aD|apply aE|with_reducible first|apply aG|apply aF|apply aK|apply aH|apply aJ|apply aI|apply aL|apply aC))
            exact hok _ _ e1 rfl rfl (by omega)
       ·rw[gJ (by omega)] at hr2
        have hr2:true=B:=hr2
        subst hr2
        rw[Bool.true_and] at hno hK
        (repeat(first|refine zzB ?_|apply aD|apply aE|with_reducible first|apply aG|apply aF|apply aK|apply aH|apply aJ|apply aI|apply aL|apply aC))
        refine hx _ _ _ _ (fun e=>by cases e) (eD (cQ ?_))
        have LA:=dF (ro:=ro) (z:=0) (n:=259) (l:=eA c n cv sv) g1 (cS hc)
        have hend:∀ (e':Env) n',e' 1=ptr nx→nx+1≤n'→oI ro K e' h' n':=by
         intro e' n' z1 hn'
         unfold oI
         generalize hA:S.all (gU S n C.length)=A at hno hK
         refine bE (fun j e h'' nx'=>∃ (k:Nat),k+j=S.length∧nx+1≤nx'∧h''=h'∧e 1=ptr nx∧e 5=.int .i64 k∧(S.drop k).all (gU S n C.length)=A) ?_ (n:=S.length) ⟨0,by omega,by omega,rfl,z1,rfl,hA⟩
         rintro j e h'' nx' ⟨k,hj,hnx,rfl,e1,e5,hr2⟩ Q2 hq hx
         unfold yF
         rw[e1,e5]
         (repeat(first|refine aA (by simp (disch:=first|omega|exact nnN _|assumption) only [BB,B2,↓reduceIte,Nat.reduceLeDiff,Nat.reduceAdd,CC,g1,hsg,ls]<;>rfl) ?_|apply aD|apply aE|with_reducible first|apply aG|apply aF|apply aK|apply aH|apply aJ|apply aI|apply aL|apply aC))
         refine cV (fun hk=>?_) (fun hk=>?_)
         ·have hk:k < S.length:=by omega
          rw[bX hk,List.all_cons] at hr2
          have kix:=hS.ix .i64 hk
          obtain⟨x,⟨lv,rv,uv,nv,rfl,w1,w2,w3,w4,w5⟩,hx2,hx3,hx4,hx5⟩:=hS.at hk
          generalize S[k]=s at hr2 w1 w2 w3 w4 w5
          (repeat(first|refine aA (by simp (disch:=first|omega|exact nnN _|assumption) only [BB,B2,↓reduceIte,Nat.reduceLeDiff,Nat.reduceAdd,CC,LA,g1,hsg,kix,hx3]<;>rfl) ?_|apply aD|apply aE|with_reducible first|apply aG|apply aF|apply aK|apply aH|apply aJ|apply aI|apply aL|apply aC))
          refine aFK hc hn u3 u1 w5 (hf1.mono (by omega)) hcv hS w1 w2 w3 w4 fun n4 hn4=>?_
          cases hm:gU S n C.length s with
          | true =>
           rw[hm,Bool.true_and] at hr2
           have hok2:∀ (e':Env) n',e' 1=ptr nx→e' 5=.int .i64 ((k:Int)+1)→nx+1≤n'→Q2 .normal e' h'' n':=fun e' n' z1 z5 hn =>
            hq (j - 1) _ _ _ _ (by omega) ⟨k+1,by omega,hn,rfl,z1,z5,hr2⟩ (Sub.refl _)
           (repeat(first|refine zzB ?_|apply aD|apply aE|with_reducible first|apply aG|apply aF|apply aK|apply aH|apply aJ|apply aI|apply aL|apply aC))
           exact hok2 _ _ e1 rfl (by omega)
          | false =>
           rw[hm,Bool.false_and] at hr2
           subst hr2
           (repeat(first|refine zzB ?_|apply aD|apply aE|with_reducible first|apply aG|apply aF|apply aK|apply aH|apply aJ|apply aI|apply aL|apply aC))
           refine hx _ _ _ _ (fun e=>by cases e) (eS ?_)
           exact hno _ rfl (by omega)
         ·rw[gJ (by omega)] at hr2
          have hr2:true=A:=hr2
          subst hr2
          (repeat(first|refine zzB ?_|apply aD|apply aE|with_reducible first|apply aG|apply aF|apply aK|apply aH|apply aJ|apply aI|apply aL|apply aC))
          refine hx _ _ _ _ (fun e=>by cases e) (eD (cQ ?_))
          unfold sW
          exact⟨h,hs,hK _ (by omega)⟩
        exact hend _ _ e1 (by omega)
end V
end Go.Proofs.YtcaccnneblghgaaGreat
namespace Go.Proofs.YtcaccnneblghgaaGreat
namespace V
theorem aDL (m b i:Nat):oT (m ||| 2 ^ b) i=if i=b / 64 then oT m i ||| 2 ^ (b % 64) else oT m i:=by
 apply Nat.eq_of_testBit_eq
 intro j
 rw[oR,Nat.testBit_or,Nat.testBit_two_pow]
 by_cases h:i=b / 64
 ·rw[if_pos h,Nat.testBit_or,oR,Nat.testBit_two_pow]
  subst h
  by_cases hj:j < 64
  ·have:(b=64*(b / 64)+j) ↔ (b % 64=j):=by omega
   simp[hj,this]
  ·have:¬ (b % 64=j):=by have:=Nat.mod_lt b (show 64 > 0 by decide); omega
   simp[hj,this]
 ·rw[if_neg h,oR]
  by_cases hj:j < 64
  ·have:¬ (b=64*i+j):=by omega
   simp[hj,this]
  ·simp[hj]
theorem aJ3 (k a b:Nat):2 ^ k*(a ||| b)=2 ^ k*a ||| 2 ^ k*b:=by
 apply Nat.eq_of_testBit_eq
 intro j
 simp only[Nat.testBit_or,Nat.testBit_two_pow_mul]
 cases decide (j ≥ k)<;>simp
theorem aH9 {a:Nat} (h:a % 2=0):a ||| 1=a+1:=by
 have h2:a=2 ^ 1*(a / 2):=by omega
 have:=Nat.two_pow_add_eq_or_of_lt (show 1 < 2 ^ 1 by decide) (a / 2)
 rw[← h2] at this; exact this.symm
theorem aN9 {x k:Nat} (h:x.testBit k=false):x+2 ^ k=x ||| 2 ^ k:=by
 have hr:x % 2 ^ k < 2 ^ k:=Nat.mod_lt _ (Nat.two_pow_pos k)
 have ha:(x / 2 ^ k) % 2=0:=by
  rw[Nat.testBit_eq_decide_div_mod_eq] at h
  have:¬ (x / 2 ^ k % 2=1):=by simpa using h
  omega
 have e1:=Nat.two_pow_add_eq_or_of_lt hr (x / 2 ^ k)
 have e2:=Nat.two_pow_add_eq_or_of_lt hr (x / 2 ^ k+1)
 have e0:2 ^ k*(x / 2 ^ k)+x % 2 ^ k=x:=Nat.div_add_mod _ _
 have e3:x+2 ^ k=2 ^ k*(x / 2 ^ k+1)+x % 2 ^ k:=by rw[Nat.mul_add,Nat.mul_one]; omega
 have e4:2 ^ k*(x / 2 ^ k+1)=2 ^ k*(x / 2 ^ k) ||| 2 ^ k:=by
  rw[← aH9 ha,aJ3,Nat.mul_one]
 have hx:x ||| 2 ^ k=(2 ^ k*(x / 2 ^ k) ||| x % 2 ^ k) ||| 2 ^ k:=by rw[← e1,e0]
 rw[e3,e2,e4,hx,Nat.or_assoc,Nat.or_comm (2 ^ k) (x % 2 ^ k),← Nat.or_assoc]
theorem aIN {x k:Nat} (h:x.testBit k=true):x ||| 2 ^ k=x:=by
 apply Nat.eq_of_testBit_eq
 intro j
 rw[Nat.testBit_or,Nat.testBit_two_pow]
 by_cases e:k=j
 ·subst e; simp[h]
 ·simp[e]
theorem aOe:zer Tryz.prog eB=some (aB4 0):=by kernel_rfl
set_option maxRecDepth 20000
theorem aE4 (m:Nat):(mY m).length=4:=rfl
theorem aOR (m:Nat):(mY m).all cU=true:=rfl
theorem aK4 (m:Nat):List.take 4 (List.drop 0 (mY m))=mY m:=rfl
theorem wL {K:Value→Prop} (k:K (aB4 0)):aB (zer Tryz.prog eB) K:=by rw[aOe]; exact k
theorem aMu (m n:Nat):over (mY m) 0 (mY n)=mY n:=rfl
theorem aLY (m:Nat):(aB4 m).cells.size=4:=rfl
theorem aIj (m:Nat):Value.agg (mY m).toArray=aB4 m:=rfl
theorem aNG {m b:Nat} (hb:b < 256):(mY m).set (b / 64) (.int .u64 ((oT m (b / 64) ||| 2 ^ (b % 64):Nat):Int))=mY (m ||| 2 ^ b):=by
 have h0:=aDL m b 0
 have h1:=aDL m b 1
 have h2:=aDL m b 2
 have h3:=aDL m b 3
 have hq:b / 64=0∨b / 64=1∨b / 64=2∨b / 64=3:=by omega
 unfold mY
 rcases hq with hq | hq | hq | hq<;>rw[hq] at h0 h1 h2 h3 ⊢<;>simp at h0 h1 h2 h3<;>simp[h0,h1,h2,h3]
theorem yB {ro:Ro}{m w:Nat}{e:Env}{h h0:T Obj}{id nx nx0:Nat}{K:KV} (h2:e 2=at_ id 0 0) (h4:e 4=at_ (id+1) 0 0) (g1:h.get id=some (.cells (mY m).toArray eB)) (g2:h.get (id+1)=some (.cells (mY w).toArray eB))
  (hf:Fr h0 nx0) (hs:Sub h0 h) (hid:nx0≤id) (hK:K (aB4 m) h0 (nx+2)):pK ro K e h nx:=by
 unfold pK
 (repeat(first|refine aA (by simp (disch:=first|omega|exact nnN _|assumption) only [BB,B2,↓reduceIte,Nat.reduceLeDiff,Nat.reduceAdd,aT,aU,aY,aX,aW,aV,gN,aE4,aK4,aIj,h2,h4,g1,g2,aLY,aOR,aMu]<;>rfl) ?_|apply aD|apply aE|with_reducible first|apply aG|apply aF|apply aK|apply aH|apply aJ|apply aI|apply aL|apply aC))
 exact⟨h0,hs.new hf (by omega),hK⟩
section
theorem aGp {ro:Ro}{m b:Nat} (hb:b < 256) {h:T Obj}{nx:Nat}{K:KV} (hf:Fr h nx) (hK:∀ nx',nx≤nx'→K (aB4 (m ||| 2 ^ b)) h nx'):aN Tryz.prog ro vV [aB4 m,.int .u8 b] h nx K:=by
 apply aFC
 unfold aEJ
 refine aD (wL ?_)
 (repeat(first|refine aA (by simp (disch:=first|omega|exact nnN _|assumption) only [BB,B2,↓reduceIte,Nat.reduceLeDiff,Nat.reduceAdd,aT,aU,aY,aX,aW,aV,gN,aE4,aK4,aIj]<;>rfl) ?_|apply aD|apply aE|with_reducible first|apply aG|apply aF|apply aK|apply aH|apply aJ|apply aI|apply aL|apply aC))
 refine aC1 hb ((hf.mono (Nat.le_add_right nx 5)).upd (n:=nx+5) (Nat.le_refl _) (by omega) |>.upd (Nat.le_refl _) (by omega)) fun n hn=>?_
 (repeat(first|refine aA (by simp (disch:=first|omega|exact nnN _|assumption) only [BB,B2,↓reduceIte,Nat.reduceLeDiff,Nat.reduceAdd,aT,aU,aY,aX,aW,aV]<;>rfl) ?_|apply aD|apply aE|with_reducible first|apply aG|apply aF|apply aK|apply aH|apply aJ|apply aI|apply aL|apply aC))
 have h1:((b:Int) / 64).toNat=b / 64:=by omega
 have h2:((b:Int) % 64).toNat=b % 64:=by omega
 have h3:=aK8 m (b / 64)
 have h4:b / 64 < 4:=by omega
 have h5:=aIi (m:=m) h4
 cases hm:m.testBit b with
 | true =>
  simp only[Bool.not_true]
  (repeat(first|refine aA (by simp (disch:=first|omega|exact nnN _|assumption) only [BB,B2,↓reduceIte,Nat.reduceLeDiff,Nat.reduceAdd,aT,aU,aY,aX,aW,aV]<;>rfl) ?_|apply aD|apply aE|with_reducible first|apply aG|apply aF|apply aK|apply aH|apply aJ|apply aI|apply aL|apply aC))
  refine yB (m:=m) (w:=0) (id:=nx) rfl rfl ?_ ?_ hf ?_ (Nat.le_refl _) ?_
  ·simp (disch:=first | omega | exact Int.natCast_nonneg _ | assumption) only [BB,B2,↓reduceIte,Nat.reduceLeDiff,Nat.reduceAdd,aT,aU,aY,aX,aW,aV,gN]
  ·simp (disch:=first | omega | exact Int.natCast_nonneg _ | assumption) only [BB,B2,↓reduceIte,Nat.reduceLeDiff,Nat.reduceAdd,aT,aU,aY,aX,aW,aV,gN]
  ·exact ((Sub.refl h).new hf (Nat.le_refl _)).new hf (by omega)
  ·have:=hK (n+1+2) (by omega)
   rw[aIN hm] at this; exact this
 | false =>
  simp only[Bool.not_false]
  have h6:(oT m (b / 64)).testBit (b % 64)=false:=by
   rw[oR,Nat.div_add_mod,hm]; simp
  have h7:=aN9 h6
  have h8:oT m (b / 64)+2 ^ (b % 64) < 18446744073709551616:=by
   rw[h7]; exact Nat.or_lt_two_pow (n:=64) h3 (Nat.pow_lt_pow_right (by decide) (by omega))
  have h9:((oT m (b / 64):Nat):Int)+((2 ^ (b % 64):Nat):Int)=((oT m (b / 64) ||| 2 ^ (b % 64):Nat):Int):=by rw[← h7]; exact (Int.natCast_add _ _).symm
  have h10:((oT m (b / 64) ||| 2 ^ (b % 64):Nat):Int)≤18446744073709551615:=aJw (by rw[← h7]; exact h8)
  have h11:=aEF (.int .u64 ((oT m (b / 64) ||| 2 ^ (b % 64):Nat):Int)) (l:=mY m) (off:=b / 64) (by rw[aE4]; omega)
  (repeat(first|refine aA (by simp (disch:=first|omega|exact nnN _|assumption) only [BB,B2,↓reduceIte,Nat.reduceLeDiff,Nat.reduceAdd,aT,aU,aY,aX,aW,aV,gN,h1,h2,h5,h9]<;>rfl) ?_|apply aD|apply aE|with_reducible first|apply aG|apply aF|apply aK|apply aH|apply aJ|apply aI|apply aL|apply aC))
  refine aA (dJ (l:=mY m) (by simp (disch:=first | omega | exact Int.natCast_nonneg _ | assumption) only [BB,B2,↓reduceIte,Nat.reduceLeDiff,Nat.reduceAdd,aT,aU,aY,aX,aW,aV,gN]<;>rfl) h4 rfl rfl) ?_
  rw[aNG hb]
  refine yB (m:=m ||| 2 ^ b) (w:=0) (id:=nx) rfl rfl ?_ ?_ hf ?_ (Nat.le_refl _) (hK _ (by omega))
  ·simp (disch:=first | omega | exact Int.natCast_nonneg _ | assumption) only [BB,B2,↓reduceIte,Nat.reduceLeDiff,Nat.reduceAdd,aT,aU,aY,aX,aW,aV,gN]
  ·simp (disch:=first | omega | exact Int.natCast_nonneg _ | assumption) only [BB,B2,↓reduceIte,Nat.reduceLeDiff,Nat.reduceAdd,aT,aU,aY,aX,aW,aV,gN]
  ·exact (((Sub.refl h).new hf (Nat.le_refl _)).new hf (by omega)).new hf (Nat.le_refl _)
end
set_option maxRecDepth 20000
def pI (m:Nat) (l:List Nat):Nat:=l.foldl (fun m b=>m ||| 2 ^ b) m
def bU (l:List Nat):List (List Value):=l.map fun b:Nat=>[Value.int .u8 (b:Int)]
theorem dL (l:List Nat):(bU l).length=l.length:=by simp[bU]
theorem rY {l:List Nat}{i:Nat} (hi:i < l.length):(bU l)[i]?=some [.int .u8 (l[i]:Nat)]:=by simp[bU,hi]
theorem aIw:fJ Tryz.prog eB []=some (aB4 0):=by kernel_rfl
theorem aEp {K:Value→Prop} (k:K (aB4 0)):aB (fJ Tryz.prog eB []) K:=by rw[aIw]; exact k
theorem aGe {m:Nat}{l:List Nat}{i:Nat} (hi:i < l.length):pI m (l.take (i+1))=pI m (l.take i) ||| 2 ^ l[i]:=by
 rw[List.take_succ_eq_append_getElem hi,pI,List.foldl_append]; rfl
theorem aJ6 {ro:Ro}{v:Value}{l:List Nat} (hl:∀ b∈l,b < 256) (hlen:l.length≤1000000) {h:T Obj}{nx:Nat}{K:KV} (hf:Fr h nx) (hv:Sl ro h v 1 (bU l)) (hK:∀ nx',nx≤nx'→K (aB4 (pI 0 l)) h nx'):aN Tryz.prog ro aA6 [v] h nx K:=by
 apply aI1
 unfold aI0
 refine wL (aD (aEp (wL (aD ?_))))
 refine aA (lX (l:=mY 0) (vs:=mY 0) (by simp (disch:=first | omega | exact Int.natCast_nonneg _ | assumption) only [BB,B2,↓reduceIte,Nat.reduceLeDiff,Nat.reduceAdd,aT,aU,aY,aX,aW,aV,gN]<;>rfl) rfl rfl rfl rfl) ?_
 refine bE (fun n e h' nx'=>∃ i:Nat,i+n=l.length∧nx+3≤nx'∧e 0=v∧e 2=ptr nx∧e 3=ptr (nx+2)∧e 4=.int .i64 i∧Sub h h'∧Fr h' nx' ∧
  h'.get nx=some (.cells (mY 0).toArray eB)∧h'.get (nx+2)=some (.cells (mY (pI 0 (l.take i))).toArray eB)) ?_ (n:=l.length) ⟨0,by omega,by omega,rfl,rfl,rfl,rfl,?_,?_,?_,?_⟩
 ·rintro n e h' nx' ⟨i,hin,hnx,e0,e2,e3,e4,hs,hf',g1,g2⟩ Q' hc hx
  unfold aC2
  rw[e0,e3,e4]
  have hlenv:=(hv.sub hs).len
  rw[dL] at hlenv
  refine aA hlenv ?_
  (repeat(first|refine aA (by simp (disch:=first|omega|exact nnN _|assumption) only [BB,B2,↓reduceIte,Nat.reduceLeDiff,Nat.reduceAdd,aT,aU,aY,aX,aW,aV]<;>rfl) ?_|apply aD|apply aE|with_reducible first|apply aG|apply aF|apply aK|apply aH|apply aJ|apply aI|apply aL|apply aC))
  by_cases hi:i < l.length
  ·refine iO (by simp; omega) ?_
   refine aA (dF g2 rfl) ?_
   refine aA ((hv.sub hs).ix _ (by rw[dL]; exact hi)) ?_
   refine aA ((hv.sub hs).load1 (rY hi)) ?_
   refine aGp (hl _ (List.getElem_mem hi)) (hf'.mono (by omega)) fun n1 hn1=>?_
   refine aA (lX (l:=mY _) (vs:=mY _) g2 rfl rfl rfl rfl) ?_
   (repeat(first|refine aA (by simp (disch:=first|omega|exact nnN _|assumption) only [BB,B2,↓reduceIte,Nat.reduceLeDiff,Nat.reduceAdd,aT,aU,aY,aX,aW,aV]<;>rfl) ?_|apply aD|apply aE|with_reducible first|apply aG|apply aF|apply aK|apply aH|apply aJ|apply aI|apply aL|apply aC))
   refine hc (n - 1) _ _ _ _ (by omega) ⟨i+1,by omega,?_,e0,e2,e3,rfl,hs.new hf (by omega),(hf'.mono (by omega)).upd (Nat.le_refl _) (by omega),?_,?_⟩ (Sub.refl _)
   ·omega
   ·simp (disch:=first | omega | exact Int.natCast_nonneg _ | assumption) only [BB,B2,↓reduceIte,Nat.reduceLeDiff,Nat.reduceAdd,aT,aU,aY,aX,aW,aV,g1]
   ·rw[T.get_upd_same,aGe hi]
  ·refine iN (by simp; omega) ?_
   refine hx _ _ _ _ (fun e=>by cases e) ?_
   show exP _ _ _ _
   rw[dU]
   show tO ro K _ _ _
   unfold tO
   show aB (loadA ro h' 4 (e 3)) _
   rw[e3]
   refine aA (dF g2 rfl) ?_
   show aB (bV 4 h' (e 2) _) _
   rw[e2]
   refine aA (lX (l:=mY _) (vs:=mY _) g1 rfl rfl rfl rfl) ?_
   show aB (loadA ro _ 4 (e 2)) _
   rw[e2]
   refine aA (dF (by rw[T.get_upd_same]) rfl) ?_
   refine⟨h,hs.new hf (Nat.le_refl _),?_⟩
   have:l.take i=l:=List.take_of_length_le (by omega)
   rw[this]
   exact hK _ (by omega)
 ·exact (((Sub.refl h).new hf (Nat.le_refl _)).new hf (by omega)).new hf (by omega)
 ·exact ((hf.upd (m:=nx+5) (by omega) (by omega)).upd (Nat.le_refl _) (by omega)).upd (Nat.le_refl _) (by omega)
 ·simp (disch:=first | omega | exact Int.natCast_nonneg _ | assumption) only [BB,B2,↓reduceIte,Nat.reduceLeDiff,Nat.reduceAdd,aT,aU,aY,aX,aW,aV,gN]
 ·rw[T.get_upd_same]; rfl
set_option maxRecDepth 20000
set_option maxRecDepth 20000
set_option maxRecDepth 20000
set_option maxRecDepth 20000
theorem aPX (aid:Nat) (b:Int):bR Tryz.prog a9 aid 1 [(0,.int .u8 b)]=some (.slice (some (own aid 1)) 1 1,some (.cells #[.int .u8 b] bS)):=by kernel_rfl
theorem lB:und Tryz.prog a9=some (.slice bS):=by kernel_rfl
theorem aCG:∃ i,tin Tryz.prog bS=some i∧i.size=1∧i.bytes=1:=by
 have h:(tin Tryz.prog bS).map (fun i=>(i.size,i.bytes))=some (1,1):=by kernel_rfl
 cases hi:tin Tryz.prog bS with
 | none=>rw[hi] at h; cases h
 | some i=>rw[hi] at h; simp at h; exact⟨i,rfl,h.1,h.2⟩
theorem aHF:zer Tryz.prog bS=some (.int .u8 0):=by kernel_rfl
theorem aKa {ro:Ro}{h:T Obj}{v x:Value}{nx lo hi:Nat}{l:List Nat}{b:Nat} (ho:Own h v 1 bS (bU l) lo hi) (hx:Sl ro h x 1 (bU [b])) (hb:l.length≤1000000) (hlo:lo≤nx) (hnx:hi≤nx) :
  ∃ h' r,cC Tryz.prog ro h nx #[a9,a9] [v,x]=some (r,h',nx+1)∧Own h' r 1 bS (bU (l++[b])) lo (nx+1)∧(∀ k,(k < lo∨hi≤k)→k≠nx→h'.get k=h.get k)∧(∀ k,k≠nx→h'.get k=h.get k∨h'.get k=none):=by
 obtain⟨i,h1,h2,h3⟩:=aCG
 have hcat:bU l++bU [b]=bU (l++[b]):=by simp[bU]
 have hl1:(bU l).length=l.length:=dL l
 have hl2:(bU [b]).length=1:=rfl
 obtain⟨h',q1,q2,q3,q4⟩:=aAY (P:=Tryz.prog) (t:=a9) ho hx lB h1 h2 (by omega) aHF rfl (by simp[bU]) rfl (by rw[hl1,hl2,h3]; unfold big; omega) (by rw[hl1,hl2]; unfold big; omega) hlo hnx
 rw[hcat] at q1 q2
 exact⟨h',_,q1,q2,q3,q4⟩
set_option maxRecDepth 20000
set_option maxRecDepth 20000
theorem aCy (m:Nat) (l:List Nat) (b:Nat):(pI m l).testBit b=(m.testBit b || decide (b∈l)):=by
 induction l generalizing m with
 | nil=>simp[pI]
 | cons a l ih =>
  have:pI m (a::l)=pI (m ||| 2 ^ a) l:=rfl
  rw[this,ih,Nat.testBit_or,Nat.testBit_two_pow]
  by_cases e:a=b
  ·subst e; simp
  ·have:¬ b=a:=fun h=>e h.symm
   simp[e,this]
def mem (c:List Nat) (k:Int) (i:Nat):List Nat:=(List.range i).filter fun b=>decide (((c.getD b 0:Nat):Int)=k)
def aNd (c:List Nat) (k:Int):Nat:=pI 0 (mem c k 256)
theorem aDf (p:Nat→Bool) (i:Nat):[i].filter p=if p i=true then [i] else []:=by
 cases h:p i<;>simp[h]
theorem aIE (c:List Nat) (k:Int) (i:Nat):mem c k (i+1)=mem c k i++(if ((c.getD i 0:Nat):Int)=k then [i] else []):=by
 unfold mem
 rw[List.range_succ,List.filter_append,aDf]
 simp only[decide_eq_true_eq]
theorem aPY {c:List Nat}{k:Int}{i b:Nat} (h:b∈mem c k i):b < i:=by
 unfold mem at h
 exact List.mem_range.1 (List.mem_filter.1 h).1
theorem aKS (c:List Nat) (k:Int) (i:Nat):(mem c k i).length≤i:=by
 unfold mem
 refine Nat.le_trans (List.length_filter_le _ _) ?_
 simp
theorem tC {ro:Ro}{h h0:T Obj}{v:Value}{n1 lo hi nx nx0:Nat}{l:List Nat}{b:Nat}{K:Value × T Obj × Nat→Prop} (ho:Own h v 1 bS (bU l) lo hi) (hl:l.length≤1000000) (hf:Fr h nx) (hs:Sub h0 h) (hf0:Fr h0 nx0) (hlo0:nx0≤lo) (hlo:lo≤hi) (hn:hi≤n1) (hnx:nx≤n1) (h2:n1+1≤nx+1000)
  {n2:Nat} (hn2:n1 < n2)
  (hK:∀ h' r,Own h' r 1 bS (bU (l++[b])) lo (n2+1)→Sub h0 h'→Fr h' (n2+1)→(∀ k,(k < lo∨hi≤k)→k≠n2→k≠n1→h'.get k=h.get k)→K (r,h',n2+1)) :
  aB (bR Tryz.prog a9 n1 1 [(0,.int .u8 (b:Int))]) fun r=>eQ h n1 r.2 fun h'=>aB (cC Tryz.prog ro h' n2 #[a9,a9] [v,r.1]) K:=by
 refine aA (aPX _ _) (aE ?_)
 have ho2:Own (h.upd n1 (some (.cells #[.int .u8 (b:Int)] bS))) v 1 bS (bU l) lo hi:=ho.keep (Nat.le_refl _) fun id h1 h2 o hg=>by rw[T.get_upd_ne _ _ (by omega)]; exact hg
 have hx1:Sl ro (h.upd n1 (some (.cells #[.int .u8 (b:Int)] bS))) (.slice (some (own n1 1)) 1 1) 1 (bU [b]):=Sl.own (l:=bU [b]) (by rw[T.get_upd_same]; rfl) (by simp[bU]) (Nat.le_refl _)
 obtain⟨h2,r,q1,q2,q3,q4⟩:=aKa (nx:=n2) ho2 hx1 hl (by omega) (by omega)
 refine aA q1 (hK h2 r q2 ?_ ?_ ?_)
 ·intro k o hk
  have hkn:k < nx0:=by
   rcases Nat.lt_or_ge k nx0 with h9 | h9
   ·exact h9
   ·rw[hf0 k h9] at hk; cases hk
  rw[q3 k (.inl (by omega)) (by omega),T.get_upd_ne _ _ (by omega)]
  exact hs k o hk
 ·intro k hk
  rw[q3 k (.inr (by omega)) (by omega),T.get_upd_ne _ _ (by omega)]
  exact hf k (by omega)
 ·intro k hk h3 h4
  rw[q3 k hk h3,T.get_upd_ne _ _ h4]
set_option maxRecDepth 20000
set_option maxRecDepth 4000 in
theorem aI2 {ro:Ro}{c:List Nat}{n k:Int} (hc:c.length=256) (hcl:∀ x∈c,x < 256) {h:T Obj}{nx:Nat}{K:KV} (hf:Fr h nx) (hK:∀ nx',nx≤nx'→K (aB4 (aNd c k)) h nx'):aN Tryz.prog ro xY [mS c n,.int .i64 k] h nx K:=by
 apply aGq
 unfold aFr
 refine aD (wL (aD ?_))
 refine bE (fun j e h' nx'=>∃ (i:Nat) (lv:Value),i+j=256∧nx+2≤nx'∧e 1=.int .i64 k∧e 2=ptr nx∧e 4=ptr (nx+1)∧e 5=lv∧e 6=.int .i64 i∧Sub h h'∧Fr h' nx' ∧
  h'.get nx=some (.cells (fG c n).toArray dN)∧h'.get (nx+1)=some (.cells (mY 0).toArray eB)∧Own h' lv 1 bS (bU (mem c k i)) (nx+2) nx') ?_ (n:=256) ⟨0,_,by omega,by omega,rfl,rfl,rfl,rfl,rfl,?_,?_,?_,?_,Own.nil⟩
 ·rintro j e h' nx' ⟨i,lv,hij,hnx,e1,e2,e4,e5,e6,hs,hf',g0,g1,ho⟩ Q' hq hx
  unfold aBW
  rw[e1,e2,e5,e6]
  (repeat(first|refine aA (by simp (disch:=first|omega|exact nnN _|assumption) only [BB,B2,↓reduceIte,Nat.reduceLeDiff,Nat.reduceAdd,aT,aU,aY,aX,aW,aV]<;>rfl) ?_|apply aD|apply aE|with_reducible first|apply aG|apply aF|apply aK|apply aH|apply aJ|apply aI|apply aL|apply aC))
  by_cases hi:i < 256
  ·refine iO (by simp; omega) ?_
   have hic:i < c.length:=by omega
   have hci:=hcl _ (List.getElem_mem hic)
   have hg:=yX (n:=n) hic
   have hgd:c.getD i 0=c[i]:=by rw[List.getD_eq_getElem?_getD,List.getElem?_eq_getElem hic]; rfl
   (repeat(first|refine aA (by simp (disch:=first|omega|exact nnN _|assumption) only [BB,B2,↓reduceIte,Nat.reduceLeDiff,Nat.reduceAdd,aT,aU,aY,aX,aW,aV,g0,hg]<;>rfl) ?_|apply aD|apply aE|with_reducible first|apply aG|apply aF|apply aK|apply aH|apply aJ|apply aI|apply aL|apply aC))
   have hj2:∀ (e:Env) (h1:T Obj) (n2:Nat) (lv:Value),nx'≤n2→e 1=.int .i64 k→e 2=ptr nx→e 4=ptr (nx+1)→e 5=lv→e 6=.int .i64 i→Sub h h1→Fr h1 n2→h1.get nx=some (.cells (fG c n).toArray dN)→h1.get (nx+1)=some (.cells (mY 0).toArray eB) →
     Own h1 lv 1 bS (bU (mem c k (i+1))) (nx+2) n2→rH ro Q' e h1 n2:=by
    intro e h1 n2 lv hn2 e1 e2 e4 e5 e6 hs1 hf1 g0 g1 ho1
    unfold rH
    rw[e6]
    (repeat(first|refine aA (by simp (disch:=first|omega|exact nnN _|assumption) only [BB,B2,↓reduceIte,Nat.reduceLeDiff,Nat.reduceAdd,aT,aU,aY,aX,aW,aV]<;>rfl) ?_|apply aD|apply aE|with_reducible first|apply aG|apply aF|apply aK|apply aH|apply aJ|apply aI|apply aL|apply aC))
    exact hq (j - 1) _ _ _ _ (by omega) ⟨i+1,lv,by omega,by omega,e1,e2,e4,e5,rfl,hs1,hf1.mono (by omega),g0,g1,ho1.keep (by omega) fun _ _ _ _ hg=>hg⟩ (Sub.refl _)
   by_cases hk:((c[i]:Nat):Int)=k
   ·refine iO (by simp[hk]) ?_
    (repeat(first|refine aA (by simp (disch:=first|omega|exact nnN _|assumption) only [BB,B2,↓reduceIte,Nat.reduceLeDiff,Nat.reduceAdd,aT,aU,aY,aX,aW,aV]<;>rfl) ?_|apply aD|apply aE|with_reducible first|apply aG|apply aF|apply aK|apply aH|apply aJ|apply aI|apply aL|apply aC))
    refine tC (h0:=h) (nx0:=nx) (nx:=nx') (lo:=nx+2) (hi:=nx') ho (Nat.le_trans (aKS _ _ _) (by omega)) hf' hs hf (by omega) (by omega) (by omega) (by omega) (by omega) (by omega) fun h2 r q1 q2 q3 q4=>?_
    dsimp only
    refine hj2 _ _ _ r (by omega) e1 e2 e4 rfl e6 q2 (q3.mono (by omega)) ?_ ?_ ?_
    ·rw[q4 _ (.inl (by omega)) (by omega) (by omega)]; exact g0
    ·rw[q4 _ (.inl (by omega)) (by omega) (by omega)]; exact g1
    ·rw[aIE,hgd,if_pos hk]; exact q1.keep (by omega) fun _ _ _ _ hg=>hg
   ·refine iN (by simp[hk]) ?_
    refine hj2 _ _ _ lv (by omega) e1 e2 e4 e5 e6 hs (hf'.mono (by omega)) g0 g1 ?_
    rw[aIE,hgd,if_neg hk,List.append_nil]; exact ho.keep (by omega) fun _ _ _ _ hg=>hg
  ·refine iN (by simp; omega) ?_
   refine hx _ _ _ _ (fun e=>by cases e) (eD (cQ ?_))
   have hi2:i=256:=by omega
   subst hi2
   unfold wC
   have f4:∀ a b,Env.put (Env.put e 7 a) 8 b 4=ptr (nx+1):=fun a b=>e4
   have f5:∀ a b,Env.put (Env.put e 7 a) 8 b 5=lv:=fun a b=>e5
   simp only[puts,f4,f5]
   refine aJ6 (fun b hb=>aPY hb) (Nat.le_trans (aKS c k 256) (by omega)) (hf'.mono (by omega)) ho.sl fun n2 hn2=>?_
   refine aA (lX (l:=mY 0) (vs:=mY (aNd c k)) g1 rfl rfl rfl rfl) ?_
   refine aA (dF (by rw[T.get_upd_same]) rfl) ?_
   exact⟨h,hs.new hf (by omega),hK _ (by omega)⟩
 ·exact ((Sub.refl h).new hf (Nat.le_refl _)).new hf (by omega)
 ·exact (hf.upd (m:=nx+4) (by omega) (by omega)).upd (Nat.le_refl _) (by omega)
 ·simp (disch:=first | omega | exact Int.natCast_nonneg _ | assumption) only [BB,B2,↓reduceIte,Nat.reduceLeDiff,Nat.reduceAdd,aT,aU,aY,aX,aW,aV,mJ]
 ·simp (disch:=first | omega | exact Int.natCast_nonneg _ | assumption) only [BB,B2,↓reduceIte,Nat.reduceLeDiff,Nat.reduceAdd,aT,aU,aY,aX,aW,aV,gN]
def lst (m i:Nat):List Nat:=(List.range i).filter fun b=>m.testBit b
def aM8 (m:Nat):List Nat:=lst m 256
theorem aIB (m i:Nat):lst m (i+1)=lst m i++(if m.testBit i=true then [i] else []):=by
 unfold lst
 rw[List.range_succ,List.filter_append,aDf]
theorem aNv (m i:Nat):(lst m i).length≤i:=by
 unfold lst
 refine Nat.le_trans (List.length_filter_le _ _) ?_
 simp
set_option maxRecDepth 4000 in
theorem aGo {ro:Ro}{m:Nat}{h:T Obj}{nx:Nat}{K:KV} (hf:Fr h nx) (hK:∀ r h' nx',nx≤nx'→Sub h h'→Fr h' nx'→Own h' r 1 bS (bU (aM8 m)) nx nx'→K r h' nx'):aN Tryz.prog ro vU [aB4 m] h nx K:=by
 apply aFB
 unfold aEI
 refine aD ?_
 refine bE (fun j e h' nx'=>∃ (i:Nat) (lv:Value),i+j=256∧nx+1≤nx'∧e 1=ptr nx∧e 3=lv∧e 4=.int .i64 i∧Sub h h'∧Fr h' nx' ∧
  h'.get nx=some (.cells (mY m).toArray eB)∧Own h' lv 1 bS (bU (lst m i)) (nx+1) nx') ?_ (n:=256) ⟨0,_,by omega,by omega,rfl,rfl,rfl,?_,?_,?_,Own.nil⟩
 ·rintro j e h' nx' ⟨i,lv,hij,hnx,e1,e3,e4,hs,hf',g0,ho⟩ Q' hq hx
  unfold aAE
  rw[e1,e3,e4]
  (repeat(first|refine aA (by simp (disch:=first|omega|exact nnN _|assumption) only [BB,B2,↓reduceIte,Nat.reduceLeDiff,Nat.reduceAdd,aT,aU,aY,aX,aW,aV]<;>rfl) ?_|apply aD|apply aE|with_reducible first|apply aG|apply aF|apply aK|apply aH|apply aJ|apply aI|apply aL|apply aC))
  by_cases hi:i < 256
  ·refine iO (by simp; omega) ?_
   refine aA (dF g0 rfl) ?_
   (repeat(first|refine aA (by simp (disch:=first|omega|exact nnN _|assumption) only [BB,B2,↓reduceIte,Nat.reduceLeDiff,Nat.reduceAdd,aT,aU,aY,aX,aW,aV]<;>rfl) ?_|apply aD|apply aE|with_reducible first|apply aG|apply aF|apply aK|apply aH|apply aJ|apply aI|apply aL|apply aC))
   refine aC1 hi (hf'.mono (by omega)) fun n1 hn1=>?_
   have hj2:∀ (e:Env) (h1:T Obj) (n2:Nat) (lv:Value),nx'≤n2→e 1=ptr nx→e 3=lv→e 4=.int .i64 i→Sub h h1→Fr h1 n2→h1.get nx=some (.cells (mY m).toArray eB) →
     Own h1 lv 1 bS (bU (lst m (i+1))) (nx+1) n2→pJ ro Q' e h1 n2:=by
    intro e h1 n2 lv hn2 e1 e3 e4 hs1 hf1 g0 ho1
    unfold pJ
    rw[e4]
    (repeat(first|refine aA (by simp (disch:=first|omega|exact nnN _|assumption) only [BB,B2,↓reduceIte,Nat.reduceLeDiff,Nat.reduceAdd,aT,aU,aY,aX,aW,aV]<;>rfl) ?_|apply aD|apply aE|with_reducible first|apply aG|apply aF|apply aK|apply aH|apply aJ|apply aI|apply aL|apply aC))
    exact hq (j - 1) _ _ _ _ (by omega) ⟨i+1,lv,by omega,by omega,e1,e3,rfl,hs1,hf1.mono (by omega),g0,ho1.keep (by omega) fun _ _ _ _ hg=>hg⟩ (Sub.refl _)
   cases hb:m.testBit i with
   | true =>
    refine iO rfl ?_
    (repeat(first|refine aA (by simp (disch:=first|omega|exact nnN _|assumption) only [BB,B2,↓reduceIte,Nat.reduceLeDiff,Nat.reduceAdd,aT,aU,aY,aX,aW,aV]<;>rfl) ?_|apply aD|apply aE|with_reducible first|apply aG|apply aF|apply aK|apply aH|apply aJ|apply aI|apply aL|apply aC))
    refine tC (h0:=h) (nx0:=nx) (nx:=n1) (lo:=nx+1) (hi:=nx') ho (Nat.le_trans (aNv _ _) (by omega)) (hf'.mono (by omega)) hs hf (by omega) (by omega) (by omega) (by omega) (by omega) (by omega) fun h2 r q1 q2 q3 q4=>?_
    dsimp only
    refine hj2 _ _ _ r (by omega) e1 rfl e4 q2 (q3.mono (by omega)) ?_ ?_
    ·rw[q4 _ (.inl (by omega)) (by omega) (by omega)]; exact g0
    ·rw[aIB,hb,if_pos rfl]; exact q1.keep (by omega) fun _ _ _ _ hg=>hg
   | false =>
    refine iN rfl ?_
    refine hj2 _ _ _ lv (by omega) e1 e3 e4 hs (hf'.mono (by omega)) g0 ?_
    rw[aIB,hb,if_neg (by simp),List.append_nil]; exact ho.keep (by omega) fun _ _ _ _ hg=>hg
  ·refine iN (by simp; omega) ?_
   refine hx _ _ _ _ (fun e=>by cases e) (eD (cQ ?_))
   have hi2:i=256:=by omega
   subst hi2
   unfold uH
   have f3:∀ a b,Env.put (Env.put e 5 a) 6 b 3=lv:=fun a b=>e3
   simp only[puts,f3]
   refine⟨h',Sub.refl _,hK _ _ _ (by omega) hs (hf'.mono (by omega)) ?_⟩
   rcases ho with ho | ⟨id,h1,h2,h3⟩
   ·exact .inl ho
   ·exact .inr ⟨id,by omega,by omega,h3⟩
 ·exact (Sub.refl h).new hf (Nat.le_refl _)
 ·exact hf.upd (m:=nx+4) (by omega) (by omega)
 ·simp (disch:=first | omega | exact Int.natCast_nonneg _ | assumption) only [BB,B2,↓reduceIte,Nat.reduceLeDiff,Nat.reduceAdd,aT,aU,aY,aX,aW,aV,gN]
set_option maxRecDepth 20000
def lb (c:List Nat) (k i:Nat):Nat:=((List.range' i (256 - i)).find? fun b=>decide (c.getD b 0=k)).getD 0
def xU (c:List Nat) (n:Int):List Nat:=if n < 1∨256 < n then [] else (List.range n.toNat).map fun k=>lb c k 0
theorem aLB {c:List Nat}{k:Int}:aM8 (aNd c k)=mem c k 256:=by
 unfold aM8 lst mem
 apply List.filter_congr
 intro b hb
 have hb:=List.mem_range.1 hb
 unfold aNd
 rw[aCy]
 simp[mem,hb]
theorem aMi {c:List Nat}{k:Nat}:(mem c (k:Int) 256).head?.getD 0=lb c k 0:=by
 unfold mem lb
 rw[List.head?_filter]
 have:(fun b=>decide (((c.getD b 0:Nat):Int)=(k:Int)))=fun b=>decide (c.getD b 0=k):=by
  funext b
  by_cases h:c.getD b 0=k
  ·rw[decide_eq_true h,decide_eq_true (by rw[h])]
  ·rw[decide_eq_false h,decide_eq_false (by omega)]
 rw[this,← List.range_eq_range']
set_option maxRecDepth 4000 in
theorem aFD {ro:Ro}{c:List Nat}{n:Int} (hc:c.length=256) (hcl:∀ x∈c,x < 256) {h:T Obj}{nx:Nat}{K:KV} (hf:Fr h nx) (hK:∀ r h' nx',nx≤nx'→Sub h h'→Fr h' nx'→Own h' r 1 bS (bU (xU c n)) nx nx'→K r h' nx'):aN Tryz.prog ro pF [mS c n] h nx K:=by
 apply aEK
 unfold aC3
 refine aD ?_
 have hg:=rL (n:=n) hc
 have g0:(h.upd nx (some (.cells (Value.cells (mS c n)) dN))).get nx=some (.cells (fG c n).toArray dN):=by rw[T.get_upd_same]; rfl
 have hs0:Sub h (h.upd nx (some (.cells (Value.cells (mS c n)) dN))):=(Sub.refl h).new hf (Nat.le_refl _)
 have hf0:Fr (h.upd nx (some (.cells (Value.cells (mS c n)) dN))) (nx+1):=(hf.mono (Nat.le_succ _)).upd (Nat.le_refl _) (by omega)
 generalize (h.upd nx (some (.cells (Value.cells (mS c n)) dN)))=h0 at g0 hs0 hf0
 (repeat(first|refine aA (by simp (disch:=first|omega|exact nnN _|assumption) only [BB,B2,↓reduceIte,Nat.reduceLeDiff,Nat.reduceAdd,aT,aU,aY,aX,aW,aV,g0,hg]<;>rfl) ?_|apply aD|apply aE|with_reducible first|apply aG|apply aF|apply aK|apply aH|apply aJ|apply aI|apply aL|apply aC))
 by_cases h1:n < 1
 ·rw[decide_eq_true h1]
  (repeat(first|refine aA (by simp (disch:=first|omega|exact nnN _|assumption) only [BB,B2,↓reduceIte,Nat.reduceLeDiff,Nat.reduceAdd,aT,aU,aY,aX,aW,aV,g0,hg]<;>rfl) ?_|apply aD|apply aE|with_reducible first|apply aG|apply aF|apply aK|apply aH|apply aJ|apply aI|apply aL|apply aC))
  exact⟨h0,Sub.refl _,hK _ _ _ (by omega) hs0 (hf0.mono (by omega)) (by unfold xU; rw[if_pos (.inl h1)]; exact Own.nil)⟩
 rw[decide_eq_false h1]
 (repeat(first|refine aA (by simp (disch:=first|omega|exact nnN _|assumption) only [BB,B2,↓reduceIte,Nat.reduceLeDiff,Nat.reduceAdd,aT,aU,aY,aX,aW,aV,g0,hg]<;>rfl) ?_|apply aD|apply aE|with_reducible first|apply aG|apply aF|apply aK|apply aH|apply aJ|apply aI|apply aL|apply aC))
 by_cases h2:256 < n
 ·rw[decide_eq_true h2]
  (repeat(first|refine aA (by simp (disch:=first|omega|exact nnN _|assumption) only [BB,B2,↓reduceIte,Nat.reduceLeDiff,Nat.reduceAdd,aT,aU,aY,aX,aW,aV,g0,hg]<;>rfl) ?_|apply aD|apply aE|with_reducible first|apply aG|apply aF|apply aK|apply aH|apply aJ|apply aI|apply aL|apply aC))
  exact⟨h0,Sub.refl _,hK _ _ _ (by omega) hs0 (hf0.mono (by omega)) (by unfold xU; rw[if_pos (.inr h2)]; exact Own.nil)⟩
 rw[decide_eq_false h2]
 obtain⟨k0,rfl⟩:∃ k0:Nat,n=(k0:Int):=⟨n.toNat,by omega⟩
 (repeat(first|refine aA (by simp (disch:=first|omega|exact nnN _|assumption) only [BB,B2,↓reduceIte,Nat.reduceLeDiff,Nat.reduceAdd,aT,aU,aY,aX,aW,aV,g0,hg]<;>rfl) ?_|apply aD|apply aE|with_reducible first|apply aG|apply aF|apply aK|apply aH|apply aJ|apply aI|apply aL|apply aC))
 refine bE (fun j e h' nx'=>∃ (i:Nat) (lv:Value),i+j=k0∧nx+1≤nx'∧e 1=ptr nx∧e 3=lv∧e 4=.int .i64 (i:Int)∧Sub h h'∧Fr h' nx' ∧
  h'.get nx=some (.cells (fG c k0).toArray dN)∧Own h' lv 1 bS (bU ((List.range i).map fun k=>lb c k 0)) (nx+1) nx') ?_ (n:=k0) ⟨0,_,by omega,by omega,rfl,rfl,rfl,hs0,hf0.mono (by omega),g0,Own.nil⟩
 rintro j e h' nx' ⟨i,lv,hij,hnx,e1,e3,e4,hs,hf',g0,ho⟩ Q' hq hx
 unfold yC
 rw[e1,e3,e4]
 (repeat(first|refine aA (by simp (disch:=first|omega|exact nnN _|assumption) only [BB,B2,↓reduceIte,Nat.reduceLeDiff,Nat.reduceAdd,aT,aU,aY,aX,aW,aV,g0,hg]<;>rfl) ?_|apply aD|apply aE|with_reducible first|apply aG|apply aF|apply aK|apply aH|apply aJ|apply aI|apply aL|apply aC))
 by_cases hi:i < k0
 ·refine iO (by simp; omega) ?_
  refine aA (dF g0 (eK hc)) ?_
  refine aI2 (n:=(k0:Int)) hc hcl (hf'.mono (by omega)) fun n1 hn1=>?_
  refine aGo (hf'.mono (by omega)) fun r h2 n2 hn2 hs2 hf2 hr=>?_
  rw[aLB] at hr
  have hlen:=(hr.sl (ro:=ro)).len
  rw[dL] at hlen
  refine aA hlen ?_
  (repeat(first|refine aA (by simp (disch:=first|omega|exact nnN _|assumption) only [BB,B2,↓reduceIte,Nat.reduceLeDiff,Nat.reduceAdd,aT,aU,aY,aX,aW,aV]<;>rfl) ?_|apply aD|apply aE|with_reducible first|apply aG|apply aF|apply aK|apply aH|apply aJ|apply aI|apply aL|apply aC))
  have hrange:(List.range (i+1)).map (fun k=>lb c k 0)=(List.range i).map (fun k=>lb c k 0)++[lb c i 0]:=by rw[List.range_succ,List.map_append]; rfl
  have hol:((List.range i).map fun k=>lb c k 0).length≤1000000:=by rw[List.length_map,List.length_range]; omega
  have ho2:Own h2 lv 1 bS (bU ((List.range i).map fun k=>lb c k 0)) (nx+1) nx':=ho.keep (Nat.le_refl _) fun id _ _ o hg=>hs2 _ _ hg
  have hj2:∀ (e:Env) (h3:T Obj) (n3:Nat) (lv:Value),nx'≤n3→e 1=ptr nx→e 3=lv→e 4=.int .i64 (i:Int)→Sub h h3→Fr h3 n3→h3.get nx=some (.cells (fG c k0).toArray dN) →
    Own h3 lv 1 bS (bU ((List.range (i+1)).map fun k=>lb c k 0)) (nx+1) n3→oG ro Q' e h3 n3:=by
   intro e h3 n3 lv hn3 e1 e3 e4 hs3 hf3 g0 ho3
   unfold oG
   rw[e4]
   (repeat(first|refine aA (by simp (disch:=first|omega|exact nnN _|assumption) only [BB,B2,↓reduceIte,Nat.reduceLeDiff,Nat.reduceAdd,aT,aU,aY,aX,aW,aV]<;>rfl) ?_|apply aD|apply aE|with_reducible first|apply aG|apply aF|apply aK|apply aH|apply aJ|apply aI|apply aL|apply aC))
   exact hq (j - 1) _ _ _ _ (by omega) ⟨i+1,lv,by omega,by omega,e1,e3,rfl,hs3,hf3.mono (by omega),g0,ho3.keep (by omega) fun _ _ _ _ hg=>hg⟩ (Sub.refl _)
  have hhd:=aMi (c:=c) (k:=i)
  by_cases hm:(mem c (i:Int) 256)=[]
  ·refine iO (by rw[hm]; rfl) ?_
   have hl0:lb c i 0=0:=by rw[← hhd,hm]; rfl
   refine tC (b:=0) (h0:=h) (nx0:=nx) (nx:=n2) (lo:=nx+1) (hi:=nx') ho2 hol hf2 (hs.trans hs2) hf (by omega) (by omega) (by omega) (by omega) (by omega) (by omega) fun h3 r3 q1 q2 q3 q4=>?_
   dsimp only
   refine hj2 _ _ _ r3 (by omega) e1 rfl e4 q2 (q3.mono (by omega)) ?_ ?_
   ·rw[q4 _ (.inl (by omega)) (by omega) (by omega)]; exact hs2 _ _ g0
   ·rw[hrange,hl0]; exact q1.keep (by omega) fun _ _ _ _ hg=>hg
  ·have hpos:0 < (mem c (i:Int) 256).length:=List.length_pos_iff.2 hm
   refine iN (by simp; exact hm) ?_
   have hix:=(hr.sl (ro:=ro)).ix .i64 (i:=0) (by rw[dL]; exact hpos)
   refine aA hix ?_
   refine aA ((hr.sl (ro:=ro)).load1 (rY hpos)) ?_
   have hl0:(mem c (i:Int) 256)[0]=lb c i 0:=by rw[← hhd,List.head?_eq_getElem?,List.getElem?_eq_getElem hpos]; rfl
   rw[hl0]
   refine tC (h0:=h) (nx0:=nx) (nx:=n2) (lo:=nx+1) (hi:=nx') ho2 hol hf2 (hs.trans hs2) hf (by omega) (by omega) (by omega) (by omega) (by omega) (by omega) fun h3 r3 q1 q2 q3 q4=>?_
   dsimp only
   refine hj2 _ _ _ r3 (by omega) e1 rfl e4 q2 (q3.mono (by omega)) ?_ ?_
   ·rw[q4 _ (.inl (by omega)) (by omega) (by omega)]; exact hs2 _ _ g0
   ·rw[hrange]; exact q1.keep (by omega) fun _ _ _ _ hg=>hg
 ·refine iN (by simp; omega) ?_
  refine hx _ _ _ _ (fun e=>by cases e) (eD (cQ ?_))
  have hi2:i=k0:=by omega
  subst hi2
  unfold sT
  have f3:∀ a b c d,Env.put (Env.put (Env.put (Env.put e 14 a) 15 b) 16 c) 17 d 3=lv:=fun a b c d=>e3
  simp only[puts,f3]
  have hfz:xU c (i:Int)=(List.range i).map fun k=>lb c k 0:=by unfold xU; rw[if_neg (by omega)]; simp
  refine⟨h',Sub.refl _,hK _ _ _ (by omega) hs (hf'.mono (by omega)) ?_⟩
  rw[hfz]
  rcases ho with ho | ⟨id,q1,q2,q3⟩
  ·exact .inl ho
  ·exact .inr ⟨id,by omega,by omega,q3⟩
end V
end Go.Proofs.YtcaccnneblghgaaGreat
namespace Go.Proofs.YtcaccnneblghgaaGreat
namespace V
attribute [local irreducible] aB ifP aR cT eQ exP cO
theorem okZ:gF Tryz.prog=true:=by kernel_rfl
theorem okN:mG Tryz.prog=true:=by kernel_rfl
theorem okM:Tryz.prog.follows .mixedOrders=true:=by kernel_rfl
def aKp:Nat→List Value→Option (List Nat × Int)
 | 0,[.int .i64 n]=>some ([],n)
 | k+1,.int .u8 x::r=>match decide (0≤x),decide (x < 256) with
  | true,true=>(aKp k r).bind fun p=>some (x.toNat::p.1,p.2)
  | _,_=>none
 | _,_=>none
theorem aKq (k:Nat) (x:Int) (r:List Value):aKp (k+1) (.int .u8 x::r)=match decide (0≤x),decide (x < 256) with
  | true,true=>(aKp k r).bind fun p=>some (x.toNat::p.1,p.2)
  | _,_=>none:=rfl
theorem aNg:∀ {k:Nat}{l:List Value}{c:List Nat}{n:Int},aKp k l=some (c,n)→l=fG c n∧c.length=k∧∀ x∈c,x < 256:=by
 intro k
 induction k with
 | zero =>
  intro l c n h
  unfold aKp at h
  split at h<;>first
   | (cases h; exact⟨rfl,rfl,by simp⟩)
   | (cases h; done)
   | contradiction
 | succ k ih =>
  intro l c n h
  cases l with
  | nil=>cases h
  | cons v r =>
   have hv:∃ x,v=.int .u8 x:=by
    cases v with
    | int kd x =>
     cases kd with
     | u8=>exact⟨x,rfl⟩
     | _=>cases (show (none:Option (List Nat × Int))=some (c,n) from h)
    | _=>cases (show (none:Option (List Nat × Int))=some (c,n) from h)
   obtain⟨x,rfl⟩:=hv
   rw[aKq] at h
   split at h
   ·rename_i h1 h2
    obtain⟨p,h3,h4⟩:=aM h
    obtain⟨p1,p2⟩:=p
    simp only[Option.some.injEq,Prod.mk.injEq] at h4
    obtain⟨rfl,rfl⟩:=h4
    obtain⟨h5,h6,h7⟩:=ih h3
    simp only[decide_eq_true_eq] at h1 h2
    refine⟨?_,by simp[h6],fun y hy=>?_⟩
    ·rw[h5]
     simp only[fG,u8s,List.map_cons,List.cons_append]
     rw[Int.toNat_of_nonneg h1]
    ·rcases List.mem_cons.1 hy with rfl | hy
     ·omega
     ·exact h7 y hy
   ·cases h
def aQP:aK9:=fun f args=>match Nat.beq f pF,args with
 | true,[.agg cs]=>match aKp 256 cs.toList with
  | some (c,n)=>match xU c n with
   | []=>none
   | x::r=>some (1,(x::r).length,(x::r).length,bS,(x::r).map fun b:Nat=>Value.int .u8 (b:Int))
  | none=>none
 | _,_=>none
theorem zW:∀ l:List Nat,(bU l).flatten=l.map fun b:Nat=>Value.int .u8 (b:Int)
 | []=>rfl
 | x::r=>by
  have:=zW r
  simp only[bU,List.map_cons,List.flatten_cons] at this ⊢
  rw[this]; rfl
theorem kO:∀ f args z l c e cs,aQP f args=some (z,l,c,e,cs)→aHH Tryz.prog f args z l c cs:=by
 intro f args z l c e cs h
 unfold aQP at h
 split at h
 ·rename_i cells hf
  split at h
  ·rename_i c' n hd
   obtain⟨h1,h2,h3⟩:=aNg hd
   split at h
   ·cases h
   ·rename_i x r hx
    have hne:xU c' n≠[]:=by rw[hx]; simp
    rw[← hx] at h
    simp only[Option.some.injEq,Prod.mk.injEq] at h
    obtain⟨rfl,rfl,rfl,rfl,rfl⟩:=h
    have hfe:f=pF:=Nat.eq_of_beq_eq_true hf
    subst hfe
    have hc:(Value.agg cells)=mS c' n:=by
     unfold mS
     rw[← h1]
    rw[hc]
    have hlen:0 < (xU c' n).length:=List.length_pos_iff.2 hne
    refine aOI okZ okN okM ?_ ?_ (by kernel_rfl) (Nat.le_refl _) (by simp) hlen fun ro=>?_
    ·simp[rigid,mS,fG,u8s,V.flat]
    ·simp[V.flat]
    ·refine aFD h2 h3 Fr.e fun r h' nx' hn hs hf' ho=>?_
     rcases ho with ⟨_,he⟩ | ⟨id,_,_,rfl,_,hg⟩
     ·exact absurd (List.map_eq_nil_iff.1 he) hne
     ·refine⟨id,bS,?_,?_⟩
      ·rw[dL]; rfl
      ·rw[hg,zW]
  ·cases h
 ·cases h
end V
end Go.Proofs.YtcaccnneblghgaaGreat
set_option maxRecDepth 8000
namespace Go.Proofs.YtcaccnneblghgaaGreat
namespace V
open Go.ChangeShapes Go.WideShapes Go.ChangeAt Go.RowKit
set_option maxRecDepth 8000
theorem aQM:ownKnob Tryz.prog.godebug=none:=by kernel_rfl
theorem aP4:laidOutB Tryz.prog=true:=by kernel_rfl
section
variable {H:Type}{enc:TypeId × Value→H}{W:World}
theorem aQS {n:Int} (h:(Lit.int .u8 n).wf=true):0≤n∧n≤255:=by
 simp only[Lit.wf,Bool.and_eq_true,decide_eq_true_eq] at h
 have h1:IntKind.u8.min=0:=rfl
 have h2:IntKind.u8.max=255:=rfl
 rw[h1,h2] at h; exact h
end
end V
end Go.Proofs.YtcaccnneblghgaaGreat
namespace Go.Proofs.YtcaccnneblghgaaGreat
namespace V
attribute [local irreducible] aB ifP aR cT eQ exP cO
theorem aGb (a b:Value):nth 0 (.tuple #[a,b])=some a:=rfl
theorem aGc (a b:Value):nth 1 (.tuple #[a,b])=some b:=rfl
theorem wW {t:TypeId}{s b:Nat} (h:(tin Tryz.prog t).map (fun i=>(i.size,i.bytes))=some (s,b)):∃ i,tin Tryz.prog t=some i∧i.size=s∧i.bytes=b:=by
 cases hi:tin Tryz.prog t with
 | none=>rw[hi] at h; cases h
 | some i=>rw[hi] at h; simp at h; exact⟨i,rfl,h.1,h.2⟩
theorem aRB:zer Tryz.prog dR=some (.int .i64 0):=by kernel_rfl
section
variable {av bv nv fv:Value}{c:List Nat}{n:Int}{cv sv kv ev yv:Value}
theorem aLm (hc:c.length=256) (v:Value):(eA c n cv sv).set 258 v=eA c n cv v:=by
 unfold eA
 rw[List.set_append_right _ _ (by rw[eK hc]; omega),eK hc]; rfl
theorem aHM (hc:c.length=256) (v:Value):(eA c n cv sv).set 257 v=eA c n v sv:=by
 unfold eA
 rw[List.set_append_right _ _ (by rw[eK hc]; omega),eK hc]; rfl
end
def dM (ids:List Nat) (h h':T Obj):Prop:=∀ k o,h.get k=some o→k ∉ ids→h'.get k=some o
theorem Sub.keepL {ids:List Nat}{h h':T Obj} (hs:Sub h h'):dM ids h h':=fun k o hk _=>hs k o hk
theorem dM.trans {ids:List Nat}{a b c:T Obj} (h1:dM ids a b) (h2:dM ids b c):dM ids a c:=fun k o hk hi=>h2 k o (h1 k o hk hi) hi
theorem dM.mono {ids ids':List Nat}{a b:T Obj} (h1:dM ids a b) (h2:∀ k,k∈ids→k∈ids'):dM ids' a b:=fun k o hk hi=>h1 k o hk fun h=>hi (h2 k h)
theorem dM.upd {ids:List Nat}{a b:T Obj}{i:Nat}{o:Option Obj} (h1:dM ids a b) (hi:i∈ids):dM ids a (b.upd i o):=fun k x hk hn=>by
 rw[T.get_upd_ne _ _ (fun e=>hn (by rw[e]; exact hi))]; exact h1 k x hk hn
def del (h:T Obj):List Nat→T Obj
 | []=>h
 | i::l=>(del h l).upd i none
theorem jU {h:T Obj}:∀ {l:List Nat}{k:Nat},(del h l).get k=if k∈l then none else h.get k
 | [],k=>by simp[del]
 | i::l,k=>by
  show ((del h l).upd i none).get k=_
  by_cases hk:k=i
  ·subst hk; rw[T.get_upd_same]; simp
  ·rw[T.get_upd_ne _ _ hk,jU]; simp[hk]
theorem eF (h:T Obj) (l:List Nat):Sub (del h l) h:=fun k o hk=>by
 rw[jU] at hk
 split at hk
 ·cases hk
 ·exact hk
theorem j7 {h:T Obj}{l:List Nat}{k:Nat}{o:Obj} (hk:h.get k=some o) (hn:k ∉ l):(del h l).get k=some o:=by rw[jU,if_neg hn]; exact hk
theorem dM.del {ids l l':List Nat}{h h':T Obj} (hk:dM ids h h') (h1:∀ k,k∈ids→k∈l) (h2:∀ k,k∈l'→k∈l∨h.get k=none):Sub (del h l) (del h' l'):=fun k o hg=>by
 rw[jU] at hg
 split at hg
 ·cases hg
 ·rename_i hn
  refine j7 (hk k o hg fun h=>hn (h1 k h)) fun hm=>?_
  rcases h2 k hm with h3 | h3
  ·exact hn h3
  ·rw[h3] at hg; cases hg
theorem cW.keepK {ids:List Nat}{h h':T Obj}{v:Value}{z:Nat}{e:TypeId}{l:List (List Value)}{lo:Nat} (ho:cW h v z e l lo) (hk:dM ids h h') (hne:∀ id,iK v=some id→id ∉ ids):cW h' v z e l lo:=by
 rcases ho with ho | ⟨id,h1,rfl,h4,h5⟩
 ·exact .inl ho
 ·exact .inr ⟨id,h1,rfl,h4,hk id _ h5 (hne id rfl)⟩
theorem cW.del {h:T Obj}{v:Value}{z:Nat}{e:TypeId}{l:List (List Value)}{lo:Nat}{ids:List Nat} (ho:cW h v z e l lo) (hne:∀ id,iK v=some id→id ∉ ids):cW (del h ids) v z e l lo:=by
 rcases ho with ho | ⟨id,h1,rfl,h4,h5⟩
 ·exact .inl ho
 ·exact .inr ⟨id,h1,rfl,h4,j7 h5 (hne id rfl)⟩
theorem Kp.keepL {v:Value}{h h':T Obj}{ids:List Nat} (hk:Kp v h h') (hv:∀ id,iK v=some id→id∈ids):dM ids h h':=fun k o h1 h2=>hk k o h1 fun e=>h2 (hv k e)
theorem cW.blk {h:T Obj}{v:Value}{z:Nat}{e:TypeId}{l:List (List Value)}{lo id:Nat} (ho:cW h v z e l lo) (hb:iK v=some id):lo≤id∧h.get id=some (.cells l.flatten.toArray e):=by
 rcases ho with ⟨rfl,_⟩ | ⟨i,h1,rfl,h4,h5⟩
 ·cases hb
 ·have:i=id:=Option.some.inj hb
  subst this; exact⟨h1,h5⟩
theorem cW.ok {h:T Obj}{v:Value}{z:Nat}{e:TypeId}{l:List (List Value)}{lo:Nat} (ho:cW h v z e l lo):cU v=true:=(ho.sl (ro:=fun _=>none)).ok
abbrev cX:Value:=.slice none 0 0
theorem aNX:und Tryz.prog i4=some (.slice dR):=by kernel_rfl
theorem aNP:∃ i,tin Tryz.prog dR=some i∧i.size=1∧i.bytes=8:=wW (by kernel_rfl)
theorem rQ:zer Tryz.prog bD=some (.agg #[cX,cX,cX,cX]):=by kernel_rfl
theorem aLD (aid:Nat) (a b c d:Value):bR Tryz.prog iI aid 1 [(0,.agg #[a,b,c,d])]=some (.slice (some (own aid 4)) 1 1,some (.cells [a,b,c,d].toArray bD)):=by kernel_rfl
theorem aJp:und Tryz.prog iI=some (.slice bD):=by kernel_rfl
theorem aL5:∃ i,tin Tryz.prog bD=some i∧i.size=4∧i.bytes=96:=wW (by kernel_rfl)
def aGh (l:List Nat):List (List Value):=l.map fun b:Nat=>[Value.int .u8 (b:Int)]
theorem aBS (l:List Nat):(aGh l).length=l.length:=by simp[aGh]
theorem aEj:zer Tryz.prog cE=some (.agg #[.int .i64 0,cX]):=by kernel_rfl
def qH (e:TypeId) (h h':T Obj):Prop:=∀ (k:Nat) c f,h.get k=some (.cells c e f)→h'.get k=some (.cells c e f)
theorem qH.refl {e:TypeId}{h:T Obj}:qH e h h:=fun _ _ _ hg=>hg
theorem qH.trans {e:TypeId}{a b c:T Obj} (h1:qH e a b) (h2:qH e b c):qH e a c:=fun k x f hg=>h2 k x f (h1 k x f hg)
theorem Sub.ty {e:TypeId}{h h':T Obj} (hs:Sub h h'):qH e h h':=fun k c f hg=>hs _ _ hg
theorem qH.upd {e e':TypeId}{a h:T Obj}{i:Nat}{o:Option Obj}{c:Array Value}{f:Nat × Nat} (h1:qH e a h) (hg:h.get i=some (.cells c e' f)) (he:e'≠e):qH e a (h.upd i o):=fun k x q hk=>by
 have:=h1 k x q hk
 rw[T.get_upd_ne _ _ (by
  rintro rfl
  rw[hg] at this
  simp only[Option.some.injEq,Obj.cells.injEq] at this
  exact he this.2.1)]
 exact this
theorem cW.ty {h h':T Obj}{v:Value}{z:Nat}{e:TypeId}{l:List (List Value)}{lo:Nat} (ho:cW h v z e l lo) (hk:qH e h h'):cW h' v z e l lo:=by
 rcases ho with ho | ⟨id,h1,rfl,h4,h5⟩
 ·exact .inl ho
 ·exact .inr ⟨id,h1,rfl,h4,hk _ _ _ h5⟩
theorem cW.neB {h:T Obj}{v:Value}{z:Nat}{e:TypeId}{l:List (List Value)}{lo k:Nat}{o:Obj} (ho:cW h v z e l lo) (hk:h.get k=some o) (he:∀ c f,o≠.cells c e f):iK v≠some k:=fun hb=>by
 obtain⟨_,h5⟩:=ho.blk hb
 rw[hk] at h5
 exact he _ _ (Option.some.inj h5)
theorem Kp.ty {h h':T Obj}{v:Value}{z:Nat}{e e':TypeId}{l:List (List Value)}{lo:Nat} (hk:Kp v h h') (ho:cW h v z e' l lo) (he:e'≠e):qH e h h':=fun k c f hg=>hk k _ hg (ho.neB hg (by
 intro c f h
 simp only[Obj.cells.injEq] at h
 exact he h.2.1.symm))
theorem aLa:und Tryz.prog eL=some (.slice cE):=by kernel_rfl
theorem aNO:∃ i,tin Tryz.prog cE=some i∧i.size=2∧i.bytes=32:=wW (by kernel_rfl)
theorem sB {h:T Obj}{l l':List Nat} (hl:∀ k,k∈l→k∈l'):Sub (del h l') (del h l):=fun k o hk=>by
 rw[jU] at hk
 split at hk
 ·cases hk
 ·rename_i hn
  exact j7 hk fun h=>hn (hl k h)
theorem dM.delS {ids l:List Nat}{h h':T Obj} (hk:dM ids h h') (hl:∀ k,k∈ids→k∈l):Sub (V.del h l) h':=fun k o hg=>by
 rw[jU] at hg
 split at hg
 ·cases hg
 ·rename_i hn; exact hk k o hg fun h=>hn (hl k h)
def vO:List Value:=eA (List.replicate 256 0) 0 cX cX
theorem aEi:zer Tryz.prog bK=some (.agg vO.toArray):=by kernel_rfl
theorem rW:vO.length=259:=cS List.length_replicate
theorem Sub.delN {h h':T Obj}{ids:List Nat}{n:Nat} (hs:Sub h h') (hf:Fr h n) (hi:∀ i∈ids,n≤i):Sub h (V.del h' ids):=fun k o hk=>j7 (hs k o hk) fun hm=>by
 have:=hf.lt' hk
 have:=hi k hm
 omega
def aEs (l:List (Int × Int)):List (List Value):=l.map fun p=>[.int .i64 p.1,.int .i64 p.2]
theorem aAt (l:List (Int × Int)):(aEs l).length=l.length:=by simp[aEs]
theorem aPw {ro:Ro}{h:T Obj}{v:Value}{l:List (Int × Int)}{lo:Nat} (ho:cW h v 2 gL (aEs l) lo):SlR ro h v 2 vM l:=⟨aEs l,ho.sl,aAt l,fun i x d hx hd=>by
 unfold aEs at hx
 rw[List.getElem?_map,hd] at hx
 exact (Option.some.inj hx).symm⟩
end V
end Go.Proofs.YtcaccnneblghgaaGreat
namespace Go.Proofs.YtcaccnneblghgaaGreat
namespace V
attribute [local irreducible] qR aN aB
abbrev iA:FuncId:=18
abbrev jH:FuncId:=19
abbrev lM:FuncId:=123
abbrev mQ:FuncId:=124
abbrev mP:FuncId:=125
abbrev kT:FuncId:=160
abbrev jG:FuncId:=161
abbrev jF:FuncId:=162
abbrev jV:FuncId:=163
abbrev lN:FuncId:=186
abbrev nD:FuncId:=188
abbrev nB:FuncId:=189
abbrev qJ:FuncId:=194
abbrev qI:FuncId:=195
abbrev fY:FuncId:=196
@[irreducible] def tK (ro:Ro) (K:KV):Env→T Obj→Nat→Prop:=fun e h nx=>∃ h14,Sub h14 h∧K (.tuple #[(e 4),(Value.int IntKind.i64 0)]) h14 (nx+3)
@[irreducible] def aCP (ro:Ro):PT:=fun e h nx Q=>aB (aO .lss (e 19) (e 18)) fun d'=>aR d' (aB (cM 2 (e 17) (e 19)) fun g'=>aB (loadA ro h 2 g') fun h'=>aB (zer Tryz.prog gL) fun u'=>cT h (nx+3) (.cells u'.cells gL) fun v'=>aB (bV 2 v' (ptr (nx+3)) h') fun n'=>aB (ixArr 2 1 (ptr (nx+3)) (Value.int IntKind.i64 1)) fun i'=>aB (load1 ro n' i') fun j'=>aN Tryz.prog ro aA8 [j'] n' (nx+8) fun b' k' e'=>aB (nth 0 b') fun c'=>aB (nth 1 b') fun a'=>aB (aO .neq a' (Value.int IntKind.i64 0)) fun l'=>aR l' (Q .ret (puts e [(20,d'),(21,g'),(22,h'),(6,(ptr (nx+3))),(24,i'),(25,j'),(26,b'),(23,b'),(27,c'),(28,a'),(7,c'),(8,a'),(29,a'),(30,l'),(31,a'),(2,(Value.pointer none)),(3,a')]) k' (e'+10)) (aB (bN (e 4)) fun o'=>aB (aS 260 o') fun p'=>aB (load1 ro k' p') fun q'=>aB (bR Tryz.prog kU (e'+13) 1 [(0,c')]) fun m'=>eQ k' (e'+13) m'.2 fun w'=>aB (cC Tryz.prog ro w' (e'+15) #[kU,kU] [q',m'.1]) fun f'=>aB (bN (e 4)) fun r'=>aB (aS 260 r') fun s'=>aB (bV 1 f'.2.1 s' f'.1) fun x'=>aB (aO .add (e 19) (Value.int IntKind.i64 1)) fun t'=>Q .normal (puts e [(20,d'),(21,g'),(22,h'),(6,(ptr (nx+3))),(24,i'),(25,j'),(26,b'),(23,b'),(27,c'),(28,a'),(7,c'),(8,a'),(29,a'),(30,l'),(32,(e 4)),(33,(e 4)),(34,o'),(35,p'),(36,q'),(37,c'),(38,m'.1),(39,f'.1),(40,r'),(41,s'),(42,t'),(19,t')]) x' (f'.2.2+5))) (Q (.exit 0) (puts e [(20,d')]) h (nx+1))
@[irreducible] def aHc (ro:Ro) (v0:Value) (h:T Obj) (nx:Nat) (K:KV):Prop:=cT h nx (.cells (Value.cells v0) bK) fun h1=>aB (loadA ro h1 259 (ptr nx)) fun e'=>aN Tryz.prog ro qZ [e'] h1 (nx+5) fun f' h4 n5=>aB (unV .not f') fun g'=>aR g' (∃ h7,Sub h7 h4∧K (.tuple #[(Value.pointer none),(Value.int IntKind.i64 1)]) h7 (n5+3)) (aB (loadA ro h4 259 (ptr nx)) fun h'=>aN Tryz.prog ro tZ [h'] h4 (n5+3) fun i' o' a'=>aB (fJ Tryz.prog bJ [(0,i')]) fun j'=>cT o' (a'+1) (.cells (Value.cells j') bJ) fun k'=>aB (aS 257 (ptr nx)) fun l'=>aB (load1 ro k' l') fun m'=>aB (bH m') fun p'=>dT (aCP ro) (puts (gM [v0]) [(1,(ptr nx)),(2,(Value.pointer none)),(3,(Value.int IntKind.i64 0)),(9,e'),(10,f'),(11,g'),(12,h'),(13,i'),(14,j'),(15,(ptr (a'+1))),(4,(ptr (a'+1))),(16,l'),(17,m'),(18,p'),(19,(Value.int IntKind.i64 0))]) k' (a'+7) fun q' b' c' d'=>exP q' (tK ro K b' c' d') (fun r'=>cO (Nat.beq r' 0) (tK ro K b' c' d') (False)) (∃ n',Sub n' c'∧K (.tuple #[(b' 2),(b' 3)]) n' d'))
theorem aHd {ro:Ro}{v0:Value}{h:T Obj}{nx:Nat}{K:KV} (hw:aHc ro v0 h nx K):aN Tryz.prog ro aA4 [v0] h nx K:=bA (P:=Tryz.prog) (fn:=Tryz.f39) (by kernel_rfl) (by kernel_rfl) (by kernel_rfl) (Eq.mpr (by kernel_rfl) hw)
@[irreducible] def nW (ro:Ro) (K:KV):Env→T Obj→Nat→Prop:=fun e h nx=>aB (loadA ro h 259 (e 3)) fun c'=>aB (bV 259 h (e 2) c') fun a'=>aB (loadA ro a' 259 (e 2)) fun d'=>∃ b',Sub b' a'∧K d' b' (nx+2)
@[irreducible] def nX (ro:Ro) (Q:KE):Env→T Obj→Nat→Prop:=fun e h nx=>aB (aO .add (e 21) (Value.int IntKind.i64 1)) fun a'=>Q .normal (puts e [(69,a'),(21,a')]) h (nx+2)
@[irreducible] def nY (ro:Ro) (Q:KE):Env→T Obj→Nat→Prop:=fun e h nx=>aB (aS 258 (e 3)) fun c'=>aB (load1 ro h c') fun d'=>aB (loadA ro h 4 (e 6)) fun e'=>aB (bR Tryz.prog iI (nx+3) 1 [(0,e')]) fun b'=>eQ h (nx+3) b'.2 fun g'=>aB (cC Tryz.prog ro g' (nx+5) #[iI,iI] [d',b'.1]) fun a'=>aB (aS 258 (e 3)) fun f'=>aB (bV 1 a'.2.1 f' a'.1) fun h'=>nX ro Q (puts e [(63,c'),(64,d'),(65,e'),(66,b'.1),(67,a'.1),(68,f')]) h' (a'.2.2+2)
@[irreducible] def nZ (ro:Ro) (Q:KE):Env→T Obj→Nat→Prop:=fun e h nx=>aB (aO .add (e 35) (Value.int IntKind.i64 1)) fun a'=>Q .normal (puts e [(62,a'),(35,a')]) h (nx+2)
@[irreducible] def oA (ro:Ro) (Q:KE):Env→T Obj→Nat→Prop:=fun e h nx=>aB (aS 3 (e 6)) fun c'=>aB (load1 ro h c') fun d'=>aB (bR Tryz.prog gE (nx+3) 1 [(0,(e 9))]) fun b'=>eQ h (nx+3) b'.2 fun f'=>aB (cC Tryz.prog ro f' (nx+5) #[gE,gE] [d',b'.1]) fun a'=>aB (aS 3 (e 6)) fun e'=>aB (bV 1 a'.2.1 e' a'.1) fun g'=>nZ ro Q (puts e [(56,c'),(57,d'),(58,(e 9)),(59,b'.1),(60,a'.1),(61,e')]) g' (a'.2.2+2)
@[irreducible] def sJ (ro:Ro):PT:=fun e h nx Q=>aB (aO .lss (e 43) (e 42)) fun a'=>aR a' (aB (cM 2 (e 41) (e 43)) fun b'=>aB (loadA ro h 2 b') fun c'=>aB (zer Tryz.prog cE) fun k'=>cT h (nx+4) (.cells k'.cells cE) fun l'=>aB (bV 2 l' (ptr (nx+4)) c') fun d'=>aB (aS 1 (ptr (nx+4))) fun e'=>aB (load1 ro d' e') fun f'=>aN Tryz.prog ro iR [f'] d' (nx+12) fun g' m' n'=>aB (cM 2 (e 9) (e 43)) fun h'=>aB (aS 1 h') fun i'=>aB (bV 1 m' i' g') fun o'=>aB (aO .add (e 43) (Value.int IntKind.i64 1)) fun j'=>Q .normal (puts e [(44,a'),(45,(e 43)),(46,b'),(47,c'),(11,(ptr (nx+4))),(10,(e 43)),(48,(e 9)),(49,(e 43)),(50,e'),(51,f'),(52,g'),(53,h'),(54,i'),(55,j'),(43,j')]) o' (n'+5)) (Q (.exit 4) (puts e [(44,a')]) h (nx+1))
@[irreducible] def sI (ro:Ro):PT:=fun e h nx Q=>aB (aO .lss (e 35) (e 34)) fun f'=>aR f' (aB (cM 1 (e 33) (e 35)) fun h'=>aB (load1 ro h h') fun d'=>aN Tryz.prog ro fZ [d'] h (nx+6) fun e' i' j'=>aB (bH e') fun k'=>dT (sJ ro) (puts e [(36,f'),(37,h'),(38,d'),(8,d'),(39,d'),(40,e'),(9,e'),(41,e'),(42,k'),(43,(Value.int IntKind.i64 0))]) i' (j'+4) fun l' a' b' c'=>exP l' (oA ro Q a' b' c') (fun g'=>cO (Nat.beq g' 4) (oA ro Q a' b' c') (cO (Nat.beq g' 3) (nZ ro Q a' b' c') (Q (.exit g') a' b' c'))) (Q .ret a' b' c')) (Q (.exit 2) (puts e [(36,f')]) h (nx+1))
@[irreducible] def sH (ro:Ro):PT:=fun e h nx Q=>aB (aO .lss (e 21) (e 20)) fun d'=>aR d' (aB (cM 4 (e 19) (e 21)) fun i'=>aB (loadA ro h 4 i') fun j'=>aB (zer Tryz.prog bD) fun t'=>cT h (nx+3) (.cells t'.cells bD) fun u'=>aB (bV 4 u' (ptr (nx+3)) j') fun e'=>aB (aS 1 (ptr (nx+3))) fun k'=>aB (load1 ro e' k') fun l'=>aN Tryz.prog ro fE [l'] e' (nx+14) fun m' f' v'=>aB (aS 2 (ptr (nx+3))) fun g'=>aB (load1 ro f' g') fun n'=>(jT g' e' f')∧(aN Tryz.prog ro fE [n'] f' v' fun o' w' x'=>aB (fJ Tryz.prog bD [(1,m'),(2,o')]) fun p'=>aB (zer Tryz.prog bD) fun y'=>cT w' (nx+12) (.cells y'.cells bD) fun z'=>aB (bV 4 z' (ptr (nx+12)) p') fun q'=>aB (aS 3 (ptr (nx+3))) fun r'=>aB (load1 ro q' r') fun s'=>aB (bH s') fun A'=>dT (sI ro) (puts e [(22,d'),(23,i'),(24,j'),(5,(ptr (nx+3))),(25,k'),(26,l'),(27,m'),(28,g'),(29,n'),(30,o'),(31,p'),(6,(ptr (nx+12))),(32,r'),(33,s'),(34,A'),(35,(Value.int IntKind.i64 0))]) q' (x'+4) fun B' a' b' c'=>exP B' (nY ro Q a' b' c') (fun h'=>cO (Nat.beq h' 2) (nY ro Q a' b' c') (cO (Nat.beq h' 1) (nX ro Q a' b' c') (Q (.exit h') a' b' c'))) (Q .ret a' b' c'))) (Q (.exit 0) (puts e [(22,d')]) h (nx+1))
@[irreducible] def aCS (ro:Ro) (v0:Value) (h:T Obj) (nx:Nat) (K:KV):Prop:=cT h nx (.cells (Value.cells v0) bK) fun h1=>aB (zer Tryz.prog bK) fun z2=>cT h1 (nx+1) (.cells z2.cells bK) fun h3=>aB (aS 0 (ptr nx)) fun b'=>aB (loadA ro h3 257 b') fun e'=>aB (aS 257 (ptr nx)) fun f'=>aB (load1 ro h3 f') fun g'=>aN Tryz.prog ro iQ [g'] h3 (nx+10) fun h' h9 n'=>(jT b' h3 h9)∧(aB (fJ Tryz.prog bK [(0,e'),(1,h')]) fun i'=>aB (zer Tryz.prog bK) fun o'=>cT h9 (nx+8) (.cells o'.cells bK) fun p'=>aB (bV 259 p' (ptr (nx+8)) i') fun j'=>aB (aS 258 (ptr nx)) fun k'=>aB (load1 ro j' k') fun l'=>aB (bH l') fun q'=>dT (sH ro) (puts (gM [v0]) [(1,(ptr nx)),(2,(ptr (nx+1))),(12,b'),(13,e'),(14,f'),(15,g'),(16,h'),(17,i'),(3,(ptr (nx+8))),(18,k'),(19,l'),(20,q'),(21,(Value.int IntKind.i64 0))]) j' (n'+4) fun r' c' a' d'=>exP r' (nW ro K c' a' d') (fun s'=>cO (Nat.beq s' 0) (nW ro K c' a' d') (False)) (aB (loadA ro a' 259 (c' 2)) fun t'=>∃ m',Sub m' a'∧K t' m' d'))
theorem aDe {ro:Ro}{v0:Value}{h:T Obj}{nx:Nat}{K:KV} (hw:aCS ro v0 h nx K):aN Tryz.prog ro tZ [v0] h nx K:=bA (P:=Tryz.prog) (fn:=Tryz.f75) (by kernel_rfl) (by kernel_rfl) (by kernel_rfl) (Eq.mpr (by kernel_rfl) hw)
@[irreducible] def aI9 (ro:Ro) (v0:Value) (h:T Obj) (nx:Nat) (K:KV):Prop:=aB (aO .lss v0 (Value.int IntKind.i64 1)) fun a'=>ifP a' false h (nx+5) (fun k2=>k2 v0 h (nx+6)) fun e' h4 n5=>ifP a' false h4 n5 (fun k6=>aB (aO .gtr e' (Value.int IntKind.i64 4096)) fun f'=>k6 f' h4 (n5+1)) fun g' h8 n9=>aB (bO a' (Value.bool true) g') fun h'=>aR h' (∃ b',Sub b' h8∧K (.tuple #[(Value.pointer none),(Value.int IntKind.i64 1)]) b' (n9+3)) (aB (aDx Tryz.prog i4 (n9+2) v0 v0) fun c'=>eQ h8 (n9+2) c'.2 fun i'=>aB (fJ Tryz.prog bM [(0,c'.1)]) fun j'=>cT i' (n9+4) (.cells (Value.cells j') bM) fun k'=>∃ d',Sub d' k'∧K (.tuple #[(ptr (n9+4)),(Value.int IntKind.i64 0)]) d' (n9+7))
theorem aIa {ro:Ro}{v0:Value}{h:T Obj}{nx:Nat}{K:KV} (hw:aI9 ro v0 h nx K):aN Tryz.prog ro aA8 [v0] h nx K:=bA (P:=Tryz.prog) (fn:=Tryz.f76) (by kernel_rfl) (by kernel_rfl) (by kernel_rfl) (Eq.mpr (by kernel_rfl) hw)
@[irreducible] def iY (ro:Ro) (Q:KE):Env→T Obj→Nat→Prop:=fun e h nx=>aB (aO .add (e 14) (Value.int IntKind.i64 1)) fun a'=>Q .normal (puts e [(23,a'),(14,a')]) h (nx+2)
@[irreducible] def oX (ro:Ro):PT:=fun e h nx Q=>aB (aO .lss (e 14) (e 13)) fun b'=>aR b' (aB (cM 1 (e 12) (e 14)) fun c'=>aB (load1 ro h c') fun a'=>aN Tryz.prog ro kT [a'] h (nx+6) fun d' f' g'=>aB (aO .gtr d' (Value.int IntKind.i64 0)) fun e'=>aR e' (aN Tryz.prog ro jG [a'] f' (g'+3) fun h' i' j'=>iY ro Q (puts e [(15,b'),(16,c'),(17,a'),(3,a'),(18,a'),(19,d'),(20,e'),(21,a'),(22,h')]) i' j') (iY ro Q (puts e [(15,b'),(16,c'),(17,a'),(3,a'),(18,a'),(19,d'),(20,e')]) f' (g'+1))) (Q (.exit 0) (puts e [(15,b')]) h (nx+1))
@[irreducible] def sE (ro:Ro) (v0:Value) (h:T Obj) (nx:Nat) (K:KV):Prop:=aB (yA .eql v0 (Value.pointer none)) fun c'=>aR c' (∃ h2,Sub h2 h∧K (.tuple #[]) h2 (nx+2)) (aB (bN v0) fun d'=>aB (aS 259 d') fun e'=>aB (bV 1 h e' (Value.int IntKind.i64 0)) fun h5=>aB (bN v0) fun f'=>aB (aS 260 f') fun g'=>aB (load1 ro h5 g') fun h'=>aB (bH h') fun l'=>dT (oX ro) (puts (gM [v0]) [(4,v0),(5,c'),(6,v0),(7,d'),(8,e'),(9,v0),(10,f'),(11,g'),(12,h'),(13,l'),(14,(Value.int IntKind.i64 0))]) h5 (nx+12) fun m' o' a' b'=>exP m' (∃ i',Sub i' a'∧K (.tuple #[]) i' b') (fun n'=>cO (Nat.beq n' 0) (∃ j',Sub j' a'∧K (.tuple #[]) j' b') (False)) (∃ k',Sub k' a'∧K (.tuple #[]) k' b'))
theorem wZ {ro:Ro}{v0:Value}{h:T Obj}{nx:Nat}{K:KV} (hw:sE ro v0 h nx K):aN Tryz.prog ro lM [v0] h nx K:=bA (P:=Tryz.prog) (fn:=Tryz.f123) (by kernel_rfl) (by kernel_rfl) (by kernel_rfl) (Eq.mpr (by kernel_rfl) hw)
@[irreducible] def jD (ro:Ro) (K:KV):Env→T Obj→Nat→Prop:=fun e h nx=>aB (aS 0 (e 6)) fun b'=>aB (load1 ro h b') fun c'=>aB (aO .neq c' (Value.int IntKind.i64 (-1))) fun d'=>∃ a',Sub a' h∧K d' a' (nx+4)
@[irreducible] def pS (ro:Ro):PT:=fun e h nx Q=>aB (aO .lss (e 94) (e 93)) fun b'=>aR b' (aB (cM 1 (e 92) (e 94)) fun c'=>aB (load1 ro h c') fun a'=>aB (bN (e 0)) fun d'=>aB (aS 260 d') fun e'=>aB (load1 ro h e') fun f'=>aB (cM 1 f' a') fun g'=>aB (load1 ro h g') fun h'=>aB (aS 1 (e 6)) fun i'=>aB (load1 ro h i') fun j'=>aB (cM 1 j' (e 94)) fun k'=>aB (load1 ro h k') fun l'=>aN Tryz.prog ro tY [h',l'] h (nx+19) fun n' o' p'=>aB (aO .add (e 94) (Value.int IntKind.i64 1)) fun m'=>Q .normal (puts e [(95,b'),(96,(e 94)),(97,c'),(98,a'),(10,(e 94)),(11,a'),(99,(e 0)),(100,d'),(101,e'),(102,f'),(103,a'),(104,g'),(105,h'),(106,i'),(107,j'),(108,(e 94)),(109,k'),(110,l'),(111,n'),(112,m'),(94,m')]) o' (p'+2)) (Q (.exit 2) (puts e [(95,b')]) h (nx+1))
@[irreducible] def gY (ro:Ro) (K:KV):Env→T Obj→Nat→Prop:=fun e h nx=>aB (bH (e 7)) fun e'=>dT (pS ro) (puts e [(92,(e 7)),(93,e'),(94,(Value.int IntKind.i64 0))]) h (nx+3) fun f' a' b' c'=>exP f' (jD ro K a' b' c') (fun g'=>cO (Nat.beq g' 2) (jD ro K a' b' c') (False)) (∃ d',Sub d' b'∧K (a' 4) d' c')
@[irreducible] def jE (ro:Ro) (Q:KE):Env→T Obj→Nat→Prop:=fun e h nx=>aB (aO .add (e 75) (Value.int IntKind.i64 1)) fun a'=>Q .normal (puts e [(91,a'),(75,a')]) h (nx+2)
@[irreducible] def pT (ro:Ro):PT:=fun e h nx Q=>aB (aO .lss (e 75) (e 74)) fun b'=>aR b' (aB (cM 1 (e 73) (e 75)) fun d'=>aB (load1 ro h d') fun a'=>aN Tryz.prog ro gI [(e 7),a'] h (nx+7) fun e' c' g'=>aB (unV .not e') fun f'=>aR f' (aB (bN (e 0)) fun h'=>aB (aS 260 h') fun i'=>aB (load1 ro c' i') fun j'=>aB (cM 1 j' a') fun k'=>aB (load1 ro c' k') fun l'=>aN Tryz.prog ro jG [l'] c' (g'+9) fun m' n' o'=>jE ro Q (puts e [(76,b'),(77,d'),(78,a'),(9,a'),(79,(e 7)),(80,a'),(81,e'),(82,f'),(83,(e 0)),(84,h'),(85,i'),(86,j'),(87,a'),(88,k'),(89,l'),(90,m')]) n' o') (jE ro Q (puts e [(76,b'),(77,d'),(78,a'),(9,a'),(79,(e 7)),(80,a'),(81,e'),(82,f')]) c' (g'+1))) (Q (.exit 0) (puts e [(76,b')]) h (nx+1))
@[irreducible] def gX (ro:Ro) (K:KV):Env→T Obj→Nat→Prop:=fun e h nx=>aB (aS 1 (e 5)) fun d'=>aB (load1 ro h d') fun e'=>aB (bH e') fun g'=>dT (pT ro) (puts e [(72,d'),(73,e'),(74,g'),(75,(Value.int IntKind.i64 0))]) h (nx+4) fun h' a' b' c'=>exP h' (gY ro K a' b' c') (fun i'=>cO (Nat.beq i' 0) (gY ro K a' b' c') (False)) (∃ f',Sub f' b'∧K (a' 4) f' c')
@[irreducible] def tI (ro:Ro) (v0 v1:Value) (h:T Obj) (nx:Nat) (K:KV):Prop:=aN Tryz.prog ro jF [v0] h (nx+3) fun f' h2 n3=>aB (aO .eql f' (Value.int IntKind.i64 (-1))) fun g'=>aR g' (∃ h5,Sub h5 h2∧K (Value.bool false) h5 (n3+2)) (aB (bN v0) fun h'=>aB (aS 0 h') fun i'=>aB (aS 258 i') fun j'=>aB (load1 ro h2 j') fun k'=>aB (bN v0) fun l'=>aB (aS 259 l') fun m'=>aB (load1 ro h2 m') fun n'=>aB (cM 4 k' n') fun o'=>aB (loadA ro h2 4 o') fun p'=>aB (zer Tryz.prog bD) fun af'=>cT h2 (n3+12) (.cells af'.cells bD) fun ag'=>aB (bV 4 ag' (ptr (n3+12)) p') fun c'=>aB (aS 3 (ptr (n3+12))) fun d'=>aB (load1 ro c' d') fun q'=>aB (loadA ro c' 4 (ptr (n3+12))) fun r'=>aN Tryz.prog ro jV [v0,r'] c' (n3+33) fun s' a' U'=>(jT d' c' a')∧(aB (cM 1 q' s') fun t'=>aB (load1 ro a' t') fun u'=>aB (bN v0) fun v'=>aB (aS 0 v') fun w'=>aB (aS 0 w') fun x'=>aB (aS 0 x') fun y'=>aB (ixArr 256 1 y' v1) fun e'=>aB (load1 ro a' e') fun z'=>(jT e' c' a')∧(aB (cM 2 u' z') fun A'=>aB (loadA ro a' 2 A') fun B'=>aB (zer Tryz.prog cE) fun ah'=>cT a' (n3+31) (.cells ah'.cells cE) fun ai'=>aB (bV 2 ai' (ptr (n3+31)) B') fun C'=>aB (bN v0) fun D'=>aB (aS 261 D') fun E'=>aB (load1 ro C' E') fun F'=>aB (aS 1 (ptr (n3+12))) fun G'=>aB (load1 ro C' G') fun H'=>aB (bH H') fun I'=>aB (aO .add (Value.int IntKind.i64 1) I') fun J'=>aB (aO .add F' J') fun K'=>aB (bN v0) fun L'=>aB (aS 261 L') fun M'=>aB (bV 1 C' M' K') fun V'=>aB (aS 0 (ptr (n3+31))) fun N'=>aB (load1 ro V' N') fun O'=>aB (bN v0) fun P'=>aB (aS 259 P') fun Q'=>aB (bV 1 V' Q' O') fun b'=>aB (aS 0 (ptr (n3+31))) fun R'=>aB (load1 ro b' R') fun S'=>aB (aO .neq S' (Value.int IntKind.i64 (-1))) fun T'=>aR T' (aB (bN v0) fun W'=>aB (aS 0 W') fun X'=>aB (aS 258 X') fun Y'=>aB (load1 ro b' Y') fun Z'=>aB (aS 0 (ptr (n3+31))) fun aa'=>aB (load1 ro b' aa') fun ab'=>aB (cM 4 Z' ab') fun ac'=>aB (aS 1 ac') fun ad'=>aB (load1 ro b' ad') fun ae'=>gX ro K (puts (gM [v0,v1]) [(4,(Value.bool false)),(12,v0),(13,f'),(14,g'),(15,v0),(16,h'),(17,i'),(18,j'),(19,k'),(20,v0),(21,l'),(22,m'),(23,n'),(24,o'),(25,p'),(5,(ptr (n3+12))),(26,d'),(27,q'),(28,v0),(29,r'),(30,s'),(31,t'),(32,u'),(33,v0),(34,v1),(35,v'),(36,w'),(37,x'),(38,y'),(39,e'),(40,z'),(41,A'),(42,B'),(6,(ptr (n3+31))),(43,v0),(44,D'),(45,E'),(46,F'),(47,G'),(48,H'),(49,I'),(50,J'),(51,K'),(52,L'),(53,M'),(54,v0),(55,N'),(56,O'),(57,P'),(58,Q'),(7,(Value.slice none 0 0)),(59,R'),(60,S'),(61,T'),(62,v0),(63,W'),(64,X'),(65,Y'),(66,Z'),(67,aa'),(68,ab'),(69,ac'),(70,ad'),(71,ae'),(7,ae')]) b' (U'+33)) (gX ro K (puts (gM [v0,v1]) [(4,(Value.bool false)),(12,v0),(13,f'),(14,g'),(15,v0),(16,h'),(17,i'),(18,j'),(19,k'),(20,v0),(21,l'),(22,m'),(23,n'),(24,o'),(25,p'),(5,(ptr (n3+12))),(26,d'),(27,q'),(28,v0),(29,r'),(30,s'),(31,t'),(32,u'),(33,v0),(34,v1),(35,v'),(36,w'),(37,x'),(38,y'),(39,e'),(40,z'),(41,A'),(42,B'),(6,(ptr (n3+31))),(43,v0),(44,D'),(45,E'),(46,F'),(47,G'),(48,H'),(49,I'),(50,J'),(51,K'),(52,L'),(53,M'),(54,v0),(55,N'),(56,O'),(57,P'),(58,Q'),(7,(Value.slice none 0 0)),(59,R'),(60,S'),(61,T')]) b' (U'+22)))))
theorem xS {ro:Ro}{v0 v1:Value}{h:T Obj}{nx:Nat}{K:KV} (hw:tI ro v0 v1 h nx K):aN Tryz.prog ro mQ [v0,v1] h nx K:=bA (P:=Tryz.prog) (fn:=Tryz.f124) (by kernel_rfl) (by kernel_rfl) (by kernel_rfl) (Eq.mpr (by kernel_rfl) hw)
@[irreducible] def tH (ro:Ro) (v0:Value) (h:T Obj) (nx:Nat) (K:KV):Prop:=aN Tryz.prog ro jF [v0] h (nx+3) fun e' h2 n3=>aB (aO .eql e' (Value.int IntKind.i64 (-1))) fun f'=>aR f' (∃ h5,Sub h5 h2∧K (Value.int IntKind.i64 (-1)) h5 (n3+2)) (aB (bN v0) fun g'=>aB (aS 0 g') fun h'=>aB (aS 258 h') fun i'=>aB (load1 ro h2 i') fun j'=>aB (bN v0) fun k'=>aB (aS 259 k') fun l'=>aB (load1 ro h2 l') fun m'=>aB (cM 4 j' m') fun n'=>aB (loadA ro h2 4 n') fun o'=>aB (zer Tryz.prog bD) fun p'=>cT h2 (n3+12) (.cells p'.cells bD) fun q'=>aB (bV 4 q' (ptr (n3+12)) o') fun a'=>aB (aS 2 (ptr (n3+12))) fun c'=>aB (load1 ro a' c') fun r'=>aB (loadA ro a' 4 (ptr (n3+12))) fun s'=>aN Tryz.prog ro jV [v0,s'] a' (n3+22) fun t' b' u'=>(jT c' a' b')∧(aB (cM 1 r' t') fun v'=>aB (load1 ro b' v') fun w'=>∃ d',Sub d' b'∧K w' d' u'))
theorem xR {ro:Ro}{v0:Value}{h:T Obj}{nx:Nat}{K:KV} (hw:tH ro v0 h nx K):aN Tryz.prog ro mP [v0] h nx K:=bA (P:=Tryz.prog) (fn:=Tryz.f125) (by kernel_rfl) (by kernel_rfl) (by kernel_rfl) (Eq.mpr (by kernel_rfl) hw)
@[irreducible] def aAN (ro:Ro) (v0:Value) (h:T Obj) (nx:Nat) (K:KV):Prop:=aB (yA .eql v0 (Value.pointer none)) fun a'=>aR a' (∃ h2,Sub h2 h∧K (Value.int IntKind.i64 0) h2 (nx+4)) (aB (bN v0) fun b'=>aB (aS 2 b') fun c'=>aB (load1 ro h c') fun d'=>∃ h6,Sub h6 h∧K d' h6 (nx+8))
theorem aBz {ro:Ro}{v0:Value}{h:T Obj}{nx:Nat}{K:KV} (hw:aAN ro v0 h nx K):aN Tryz.prog ro kT [v0] h nx K:=bA (P:=Tryz.prog) (fn:=Tryz.f160) (by kernel_rfl) (by kernel_rfl) (by kernel_rfl) (Eq.mpr (by kernel_rfl) hw)
@[irreducible] def wU (ro:Ro) (v0:Value) (h:T Obj) (nx:Nat) (K:KV):Prop:=aB (yA .neq v0 (Value.pointer none)) fun c'=>aR c' (aB (bN v0) fun d'=>aB (aS 1 d') fun e'=>aB (bV 1 h e' (Value.int IntKind.i64 0)) fun h4=>aB (bN v0) fun f'=>aB (aS 2 f') fun g'=>aB (bV 1 h4 g' (Value.int IntKind.i64 0)) fun h7=>aB (bN v0) fun h'=>aB (aS 4 h') fun i'=>aB (load1 ro h7 i') fun j'=>aB (aO .add j' (Value.int IntKind.i64 1)) fun k'=>aB (bN v0) fun l'=>aB (aS 4 l') fun m'=>aB (bV 1 h7 m' k') fun n'=>∃ a',Sub a' n'∧K (.tuple #[]) a' (nx+18)) (∃ b',Sub b' h∧K (.tuple #[]) b' (nx+2))
theorem aAf {ro:Ro}{v0:Value}{h:T Obj}{nx:Nat}{K:KV} (hw:wU ro v0 h nx K):aN Tryz.prog ro jG [v0] h nx K:=bA (P:=Tryz.prog) (fn:=Tryz.f161) (by kernel_rfl) (by kernel_rfl) (by kernel_rfl) (Eq.mpr (by kernel_rfl) hw)
@[irreducible] def sF (ro:Ro) (v0:Value) (h:T Obj) (nx:Nat) (K:KV):Prop:=aB (yA .eql v0 (Value.pointer none)) fun a'=>aR a' (∃ h2,Sub h2 h∧K (Value.int IntKind.i64 (-1)) h2 (nx+4)) (aB (bN v0) fun b'=>aB (aS 259 b') fun c'=>aB (load1 ro h c') fun d'=>∃ h6,Sub h6 h∧K d' h6 (nx+8))
theorem w8 {ro:Ro}{v0:Value}{h:T Obj}{nx:Nat}{K:KV} (hw:sF ro v0 h nx K):aN Tryz.prog ro jF [v0] h nx K:=bA (P:=Tryz.prog) (fn:=Tryz.f162) (by kernel_rfl) (by kernel_rfl) (by kernel_rfl) (Eq.mpr (by kernel_rfl) hw)
@[irreducible] def lI (ro:Ro) (K:KV):Env→T Obj→Nat→Prop:=fun e h nx=>∃ h2,Sub h2 h∧K (e 5) h2 (nx+2)
@[irreducible] def pU (ro:Ro):PT:=fun e h nx Q=>aB (aO .lss (e 12) (e 11)) fun b'=>aR b' (aB (cM 1 (e 10) (e 12)) fun c'=>aB (load1 ro h c') fun a'=>aN Tryz.prog ro lN [(e 0),a'] h (nx+9) fun d' i' j'=>aB (aO .mul (e 6) d') fun e'=>aB (aO .add (e 5) e') fun f'=>aB (aO .mul (e 6) (Value.int IntKind.i64 3)) fun g'=>aB (aO .add (e 12) (Value.int IntKind.i64 1)) fun h'=>Q .normal (puts e [(13,b'),(14,c'),(15,a'),(8,a'),(16,(e 5)),(17,(e 6)),(18,(e 0)),(19,a'),(20,d'),(21,e'),(22,f'),(5,f'),(23,(e 6)),(24,g'),(6,g'),(25,h'),(12,h')]) i' (j'+8)) (Q (.exit 0) (puts e [(13,b')]) h (nx+1))
@[irreducible] def tJ (ro:Ro) (v0 v1:Value) (h:T Obj) (nx:Nat) (K:KV):Prop:=cT h nx (.cells (Value.cells v1) bD) fun h1=>aB (aS 1 (ptr nx)) fun d'=>aB (load1 ro h1 d') fun e'=>aB (bH e') fun g'=>dT (pU ro) (puts (gM [v0,v1]) [(3,(ptr nx)),(4,(Value.int IntKind.i64 0)),(5,(Value.int IntKind.i64 0)),(6,(Value.int IntKind.i64 1)),(9,d'),(10,e'),(11,g'),(12,(Value.int IntKind.i64 0))]) h1 (nx+8) fun h' a' b' c'=>exP h' (lI ro K a' b' c') (fun i'=>cO (Nat.beq i' 0) (lI ro K a' b' c') (False)) (∃ f',Sub f' b'∧K (a' 4) f' c')
theorem xT {ro:Ro}{v0 v1:Value}{h:T Obj}{nx:Nat}{K:KV} (hw:tJ ro v0 v1 h nx K):aN Tryz.prog ro jV [v0,v1] h nx K:=bA (P:=Tryz.prog) (fn:=Tryz.f163) (by kernel_rfl) (by kernel_rfl) (by kernel_rfl) (Eq.mpr (by kernel_rfl) hw)
@[irreducible] def aCQ (ro:Ro) (v0 v1:Value) (h:T Obj) (nx:Nat) (K:KV):Prop:=aB (aO .eql v1 (Value.int IntKind.u8 3)) fun d'=>aR d' (aN Tryz.prog ro jG [v0] h (nx+5) fun m' h3 n4=>aN Tryz.prog ro nD [v0] h3 (n4+2) fun n' h6 n7=>∃ h8,Sub h8 h6∧K (.tuple #[]) h8 n7) (aB (aO .eql v1 (Value.int IntKind.u8 2)) fun e'=>aR e' (aN Tryz.prog ro nB [v0] h (nx+7) fun o' f' g'=>aN Tryz.prog ro nD [v0] f' (g'+2) fun p' h' i'=>∃ a',Sub a' h'∧K (.tuple #[]) a' i') (aB (aO .eql v1 (Value.int IntKind.u8 1)) fun j'=>aR j' (aN Tryz.prog ro nB [v0] h (nx+9) fun q' k' l'=>∃ b',Sub b' k'∧K (.tuple #[]) b' l') (∃ c',Sub c' h∧K (.tuple #[]) c' (nx+7))))
theorem aDd {ro:Ro}{v0 v1:Value}{h:T Obj}{nx:Nat}{K:KV} (hw:aCQ ro v0 v1 h nx K):aN Tryz.prog ro tY [v0,v1] h nx K:=bA (P:=Tryz.prog) (fn:=Tryz.f165) (by kernel_rfl) (by kernel_rfl) (by kernel_rfl) (Eq.mpr (by kernel_rfl) hw)
@[irreducible] def sG (ro:Ro) (v0 v1:Value) (h:T Obj) (nx:Nat) (K:KV):Prop:=aB (bN v0) fun E'=>aB (aS 260 E') fun F'=>aB (load1 ro h F') fun G'=>aB (cM 1 G' v1) fun H'=>aB (load1 ro h H') fun I'=>aN Tryz.prog ro qJ [I'] h (nx+9) fun f' h7 n8=>aB (nth 0 f') fun J'=>aB (nth 1 f') fun aE'=>aB (bN v0) fun K'=>aB (aS 260 K') fun L'=>aB (load1 ro h7 L') fun M'=>aB (cM 1 M' v1) fun N'=>aB (load1 ro h7 N') fun O'=>aN Tryz.prog ro qI [O'] h7 (n8+13) fun g' h' i'=>aB (nth 0 g') fun P'=>aB (nth 1 g') fun Q'=>aB (unV .not Q') fun a'=>ifP a' false h' (i'+8) (fun R'=>R' P' h' (i'+9)) fun S' j' k'=>ifP a' false j' k' (fun T'=>T' v0 j' (k'+1)) fun U' l' m'=>ifP a' false l' m' (fun V'=>aB (bN U') fun W'=>V' W' l' (m'+1)) fun X' n' o'=>ifP a' false n' o' (fun Y'=>aB (aS 0 X') fun Z'=>Y' Z' n' (o'+1)) fun aa' p' q'=>ifP a' false p' q' (fun ab'=>aB (aS 257 aa') fun ac'=>ab' ac' p' (q'+1)) fun ad' c' r'=>ifP a' false c' r' (fun ae'=>aB (load1 ro c' ad') fun af'=>ae' af' c' (r'+1)) fun ag' s' t'=>ifP a' false s' t' (fun ah'=>ah' v1 s' (t'+1)) fun ai' u' v'=>ifP a' false u' v' (fun aj'=>aB (cM 2 ag' ai') fun ak'=>aj' ak' u' (v'+1)) fun al' w' x'=>ifP a' false w' x' (fun am'=>aB (ixArr 2 1 al' (Value.int IntKind.i64 0)) fun an'=>am' an' w' (x'+1)) fun ao' d' y'=>ifP a' false d' y' (fun ap'=>aB (load1 ro d' ao') fun aq'=>ap' aq' d' (y'+1)) fun ar' z' A'=>ifP a' false z' A' (fun as'=>aB (aO .lss S' ar') fun at'=>as' at' z' (A'+1)) fun au' b' e'=>aB (bO a' (Value.bool true) au') fun av'=>aR av' (∃ B',Sub B' b'∧K (Value.int IntKind.i64 0) B' (e'+3)) (aB (bN v0) fun aw'=>aB (aS 0 aw') fun ax'=>aB (aS 257 ax') fun ay'=>aB (load1 ro b' ay') fun az'=>aB (cM 2 az' v1) fun aA'=>aB (ixArr 2 1 aA' (Value.int IntKind.i64 1)) fun aB'=>aB (load1 ro b' aB') fun aC'=>aB (aO .lss J' aC') fun aD'=>aR aD' (∃ C',Sub C' b'∧K (Value.int IntKind.i64 2) C' (e'+15)) (∃ D',Sub D' b'∧K (Value.int IntKind.i64 1) D' (e'+15)))
theorem xA {ro:Ro}{v0 v1:Value}{h:T Obj}{nx:Nat}{K:KV} (hw:sG ro v0 v1 h nx K):aN Tryz.prog ro lN [v0,v1] h nx K:=bA (P:=Tryz.prog) (fn:=Tryz.f186) (by kernel_rfl) (by kernel_rfl) (by kernel_rfl) (Eq.mpr (by kernel_rfl) hw)
@[irreducible] def aAQ (ro:Ro) (v0:Value) (h:T Obj) (nx:Nat) (K:KV):Prop:=aB (yA .eql v0 (Value.pointer none)) fun u'=>aR u' (∃ h2,Sub h2 h∧K (.tuple #[]) h2 (nx+2)) (aB (bN v0) fun v'=>aB (aS 4 v') fun w'=>aB (load1 ro h w') fun x'=>aB (aO .add x' (Value.int IntKind.i64 1)) fun y'=>aB (bN v0) fun z'=>aB (aS 4 z') fun A'=>aB (bV 1 h A' y') fun h9=>aB (bN v0) fun B'=>aB (aS 2 B') fun C'=>aB (load1 ro h9 C') fun D'=>aB (aO .gtr D' (Value.int IntKind.i64 0)) fun a'=>ifP a' true h9 (nx+16) (fun E'=>E' v0 h9 (nx+17)) fun F' d' e'=>ifP a' true d' e' (fun G'=>G' v0 d' (e'+1)) fun H' f' g'=>ifP a' true f' g' (fun I'=>aB (bN H') fun J'=>I' J' f' (g'+1)) fun K' h' i'=>ifP a' true h' i' (fun L'=>aB (aS 2 K') fun M'=>L' M' h' (i'+1)) fun N' c' j'=>ifP a' true c' j' (fun O'=>aB (load1 ro c' N') fun P'=>O' P' c' (j'+1)) fun Q' k' l'=>ifP a' true k' l' (fun R'=>aB (aO .sub Q' (Value.int IntKind.i64 1)) fun S'=>R' S' k' (l'+1)) fun T' m' n'=>ifP a' true m' n' (fun U'=>aN Tryz.prog ro fY [F',T'] m' (n'+1) fun V' W' X'=>U' V' W' X') fun Y' o' p'=>ifP a' true o' p' (fun Z'=>aB (aO .eql Y' (Value.int IntKind.i64 1)) fun aa'=>Z' aa' o' (p'+1)) fun ab' b' q'=>aB (bO a' ab' (Value.bool false)) fun ac'=>aR ac' (∃ r',Sub r' b'∧K (.tuple #[]) r' (q'+1)) (aB (bN v0) fun ad'=>aB (aS 0 ad') fun ae'=>aB (load1 ro b' ae') fun af'=>aB (bN v0) fun ag'=>aB (aS 1 ag') fun ah'=>aB (load1 ro b' ah') fun ai'=>aB (bN v0) fun aj'=>aB (aS 2 aj') fun ak'=>aB (load1 ro b' ak') fun al'=>aB (aO .add ai' al') fun am'=>aB (bN v0) fun an'=>aB (aS 0 an') fun ao'=>aB (load1 ro b' ao') fun ap'=>aB (bH ap') fun aq'=>aB (aO .rem am' aq') fun ar'=>aB (bN v0) fun as'=>aB (aS 3 as') fun at'=>aB (load1 ro b' at') fun au'=>aB (cM 1 af' ar') fun av'=>aB (bV 1 b' av' au') fun s'=>aB (bN v0) fun aw'=>aB (aS 2 aw') fun ax'=>aB (load1 ro s' ax') fun ay'=>aB (aO .add ay' (Value.int IntKind.i64 1)) fun az'=>aB (bN v0) fun aA'=>aB (aS 2 aA') fun aB'=>aB (bV 1 s' aB' az') fun aC'=>∃ t',Sub t' aC'∧K (.tuple #[]) t' (q'+34)))
theorem aCC {ro:Ro}{v0:Value}{h:T Obj}{nx:Nat}{K:KV} (hw:aAQ ro v0 h nx K):aN Tryz.prog ro nD [v0] h nx K:=bA (P:=Tryz.prog) (fn:=Tryz.f188) (by kernel_rfl) (by kernel_rfl) (by kernel_rfl) (Eq.mpr (by kernel_rfl) hw)
@[irreducible] def aAM (ro:Ro) (v0:Value) (h:T Obj) (nx:Nat) (K:KV):Prop:=aB (yA .eql v0 (Value.pointer none)) fun w'=>aR w' (∃ h2,Sub h2 h∧K (.tuple #[]) h2 (nx+2)) (aB (bN v0) fun x'=>aB (aS 4 x') fun y'=>aB (load1 ro h y') fun z'=>aB (aO .add z' (Value.int IntKind.i64 1)) fun A'=>aB (bN v0) fun B'=>aB (aS 4 B') fun C'=>aB (bV 1 h C' A') fun h9=>aB (bN v0) fun D'=>aB (aS 3 D') fun E'=>aB (load1 ro h9 E') fun F'=>aB (aO .add F' (Value.int IntKind.i64 1)) fun G'=>aB (bN v0) fun H'=>aB (aS 3 H') fun I'=>aB (bV 1 h9 I' G') fun c'=>aB (bN v0) fun J'=>aB (aS 2 J') fun K'=>aB (load1 ro c' K') fun L'=>aB (aO .gtr L' (Value.int IntKind.i64 0)) fun a'=>ifP a' true c' (nx+33) (fun M'=>M' v0 c' (nx+33)) fun N' d' g'=>ifP a' true d' g' (fun O'=>aN Tryz.prog ro fY [N',(Value.int IntKind.i64 0)] d' g' fun P' Q' R'=>O' P' Q' R') fun S' e' h'=>ifP a' true e' h' (fun T'=>T' v0 e' h') fun U' i' j'=>ifP a' true i' j' (fun V'=>aB (bN U') fun W'=>V' W' i' j') fun X' k' l'=>ifP a' true k' l' (fun Y'=>aB (aS 0 X') fun Z'=>Y' Z' k' l') fun m' f' n'=>ifP a' true f' n' (fun aa'=>aB (load1 ro f' m') fun ab'=>(onP (some (a',true)) (jT m' d' e'))∧(aa' ab' f' n')) fun ac' o' p'=>ifP a' true o' p' (fun ad'=>aB (bH ac') fun ae'=>ad' ae' o' p') fun af' q' r'=>ifP a' true q' r' (fun ag'=>aB (aO .gtr S' af') fun ah'=>ag' ah' q' r') fun ai' b' s'=>aB (bO a' ai' (Value.bool false)) fun aj'=>aR aj' (aB (bN v0) fun ak'=>aB (aS 1 ak') fun al'=>aB (load1 ro b' al') fun am'=>aB (aO .add am' (Value.int IntKind.i64 1)) fun an'=>aB (bN v0) fun ao'=>aB (aS 0 ao') fun ap'=>aB (load1 ro b' ap') fun aq'=>aB (bH aq') fun ar'=>aB (aO .rem an' ar') fun as'=>aB (bN v0) fun at'=>aB (aS 1 at') fun au'=>aB (bV 1 b' au' as') fun t'=>aB (bN v0) fun av'=>aB (aS 2 av') fun aw'=>aB (load1 ro t' aw') fun ax'=>aB (aO .sub ax' (Value.int IntKind.i64 1)) fun ay'=>aB (bN v0) fun az'=>aB (aS 2 az') fun aA'=>aB (bV 1 t' aA' ay') fun aB'=>∃ u',Sub u' aB'∧K (.tuple #[]) u' (s'+23)) (∃ v',Sub v' b'∧K (.tuple #[]) v' s'))
theorem aBy {ro:Ro}{v0:Value}{h:T Obj}{nx:Nat}{K:KV} (hw:aAM ro v0 h nx K):aN Tryz.prog ro nB [v0] h nx K:=bA (P:=Tryz.prog) (fn:=Tryz.f189) (by kernel_rfl) (by kernel_rfl) (by kernel_rfl) (Eq.mpr (by kernel_rfl) hw)
@[irreducible] def aAP (ro:Ro) (v0:Value) (h:T Obj) (nx:Nat) (K:KV):Prop:=aN Tryz.prog ro kT [v0] h (nx+4) fun b' h2 n3=>aB (aO .eql b' (Value.int IntKind.i64 0)) fun c'=>aR c' (∃ h5,Sub h5 h2∧K (.tuple #[(Value.int IntKind.i64 0),(Value.bool false)]) h5 (n3+3)) (aB (bN v0) fun d'=>aB (aS 2 d') fun e'=>aB (load1 ro h2 e') fun f'=>aB (aO .sub f' (Value.int IntKind.i64 1)) fun g'=>aN Tryz.prog ro fY [v0,g'] h2 (n3+8) fun h' i' j'=>∃ a',Sub a' i'∧K (.tuple #[h',(Value.bool true)]) a' (j'+2))
theorem aCB {ro:Ro}{v0:Value}{h:T Obj}{nx:Nat}{K:KV} (hw:aAP ro v0 h nx K):aN Tryz.prog ro qJ [v0] h nx K:=bA (P:=Tryz.prog) (fn:=Tryz.f194) (by kernel_rfl) (by kernel_rfl) (by kernel_rfl) (Eq.mpr (by kernel_rfl) hw)
@[irreducible] def aAO (ro:Ro) (v0:Value) (h:T Obj) (nx:Nat) (K:KV):Prop:=aN Tryz.prog ro kT [v0] h (nx+4) fun a' h2 n3=>aB (aO .eql a' (Value.int IntKind.i64 0)) fun b'=>aR b' (∃ h5,Sub h5 h2∧K (.tuple #[(Value.int IntKind.i64 0),(Value.bool false)]) h5 (n3+3)) (aN Tryz.prog ro fY [v0,(Value.int IntKind.i64 0)] h2 (n3+3) fun c' h7 n8=>∃ h9,Sub h9 h7∧K (.tuple #[c',(Value.bool true)]) h9 (n8+2))
theorem aCA {ro:Ro}{v0:Value}{h:T Obj}{nx:Nat}{K:KV} (hw:aAO ro v0 h nx K):aN Tryz.prog ro qI [v0] h nx K:=bA (P:=Tryz.prog) (fn:=Tryz.f195) (by kernel_rfl) (by kernel_rfl) (by kernel_rfl) (Eq.mpr (by kernel_rfl) hw)
@[irreducible] def qL (ro:Ro) (v0 v1:Value) (h:T Obj) (nx:Nat) (K:KV):Prop:=aB (bN v0) fun b'=>aB (aS 3 b') fun c'=>aB (load1 ro h c') fun d'=>aB (bN v0) fun e'=>aB (aS 0 e') fun f'=>aB (load1 ro h f') fun g'=>aB (bN v0) fun h'=>aB (aS 1 h') fun i'=>aB (load1 ro h i') fun j'=>aB (aO .add j' v1) fun k'=>aB (bN v0) fun l'=>aB (aS 0 l') fun m'=>aB (load1 ro h m') fun n'=>aB (bH n') fun o'=>aB (aO .rem k' o') fun p'=>aB (cM 1 g' p') fun q'=>aB (load1 ro h q') fun r'=>aB (aO .sub d' r') fun s'=>aB (aO .add s' (Value.int IntKind.i64 1)) fun t'=>∃ a',Sub a' h∧K t' a' (nx+26)
theorem sZ {ro:Ro}{v0 v1:Value}{h:T Obj}{nx:Nat}{K:KV} (hw:qL ro v0 v1 h nx K):aN Tryz.prog ro fY [v0,v1] h nx K:=bA (P:=Tryz.prog) (fn:=Tryz.f196) (by kernel_rfl) (by kernel_rfl) (by kernel_rfl) (Eq.mpr (by kernel_rfl) hw)
end V
end Go.Proofs.YtcaccnneblghgaaGreat
namespace Go.Proofs.YtcaccnneblghgaaGreat
set_option maxRecDepth 20000
namespace V
theorem pY (id off z:Nat):yA .eql (at_ id off z) (.pointer none)=some (.bool false):=rfl
theorem aIU (id off z:Nat):yA .neq (at_ id off z) (.pointer none)=some (.bool true):=rfl
theorem bC (id off z:Nat):bN (at_ id off z)=some (at_ id off z):=rfl
theorem aDO (a b n:Nat):((a:Int)+(b:Int)) % (n:Int)=(((a+b) % n:Nat):Int):=by rw[Int.natCast_emod,Int.natCast_add]
theorem aDH (a n c:Nat) (k:IntKind) {i:Nat} (hi:i < n):cM 1 (.slice (some (V.own a 1)) n c) (.int k (i:Int))=some (at_ a i 0):=by
 have h1:mH (Value.int k (i:Int))=some i:=by simp[mH]
 have h2:Nat.blt i n=true:=by simpa using hi
 simp[cM,h1,h2,V.own,elt]
def lS (a n first many now w:Nat):List Value:=[.slice (some (V.own a 1)) n n,.int .i64 first,.int .i64 many,.int .i64 now,.int .i64 w]
def pC (put:List Nat):List Value:=put.map fun (x:Nat)=>.int .i64 (x:Int)
theorem aIW (put:List Nat):(pC put).length=put.length:=by simp[pC]
theorem aIV {put:List Nat}{k:Nat} (hk:k < put.length):(pC put)[k]?=some (.int .i64 (put.getD k 0:Nat)):=by
 simp[pC,hk]
theorem aIX (put:List Nat) (k x:Nat):(pC put).set k (.int .i64 (x:Int))=pC (put.set k x):=by
 simp[pC,List.map_set]
def RI (h:T Obj) (p a n:Nat) (L:List Nat) (w:Nat):Prop:=∃ (put:List Nat) (first now:Nat),
 h.get p=some (.cells (lS a n first L.length now w).toArray bM)∧h.get a=some (.cells (pC put).toArray dR)∧p≠a∧put.length=n∧1≤n∧n≤4096∧first < n∧now≤w∧w≤1000000 ∧
 (∀ i,i < L.length→put.getD ((first+i) % n) 0+L.getD i 0=now+1)∧L.Pairwise (fun x y=>y < x)∧(∀ x∈L,1≤x∧x≤n)
def rS (h h':T Obj) (p a:Nat):Prop:=∀ k,k≠p→k≠a→h'.get k=h.get k
theorem Fr.lt {h:T Obj}{nx k:Nat}{o:Obj} (hf:Fr h nx) (hg:h.get k=some o):k < nx:=by
 rcases Nat.lt_or_ge k nx with h9 | h9
 ·exact h9
 ·rw[hf k h9] at hg; cases hg
theorem aKA {L:List Nat}:∀ {lo hi:Nat},1≤lo→L.Pairwise (fun x y=>y < x)→(∀ x∈L,lo≤x∧x≤hi)→L.length+lo≤hi+1∨L=[]:=by
 induction L with
 | nil=>intro lo hi _ _ _; exact .inr rfl
 | cons x r ih =>
  intro lo hi hlo hp hb
  left
  have hx:=hb x (List.mem_cons_self ..)
  rw[List.pairwise_cons] at hp
  rcases ih (lo:=lo) (hi:=x - 1) hlo hp.2 fun y hy=>⟨(hb y (List.mem_cons_of_mem _ hy)).1,by have:=hp.1 y hy; omega⟩ with h1 | h1
  ·rw[List.length_cons]; omega
  ·subst h1; simp; omega
theorem RI.len {h:T Obj}{p a n w:Nat}{L:List Nat} (hR:RI h p a n L w):L.length≤n:=by
 obtain⟨put,first,now,_,_,_,_,h1,_,_,_,_,_,hp,hb⟩:=hR
 rcases aKA (Nat.le_refl 1) hp hb with h9 | h9
 ·omega
 ·subst h9; simp
theorem wE {ro:Ro}{h:T Obj}{p a n w i nx:Nat}{L:List Nat}{K:KV} (hR:RI h p a n L w) (hi:i < L.length) (hK:∀ nx',nx≤nx'→K (.int .i64 (L.getD i 0:Nat)) h nx'):aN Tryz.prog ro fY [ptr p,.int .i64 (i:Int)] h nx K:=by
 have hln:=hR.len
 obtain⟨put,first,now,gp,ga,hne,hpl,h1,h2,h3,h4,h5,hrel,hpw,hb⟩:=hR
 apply sZ
 unfold qL
 have hm:(first+i) % n < n:=Nat.mod_lt _ (by omega)
 have hm2:(first+i) % n < put.length:=by omega
 have hr:=hrel i hi
 (repeat(first|refine aA (by simp (disch:=first|omega|exact nnN _|assumption) only [decide_true,decide_false,Bool.not_true,Bool.not_false,eO,dH,dG,bW,cH,bY,gC,f8,gB,gA,cI,dU,eT,cZ,cF,Option.bind_some,Value.cells_agg,cR,cG,dK,dX,dQ,dV,dW,aT,aU,aY,aX,aW,aV,bQ,bL,cJ,dE,cK,fB,i6,fR,dC,eW,dA,dB,cL,cA,bZ,fU,eU,dY,cP,cD,cB,T.get_upd_same,T.get_upd_ne,bG,bT,tl,ts,if_pos,Nat.zero_add,Nat.mul_one,Nat.add_zero,Int.toNat_natCast,↓reduceIte,Nat.reduceLeDiff,Nat.reduceAdd,Nat.le_refl,bC,gp,ga,aDO,aDH,aIV]<;>rfl) ?_|apply aD|apply aE|with_reducible refine aG ?_|with_reducible refine aF ?_|with_reducible refine aK ?_|with_reducible refine aH ?_|with_reducible refine aJ ?_|with_reducible refine aI ?_|with_reducible refine aL ?_|apply aC))
 refine⟨h,Sub.refl _,?_⟩
 have e:(now:Int) - (put.getD ((first+i) % n) 0:Nat)+1=(L.getD i 0:Nat):=by omega
 rw[e]
 exact hK _ (by omega)
theorem aAe {ro:Ro}{h:T Obj}{p a n w nx:Nat}{L:List Nat}{K:KV} (hR:RI h p a n L w) (hK:∀ nx',nx≤nx'→K (.int .i64 (L.length:Nat)) h nx'):aN Tryz.prog ro kT [ptr p] h nx K:=by
 obtain⟨put,first,now,gp,ga,hne,hpl,h1,h2,h3,h4,h5,hrel,hpw,hb⟩:=hR
 apply aBz
 unfold aAN
 (repeat(first|refine aA (by simp (disch:=first|omega|exact nnN _|assumption) only [decide_true,decide_false,Bool.not_true,Bool.not_false,eO,dH,dG,bW,cH,bY,gC,f8,gB,gA,cI,dU,eT,cZ,cF,Option.bind_some,Value.cells_agg,cR,cG,dK,dX,dQ,dV,dW,aT,aU,aY,aX,aW,aV,bQ,bL,cJ,dE,cK,fB,i6,fR,dC,eW,dA,dB,cL,cA,bZ,fU,eU,dY,cP,cD,cB,T.get_upd_same,T.get_upd_ne,bG,bT,tl,ts,if_pos,Nat.zero_add,Nat.mul_one,Nat.add_zero,Int.toNat_natCast,↓reduceIte,Nat.reduceLeDiff,Nat.reduceAdd,Nat.le_refl,pY,bC,gp,ga]<;>rfl) ?_|apply aD|apply aE|with_reducible refine aG ?_|with_reducible refine aF ?_|with_reducible refine aK ?_|with_reducible refine aH ?_|with_reducible refine aJ ?_|with_reducible refine aI ?_|with_reducible refine aL ?_|apply aC))
 exact⟨h,Sub.refl _,hK _ (by omega)⟩
def aBi (L:List Nat):Value:=if L.length=0 then .tuple #[.int .i64 0,.bool false] else .tuple #[.int .i64 (L.getD 0 0:Nat),.bool true]
def aBq (L:List Nat):Value:=if L.length=0 then .tuple #[.int .i64 0,.bool false] else .tuple #[.int .i64 (L.getD (L.length - 1) 0:Nat),.bool true]
theorem aJa {ro:Ro}{h:T Obj}{p a n w nx:Nat}{L:List Nat}{K:KV} (hR:RI h p a n L w) (hK:∀ nx',nx≤nx'→K (aBi L) h nx'):aN Tryz.prog ro qI [ptr p] h nx K:=by
 apply aCA
 unfold aAO
 refine aAe hR fun n2 hn2=>?_
 (repeat(first|refine aA (by simp (disch:=first|omega|exact nnN _|assumption) only [decide_true,decide_false,Bool.not_true,Bool.not_false,eO,dH,dG,bW,cH,bY,gC,f8,gB,gA,cI,dU,eT,cZ,cF,Option.bind_some,Value.cells_agg,cR,cG,dK,dX,dQ,dV,dW,aT,aU,aY,aX,aW,aV,bQ,bL,cJ,dE,cK,fB,i6,fR,dC,eW,dA,dB,cL,cA,bZ,fU,eU,dY,cP,cD,cB,T.get_upd_same,T.get_upd_ne,bG,bT,tl,ts,if_pos,Nat.zero_add,Nat.mul_one,Nat.add_zero,Int.toNat_natCast,↓reduceIte,Nat.reduceLeDiff,Nat.reduceAdd,Nat.le_refl]<;>rfl) ?_|apply aD|apply aE|with_reducible refine aG ?_|with_reducible refine aF ?_|with_reducible refine aK ?_|with_reducible refine aH ?_|with_reducible refine aJ ?_|with_reducible refine aI ?_|with_reducible refine aL ?_|apply aC))
 unfold aBi at hK
 by_cases h0:L.length=0
 ·refine iO (by simp[h0]) ?_
  rw[if_pos h0] at hK
  exact⟨h,Sub.refl _,hK _ (by omega)⟩
 ·refine iN (decide_eq_false (by omega)) ?_
  rw[if_neg h0] at hK
  refine wE (i:=0) hR (by omega) fun n3 hn3=>?_
  exact⟨h,Sub.refl _,hK _ (by omega)⟩
theorem aJb {ro:Ro}{h:T Obj}{p a n w nx:Nat}{L:List Nat}{K:KV} (hR:RI h p a n L w) (hK:∀ nx',nx≤nx'→K (aBq L) h nx'):aN Tryz.prog ro qJ [ptr p] h nx K:=by
 apply aCB
 unfold aAP
 refine aAe hR fun n2 hn2=>?_
 (repeat(first|refine aA (by simp (disch:=first|omega|exact nnN _|assumption) only [decide_true,decide_false,Bool.not_true,Bool.not_false,eO,dH,dG,bW,cH,bY,gC,f8,gB,gA,cI,dU,eT,cZ,cF,Option.bind_some,Value.cells_agg,cR,cG,dK,dX,dQ,dV,dW,aT,aU,aY,aX,aW,aV,bQ,bL,cJ,dE,cK,fB,i6,fR,dC,eW,dA,dB,cL,cA,bZ,fU,eU,dY,cP,cD,cB,T.get_upd_same,T.get_upd_ne,bG,bT,tl,ts,if_pos,Nat.zero_add,Nat.mul_one,Nat.add_zero,Int.toNat_natCast,↓reduceIte,Nat.reduceLeDiff,Nat.reduceAdd,Nat.le_refl]<;>rfl) ?_|apply aD|apply aE|with_reducible refine aG ?_|with_reducible refine aF ?_|with_reducible refine aK ?_|with_reducible refine aH ?_|with_reducible refine aJ ?_|with_reducible refine aI ?_|with_reducible refine aL ?_|apply aC))
 unfold aBq at hK
 by_cases h0:L.length=0
 ·refine iO (by simp[h0]) ?_
  rw[if_pos h0] at hK
  exact⟨h,Sub.refl _,hK _ (by omega)⟩
 ·refine iN (decide_eq_false (by omega)) ?_
  rw[if_neg h0] at hK
  have hR':=hR
  have hln:=hR.len
  obtain⟨put,first,now,gp,ga,hne,hpl,h1,h2,h3,h4,h5,hrel,hpw,hb⟩:=hR
  (repeat(first|refine aA (by simp (disch:=first|omega|exact nnN _|assumption) only [decide_true,decide_false,Bool.not_true,Bool.not_false,eO,dH,dG,bW,cH,bY,gC,f8,gB,gA,cI,dU,eT,cZ,cF,Option.bind_some,Value.cells_agg,cR,cG,dK,dX,dQ,dV,dW,aT,aU,aY,aX,aW,aV,bQ,bL,cJ,dE,cK,fB,i6,fR,dC,eW,dA,dB,cL,cA,bZ,fU,eU,dY,cP,cD,cB,T.get_upd_same,T.get_upd_ne,bG,bT,tl,ts,if_pos,Nat.zero_add,Nat.mul_one,Nat.add_zero,Int.toNat_natCast,↓reduceIte,Nat.reduceLeDiff,Nat.reduceAdd,Nat.le_refl,bC,gp]<;>rfl) ?_|apply aD|apply aE|with_reducible refine aG ?_|with_reducible refine aF ?_|with_reducible refine aK ?_|with_reducible refine aH ?_|with_reducible refine aJ ?_|with_reducible refine aI ?_|with_reducible refine aL ?_|apply aC))
  have e:(L.length:Int) - 1=((L.length - 1:Nat):Int):=by omega
  rw[e]
  refine wE (i:=L.length - 1) hR' (by omega) fun n3 hn3=>?_
  exact⟨h,Sub.refl _,hK _ (by omega)⟩
def aOL (L:List Nat):List Nat:=if L.getD (L.length - 1) 0=1 then L else L++[1]
theorem aFo {L:List Nat} (h:L.getD (L.length - 1) 0≠1):aOL L=L++[1]:=if_neg h
theorem aM6 {L:List Nat}{x:Nat} (hx:x∈L) (hp:L.Pairwise (fun x y=>y < x)):L.getD (L.length - 1) 0≤x:=by
 obtain⟨i,hi,rfl⟩:=List.getElem_of_mem hx
 have h1:L.getD (L.length - 1) 0=L[L.length - 1]:=by simp[List.getD,List.getElem?_eq_getElem (show L.length - 1 < L.length by omega)]
 rw[h1]
 rcases Nat.lt_or_ge i (L.length - 1) with h2 | h2
 ·exact Nat.le_of_lt (List.pairwise_iff_getElem.1 hp i (L.length - 1) hi (by omega) h2)
 ·have:i=L.length - 1:=by omega
  subst this; exact Nat.le_refl _
theorem aKZ {L:List Nat}{n:Nat} (h:L.getD (L.length - 1) 0≠1) (hp:L.Pairwise (fun x y=>y < x)) (hb:∀ x∈L,1≤x∧x≤n):∀ x∈L,2≤x∧x≤n:=fun x hx=>by
 have h1:=aM6 hx hp
 have h2:=hb x hx
 have h3:L.getD (L.length - 1) 0∈L:=by
  obtain⟨i,hi,_⟩:=List.getElem_of_mem hx
  have h1:L.getD (L.length - 1) 0=L[L.length - 1]:=by simp[List.getD,List.getElem?_eq_getElem (show L.length - 1 < L.length by omega)]
  rw[h1]; exact List.getElem_mem _
 have:=hb _ h3
 omega
theorem aIZ {L:List Nat}{n:Nat} (hn:1≤n) (h:L.getD (L.length - 1) 0≠1) (hp:L.Pairwise (fun x y=>y < x)) (hb:∀ x∈L,1≤x∧x≤n):L.length < n:=by
 rcases aKA (lo:=2) (by omega) hp (aKZ h hp hb) with h9 | h9
 ·omega
 ·subst h9; exact hn
theorem aKX {L:List Nat}{n:Nat} (h:L.getD (L.length - 1) 0≠1) (hp:L.Pairwise (fun x y=>y < x)) (hb:∀ x∈L,1≤x∧x≤n):(L++[1]).Pairwise (fun x y=>y < x):=by
 rw[List.pairwise_append]
 refine⟨hp,List.pairwise_singleton ..,fun x hx y hy=>?_⟩
 have:=aKZ h hp hb x hx
 rw[List.mem_singleton] at hy
 omega
theorem aMz {L:List Nat}{n:Nat} (hn:1≤n) (hb:∀ x∈L,1≤x∧x≤n):∀ x∈L++[1],1≤x∧x≤n:=fun x hx=>by
 rw[List.mem_append,List.mem_singleton] at hx
 rcases hx with hx | rfl
 ·exact hb x hx
 ·omega
theorem aOA {f i j n:Nat} (hi:i < n) (hj:j < n) (he:(f+i) % n=(f+j) % n):i=j:=by
 have h1:=Nat.div_add_mod (f+i) n
 have h2:=Nat.div_add_mod (f+j) n
 rcases Nat.lt_trichotomy ((f+i) / n) ((f+j) / n) with h | h | h
 ·have:=Nat.mul_le_mul_left n (show (f+i) / n+1≤(f+j) / n from h)
  rw[Nat.mul_add] at this; omega
 ·rw[h] at h1; omega
 ·have:=Nat.mul_le_mul_left n (show (f+j) / n+1≤(f+i) / n from h)
  rw[Nat.mul_add] at this; omega
theorem aKY {L put:List Nat}{n first now:Nat} (hpl:put.length=n) (hf:first < n) (hr:L.length < n) (hrel:∀ i,i < L.length→put.getD ((first+i) % n) 0+L.getD i 0=now+1) :
  ∀ i,i < (L++[1]).length→(put.set ((first+L.length) % n) now).getD ((first+i) % n) 0+(L++[1]).getD i 0=now+1:=fun i hi=>by
 have hm:(first+i) % n < n:=Nat.mod_lt _ (by omega)
 rw[List.length_append,List.length_singleton] at hi
 rcases Nat.lt_or_ge i L.length with h1 | h1
 ·have hne:(first+L.length) % n≠(first+i) % n:=fun e=>by have:=aOA hr (by omega) e; omega
  have e1:(put.set ((first+L.length) % n) now).getD ((first+i) % n) 0=put.getD ((first+i) % n) 0:=by simp[List.getD,List.getElem?_set_ne hne]
  have e2:(L++[1]).getD i 0=L.getD i 0:=by simp[List.getD,List.getElem?_append_left h1]
  rw[e1,e2]; exact hrel i h1
 ·have:i=L.length:=by omega
  subst this
  have e1:(put.set ((first+L.length) % n) now).getD ((first+L.length) % n) 0=now:=by simp[List.getD,List.getElem?_set_self,hpl,hm]
  have e2:(L++[1]).getD L.length 0=1:=by simp[List.getD]
  rw[e1,e2]
set_option maxRecDepth 4000 in
theorem aEZ {ro:Ro}{h:T Obj}{p a n w nx:Nat}{L:List Nat}{K:KV} (hR:RI h p a n L w) (hw:w+1≤1000000) (hK:∀ h' nx',nx≤nx'→RI h' p a n (aOL L) (w+1)→rS h h' p a→K (.tuple #[]) h' nx'):aN Tryz.prog ro nD [ptr p] h nx K:=by
 have hln:=hR.len
 obtain⟨put,first,now,gp,ga,hne,hpl,b1,b2,b3,b4,b5,hrel,hpw,hb⟩:=hR
 apply aCC
 unfold aAQ
 (repeat(first|refine aA (by simp (disch:=first|omega|exact nnN _|assumption) only [decide_true,decide_false,Bool.not_true,Bool.not_false,eO,dH,dG,bW,cH,bY,gC,f8,gB,gA,cI,dU,eT,cZ,cF,Option.bind_some,Value.cells_agg,cR,cG,dK,dX,dQ,dV,dW,aT,aU,aY,aX,aW,aV,bQ,bL,cJ,dE,cK,fB,i6,fR,dC,eW,dA,dB,cL,cA,bZ,fU,eU,dY,cP,cD,cB,T.get_upd_same,T.get_upd_ne,bG,bT,tl,ts,if_pos,Nat.zero_add,Nat.mul_one,Nat.add_zero,Int.toNat_natCast,↓reduceIte,Nat.reduceLeDiff,Nat.reduceAdd,Nat.le_refl,pY,bC,gp,ga]<;>rfl) ?_|apply aD|apply aE|with_reducible refine aG ?_|with_reducible refine aF ?_|with_reducible refine aK ?_|with_reducible refine aH ?_|with_reducible refine aJ ?_|with_reducible refine aI ?_|with_reducible refine aL ?_|apply aC))
 have gp1:(h.upd p (some (.cells (over (lS a n first L.length now w).toArray.toList 4 [.int .i64 ((w:Int)+1)]).toArray bM))).get p=some (.cells (lS a n first L.length now (w+1)).toArray bM):=by
  rw[T.get_upd_same]; rfl
 have ga1:(h.upd p (some (.cells (over (lS a n first L.length now w).toArray.toList 4 [.int .i64 ((w:Int)+1)]).toArray bM))).get a=some (.cells (pC put).toArray dR):=by rw[T.get_upd_ne _ _ (Ne.symm hne)]; exact ga
 have ho1:rS h (h.upd p (some (.cells (over (lS a n first L.length now w).toArray.toList 4 [.int .i64 ((w:Int)+1)]).toArray bM))) p a:=fun k k1 k2=>by rw[T.get_upd_ne _ _ k1]
 generalize (h.upd p (some (.cells (over (lS a n first L.length now w).toArray.toList 4 [.int .i64 ((w:Int)+1)]).toArray bM)))=h1 at gp1 ga1 ho1
 have hR1:RI h1 p a n L (w+1):=⟨put,first,now,gp1,ga1,hne,hpl,b1,b2,b3,by omega,hw,hrel,hpw,hb⟩
 (repeat(first|refine aA (by simp (disch:=first|omega|exact nnN _|assumption) only [decide_true,decide_false,Bool.not_true,Bool.not_false,eO,dH,dG,bW,cH,bY,gC,f8,gB,gA,cI,dU,eT,cZ,cF,Option.bind_some,Value.cells_agg,cR,cG,dK,dX,dQ,dV,dW,aT,aU,aY,aX,aW,aV,bQ,bL,cJ,dE,cK,fB,i6,fR,dC,eW,dA,dB,cL,cA,bZ,fU,eU,dY,cP,cD,cB,T.get_upd_same,T.get_upd_ne,bG,bT,tl,ts,if_pos,Nat.zero_add,Nat.mul_one,Nat.add_zero,Int.toNat_natCast,↓reduceIte,Nat.reduceLeDiff,Nat.reduceAdd,Nat.le_refl,bC,gp1]<;>rfl) ?_|apply aD|apply aE|with_reducible refine aG ?_|with_reducible refine aF ?_|with_reducible refine aK ?_|with_reducible refine aH ?_|with_reducible refine aJ ?_|with_reducible refine aI ?_|with_reducible refine aL ?_|apply aC))
 rcases Nat.eq_zero_or_pos L.length with hm | hm
 ·have d:decide ((0:Int) < (L.length:Int))=false:=decide_eq_false (by omega)
  rw[d]
  have hlast:L.getD (L.length - 1) 0≠1:=by
   have:L=[]:=List.length_eq_zero_iff.1 hm
   subst this; decide
  (repeat(first|refine aA (by simp (disch:=first|omega|exact nnN _|assumption) only [decide_true,decide_false,Bool.not_true,Bool.not_false,eO,dH,dG,bW,cH,bY,gC,f8,gB,gA,cI,dU,eT,cZ,cF,Option.bind_some,Value.cells_agg,cR,cG,dK,dX,dQ,dV,dW,aT,aU,aY,aX,aW,aV,bQ,bL,cJ,dE,cK,fB,i6,fR,dC,eW,dA,dB,cL,cA,bZ,fU,eU,dY,cP,cD,cB,T.get_upd_same,T.get_upd_ne,bG,bT,tl,ts,if_pos,Nat.zero_add,Nat.mul_one,Nat.add_zero,Int.toNat_natCast,↓reduceIte,Nat.reduceLeDiff,Nat.reduceAdd,Nat.le_refl]<;>rfl) ?_|apply aD|apply aE|with_reducible refine aG ?_|with_reducible refine aF ?_|with_reducible refine aK ?_|with_reducible refine aH ?_|with_reducible refine aJ ?_|with_reducible refine aI ?_|with_reducible refine aL ?_|apply aC))
  (repeat(first|refine aA (by simp (disch:=first|omega|exact nnN _|assumption) only [decide_true,decide_false,Bool.not_true,Bool.not_false,eO,dH,dG,bW,cH,bY,gC,f8,gB,gA,cI,dU,eT,cZ,cF,Option.bind_some,Value.cells_agg,cR,cG,dK,dX,dQ,dV,dW,aT,aU,aY,aX,aW,aV,bQ,bL,cJ,dE,cK,fB,i6,fR,dC,eW,dA,dB,cL,cA,bZ,fU,eU,dY,cP,cD,cB,T.get_upd_same,T.get_upd_ne,bG,bT,tl,ts,if_pos,Nat.zero_add,Nat.mul_one,Nat.add_zero,Int.toNat_natCast,↓reduceIte,Nat.reduceLeDiff,Nat.reduceAdd,Nat.le_refl,bC,gp1,aDO]<;>rfl) ?_|apply aD|apply aE|with_reducible refine aG ?_|with_reducible refine aF ?_|with_reducible refine aK ?_|with_reducible refine aH ?_|with_reducible refine aJ ?_|with_reducible refine aI ?_|with_reducible refine aL ?_|apply aC))
  have hcase:(first+L.length) % n < n:=Nat.mod_lt _ (by omega)
  refine aA (aDH _ _ _ _ hcase) ?_
  refine aA (dJ (v:=.int .i64 _) (l:=pC put) ga1 (by rw[aIW]; omega) rfl rfl) ?_
  rw[aIX]
  have gp2:(h1.upd a (some (.cells (pC (put.set ((first+L.length) % n) now)).toArray dR))).get p=some (.cells (lS a n first L.length now (w+1)).toArray bM):=by rw[T.get_upd_ne _ _ hne]; exact gp1
  have ga2:(h1.upd a (some (.cells (pC (put.set ((first+L.length) % n) now)).toArray dR))).get a=some (.cells (pC (put.set ((first+L.length) % n) now)).toArray dR):=T.get_upd_same _ _ _
  have ho2:rS h (h1.upd a (some (.cells (pC (put.set ((first+L.length) % n) now)).toArray dR))) p a:=fun k k1 k2=>by rw[T.get_upd_ne _ _ k2]; exact ho1 k k1 k2
  generalize (h1.upd a (some (.cells (pC (put.set ((first+L.length) % n) now)).toArray dR)))=h2 at gp2 ga2 ho2
  (repeat(first|refine aA (by simp (disch:=first|omega|exact nnN _|assumption) only [decide_true,decide_false,Bool.not_true,Bool.not_false,eO,dH,dG,bW,cH,bY,gC,f8,gB,gA,cI,dU,eT,cZ,cF,Option.bind_some,Value.cells_agg,cR,cG,dK,dX,dQ,dV,dW,aT,aU,aY,aX,aW,aV,bQ,bL,cJ,dE,cK,fB,i6,fR,dC,eW,dA,dB,cL,cA,bZ,fU,eU,dY,cP,cD,cB,T.get_upd_same,T.get_upd_ne,bG,bT,tl,ts,if_pos,Nat.zero_add,Nat.mul_one,Nat.add_zero,Int.toNat_natCast,↓reduceIte,Nat.reduceLeDiff,Nat.reduceAdd,Nat.le_refl,bC,gp2]<;>rfl) ?_|apply aD|apply aE|with_reducible refine aG ?_|with_reducible refine aF ?_|with_reducible refine aK ?_|with_reducible refine aH ?_|with_reducible refine aJ ?_|with_reducible refine aI ?_|with_reducible refine aL ?_|apply aC))
  have gp3:(h2.upd p (some (.cells (over (lS a n first L.length now (w+1)).toArray.toList 2 [.int .i64 ((L.length:Int)+1)]).toArray bM))).get p=some (.cells (lS a n first (L++[1]).length now (w+1)).toArray bM):=by
   rw[T.get_upd_same,List.length_append]; rfl
  refine⟨_,Sub.refl _,hK _ _ (by omega) ?_ ?_⟩
  ·rw[aFo hlast]
   exact⟨put.set ((first+L.length) % n) now,first,now,gp3,by rw[T.get_upd_ne _ _ (Ne.symm hne)]; exact ga2,hne,by rw[List.length_set]; exact hpl,b1,b2,b3,by omega,hw,aKY hpl b3 (aIZ b1 hlast hpw hb) hrel,aKX hlast hpw hb,aMz b1 hb⟩
  ·exact fun k k1 k2=>by rw[T.get_upd_ne _ _ k1]; exact ho2 k k1 k2
 ·have d:decide ((0:Int) < (L.length:Int))=true:=decide_eq_true (by omega)
  rw[d]
  (repeat(first|refine aA (by simp (disch:=first|omega|exact nnN _|assumption) only [decide_true,decide_false,Bool.not_true,Bool.not_false,eO,dH,dG,bW,cH,bY,gC,f8,gB,gA,cI,dU,eT,cZ,cF,Option.bind_some,Value.cells_agg,cR,cG,dK,dX,dQ,dV,dW,aT,aU,aY,aX,aW,aV,bQ,bL,cJ,dE,cK,fB,i6,fR,dC,eW,dA,dB,cL,cA,bZ,fU,eU,dY,cP,cD,cB,T.get_upd_same,T.get_upd_ne,bG,bT,tl,ts,if_pos,Nat.zero_add,Nat.mul_one,Nat.add_zero,Int.toNat_natCast,↓reduceIte,Nat.reduceLeDiff,Nat.reduceAdd,Nat.le_refl,bC,gp1]<;>rfl) ?_|apply aD|apply aE|with_reducible refine aG ?_|with_reducible refine aF ?_|with_reducible refine aK ?_|with_reducible refine aH ?_|with_reducible refine aJ ?_|with_reducible refine aI ?_|with_reducible refine aL ?_|apply aC))
  have e:(L.length:Int) - 1=((L.length - 1:Nat):Int):=by omega
  rw[e]
  refine wE (i:=L.length - 1) hR1 (by omega) fun n4 hn4=>?_
  (repeat(first|refine aA (by simp (disch:=first|omega|exact nnN _|assumption) only [decide_true,decide_false,Bool.not_true,Bool.not_false,eO,dH,dG,bW,cH,bY,gC,f8,gB,gA,cI,dU,eT,cZ,cF,Option.bind_some,Value.cells_agg,cR,cG,dK,dX,dQ,dV,dW,aT,aU,aY,aX,aW,aV,bQ,bL,cJ,dE,cK,fB,i6,fR,dC,eW,dA,dB,cL,cA,bZ,fU,eU,dY,cP,cD,cB,T.get_upd_same,T.get_upd_ne,bG,bT,tl,ts,if_pos,Nat.zero_add,Nat.mul_one,Nat.add_zero,Int.toNat_natCast,↓reduceIte,Nat.reduceLeDiff,Nat.reduceAdd,Nat.le_refl]<;>rfl) ?_|apply aD|apply aE|with_reducible refine aG ?_|with_reducible refine aF ?_|with_reducible refine aK ?_|with_reducible refine aH ?_|with_reducible refine aJ ?_|with_reducible refine aI ?_|with_reducible refine aL ?_|apply aC))
  by_cases hlast:L.getD (L.length - 1) 0=1
  ·rw[decide_eq_true (show ((L.getD (L.length - 1) 0:Nat):Int)=1 by omega)]
   (repeat(first|refine aA (by simp (disch:=first|omega|exact nnN _|assumption) only [decide_true,decide_false,Bool.not_true,Bool.not_false,eO,dH,dG,bW,cH,bY,gC,f8,gB,gA,cI,dU,eT,cZ,cF,Option.bind_some,Value.cells_agg,cR,cG,dK,dX,dQ,dV,dW,aT,aU,aY,aX,aW,aV,bQ,bL,cJ,dE,cK,fB,i6,fR,dC,eW,dA,dB,cL,cA,bZ,fU,eU,dY,cP,cD,cB,T.get_upd_same,T.get_upd_ne,bG,bT,tl,ts,if_pos,Nat.zero_add,Nat.mul_one,Nat.add_zero,Int.toNat_natCast,↓reduceIte,Nat.reduceLeDiff,Nat.reduceAdd,Nat.le_refl]<;>rfl) ?_|apply aD|apply aE|with_reducible refine aG ?_|with_reducible refine aF ?_|with_reducible refine aK ?_|with_reducible refine aH ?_|with_reducible refine aJ ?_|with_reducible refine aI ?_|with_reducible refine aL ?_|apply aC))
   refine⟨_,Sub.refl _,hK _ _ (by omega) ?_ ho1⟩
   unfold aOL
   rw[if_pos hlast]
   exact hR1
  rw[decide_eq_false (show ¬ ((L.getD (L.length - 1) 0:Nat):Int)=1 by omega)]
  (repeat(first|refine aA (by simp (disch:=first|omega|exact nnN _|assumption) only [decide_true,decide_false,Bool.not_true,Bool.not_false,eO,dH,dG,bW,cH,bY,gC,f8,gB,gA,cI,dU,eT,cZ,cF,Option.bind_some,Value.cells_agg,cR,cG,dK,dX,dQ,dV,dW,aT,aU,aY,aX,aW,aV,bQ,bL,cJ,dE,cK,fB,i6,fR,dC,eW,dA,dB,cL,cA,bZ,fU,eU,dY,cP,cD,cB,T.get_upd_same,T.get_upd_ne,bG,bT,tl,ts,if_pos,Nat.zero_add,Nat.mul_one,Nat.add_zero,Int.toNat_natCast,↓reduceIte,Nat.reduceLeDiff,Nat.reduceAdd,Nat.le_refl]<;>rfl) ?_|apply aD|apply aE|with_reducible refine aG ?_|with_reducible refine aF ?_|with_reducible refine aK ?_|with_reducible refine aH ?_|with_reducible refine aJ ?_|with_reducible refine aI ?_|with_reducible refine aL ?_|apply aC))
  (repeat(first|refine aA (by simp (disch:=first|omega|exact nnN _|assumption) only [decide_true,decide_false,Bool.not_true,Bool.not_false,eO,dH,dG,bW,cH,bY,gC,f8,gB,gA,cI,dU,eT,cZ,cF,Option.bind_some,Value.cells_agg,cR,cG,dK,dX,dQ,dV,dW,aT,aU,aY,aX,aW,aV,bQ,bL,cJ,dE,cK,fB,i6,fR,dC,eW,dA,dB,cL,cA,bZ,fU,eU,dY,cP,cD,cB,T.get_upd_same,T.get_upd_ne,bG,bT,tl,ts,if_pos,Nat.zero_add,Nat.mul_one,Nat.add_zero,Int.toNat_natCast,↓reduceIte,Nat.reduceLeDiff,Nat.reduceAdd,Nat.le_refl,bC,gp1,aDO]<;>rfl) ?_|apply aD|apply aE|with_reducible refine aG ?_|with_reducible refine aF ?_|with_reducible refine aK ?_|with_reducible refine aH ?_|with_reducible refine aJ ?_|with_reducible refine aI ?_|with_reducible refine aL ?_|apply aC))
  have hcase:(first+L.length) % n < n:=Nat.mod_lt _ (by omega)
  refine aA (aDH _ _ _ _ hcase) ?_
  refine aA (dJ (v:=.int .i64 _) (l:=pC put) ga1 (by rw[aIW]; omega) rfl rfl) ?_
  rw[aIX]
  have gp2:(h1.upd a (some (.cells (pC (put.set ((first+L.length) % n) now)).toArray dR))).get p=some (.cells (lS a n first L.length now (w+1)).toArray bM):=by rw[T.get_upd_ne _ _ hne]; exact gp1
  have ga2:(h1.upd a (some (.cells (pC (put.set ((first+L.length) % n) now)).toArray dR))).get a=some (.cells (pC (put.set ((first+L.length) % n) now)).toArray dR):=T.get_upd_same _ _ _
  have ho2:rS h (h1.upd a (some (.cells (pC (put.set ((first+L.length) % n) now)).toArray dR))) p a:=fun k k1 k2=>by rw[T.get_upd_ne _ _ k2]; exact ho1 k k1 k2
  generalize (h1.upd a (some (.cells (pC (put.set ((first+L.length) % n) now)).toArray dR)))=h2 at gp2 ga2 ho2
  (repeat(first|refine aA (by simp (disch:=first|omega|exact nnN _|assumption) only [decide_true,decide_false,Bool.not_true,Bool.not_false,eO,dH,dG,bW,cH,bY,gC,f8,gB,gA,cI,dU,eT,cZ,cF,Option.bind_some,Value.cells_agg,cR,cG,dK,dX,dQ,dV,dW,aT,aU,aY,aX,aW,aV,bQ,bL,cJ,dE,cK,fB,i6,fR,dC,eW,dA,dB,cL,cA,bZ,fU,eU,dY,cP,cD,cB,T.get_upd_same,T.get_upd_ne,bG,bT,tl,ts,if_pos,Nat.zero_add,Nat.mul_one,Nat.add_zero,Int.toNat_natCast,↓reduceIte,Nat.reduceLeDiff,Nat.reduceAdd,Nat.le_refl,bC,gp2]<;>rfl) ?_|apply aD|apply aE|with_reducible refine aG ?_|with_reducible refine aF ?_|with_reducible refine aK ?_|with_reducible refine aH ?_|with_reducible refine aJ ?_|with_reducible refine aI ?_|with_reducible refine aL ?_|apply aC))
  have gp3:(h2.upd p (some (.cells (over (lS a n first L.length now (w+1)).toArray.toList 2 [.int .i64 ((L.length:Int)+1)]).toArray bM))).get p=some (.cells (lS a n first (L++[1]).length now (w+1)).toArray bM):=by
   rw[T.get_upd_same,List.length_append]; rfl
  refine⟨_,Sub.refl _,hK _ _ (by omega) ?_ ?_⟩
  ·rw[aFo hlast]
   exact⟨put.set ((first+L.length) % n) now,first,now,gp3,by rw[T.get_upd_ne _ _ (Ne.symm hne)]; exact ga2,hne,by rw[List.length_set]; exact hpl,b1,b2,b3,by omega,hw,aKY hpl b3 (aIZ b1 hlast hpw hb) hrel,aKX hlast hpw hb,aMz b1 hb⟩
  ·exact fun k k1 k2=>by rw[T.get_upd_ne _ _ k1]; exact ho2 k k1 k2
theorem aNU:und Tryz.prog i4=some (.slice dR):=by kernel_rfl
theorem aO1:∃ i,tin Tryz.prog dR=some i∧i.size=1∧i.bytes=8:=by
 have h:(tin Tryz.prog dR).map (fun i=>(i.size,i.bytes))=some (1,8):=by kernel_rfl
 cases hi:tin Tryz.prog dR with
 | none=>rw[hi] at h; cases h
 | some i=>rw[hi] at h; simp at h; exact⟨i,rfl,h.1,h.2⟩
theorem aOf:zer Tryz.prog dR=some (.int .i64 0):=by kernel_rfl
theorem RI.sub {h h':T Obj}{p a n w:Nat}{L:List Nat} (hR:RI h p a n L w) (hs:Sub h h'):RI h' p a n L w:=by
 obtain⟨put,first,now,gp,ga,hr⟩:=hR
 exact⟨put,first,now,hs _ _ gp,hs _ _ ga,hr⟩
theorem aGv {ro:Ro}{h:T Obj}{p a n first m now w i x nx:Nat}{put:List Nat}{K:KV} (gp:h.get p=some (.cells (lS a n first m now w).toArray bM)) (ga:h.get a=some (.cells (pC put).toArray dR)) (hpl:put.length=n) (h1:1≤n) (h2:n≤4096) (h3:first < n) (h4:now≤2000000) (hi:i≤4096) (hr:put.getD ((first+i) % n) 0+x=now+1) (hK:∀ nx',nx≤nx'→K (.int .i64 (x:Nat)) h nx'):aN Tryz.prog ro fY [ptr p,.int .i64 (i:Int)] h nx K:=by
 apply sZ
 unfold qL
 have hm:(first+i) % n < n:=Nat.mod_lt _ (by omega)
 have hm2:(first+i) % n < put.length:=by omega
 (repeat(first|refine aA (by simp (disch:=first|omega|exact nnN _|assumption) only [decide_true,decide_false,Bool.not_true,Bool.not_false,eO,dH,dG,bW,cH,bY,gC,f8,gB,gA,cI,dU,eT,cZ,cF,Option.bind_some,Value.cells_agg,cR,cG,dK,dX,dQ,dV,dW,aT,aU,aY,aX,aW,aV,bQ,bL,cJ,dE,cK,fB,i6,fR,dC,eW,dA,dB,cL,cA,bZ,fU,eU,dY,cP,cD,cB,T.get_upd_same,T.get_upd_ne,bG,bT,tl,ts,if_pos,Nat.zero_add,Nat.mul_one,Nat.add_zero,Int.toNat_natCast,↓reduceIte,Nat.reduceLeDiff,Nat.reduceAdd,Nat.le_refl,bC,gp,ga,aDO,aDH,aIV]<;>rfl) ?_|apply aD|apply aE|with_reducible refine aG ?_|with_reducible refine aF ?_|with_reducible refine aK ?_|with_reducible refine aH ?_|with_reducible refine aJ ?_|with_reducible refine aI ?_|with_reducible refine aL ?_|apply aC))
 refine⟨h,Sub.refl _,?_⟩
 have e:(now:Int) - (put.getD ((first+i) % n) 0:Nat)+1=(x:Nat):=by omega
 rw[e]
 exact hK _ (by omega)
def aCp (n:Nat) (L:List Nat):List Nat:=if n≤L.getD 0 0 then (L.map (·+1)).tail else L.map (·+1)
theorem aKx {L:List Nat}{i:Nat} (hi:i < L.length):(L.map (·+1)).getD i 0=L.getD i 0+1:=by
 simp[List.getD,hi]
theorem aJO {L:List Nat}{i:Nat} (hi:i+1 < L.length):(L.map (·+1)).tail.getD i 0=L.getD (i+1) 0+1:=by
 simp[List.getD,hi]
theorem aKB {L:List Nat} (hp:L.Pairwise (fun x y=>y < x)):(L.map (·+1)).Pairwise (fun x y=>y < x):=by
 rw[List.pairwise_map]
 exact hp.imp fun h=>by omega
theorem aKw {L:List Nat}{x:Nat} (hp:L.Pairwise (fun x y=>y < x)) (hx:x∈L):x≤L.getD 0 0:=by
 cases L with
 | nil=>cases hx
 | cons y r =>
  rw[List.pairwise_cons] at hp
  rcases List.mem_cons.1 hx with rfl | h
  ·exact Nat.le_refl _
  ·exact Nat.le_of_lt (hp.1 x h)
theorem aMV {L:List Nat}{n:Nat} (hp:L.Pairwise (fun x y=>y < x)) (hb:∀ x∈L,1≤x∧x≤n):∀ x∈aCp n L,1≤x∧x≤n:=fun x hx=>by
 unfold aCp at hx
 by_cases h:n≤L.getD 0 0
 ·rw[if_pos h] at hx
  cases L with
  | nil=>cases hx
  | cons y r =>
   rw[List.map_cons,List.tail_cons,List.mem_map] at hx
   obtain⟨z,hz,rfl⟩:=hx
   rw[List.pairwise_cons] at hp
   have h1:=hp.1 z hz
   have h2:=hb y (List.mem_cons_self ..)
   omega
 ·rw[if_neg h,List.mem_map] at hx
  obtain⟨z,hz,rfl⟩:=hx
  have:=aKw hp hz
  omega
theorem aKP {L:List Nat}{n:Nat} (hp:L.Pairwise (fun x y=>y < x)):(aCp n L).Pairwise (fun x y=>y < x):=by
 unfold aCp
 by_cases h:n≤L.getD 0 0
 ·rw[if_pos h]; exact (aKB hp).sublist (List.tail_sublist _)
 ·rw[if_neg h]; exact aKB hp
theorem aMl {f i n:Nat}:((f+1) % n+i) % n=(f+(i+1)) % n:=by
 rw[Nat.add_mod,Nat.mod_mod,← Nat.add_mod]; congr 1; omega
set_option maxRecDepth 4000 in
theorem aEY {ro:Ro}{h:T Obj}{p a n w nx:Nat}{L:List Nat}{K:KV} (hR:RI h p a n L w) (hw:w+1≤1000000) (hK:∀ h' nx',nx≤nx'→RI h' p a n (aCp n L) (w+1)→rS h h' p a→K (.tuple #[]) h' nx'):aN Tryz.prog ro nB [ptr p] h nx K:=by
 have hln:=hR.len
 obtain⟨put,first,now,gp,ga,hne,hpl,b1,b2,b3,b4,b5,hrel,hpw,hb⟩:=hR
 apply aBy
 unfold aAM
 (repeat(first|refine aA (by simp (disch:=first|omega|exact nnN _|assumption) only [decide_true,decide_false,Bool.not_true,Bool.not_false,eO,dH,dG,bW,cH,bY,gC,f8,gB,gA,cI,dU,eT,cZ,cF,Option.bind_some,Value.cells_agg,cR,cG,dK,dX,dQ,dV,dW,aT,aU,aY,aX,aW,aV,bQ,bL,cJ,dE,cK,fB,i6,fR,dC,eW,dA,dB,cL,cA,bZ,fU,eU,dY,cP,cD,cB,T.get_upd_same,T.get_upd_ne,bG,bT,tl,ts,if_pos,Nat.zero_add,Nat.mul_one,Nat.add_zero,Int.toNat_natCast,↓reduceIte,Nat.reduceLeDiff,Nat.reduceAdd,Nat.le_refl,pY,bC,gp,ga]<;>rfl) ?_|apply aD|apply aE|with_reducible refine aG ?_|with_reducible refine aF ?_|with_reducible refine aK ?_|with_reducible refine aH ?_|with_reducible refine aJ ?_|with_reducible refine aI ?_|with_reducible refine aL ?_|apply aC))
 have gp1:((h.upd p (some (.cells (over (lS a n first L.length now w).toArray.toList 4 [.int .i64 ((w:Int)+1)]).toArray bM))).upd p (some (.cells (over (over (lS a n first L.length now w).toArray.toList 4 [.int .i64 ((w:Int)+1)]).toArray.toList 3 [.int .i64 ((now:Int)+1)]).toArray bM))).get p=some (.cells (lS a n first L.length (now+1) (w+1)).toArray bM):=by
  rw[T.get_upd_same]; rfl
 have ga1:((h.upd p (some (.cells (over (lS a n first L.length now w).toArray.toList 4 [.int .i64 ((w:Int)+1)]).toArray bM))).upd p (some (.cells (over (over (lS a n first L.length now w).toArray.toList 4 [.int .i64 ((w:Int)+1)]).toArray.toList 3 [.int .i64 ((now:Int)+1)]).toArray bM))).get a=some (.cells (pC put).toArray dR):=by rw[T.get_upd_ne _ _ (Ne.symm hne),T.get_upd_ne _ _ (Ne.symm hne)]; exact ga
 have ho1:rS h ((h.upd p (some (.cells (over (lS a n first L.length now w).toArray.toList 4 [.int .i64 ((w:Int)+1)]).toArray bM))).upd p (some (.cells (over (over (lS a n first L.length now w).toArray.toList 4 [.int .i64 ((w:Int)+1)]).toArray.toList 3 [.int .i64 ((now:Int)+1)]).toArray bM))) p a:=fun k k1 k2=>by rw[T.get_upd_ne _ _ k1,T.get_upd_ne _ _ k1]
 generalize ((h.upd p (some (.cells (over (lS a n first L.length now w).toArray.toList 4 [.int .i64 ((w:Int)+1)]).toArray bM))).upd p (some (.cells (over (over (lS a n first L.length now w).toArray.toList 4 [.int .i64 ((w:Int)+1)]).toArray.toList 3 [.int .i64 ((now:Int)+1)]).toArray bM)))=h1 at gp1 ga1 ho1
 rcases Nat.eq_zero_or_pos L.length with hm | hm
 ·have d:decide ((0:Int) < (L.length:Int))=false:=decide_eq_false (by omega)
  rw[d]
  (repeat(first|refine aA (by simp (disch:=first|omega|exact nnN _|assumption) only [decide_true,decide_false,Bool.not_true,Bool.not_false,eO,dH,dG,bW,cH,bY,gC,f8,gB,gA,cI,dU,eT,cZ,cF,Option.bind_some,Value.cells_agg,cR,cG,dK,dX,dQ,dV,dW,aT,aU,aY,aX,aW,aV,bQ,bL,cJ,dE,cK,fB,i6,fR,dC,eW,dA,dB,cL,cA,bZ,fU,eU,dY,cP,cD,cB,T.get_upd_same,T.get_upd_ne,bG,bT,tl,ts,if_pos,Nat.zero_add,Nat.mul_one,Nat.add_zero,Int.toNat_natCast,↓reduceIte,Nat.reduceLeDiff,Nat.reduceAdd,Nat.le_refl]<;>rfl) ?_|apply aD|apply aE|with_reducible refine aG ?_|with_reducible refine aF ?_|with_reducible refine aK ?_|with_reducible refine aH ?_|with_reducible refine aJ ?_|with_reducible refine aI ?_|with_reducible refine aL ?_|apply aC))
  refine⟨_,Sub.refl _,hK _ _ (by omega) ?_ ho1⟩
  have hL:L=[]:=List.length_eq_zero_iff.1 hm
  subst hL
  have hi:aCp n []=[]:=by unfold aCp; rw[if_neg (show ¬ n≤([]:List Nat).getD 0 0 by simp; omega)]; rfl
  rw[hi]
  exact⟨put,first,now+1,gp1,ga1,hne,hpl,b1,b2,b3,by omega,hw,fun i hi=>(by cases hi),List.Pairwise.nil,fun x hx=>(by cases hx)⟩
 ·have d:decide ((0:Int) < (L.length:Int))=true:=decide_eq_true (by omega)
  rw[d]
  (repeat(first|refine aA (by simp (disch:=first|omega|exact nnN _|assumption) only [decide_true,decide_false,Bool.not_true,Bool.not_false,eO,dH,dG,bW,cH,bY,gC,f8,gB,gA,cI,dU,eT,cZ,cF,Option.bind_some,Value.cells_agg,cR,cG,dK,dX,dQ,dV,dW,aT,aU,aY,aX,aW,aV,bQ,bL,cJ,dE,cK,fB,i6,fR,dC,eW,dA,dB,cL,cA,bZ,fU,eU,dY,cP,cD,cB,T.get_upd_same,T.get_upd_ne,bG,bT,tl,ts,if_pos,Nat.zero_add,Nat.mul_one,Nat.add_zero,Int.toNat_natCast,↓reduceIte,Nat.reduceLeDiff,Nat.reduceAdd,Nat.le_refl]<;>rfl) ?_|apply aD|apply aE|with_reducible refine aG ?_|with_reducible refine aF ?_|with_reducible refine aK ?_|with_reducible refine aH ?_|with_reducible refine aJ ?_|with_reducible refine aI ?_|with_reducible refine aL ?_|apply aC))
  refine aGv (i:=0) (x:=L.getD 0 0+1) gp1 ga1 hpl b1 b2 b3 (by omega) (by omega) (by have:=hrel 0 hm; omega) fun n4 hn4=>?_
  (repeat(first|refine aA (by simp (disch:=first|omega|exact nnN _|assumption) only [decide_true,decide_false,Bool.not_true,Bool.not_false,eO,dH,dG,bW,cH,bY,gC,f8,gB,gA,cI,dU,eT,cZ,cF,Option.bind_some,Value.cells_agg,cR,cG,dK,dX,dQ,dV,dW,aT,aU,aY,aX,aW,aV,bQ,bL,cJ,dE,cK,fB,i6,fR,dC,eW,dA,dB,cL,cA,bZ,fU,eU,dY,cP,cD,cB,T.get_upd_same,T.get_upd_ne,bG,bT,tl,ts,if_pos,Nat.zero_add,Nat.mul_one,Nat.add_zero,Int.toNat_natCast,↓reduceIte,Nat.reduceLeDiff,Nat.reduceAdd,Nat.le_refl,bC,gp1]<;>rfl) ?_|apply aD|apply aE|with_reducible refine aG ?_|with_reducible refine aF ?_|with_reducible refine aK ?_|with_reducible refine aH ?_|with_reducible refine aJ ?_|with_reducible refine aI ?_|with_reducible refine aL ?_|apply aC))
  refine⟨fun _=>fT gp1 gp1,?_⟩
  (repeat(first|refine aA (by simp (disch:=first|omega|exact nnN _|assumption) only [decide_true,decide_false,Bool.not_true,Bool.not_false,eO,dH,dG,bW,cH,bY,gC,f8,gB,gA,cI,dU,eT,cZ,cF,Option.bind_some,Value.cells_agg,cR,cG,dK,dX,dQ,dV,dW,aT,aU,aY,aX,aW,aV,bQ,bL,cJ,dE,cK,fB,i6,fR,dC,eW,dA,dB,cL,cA,bZ,fU,eU,dY,cP,cD,cB,T.get_upd_same,T.get_upd_ne,bG,bT,tl,ts,if_pos,Nat.zero_add,Nat.mul_one,Nat.add_zero,Int.toNat_natCast,↓reduceIte,Nat.reduceLeDiff,Nat.reduceAdd,Nat.le_refl]<;>rfl) ?_|apply aD|apply aE|with_reducible refine aG ?_|with_reducible refine aF ?_|with_reducible refine aK ?_|with_reducible refine aH ?_|with_reducible refine aJ ?_|with_reducible refine aI ?_|with_reducible refine aL ?_|apply aC))
  by_cases hx:n≤L.getD 0 0
  ·rw[decide_eq_true (show (n:Int) < ((L.getD 0 0+1:Nat):Int) by omega)]
   have hmod:((first:Int)+1) % (n:Int)=(((first+1) % n:Nat):Int):=aDO first 1 n
   have hml:(first+1) % n < n:=Nat.mod_lt _ (by omega)
   (repeat(first|refine aA (by simp (disch:=first|omega|exact nnN _|assumption) only [decide_true,decide_false,Bool.not_true,Bool.not_false,eO,dH,dG,bW,cH,bY,gC,f8,gB,gA,cI,dU,eT,cZ,cF,Option.bind_some,Value.cells_agg,cR,cG,dK,dX,dQ,dV,dW,aT,aU,aY,aX,aW,aV,bQ,bL,cJ,dE,cK,fB,i6,fR,dC,eW,dA,dB,cL,cA,bZ,fU,eU,dY,cP,cD,cB,T.get_upd_same,T.get_upd_ne,bG,bT,tl,ts,if_pos,Nat.zero_add,Nat.mul_one,Nat.add_zero,Int.toNat_natCast,↓reduceIte,Nat.reduceLeDiff,Nat.reduceAdd,Nat.le_refl,bC,gp1,hmod]<;>rfl) ?_|apply aD|apply aE|with_reducible refine aG ?_|with_reducible refine aF ?_|with_reducible refine aK ?_|with_reducible refine aH ?_|with_reducible refine aJ ?_|with_reducible refine aI ?_|with_reducible refine aL ?_|apply aC))
   refine⟨_,Sub.refl _,hK _ _ (by omega) ?_ ?_⟩
   ·have hi:aCp n L=(L.map (·+1)).tail:=if_pos hx
    have hlen:(aCp n L).length=L.length - 1:=by rw[hi]; simp
    refine⟨put,(first+1) % n,now+1,?_,?_,hne,hpl,b1,b2,hml,by omega,hw,?_,aKP hpw,aMV hpw hb⟩
    ·rw[T.get_upd_same,hlen]
     have e:(L.length:Int) - 1=((L.length - 1:Nat):Int):=by omega
     rw[e]; rfl
    ·rw[T.get_upd_ne _ _ (Ne.symm hne),T.get_upd_ne _ _ (Ne.symm hne)]; exact ga1
    ·intro i hil
     rw[hlen] at hil
     rw[hi,aJO (by omega),aMl]
     have:=hrel (i+1) (by omega)
     omega
   ·exact fun k k1 k2=>by rw[T.get_upd_ne _ _ k1,T.get_upd_ne _ _ k1]; exact ho1 k k1 k2
  ·rw[decide_eq_false (show ¬ (n:Int) < ((L.getD 0 0+1:Nat):Int) by omega)]
   (repeat(first|refine aA (by simp (disch:=first|omega|exact nnN _|assumption) only [decide_true,decide_false,Bool.not_true,Bool.not_false,eO,dH,dG,bW,cH,bY,gC,f8,gB,gA,cI,dU,eT,cZ,cF,Option.bind_some,Value.cells_agg,cR,cG,dK,dX,dQ,dV,dW,aT,aU,aY,aX,aW,aV,bQ,bL,cJ,dE,cK,fB,i6,fR,dC,eW,dA,dB,cL,cA,bZ,fU,eU,dY,cP,cD,cB,T.get_upd_same,T.get_upd_ne,bG,bT,tl,ts,if_pos,Nat.zero_add,Nat.mul_one,Nat.add_zero,Int.toNat_natCast,↓reduceIte,Nat.reduceLeDiff,Nat.reduceAdd,Nat.le_refl]<;>rfl) ?_|apply aD|apply aE|with_reducible refine aG ?_|with_reducible refine aF ?_|with_reducible refine aK ?_|with_reducible refine aH ?_|with_reducible refine aJ ?_|with_reducible refine aI ?_|with_reducible refine aL ?_|apply aC))
   refine⟨_,Sub.refl _,hK _ _ (by omega) ?_ ho1⟩
   have hi:aCp n L=L.map (·+1):=if_neg hx
   have hlen:(aCp n L).length=L.length:=by rw[hi]; simp
   refine⟨put,first,now+1,by rw[hlen]; exact gp1,ga1,hne,hpl,b1,b2,b3,by omega,hw,?_,aKP hpw,aMV hpw hb⟩
   intro i hil
   rw[hlen] at hil
   rw[hi,aKx hil]
   have:=hrel i hil
   omega
set_option maxRecDepth 4000 in
theorem wD {ro:Ro}{h:T Obj}{p a n w nx:Nat}{L:List Nat}{K:KV} (hR:RI h p a n L w) (hw:w+1≤1000000) (hK:∀ h' nx',nx≤nx'→RI h' p a n [] (w+1)→rS h h' p a→K (.tuple #[]) h' nx'):aN Tryz.prog ro jG [ptr p] h nx K:=by
 obtain⟨put,first,now,gp,ga,hne,hpl,b1,b2,b3,b4,b5,hrel,hpw,hb⟩:=hR
 apply aAf
 unfold wU
 (repeat(first|refine aA (by simp (disch:=first|omega|exact nnN _|assumption) only [decide_true,decide_false,Bool.not_true,Bool.not_false,eO,dH,dG,bW,cH,bY,gC,f8,gB,gA,cI,dU,eT,cZ,cF,Option.bind_some,Value.cells_agg,cR,cG,dK,dX,dQ,dV,dW,aT,aU,aY,aX,aW,aV,bQ,bL,cJ,dE,cK,fB,i6,fR,dC,eW,dA,dB,cL,cA,bZ,fU,eU,dY,cP,cD,cB,T.get_upd_same,T.get_upd_ne,bG,bT,tl,ts,if_pos,Nat.zero_add,Nat.mul_one,Nat.add_zero,Int.toNat_natCast,↓reduceIte,Nat.reduceLeDiff,Nat.reduceAdd,Nat.le_refl,aIU,bC,gp,ga]<;>rfl) ?_|apply aD|apply aE|with_reducible refine aG ?_|with_reducible refine aF ?_|with_reducible refine aK ?_|with_reducible refine aH ?_|with_reducible refine aJ ?_|with_reducible refine aI ?_|with_reducible refine aL ?_|apply aC))
 refine⟨_,Sub.refl _,hK _ _ (by omega) ?_ ?_⟩
 ·refine⟨put,0,now,?_,?_,hne,hpl,b1,b2,by omega,by omega,hw,fun i hi=>(by cases hi),List.Pairwise.nil,fun x hx=>(by cases hx)⟩
  ·rw[T.get_upd_same]; rfl
  ·rw[T.get_upd_ne _ _ (Ne.symm hne),T.get_upd_ne _ _ (Ne.symm hne),T.get_upd_ne _ _ (Ne.symm hne)]; exact ga
 ·exact fun k k1 k2=>by rw[T.get_upd_ne _ _ k1,T.get_upd_ne _ _ k1,T.get_upd_ne _ _ k1]
theorem aEk:∀ n:Nat,tB [.int .i64 0] n=pC (List.replicate n 0)
 | 0=>rfl
 | n+1=>by
  have:=aEk n
  simp only[tB,this,pC,List.replicate_succ,List.map_cons]; rfl
theorem aMg {aid n:Nat} (h0:1≤n) (h1:n≤1000000):aDx Tryz.prog i4 aid (.int .i64 (n:Int)) (.int .i64 (n:Int))=some (.slice (some (own aid 1)) n n,some (.cells (pC (List.replicate n 0)).toArray dR)):=by
 obtain⟨i,g1,g2,g3⟩:=aO1
 have hb:Nat.ble (n*8) big=true:=Nat.ble_eq_true_of_le (by unfold big; omega)
 have e1:decide ((0:Int)≤(n:Int))=true:=by simp
 have e2:decide ((n:Int)≤(n:Int))=true:=by simp
 have e3:decide ((n:Int)≤70368744177664)=true:=by simp; omega
 have hz:aFR Tryz.prog dR n=some (pC (List.replicate n 0)):=by
  obtain⟨m,rfl⟩:∃ m,n=m+1:=⟨n - 1,by omega⟩
  have hs:siz Tryz.prog dR=some 1:=by kernel_rfl
  unfold aFR
  simp only[aOf,hs,Option.bind_some]
  have h3:Nat.beq (Value.cells (.int .i64 0)).size 1=true:=rfl
  have h4:Nat.blt 0 1=true:=rfl
  rw[h3,h4]
  simp only
  rw[← aEk]; rfl
 unfold aDx
 simp only[aNU,e1,e2,g1,Option.bind_some,g3,Int.toNat_natCast,hb,e3,hz,g2]
theorem aHQ (a n:Nat):fJ Tryz.prog bM [(0,.slice (some (own a 1)) n n)]=some (.agg (lS a n 0 0 0 0).toArray):=by kernel_rfl
set_option maxRecDepth 4000 in
theorem aJc {ro:Ro}{h:T Obj}{n nx:Nat}{K:KV} (hf:Fr h nx) (h1:1≤n) (h2:n≤4096) (hK:∀ p a h' nx',nx≤p→nx≤a→nx≤nx'→Sub h h'→Fr h' nx'→RI h' p a n [] 0→K (.tuple #[ptr p,.int .i64 0]) h' nx'):aN Tryz.prog ro aA8 [.int .i64 (n:Int)] h nx K:=by
 apply aIa
 unfold aI9
 (repeat(first|refine aA (by simp (disch:=first|omega|exact nnN _|assumption) only [decide_true,decide_false,Bool.not_true,Bool.not_false,eO,dH,dG,bW,cH,bY,gC,f8,gB,gA,cI,dU,eT,cZ,cF,Option.bind_some,Value.cells_agg,cR,cG,dK,dX,dQ,dV,dW,aT,aU,aY,aX,aW,aV,bQ,bL,cJ,dE,cK,fB,i6,fR,dC,eW,dA,dB,cL,cA,bZ,fU,eU,dY,cP,cD,cB,T.get_upd_same,T.get_upd_ne,bG,bT,tl,ts,if_pos,Nat.zero_add,Nat.mul_one,Nat.add_zero,Int.toNat_natCast,↓reduceIte,Nat.reduceLeDiff,Nat.reduceAdd,Nat.le_refl]<;>rfl) ?_|apply aD|apply aE|with_reducible refine aG ?_|with_reducible refine aF ?_|with_reducible refine aK ?_|with_reducible refine aH ?_|with_reducible refine aJ ?_|with_reducible refine aI ?_|with_reducible refine aL ?_|apply aC))
 rw[decide_eq_false (show ¬ (n:Int) < 1 by omega)]
 (repeat(first|refine aA (by simp (disch:=first|omega|exact nnN _|assumption) only [decide_true,decide_false,Bool.not_true,Bool.not_false,eO,dH,dG,bW,cH,bY,gC,f8,gB,gA,cI,dU,eT,cZ,cF,Option.bind_some,Value.cells_agg,cR,cG,dK,dX,dQ,dV,dW,aT,aU,aY,aX,aW,aV,bQ,bL,cJ,dE,cK,fB,i6,fR,dC,eW,dA,dB,cL,cA,bZ,fU,eU,dY,cP,cD,cB,T.get_upd_same,T.get_upd_ne,bG,bT,tl,ts,if_pos,Nat.zero_add,Nat.mul_one,Nat.add_zero,Int.toNat_natCast,↓reduceIte,Nat.reduceLeDiff,Nat.reduceAdd,Nat.le_refl]<;>rfl) ?_|apply aD|apply aE|with_reducible refine aG ?_|with_reducible refine aF ?_|with_reducible refine aK ?_|with_reducible refine aH ?_|with_reducible refine aJ ?_|with_reducible refine aI ?_|with_reducible refine aL ?_|apply aC))
 rw[decide_eq_false (show ¬ (4096:Int) < (n:Int) by omega)]
 (repeat(first|refine aA (by simp (disch:=first|omega|exact nnN _|assumption) only [decide_true,decide_false,Bool.not_true,Bool.not_false,eO,dH,dG,bW,cH,bY,gC,f8,gB,gA,cI,dU,eT,cZ,cF,Option.bind_some,Value.cells_agg,cR,cG,dK,dX,dQ,dV,dW,aT,aU,aY,aX,aW,aV,bQ,bL,cJ,dE,cK,fB,i6,fR,dC,eW,dA,dB,cL,cA,bZ,fU,eU,dY,cP,cD,cB,T.get_upd_same,T.get_upd_ne,bG,bT,tl,ts,if_pos,Nat.zero_add,Nat.mul_one,Nat.add_zero,Int.toNat_natCast,↓reduceIte,Nat.reduceLeDiff,Nat.reduceAdd,Nat.le_refl]<;>rfl) ?_|apply aD|apply aE|with_reducible refine aG ?_|with_reducible refine aF ?_|with_reducible refine aK ?_|with_reducible refine aH ?_|with_reducible refine aJ ?_|with_reducible refine aI ?_|with_reducible refine aL ?_|apply aC))
 refine aA (aMg h1 (by omega)) (aE ?_)
 refine aA (aHQ _ _) (aD ?_)
 refine⟨_,Sub.refl _,hK _ (nx+6+1+2) _ _ (by omega) (by omega) (by omega) (((Sub.refl h).new hf (by omega)).new hf (by omega)) ((hf.upd (m:=nx+6+1+7) (by omega) (by omega)).upd (Nat.le_refl _) (by omega)) ?_⟩
 exact⟨List.replicate n 0,0,0,by rw[T.get_upd_same]; rfl,by rw[T.get_upd_ne _ _ (by omega),T.get_upd_same],by omega,List.length_replicate,h1,h2,by omega,Nat.le_refl _,by omega,fun i hi=>(by cases hi),List.Pairwise.nil,fun x hx=>(by cases hx)⟩
theorem Sub.e (h:T Obj):Sub .e h:=fun k o e=>by cases e
theorem RI.only {h h':T Obj}{p a p2 a2 n w:Nat}{L:List Nat} (hR:RI h p a n L w) (ho:rS h h' p2 a2) (h1:p≠p2) (h2:p≠a2) (h3:a≠p2) (h4:a≠a2):RI h' p a n L w:=by
 obtain⟨put,first,now,gp,ga,hr⟩:=hR
 exact⟨put,first,now,by rw[ho _ h1 h2]; exact gp,by rw[ho _ h3 h4]; exact ga,hr⟩
theorem RI.lt {h:T Obj}{p a n w nx:Nat}{L:List Nat} (hR:RI h p a n L w) (hf:Fr h nx):p < nx∧a < nx:=by
 obtain⟨put,first,now,gp,ga,hr⟩:=hR
 exact⟨hf.lt gp,hf.lt ga⟩
theorem rS.sub {h0 h h':T Obj}{p a n0:Nat} (ho:rS h h' p a) (hs:Sub h0 h) (hf:Fr h0 n0) (hp:n0≤p) (ha:n0≤a):Sub h0 h':=fun k o e=>by
 have:=hf.lt e
 rw[ho k (by omega) (by omega)]; exact hs k o e
def aNn (L:List Nat):Nat:=if L.length=0 then 0 else L.getD 0 0
theorem aPE (L:List Nat):nth 0 (aBi L)=some (.int .i64 (aNn L:Nat)):=by
 unfold aBi aNn
 by_cases h:L.length=0
 ·rw[if_pos h,if_pos h]; rfl
 ·rw[if_neg h,if_neg h]; rfl
theorem aPF (L:List Nat):nth 1 (aBi L)=some (.bool (!decide (L.length=0))):=by
 unfold aBi
 by_cases h:L.length=0
 ·rw[if_pos h,decide_eq_true h]; rfl
 ·rw[if_neg h,decide_eq_false h]; rfl
section
attribute [local irreducible] aB ifP aR cT eQ exP cO
def isC (n:Nat) (L:List Nat):List Value:=(List.range (n+1)).map fun i=>.bool (decide (i∈L))
def WI (h:T Obj) (p a n:Nat) (L:List Nat) (w:Nat):Prop:=h.get p=some (.cells #[.slice (some (V.own a 1)) (n+1) (n+1),.int .i64 w] kS)∧h.get a=some (.cells (isC n L).toArray aEh)∧p≠a∧1≤n∧n≤4096∧w≤1000000
end
theorem WI.sub {h h':T Obj}{p a n w:Nat}{L:List Nat} (hW:WI h p a n L w) (hs:Sub h h'):WI h' p a n L w:=⟨hs _ _ hW.1,hs _ _ hW.2.1,hW.2.2⟩
theorem kC {h:T Obj}{i j:Nat}{c d:Array Value}{e f:TypeId} (hi:h.get i=some (.cells c e)) (hj:h.get j=some (.cells d f)) (hef:e≠f):i≠j:=fun e9=>by
 subst e9; rw[hi] at hj; cases hj; exact hef rfl
def low (L:List Nat):Nat:=if L.length=0 then 0 else L.getD (L.length - 1) 0
theorem aPR (L:List Nat):nth 0 (aBq L)=some (.int .i64 (low L:Nat)):=by
 unfold aBq low
 by_cases h:L.length=0
 ·rw[if_pos h,if_pos h]; rfl
 ·rw[if_neg h,if_neg h]; rfl
theorem aPS (L:List Nat):nth 1 (aBq L)=some (.bool (!decide (L.length=0))):=by
 unfold aBq
 by_cases h:L.length=0
 ·rw[if_pos h,decide_eq_true h]; rfl
 ·rw[if_neg h,decide_eq_false h]; rfl
theorem RI.in {h:T Obj}{p a n w:Nat}{L:List Nat} (hR:RI h p a n L w):L.Pairwise (fun x y=>y < x)∧(∀ x∈L,1≤x∧x≤n)∧1≤n∧n≤4096:=by
 obtain⟨put,first,now,gp,ga,hne,hpl,b1,b2,b3,b4,b5,hrel,hpw,hb⟩:=hR
 exact⟨hpw,hb,b1,b2⟩
end V
end Go.Proofs.YtcaccnneblghgaaGreat
namespace Go.Proofs.YtcaccnneblghgaaGreat
namespace V
attribute [local irreducible] aB ifP aR cT eQ exP cO
abbrev RgD:=List Nat × Nat
def noR:RgD:=([],0)
def aGM (r:RgD):RgD:=([],r.2+1)
def aPc (r:RgD):RgD:=(aOL r.1,r.2+1)
def aPH (n:Nat) (r:RgD):RgD:=(aCp n r.1,r.2+1)
def aGu (n o:Nat) (r:RgD):RgD:=if o=3 then aPc (aGM r) else if o=2 then aPc (aPH n r) else aPH n r
structure MacD where
 cur:Int
 rs:List RgD
 steps:Nat
def oW (C:List (Int × Int)) (c:Int):Int × Int:=C.getD c.toNat (0,0)
def rI (rs:List RgD) (c:Int):RgD:=rs.getD c.toNat noR
def aJH (C:List (Int × Int)) (rs:List RgD) (c:Int):Nat :=
 if (rI rs c).1.length=0 then 0 else if (((rI rs c).1.getD 0 0:Nat):Int) < (oW C c).1 then 0 else if (((rI rs c).1.getD ((rI rs c).1.length - 1) 0:Nat):Int) < (oW C c).2 then 2 else 1
def iM (C:List (Int × Int)) (rs:List RgD):List Int→Nat
 | []=>0
 | c::r=>aJH C rs c+3*iM C rs r
def aP2:MoveD:=⟨-1,[]⟩
def gH (d:AutoD) (m:MacD):StateD:=d.states.getD m.cur.toNat noS
def qP (d:AutoD) (m:MacD):Int:=if m.cur=-1 then -1 else (gH d m).rule.getD (iM d.counts m.rs (gH d m).r) 0
def pV (d:AutoD) (m:MacD) (b:Nat):MoveD:=((gH d m).next.getD (iM d.counts m.rs (gH d m).r) []).getD (d.c.getD b 0) aP2
def pX (d:AutoD) (t:Int):List Int:=if t=-1 then [] else (d.states.getD t.toNat noS).r
def wN (nx:List Int):List Int→List RgD→List RgD
 | [],rs=>rs
 | c::r,rs=>wN nx r (if nx.contains c then rs else rs.set c.toNat (aGM (rI rs c)))
def x7 (C:List (Int × Int)):List Int→List Nat→List RgD→List RgD
 | c::r,o::os,rs=>x7 C r os (rs.set c.toNat (aGu (oW C c).2.toNat o (rI rs c)))
 | _,_,rs=>rs
def onM (d:AutoD) (m:MacD) (b:Nat):Bool:=!decide (m.cur=-1)&&!decide ((pV d m b).to=-1)
def mM (d:AutoD) (m:MacD) (b:Nat):MacD :=
 if m.cur=-1 then m else ⟨(pV d m b).to,x7 d.counts (pX d (pV d m b).to) (pV d m b).ops (wN (pX d (pV d m b).to) (gH d m).r m.rs),m.steps+1+(gH d m).r.length⟩
def p6 (r:RgD):RgD:=if r.1.length=0 then r else aGM r
def aEX (m:MacD):MacD:=⟨0,m.rs.map p6,m.steps⟩
def aDy (d:AutoD):MacD:=⟨0,d.counts.map fun _=>noR,0⟩
def MOk (d:AutoD) (m:MacD):Prop:=(m.cur=-1∨0≤m.cur∧m.cur < d.states.length)∧m.rs.length=d.counts.length
theorem fW {d:AutoD} (h:fH d=true):oM d.c d.many=true∧d.counts.length≤512∧1≤d.states.length∧d.states.length≤256∧(∀ c∈d.counts,1≤c.1∧c.1≤c.2∧2≤c.2∧c.2≤4096)∧∀ s∈d.states,gU d.states d.many d.counts.length s=true:=by
 unfold fH at h
 simp only[Bool.and_eq_true,decide_eq_true_eq] at h
 obtain⟨h1,h2,h3,h4,h5,h6,h7⟩:=h
 refine⟨h1,h2,h3,h4,fun c hc=>?_,fun s hs=>List.all_eq_true.1 h7 s hs⟩
 have:=List.all_eq_true.1 h6 c hc
 unfold m6 at this
 simp only[Bool.and_eq_true,decide_eq_true_eq] at this
 exact this
theorem qE {S:List StateD}{n:Int}{cn:Nat}{s:StateD} (h:gU S n cn s=true):s.r.length≤3∧(s.rule.length:Int)=j6 s.r.length∧(s.next.length:Int)=j6 s.r.length∧(∀ c∈s.r,0≤c∧c < cn)∧oN S s.r n s.rule s.next=true:=by
 have h3:=(aFv h).2
 unfold gU at h
 simp only[Bool.and_eq_true,decide_eq_true_eq] at h
 obtain⟨h1,h2,h4,h5,h6,h7⟩:=h
 refine⟨h3,h2,h4,fun c hc=>?_,h7⟩
 have:=aJe h6 c hc
 omega
theorem aKC (C:List (Int × Int)) (rs:List RgD) (c:Int):aJH C rs c < 3:=by
 unfold aJH
 repeat' split
 all_goals omega
theorem aH0 (C:List (Int × Int)) (rs:List RgD):∀ r:List Int,iM C rs r < 3 ^ r.length
 | []=>by show 0 < 1; omega
 | c::r=>by
  have:=aH0 C rs r
  have:=aKC C rs c
  rw[List.length_cons,Nat.pow_succ]
  unfold iM
  omega
theorem aCM {C:List (Int × Int)}{rs:List RgD}{r:List Int} (h:r.length≤3):(iM C rs r:Int) < j6 r.length:=by
 have h1:=aH0 C rs r
 generalize r.length=n at h h1
 match n,h with
 | 0,_=>have h2:iM C rs r < 1:=h1; show (iM C rs r:Int) < 1; omega
 | 1,_=>have h2:iM C rs r < 3:=h1; show (iM C rs r:Int) < 3; omega
 | 2,_=>have h2:iM C rs r < 9:=h1; show (iM C rs r:Int) < 9; omega
 | 3,_=>have h2:iM C rs r < 27:=h1; show (iM C rs r:Int) < 27; omega
theorem aGw {S:List StateD}{R:List Int}{n:Int}:∀ {us:List Int}{rows:List (List MoveD)},oN S R n us rows=true→us.length=rows.length→∀ (i:Nat) row u,rows[i]?=some row→us[i]?=some u→wV S R n u row=true
 | [],[],_,_,i,row,u,hr,hu=>by simp at hr
 | u::us,row::rows,h,hl,i,row',u',hr,hu=>by
  rw[pZ,Bool.and_eq_true] at h
  cases i with
  | zero=>simp at hr hu; subst hr hu; exact h.1
  | succ i=>exact aGw h.2 (by simpa using hl) i row' u' (by simpa using hr) (by simpa using hu)
 | [],_::_,_,hl,_,_,_,_,_=>by simp at hl
 | _::_,[],_,hl,_,_,_,_,_=>by simp at hl
theorem aI8 {c:List Nat}{n:Int} (hc:c.length=256) (h:oM c n=true):∀ b,b < 256→((c.getD b 0:Nat):Int) < n:=by
 unfold oM at h
 split at h
 ·rename_i m hm
  simp only[decide_eq_true_eq] at h
  subst h
  have key:∀ i m,rt c i=some m→∀ b,b < i→c.getD b 0 < m:=by
   intro i
   induction i with
   | zero=>intro m _ b hb; omega
   | succ i ih =>
    intro m h b hb
    obtain⟨k,h1,h2⟩:=aM h
    have:=ih k h1
    split at h2
    ·cases h2
    ·split at h2
     ·cases h2
      rcases Nat.lt_or_ge b i with h4 | h4
      ·have:=this b h4; omega
      ·have:b=i:=by omega
       subst this; omega
     ·cases h2
      rcases Nat.lt_or_ge b i with h4 | h4
      ·exact this b h4
      ·have:b=i:=by omega
       subst this; omega
  intro b hb
  exact_mod_cast key 256 m hm b hb
 ·cases h
structure StF (d:AutoD) (s:StateD) (k:Nat):Prop where
 r3:s.r.length≤3
 rl:∀ c∈s.r,0≤c∧c < d.counts.length
 kr:k < s.rule.length
 kn:k < s.next.length
 row:((s.next.getD k []).length:Int)=d.many
 mv:∀ m∈s.next.getD k [],hZ d.states s.r m=true
 ru:-1≤s.rule.getD k 0∧s.rule.getD k 0 < 512
theorem aFu {d:AutoD}{m:MacD} (ha:fH d=true) (hm:MOk d m) (hc:m.cur≠-1):StF d (gH d m) (iM d.counts m.rs (gH d m).r):=by
 obtain⟨h1,h2,h3,h4,h5,h6⟩:=fW ha
 have hcur:0≤m.cur∧m.cur < d.states.length:=by rcases hm.1 with h | h<;>omega
 have hi:m.cur.toNat < d.states.length:=by omega
 have hs:gH d m=d.states[m.cur.toNat]:=by unfold gH; rw[List.getD_eq_getElem?_getD,List.getElem?_eq_getElem hi]; rfl
 have hk:=h6 _ (List.getElem_mem hi)
 rw[← hs] at hk
 generalize gH d m=s at hk
 obtain⟨k1,k2,k3,k4,k5⟩:=qE hk
 have hlt:=aCM (C:=d.counts) (rs:=m.rs) k1
 generalize iM d.counts m.rs s.r=k at hlt
 have kr:k < s.rule.length:=by omega
 have kn:k < s.next.length:=by omega
 have e1:s.next[k]?=some s.next[k]:=List.getElem?_eq_getElem kn
 have e2:s.rule[k]?=some s.rule[k]:=List.getElem?_eq_getElem kr
 have hro:=aGw k5 (by omega) k _ _ e1 e2
 unfold wV at hro
 simp only[Bool.and_eq_true,decide_eq_true_eq] at hro
 refine⟨k1,k4,kr,kn,?_,?_,?_⟩
 ·rw[List.getD_eq_getElem?_getD,e1]; exact hro.2.2.1
 ·rw[List.getD_eq_getElem?_getD,e1]; exact fun m hm=>List.all_eq_true.1 hro.2.2.2 m hm
 ·rw[List.getD_eq_getElem?_getD,e2]; exact⟨hro.1,hro.2.1⟩
theorem aG8 {d:AutoD}{m:MacD}{b:Nat} (ha:fH d=true) (hm:MOk d m) (hc:m.cur≠-1) (hl:d.c.length=256) (hb:b < 256):d.c.getD b 0 < ((gH d m).next.getD (iM d.counts m.rs (gH d m).r) []).length∧hZ d.states (gH d m).r (pV d m b)=true:=by
 have hs:=aFu ha hm hc
 have h1:=aI8 hl (fW ha).1 b hb
 have h2:d.c.getD b 0 < ((gH d m).next.getD (iM d.counts m.rs (gH d m).r) []).length:=by have:=hs.row; omega
 refine⟨h2,hs.mv _ ?_⟩
 unfold pV
 rw[List.getD_eq_getElem?_getD (a:=aP2),List.getElem?_eq_getElem h2]
 exact List.getElem_mem h2
theorem aAa {S:List StateD}{R:List Int}{m:MoveD} (h:hZ S R m=true):(m.to=-1∧m.ops=[])∨(1≤m.to∧m.to < S.length∧m.ops.length=(S.getD m.to.toNat noS).r.length∧x8 R m.ops (S.getD m.to.toNat noS).r=true):=by
 unfold hZ at h
 split at h
 ·rename_i ht
  exact .inl ⟨ht,List.length_eq_zero_iff.1 (by simpa using h)⟩
 ·simp only[Bool.and_eq_true,decide_eq_true_eq] at h
  exact .inr ⟨h.1,h.2.1,h.2.2.1,h.2.2.2⟩
theorem aFl {R:List Int}:∀ {os:List Nat}{rs:List Int},x8 R os rs=true→os.length=rs.length→∀ o∈os,1≤o∧o≤3
 | [],_,_,_,o,ho=>by cases ho
 | o::os,[],_,hl,_,_=>by simp at hl
 | o::os,r::rs,h,hl,x,hx=>by
  rw[aAb,Bool.and_eq_true] at h
  rcases List.mem_cons.1 hx with rfl | hx
  ·have:=h.1
   unfold aGg at this
   simp only[Bool.and_eq_true,decide_eq_true_eq] at this
   exact⟨this.1,this.2.1⟩
  ·exact aFl h.2 (by simpa using hl) x hx
theorem aHX (nx:List Int):∀ (r:List Int) (rs:List RgD),(wN nx r rs).length=rs.length
 | [],rs=>rfl
 | c::r,rs=>by
  unfold wN
  rw[aHX nx r]
  split<;>simp
theorem aIM (C:List (Int × Int)):∀ (r:List Int) (os:List Nat) (rs:List RgD),(x7 C r os rs).length=rs.length
 | [],_,rs=>by simp[x7]
 | _::_,[],rs=>by simp[x7]
 | c::r,o::os,rs=>by
  unfold x7
  rw[aIM C r os]; simp
theorem aOW {d:AutoD}{m:MacD}{b:Nat} (ha:fH d=true) (hm:MOk d m) (hl:d.c.length=256) (hb:b < 256):MOk d (mM d m b):=by
 unfold mM
 by_cases hc:m.cur=-1
 ·rw[if_pos hc]; exact hm
 ·rw[if_neg hc]
  have h1:=aAa (aG8 ha hm hc hl hb).2
  refine⟨?_,?_⟩
  ·rcases h1 with ⟨h1,_⟩ | ⟨h1,h2,_⟩
   ·exact .inl h1
   ·exact .inr ⟨by show (0:Int)≤(pV d m b).to; omega,h2⟩
  ·show (x7 _ _ _ _).length=_
   rw[aIM,aHX]; exact hm.2
theorem aNA {d:AutoD}{m:MacD} (ha:fH d=true) (hm:MOk d m):MOk d (aEX m):=⟨.inr ⟨Int.le_refl _,by have:=(fW ha).2.2.1; show (0:Int) < _; omega⟩,by show (m.rs.map p6).length=_; rw[List.length_map]; exact hm.2⟩
theorem aPZ {d:AutoD} (ha:fH d=true):MOk d (aDy d):=⟨.inr ⟨Int.le_refl _,by have:=(fW ha).2.2.1; show (0:Int) < _; omega⟩,by show (d.counts.map _).length=_; rw[List.length_map]⟩
def WLe (B:Nat) (rs:List RgD):Prop:=∀ r∈rs,r.2≤B
theorem WLe.mono {B B':Nat}{rs:List RgD} (h:WLe B rs) (hb:B≤B'):WLe B' rs:=fun r hr=>Nat.le_trans (h r hr) hb
theorem WLe.set {B:Nat}{rs:List RgD}{i:Nat}{x:RgD} (h:WLe B rs) (hx:x.2≤B):WLe B (rs.set i x):=fun r hr=>by
 rcases List.mem_or_eq_of_mem_set hr with h1 | h1
 ·exact h r h1
 ·rw[h1]; exact hx
theorem WLe.at {B:Nat}{rs:List RgD} (h:WLe B rs) (c:Int):(rI rs c).2≤B:=by
 unfold rI
 rw[List.getD_eq_getElem?_getD]
 cases hq:rs[c.toNat]? with
 | none=>exact Nat.zero_le _
 | some r=>exact h r (List.mem_of_getElem? hq)
theorem aNB (n o:Nat) (r:RgD):(aGu n o r).2≤r.2+2:=by
 unfold aGu
 repeat' split
 all_goals simp[aPc,aGM,aPH]
end V
end Go.Proofs.YtcaccnneblghgaaGreat
namespace Go.Proofs.YtcaccnneblghgaaGreat
namespace V
structure EntD where
 a:AutoD
 rules:List Int
structure TabD where
 conds:List ByteArray
 kinds:List ByteArray
 to:List Int
 entries:List EntD
structure TokD where
 rule:Int
 from_:Nat
 to:Nat
deriving DecidableEq
structure ScD where
 ms:List MacD
 kept:List Nat
 at_:Nat
 line:Bool
 cond:Nat
 took:Nat
 held:Nat
 rule:Int
 closed:Bool
 steps:Nat
structure TryD where
 took:Nat
 held:Nat
 rule:Int
 steps:Nat
 m:MacD
def noE:EntD:=⟨⟨[],0,[],[]⟩,[]⟩
def aP1:MacD:=⟨0,[],0⟩
def qU (s:ScD):Nat:=2*s.cond+(if s.line then 1 else 0)
def qV (T:TabD) (s:ScD):EntD:=T.entries.getD (qU s) noE
def tk0 (d:AutoD) (t:TryD) (b:Nat):TryD:=⟨t.took+1,t.held,t.rule,t.steps+1,mM d t.m b⟩
def tk1 (d:AutoD) (t:TryD) (b:Nat):TryD:=if qP d (mM d t.m b)=-1 then tk0 d t b else ⟨t.took+1,t.took+1,qP d (mM d t.m b),t.steps+1,mM d t.m b⟩
def zL (d:AutoD):List Nat→TryD→Bool × TryD
 | [],t=>(false,t)
 | b::r,t=>if onM d t.m b=true then zL d r (tk1 d t b) else (true,tk0 d t b)
theorem aBh (d:AutoD) (b:Nat) (r:List Nat) (t:TryD):zL d (b::r) t=if onM d t.m b=true then zL d r (tk1 d t b) else (true,tk0 d t b):=rfl
def uN (s:ScD):TryD:=⟨s.took,s.held,s.rule,s.steps,if s.took=0 then aEX (s.ms.getD (qU s) aP1) else s.ms.getD (qU s) aP1⟩
def cY (s:ScD) (t:TryD):ScD:={ s with ms:=s.ms.set (qU s) t.m,took:=t.took,held:=t.held,rule:=t.rule,steps:=t.steps }
def o8 (T:TabD) (s:ScD):Bool × TryD:=zL (qV T s).a (s.kept.drop s.took) (uN s)
def d5 (T:TabD) (s:ScD):Bool × ScD:=((o8 T s).1 || s.closed,cY s (o8 T s).2)
def mK (T:TabD) (s:ScD):Int:=if s.rule=-1 then -1 else (qV T s).rules.getD s.rule.toNat 0
def fP (s:ScD):Nat:=if s.rule=-1 then 1 else s.held
def aD3 (T:TabD) (c:Nat) (r:Int):Nat:=if r≠-1∧0≤T.to.getD r.toNat 0 then (T.to.getD r.toNat 0).toNat else c
def qG (T:TabD) (s:ScD):TokD:=⟨mK T s,s.at_,s.at_+fP s⟩
def mN (T:TabD) (s:ScD):ScD:={ s with kept:=s.kept.drop (fP s),at_:=s.at_+fP s,line:=decide (s.kept.getD (fP s - 1) 0=10),cond:=aD3 T s.cond (mK T s),took:=0,held:=0,rule:=-1 }
def aCW (T:TabD) (t:TokD):Bool:=decide (t.rule=-1) || decide ((T.kinds.getD t.rule.toNat .empty).size≠0)
def aJW (T:TabD) (t:TokD):List TokD:=if aCW T t then [t] else []
def iG (T:TabD):Nat→ScD→List TokD × ScD
 | 0,s=>([],s)
 | n+1,s=>if s.kept=[] then ([],s) else if (d5 T s).1=true then (aJW T (qG T (d5 T s).2)++(iG T n (mN T (d5 T s).2)).1,(iG T n (mN T (d5 T s).2)).2) else ([],(d5 T s).2)
theorem tA (T:TabD) (n:Nat) (s:ScD):iG T (n+1) s=if s.kept=[] then ([],s) else if (d5 T s).1=true then (aJW T (qG T (d5 T s).2)++(iG T n (mN T (d5 T s).2)).1,(iG T n (mN T (d5 T s).2)).2) else ([],(d5 T s).2):=rfl
def uQ (s:ScD) (b:List Nat):ScD:={ s with kept:=s.kept++b }
def fV (T:TabD) (s:ScD) (b:List Nat):List TokD × ScD:=iG T (s.kept.length+b.length) (uQ s b)
def aBf (T:TabD) (s:ScD):List TokD × ScD:=iG T s.kept.length { s with closed:=true }
def kY (T:TabD):ScD:=⟨T.entries.map fun e=>aDy e.a,[],0,true,0,0,0,-1,false,0⟩
structure ScOk (T:TabD) (s:ScD):Prop where
 lt:qU s < s.ms.length
 len:s.ms.length=T.entries.length
 took:s.took≤s.kept.length
 held:s.held≤s.took
 none:s.rule=-1→s.held=0
 some:s.rule≠-1→1≤s.held
def aJs (T:TabD):Prop:=∀ c:Nat,∀ r:Int,2*c+1 < T.entries.length→2*aD3 T c r+1 < T.entries.length
section
variable {T:TabD}
theorem aIq (d:AutoD) (t:TryD) (b:Nat):(tk1 d t b).took=t.took+1:=by unfold tk1; split<;>rfl
theorem aFx (d:AutoD) (t:TryD) (b:Nat):(tk1 d t b).steps=t.steps+1:=by unfold tk1; split<;>rfl
structure TryOk (t:TryD):Prop where
 held:t.held≤t.took
 none:t.rule=-1→t.held=0
 some:t.rule≠-1→1≤t.held
theorem aNQ {d:AutoD}{t:TryD} (b:Nat) (h:TryOk t):TryOk (tk0 d t b):=⟨Nat.le_succ_of_le h.held,h.none,h.some⟩
theorem aPn {d:AutoD}{t:TryD} (b:Nat) (h:TryOk t):TryOk (tk1 d t b):=by
 unfold tk1
 split
 ·exact aNQ b h
 ·rename_i hr
  exact⟨Nat.le_refl _,fun e=>absurd e hr,fun _=>Nat.succ_le_succ (Nat.zero_le _)⟩
theorem uW (d:AutoD):∀ (l:List Nat) (t:TryD),TryOk t→TryOk (zL d l t).2∧t.took≤(zL d l t).2.took∧(zL d l t).2.took≤t.took+l.length∧((zL d l t).1=false→(zL d l t).2.took=t.took+l.length)∧(zL d l t).2.steps+t.took=t.steps+(zL d l t).2.took∧(l≠[]→t.took < (zL d l t).2.took)
 | [],t,h=>⟨h,Nat.le_refl _,Nat.le_refl _,fun _=>rfl,rfl,fun e=>absurd rfl e⟩
 | b::r,t,h=>by
  rw[aBh]
  by_cases hb:onM d t.m b=true
  ·rw[if_pos hb]
   obtain⟨h1,h2,h3,h4,h5,h6⟩:=uW d r (tk1 d t b) (aPn b h)
   rw[aIq] at h2 h3 h4 h5
   rw[aFx] at h5
   rw[List.length_cons]
   exact⟨h1,by omega,by omega,fun e=>by rw[h4 e]; omega,by omega,fun _=>by omega⟩
  ·rw[if_neg hb]
   refine⟨aNQ b h,Nat.le_succ _,?_,(fun e=>by cases e),?_,fun _=>Nat.lt_succ_self _⟩
   ·show t.took+1≤t.took+(b::r).length
    rw[List.length_cons]; omega
   ·show t.steps+1+t.took=t.steps+(t.took+1)
    omega
theorem ScOk.tr {s:ScD} (h:ScOk T s):TryOk (uN s):=⟨h.held,h.none,h.some⟩
theorem aKG {s:ScD} (h:ScOk T s):ScOk T (d5 T s).2∧(s.kept≠[]→s.took < s.kept.length→(d5 T s).2.took≠0):=by
 obtain⟨h1,h2,h3,h4,h5,h6⟩:=uW (qV T s).a (s.kept.drop s.took) (uN s) h.tr
 have ht:=h.took
 rw[List.length_drop] at h3
 have e:(uN s).took=s.took:=rfl
 rw[e] at h2 h3 h4 h6
 refine⟨⟨?_,?_,?_,h1.held,h1.none,h1.some⟩,fun hk hlt=>?_⟩
 ·show qU s < (s.ms.set _ _).length
  rw[List.length_set]; exact h.lt
 ·show (s.ms.set _ _).length=_
  rw[List.length_set]; exact h.len
 ·show (o8 T s).2.took≤s.kept.length
  unfold o8
  omega
 ·have:s.kept.drop s.took≠[]:=by
   intro e9
   have:=congrArg List.length e9
   rw[List.length_drop,List.length_nil] at this
   omega
  have:=h6 this
  show (o8 T s).2.took≠0
  unfold o8
  omega
theorem aBM {s:ScD} (h:ScOk T s) (hk:s.kept≠[]):1≤fP s∧fP s≤s.kept.length:=by
 have hl:0 < s.kept.length:=List.length_pos_iff.2 hk
 unfold fP
 split
 ·omega
 ·rename_i hr
  exact⟨h.some hr,Nat.le_trans h.held h.took⟩
end
end V
end Go.Proofs.YtcaccnneblghgaaGreat
namespace Go.Proofs.YtcaccnneblghgaaGreat
namespace V
section
variable {T:TabD}
theorem aMH {s:ScD} (hT:aJs T) (he:2*s.cond+1 < T.entries.length) (h:ScOk T s):ScOk T (mN T s)∧2*(mN T s).cond+1 < T.entries.length:=by
 have h2:=hT s.cond (mK T s) he
 refine⟨⟨?_,h.len,Nat.zero_le _,Nat.le_refl _,fun _=>rfl,fun e=>absurd rfl e⟩,h2⟩
 show 2*aD3 T s.cond (mK T s)+(if decide _=true then 1 else 0) < s.ms.length
 rw[h.len]
 split<;>omega
theorem aDD {s:ScD}:(mN T s).kept.length=s.kept.length - fP s:=List.length_drop
theorem aB9 (n:Nat) {s:ScD} (h:s.kept=[]):iG T n s=([],s):=by
 cases n with
 | zero=>rfl
 | succ n=>rw[tA,if_pos h]
theorem o9 (s:ScD):(d5 T s).2.kept=s.kept:=rfl
theorem set_set {s:ScD} (t u:TryD) (b:List Nat):cY (uQ (cY s t) b) u=cY (uQ s b) u:=by
 show (⟨(s.ms.set (qU s) t.m).set (qU s) u.m,_,_,_,_,_,_,_,_,_⟩:ScD)=_
 rw[List.set_set]; rfl
theorem aK6 (hT:aJs T):∀ (n:Nat) (s:ScD),ScOk T s→2*s.cond+1 < T.entries.length→s.kept.length≤n→ScOk T (iG T n s).2∧2*(iG T n s).2.cond+1 < T.entries.length∧(iG T n s).2.closed=s.closed∧(iG T n s).2.kept.length≤s.kept.length∧(iG T n s).2.at_+(iG T n s).2.kept.length=s.at_+s.kept.length∧((iG T n s).2.kept=[]∨s.closed=false∧(iG T n s).2.took=(iG T n s).2.kept.length)
 | 0,s,h,hc,hn=>⟨h,hc,rfl,Nat.le_refl _,rfl,.inl (List.length_eq_zero_iff.1 (show s.kept.length=0 by omega))⟩
 | n+1,s,h,hc,hn=>by
  by_cases hk:s.kept=[]
  ·rw[aB9 _ hk]
   exact⟨h,hc,rfl,Nat.le_refl _,rfl,.inl hk⟩
  ·obtain⟨e1,_⟩:=aKG h
   rw[tA,if_neg hk]
   by_cases he:(d5 T s).1=true
   ·rw[if_pos he]
    obtain⟨c1,c2⟩:=aMH hT (s:=(d5 T s).2) hc e1
    have hp:=aBM e1 (by rw[o9]; exact hk)
    have hlen:=aDD (T:=T) (s:=(d5 T s).2)
    rw[o9] at hlen hp
    obtain⟨q1,q2,q3,q4,q5,q6⟩:=aK6 hT n _ c1 c2 (by omega)
    have ha:(mN T (d5 T s).2).at_=s.at_+fP (d5 T s).2:=rfl
    refine⟨q1,q2,q3,?_,?_,q6⟩
    ·show (iG T n (mN T (d5 T s).2)).2.kept.length≤_
     omega
    ·show (iG T n (mN T (d5 T s).2)).2.at_+(iG T n (mN T (d5 T s).2)).2.kept.length=_
     omega
   ·rw[if_neg he]
    have hf:(o8 T s).1=false∧s.closed=false:=by
     have:((o8 T s).1 || s.closed)≠true:=he
     cases h1:(o8 T s).1<;>cases h2:s.closed<;>rw[h1,h2] at this<;>simp at this ⊢
    obtain⟨_,_,_,h4,_,_⟩:=uW (qV T s).a (s.kept.drop s.took) (uN s) h.tr
    have htk:(o8 T s).2.took=s.kept.length:=by
     have:=h4 hf.1
     show (zL _ _ _).2.took=_
     rw[this,List.length_drop]
     show s.took+(s.kept.length - s.took)=_
     have:=h.took
     omega
    exact⟨e1,hc,rfl,Nat.le_refl _,rfl,.inr ⟨hf.2,htk⟩⟩
def aPu (s:ScD):Prop:=s.kept=[]∨s.took=s.kept.length
theorem aLh {s:ScD} (h:ScOk T s) (b:List Nat):ScOk T (uQ s b):=⟨h.lt,h.len,by show s.took≤(s.kept++b).length; rw[List.length_append]; have:=h.took; omega,h.held,h.none,h.some⟩
theorem aCz (s:ScD) (b:List Nat):(uQ s b).kept.length=s.kept.length+b.length:=List.length_append
theorem aNk (hT:aJs T) {s:ScD} (h:ScOk T s) (hc:2*s.cond+1 < T.entries.length) (hcl:s.closed=false) (b:List Nat):ScOk T (fV T s b).2∧2*(fV T s b).2.cond+1 < T.entries.length∧(fV T s b).2.closed=false∧aPu (fV T s b).2∧(fV T s b).2.kept.length≤s.kept.length+b.length∧(fV T s b).2.at_+(fV T s b).2.kept.length=s.at_+(s.kept.length+b.length):=by
 obtain⟨q1,q2,q3,q4,q5,q6⟩:=aK6 hT (s.kept.length+b.length) (uQ s b) (aLh h b) hc (by rw[aCz]; exact Nat.le_refl _)
 rw[aCz] at q4 q5
 exact⟨q1,q2,q3.trans hcl,q6.imp_right And.right,q4,q5⟩
theorem aP0 (hT:2≤T.entries.length):ScOk T (kY T)∧2*(kY T).cond+1 < T.entries.length∧(kY T).closed=false∧aPu (kY T):=by
 have e:(kY T).ms.length=T.entries.length:=List.length_map _
 exact⟨⟨by rw[e]; show 1 < _; omega,e,Nat.le_refl _,Nat.le_refl _,fun _=>rfl,fun e=>absurd rfl e⟩,by show 1 < _; omega,rfl,.inl rfl⟩
end
end V
end Go.Proofs.YtcaccnneblghgaaGreat
namespace Go.Proofs.YtcaccnneblghgaaGreat
namespace V
attribute [local irreducible] aB ifP aR cT eQ exP cO
def eC (c:List Nat) (n:Int) (cv sv:Value) (cur:Int) (rv:Value) (steps:Nat):List Value:=eA c n cv sv++[.int .i64 cur,rv,.int .i64 (steps:Int)]
section
variable {c:List Nat}{n cur:Int}{cv sv rv:Value}{steps:Nat}
theorem vC (hc:c.length=256):(eC c n cv sv cur rv steps).length=262:=by simp[eC,cS hc]
theorem aDw {i:Nat} (hc:c.length=256) (hi:i < 259):(eC c n cv sv cur rv steps)[i]?=(eA c n cv sv)[i]?:=by
 unfold eC
 rw[List.getElem?_append_left (by rw[cS hc]; exact hi)]
theorem aDv (i:Nat) (hc:c.length=256):(eC c n cv sv cur rv steps)[i+259]?=[Value.int .i64 cur,rv,.int .i64 (steps:Int)][i]?:=by
 unfold eC
 rw[List.getElem?_append_right (by rw[cS hc]; omega),cS hc,Nat.add_sub_cancel]
theorem aLE (hc:c.length=256):(eC c n cv sv cur rv steps)[257]?=some cv:=by rw[aDw hc (by omega),lF hc]
theorem aBt (hc:c.length=256):(eC c n cv sv cur rv steps)[258]?=some sv:=by rw[aDw hc (by omega),iF hc]
theorem aBu (hc:c.length=256):(eC c n cv sv cur rv steps)[259]?=some (.int .i64 cur):=aDv 0 hc
theorem vB (hc:c.length=256):(eC c n cv sv cur rv steps)[260]?=some rv:=aDv 1 hc
theorem aLF (hc:c.length=256):(eC c n cv sv cur rv steps)[261]?=some (.int .i64 (steps:Int)):=aDv 2 hc
theorem aNw {b:Nat} (hc:c.length=256) (hb:b < 256):(eC c n cv sv cur rv steps)[b]?=some (.int .u8 (c.getD b 0:Nat)):=by
 rw[aDw hc (by omega)]
 unfold eA
 rw[List.getElem?_append_left (by rw[eK hc]; omega),yX (by omega)]
 rw[List.getD_eq_getElem?_getD,List.getElem?_eq_getElem (show b < c.length by omega)]; rfl
theorem aBN (hc:c.length=256) (k:Int):(eC c n cv sv cur rv steps).set 259 (.int .i64 k)=eC c n cv sv k rv steps:=by
 unfold eC
 rw[List.set_append_right _ _ (by rw[cS hc]; omega),cS hc]; rfl
theorem aG4 (hc:c.length=256) (w:Value):(eC c n cv sv cur rv steps).set 260 w=eC c n cv sv cur w steps:=by
 unfold eC
 rw[List.set_append_right _ _ (by rw[cS hc]; omega),cS hc]; rfl
theorem aG5 (hc:c.length=256) (k:Nat):(eC c n cv sv cur rv steps).set 261 (.int .i64 (k:Int))=eC c n cv sv cur rv k:=by
 unfold eC
 rw[List.set_append_right _ _ (by rw[cS hc]; omega),cS hc]; rfl
end
theorem Sl.ixArr {ro:Ro}{h:T Obj}{v:Value}{z:Nat}{cs:List (List Value)} (hl:Sl ro h v z cs) {i:Nat} (hi:i < cs.length) (n w:Nat) (k:IntKind) {j:Int} (h0:0≤j) (h1:j < n):V.ixArr n w (iP z v i) (.int k j)=some (o7 z v i (j.toNat*w)):=by
 have hn:mH (.int k j)=some j.toNat:=by simp[mH,h0]
 have hb:Nat.blt j.toNat n=true:=by simp[Nat.blt]; omega
 rcases hl with ⟨rfl,rfl⟩ | ⟨a,cap,rfl,h2,h3,h4⟩
 ·simp at hi
 ·simp only[V.ixArr,hn,iP,asP,Option.bind,hb,o7,aKD]
def mW (ps:List (Nat × Nat)):List (List Value):=ps.map fun p=>[ptr p.1]
theorem pB (ps:List (Nat × Nat)):(mW ps).length=ps.length:=by simp[mW]
abbrev RgP:=T Obj→Nat→Nat→Nat→List Nat→Nat→Prop
structure RgOk (RR:RgP) (tp ta:TypeId):Prop where
 keep:∀ {h h':T Obj} {p a n w:Nat} {L:List Nat},RR h p a n L w→h'.get p=h.get p→h'.get a=h.get a→RR h' p a n L w
 p:∀ {h:T Obj} {p a n w:Nat} {L:List Nat},RR h p a n L w→∃ c,h.get p=some (.cells c tp)
 a:∀ {h:T Obj} {p a n w:Nat} {L:List Nat},RR h p a n L w→∃ c,h.get a=some (.cells c ta)
 ne:tp≠ta
 L:∀ {h:T Obj} {p a n w:Nat} {L:List Nat},RR h p a n L w→L.Pairwise (fun x y=>y < x)∧(∀ x∈L,1≤x∧x≤n)∧1≤n∧n≤4096
theorem jR:RgOk RI bM dR where
 keep:=fun ⟨put,first,now,gp,ga,hr⟩ h1 h2=>⟨put,first,now,by rw[h1]; exact gp,by rw[h2]; exact ga,hr⟩
 p:=fun ⟨put,first,now,gp,ga,hr⟩=>⟨_,gp⟩
 a:=fun ⟨put,first,now,gp,ga,hr⟩=>⟨_,ga⟩
 ne:=by decide
 L:=fun h=>h.in
def WJ:RgP:=fun h p a n L w=>WI h p a n L w∧L.Pairwise (fun x y=>y < x)∧∀ x∈L,1≤x∧x≤n
theorem aDN:RgOk WJ kS aEh where
 keep:=fun ⟨hw,hr⟩ h1 h2=>⟨⟨by rw[h1]; exact hw.1,by rw[h2]; exact hw.2.1,hw.2.2⟩,hr⟩
 p:=fun ⟨hw,hr⟩=>⟨_,hw.1⟩
 a:=fun ⟨hw,hr⟩=>⟨_,hw.2.1⟩
 ne:=by decide
 L:=fun ⟨hw,hr⟩=>⟨hr.1,hr.2,hw.2.2.2.1,hw.2.2.2.2.1⟩
def RsX (RR:RgP) (h:T Obj) (ps:List (Nat × Nat)) (C:List (Int × Int)) (rs:List RgD):Prop:=ps.length=C.length∧rs.length=C.length∧∀ (i:Nat) p c r,ps[i]?=some p→C[i]?=some c→rs[i]?=some r→RR h p.1 p.2 c.2.toNat r.1 r.2
def Dst (ps:List (Nat × Nat)):Prop:=∀ (i j:Nat) p q,ps[i]?=some p→ps[j]?=some q→i≠j→p.1≠q.1∧p.2≠q.2
section
variable {RR:RgP}{tp ta:TypeId}{h h':T Obj}{ps:List (Nat × Nat)}{C:List (Int × Int)}{rs:List RgD}
theorem RsX.at (hr:RsX RR h ps C rs) {c:Int} (h0:0≤c) (h1:c < C.length):∃ q,ps[c.toNat]?=some q∧RR h q.1 q.2 (oW C c).2.toNat (rI rs c).1 (rI rs c).2:=by
 obtain⟨r1,r2,r3⟩:=hr
 have hi:c.toNat < C.length:=by omega
 have e1:ps[c.toNat]?=some (ps[c.toNat]'(by omega)):=List.getElem?_eq_getElem _
 have e2:C[c.toNat]?=some C[c.toNat]:=List.getElem?_eq_getElem _
 have e3:rs[c.toNat]?=some (rs[c.toNat]'(by omega)):=List.getElem?_eq_getElem _
 refine⟨_,e1,?_⟩
 have:=r3 _ _ _ _ e1 e2 e3
 unfold oW rI
 rw[List.getD_eq_getElem?_getD,List.getD_eq_getElem?_getD,e2,e3]
 exact this
theorem RsX.lt (hk:RgOk RR tp ta) (hr:RsX RR h ps C rs) {nx:Nat} (hf:Fr h nx):∀ q∈ps,q.1 < nx∧q.2 < nx:=fun q hq=>by
 obtain⟨i,hi⟩:=List.getElem?_of_mem hq
 obtain⟨r1,r2,r3⟩:=hr
 have hl:=(List.getElem?_eq_some_iff.1 hi).1
 have:=r3 i q _ _ hi (List.getElem?_eq_getElem (by omega)) (List.getElem?_eq_getElem (by omega))
 obtain⟨c1,h1⟩:=hk.p this
 obtain⟨c2,h2⟩:=hk.a this
 exact⟨hf.lt' h1,hf.lt' h2⟩
theorem RsX.ty (hk:RgOk RR tp ta) (hr:RsX RR h ps C rs):∀ q∈ps,(∃ c,h.get q.1=some (.cells c tp))∧∃ c,h.get q.2=some (.cells c ta):=fun q hq=>by
 obtain⟨i,hi⟩:=List.getElem?_of_mem hq
 obtain⟨r1,r2,r3⟩:=hr
 have hl:=(List.getElem?_eq_some_iff.1 hi).1
 have:=r3 i q _ _ hi (List.getElem?_eq_getElem (by omega)) (List.getElem?_eq_getElem (by omega))
 exact⟨hk.p this,hk.a this⟩
theorem RsX.keep (hk:RgOk RR tp ta) (hr:RsX RR h ps C rs) (hg:∀ q∈ps,h'.get q.1=h.get q.1∧h'.get q.2=h.get q.2):RsX RR h' ps C rs :=
 ⟨hr.1,hr.2.1,fun i p c r h1 h2 h3=>hk.keep (hr.2.2 i p c r h1 h2 h3) (hg p (List.mem_of_getElem? h1)).1 (hg p (List.mem_of_getElem? h1)).2⟩
theorem RsX.sub (hk:RgOk RR tp ta) (hr:RsX RR h ps C rs) (hs:Sub h h'):RsX RR h' ps C rs:=hr.keep hk fun q hq=>by
 obtain⟨⟨c1,h1⟩,c2,h2⟩:=hr.ty hk q hq
 rw[h1,h2,hs _ _ h1,hs _ _ h2]; exact⟨rfl,rfl⟩
theorem RsX.set (hk:RgOk RR tp ta) (hr:RsX RR h ps C rs) (hd:Dst ps) {nx:Nat} (hf:Fr h nx) {i a':Nat}{q:Nat × Nat}{r:RgD}{c:Int × Int} (hq:ps[i]?=some q) (hc:C[i]?=some c) (hn:RR h' q.1 a' c.2.toNat r.1 r.2) (hg:∀ k,k < nx→k≠q.1→k≠q.2→h'.get k=h.get k) :
  RsX RR h' (ps.set i (q.1,a')) C (rs.set i r):=by
 have hlt:=hr.lt hk hf
 have hty:=hr.ty hk
 refine⟨by rw[List.length_set]; exact hr.1,by rw[List.length_set]; exact hr.2.1,fun j p c2 r2 h1 h2 h3=>?_⟩
 by_cases hij:i=j
 ·subst hij
  have hl:=(List.getElem?_eq_some_iff.1 hq).1
  have hl2:i < rs.length:=by have:=hr.1; have:=hr.2.1; omega
  rw[List.getElem?_set_self hl] at h1
  rw[List.getElem?_set_self hl2] at h3
  rw[hc] at h2
  cases h1; cases h2; cases h3
  exact hn
 ·rw[List.getElem?_set_ne hij] at h1
  rw[List.getElem?_set_ne hij] at h3
  have hd2:=hd i j q p hq h1 hij
  have hm:=List.mem_of_getElem? h1
  have hm2:=List.mem_of_getElem? hq
  obtain⟨⟨c3,t1⟩,c4,t2⟩:=hty p hm
  obtain⟨⟨c5,t3⟩,c6,t4⟩:=hty q hm2
  have n1:p.1≠q.2:=fun e=>by rw[e,t4] at t1; simp only[Option.some.injEq,Obj.cells.injEq] at t1; exact hk.ne t1.2.1.symm
  have n2:p.2≠q.1:=fun e=>by rw[e,t3] at t2; simp only[Option.some.injEq,Obj.cells.injEq] at t2; exact hk.ne t2.2.1
  exact hk.keep (hr.2.2 j p c2 r2 h1 h2 h3) (hg _ (hlt p hm).1 (Ne.symm hd2.1) n1) (hg _ (hlt p hm).2 n2 (Ne.symm hd2.2))
theorem Dst.set (hd:Dst ps) {i a':Nat}{q:Nat × Nat} (hq:ps[i]?=some q) (ha:a'=q.2∨∀ p∈ps,p.2 < a'):Dst (ps.set i (q.1,a')):=by
 intro j k p p2 h1 h2 hjk
 have hl:=(List.getElem?_eq_some_iff.1 hq).1
 by_cases hj:i=j
 ·subst hj
  rw[List.getElem?_set_self hl] at h1
  cases h1
  rw[List.getElem?_set_ne hjk] at h2
  have h3:=hd i k q p2 hq h2 hjk
  refine⟨h3.1,?_⟩
  rcases ha with rfl | ha
  ·exact h3.2
  ·have:=ha p2 (List.mem_of_getElem? h2); show a'≠p2.2; omega
 ·rw[List.getElem?_set_ne hj] at h1
  by_cases hk:i=k
  ·subst hk
   rw[List.getElem?_set_self hl] at h2
   cases h2
   have h3:=hd j i p q h1 hq hjk
   refine⟨h3.1,?_⟩
   rcases ha with rfl | ha
   ·exact h3.2
   ·have:=ha p (List.mem_of_getElem? h1); show p.2≠a'; omega
  ·rw[List.getElem?_set_ne hk] at h2
   exact hd j k p p2 h1 h2 hjk
theorem aIk {i:Nat}{q:Nat × Nat} (hq:ps[i]?=some q):ps.set i (q.1,q.2)=ps:=by
 apply List.ext_getElem?
 intro j
 by_cases hj:i=j
 ·subst hj
  rw[List.getElem?_set_self (List.getElem?_eq_some_iff.1 hq).1,hq]
 ·rw[List.getElem?_set_ne hj]
theorem aLT {i a':Nat}{q:Nat × Nat} (hq:ps[i]?=some q):mW (ps.set i (q.1,a'))=mW ps:=by
 unfold mW
 apply List.ext_getElem?
 intro j
 rw[List.getElem?_map,List.getElem?_map]
 by_cases hj:i=j
 ·subst hj
  rw[List.getElem?_set_self (List.getElem?_eq_some_iff.1 hq).1,hq]; rfl
 ·rw[List.getElem?_set_ne hj]
end
def j5 (ps:List (Nat × Nat)):List Nat:=ps.flatMap fun q=>[q.1,q.2]
theorem iS {ps:List (Nat × Nat)}{k:Nat}:k∈j5 ps ↔ ∃ q∈ps,k=q.1∨k=q.2:=by simp[j5]
def MX (RR:RgP) (ty:TypeId) (ro:Ro) (h:T Obj) (X:List Nat) (p:Nat) (ps:List (Nat × Nat)) (d:AutoD) (m:MacD):Prop:=∃ cv sv rv,h.get p=some (.cells (eC d.c d.many cv sv m.cur rv m.steps).toArray ty)∧qN ro (del h X) (eA d.c d.many cv sv) d ∧
 Sl ro (del h X) rv 1 (mW ps)∧RsX RR h ps d.counts m.rs∧Dst ps∧p∈X∧∀ k∈j5 ps,k∈X
abbrev MI:=MX RI bJ
abbrev MW:=MX WJ i3
theorem aMI {h h':T Obj}{X:List Nat} (hs:Sub (del h X) h'):Sub (del h X) (del h' X):=fun k o hk=>by
 have h1:=hk
 rw[jU] at h1
 split at h1
 ·cases h1
 ·rename_i hn; exact j7 (hs k o hk) hn
theorem aNh {h h':T Obj}{X X':List Nat} (hs:Sub (del h X) h') (hx:∀ k∈X',k∈X∨h.get k=none):Sub (del h X) (del h' X'):=fun k o hk=>by
 have h1:=hk
 rw[jU] at h1
 split at h1
 ·cases h1
 ·rename_i hn
  refine j7 (hs k o hk) fun hm=>?_
  rcases hx k hm with h2 | h2
  ·exact hn h2
  ·rw[h2] at h1; cases h1
section
variable {RR:RgP}{tp ta ty:TypeId}{ro:Ro}{h h':T Obj}{X X':List Nat}{p:Nat}{ps:List (Nat × Nat)}{d:AutoD}{m:MacD}
theorem qN.sub {x:List Value} (hd:qN ro h x d) (hs:Sub h h'):qN ro h' x d:=by
 obtain⟨cv,sv,h1,h2,h3,h4,h5,h6⟩:=hd
 exact⟨cv,sv,h1,h2,h3,h4.sub hs fun _ _ h=>h,h5.sub hs (eG.sub hs),h6⟩
theorem MX.keep {ids:List Nat} (hk:RgOk RR tp ta) (hm:MX RR ty ro h X p ps d m) (hs:dM ids h h') (h1:∀ k∈ids,k∈X) (h2:∀ k∈ids,k≠p∧k ∉ j5 ps) (h3:∀ k∈X',k∈X∨h.get k=none) (h4:∀ k∈X,k∈X'):MX RR ty ro h' X' p ps d m:=by
 obtain⟨cv,sv,rv,g1,g2,g3,g4,g5,g6,g7⟩:=hm
 have hD:=hs.del h1 h3
 refine⟨cv,sv,rv,hs p _ g1 fun hp=>(h2 p hp).1 rfl,g2.sub hD,g3.sub hD,g4.keep hk fun q hq=>?_,g5,h4 p g6,fun k hk=>h4 k (g7 k hk)⟩
 obtain⟨⟨c1,t1⟩,c2,t2⟩:=g4.ty hk q hq
 rw[t1,t2,hs _ _ t1 fun hm=>(h2 _ hm).2 (iS.2 ⟨q,hq,.inl rfl⟩),hs _ _ t2 fun hm=>(h2 _ hm).2 (iS.2 ⟨q,hq,.inr rfl⟩)]
 exact⟨rfl,rfl⟩
theorem MX.sub (hk:RgOk RR tp ta) (hm:MX RR ty ro h X p ps d m) (hs:Sub h h') (h3:∀ k∈X',k∈X∨h.get k=none) (h4:∀ k∈X,k∈X'):MX RR ty ro h' X' p ps d m:=hm.keep (ids:=[]) hk hs.keepL (fun k hk=>by cases hk) (fun k hk=>by cases hk) h3 h4
theorem MX.subX (hk:RgOk RR tp ta) (hm:MX RR ty ro h X p ps d m) (hs:Sub h h'):MX RR ty ro h' X p ps d m:=hm.sub hk hs (fun k hk=>.inl hk) fun k hk=>hk
theorem MX.lt (hk:RgOk RR tp ta) (hm:MX RR ty ro h X p ps d m) {nx:Nat} (hf:Fr h nx):p < nx∧∀ k∈j5 ps,k < nx:=by
 obtain⟨cv,sv,rv,g1,g2,g3,g4,g5,g6,g7⟩:=hm
 refine⟨hf.lt' g1,fun k hk2=>?_⟩
 obtain⟨q,hq,h1⟩:=iS.1 hk2
 have:=g4.lt hk hf q hq
 omega
end
end V
end Go.Proofs.YtcaccnneblghgaaGreat
namespace Go.Proofs.YtcaccnneblghgaaGreat
namespace V
attribute [local irreducible] aB ifP aR cT eQ exP cO
theorem qN.parts {ro:Ro}{h:T Obj}{d:AutoD}{cv sv:Value} (hd:qN ro h (eA d.c d.many cv sv) d):d.c.length=256∧(∀ x∈d.c,x < 256)∧SlR ro h cv 2 vM d.counts∧SlR ro h sv 4 (eG ro h) d.states:=by
 obtain⟨cv',sv',h1,h2,h3,h4,h5,h6⟩:=hd
 unfold eA at h1
 have:=List.append_cancel_left h1
 simp only[List.cons.injEq,and_true] at this
 obtain⟨rfl,rfl⟩:=this
 exact⟨h2,h3,h4,h5⟩
theorem Sl.ixI {ro:Ro}{h:T Obj}{v:Value}{z:Nat}{l:List (List Value)} (hl:Sl ro h v z l) (k:IntKind) {i:Int} (h0:0≤i) (hi:i < l.length):cM z v (.int k i)=some (iP z v i.toNat):=by
 have:=hl.ix k (i:=i.toNat) (by omega)
 rwa [Int.toNat_of_nonneg h0] at this
theorem SlR.sl' {D:Type}{ro:Ro}{h:T Obj}{v:Value}{z:Nat}{R:List Value→D→Prop}{l:List D} (hl:SlR ro h v z R l) {i:Nat} (hi:i < l.length) (n w:Nat) (k:IntKind) {j:Int} (h0:0≤j) (h1:j < n):ixArr n w (iP z v i) (.int k j)=some (o7 z v i (j.toNat*w)):=by
 obtain⟨cs,g1,g2,g3⟩:=hl
 exact g1.ixArr (by omega) n w k h0 h1
theorem aBV {ps:List (Nat × Nat)}{i:Nat}{q:Nat × Nat} (hq:ps[i]?=some q):(mW ps)[i]?=some [ptr q.1]:=by simp[mW,hq]
theorem aDC {C:List (Int × Int)}{c:Int} (h0:0≤c) (h1:c < C.length):C[c.toNat]'(by omega)=oW C c:=by
 unfold oW
 rw[List.getD_eq_getElem?_getD,List.getElem?_eq_getElem (by omega)]; rfl
section
variable {ro:Ro}{h:T Obj}{nx:Nat}{X:List Nat}{p:Nat}{ps:List (Nat × Nat)}{d:AutoD}{m:MacD}{K:KV}
theorem aAy (hm:MI ro h X p ps d m) (hK:∀ nx',nx≤nx'→K (.int .i64 m.cur) h nx'):aN Tryz.prog ro jF [ptr p] h nx K:=by
 obtain⟨cv,sv,rv,gp,hA,_⟩:=hm
 have m9:=aBu (n:=d.many) (cv:=cv) (sv:=sv) (cur:=m.cur) (rv:=rv) (steps:=m.steps) hA.parts.1
 apply w8
 unfold sF
 (repeat(first|refine aA (by simp (disch:=first|omega|exact nnN _|assumption) only [BB,B2,↓reduceIte,Nat.reduceLeDiff,Nat.reduceAdd,CC,pY,bC,gp,m9]<;>rfl) ?_|apply aD|apply aE|with_reducible first|apply aG|apply aF|apply aK|apply aH|apply aJ|apply aI|apply aL|apply aC))
 exact⟨h,Sub.refl _,hK _ (by omega)⟩
set_option maxRecDepth 8000 in
theorem aGR {c:Int} (hm:MI ro h X p ps d m) (hc0:0≤c) (hc:c < d.counts.length) (hK:∀ nx',nx≤nx'→K (.int .i64 (aJH d.counts m.rs c:Nat)) h nx'):aN Tryz.prog ro lN [ptr p,.int .i64 c] h nx K:=by
 obtain⟨cv,sv,rv,gp,hA,hP,hR,hD,hpX,hbX⟩:=hm
 obtain⟨hcl,hclt,hcv,hsv⟩:=hA.parts
 have hP:=hP.sub (eF h X)
 have hcv:=hcv.sub (eF h X) fun _ _ h=>h
 have m0:=vB (n:=d.many) (cv:=cv) (sv:=sv) (cur:=m.cur) (rv:=rv) (steps:=m.steps) hcl
 have m7:=aLE (n:=d.many) (cv:=cv) (sv:=sv) (cur:=m.cur) (rv:=rv) (steps:=m.steps) hcl
 obtain⟨q,hq,hri⟩:=hR.at hc0 hc
 have hi:c.toNat < d.counts.length:=by omega
 have hpi:=hP.ixI .i64 hc0 (by rw[pB,hR.1]; exact hc)
 have hp1:=hP.load1 (aBV hq)
 have hci:=hcv.ixI .i64 hc0 hc
 obtain⟨x,hx1,hx2,hx3,hx4,hx5⟩:=hcv.at hi
 rw[aDC hc0 hc] at hx1
 have ha0:V.ixArr 2 1 (iP 2 cv c.toNat) (.int .i64 0)=some (o7 2 cv c.toNat 0):=hcv.sl' hi 2 1 .i64 (j:=0) (by omega) (by omega)
 have ha1:V.ixArr 2 1 (iP 2 cv c.toNat) (.int .i64 1)=some (o7 2 cv c.toNat 1):=hcv.sl' hi 2 1 .i64 (j:=1) (by omega) (by omega)
 obtain rfl:x=[.int .i64 (oW d.counts c).1,.int .i64 (oW d.counts c).2]:=hx1
 have hl0:=hx5 0 _ rfl
 have hl1:=hx5 1 _ rfl
 have hL:=jR.L hri
 apply xA
 unfold sG
 unfold aJH at hK
 generalize (oW d.counts c)=ct at hri hl0 hl1 hL hK
 generalize (rI m.rs c)=r at hri hL hK
 (repeat(first|refine aA (by simp (disch:=first|omega|exact nnN _|assumption) only [BB,B2,↓reduceIte,Nat.reduceLeDiff,Nat.reduceAdd,CC,bC,gp,m0,hpi,hp1]<;>rfl) ?_|apply aD|apply aE|with_reducible first|apply aG|apply aF|apply aK|apply aH|apply aJ|apply aI|apply aL|apply aC))
 refine aJb hri fun n1 hn1=>?_
 refine aA (aPR _) (aA (aPS _) ?_)
 (repeat(first|refine aA (by simp (disch:=first|omega|exact nnN _|assumption) only [BB,B2,↓reduceIte,Nat.reduceLeDiff,Nat.reduceAdd,CC,bC,gp,m0,hpi,hp1]<;>rfl) ?_|apply aD|apply aE|with_reducible first|apply aG|apply aF|apply aK|apply aH|apply aJ|apply aI|apply aL|apply aC))
 refine aJa hri fun n2 hn2=>?_
 refine aA (aPE _) (aA (aPF _) ?_)
 have hend:∀ (k:Nat) n,nx≤n→(if r.1.length=0 then 0 else if ((r.1.getD 0 0:Nat):Int) < ct.1 then 0 else if ((r.1.getD (r.1.length - 1) 0:Nat):Int) < ct.2 then 2 else 1)=k→∃ h',Sub h' h∧K (.int .i64 (k:Int)) h' n:=fun k n hn e=>by
  subst e; exact⟨h,Sub.refl _,hK _ hn⟩
 by_cases h0:r.1.length=0
 ·rw[decide_eq_true h0]
  (repeat(first|refine zzB ?_|apply aD|apply aE|with_reducible first|apply aG|apply aF|apply aK|apply aH|apply aJ|apply aI|apply aL|apply aC))
  exact hend 0 _ (by omega) (by rw[if_pos h0])
 ·rw[decide_eq_false h0]
  have e1:aNn r.1=r.1.getD 0 0:=by unfold aNn; rw[if_neg h0]
  have e2:low r.1=r.1.getD (r.1.length - 1) 0:=by unfold low; rw[if_neg h0]
  rw[e1,e2]
  simp only[if_neg h0] at hend
  (repeat(first|refine aA (by simp (disch:=first|omega|exact nnN _|assumption) only [BB,B2,↓reduceIte,Nat.reduceLeDiff,Nat.reduceAdd,CC,bC,gp,m7,hci,ha0,hl0]<;>rfl) ?_|apply aD|apply aE|with_reducible first|apply aG|apply aF|apply aK|apply aH|apply aJ|apply aI|apply aL|apply aC))
  refine cV (fun h1=>?_) (fun h1=>?_)
  ·(repeat(first|refine zzB ?_|apply aD|apply aE|with_reducible first|apply aG|apply aF|apply aK|apply aH|apply aJ|apply aI|apply aL|apply aC))
   exact hend 0 _ (by omega) (by rw[if_pos h1])
  ·simp only[if_neg (show ¬ ((r.1.getD 0 0:Nat):Int) < ct.1 by omega)] at hend
   (repeat(first|refine aA (by simp (disch:=first|omega|exact nnN _|assumption) only [BB,B2,↓reduceIte,Nat.reduceLeDiff,Nat.reduceAdd,CC,bC,gp,m7,hci,ha1,hl1]<;>rfl) ?_|apply aD|apply aE|with_reducible first|apply aG|apply aF|apply aK|apply aH|apply aJ|apply aI|apply aL|apply aC))
   refine cV (fun h2=>?_) (fun h2=>?_)
   ·(repeat(first|refine zzB ?_|apply aD|apply aE|with_reducible first|apply aG|apply aF|apply aK|apply aH|apply aJ|apply aI|apply aL|apply aC))
    exact hend 2 _ (by omega) (by rw[if_pos h2])
   ·(repeat(first|refine zzB ?_|apply aD|apply aE|with_reducible first|apply aG|apply aF|apply aK|apply aH|apply aJ|apply aI|apply aL|apply aC))
    exact hend 1 _ (by omega) (by rw[if_neg (by omega)])
set_option maxRecDepth 8000 in
theorem aCR {lv rv' uv nv:Value}{R:List Int} (hm:MI ro h X p ps d m) (hf:Fr h nx) (hR3:R.length≤3) (hRl:∀ c∈R,0≤c∧c < d.counts.length) (hr:ZI ro h rv' R) (hK:∀ nx',nx≤nx'→K (.int .i64 (iM d.counts m.rs R:Nat)) h nx'):aN Tryz.prog ro jV [ptr p,.agg #[lv,rv',uv,nv]] h nx K:=by
 apply xT
 unfold tJ
 refine eJ hf (Nat.le_refl _) fun h1 hs1 hf1 g1 _=>?_
 have g1:h1.get nx=some (.cells #[lv,rv',uv,nv] bD):=g1
 have hr:=hr.sub hs1
 have hrl:=hr.len
 have hm1:=hm.subX jR hs1
 have htot:iM d.counts m.rs R≤26:=by
  have h9:=aCM (C:=d.counts) (rs:=m.rs) hR3
  have h10:=aAv (R.length:Int)
  omega
 (repeat(first|refine aA (by simp (disch:=first|omega|exact nnN _|assumption) only [BB,B2,↓reduceIte,Nat.reduceLeDiff,Nat.reduceAdd,CC,g1,hrl]<;>rfl) ?_|apply aD|apply aE|with_reducible first|apply aG|apply aF|apply aK|apply aH|apply aJ|apply aI|apply aL|apply aC))
 generalize hT:iM d.counts m.rs R=tot at hK htot
 refine bE (fun j e h' nx'=>∃ (k n w:Nat),k+j=R.length∧nx≤nx'∧h'=h1∧e 0=ptr p∧e 5=.int .i64 (n:Int)∧e 6=.int .i64 (w:Int)∧e 10=rv'∧e 11=.int .i64 R.length∧e 12=.int .i64 k∧n+w*iM d.counts m.rs (R.drop k)=tot∧(k=0∧w=1∨k=1∧w=3∨k=2∧w=9∨k=3∧w=27)) ?_ (n:=R.length) ⟨0,0,1,by omega,by omega,rfl,rfl,rfl,rfl,rfl,rfl,rfl,by rw[List.drop_zero,hT]; omega,by omega⟩
 rintro j e h' nx' ⟨k,n,w,hj,hnx,rfl,e0,e5,e6,e10,e11,e12,ht,hw⟩ Q' hq hx
 unfold pU
 rw[e0,e5,e6,e10,e11,e12]
 refine cV (fun hk=>?_) (fun hk=>?_)
 ·have hk:k < R.length:=by omega
  rw[bX hk] at ht
  have hcm:=hRl _ (List.getElem_mem hk)
  (repeat(first|refine zzB ?_|apply aD|apply aE|with_reducible first|apply aG|apply aF|apply aK|apply aH|apply aJ|apply aI|apply aL|apply aC))
  refine aA (hr.ix _ hk) (aA (hr.load hk) ?_)
  generalize R[k]=c at ht hcm
  refine aGR hm1 hcm.1 hcm.2 fun n2 hn2=>?_
  change n+w*(aJH d.counts m.rs c+3*iM d.counts m.rs (R.drop (k+1)))=tot at ht
  have hdl:=aKC d.counts m.rs c
  generalize aJH d.counts m.rs c=g at ht hdl
  have hw27:w≤27:=by omega
  have hwg:w*g≤54:=Nat.mul_le_mul hw27 (show g≤2 by omega)
  have hmul:aO .mul (.int .i64 (w:Int)) (.int .i64 (g:Int))=some (.int .i64 ((w*g:Nat):Int)):=by
   rw[dQ,← Int.natCast_mul,fB (by omega) (by omega)]
  rw[Nat.mul_add,← Nat.mul_assoc] at ht
  have hadd:aO .add (.int .i64 (n:Int)) (.int .i64 ((w*g:Nat):Int))=some (.int .i64 ((n+w*g:Nat):Int)):=by
   rw[dK,← Int.natCast_add,fB (by omega) (by omega)]
  have hmul3:aO .mul (.int .i64 (w:Int)) (.int .i64 3)=some (.int .i64 ((w*3:Nat):Int)):=by
   rw[dQ,fB (by omega) (by omega)]; simp
  refine aA hmul (aA hadd (aA hmul3 ?_))
  (repeat(first|refine zzB ?_|apply aD|apply aE|with_reducible first|apply aG|apply aF|apply aK|apply aH|apply aJ|apply aI|apply aL|apply aC))
  exact hq (j - 1) _ _ _ _ (by omega) ⟨k+1,n+w*g,w*3,by omega,by omega,rfl,e0,rfl,rfl,e10,e11,rfl,by omega,by omega⟩ (Sub.refl _)
 ·(repeat(first|refine zzB ?_|apply aD|apply aE|with_reducible first|apply aG|apply aF|apply aK|apply aH|apply aJ|apply aI|apply aL|apply aC))
  refine hx _ _ _ _ (fun e=>by cases e) (eD (cQ ?_))
  unfold lI
  rw[gJ (by omega)] at ht
  have ht:n+w*0=tot:=ht
  have f5:∀ (e':Env) n',e' 5=.int .i64 (n:Int)→nx≤n'→∃ h2,Sub h2 h'∧K (e' 5) h2 n':=fun e' n' h5 hn=>by
   rw[h5]
   exact⟨h,hs1,ki hK (by omega) hn⟩
  exact f5 _ _ e5 (by omega)
set_option maxRecDepth 8000 in
theorem aHe (hm:MI ro h X p ps d m) (ha:fH d=true) (ho:MOk d m) (hf:Fr h nx) (hK:∀ nx',nx≤nx'→K (.int .i64 (qP d m)) h nx'):aN Tryz.prog ro mP [ptr p] h nx K:=by
 apply xR
 unfold tH
 refine aAy hm fun n1 hn1=>?_
 unfold qP at hK
 by_cases hc:m.cur=-1
 ·rw[if_pos hc] at hK
  refine aKJ hc ?_
  (repeat(first|refine zzB ?_|apply aD|apply aE|with_reducible first|apply aG|apply aF|apply aK|apply aH|apply aJ|apply aI|apply aL|apply aC))
  exact⟨h,Sub.refl _,hK _ (by omega)⟩
 ·rw[if_neg hc] at hK
  have hst:=aFu ha ho hc
  obtain⟨cv,sv,rv,gp,hA,hP,hR,hD,hpX,hbX⟩:=id hm
  obtain⟨hcl,hclt,hcv,hsv⟩:=hA.parts
  have hsv:=hsv.sub (eF h X) (eG.sub (eF h X))
  have m8:=aBt (n:=d.many) (cv:=cv) (sv:=sv) (cur:=m.cur) (rv:=rv) (steps:=m.steps) hcl
  have m9:=aBu (n:=d.many) (cv:=cv) (sv:=sv) (cur:=m.cur) (rv:=rv) (steps:=m.steps) hcl
  have hcur:0≤m.cur∧m.cur < d.states.length:=by rcases ho.1 with h | h<;>omega
  have hi:m.cur.toNat < d.states.length:=by omega
  have hs:d.states[m.cur.toNat]=gH d m:=by unfold gH; rw[List.getD_eq_getElem?_getD,List.getElem?_eq_getElem hi]; rfl
  have hsi:=hsv.ixI .i64 hcur.1 hcur.2
  obtain⟨x,⟨lv,rv',uv,nv,rfl,y1,y2,y3,y4,y5⟩,hx2,hx3,hx4,hx5⟩:=hsv.at hi
  rw[hs] at y1 y2 y3 y4 y5
  generalize gH d m=s at hst y1 y2 y3 y4 y5 hK
  refine aKI hc ?_
  (repeat(first|refine aA (by simp (disch:=first|omega|exact nnN _|assumption) only [BB,B2,↓reduceIte,Nat.reduceLeDiff,Nat.reduceAdd,CC,bC,gp,m8,m9,hsi,hx3]<;>rfl) ?_|apply aD|apply aE|with_reducible first|apply aG|apply aF|apply aK|apply aH|apply aJ|apply aI|apply aL|apply aC))
  refine kA (x:=[lv,rv',uv,nv]) rQ rfl rfl rfl (by simp[y1.ok,y2.ok,y3.ok,SlR.okC y4]) hf (by omega) fun h2 hs2 hf2 g2 _=>?_
  (repeat(first|refine aA (by simp (disch:=first|omega|exact nnN _|assumption) only [BB,B2,↓reduceIte,Nat.reduceLeDiff,Nat.reduceAdd,CC,g2]<;>rfl) ?_|apply aD|apply aE|with_reducible first|apply aG|apply aF|apply aK|apply aH|apply aJ|apply aI|apply aL|apply aC))
  refine aCR (hm.subX jR hs2) (hf2.mono (by omega)) hst.r3 hst.rl (y2.sub hs2) fun n3 hn3=>?_
  refine⟨fT g2 g2,?_⟩
  have hkr:=hst.kr
  have y3:=y3.sub hs2
  refine aA (y3.ix _ hkr) (aA (y3.load hkr) ?_)
  refine⟨h,hs2,?_⟩
  rw[List.getD_eq_getElem?_getD,List.getElem?_eq_getElem hkr] at hK
  exact hK _ (by omega)
end
end V
end Go.Proofs.YtcaccnneblghgaaGreat