/- Texts laid one behind the other: XB, XF, XS, XQ, XK, GE, XR, XA.
   No condition. -/
import Derived.Test.YtcaccnneblghgaaGreatRows
import Derived.OpenShut
import Derived.ChangeMaps5
import Derived.KernelRfl
import Derived.Test.YtcaccnneblghgaaGreatQ13
set_option linter.unusedVariables false
set_option linter.unusedSimpArgs false
namespace Go.Proofs.YtcaccnneblghgaaGreat
namespace V
attribute [local irreducible] aA ifP aS cM eQ exP cO
def oP (m i:Nat):Nat:=m / 2 ^ (64*i) % 2 ^ 64
theorem aKe (m i:Nat):oP m i < 18446744073709551616:=by unfold oP; exact Nat.mod_lt _ (by decide)
theorem oN (m i j:Nat):(oP m i).testBit j=(decide (j < 64)&&m.testBit (64*i+j)):=by
 unfold oP
 rw [Nat.testBit_mod_two_pow,Nat.testBit_div_two_pow,Nat.add_comm]
theorem aN3 (m b:Nat):(oP m (b / 64) / 2 ^ (b % 64) % 2=1) ↔ m.testBit b=true:=by
 have h:=oN m (b / 64) (b % 64)
 rw [Nat.testBit_eq_decide_div_mod_eq] at h
 have h1:b % 64 < 64:=Nat.mod_lt _ (by decide)
 rw [Nat.div_add_mod] at h
 simp only [h1,decide_true,Bool.true_and] at h
 rw [← h]; simp
section
variable {α β:Type} [DecidableEq α] [DecidableEq β]
def aQV (s:List α) (p:α):List α:=if p∈s then s else s++[p]
def dd (l:List α):List α:=l.foldl aQV []
def pos (s:List α) (p:α):Nat:=s.idxOf p
def ix (l:List α) (p:α):Nat:=pos (dd l) p
end
@[irreducible] def bs:List Nat:=List.range 256
def sig (l:List Nat) (b:Nat):List Bool:=l.map fun s=>s.testBit b
def aRC (l:List Nat):List (List Bool):=bs.map (sig l)
def many (l:List Nat):Nat:=(dd (aRC l)).length
def mI (m:Nat):List Value:=[.int .u64 (oP m 0),.int .u64 (oP m 1),.int .u64 (oP m 2),.int .u64 (oP m 3)]
def aBe (m:Nat):Value:=.agg #[.int .u64 (oP m 0),.int .u64 (oP m 1),.int .u64 (oP m 2),.int .u64 (oP m 3)]
theorem gE (m:Nat):Value.cells (aBe m)=(mI m).toArray:=rfl
theorem aIo {m i:Nat} (hi:i < 4):(mI m)[i]?=some (.int .u64 (oP m i)):=by
 match i,hi with
 | 0,_=>rfl
 | 1,_=>rfl
 | 2,_=>rfl
 | 3,_=>rfl
theorem aKF {q:Nat} (h:q < 18446744073709551616):(q:Int)≤18446744073709551615:=by omega
theorem aCf {ro:Ro} {m b:Nat} (hb:b < 256) {h:T Obj} {nx:Nat} {K:KV} (hf:Fr h nx) (hK:∀ nx',nx≤nx'→K (.bool (m.testBit b)) h nx'):aN Tryz.prog ro tA [aBe m,.int .u8 b] h nx K:=by
 apply aGw
 unfold aCG
 have h1:((b:Int) / 64).toNat=b / 64:=by omega
 have h2:((b:Int) % 64).toNat=b % 64:=by omega
 have h3:=aKe m (b / 64)
 have h4:b / 64 < 4:=by omega
 have h5:=aIo (m:=m) h4
 have h6:oP m (b / 64) / 2 ^ (b % 64)≤oP m (b / 64):=Nat.div_le_self _ _
 have h7:((oP m (b / 64) / 2 ^ (b % 64):Nat):Int)≤18446744073709551615:=aKF (Nat.lt_of_le_of_lt h6 h3)
 simp (disch:=first | omega | exact Int.natCast_nonneg _ | assumption) only [d7,gE,bS,dJ,dK,bO,aT,iO,fH,fL,dM,cI,T.get_upd_same,bE,Option.bind,h1,h2,Nat.zero_add,Nat.mul_one,h5]
 refine ⟨h,(Sub.refl h).new hf (Nat.le_refl _),?_⟩
 have e:(decide ((((oP m (b / 64) / 2 ^ (b % 64):Nat):Int) % 2)=1))=m.testBit b:=by
  have h9:=aN3 m b
  cases hm:m.testBit b with
  | true=>rw [hm] at h9; have:=h9.2 rfl; apply decide_eq_true; omega
  | false =>
   rw [hm] at h9
   have:¬ (oP m (b / 64) / 2 ^ (b % 64) % 2=1):=fun e=>by have:=h9.1 e; cases this
   apply decide_eq_false; omega
 rw [e]
 exact hK _ (by omega)
structure PosD where
 s:Nat
 lo:Int
 hi:Int
 rule:Int
 last:Bool
 next:List Int
structure GlD where
 first:List Int
 p:List PosD
def rz (last many:Int):List Int→Bool
 | []=>true
 | x::r=>decide (last < x)&&(decide (x < many)&&rz x many r)
def aPx:PosD:=⟨0,0,0,0,false,[]⟩
def GlD.at (g:GlD) (i:Int):PosD:=g.p.getD i.toNat aPx
theorem aDK (a m x:Int) (r:List Int):rz a m (x::r)=(decide (a < x)&&(decide (x < m)&&rz x m r)):=rfl
theorem aJn:∀ {l:List Int} {a m:Int},rz a m l=true→∀ x∈l,a < x∧x < m
 | [],a,m,h,x,hx=>by cases hx
 | y::r,a,m,h,x,hx=>by
  simp only [rz,Bool.and_eq_true,decide_eq_true_eq] at h
  rcases List.mem_cons.1 hx with rfl | hx
  ·exact ⟨h.1,h.2.1⟩
  ·have:=aJn h.2.2 x hx; omega
def aRA (p:PosD) (nv:Value):List Value:=mI p.s++[.int .i64 p.lo,.int .i64 p.hi,.int .i64 p.rule,.bool p.last,nv]
def aLk (ro:Ro) (h:T Obj) (x:List Value) (p:PosD):Prop:=∃ nv,x=aRA p nv∧ZI ro h nv p.next∧p.s < 2 ^ 256
theorem aLk.sub {ro:Ro} {h h':T Obj} (hs:Sub h h'):∀ x d,aLk ro h x d→aLk ro h' x d:=fun x d ⟨nv,h1,h2,h3⟩=>⟨nv,h1,h2.sub hs,h3⟩
def RG (ro:Ro) (h:T Obj) (v:Value) (g:GlD):Prop:=∃ a b,v=.agg #[a,b]∧ZI ro h a g.first∧SlR ro h b 9 (aLk ro h) g.p
theorem RG.sub {ro:Ro} {h h':T Obj} {v:Value} {g:GlD} (hs:Sub h h') (hg:RG ro h v g):RG ro h' v g:=by
 obtain ⟨a,b,h1,h2,h3⟩:=hg
 exact ⟨a,b,h1,h2.sub hs,h3.sub hs (aLk.sub hs)⟩
def oU {D:Type} (q:D→Bool) (k:Int):List D→Int
 | []=>-1
 | x::r=>if q x then k else oU q (k+1) r
theorem mS {D:Type} (q:D→Bool) (k:Int) (x:D) (r:List D):oU q k (x::r)=if q x then k else oU q (k+1) r:=rfl
theorem zR {D:Type} (q:D→Bool):∀ (l:List D) (k:Int),0≤k→decide (0≤oU q k l)=l.any q
 | [],k,hk=>rfl
 | x::r,k,hk=>by
  rw [mS,List.any_cons]
  by_cases h:q x=true
  ·rw [if_pos h,h]; simp [hk]
  ·rw [if_neg h,zR q r (k+1) (by omega)]; simp [h]
theorem aGL {D:Type} (q:D→Bool) (l:List D):(!(l.any fun x=>!q x))=l.all q:=by
 induction l with
 | nil=>rfl
 | cons x r ih=>rw [List.any_cons,List.all_cons,Bool.not_or,ih,Bool.not_not]
def u8s (l:List Nat):List Value:=l.map fun b:Nat=>Value.int .u8 (b:Int)
theorem zY (l:List Nat):(u8s l).length=l.length:=by simp [u8s]
def eU (c:List Nat) (n:Int):List Value:=u8s c++[.int .i64 n]
def mB (c:List Nat) (n:Int):Value:=.agg (eU c n).toArray
theorem lR (c:List Nat) (n:Int):(mB c n).cells=(eU c n).toArray:=rfl
theorem dZ {c:List Nat} {n:Int} (hc:c.length=256):(eU c n).length=257:=by simp [eU,zY,hc]
theorem aJu (c:List Nat) (n:Int):(eU c n).all cP=true:=by simp [eU,u8s,cP]
theorem zD {c:List Nat} {n:Int} {i:Nat} (hi:i < c.length):(eU c n)[i]?=some (.int .u8 (c[i]:Nat)):=by
 unfold eU
 rw [List.getElem?_append_left (by rw [zY]; exact hi)]
 simp [u8s,hi]
theorem rE {c:List Nat} {n:Int} (hc:c.length=256):(eU c n)[256]?=some (.int .i64 n):=by
 unfold eU
 rw [List.getElem?_append_right (by rw [zY]; omega)]
 simp [zY,hc]
theorem aMb {ro:Ro} {h:T Obj} {id z n:Nat} {c:List Nat} {m:Int} {e:TypeId} {f:Nat × Nat} (hg:h.get id=some (.cells (eU c m).toArray e f)) (hc:c.length=256):loadA ro h 256 (at_ id 0 z)=some (.agg (u8s c).toArray):=by
 rw [bZ,hg,bE]
 simp only [Option.bind_some,tl]
 rw [if_pos (by rw [dZ hc]; omega),List.drop_zero]
 unfold eU
 rw [List.take_append_of_le_length (by rw [zY]; omega),List.take_of_length_le (by rw [zY]; omega)]
theorem aMX {c:List Nat} {i:Nat} (k:IntKind) (hi:i < c.length) (hc:c.length=256):aNp 256 1 (.agg (u8s c).toArray) (.int k (i:Int))=some (.int .u8 (c[i]:Nat)):=by
 have hn:lO (.int k (i:Int))=some i:=by simp [lO]
 have hb:Nat.blt i 256=true:=by simp [Nat.blt]; omega
 unfold aNp
 rw [hn]
 simp only [Option.bind_some,asAgg,hb,Nat.mul_one,List.getElem?_toArray]
 simp [u8s,hi]
def rt (c:List Nat):Nat→Option Nat
 | 0=>some 0
 | i+1=>(rt c i).bind fun m=>if m < c.getD i 0 then none else if c.getD i 0=m then some (m+1) else some m
def oD (c:List Nat) (n:Int):Bool:=match rt c 256 with
 | some m=>decide ((m:Int)=n)
 | none=>false
theorem aK8 {c:List Nat}:∀ {i m:Nat},rt c i=some m→m≤i
 | 0,m,h=>by cases h; exact Nat.le_refl _
 | i+1,m,h=>by
  obtain ⟨m0,h1,h2⟩:=aM h
  have:=aK8 h1
  split at h2
  ·cases h2
  ·split at h2<;>cases h2<;>omega
theorem aK9 {c:List Nat} {i:Nat} (h:rt c i=none):∀ j,i≤j→rt c j=none:=by
 intro j hj
 induction hj with
 | refl=>exact h
 | step _ ih=>simp only [rt,ih,Option.bind]
set_option maxRecDepth 4000 in
theorem aF5 {ro:Ro} {c:List Nat} {n:Int} (hc:c.length=256) (hcl:∀ x∈c,x < 256) {h:T Obj} {nx:Nat} {K:KV} (hf:Fr h nx) (hK:∀ nx',nx≤nx'→K (.bool (oD c n)) h nx'):aN Tryz.prog ro tU [mB c n] h nx K:=by
 apply aEc
 unfold zE
 refine aD ?_
 (repeat(first|refine aB (by simp (disch:=first|omega|exact nnN _|assumption) only [BB,B2,↓reduceIte,Nat.reduceLeDiff,Nat.reduceAdd,aT,aU,aY,aX,aW,aV]<;>rfl) ?_|refine aD ?_|refine aE ?_|with_reducible first|refine aG ?_|refine aF ?_|refine aK ?_|refine aH ?_|refine aJ ?_|refine aI ?_|refine aL ?_|refine aC ?_))
 refine aB (aMb (n:=0) (c:=c) (m:=n) (e:=dC) (f:=(0,0)) (by simp (disch:=first | omega | exact Int.natCast_nonneg _ | assumption) only [BB,B2,↓reduceIte,Nat.reduceLeDiff,Nat.reduceAdd,aT,aU,aY,aX,aW,aV,lR]) hc) ?_
 refine bC (fun j e h' nx'=>∃ (i m:Nat),i+j=256∧nx+1≤nx'∧e 1=ptr nx∧e 3=.int .i64 m∧e 7=.agg (u8s c).toArray∧e 8=.int .i64 i∧Sub h h'∧Fr h' nx' ∧
  h'.get nx=some (.cells (eU c n).toArray dC)∧rt c i=some m) ?_ (n:=256) ⟨0,0,by omega,by omega,rfl,rfl,rfl,rfl,?_,?_,?_,rfl⟩
 ·rintro j e h' nx' ⟨i,m,hij,hnx,e1,e3,e7,e8,hs,hf',g0,hr⟩ Q' hq hx
  have hm:=aK8 hr
  unfold zF
  rw [e3,e7,e8]
  (repeat(first|refine aB (by simp (disch:=first|omega|exact nnN _|assumption) only [BB,B2,↓reduceIte,Nat.reduceLeDiff,Nat.reduceAdd,aT,aU,aY,aX,aW,aV]<;>rfl) ?_|refine aD ?_|refine aE ?_|with_reducible first|refine aG ?_|refine aF ?_|refine aK ?_|refine aH ?_|refine aJ ?_|refine aI ?_|refine aL ?_|refine aC ?_))
  by_cases hi:i < 256
  ·refine hY (by simp; omega) ?_
   have hic:i < c.length:=by omega
   refine aB (aMX _ hic hc) ?_
   have hci:=hcl _ (List.getElem_mem hic)
   have hgd:c.getD i 0=c[i]:=by rw [List.getD_eq_getElem?_getD,List.getElem?_eq_getElem hic]; rfl
   have hrs:rt c (i+1)=if m < c[i] then none else if c[i]=m then some (m+1) else some m:=by simp only [rt,hr,Option.bind_some,hgd]
   (repeat(first|refine aB (by simp (disch:=first|omega|exact nnN _|assumption) only [BB,B2,↓reduceIte,Nat.reduceLeDiff,Nat.reduceAdd,aT,aU,aY,aX,aW,aV]<;>rfl) ?_|refine aD ?_|refine aE ?_|with_reducible first|refine aG ?_|refine aF ?_|refine aK ?_|refine aH ?_|refine aJ ?_|refine aI ?_|refine aL ?_|refine aC ?_))
   by_cases h1:m < c[i]
   ·refine hY (by simp; omega) ?_
    refine hx _ _ _ _ (fun e=>by cases e) (eL ?_)
    refine ⟨h,hs,?_⟩
    have hn:rt c 256=none:=aK9 (i:=i+1) (by rw [hrs,if_pos h1]) 256 (by omega)
    have:=hK (nx'+9) (by omega)
    unfold oD at this
    rw [hn] at this
    exact this
   ·refine hU (by simp; omega) ?_
    rw [if_neg h1] at hrs
    (repeat(first|refine aB (by simp (disch:=first|omega|exact nnN _|assumption) only [BB,B2,↓reduceIte,Nat.reduceLeDiff,Nat.reduceAdd,aT,aU,aY,aX,aW,aV]<;>rfl) ?_|refine aD ?_|refine aE ?_|with_reducible first|refine aG ?_|refine aF ?_|refine aK ?_|refine aH ?_|refine aJ ?_|refine aI ?_|refine aL ?_|refine aC ?_))
    have hj2:∀ (e:Env) (n2 m':Nat),nx'≤n2→e 1=ptr nx→e 3=.int .i64 m'→e 7=.agg (u8s c).toArray→e 8=.int .i64 i→rt c (i+1)=some m'→oL ro Q' e h' n2:=by
     intro e n2 m' hn2 e1 e3 e7 e8 hr'
     unfold oL
     rw [e8]
     (repeat(first|refine aB (by simp (disch:=first|omega|exact nnN _|assumption) only [BB,B2,↓reduceIte,Nat.reduceLeDiff,Nat.reduceAdd,aT,aU,aY,aX,aW,aV]<;>rfl) ?_|refine aD ?_|refine aE ?_|with_reducible first|refine aG ?_|refine aF ?_|refine aK ?_|refine aH ?_|refine aJ ?_|refine aI ?_|refine aL ?_|refine aC ?_))
     exact hq (j - 1) _ _ _ _ (by omega) ⟨i+1,m',by omega,by omega,e1,e3,e7,rfl,hs,hf'.mono (by omega),g0,hr'⟩ (Sub.refl _)
    by_cases h2:c[i]=m
    ·refine hY (by simp; omega) ?_
     (repeat(first|refine aB (by simp (disch:=first|omega|exact nnN _|assumption) only [BB,B2,↓reduceIte,Nat.reduceLeDiff,Nat.reduceAdd,aT,aU,aY,aX,aW,aV]<;>rfl) ?_|refine aD ?_|refine aE ?_|with_reducible first|refine aG ?_|refine aF ?_|refine aK ?_|refine aH ?_|refine aJ ?_|refine aI ?_|refine aL ?_|refine aC ?_))
     rw [if_pos h2] at hrs
     exact hj2 _ _ (m+1) (by omega) e1 rfl e7 e8 hrs
    ·refine hU (by simp; omega) ?_
     rw [if_neg h2] at hrs
     exact hj2 _ _ m (by omega) e1 e3 e7 e8 hrs
  ·refine hU (by simp; omega) ?_
   refine hx _ _ _ _ (fun e=>by cases e) (eB (dA ?_))
   have hi2:i=256:=by omega
   subst hi2
   unfold sZ
   have f1:∀ a,Env.put e 9 a 1=ptr nx:=fun a=>e1
   have f3:∀ a,Env.put e 9 a 3=.int .i64 m:=fun a=>e3
   simp only [puts,f1,f3]
   have hg:=rE (n:=n) hc
   (repeat(first|refine aB (by simp (disch:=first|omega|exact nnN _|assumption) only [BB,B2,↓reduceIte,Nat.reduceLeDiff,Nat.reduceAdd,aT,aU,aY,aX,aW,aV,g0,hg]<;>rfl) ?_|refine aD ?_|refine aE ?_|with_reducible first|refine aG ?_|refine aF ?_|refine aK ?_|refine aH ?_|refine aJ ?_|refine aI ?_|refine aL ?_|refine aC ?_))
   refine ⟨h,hs,?_⟩
   have:=hK (nx'+1+5) (by omega)
   unfold oD at this
   rw [hr] at this
   exact this
 ·exact (Sub.refl h).new hf (Nat.le_refl _)
 ·exact hf.upd (m:=nx+6) (by omega) (by omega)
 ·simp (disch:=first | omega | exact Int.natCast_nonneg _ | assumption) only [BB,B2,↓reduceIte,Nat.reduceLeDiff,Nat.reduceAdd,aT,aU,aY,aX,aW,aV,lR]
set_option maxRecDepth 4000 in
theorem aFR {ro:Ro} {c:List Nat} {n:Int} (hc:c.length=256) (hcl:∀ x∈c,x < 256) {h:T Obj} {nx:Nat} {K:KV} (hf:Fr h nx) (hK:∀ nx',nx≤nx'→K (.bool (oD c n)) h nx'):aN Tryz.prog ro tO [mB c n] h nx K:=by
 apply aEK
 unfold yE
 refine aD ?_
 refine bC (fun j e h' nx'=>∃ (i m:Nat),i+j=256∧nx+1≤nx'∧e 1=ptr nx∧e 3=.int .i64 m∧e 4=.int .i64 i∧Sub h h'∧Fr h' nx' ∧
  h'.get nx=some (.cells (eU c n).toArray dC)∧rt c i=some m) ?_ (n:=256) ⟨0,0,by omega,by omega,rfl,rfl,rfl,?_,?_,?_,rfl⟩
 ·rintro j e h' nx' ⟨i,m,hij,hnx,e1,e3,e4,hs,hf',g0,hr⟩ Q' hq hx
  have hm:=aK8 hr
  unfold yF
  rw [e1,e3,e4]
  (repeat(first|refine aB (by simp (disch:=first|omega|exact nnN _|assumption) only [BB,B2,↓reduceIte,Nat.reduceLeDiff,Nat.reduceAdd,aT,aU,aY,aX,aW,aV]<;>rfl) ?_|refine aD ?_|refine aE ?_|with_reducible first|refine aG ?_|refine aF ?_|refine aK ?_|refine aH ?_|refine aJ ?_|refine aI ?_|refine aL ?_|refine aC ?_))
  by_cases hi:i < 256
  ·refine hY (by simp; omega) ?_
   have hic:i < c.length:=by omega
   have hci:=hcl _ (List.getElem_mem hic)
   have hg:=zD (n:=n) hic
   have hgd:c.getD i 0=c[i]:=by rw [List.getD_eq_getElem?_getD,List.getElem?_eq_getElem hic]; rfl
   have hrs:rt c (i+1)=if m < c[i] then none else if c[i]=m then some (m+1) else some m:=by simp only [rt,hr,Option.bind_some,hgd]
   (repeat(first|refine aB (by simp (disch:=first|omega|exact nnN _|assumption) only [BB,B2,↓reduceIte,Nat.reduceLeDiff,Nat.reduceAdd,aT,aU,aY,aX,aW,aV,g0,hg]<;>rfl) ?_|refine aD ?_|refine aE ?_|with_reducible first|refine aG ?_|refine aF ?_|refine aK ?_|refine aH ?_|refine aJ ?_|refine aI ?_|refine aL ?_|refine aC ?_))
   by_cases h1:m < c[i]
   ·refine hY (by simp; omega) ?_
    refine hx _ _ _ _ (fun e=>by cases e) (eL ?_)
    refine ⟨h,hs,?_⟩
    have hn:rt c 256=none:=aK9 (i:=i+1) (by rw [hrs,if_pos h1]) 256 (by omega)
    have:=hK (nx'+10) (by omega)
    unfold oD at this
    rw [hn] at this
    exact this
   ·refine hU (by simp; omega) ?_
    rw [if_neg h1] at hrs
    (repeat(first|refine aB (by simp (disch:=first|omega|exact nnN _|assumption) only [BB,B2,↓reduceIte,Nat.reduceLeDiff,Nat.reduceAdd,aT,aU,aY,aX,aW,aV,g0,hg]<;>rfl) ?_|refine aD ?_|refine aE ?_|with_reducible first|refine aG ?_|refine aF ?_|refine aK ?_|refine aH ?_|refine aJ ?_|refine aI ?_|refine aL ?_|refine aC ?_))
    have hj2:∀ (e:Env) (n2 m':Nat),nx'≤n2→e 1=ptr nx→e 3=.int .i64 m'→e 4=.int .i64 i→rt c (i+1)=some m'→nY ro Q' e h' n2:=by
     intro e n2 m' hn2 e1 e3 e4 hr'
     unfold nY
     rw [e4]
     (repeat(first|refine aB (by simp (disch:=first|omega|exact nnN _|assumption) only [BB,B2,↓reduceIte,Nat.reduceLeDiff,Nat.reduceAdd,aT,aU,aY,aX,aW,aV]<;>rfl) ?_|refine aD ?_|refine aE ?_|with_reducible first|refine aG ?_|refine aF ?_|refine aK ?_|refine aH ?_|refine aJ ?_|refine aI ?_|refine aL ?_|refine aC ?_))
     exact hq (j - 1) _ _ _ _ (by omega) ⟨i+1,m',by omega,by omega,e1,e3,rfl,hs,hf'.mono (by omega),g0,hr'⟩ (Sub.refl _)
    by_cases h2:c[i]=m
    ·refine hY (by simp; omega) ?_
     (repeat(first|refine aB (by simp (disch:=first|omega|exact nnN _|assumption) only [BB,B2,↓reduceIte,Nat.reduceLeDiff,Nat.reduceAdd,aT,aU,aY,aX,aW,aV]<;>rfl) ?_|refine aD ?_|refine aE ?_|with_reducible first|refine aG ?_|refine aF ?_|refine aK ?_|refine aH ?_|refine aJ ?_|refine aI ?_|refine aL ?_|refine aC ?_))
     rw [if_pos h2] at hrs
     exact hj2 _ _ (m+1) (by omega) e1 rfl e4 hrs
    ·refine hU (by simp; omega) ?_
     rw [if_neg h2] at hrs
     exact hj2 _ _ m (by omega) e1 e3 e4 hrs
  ·refine hU (by simp; omega) ?_
   refine hx _ _ _ _ (fun e=>by cases e) (eB (dA ?_))
   have hi2:i=256:=by omega
   subst hi2
   unfold sP
   have f1:∀ a b,Env.put (Env.put e 5 a) 6 b 1=ptr nx:=fun a b=>e1
   have f3:∀ a b,Env.put (Env.put e 5 a) 6 b 3=.int .i64 m:=fun a b=>e3
   simp only [puts,f1,f3]
   have hg:=rE (n:=n) hc
   (repeat(first|refine aB (by simp (disch:=first|omega|exact nnN _|assumption) only [BB,B2,↓reduceIte,Nat.reduceLeDiff,Nat.reduceAdd,aT,aU,aY,aX,aW,aV,g0,hg]<;>rfl) ?_|refine aD ?_|refine aE ?_|with_reducible first|refine aG ?_|refine aF ?_|refine aK ?_|refine aH ?_|refine aJ ?_|refine aI ?_|refine aL ?_|refine aC ?_))
   refine ⟨h,hs,?_⟩
   have:=hK (nx'+2+5) (by omega)
   unfold oD at this
   rw [hr] at this
   exact this
 ·exact (Sub.refl h).new hf (Nat.le_refl _)
 ·exact hf.upd (m:=nx+4) (by omega) (by omega)
 ·simp (disch:=first | omega | exact Int.natCast_nonneg _ | assumption) only [BB,B2,↓reduceIte,Nat.reduceLeDiff,Nat.reduceAdd,aT,aU,aY,aX,aW,aV,lR]
def jJ (m:Int):Int:=if m=0 then 1 else if m=1 then 3 else if m=2 then 9 else if m=3 then 27 else 0
theorem aH8 {m p:Int} (h:m=0∧p=1∨m=1∧p=3∨m=2∧p=9∨m=3∧p=27):jJ m=p:=by
 unfold jJ
 rcases h with ⟨h,rfl⟩ | ⟨h,rfl⟩ | ⟨h,rfl⟩ | ⟨h,rfl⟩<;>subst h<;>rfl
theorem uJ {m:Int} (h:m < 0∨3 < m):jJ m=0:=by
 unfold jJ
 rw [if_neg (by omega),if_neg (by omega),if_neg (by omega),if_neg (by omega)]
theorem aBJ (m:Int):0≤jJ m∧jJ m≤27:=by
 unfold jJ
 repeat' split
 all_goals omega
theorem aBo {m:Int} (h:jJ m≠0):0≤m∧m≤3:=by
 rcases Int.lt_or_le m 0 with h1 | h1
 ·exact absurd (uJ (.inl h1)) h
 ·rcases Int.lt_or_le 3 m with h2 | h2
  ·exact absurd (uJ (.inr h2)) h
  ·exact ⟨h1,h2⟩
set_option maxRecDepth 4000 in
theorem aGO {ro:Ro} {m:Int} {h:T Obj} {nx:Nat} {K:KV} (hK:∀ nx',nx≤nx'→K (.int .i64 (jJ m)) h nx'):aN Tryz.prog ro vI [.int .i64 m] h nx K:=by
 apply aEu
 unfold aA5
 refine dF (fun h1=>?_) (fun h1=>?_)
 ·(repeat(first|refine aB (by simp (disch:=first|omega|exact nnN _|assumption) only [BB,B2,↓reduceIte,Nat.reduceLeDiff,Nat.reduceAdd,CC]<;>rfl) ?_|refine aD ?_|refine aE ?_|with_reducible first|refine aG ?_|refine aF ?_|refine aK ?_|refine aH ?_|refine aJ ?_|refine aI ?_|refine aL ?_|refine aC ?_))
  exact ⟨_,Sub.refl _,ki hK (uJ (.inl h1)) (by omega)⟩
 ·(repeat(first|refine aB (by simp (disch:=first|omega|exact nnN _|assumption) only [BB,B2,↓reduceIte,Nat.reduceLeDiff,Nat.reduceAdd,CC]<;>rfl) ?_|refine aD ?_|refine aE ?_|with_reducible first|refine aG ?_|refine aF ?_|refine aK ?_|refine aH ?_|refine aJ ?_|refine aI ?_|refine aL ?_|refine aC ?_))
  refine kY (fun h2=>?_) (fun h2=>?_)
  ·(repeat(first|refine aB (by simp (disch:=first|omega|exact nnN _|assumption) only [BB,B2,↓reduceIte,Nat.reduceLeDiff,Nat.reduceAdd,CC]<;>rfl) ?_|refine aD ?_|refine aE ?_|with_reducible first|refine aG ?_|refine aF ?_|refine aK ?_|refine aH ?_|refine aJ ?_|refine aI ?_|refine aL ?_|refine aC ?_))
   exact ⟨_,Sub.refl _,ki hK (uJ (.inr h2)) (by omega)⟩
  ·(repeat(first|refine aB (by simp (disch:=first|omega|exact nnN _|assumption) only [BB,B2,↓reduceIte,Nat.reduceLeDiff,Nat.reduceAdd,CC]<;>rfl) ?_|refine aD ?_|refine aE ?_|with_reducible first|refine aG ?_|refine aF ?_|refine aK ?_|refine aH ?_|refine aJ ?_|refine aI ?_|refine aL ?_|refine aC ?_))
   refine bC (fun j e h' nx'=>∃ (k:Nat) (p:Int),(k:Int)+j=m∧nx≤nx'∧h'=h∧e 3=.int .i64 p∧e 10=.int .i64 m∧e 11=.int .i64 k∧(k=0∧p=1∨k=1∧p=3∨k=2∧p=9∨k=3∧p=27)) ?_ (n:=m.toNat) ⟨0,1,by omega,by omega,rfl,rfl,rfl,rfl,by omega⟩
   rintro j e h' nx' ⟨k,p,hj,hnx,rfl,e3,e10,e11,hp⟩ Q' hq hx
   unfold aAF
   rw [e3,e10,e11]
   refine dF (fun hk=>?_) (fun hk=>?_)
   ·(repeat(first|refine aB (by simp (disch:=first|omega|exact nnN _|assumption) only [BB,B2,↓reduceIte,Nat.reduceLeDiff,Nat.reduceAdd,CC]<;>rfl) ?_|refine aD ?_|refine aE ?_|with_reducible first|refine aG ?_|refine aF ?_|refine aK ?_|refine aH ?_|refine aJ ?_|refine aI ?_|refine aL ?_|refine aC ?_))
    exact hq (j - 1) _ _ _ _ (by omega) ⟨k+1,p*3,by omega,by omega,rfl,rfl,e10,rfl,by omega⟩ (Sub.refl _)
   ·(repeat(first|refine aB (by simp (disch:=first|omega|exact nnN _|assumption) only [BB,B2,↓reduceIte,Nat.reduceLeDiff,Nat.reduceAdd,CC]<;>rfl) ?_|refine aD ?_|refine aE ?_|with_reducible first|refine aG ?_|refine aF ?_|refine aK ?_|refine aH ?_|refine aJ ?_|refine aI ?_|refine aL ?_|refine aC ?_))
    refine hx _ _ _ _ (fun e=>by cases e) (eB (dA ?_))
    unfold tH
    have f3:∀ (e':Env) n,e' 3=.int .i64 p→nx≤n→∃ h13,Sub h13 h'∧K (e' 3) h13 n:=fun e' n h3 hn=>by
     rw [h3]
     exact ⟨_,Sub.refl _,ki hK (aH8 (by omega)) hn⟩
    exact f3 _ _ e3 (by omega)
set_option maxRecDepth 4000 in
theorem aFV {ro:Ro} {m:Int} {h:T Obj} {nx:Nat} {K:KV} (hK:∀ nx',nx≤nx'→K (.int .i64 (jJ m)) h nx'):aN Tryz.prog ro tQ [.int .i64 m] h nx K:=by
 apply aEP
 unfold yH
 refine dF (fun h1=>?_) (fun h1=>?_)
 ·(repeat(first|refine aB (by simp (disch:=first|omega|exact nnN _|assumption) only [BB,B2,↓reduceIte,Nat.reduceLeDiff,Nat.reduceAdd,CC]<;>rfl) ?_|refine aD ?_|refine aE ?_|with_reducible first|refine aG ?_|refine aF ?_|refine aK ?_|refine aH ?_|refine aJ ?_|refine aI ?_|refine aL ?_|refine aC ?_))
  exact ⟨_,Sub.refl _,ki hK (uJ (.inl h1)) (by omega)⟩
 ·(repeat(first|refine aB (by simp (disch:=first|omega|exact nnN _|assumption) only [BB,B2,↓reduceIte,Nat.reduceLeDiff,Nat.reduceAdd,CC]<;>rfl) ?_|refine aD ?_|refine aE ?_|with_reducible first|refine aG ?_|refine aF ?_|refine aK ?_|refine aH ?_|refine aJ ?_|refine aI ?_|refine aL ?_|refine aC ?_))
  refine kY (fun h2=>?_) (fun h2=>?_)
  ·(repeat(first|refine aB (by simp (disch:=first|omega|exact nnN _|assumption) only [BB,B2,↓reduceIte,Nat.reduceLeDiff,Nat.reduceAdd,CC]<;>rfl) ?_|refine aD ?_|refine aE ?_|with_reducible first|refine aG ?_|refine aF ?_|refine aK ?_|refine aH ?_|refine aJ ?_|refine aI ?_|refine aL ?_|refine aC ?_))
   exact ⟨_,Sub.refl _,ki hK (uJ (.inr h2)) (by omega)⟩
  ·(repeat(first|refine aB (by simp (disch:=first|omega|exact nnN _|assumption) only [BB,B2,↓reduceIte,Nat.reduceLeDiff,Nat.reduceAdd,CC]<;>rfl) ?_|refine aD ?_|refine aE ?_|with_reducible first|refine aG ?_|refine aF ?_|refine aK ?_|refine aH ?_|refine aJ ?_|refine aI ?_|refine aL ?_|refine aC ?_))
   refine bC (fun j e h' nx'=>∃ (k:Nat) (p:Int),(k:Int)+j=m∧nx≤nx'∧h'=h∧e 3=.int .i64 p∧e 0=.int .i64 m∧e 4=.int .i64 k∧(k=0∧p=1∨k=1∧p=3∨k=2∧p=9∨k=3∧p=27)) ?_ (n:=m.toNat) ⟨0,1,by omega,by omega,rfl,rfl,rfl,rfl,by omega⟩
   rintro j e h' nx' ⟨k,p,hj,hnx,rfl,e3,e10,e11,hp⟩ Q' hq hx
   unfold yI
   rw [e3,e10,e11]
   refine dF (fun hk=>?_) (fun hk=>?_)
   ·(repeat(first|refine aB (by simp (disch:=first|omega|exact nnN _|assumption) only [BB,B2,↓reduceIte,Nat.reduceLeDiff,Nat.reduceAdd,CC]<;>rfl) ?_|refine aD ?_|refine aE ?_|with_reducible first|refine aG ?_|refine aF ?_|refine aK ?_|refine aH ?_|refine aJ ?_|refine aI ?_|refine aL ?_|refine aC ?_))
    exact hq (j - 1) _ _ _ _ (by omega) ⟨k+1,p*3,by omega,by omega,rfl,rfl,e10,rfl,by omega⟩ (Sub.refl _)
   ·(repeat(first|refine aB (by simp (disch:=first|omega|exact nnN _|assumption) only [BB,B2,↓reduceIte,Nat.reduceLeDiff,Nat.reduceAdd,CC]<;>rfl) ?_|refine aD ?_|refine aE ?_|with_reducible first|refine aG ?_|refine aF ?_|refine aK ?_|refine aH ?_|refine aJ ?_|refine aI ?_|refine aL ?_|refine aC ?_))
    refine hx _ _ _ _ (fun e=>by cases e) (eB (dA ?_))
    unfold sQ
    have f3:∀ (e':Env) n,e' 3=.int .i64 p→nx≤n→∃ h13,Sub h13 h'∧K (e' 3) h13 n:=fun e' n h3 hn=>by
     rw [h3]
     exact ⟨_,Sub.refl _,ki hK (aH8 (by omega)) hn⟩
    exact f3 _ _ e3 (by omega)
structure MoveD where
 to:Int
 ops:List Nat
structure StateD where
 l:List Int
 r:List Int
 rule:List Int
 next:List (List MoveD)
structure AutoD where
 c:List Nat
 many:Int
 counts:List (Int × Int)
 states:List StateD
def noS:StateD:=⟨[],[],[],[]⟩
def aGo (R:List Int) (o:Nat) (r:Int):Bool:=decide (1≤o)&&(decide (o≤3)&&(decide (o=3) || R.contains r))
def x9 (R:List Int):List Nat→List Int→Bool
 | o::os,r::rs=>aGo R o r&&x9 R os rs
 | _,_=>true
def gT (S:List StateD) (R:List Int) (m:MoveD):Bool :=
 if m.to=-1 then decide (m.ops.length=0) else decide (1≤m.to)&&(decide (m.to < S.length)&&(decide (m.ops.length=(S.getD m.to.toNat noS).r.length)&&x9 R m.ops (S.getD m.to.toNat noS).r))
def mF:Nat:=9223372036854775807
def RU8 (x:List Value) (d:Nat):Prop:=x=[.int .u8 (d:Int)]∧d < 256
def xC (ro:Ro) (h:T Obj) (x:List Value) (d:MoveD):Prop:=∃ ov,x=[.int .i64 d.to,ov]∧SlR ro h ov 1 RU8 d.ops∧d.ops.length≤mF
def rN (ro:Ro) (h:T Obj) (x:List Value) (d:List MoveD):Prop:=∃ w,x=[w]∧SlR ro h w 2 (xC ro h) d∧d.length≤mF
def dX (ro:Ro) (h:T Obj) (x:List Value) (d:StateD):Prop:=∃ lv rv uv nv,x=[lv,rv,uv,nv]∧ZI ro h lv d.l∧ZI ro h rv d.r∧ZI ro h uv d.rule∧SlR ro h nv 1 (rN ro h) d.next∧d.r.length≤mF
def vB (x:List Value) (d:Int × Int):Prop:=x=[.int .i64 d.1,.int .i64 d.2]
theorem xC.sub {ro:Ro} {h h':T Obj} (hs:Sub h h'):∀ x d,xC ro h x d→xC ro h' x d:=fun x d ⟨ov,h1,h2,h3⟩=>⟨ov,h1,h2.sub hs fun _ _ h=>h,h3⟩
theorem rN.sub {ro:Ro} {h h':T Obj} (hs:Sub h h'):∀ x d,rN ro h x d→rN ro h' x d:=fun x d ⟨ov,h1,h2,h3⟩=>⟨ov,h1,h2.sub hs (xC.sub hs),h3⟩
theorem dX.sub {ro:Ro} {h h':T Obj} (hs:Sub h h'):∀ x d,dX ro h x d→dX ro h' x d:=fun x d ⟨lv,rv,uv,nv,h1,h2,h3,h4,h5,h6⟩=>⟨lv,rv,uv,nv,h1,h2.sub hs,h3.sub hs,h4.sub hs,h5.sub hs (rN.sub hs),h6⟩
def dQ (c:List Nat) (n:Int) (cv sv:Value):List Value:=eU c n++[cv,sv]
section
variable {c:List Nat} {n:Int} {cv sv:Value}
theorem cK (hc:c.length=256):(dQ c n cv sv).length=259:=by simp [dQ,dZ hc]
theorem aFb (hc:c.length=256):(dQ c n cv sv)[256]?=some (.int .i64 n):=by
 unfold dQ
 rw [List.getElem?_append_left (by rw [dZ hc]; omega)]
 exact rE hc
theorem kS (hc:c.length=256):(dQ c n cv sv)[257]?=some cv:=by
 unfold dQ
 rw [List.getElem?_append_right (by rw [dZ hc]; omega),dZ hc]; rfl
theorem gY (hc:c.length=256):(dQ c n cv sv)[258]?=some sv:=by
 unfold dQ
 rw [List.getElem?_append_right (by rw [dZ hc]; omega),dZ hc]; rfl
theorem aDD (h1:cP cv=true) (h2:cP sv=true):(dQ c n cv sv).all cP=true:=by
 unfold dQ
 rw [List.all_append,aJu,Bool.true_and]
 simp [h1,h2]
theorem aMe {ro:Ro} {h:T Obj} {id z:Nat} {e:TypeId} {f:Nat × Nat} (hg:h.get id=some (.cells (dQ c n cv sv).toArray e f)) (hc:c.length=256):loadA ro h 257 (at_ id 0 z)=some (mB c n):=by
 rw [bZ,hg,bE]
 simp only [Option.bind_some,tl]
 rw [if_pos (by rw [cK hc]; omega),List.drop_zero]
 unfold dQ
 rw [List.take_append_of_le_length (by rw [dZ hc]; omega),List.take_of_length_le (by rw [dZ hc]; omega)]
 rfl
end
def qI (ro:Ro) (h:T Obj) (x:List Value) (d:AutoD):Prop:=∃ cv sv,x=dQ d.c d.many cv sv∧d.c.length=256∧(∀ x∈d.c,x < 256)∧SlR ro h cv 2 vB d.counts∧SlR ro h sv 4 (dX ro h) d.states∧d.counts.length≤mF∧d.states.length≤mF
theorem aAm (R:List Int) (o:Nat) (os:List Nat) (r:Int) (rs:List Int):x9 R (o::os) (r::rs)=(aGo R o r&&x9 R os rs):=rfl
theorem aFu (R:List Int) (rs:List Int):x9 R [] rs=true:=by cases rs<;>rfl
set_option maxRecDepth 4000 in
theorem aBE {ro:Ro} {v:Value} {l:List Int} {many:Int} (hm:many≤1000000) {h:T Obj} {nx:Nat} {K:KV} (hv:ZI ro h v l) (hK:∀ nx',nx≤nx'→K (.bool (rz (-1) many l)) h nx'):aN Tryz.prog ro qT [v,.int .i64 many] h nx K:=by
 apply aEy
 unfold aA7
 generalize hR:rz (-1) many l=R at hK
 refine aB hv.len ?_
 refine bC (fun j e h' nx'=>∃ (k:Nat) (last:Int),k+j=l.length∧nx≤nx'∧h'=h∧e 1=.int .i64 many∧e 5=.int .i64 last∧e 8=v∧e 9=.int .i64 l.length∧e 10=.int .i64 k∧(k:Int)≤last+1∧rz last many (l.drop k)=R) ?_ (n:=l.length) ⟨0,-1,by omega,by omega,rfl,rfl,rfl,rfl,rfl,rfl,by omega,hR⟩
 rintro j e h' nx' ⟨k,last,hj,hnx,rfl,e1,e5,e8,e9,e10,hk1,hr⟩ Q' hq hx
 unfold aAG
 rw [e1,e5,e8,e9,e10]
 (repeat(first|refine aB (by simp (disch:=first|omega|exact nnN _|assumption) only [BB,B2,↓reduceIte,Nat.reduceLeDiff,Nat.reduceAdd,aT,aU,aY,aX,aW,aV]<;>rfl) ?_|refine aD ?_|refine aE ?_|with_reducible first|refine aG ?_|refine aF ?_|refine aK ?_|refine aH ?_|refine aJ ?_|refine aI ?_|refine aL ?_|refine aC ?_))
 refine aNg (fun hk=>?_) (fun hk=>?_)
 ·have hk:k < l.length:=by omega
  rw [bT hk,aDK] at hr
  refine aB (hv.ix _ hk) (aB (hv.load hk) ?_)
  generalize l[k]=x at hr
  (repeat(first|refine aB (by simp (disch:=first|omega|exact nnN _|assumption) only [BB,B2,↓reduceIte,Nat.reduceLeDiff,Nat.reduceAdd,aT,aU,aY,aX,aW,aV]<;>rfl) ?_|refine aD ?_|refine aE ?_|with_reducible first|refine aG ?_|refine aF ?_|refine aK ?_|refine aH ?_|refine aJ ?_|refine aI ?_|refine aL ?_|refine aC ?_))
  by_cases h1:x≤last
  ·rw [decide_eq_true h1]
   (repeat(first|refine aB (by simp (disch:=first|omega|exact nnN _|assumption) only [BB,B2,↓reduceIte,Nat.reduceLeDiff,Nat.reduceAdd,aT,aU,aY,aX,aW,aV]<;>rfl) ?_|refine aD ?_|refine aE ?_|with_reducible first|refine aG ?_|refine aF ?_|refine aK ?_|refine aH ?_|refine aJ ?_|refine aI ?_|refine aL ?_|refine aC ?_))
   refine hx _ _ _ _ (fun e=>by cases e) (eL ?_)
   refine ⟨_,Sub.refl _,kb hK ?_ (by omega)⟩
   rw [← hr,decide_eq_false (by omega)]; rfl
  ·rw [decide_eq_false h1]
   (repeat(first|refine aB (by simp (disch:=first|omega|exact nnN _|assumption) only [BB,B2,↓reduceIte,Nat.reduceLeDiff,Nat.reduceAdd,aT,aU,aY,aX,aW,aV]<;>rfl) ?_|refine aD ?_|refine aE ?_|with_reducible first|refine aG ?_|refine aF ?_|refine aK ?_|refine aH ?_|refine aJ ?_|refine aI ?_|refine aL ?_|refine aC ?_))
   by_cases h2:many≤x
   ·rw [decide_eq_true h2]
    (repeat(first|refine aB (by simp (disch:=first|omega|exact nnN _|assumption) only [BB,B2,↓reduceIte,Nat.reduceLeDiff,Nat.reduceAdd,aT,aU,aY,aX,aW,aV]<;>rfl) ?_|refine aD ?_|refine aE ?_|with_reducible first|refine aG ?_|refine aF ?_|refine aK ?_|refine aH ?_|refine aJ ?_|refine aI ?_|refine aL ?_|refine aC ?_))
    refine hx _ _ _ _ (fun e=>by cases e) (eL ?_)
    refine ⟨_,Sub.refl _,kb hK ?_ (by omega)⟩
    rw [← hr,decide_eq_false (show ¬ x < many by omega)]; simp
   ·rw [decide_eq_false h2]
    (repeat(first|refine aB (by simp (disch:=first|omega|exact nnN _|assumption) only [BB,B2,↓reduceIte,Nat.reduceLeDiff,Nat.reduceAdd,aT,aU,aY,aX,aW,aV]<;>rfl) ?_|refine aD ?_|refine aE ?_|with_reducible first|refine aG ?_|refine aF ?_|refine aK ?_|refine aH ?_|refine aJ ?_|refine aI ?_|refine aL ?_|refine aC ?_))
    refine hq (j - 1) _ _ _ _ (by omega) ⟨k+1,x,by omega,by omega,rfl,e1,rfl,e8,e9,rfl,by omega,?_⟩ (Sub.refl _)
    rw [← hr,decide_eq_true (show last < x by omega),decide_eq_true (show x < many by omega)]; rfl
 ·refine hx _ _ _ _ (fun e=>by cases e) (eB (dA ?_))
  unfold tJ
  rw [gB (by omega)] at hr
  exact ⟨_,Sub.refl _,kb hK hr.symm (by omega)⟩
set_option maxRecDepth 4000 in
theorem aAW {ro:Ro} {v:Value} {l:List Int} {many:Int} (hm:many≤1000000) {h:T Obj} {nx:Nat} {K:KV} (hv:ZI ro h v l) (hK:∀ nx',nx≤nx'→K (.bool (rz (-1) many l)) h nx'):aN Tryz.prog ro o9 [v,.int .i64 many] h nx K:=by
 apply aEU
 unfold yN
 generalize hR:rz (-1) many l=R at hK
 refine bC (fun j e h' nx'=>∃ (k:Nat) (last:Int),k+j=l.length∧nx≤nx'∧h'=h∧e 0=v∧e 1=.int .i64 many∧e 5=.int .i64 k∧(k:Int)≤last+1∧last≤1000000∧(k=0→last=-1)∧(∀ q,q+1=k→l[q]?=some last)∧rz last many (l.drop k)=R) ?_ (n:=l.length) ⟨0,-1,by omega,by omega,rfl,rfl,rfl,rfl,by omega,by omega,fun _=>rfl,fun q hq=>by omega,hR⟩
 rintro j e h' nx' ⟨k,last,hj,hnx,rfl,e0,e1,e5,hk1,hk2,hk0,hkp,hr⟩ Q' hq hx
 unfold yO
 rw [e0,e1,e5]
 refine aB hv.len ?_
 refine dF (fun hk=>?_) (fun hk=>?_)
 ·have hk:k < l.length:=by omega
  have hxk:l[k]?=some l[k]:=List.getElem?_eq_getElem hk
  rw [bT hk,aDK] at hr
  (repeat(first|refine aB (by simp (disch:=first|omega|exact nnN _|assumption) only [BB,B2,↓reduceIte,Nat.reduceLeDiff,Nat.reduceAdd,CC]<;>rfl) ?_|refine aD ?_|refine aE ?_|with_reducible first|refine aG ?_|refine aF ?_|refine aK ?_|refine aH ?_|refine aJ ?_|refine aI ?_|refine aL ?_|refine aC ?_))
  refine aB (hv.ix _ hk) (aB (hv.load hk) ?_)
  generalize l[k]=x at hr hxk
  have hfin:∀ (e':Env) n,e' 4=.bool false→(¬ last < x∨¬ x < many)→nx≤n→Q' .ret e' h' n:=fun e' n h4 hc hn=>by
   refine hx _ _ _ _ (fun e=>by cases e) (eL ?_)
   rw [h4]
   refine ⟨_,Sub.refl _,kb hK ?_ hn⟩
   rw [← hr]
   rcases hc with hc | hc
   ·rw [decide_eq_false hc]; rfl
   ·rw [decide_eq_false hc]; simp
  have hok:∀ (e':Env) n,e' 0=v→e' 1=.int .i64 many→e' 5=.int .i64 ((k:Int)+1)→last < x→x < many→nx≤n→Q' .normal e' h' n:=fun e' n g0 g1 g5 hc1 hc2 hn=>by
   refine hq (j - 1) _ _ _ _ (by omega) ⟨k+1,x,by omega,hn,rfl,g0,g1,g5,by omega,by omega,fun h=>by omega,fun q hq=>?_,?_⟩ (Sub.refl _)
   ·have:q=k:=by omega
    subst this; exact hxk
   ·rw [← hr,decide_eq_true hc1,decide_eq_true hc2]; rfl
  (first | refine dF (fun hb=>?_) (fun hb=>?_) | refine aDs (fun hb=>?_) (fun hb=>?_) | refine kY (fun hb=>?_) (fun hb=>?_) | refine uN (fun hb=>?_) (fun hb=>?_) | refine rX (fun hb=>?_) (fun hb=>?_) | refine pN (fun hb=>?_) (fun hb=>?_))
  ·(repeat(first|refine aB (by simp (disch:=first|omega|exact nnN _|assumption) only [BB,B2,↓reduceIte,Nat.reduceLeDiff,Nat.reduceAdd,CC]<;>rfl) ?_|refine aD ?_|refine aE ?_|with_reducible first|refine aG ?_|refine aF ?_|refine aK ?_|refine aH ?_|refine aJ ?_|refine aI ?_|refine aL ?_|refine aC ?_))
   exact hfin _ _ rfl (.inl (by omega)) (by omega)
  ·(repeat(first|refine aB (by simp (disch:=first|omega|exact nnN _|assumption) only [BB,B2,↓reduceIte,Nat.reduceLeDiff,Nat.reduceAdd,CC]<;>rfl) ?_|refine aD ?_|refine aE ?_|with_reducible first|refine aG ?_|refine aF ?_|refine aK ?_|refine aH ?_|refine aJ ?_|refine aI ?_|refine aL ?_|refine aC ?_))
   refine aB (hv.ix _ hk) ?_
   (repeat(first|refine aB (by simp (disch:=first|omega|exact nnN _|assumption) only [BB,B2,↓reduceIte,Nat.reduceLeDiff,Nat.reduceAdd,CC]<;>rfl) ?_|refine aD ?_|refine aE ?_|with_reducible first|refine aG ?_|refine aF ?_|refine aK ?_|refine aH ?_|refine aJ ?_|refine aI ?_|refine aL ?_|refine aC ?_))
   refine aB (hv.load' hxk) ?_
   (repeat(first|refine aB (by simp (disch:=first|omega|exact nnN _|assumption) only [BB,B2,↓reduceIte,Nat.reduceLeDiff,Nat.reduceAdd,CC]<;>rfl) ?_|refine aD ?_|refine aE ?_|with_reducible first|refine aG ?_|refine aF ?_|refine aK ?_|refine aH ?_|refine aJ ?_|refine aI ?_|refine aL ?_|refine aC ?_))
   (first | refine dF (fun hb=>?_) (fun hb=>?_) | refine aDs (fun hb=>?_) (fun hb=>?_) | refine kY (fun hb=>?_) (fun hb=>?_) | refine uN (fun hb=>?_) (fun hb=>?_) | refine rX (fun hb=>?_) (fun hb=>?_) | refine pN (fun hb=>?_) (fun hb=>?_))
   ·(repeat(first|refine aB (by simp (disch:=first|omega|exact nnN _|assumption) only [BB,B2,↓reduceIte,Nat.reduceLeDiff,Nat.reduceAdd,CC]<;>rfl) ?_|refine aD ?_|refine aE ?_|with_reducible first|refine aG ?_|refine aF ?_|refine aK ?_|refine aH ?_|refine aJ ?_|refine aI ?_|refine aL ?_|refine aC ?_))
    exact hfin _ _ rfl (.inr (by omega)) (by omega)
   ·(repeat(first|refine aB (by simp (disch:=first|omega|exact nnN _|assumption) only [BB,B2,↓reduceIte,Nat.reduceLeDiff,Nat.reduceAdd,CC]<;>rfl) ?_|refine aD ?_|refine aE ?_|with_reducible first|refine aG ?_|refine aF ?_|refine aK ?_|refine aH ?_|refine aJ ?_|refine aI ?_|refine aL ?_|refine aC ?_))
    (first | refine dF (fun hb=>?_) (fun hb=>?_) | refine aDs (fun hb=>?_) (fun hb=>?_) | refine kY (fun hb=>?_) (fun hb=>?_) | refine uN (fun hb=>?_) (fun hb=>?_) | refine rX (fun hb=>?_) (fun hb=>?_) | refine pN (fun hb=>?_) (fun hb=>?_))
    ·have h2:=hkp (k - 1) (by omega)
     have h3:=(List.getElem?_eq_some_iff.1 h2).1
     have h4:((k:Int) - 1).toNat=k - 1:=by omega
     (repeat(first|refine aB (by simp (disch:=first|omega|exact nnN _|assumption) only [BB,B2,↓reduceIte,Nat.reduceLeDiff,Nat.reduceAdd,CC]<;>rfl) ?_|refine aD ?_|refine aE ?_|with_reducible first|refine aG ?_|refine aF ?_|refine aK ?_|refine aH ?_|refine aJ ?_|refine aI ?_|refine aL ?_|refine aC ?_))
     refine aB (hv.ixI _ (by omega) (by omega)) ?_
     rw [h4]
     (repeat(first|refine aB (by simp (disch:=first|omega|exact nnN _|assumption) only [BB,B2,↓reduceIte,Nat.reduceLeDiff,Nat.reduceAdd,CC]<;>rfl) ?_|refine aD ?_|refine aE ?_|with_reducible first|refine aG ?_|refine aF ?_|refine aK ?_|refine aH ?_|refine aJ ?_|refine aI ?_|refine aL ?_|refine aC ?_))
     refine aB (hv.load' h2) ?_
     (repeat(first|refine aB (by simp (disch:=first|omega|exact nnN _|assumption) only [BB,B2,↓reduceIte,Nat.reduceLeDiff,Nat.reduceAdd,CC]<;>rfl) ?_|refine aD ?_|refine aE ?_|with_reducible first|refine aG ?_|refine aF ?_|refine aK ?_|refine aH ?_|refine aJ ?_|refine aI ?_|refine aL ?_|refine aC ?_))
     refine aB (hv.ix _ hk) ?_
     (repeat(first|refine aB (by simp (disch:=first|omega|exact nnN _|assumption) only [BB,B2,↓reduceIte,Nat.reduceLeDiff,Nat.reduceAdd,CC]<;>rfl) ?_|refine aD ?_|refine aE ?_|with_reducible first|refine aG ?_|refine aF ?_|refine aK ?_|refine aH ?_|refine aJ ?_|refine aI ?_|refine aL ?_|refine aC ?_))
     refine aB (hv.load' hxk) ?_
     (repeat(first|refine aB (by simp (disch:=first|omega|exact nnN _|assumption) only [BB,B2,↓reduceIte,Nat.reduceLeDiff,Nat.reduceAdd,CC]<;>rfl) ?_|refine aD ?_|refine aE ?_|with_reducible first|refine aG ?_|refine aF ?_|refine aK ?_|refine aH ?_|refine aJ ?_|refine aI ?_|refine aL ?_|refine aC ?_))
     (first | refine dF (fun hb=>?_) (fun hb=>?_) | refine aDs (fun hb=>?_) (fun hb=>?_) | refine kY (fun hb=>?_) (fun hb=>?_) | refine uN (fun hb=>?_) (fun hb=>?_) | refine rX (fun hb=>?_) (fun hb=>?_) | refine pN (fun hb=>?_) (fun hb=>?_))
     ·(repeat(first|refine aB (by simp (disch:=first|omega|exact nnN _|assumption) only [BB,B2,↓reduceIte,Nat.reduceLeDiff,Nat.reduceAdd,CC]<;>rfl) ?_|refine aD ?_|refine aE ?_|with_reducible first|refine aG ?_|refine aF ?_|refine aK ?_|refine aH ?_|refine aJ ?_|refine aI ?_|refine aL ?_|refine aC ?_))
      exact hfin _ _ rfl (.inl (by omega)) (by omega)
     ·(repeat(first|refine aB (by simp (disch:=first|omega|exact nnN _|assumption) only [BB,B2,↓reduceIte,Nat.reduceLeDiff,Nat.reduceAdd,CC]<;>rfl) ?_|refine aD ?_|refine aE ?_|with_reducible first|refine aG ?_|refine aF ?_|refine aK ?_|refine aH ?_|refine aJ ?_|refine aI ?_|refine aL ?_|refine aC ?_))
      exact hok _ _ e0 e1 rfl (by omega) (by omega) (by omega)
    ·(repeat(first|refine aB (by simp (disch:=first|omega|exact nnN _|assumption) only [BB,B2,↓reduceIte,Nat.reduceLeDiff,Nat.reduceAdd,CC]<;>rfl) ?_|refine aD ?_|refine aE ?_|with_reducible first|refine aG ?_|refine aF ?_|refine aK ?_|refine aH ?_|refine aJ ?_|refine aI ?_|refine aL ?_|refine aC ?_))
     exact hok _ _ e0 e1 rfl (by omega) (by omega) (by omega)
 ·(repeat(first|refine aB (by simp (disch:=first|omega|exact nnN _|assumption) only [BB,B2,↓reduceIte,Nat.reduceLeDiff,Nat.reduceAdd,CC]<;>rfl) ?_|refine aD ?_|refine aE ?_|with_reducible first|refine aG ?_|refine aF ?_|refine aK ?_|refine aH ?_|refine aJ ?_|refine aI ?_|refine aL ?_|refine aC ?_))
  refine hx _ _ _ _ (fun e=>by cases e) (eB (dA ?_))
  unfold sS
  rw [gB (by omega)] at hr
  exact ⟨_,Sub.refl _,kb hK hr.symm (by omega)⟩
theorem aJg {ro:Ro} {v:Value} {l:List Int} {p:Int} (hlen:l.length≤1000000) {h:T Obj} {nx:Nat} {K:KV} (hv:ZI ro h v l) (hK:∀ nx',nx≤nx'→K (.bool (l.contains p)) h nx'):aN Tryz.prog ro aAi [v,.int .i64 p] h nx K:=by
 apply aIa
 unfold aES
 generalize hR:l.contains p=R at hK
 refine bC (fun j e h' nx'=>∃ (k:Nat),k+j=l.length∧nx≤nx'∧h'=h∧e 0=v∧e 1=.int .i64 p∧e 5=.int .i64 k∧(l.drop k).contains p=R) ?_ (n:=l.length) ⟨0,by omega,by omega,rfl,rfl,rfl,rfl,hR⟩
 rintro j e h' nx' ⟨k,hj,hnx,rfl,e0,e1,e5,hr⟩ Q' hq hx
 unfold aCh
 rw [e0,e1,e5]
 refine aB hv.len ?_
 refine dF (fun hk=>?_) (fun hk=>?_)
 ·have hk:k < l.length:=by omega
  rw [bT hk] at hr
  (repeat(first|refine aB (by simp (disch:=first|omega|exact nnN _|assumption) only [BB,B2,↓reduceIte,Nat.reduceLeDiff,Nat.reduceAdd,CC]<;>rfl) ?_|refine aD ?_|refine aE ?_|with_reducible first|refine aG ?_|refine aF ?_|refine aK ?_|refine aH ?_|refine aJ ?_|refine aI ?_|refine aL ?_|refine aC ?_))
  refine aB (hv.ix _ hk) (aB (hv.load hk) ?_)
  generalize l[k]=x at hr
  refine rX (fun he=>?_) (fun he=>?_)
  ·(repeat(first|refine aB (by simp (disch:=first|omega|exact nnN _|assumption) only [BB,B2,↓reduceIte,Nat.reduceLeDiff,Nat.reduceAdd,CC]<;>rfl) ?_|refine aD ?_|refine aE ?_|with_reducible first|refine aG ?_|refine aF ?_|refine aK ?_|refine aH ?_|refine aJ ?_|refine aI ?_|refine aL ?_|refine aC ?_))
   refine hx _ _ _ _ (fun e=>by cases e) (eL ?_)
   exact ⟨_,Sub.refl _,kb hK (by rw [← hr,he]; simp) (by omega)⟩
  ·(repeat(first|refine aB (by simp (disch:=first|omega|exact nnN _|assumption) only [BB,B2,↓reduceIte,Nat.reduceLeDiff,Nat.reduceAdd,CC]<;>rfl) ?_|refine aD ?_|refine aE ?_|with_reducible first|refine aG ?_|refine aF ?_|refine aK ?_|refine aH ?_|refine aJ ?_|refine aI ?_|refine aL ?_|refine aC ?_))
   refine hq (j - 1) _ _ _ _ (by omega) ⟨k+1,by omega,by omega,rfl,e0,e1,rfl,?_⟩ (Sub.refl _)
   rw [← hr,List.contains_cons,beq_eq_false_iff_ne.2 (Ne.symm he),Bool.false_or]
 ·(repeat(first|refine aB (by simp (disch:=first|omega|exact nnN _|assumption) only [BB,B2,↓reduceIte,Nat.reduceLeDiff,Nat.reduceAdd,CC]<;>rfl) ?_|refine aD ?_|refine aE ?_|with_reducible first|refine aG ?_|refine aF ?_|refine aK ?_|refine aH ?_|refine aJ ?_|refine aI ?_|refine aL ?_|refine aC ?_))
  refine hx _ _ _ _ (fun e=>by cases e) (eB (dA ?_))
  unfold yM
  rw [gB (by omega)] at hr
  exact ⟨_,Sub.refl _,kb hK hr.symm (by omega)⟩
theorem tE {ro:Ro} {v:Value} {l:List Int} {p:Int} (hlen:l.length≤1000000) {h:T Obj} {nx:Nat} {K:KV} (hv:ZI ro h v l) (hK:∀ nx',nx≤nx'→K (.bool (l.contains p)) h nx'):aN Tryz.prog ro gA [v,.int .i64 p] h nx K:=by
 apply sY
 unfold jQ
 apply uZ
 unfold lI
 refine aB hv.len ?_
 have hyes:∀ (k:Nat) n,p∈l→nx≤n→aA (aO .geq (.int .i64 (k:Int)) (.int .i64 0)) fun t8_4=>∃ h5,Sub h5 h∧K t8_4 h5 (n+2):=fun k n hp hn=>by
  refine uN (fun hg=>?_) (fun hg=>by omega)
  exact ⟨_,Sub.refl _,kb hK (by simpa using hp) (by omega)⟩
 generalize hR:l.contains p=R at hK
 refine bC (fun j e h' nx'=>∃ (k:Nat),k+j=l.length∧nx≤nx'∧h'=h∧e 0=v∧e 1=.int .i64 p∧e 7=.int .i64 l.length∧e 8=.int .i64 k∧(l.drop k).contains p=R) ?_ (n:=l.length) ⟨0,by omega,by omega,rfl,rfl,rfl,rfl,rfl,hR⟩
 rintro j e h' nx' ⟨k,hj,hnx,rfl,e0,e1,e7,e8,hr⟩ Q' hq hx
 unfold nD
 rw [e0,e1,e7,e8]
 refine dF (fun hk=>?_) (fun hk=>?_)
 ·have hk:k < l.length:=by omega
  have hmem:l[k]∈l:=List.getElem_mem hk
  rw [bT hk] at hr
  (repeat(first|refine aB (by simp (disch:=first|omega|exact nnN _|assumption) only [BB,B2,↓reduceIte,Nat.reduceLeDiff,Nat.reduceAdd,CC]<;>rfl) ?_|refine aD ?_|refine aE ?_|with_reducible first|refine aG ?_|refine aF ?_|refine aK ?_|refine aH ?_|refine aJ ?_|refine aI ?_|refine aL ?_|refine aC ?_))
  refine aB (hv.ix _ hk) (aB (hv.load hk) ?_)
  generalize l[k]=x at hr hmem
  refine rX (fun he=>?_) (fun he=>?_)
  ·(repeat(first|refine aB (by simp (disch:=first|omega|exact nnN _|assumption) only [BB,B2,↓reduceIte,Nat.reduceLeDiff,Nat.reduceAdd,CC]<;>rfl) ?_|refine aD ?_|refine aE ?_|with_reducible first|refine aG ?_|refine aF ?_|refine aK ?_|refine aH ?_|refine aJ ?_|refine aI ?_|refine aL ?_|refine aC ?_))
   refine hx _ _ _ _ (fun e=>by cases e) (eL ?_)
   refine ⟨_,Sub.refl _,hyes _ _ (by rw [he]; exact hmem) (by omega)⟩
  ·(repeat(first|refine aB (by simp (disch:=first|omega|exact nnN _|assumption) only [BB,B2,↓reduceIte,Nat.reduceLeDiff,Nat.reduceAdd,CC]<;>rfl) ?_|refine aD ?_|refine aE ?_|with_reducible first|refine aG ?_|refine aF ?_|refine aK ?_|refine aH ?_|refine aJ ?_|refine aI ?_|refine aL ?_|refine aC ?_))
   refine hq (j - 1) _ _ _ _ (by omega) ⟨k+1,by omega,by omega,rfl,e0,e1,e7,rfl,?_⟩ (Sub.refl _)
   rw [← hr,List.contains_cons,beq_eq_false_iff_ne.2 he,Bool.false_or]
 ·(repeat(first|refine aB (by simp (disch:=first|omega|exact nnN _|assumption) only [BB,B2,↓reduceIte,Nat.reduceLeDiff,Nat.reduceAdd,CC]<;>rfl) ?_|refine aD ?_|refine aE ?_|with_reducible first|refine aG ?_|refine aF ?_|refine aK ?_|refine aH ?_|refine aJ ?_|refine aI ?_|refine aL ?_|refine aC ?_))
  refine hx _ _ _ _ (fun e=>by cases e) (eB (dA ?_))
  unfold jR
  rw [gB (by omega)] at hr
  refine ⟨_,Sub.refl _,?_⟩
  refine uN (fun hg=>by omega) (fun hg=>?_)
  exact ⟨_,Sub.refl _,kb hK hr.symm (by omega)⟩
set_option maxRecDepth 8000 in
set_option maxHeartbeats 1000000 in
theorem aDY {ro:Ro} {c:List Nat} {n:Int} {cv sv lv rv uv nv ov:Value} {S:List StateD} {R:List Int} {m:MoveD} (hc:c.length=256) (hSl:S.length≤256) (hR:R.length≤3) (hmo:m.ops.length≤mF) {h:T Obj} {nx:Nat} {K:KV} (hf:Fr h nx)
  (hS:SlR ro h sv 4 (dX ro h) S) (hrv:ZI ro h rv R) (hov:SlR ro h ov 1 RU8 m.ops) (hK:∀ nx',nx≤nx'→K (.bool (gT S R m)) h nx'):aN Tryz.prog ro lV [.agg (dQ c n cv sv).toArray,.agg #[lv,rv,uv,nv],.agg #[.int .i64 m.to,ov]] h nx K:=by
 apply xF
 unfold nJ
 refine dY hf (Nat.le_refl _) fun h1 hs1 hf1 g1 _=>?_
 refine dY hf1 (Nat.le_refl _) fun h2 hs2 hf2 g2 _=>?_
 refine dY hf2 (Nat.le_refl _) fun h3 hs3 hf3 g3 _=>?_
 have g1:h3.get nx=some (.cells (dQ c n cv sv).toArray dP):=hs3 _ _ (hs2 _ _ g1)
 have g2:h3.get (nx+1)=some (.cells #[lv,rv,uv,nv] a8):=hs3 _ _ g2
 have g3:h3.get (nx+2)=some (.cells #[.int .i64 m.to,ov] b7):=g3
 have hs:=(hs1.trans hs2).trans hs3
 have hS:=hS.sub hs (dX.sub hs)
 have hrv:=hrv.sub hs
 have hov:=hov.sub hs fun _ _ h=>h
 have hsg:=gY (n:=n) (cv:=cv) (sv:=sv) hc
 have hol:=hov.len
 have hsl:=hS.len
 have hmb:m.ops.length≤9223372036854775807:=hmo
 have hno:∀ n,gT S R m=false→nx≤n→∃ h',Sub h' h3∧K (.bool false) h' n:=fun n e hn=>⟨h,hs,kb hK e hn⟩
 (repeat(first|refine aB (by simp (disch:=first|omega|exact nnN _|assumption) only [BB,B2,↓reduceIte,Nat.reduceLeDiff,Nat.reduceAdd,CC,g3]<;>rfl) ?_|refine aD ?_|refine aE ?_|with_reducible first|refine aG ?_|refine aF ?_|refine aK ?_|refine aH ?_|refine aJ ?_|refine aI ?_|refine aL ?_|refine aC ?_))
 refine rX (fun ht=>?_) (fun ht=>?_)
 ·(repeat(first|refine aB (by simp (disch:=first|omega|exact nnN _|assumption) only [BB,B2,↓reduceIte,Nat.reduceLeDiff,Nat.reduceAdd,CC,g3,hol]<;>rfl) ?_|refine aD ?_|refine aE ?_|with_reducible first|refine aG ?_|refine aF ?_|refine aK ?_|refine aH ?_|refine aJ ?_|refine aI ?_|refine aL ?_|refine aC ?_))
  refine aB (aT _ _ _) ?_
  refine ⟨h,hs,kb hK ?_ (by omega)⟩
  unfold gT
  rw [if_pos ht,decide_eq_decide]
  omega
 ·unfold gT at hno hK
  rw [if_neg ht] at hno hK
  (repeat(first|refine aB (by simp (disch:=first|omega|exact nnN _|assumption) only [BB,B2,↓reduceIte,Nat.reduceLeDiff,Nat.reduceAdd,CC,g3]<;>rfl) ?_|refine aD ?_|refine aE ?_|with_reducible first|refine aG ?_|refine aF ?_|refine aK ?_|refine aH ?_|refine aJ ?_|refine aI ?_|refine aL ?_|refine aC ?_))
  refine dF (fun h1=>?_) (fun h1=>?_)
  ·(repeat(first|refine aB (by simp (disch:=first|omega|exact nnN _|assumption) only [BB,B2,↓reduceIte,Nat.reduceLeDiff,Nat.reduceAdd,CC]<;>rfl) ?_|refine aD ?_|refine aE ?_|with_reducible first|refine aG ?_|refine aF ?_|refine aK ?_|refine aH ?_|refine aJ ?_|refine aI ?_|refine aL ?_|refine aC ?_))
   exact hno _ (by rw [decide_eq_false (by omega)]; rfl) (by omega)
  ·rw [decide_eq_true h1,Bool.true_and] at hno hK
   (repeat(first|refine aB (by simp (disch:=first|omega|exact nnN _|assumption) only [BB,B2,↓reduceIte,Nat.reduceLeDiff,Nat.reduceAdd,CC,g1,g3,hsg,hsl]<;>rfl) ?_|refine aD ?_|refine aE ?_|with_reducible first|refine aG ?_|refine aF ?_|refine aK ?_|refine aH ?_|refine aJ ?_|refine aI ?_|refine aL ?_|refine aC ?_))
   refine uN (fun h2=>?_) (fun h2=>?_)
   ·(repeat(first|refine aB (by simp (disch:=first|omega|exact nnN _|assumption) only [BB,B2,↓reduceIte,Nat.reduceLeDiff,Nat.reduceAdd,CC]<;>rfl) ?_|refine aD ?_|refine aE ?_|with_reducible first|refine aG ?_|refine aF ?_|refine aK ?_|refine aH ?_|refine aJ ?_|refine aI ?_|refine aL ?_|refine aC ?_))
    exact hno _ (by rw [decide_eq_false (by omega)]; rfl) (by omega)
   ·rw [decide_eq_true h2,Bool.true_and] at hno hK
    have hti:m.to.toNat < S.length:=by omega
    have hgd:S.getD m.to.toNat noS=S[m.to.toNat]:=by rw [List.getD_eq_getElem?_getD,List.getElem?_eq_getElem hti]; rfl
    rw [hgd] at hno hK
    have hix:=hS.ixI .i64 (i:=m.to) (by omega) h2
    obtain ⟨x,⟨lv',rv',uv',nv',rfl,y1,y2,y3,y4,y5⟩,hx2,hx3,hx4,hx5⟩:=hS.at hti
    have hx1:=hx5 1 rv' rfl
    have hrl:=y2.len
    generalize S[m.to.toNat]=s at hno hK y1 y2 y3 y4 y5 hrl
    have y5:s.r.length≤9223372036854775807:=y5
    (repeat(first|refine aB (by simp (disch:=first|omega|exact nnN _|assumption) only [BB,B2,↓reduceIte,Nat.reduceLeDiff,Nat.reduceAdd,CC,g1,g3,hsg,hol,hix,hx4,hx1,hrl]<;>rfl) ?_|refine aD ?_|refine aE ?_|with_reducible first|refine aG ?_|refine aF ?_|refine aK ?_|refine aH ?_|refine aJ ?_|refine aI ?_|refine aL ?_|refine aC ?_))
    refine pN (fun u9=>?_) (fun u9=>?_)
    ·(repeat(first|refine aB (by simp (disch:=first|omega|exact nnN _|assumption) only [BB,B2,↓reduceIte,Nat.reduceLeDiff,Nat.reduceAdd,CC]<;>rfl) ?_|refine aD ?_|refine aE ?_|with_reducible first|refine aG ?_|refine aF ?_|refine aK ?_|refine aH ?_|refine aJ ?_|refine aI ?_|refine aL ?_|refine aC ?_))
     exact hno _ (by rw [decide_eq_false (by omega)]; rfl) (by omega)
    ·have u9:m.ops.length=s.r.length:=by omega
     rw [decide_eq_true u9,Bool.true_and] at hno hK
     (repeat(first|refine aB (by simp (disch:=first|omega|exact nnN _|assumption) only [BB,B2,↓reduceIte,Nat.reduceLeDiff,Nat.reduceAdd,CC,g3,hol]<;>rfl) ?_|refine aD ?_|refine aE ?_|with_reducible first|refine aG ?_|refine aF ?_|refine aK ?_|refine aH ?_|refine aJ ?_|refine aI ?_|refine aL ?_|refine aC ?_))
     generalize hB:x9 R m.ops s.r=B at hno hK
     refine bC (fun j e h' nx'=>∃ (k:Nat),k+j=m.ops.length∧nx≤nx'∧h'=h3∧e 3=ptr nx∧e 4=ptr (nx+1)∧e 5=ptr (nx+2)∧e 44=ov∧e 45=.int .i64 m.ops.length∧e 46=.int .i64 k∧x9 R (m.ops.drop k) (s.r.drop k)=B) ?_ (n:=m.ops.length) ⟨0,by omega,by omega,rfl,rfl,rfl,rfl,rfl,rfl,rfl,hB⟩
     rintro j e h' nx' ⟨k,hj,hnx,rfl,e3,e4,e5,e44,e45,e46,hr⟩ Q' hq hx
     unfold pH
     rw [e3,e4,e5,e44,e45,e46]
     refine dF (fun hk=>?_) (fun hk=>?_)
     ·have hk:k < m.ops.length:=by omega
      have hk2:k < s.r.length:=by omega
      rw [bT hk,bT hk2,aAm] at hr
      have oix:=hov.ix .i64 hk
      obtain ⟨w,⟨ow,olt⟩,o1⟩:=hov.at1 hk
      simp only [List.cons.injEq,and_true] at ow
      subst ow
      have rix:=y2.ix .i64 hk2
      have rld:=y2.load hk2
      generalize m.ops[k]=o at hr o1 olt
      generalize s.r[k]=r at hr rld
      have hfin:∀ (e':Env) n,e' 6=.bool false→aGo R o r=false→nx≤n→Q' .ret e' h' n:=fun e' n h6 hc hn=>by
       refine hx _ _ _ _ (fun e=>by cases e) (eL ?_)
       rw [h6]
       refine ⟨h,hs,kb hK ?_ hn⟩
       rw [← hr,hc]; rfl
      have hok:∀ (e':Env) n,e' 3=ptr nx→e' 4=ptr (nx+1)→e' 5=ptr (nx+2)→e' 44=ov→e' 45=.int .i64 m.ops.length→e' 46=.int .i64 ((k:Int)+1)→aGo R o r=true→nx≤n→Q' .normal e' h' n:=fun e' n f3 f4 f5 f44 f45 f46 hc hn =>
       hq (j - 1) _ _ _ _ (by omega) ⟨k+1,by omega,hn,rfl,f3,f4,f5,f44,f45,f46,by rw [← hr,hc]; rfl⟩ (Sub.refl _)
      unfold aGo at hfin hok
      (repeat(first|refine aB (by simp (disch:=first|omega|exact nnN _|assumption) only [BB,B2,↓reduceIte,Nat.reduceLeDiff,Nat.reduceAdd,CC,oix,o1]<;>rfl) ?_|refine aD ?_|refine aE ?_|with_reducible first|refine aG ?_|refine aF ?_|refine aK ?_|refine aH ?_|refine aJ ?_|refine aI ?_|refine aL ?_|refine aC ?_))
      refine dF (fun u1=>?_) (fun u1=>?_)
      ·(repeat(first|refine aB (by simp (disch:=first|omega|exact nnN _|assumption) only [BB,B2,↓reduceIte,Nat.reduceLeDiff,Nat.reduceAdd,CC]<;>rfl) ?_|refine aD ?_|refine aE ?_|with_reducible first|refine aG ?_|refine aF ?_|refine aK ?_|refine aH ?_|refine aJ ?_|refine aI ?_|refine aL ?_|refine aC ?_))
       exact hfin _ _ rfl (by rw [decide_eq_false (by omega)]; rfl) (by omega)
      ·rw [decide_eq_true (by omega),Bool.true_and] at hfin hok
       (repeat(first|refine aB (by simp (disch:=first|omega|exact nnN _|assumption) only [BB,B2,↓reduceIte,Nat.reduceLeDiff,Nat.reduceAdd,CC]<;>rfl) ?_|refine aD ?_|refine aE ?_|with_reducible first|refine aG ?_|refine aF ?_|refine aK ?_|refine aH ?_|refine aJ ?_|refine aI ?_|refine aL ?_|refine aC ?_))
       refine kY (fun u2=>?_) (fun u2=>?_)
       ·(repeat(first|refine aB (by simp (disch:=first|omega|exact nnN _|assumption) only [BB,B2,↓reduceIte,Nat.reduceLeDiff,Nat.reduceAdd,CC]<;>rfl) ?_|refine aD ?_|refine aE ?_|with_reducible first|refine aG ?_|refine aF ?_|refine aK ?_|refine aH ?_|refine aJ ?_|refine aI ?_|refine aL ?_|refine aC ?_))
        exact hfin _ _ rfl (by rw [decide_eq_false (by omega)]; rfl) (by omega)
       ·rw [decide_eq_true (by omega),Bool.true_and] at hfin hok
        (repeat(first|refine aB (by simp (disch:=first|omega|exact nnN _|assumption) only [BB,B2,↓reduceIte,Nat.reduceLeDiff,Nat.reduceAdd,CC]<;>rfl) ?_|refine aD ?_|refine aE ?_|with_reducible first|refine aG ?_|refine aF ?_|refine aK ?_|refine aH ?_|refine aJ ?_|refine aI ?_|refine aL ?_|refine aC ?_))
        refine pN (fun u3=>?_) (fun u3=>?_)
        ·rw [decide_eq_false (by omega),Bool.false_or] at hfin hok
         (repeat(first|refine aB (by simp (disch:=first|omega|exact nnN _|assumption) only [BB,B2,↓reduceIte,Nat.reduceLeDiff,Nat.reduceAdd,CC,g1,g2,g3,hsg,hix,hx4,hx1,rix,rld]<;>rfl) ?_|refine aD ?_|refine aE ?_|with_reducible first|refine aG ?_|refine aF ?_|refine aK ?_|refine aH ?_|refine aJ ?_|refine aI ?_|refine aL ?_|refine aC ?_))
         refine tE (by omega) hrv fun n9 hn9=>?_
         cases hcn:R.contains r with
         | true =>
          rw [hcn] at hok
          (repeat(first|refine aB (by simp (disch:=first|omega|exact nnN _|assumption) only [BB,B2,↓reduceIte,Nat.reduceLeDiff,Nat.reduceAdd,CC]<;>rfl) ?_|refine aD ?_|refine aE ?_|with_reducible first|refine aG ?_|refine aF ?_|refine aK ?_|refine aH ?_|refine aJ ?_|refine aI ?_|refine aL ?_|refine aC ?_))
          exact hok _ _ e3 e4 e5 e44 e45 rfl rfl (by omega)
         | false =>
          rw [hcn] at hfin
          (repeat(first|refine aB (by simp (disch:=first|omega|exact nnN _|assumption) only [BB,B2,↓reduceIte,Nat.reduceLeDiff,Nat.reduceAdd,CC]<;>rfl) ?_|refine aD ?_|refine aE ?_|with_reducible first|refine aG ?_|refine aF ?_|refine aK ?_|refine aH ?_|refine aJ ?_|refine aI ?_|refine aL ?_|refine aC ?_))
          exact hfin _ _ rfl rfl (by omega)
        ·rw [decide_eq_true (by omega),Bool.true_or] at hfin hok
         (repeat(first|refine aB (by simp (disch:=first|omega|exact nnN _|assumption) only [BB,B2,↓reduceIte,Nat.reduceLeDiff,Nat.reduceAdd,CC]<;>rfl) ?_|refine aD ?_|refine aE ?_|with_reducible first|refine aG ?_|refine aF ?_|refine aK ?_|refine aH ?_|refine aJ ?_|refine aI ?_|refine aL ?_|refine aC ?_))
         exact hok _ _ e3 e4 e5 e44 e45 rfl rfl (by omega)
     ·(repeat(first|refine aB (by simp (disch:=first|omega|exact nnN _|assumption) only [BB,B2,↓reduceIte,Nat.reduceLeDiff,Nat.reduceAdd,CC]<;>rfl) ?_|refine aD ?_|refine aE ?_|with_reducible first|refine aG ?_|refine aF ?_|refine aK ?_|refine aH ?_|refine aJ ?_|refine aI ?_|refine aL ?_|refine aC ?_))
      refine hx _ _ _ _ (fun e=>by cases e) (eB (dA ?_))
      unfold kT
      rw [gB (by omega),aFu] at hr
      exact ⟨h,hs,kb hK hr.symm (by omega)⟩
set_option maxRecDepth 8000 in
set_option maxHeartbeats 1000000 in
theorem aHB {ro:Ro} {c:List Nat} {n:Int} {cv sv lv rv uv nv ov:Value} {S:List StateD} {R:List Int} {m:MoveD} (hc:c.length=256) (hSl:S.length≤256) (hR:R.length≤3) (hmo:m.ops.length≤mF) {h:T Obj} {nx:Nat} {K:KV} (hf:Fr h nx)
  (hS:SlR ro h sv 4 (dX ro h) S) (hrv:ZI ro h rv R) (hov:SlR ro h ov 1 RU8 m.ops) (hK:∀ nx',nx≤nx'→K (.bool (gT S R m)) h nx'):aN Tryz.prog ro vM [.agg (dQ c n cv sv).toArray,.agg #[lv,rv,uv,nv],.agg #[.int .i64 m.to,ov]] h nx K:=by
 apply aFY
 unfold aAq
 refine dY hf (Nat.le_refl _) fun h1 hs1 hf1 g1 _=>?_
 refine dY hf1 (Nat.le_refl _) fun h2 hs2 hf2 g2 _=>?_
 refine dY hf2 (Nat.le_refl _) fun h3 hs3 hf3 g3 _=>?_
 have g1:h3.get nx=some (.cells (dQ c n cv sv).toArray bG):=hs3 _ _ (hs2 _ _ g1)
 have g2:h3.get (nx+1)=some (.cells #[lv,rv,uv,nv] a8):=hs3 _ _ g2
 have g3:h3.get (nx+2)=some (.cells #[.int .i64 m.to,ov] b7):=g3
 have hs:=(hs1.trans hs2).trans hs3
 have hS:=hS.sub hs (dX.sub hs)
 have hrv:=hrv.sub hs
 have hov:=hov.sub hs fun _ _ h=>h
 have hsg:=gY (n:=n) (cv:=cv) (sv:=sv) hc
 have hol:=hov.len
 have hsl:=hS.len
 have hmb:m.ops.length≤9223372036854775807:=hmo
 have hno:∀ n,gT S R m=false→nx≤n→∃ h',Sub h' h3∧K (.bool false) h' n:=fun n e hn=>⟨h,hs,kb hK e hn⟩
 (repeat(first|refine aB (by simp (disch:=first|omega|exact nnN _|assumption) only [BB,B2,↓reduceIte,Nat.reduceLeDiff,Nat.reduceAdd,CC,g3]<;>rfl) ?_|refine aD ?_|refine aE ?_|with_reducible first|refine aG ?_|refine aF ?_|refine aK ?_|refine aH ?_|refine aJ ?_|refine aI ?_|refine aL ?_|refine aC ?_))
 refine rX (fun ht=>?_) (fun ht=>?_)
 ·(repeat(first|refine aB (by simp (disch:=first|omega|exact nnN _|assumption) only [BB,B2,↓reduceIte,Nat.reduceLeDiff,Nat.reduceAdd,CC,g3,hol]<;>rfl) ?_|refine aD ?_|refine aE ?_|with_reducible first|refine aG ?_|refine aF ?_|refine aK ?_|refine aH ?_|refine aJ ?_|refine aI ?_|refine aL ?_|refine aC ?_))
  refine aB (aT _ _ _) ?_
  refine ⟨h,hs,kb hK ?_ (by omega)⟩
  unfold gT
  rw [if_pos ht,decide_eq_decide]
  omega
 ·unfold gT at hno hK
  rw [if_neg ht] at hno hK
  (repeat(first|refine aB (by simp (disch:=first|omega|exact nnN _|assumption) only [BB,B2,↓reduceIte,Nat.reduceLeDiff,Nat.reduceAdd,CC,g3]<;>rfl) ?_|refine aD ?_|refine aE ?_|with_reducible first|refine aG ?_|refine aF ?_|refine aK ?_|refine aH ?_|refine aJ ?_|refine aI ?_|refine aL ?_|refine aC ?_))
  refine dF (fun h1=>?_) (fun h1=>?_)
  ·(repeat(first|refine aB (by simp (disch:=first|omega|exact nnN _|assumption) only [BB,B2,↓reduceIte,Nat.reduceLeDiff,Nat.reduceAdd,CC]<;>rfl) ?_|refine aD ?_|refine aE ?_|with_reducible first|refine aG ?_|refine aF ?_|refine aK ?_|refine aH ?_|refine aJ ?_|refine aI ?_|refine aL ?_|refine aC ?_))
   exact hno _ (by rw [decide_eq_false (by omega)]; rfl) (by omega)
  ·rw [decide_eq_true h1,Bool.true_and] at hno hK
   (repeat(first|refine aB (by simp (disch:=first|omega|exact nnN _|assumption) only [BB,B2,↓reduceIte,Nat.reduceLeDiff,Nat.reduceAdd,CC,g1,g3,hsg,hsl]<;>rfl) ?_|refine aD ?_|refine aE ?_|with_reducible first|refine aG ?_|refine aF ?_|refine aK ?_|refine aH ?_|refine aJ ?_|refine aI ?_|refine aL ?_|refine aC ?_))
   refine uN (fun h2=>?_) (fun h2=>?_)
   ·(repeat(first|refine aB (by simp (disch:=first|omega|exact nnN _|assumption) only [BB,B2,↓reduceIte,Nat.reduceLeDiff,Nat.reduceAdd,CC]<;>rfl) ?_|refine aD ?_|refine aE ?_|with_reducible first|refine aG ?_|refine aF ?_|refine aK ?_|refine aH ?_|refine aJ ?_|refine aI ?_|refine aL ?_|refine aC ?_))
    exact hno _ (by rw [decide_eq_false (by omega)]; rfl) (by omega)
   ·rw [decide_eq_true h2,Bool.true_and] at hno hK
    have hti:m.to.toNat < S.length:=by omega
    have hgd:S.getD m.to.toNat noS=S[m.to.toNat]:=by rw [List.getD_eq_getElem?_getD,List.getElem?_eq_getElem hti]; rfl
    rw [hgd] at hno hK
    have hix:=hS.ixI .i64 (i:=m.to) (by omega) h2
    obtain ⟨x,⟨lv',rv',uv',nv',rfl,y1,y2,y3,y4,y5⟩,hx2,hx3,hx4,hx5⟩:=hS.at hti
    have hx1:=hx5 1 rv' rfl
    have hrl:=y2.len
    generalize S[m.to.toNat]=s at hno hK y1 y2 y3 y4 y5 hrl
    have y5:s.r.length≤9223372036854775807:=y5
    (repeat(first|refine aB (by simp (disch:=first|omega|exact nnN _|assumption) only [BB,B2,↓reduceIte,Nat.reduceLeDiff,Nat.reduceAdd,CC,g1,g3,hsg,hol,hix,hx4,hx1,hrl]<;>rfl) ?_|refine aD ?_|refine aE ?_|with_reducible first|refine aG ?_|refine aF ?_|refine aK ?_|refine aH ?_|refine aJ ?_|refine aI ?_|refine aL ?_|refine aC ?_))
    refine pN (fun u9=>?_) (fun u9=>?_)
    ·(repeat(first|refine aB (by simp (disch:=first|omega|exact nnN _|assumption) only [BB,B2,↓reduceIte,Nat.reduceLeDiff,Nat.reduceAdd,CC]<;>rfl) ?_|refine aD ?_|refine aE ?_|with_reducible first|refine aG ?_|refine aF ?_|refine aK ?_|refine aH ?_|refine aJ ?_|refine aI ?_|refine aL ?_|refine aC ?_))
     exact hno _ (by rw [decide_eq_false (by omega)]; rfl) (by omega)
    ·have u9:m.ops.length=s.r.length:=by omega
     rw [decide_eq_true u9,Bool.true_and] at hno hK
     (repeat(first|refine aB (by simp (disch:=first|omega|exact nnN _|assumption) only [BB,B2,↓reduceIte,Nat.reduceLeDiff,Nat.reduceAdd,CC,g3,hol]<;>rfl) ?_|refine aD ?_|refine aE ?_|with_reducible first|refine aG ?_|refine aF ?_|refine aK ?_|refine aH ?_|refine aJ ?_|refine aI ?_|refine aL ?_|refine aC ?_))
     generalize hB:x9 R m.ops s.r=B at hno hK
     refine bC (fun j e h' nx'=>∃ (k:Nat),k+j=m.ops.length∧nx≤nx'∧h'=h3∧e 3=ptr nx∧e 4=ptr (nx+1)∧e 5=ptr (nx+2)∧e 7=.int .i64 k∧x9 R (m.ops.drop k) (s.r.drop k)=B) ?_ (n:=m.ops.length) ⟨0,by omega,by omega,rfl,rfl,rfl,rfl,rfl,hB⟩
     rintro j e h' nx' ⟨k,hj,hnx,rfl,e3,e4,e5,e7,hr⟩ Q' hq hx
     unfold aAV
     rw [e3,e4,e5,e7]
     (repeat(first|refine aB (by simp (disch:=first|omega|exact nnN _|assumption) only [BB,B2,↓reduceIte,Nat.reduceLeDiff,Nat.reduceAdd,CC,g3,hol]<;>rfl) ?_|refine aD ?_|refine aE ?_|with_reducible first|refine aG ?_|refine aF ?_|refine aK ?_|refine aH ?_|refine aJ ?_|refine aI ?_|refine aL ?_|refine aC ?_))
     refine dF (fun hk=>?_) (fun hk=>?_)
     ·have hk:k < m.ops.length:=by omega
      have hk2:k < s.r.length:=by omega
      rw [bT hk,bT hk2,aAm] at hr
      have oix:=hov.ix .i64 hk
      obtain ⟨w,⟨ow,olt⟩,o1⟩:=hov.at1 hk
      simp only [List.cons.injEq,and_true] at ow
      subst ow
      have rix:=y2.ix .i64 hk2
      have rld:=y2.load hk2
      generalize m.ops[k]=o at hr o1 olt
      generalize s.r[k]=r at hr rld
      have hfin:∀ (e':Env) n,e' 6=.bool false→aGo R o r=false→nx≤n→Q' .ret e' h' n:=fun e' n h6 hc hn=>by
       refine hx _ _ _ _ (fun e=>by cases e) (eL ?_)
       rw [h6]
       refine ⟨h,hs,kb hK ?_ hn⟩
       rw [← hr,hc]; rfl
      have hok:∀ (e':Env) n,e' 3=ptr nx→e' 4=ptr (nx+1)→e' 5=ptr (nx+2)→e' 7=.int .i64 ((k:Int)+1)→aGo R o r=true→nx≤n→Q' .normal e' h' n:=fun e' n f3 f4 f5 f7 hc hn =>
       hq (j - 1) _ _ _ _ (by omega) ⟨k+1,by omega,hn,rfl,f3,f4,f5,f7,by rw [← hr,hc]; rfl⟩ (Sub.refl _)
      unfold aGo at hfin hok
      (repeat(first|refine aB (by simp (disch:=first|omega|exact nnN _|assumption) only [BB,B2,↓reduceIte,Nat.reduceLeDiff,Nat.reduceAdd,CC,g3,oix,o1]<;>rfl) ?_|refine aD ?_|refine aE ?_|with_reducible first|refine aG ?_|refine aF ?_|refine aK ?_|refine aH ?_|refine aJ ?_|refine aI ?_|refine aL ?_|refine aC ?_))
      refine dF (fun u1=>?_) (fun u1=>?_)
      ·(repeat(first|refine aB (by simp (disch:=first|omega|exact nnN _|assumption) only [BB,B2,↓reduceIte,Nat.reduceLeDiff,Nat.reduceAdd,CC,g3,oix,o1]<;>rfl) ?_|refine aD ?_|refine aE ?_|with_reducible first|refine aG ?_|refine aF ?_|refine aK ?_|refine aH ?_|refine aJ ?_|refine aI ?_|refine aL ?_|refine aC ?_))
       exact hfin _ _ rfl (by rw [decide_eq_false (by omega)]; rfl) (by omega)
      ·rw [decide_eq_true (by omega),Bool.true_and] at hfin hok
       (repeat(first|refine aB (by simp (disch:=first|omega|exact nnN _|assumption) only [BB,B2,↓reduceIte,Nat.reduceLeDiff,Nat.reduceAdd,CC,g3,oix,o1]<;>rfl) ?_|refine aD ?_|refine aE ?_|with_reducible first|refine aG ?_|refine aF ?_|refine aK ?_|refine aH ?_|refine aJ ?_|refine aI ?_|refine aL ?_|refine aC ?_))
       refine kY (fun u2=>?_) (fun u2=>?_)
       ·(repeat(first|refine aB (by simp (disch:=first|omega|exact nnN _|assumption) only [BB,B2,↓reduceIte,Nat.reduceLeDiff,Nat.reduceAdd,CC,g3,oix,o1]<;>rfl) ?_|refine aD ?_|refine aE ?_|with_reducible first|refine aG ?_|refine aF ?_|refine aK ?_|refine aH ?_|refine aJ ?_|refine aI ?_|refine aL ?_|refine aC ?_))
        exact hfin _ _ rfl (by rw [decide_eq_false (by omega)]; rfl) (by omega)
       ·rw [decide_eq_true (by omega),Bool.true_and] at hfin hok
        (repeat(first|refine aB (by simp (disch:=first|omega|exact nnN _|assumption) only [BB,B2,↓reduceIte,Nat.reduceLeDiff,Nat.reduceAdd,CC,g3,oix,o1]<;>rfl) ?_|refine aD ?_|refine aE ?_|with_reducible first|refine aG ?_|refine aF ?_|refine aK ?_|refine aH ?_|refine aJ ?_|refine aI ?_|refine aL ?_|refine aC ?_))
        refine pN (fun u3=>?_) (fun u3=>?_)
        ·rw [decide_eq_false (by omega),Bool.false_or] at hfin hok
         (repeat(first|refine aB (by simp (disch:=first|omega|exact nnN _|assumption) only [BB,B2,↓reduceIte,Nat.reduceLeDiff,Nat.reduceAdd,CC,g1,g2,g3,hsg,hix,hx4,hx1,rix,rld]<;>rfl) ?_|refine aD ?_|refine aE ?_|with_reducible first|refine aG ?_|refine aF ?_|refine aK ?_|refine aH ?_|refine aJ ?_|refine aI ?_|refine aL ?_|refine aC ?_))
         refine aJg (by omega) hrv fun n9 hn9=>?_
         cases hcn:R.contains r with
         | true =>
          rw [hcn] at hok
          (repeat(first|refine aB (by simp (disch:=first|omega|exact nnN _|assumption) only [BB,B2,↓reduceIte,Nat.reduceLeDiff,Nat.reduceAdd,CC]<;>rfl) ?_|refine aD ?_|refine aE ?_|with_reducible first|refine aG ?_|refine aF ?_|refine aK ?_|refine aH ?_|refine aJ ?_|refine aI ?_|refine aL ?_|refine aC ?_))
          exact hok _ _ e3 e4 e5 rfl rfl (by omega)
         | false =>
          rw [hcn] at hfin
          (repeat(first|refine aB (by simp (disch:=first|omega|exact nnN _|assumption) only [BB,B2,↓reduceIte,Nat.reduceLeDiff,Nat.reduceAdd,CC]<;>rfl) ?_|refine aD ?_|refine aE ?_|with_reducible first|refine aG ?_|refine aF ?_|refine aK ?_|refine aH ?_|refine aJ ?_|refine aI ?_|refine aL ?_|refine aC ?_))
          exact hfin _ _ rfl rfl (by omega)
        ·rw [decide_eq_true (by omega),Bool.true_or] at hfin hok
         (repeat(first|refine aB (by simp (disch:=first|omega|exact nnN _|assumption) only [BB,B2,↓reduceIte,Nat.reduceLeDiff,Nat.reduceAdd,CC]<;>rfl) ?_|refine aD ?_|refine aE ?_|with_reducible first|refine aG ?_|refine aF ?_|refine aK ?_|refine aH ?_|refine aJ ?_|refine aI ?_|refine aL ?_|refine aC ?_))
         exact hok _ _ e3 e4 e5 rfl rfl (by omega)
     ·(repeat(first|refine aB (by simp (disch:=first|omega|exact nnN _|assumption) only [BB,B2,↓reduceIte,Nat.reduceLeDiff,Nat.reduceAdd,CC]<;>rfl) ?_|refine aD ?_|refine aE ?_|with_reducible first|refine aG ?_|refine aF ?_|refine aK ?_|refine aH ?_|refine aJ ?_|refine aI ?_|refine aL ?_|refine aC ?_))
      refine hx _ _ _ _ (fun e=>by cases e) (eB (dA ?_))
      unfold tY
      rw [gB (by omega),aFu] at hr
      exact ⟨h,hs,kb hK hr.symm (by omega)⟩
def wM (S:List StateD) (R:List Int) (many ru:Int) (row:List MoveD):Bool:=decide (-1≤ru)&&(decide (ru < 512)&&(decide ((row.length:Int)=many)&&row.all (gT S R)))
def oF (S:List StateD) (R:List Int) (many:Int):List Int→List (List MoveD)→Bool
 | ru::rus,row::rows=>wM S R many ru row&&oF S R many rus rows
 | _,_=>true
def gJ (S:List StateD) (many:Int) (cn:Nat) (s:StateD):Bool:=decide (jJ s.r.length≠0)&&(decide ((s.rule.length:Int)=jJ s.r.length)&&(decide ((s.next.length:Int)=jJ s.r.length)&&(rz (-1) 512 s.l&&(rz (-1) cn s.r&&oF S s.r many s.rule s.next))))
theorem pR (S:List StateD) (R:List Int) (many ru:Int) (row:List MoveD) (rus:List Int) (rows:List (List MoveD)):oF S R many (ru::rus) (row::rows)=(wM S R many ru row&&oF S R many rus rows):=rfl
theorem v7 (S:List StateD) (R:List Int) (many:Int) (l:List Int):oF S R many l []=true:=by cases l<;>rfl
theorem aCE {ro:Ro} {v f:Value} {D:Type} {l:List D} {R:List Value→D→Prop} {q:D→Bool} (hlen:l.length≤1000000) {h:T Obj} {nx:Nat} {K:KV} (hv:SlR ro h v 2 R l)
  (hf:∀ (i:Nat) (hi:i < l.length) x n K',R x l[i]→nx≤n→(∀ n',n≤n'→K' (.bool (q l[i])) h n')→xG (aN Tryz.prog ro) f [.agg x.toArray] h n K')
  (hK:∀ nx',nx≤nx'→K (.int .i64 (oU q 0 l)) h nx'):aN Tryz.prog ro eY [v,f] h nx K:=by
 apply lQ
 unfold fG
 generalize hR:oU q 0 l=r at hK
 refine aB hv.len ?_
 refine bC (fun j e h' nx'=>∃ (k:Nat),k+j=l.length∧nx≤nx'∧h'=h∧e 0=v∧e 1=f∧e 7=.int .i64 l.length∧e 8=.int .i64 k∧oU q k (l.drop k)=r) ?_ (n:=l.length) ⟨0,by omega,by omega,rfl,rfl,rfl,rfl,rfl,hR⟩
 rintro j e h' nx' ⟨k,hj,hnx,rfl,e0,e1,e7,e8,hr⟩ Q' hq hx
 unfold gP
 rw [e0,e1,e7,e8]
 refine dF (fun hk=>?_) (fun hk=>?_)
 ·have hk:k < l.length:=by omega
  rw [bT hk,mS] at hr
  obtain ⟨x,hx1,hx2,hx3,hx4,hx5⟩:=hv.at hk
  (repeat(first|refine aB (by simp (disch:=first|omega|exact nnN _|assumption) only [BB,B2,↓reduceIte,Nat.reduceLeDiff,Nat.reduceAdd,CC]<;>rfl) ?_|refine aD ?_|refine aE ?_|with_reducible first|refine aG ?_|refine aF ?_|refine aK ?_|refine aH ?_|refine aJ ?_|refine aI ?_|refine aL ?_|refine aC ?_))
  refine aB (hv.ix _ hk) (aB hx3 ?_)
  refine hf k hk x _ _ hx1 (by omega) fun n hn=>?_
  cases hc:q l[k] with
  | true =>
   rw [hc,if_pos rfl] at hr
   (repeat(first|refine aB (by simp (disch:=first|omega|exact nnN _|assumption) only [BB,B2,↓reduceIte,Nat.reduceLeDiff,Nat.reduceAdd,CC]<;>rfl) ?_|refine aD ?_|refine aE ?_|with_reducible first|refine aG ?_|refine aF ?_|refine aK ?_|refine aH ?_|refine aJ ?_|refine aI ?_|refine aL ?_|refine aC ?_))
   refine hx _ _ _ _ (fun e=>by cases e) (eL ?_)
   exact ⟨_,Sub.refl _,ki hK hr.symm (by omega)⟩
  | false =>
   rw [hc,if_neg (by decide)] at hr
   (repeat(first|refine aB (by simp (disch:=first|omega|exact nnN _|assumption) only [BB,B2,↓reduceIte,Nat.reduceLeDiff,Nat.reduceAdd,CC]<;>rfl) ?_|refine aD ?_|refine aE ?_|with_reducible first|refine aG ?_|refine aF ?_|refine aK ?_|refine aH ?_|refine aJ ?_|refine aI ?_|refine aL ?_|refine aC ?_))
   exact hq (j - 1) _ _ _ _ (by omega) ⟨k+1,by omega,by omega,rfl,e0,e1,e7,rfl,hr⟩ (Sub.refl _)
 ·(repeat(first|refine aB (by simp (disch:=first|omega|exact nnN _|assumption) only [BB,B2,↓reduceIte,Nat.reduceLeDiff,Nat.reduceAdd,CC]<;>rfl) ?_|refine aD ?_|refine aE ?_|with_reducible first|refine aG ?_|refine aF ?_|refine aK ?_|refine aH ?_|refine aJ ?_|refine aI ?_|refine aL ?_|refine aC ?_))
  refine hx _ _ _ _ (fun e=>by cases e) (eB (dA ?_))
  unfold eT
  rw [gB (by omega)] at hr
  exact ⟨_,Sub.refl _,ki hK hr.symm (by omega)⟩
theorem z9 {ro:Ro} {v f:Value} {D:Type} {l:List D} {R:List Value→D→Prop} {q:D→Bool} (hlen:l.length≤1000000) {h:T Obj} {nx:Nat} {K:KV} (hv:SlR ro h v 2 R l)
  (hf:∀ (i:Nat) (hi:i < l.length) x n K',R x l[i]→nx≤n→(∀ n',n≤n'→K' (.bool (q l[i])) h n')→xG (aN Tryz.prog ro) f [.agg x.toArray] h n K')
  (hK:∀ nx',nx≤nx'→K (.bool (l.any q)) h nx'):aN Tryz.prog ro eF [v,f] h nx K:=by
 apply kI
 unfold eS
 refine aCE hlen hv (fun i hi x n K' hx hn hk=>hf i hi x n K' hx (by omega) hk) fun n hn=>?_
 rw [← zR q l 0 (by omega)] at hK
 (first | refine dF (fun hb=>?_) (fun hb=>?_) | refine aDs (fun hb=>?_) (fun hb=>?_) | refine kY (fun hb=>?_) (fun hb=>?_) | refine uN (fun hb=>?_) (fun hb=>?_) | refine rX (fun hb=>?_) (fun hb=>?_) | refine pN (fun hb=>?_) (fun hb=>?_))
 ·exact ⟨_,Sub.refl _,kb hK (decide_eq_true hb) (by omega)⟩
 ·exact ⟨_,Sub.refl _,kb hK (decide_eq_false (by omega)) (by omega)⟩
theorem aBg {ro:Ro} {v f:Value} {D:Type} {l:List D} {R:List Value→D→Prop} {q:D→Bool} (hlen:l.length≤1000000) {h:T Obj} {nx:Nat} {K:KV} (hv:SlR ro h v 4 R l)
  (hf:∀ (i:Nat) (hi:i < l.length) x n K',R x l[i]→nx≤n→(∀ n',n≤n'→K' (.bool (q l[i])) h n')→xG (aN Tryz.prog ro) f [.agg x.toArray] h n K')
  (hK:∀ nx',nx≤nx'→K (.int .i64 (oU q 0 l)) h nx'):aN Tryz.prog ro eO [v,f] h nx K:=by
 apply kR
 unfold fB
 generalize hR:oU q 0 l=r at hK
 refine aB hv.len ?_
 refine bC (fun j e h' nx'=>∃ (k:Nat),k+j=l.length∧nx≤nx'∧h'=h∧e 0=v∧e 1=f∧e 7=.int .i64 l.length∧e 8=.int .i64 k∧oU q k (l.drop k)=r) ?_ (n:=l.length) ⟨0,by omega,by omega,rfl,rfl,rfl,rfl,rfl,hR⟩
 rintro j e h' nx' ⟨k,hj,hnx,rfl,e0,e1,e7,e8,hr⟩ Q' hq hx
 unfold gI
 rw [e0,e1,e7,e8]
 refine dF (fun hk=>?_) (fun hk=>?_)
 ·have hk:k < l.length:=by omega
  rw [bT hk,mS] at hr
  obtain ⟨x,hx1,hx2,hx3,hx4,hx5⟩:=hv.at hk
  (repeat(first|refine aB (by simp (disch:=first|omega|exact nnN _|assumption) only [BB,B2,↓reduceIte,Nat.reduceLeDiff,Nat.reduceAdd,CC]<;>rfl) ?_|refine aD ?_|refine aE ?_|with_reducible first|refine aG ?_|refine aF ?_|refine aK ?_|refine aH ?_|refine aJ ?_|refine aI ?_|refine aL ?_|refine aC ?_))
  refine aB (hv.ix _ hk) (aB hx3 ?_)
  refine hf k hk x _ _ hx1 (by omega) fun n hn=>?_
  cases hc:q l[k] with
  | true =>
   rw [hc,if_pos rfl] at hr
   (repeat(first|refine aB (by simp (disch:=first|omega|exact nnN _|assumption) only [BB,B2,↓reduceIte,Nat.reduceLeDiff,Nat.reduceAdd,CC]<;>rfl) ?_|refine aD ?_|refine aE ?_|with_reducible first|refine aG ?_|refine aF ?_|refine aK ?_|refine aH ?_|refine aJ ?_|refine aI ?_|refine aL ?_|refine aC ?_))
   refine hx _ _ _ _ (fun e=>by cases e) (eL ?_)
   exact ⟨_,Sub.refl _,ki hK hr.symm (by omega)⟩
  | false =>
   rw [hc,if_neg (by decide)] at hr
   (repeat(first|refine aB (by simp (disch:=first|omega|exact nnN _|assumption) only [BB,B2,↓reduceIte,Nat.reduceLeDiff,Nat.reduceAdd,CC]<;>rfl) ?_|refine aD ?_|refine aE ?_|with_reducible first|refine aG ?_|refine aF ?_|refine aK ?_|refine aH ?_|refine aJ ?_|refine aI ?_|refine aL ?_|refine aC ?_))
   exact hq (j - 1) _ _ _ _ (by omega) ⟨k+1,by omega,by omega,rfl,e0,e1,e7,rfl,hr⟩ (Sub.refl _)
 ·(repeat(first|refine aB (by simp (disch:=first|omega|exact nnN _|assumption) only [BB,B2,↓reduceIte,Nat.reduceLeDiff,Nat.reduceAdd,CC]<;>rfl) ?_|refine aD ?_|refine aE ?_|with_reducible first|refine aG ?_|refine aF ?_|refine aK ?_|refine aH ?_|refine aJ ?_|refine aI ?_|refine aL ?_|refine aC ?_))
  refine hx _ _ _ _ (fun e=>by cases e) (eB (dA ?_))
  unfold eK
  rw [gB (by omega)] at hr
  exact ⟨_,Sub.refl _,ki hK hr.symm (by omega)⟩
theorem p8 {ro:Ro} {v f:Value} {D:Type} {l:List D} {R:List Value→D→Prop} {q:D→Bool} (hlen:l.length≤1000000) {h:T Obj} {nx:Nat} {K:KV} (hv:SlR ro h v 4 R l)
  (hf:∀ (i:Nat) (hi:i < l.length) x n K',R x l[i]→nx≤n→(∀ n',n≤n'→K' (.bool (q l[i])) h n')→xG (aN Tryz.prog ro) f [.agg x.toArray] h n K')
  (hK:∀ nx',nx≤nx'→K (.bool (l.any q)) h nx'):aN Tryz.prog ro dE [v,f] h nx K:=by
 apply j8
 unfold eH
 refine aBg hlen hv (fun i hi x n K' hx hn hk=>hf i hi x n K' hx (by omega) hk) fun n hn=>?_
 rw [← zR q l 0 (by omega)] at hK
 (first | refine dF (fun hb=>?_) (fun hb=>?_) | refine aDs (fun hb=>?_) (fun hb=>?_) | refine kY (fun hb=>?_) (fun hb=>?_) | refine uN (fun hb=>?_) (fun hb=>?_) | refine rX (fun hb=>?_) (fun hb=>?_) | refine pN (fun hb=>?_) (fun hb=>?_))
 ·exact ⟨_,Sub.refl _,kb hK (decide_eq_true hb) (by omega)⟩
 ·exact ⟨_,Sub.refl _,kb hK (decide_eq_false (by omega)) (by omega)⟩
set_option maxRecDepth 8000 in
theorem aBG {ro:Ro} {c:List Nat} {n:Int} {cv sv lv rv uv nv ov:Value} {S:List StateD} {R:List Int} {m:MoveD} {i1 i2:Nat} (hc:c.length=256) (hSl:S.length≤256) (hR:R.length≤3) (hmo:m.ops.length≤mF) {h:T Obj} {nx:Nat} {K:KV} (hf:Fr h nx)
  (g1:h.get i1=some (.cells (dQ c n cv sv).toArray dP)) (g2:h.get i2=some (.cells #[lv,rv,uv,nv] a8)) (hS:SlR ro h sv 4 (dX ro h) S) (hrv:ZI ro h rv R) (hov:SlR ro h ov 1 RU8 m.ops) (hK:∀ nx',nx≤nx'→K (.bool (!gT S R m)) h nx'):aN Tryz.prog ro fP [.agg #[.int .i64 m.to,ov],ptr i1,ptr i2] h nx K:=by
 apply uH
 unfold kU
 refine dY hf (Nat.le_refl _) fun h1 hs1 hf1 g3 _=>?_
 have g3:h1.get nx=some (.cells #[.int .i64 m.to,ov] b7):=g3
 refine aB (c8 (hs1 _ _ g1) (cK hc)) ?_
 refine aB (c8 (l:=[lv,rv,uv,nv]) (hs1 _ _ g2) rfl) ?_
 refine aB (c8 (l:=[.int .i64 m.to,ov]) g3 rfl) ?_
 refine aDY hc hSl hR hmo (hf1.mono (by omega)) (hS.sub hs1 (dX.sub hs1)) (hrv.sub hs1) (hov.sub hs1 fun _ _ h=>h) fun n hn=>?_
 (repeat(first|refine aB (by simp (disch:=first|omega|exact nnN _|assumption) only [BB,B2,↓reduceIte,Nat.reduceLeDiff,Nat.reduceAdd,CC]<;>rfl) ?_|refine aD ?_|refine aE ?_|with_reducible first|refine aG ?_|refine aF ?_|refine aK ?_|refine aH ?_|refine aJ ?_|refine aI ?_|refine aL ?_|refine aC ?_))
 exact ⟨h,hs1,hK _ (by omega)⟩
set_option maxRecDepth 8000 in
set_option maxHeartbeats 1000000 in
theorem aCn {ro:Ro} {c:List Nat} {n:Int} {cv sv lv rv uv nv:Value} {S:List StateD} {C:List (Int × Int)} {s:StateD} (hc:c.length=256) (hn:n≤256) (hSl:S.length≤256) (hC:C.length≤512) (hsr:s.r.length≤mF) {h:T Obj} {nx:Nat} {K:KV} (hf:Fr h nx)
  (hcv:SlR ro h cv 2 vB C) (hS:SlR ro h sv 4 (dX ro h) S) (h1:ZI ro h lv s.l) (h2:ZI ro h rv s.r) (h3:ZI ro h uv s.rule) (h4:SlR ro h nv 1 (rN ro h) s.next)
  (hK:∀ nx',nx≤nx'→K (.bool (gJ S n C.length s)) h nx'):aN Tryz.prog ro kZ [.agg (dQ c n cv sv).toArray,.agg #[lv,rv,uv,nv]] h nx K:=by
 apply wO
 unfold mN
 refine dY hf (Nat.le_refl _) fun p1 hs1 hf1 g1 _=>?_
 refine dY hf1 (Nat.le_refl _) fun p2 hs2 hf2 g2 _=>?_
 have g1:p2.get nx=some (.cells (dQ c n cv sv).toArray dP):=hs2 _ _ g1
 have g2:p2.get (nx+1)=some (.cells #[lv,rv,uv,nv] a8):=g2
 have hs:=hs1.trans hs2
 have hS:=hS.sub hs (dX.sub hs)
 have hcv:=hcv.sub hs fun _ _ h=>h
 have h1:=h1.sub hs
 have h2:=h2.sub hs
 have h3:=h3.sub hs
 have h4:=h4.sub hs (rN.sub hs)
 have hsg:=gY (n:=n) (cv:=cv) (sv:=sv) hc
 have hcg:=kS (n:=n) (cv:=cv) (sv:=sv) hc
 have hmg:=aFb (n:=n) (cv:=cv) (sv:=sv) hc
 have l1:=h1.len
 have l2:=h2.len
 have l3:=h3.len
 have l4:=h4.len
 have lc:=hcv.len
 have hno:∀ n',gJ S n C.length s=false→nx≤n'→∃ h',Sub h' p2∧K (.bool false) h' n':=fun n' e hn=>⟨h,hs,kb hK e hn⟩
 unfold gJ at hno hK
 (repeat(first|refine aB (by simp (disch:=first|omega|exact nnN _|assumption) only [BB,B2,↓reduceIte,Nat.reduceLeDiff,Nat.reduceAdd,CC,g2,l2]<;>rfl) ?_|refine aD ?_|refine aE ?_|with_reducible first|refine aG ?_|refine aF ?_|refine aK ?_|refine aH ?_|refine aJ ?_|refine aI ?_|refine aL ?_|refine aC ?_))
 refine aGO fun n1 hn1=>?_
 have hcl:=aBJ s.r.length
 have hcf:=aBo (m:=s.r.length)
 generalize jJ s.r.length=cd at hno hK hcl hcf
 refine rX (fun u1=>?_) (fun u1=>?_)
 ·(repeat(first|refine aB (by simp (disch:=first|omega|exact nnN _|assumption) only [BB,B2,↓reduceIte,Nat.reduceLeDiff,Nat.reduceAdd,CC]<;>rfl) ?_|refine aD ?_|refine aE ?_|with_reducible first|refine aG ?_|refine aF ?_|refine aK ?_|refine aH ?_|refine aJ ?_|refine aI ?_|refine aL ?_|refine aC ?_))
  exact hno _ (by rw [decide_eq_false (by omega)]; rfl) (by omega)
 ·rw [decide_eq_true u1,Bool.true_and] at hno hK
  have hcf:=hcf u1
  (repeat(first|refine aB (by simp (disch:=first|omega|exact nnN _|assumption) only [BB,B2,↓reduceIte,Nat.reduceLeDiff,Nat.reduceAdd,CC,g2,l3]<;>rfl) ?_|refine aD ?_|refine aE ?_|with_reducible first|refine aG ?_|refine aF ?_|refine aK ?_|refine aH ?_|refine aJ ?_|refine aI ?_|refine aL ?_|refine aC ?_))
  refine pN (fun u2=>?_) (fun u2=>?_)
  ·(repeat(first|refine aB (by simp (disch:=first|omega|exact nnN _|assumption) only [BB,B2,↓reduceIte,Nat.reduceLeDiff,Nat.reduceAdd,CC]<;>rfl) ?_|refine aD ?_|refine aE ?_|with_reducible first|refine aG ?_|refine aF ?_|refine aK ?_|refine aH ?_|refine aJ ?_|refine aI ?_|refine aL ?_|refine aC ?_))
   exact hno _ (by rw [decide_eq_false (by omega)]; rfl) (by omega)
  ·rw [decide_eq_true u2,Bool.true_and] at hno hK
   (repeat(first|refine aB (by simp (disch:=first|omega|exact nnN _|assumption) only [BB,B2,↓reduceIte,Nat.reduceLeDiff,Nat.reduceAdd,CC,g2,l4]<;>rfl) ?_|refine aD ?_|refine aE ?_|with_reducible first|refine aG ?_|refine aF ?_|refine aK ?_|refine aH ?_|refine aJ ?_|refine aI ?_|refine aL ?_|refine aC ?_))
   refine pN (fun u3=>?_) (fun u3=>?_)
   ·(repeat(first|refine aB (by simp (disch:=first|omega|exact nnN _|assumption) only [BB,B2,↓reduceIte,Nat.reduceLeDiff,Nat.reduceAdd,CC]<;>rfl) ?_|refine aD ?_|refine aE ?_|with_reducible first|refine aG ?_|refine aF ?_|refine aK ?_|refine aH ?_|refine aJ ?_|refine aI ?_|refine aL ?_|refine aC ?_))
    exact hno _ (by rw [decide_eq_false (by omega)]; rfl) (by omega)
   ·rw [decide_eq_true u3,Bool.true_and] at hno hK
    (repeat(first|refine aB (by simp (disch:=first|omega|exact nnN _|assumption) only [BB,B2,↓reduceIte,Nat.reduceLeDiff,Nat.reduceAdd,CC,g2]<;>rfl) ?_|refine aD ?_|refine aE ?_|with_reducible first|refine aG ?_|refine aF ?_|refine aK ?_|refine aH ?_|refine aJ ?_|refine aI ?_|refine aL ?_|refine aC ?_))
    refine aBE (by omega) h1 fun n2 hn2=>?_
    cases u4:rz (-1) 512 s.l with
    | false =>
     (repeat(first|refine aB (by simp (disch:=first|omega|exact nnN _|assumption) only [BB,B2,↓reduceIte,Nat.reduceLeDiff,Nat.reduceAdd,CC]<;>rfl) ?_|refine aD ?_|refine aE ?_|with_reducible first|refine aG ?_|refine aF ?_|refine aK ?_|refine aH ?_|refine aJ ?_|refine aI ?_|refine aL ?_|refine aC ?_))
     exact hno _ (by rw [u4]; rfl) (by omega)
    | true =>
     rw [u4,Bool.true_and] at hno hK
     (repeat(first|refine aB (by simp (disch:=first|omega|exact nnN _|assumption) only [BB,B2,↓reduceIte,Nat.reduceLeDiff,Nat.reduceAdd,CC,g1,g2,hcg,lc]<;>rfl) ?_|refine aD ?_|refine aE ?_|with_reducible first|refine aG ?_|refine aF ?_|refine aK ?_|refine aH ?_|refine aJ ?_|refine aI ?_|refine aL ?_|refine aC ?_))
     refine aBE (by omega) h2 fun n3 hn3=>?_
     cases u5:rz (-1) C.length s.r with
     | false =>
      (repeat(first|refine aB (by simp (disch:=first|omega|exact nnN _|assumption) only [BB,B2,↓reduceIte,Nat.reduceLeDiff,Nat.reduceAdd,CC]<;>rfl) ?_|refine aD ?_|refine aE ?_|with_reducible first|refine aG ?_|refine aF ?_|refine aK ?_|refine aH ?_|refine aJ ?_|refine aI ?_|refine aL ?_|refine aC ?_))
      exact hno _ (by rw [u5]; rfl) (by omega)
     | true =>
      rw [u5,Bool.true_and] at hno hK
      (repeat(first|refine aB (by simp (disch:=first|omega|exact nnN _|assumption) only [BB,B2,↓reduceIte,Nat.reduceLeDiff,Nat.reduceAdd,CC,g2,l4]<;>rfl) ?_|refine aD ?_|refine aE ?_|with_reducible first|refine aG ?_|refine aF ?_|refine aK ?_|refine aH ?_|refine aJ ?_|refine aI ?_|refine aL ?_|refine aC ?_))
      generalize hB:oF S s.r n s.rule s.next=B at hno hK
      refine bC (fun j e h' nx'=>∃ (k:Nat),k+j=s.next.length∧n3≤nx'∧h'=p2∧e 2=ptr nx∧e 3=ptr (nx+1)∧e 45=nv∧e 46=.int .i64 s.next.length∧e 47=.int .i64 k∧oF S s.r n (s.rule.drop k) (s.next.drop k)=B) ?_ (n:=s.next.length) ⟨0,by omega,by omega,rfl,rfl,rfl,rfl,rfl,rfl,hB⟩
      rintro j e h' nx' ⟨k,hj,hnx,rfl,e2,e3,e45,e46,e47,hr⟩ Q' hq hx
      unfold oR
      rw [e2,e3,e45,e46,e47]
      refine dF (fun hk=>?_) (fun hk=>?_)
      ·have hk:k < s.next.length:=by omega
       have hk2:k < s.rule.length:=by omega
       rw [bT hk,bT hk2,pR] at hr
       have nix:=h4.ix .i64 hk
       obtain ⟨w,⟨w',ow,orow,olen⟩,o1⟩:=h4.at1 hk
       simp only [List.cons.injEq,and_true] at ow
       subst ow
       have uix:=h3.ix .i64 hk2
       have uld:=h3.load hk2
       generalize s.next[k]=row at hr o1 orow olen
       generalize s.rule[k]=ru at hr uld
       have rl:=orow.len
       have hfin:∀ (e':Env) n',e' 4=.bool false→wM S s.r n ru row=false→nx≤n'→Q' .ret e' h' n':=fun e' n' h6 hc hn=>by
        refine hx _ _ _ _ (fun e=>by cases e) (eL ?_)
        rw [h6]
        refine ⟨h,hs,kb hK ?_ hn⟩
        rw [← hr,hc]; rfl
       have hok:∀ (e':Env) n',e' 2=ptr nx→e' 3=ptr (nx+1)→e' 45=nv→e' 46=.int .i64 s.next.length→e' 47=.int .i64 ((k:Int)+1)→wM S s.r n ru row=true→n3≤n'→Q' .normal e' h' n':=fun e' n' f2 f3 f45 f46 f47 hc hn =>
        hq (j - 1) _ _ _ _ (by omega) ⟨k+1,by omega,hn,rfl,f2,f3,f45,f46,f47,by rw [← hr,hc]; rfl⟩ (Sub.refl _)
       unfold wM at hfin hok
       (repeat(first|refine aB (by simp (disch:=first|omega|exact nnN _|assumption) only [BB,B2,↓reduceIte,Nat.reduceLeDiff,Nat.reduceAdd,CC,g2,nix,o1,uix,uld]<;>rfl) ?_|refine aD ?_|refine aE ?_|with_reducible first|refine aG ?_|refine aF ?_|refine aK ?_|refine aH ?_|refine aJ ?_|refine aI ?_|refine aL ?_|refine aC ?_))
       refine dF (fun v1=>?_) (fun v1=>?_)
       ·(repeat(first|refine aB (by simp (disch:=first|omega|exact nnN _|assumption) only [BB,B2,↓reduceIte,Nat.reduceLeDiff,Nat.reduceAdd,CC]<;>rfl) ?_|refine aD ?_|refine aE ?_|with_reducible first|refine aG ?_|refine aF ?_|refine aK ?_|refine aH ?_|refine aJ ?_|refine aI ?_|refine aL ?_|refine aC ?_))
        exact hfin _ _ rfl (by rw [decide_eq_false (by omega)]; rfl) (by omega)
       ·rw [decide_eq_true v1,Bool.true_and] at hfin hok
        (repeat(first|refine aB (by simp (disch:=first|omega|exact nnN _|assumption) only [BB,B2,↓reduceIte,Nat.reduceLeDiff,Nat.reduceAdd,CC,g2,uix,uld]<;>rfl) ?_|refine aD ?_|refine aE ?_|with_reducible first|refine aG ?_|refine aF ?_|refine aK ?_|refine aH ?_|refine aJ ?_|refine aI ?_|refine aL ?_|refine aC ?_))
        refine uN (fun v2=>?_) (fun v2=>?_)
        ·(repeat(first|refine aB (by simp (disch:=first|omega|exact nnN _|assumption) only [BB,B2,↓reduceIte,Nat.reduceLeDiff,Nat.reduceAdd,CC]<;>rfl) ?_|refine aD ?_|refine aE ?_|with_reducible first|refine aG ?_|refine aF ?_|refine aK ?_|refine aH ?_|refine aJ ?_|refine aI ?_|refine aL ?_|refine aC ?_))
         exact hfin _ _ rfl (by rw [decide_eq_false (by omega)]; rfl) (by omega)
        ·rw [decide_eq_true v2,Bool.true_and] at hfin hok
         (repeat(first|refine aB (by simp (disch:=first|omega|exact nnN _|assumption) only [BB,B2,↓reduceIte,Nat.reduceLeDiff,Nat.reduceAdd,CC,g1,rl,hmg]<;>rfl) ?_|refine aD ?_|refine aE ?_|with_reducible first|refine aG ?_|refine aF ?_|refine aK ?_|refine aH ?_|refine aJ ?_|refine aI ?_|refine aL ?_|refine aC ?_))
         refine pN (fun v3=>?_) (fun v3=>?_)
         ·(repeat(first|refine aB (by simp (disch:=first|omega|exact nnN _|assumption) only [BB,B2,↓reduceIte,Nat.reduceLeDiff,Nat.reduceAdd,CC]<;>rfl) ?_|refine aD ?_|refine aE ?_|with_reducible first|refine aG ?_|refine aF ?_|refine aK ?_|refine aH ?_|refine aJ ?_|refine aI ?_|refine aL ?_|refine aC ?_))
          exact hfin _ _ rfl (by rw [decide_eq_false (by omega)]; rfl) (by omega)
         ·rw [decide_eq_true (by omega),Bool.true_and] at hfin hok
          (repeat(first|refine aB (by simp (disch:=first|omega|exact nnN _|assumption) only [BB,B2,↓reduceIte,Nat.reduceLeDiff,Nat.reduceAdd,CC]<;>rfl) ?_|refine aD ?_|refine aE ?_|with_reducible first|refine aG ?_|refine aF ?_|refine aK ?_|refine aH ?_|refine aJ ?_|refine aI ?_|refine aL ?_|refine aC ?_))
          refine z9 (q:=fun m=>!gT S s.r m) (by omega) orow (fun i hi x n' K' hx hn' hk'=>?_) fun n' hn'=>?_
          ·obtain ⟨ov,rfl,y1,y2⟩:=hx
           exact aBG hc hSl (by omega) y2 (hf2.mono (by omega)) g1 g2 hS h2 y1 hk'
          ·rw [← aGL] at hfin hok
           cases hany:row.any fun m=>!gT S s.r m with
           | true =>
            rw [hany] at hfin
            (repeat(first|refine aB (by simp (disch:=first|omega|exact nnN _|assumption) only [BB,B2,↓reduceIte,Nat.reduceLeDiff,Nat.reduceAdd,CC]<;>rfl) ?_|refine aD ?_|refine aE ?_|with_reducible first|refine aG ?_|refine aF ?_|refine aK ?_|refine aH ?_|refine aJ ?_|refine aI ?_|refine aL ?_|refine aC ?_))
            exact hfin _ _ rfl rfl (by omega)
           | false =>
            rw [hany] at hok
            (repeat(first|refine aB (by simp (disch:=first|omega|exact nnN _|assumption) only [BB,B2,↓reduceIte,Nat.reduceLeDiff,Nat.reduceAdd,CC]<;>rfl) ?_|refine aD ?_|refine aE ?_|with_reducible first|refine aG ?_|refine aF ?_|refine aK ?_|refine aH ?_|refine aJ ?_|refine aI ?_|refine aL ?_|refine aC ?_))
            exact hok _ _ e2 e3 e45 e46 rfl rfl (by omega)
      ·(repeat(first|refine aB (by simp (disch:=first|omega|exact nnN _|assumption) only [BB,B2,↓reduceIte,Nat.reduceLeDiff,Nat.reduceAdd,CC]<;>rfl) ?_|refine aD ?_|refine aE ?_|with_reducible first|refine aG ?_|refine aF ?_|refine aK ?_|refine aH ?_|refine aJ ?_|refine aI ?_|refine aL ?_|refine aC ?_))
       refine hx _ _ _ _ (fun e=>by cases e) (eB (dA ?_))
       unfold kF
       rw [gB (l:=s.next) (by omega),v7] at hr
       exact ⟨h,hs,kb hK hr.symm (by omega)⟩
set_option maxRecDepth 8000 in
set_option maxHeartbeats 2000000 in
theorem aFZ {ro:Ro} {c:List Nat} {n:Int} {cv sv lv rv uv nv:Value} {S:List StateD} {C:List (Int × Int)} {s:StateD} (hc:c.length=256) (hn:n≤256) (hSl:S.length≤256) (hC:C.length≤512) (hsr:s.r.length≤mF) {h:T Obj} {nx:Nat} {K:KV} (hf:Fr h nx)
  (hcv:SlR ro h cv 2 vB C) (hS:SlR ro h sv 4 (dX ro h) S) (h1:ZI ro h lv s.l) (h2:ZI ro h rv s.r) (h3:ZI ro h uv s.rule) (h4:SlR ro h nv 1 (rN ro h) s.next)
  (hK:∀ nx',nx≤nx'→K (.bool (gJ S n C.length s)) h nx'):aN Tryz.prog ro tS [.agg (dQ c n cv sv).toArray,.agg #[lv,rv,uv,nv]] h nx K:=by
 apply aEW
 unfold yP
 refine dY hf (Nat.le_refl _) fun p1 hs1 hf1 g1 _=>?_
 refine dY hf1 (Nat.le_refl _) fun p2 hs2 hf2 g2 _=>?_
 have g1:p2.get nx=some (.cells (dQ c n cv sv).toArray bG):=hs2 _ _ g1
 have g2:p2.get (nx+1)=some (.cells #[lv,rv,uv,nv] a8):=g2
 have hs:=hs1.trans hs2
 have hS:=hS.sub hs (dX.sub hs)
 have hcv:=hcv.sub hs fun _ _ h=>h
 have h1:=h1.sub hs
 have h2:=h2.sub hs
 have h3:=h3.sub hs
 have h4:=h4.sub hs (rN.sub hs)
 have hsg:=gY (n:=n) (cv:=cv) (sv:=sv) hc
 have hcg:=kS (n:=n) (cv:=cv) (sv:=sv) hc
 have hmg:=aFb (n:=n) (cv:=cv) (sv:=sv) hc
 have LA:=c8 (ro:=ro) (z:=0) (n:=259) (l:=dQ c n cv sv) g1 (cK hc)
 have LS:=c8 (ro:=ro) (z:=0) (n:=4) (l:=[lv,rv,uv,nv]) g2 rfl
 have l1:=h1.len
 have l2:=h2.len
 have l3:=h3.len
 have l4:=h4.len
 have lc:=hcv.len
 have hno:∀ n',gJ S n C.length s=false→nx≤n'→∃ h',Sub h' p2∧K (.bool false) h' n':=fun n' e hn=>⟨h,hs,kb hK e hn⟩
 unfold gJ at hno hK
 (repeat(first|refine aB (by simp (disch:=first|omega|exact nnN _|assumption) only [BB,B2,↓reduceIte,Nat.reduceLeDiff,Nat.reduceAdd,CC,g2,l2]<;>rfl) ?_|refine aD ?_|refine aE ?_|with_reducible first|refine aG ?_|refine aF ?_|refine aK ?_|refine aH ?_|refine aJ ?_|refine aI ?_|refine aL ?_|refine aC ?_))
 refine aFV fun n1 hn1=>?_
 have hcl:=aBJ s.r.length
 have hcf:=aBo (m:=s.r.length)
 generalize jJ s.r.length=cd at hno hK hcl hcf
 refine rX (fun u1=>?_) (fun u1=>?_)
 ·(repeat(first|refine aB (by simp (disch:=first|omega|exact nnN _|assumption) only [BB,B2,↓reduceIte,Nat.reduceLeDiff,Nat.reduceAdd,CC]<;>rfl) ?_|refine aD ?_|refine aE ?_|with_reducible first|refine aG ?_|refine aF ?_|refine aK ?_|refine aH ?_|refine aJ ?_|refine aI ?_|refine aL ?_|refine aC ?_))
  exact hno _ (by rw [decide_eq_false (by omega)]; rfl) (by omega)
 ·rw [decide_eq_true u1,Bool.true_and] at hno hK
  have hcf:=hcf u1
  (repeat(first|refine aB (by simp (disch:=first|omega|exact nnN _|assumption) only [BB,B2,↓reduceIte,Nat.reduceLeDiff,Nat.reduceAdd,CC,g2]<;>rfl) ?_|refine aD ?_|refine aE ?_|with_reducible first|refine aG ?_|refine aF ?_|refine aK ?_|refine aH ?_|refine aJ ?_|refine aI ?_|refine aL ?_|refine aC ?_))
  refine aAW (by omega) h1 fun n2 hn2=>?_
  cases u4:rz (-1) 512 s.l with
  | false =>
   (repeat(first|refine aB (by simp (disch:=first|omega|exact nnN _|assumption) only [BB,B2,↓reduceIte,Nat.reduceLeDiff,Nat.reduceAdd,CC]<;>rfl) ?_|refine aD ?_|refine aE ?_|with_reducible first|refine aG ?_|refine aF ?_|refine aK ?_|refine aH ?_|refine aJ ?_|refine aI ?_|refine aL ?_|refine aC ?_))
   exact hno _ (by rw [u4]; simp) (by omega)
  | true =>
   rw [u4,Bool.true_and] at hno hK
   (repeat(first|refine aB (by simp (disch:=first|omega|exact nnN _|assumption) only [BB,B2,↓reduceIte,Nat.reduceLeDiff,Nat.reduceAdd,CC,g1,g2,hcg,lc]<;>rfl) ?_|refine aD ?_|refine aE ?_|with_reducible first|refine aG ?_|refine aF ?_|refine aK ?_|refine aH ?_|refine aJ ?_|refine aI ?_|refine aL ?_|refine aC ?_))
   refine aAW (by omega) h2 fun n3 hn3=>?_
   cases u5:rz (-1) C.length s.r with
   | false =>
    (repeat(first|refine aB (by simp (disch:=first|omega|exact nnN _|assumption) only [BB,B2,↓reduceIte,Nat.reduceLeDiff,Nat.reduceAdd,CC]<;>rfl) ?_|refine aD ?_|refine aE ?_|with_reducible first|refine aG ?_|refine aF ?_|refine aK ?_|refine aH ?_|refine aJ ?_|refine aI ?_|refine aL ?_|refine aC ?_))
    exact hno _ (by rw [u5]; simp) (by omega)
   | true =>
    rw [u5,Bool.true_and] at hno hK
    (repeat(first|refine aB (by simp (disch:=first|omega|exact nnN _|assumption) only [BB,B2,↓reduceIte,Nat.reduceLeDiff,Nat.reduceAdd,CC,g2,l3]<;>rfl) ?_|refine aD ?_|refine aE ?_|with_reducible first|refine aG ?_|refine aF ?_|refine aK ?_|refine aH ?_|refine aJ ?_|refine aI ?_|refine aL ?_|refine aC ?_))
    refine pN (fun u2=>?_) (fun u2=>?_)
    ·(repeat(first|refine aB (by simp (disch:=first|omega|exact nnN _|assumption) only [BB,B2,↓reduceIte,Nat.reduceLeDiff,Nat.reduceAdd,CC]<;>rfl) ?_|refine aD ?_|refine aE ?_|with_reducible first|refine aG ?_|refine aF ?_|refine aK ?_|refine aH ?_|refine aJ ?_|refine aI ?_|refine aL ?_|refine aC ?_))
     exact hno _ (by rw [decide_eq_false (by omega)]; rfl) (by omega)
    ·rw [decide_eq_true u2,Bool.true_and] at hno hK
     (repeat(first|refine aB (by simp (disch:=first|omega|exact nnN _|assumption) only [BB,B2,↓reduceIte,Nat.reduceLeDiff,Nat.reduceAdd,CC,g2,l4]<;>rfl) ?_|refine aD ?_|refine aE ?_|with_reducible first|refine aG ?_|refine aF ?_|refine aK ?_|refine aH ?_|refine aJ ?_|refine aI ?_|refine aL ?_|refine aC ?_))
     refine pN (fun u3=>?_) (fun u3=>?_)
     ·(repeat(first|refine aB (by simp (disch:=first|omega|exact nnN _|assumption) only [BB,B2,↓reduceIte,Nat.reduceLeDiff,Nat.reduceAdd,CC]<;>rfl) ?_|refine aD ?_|refine aE ?_|with_reducible first|refine aG ?_|refine aF ?_|refine aK ?_|refine aH ?_|refine aJ ?_|refine aI ?_|refine aL ?_|refine aC ?_))
      exact hno _ (by rw [decide_eq_false (by omega)]; rfl) (by omega)
     ·rw [decide_eq_true u3,Bool.true_and] at hno hK
      (repeat(first|refine aB (by simp (disch:=first|omega|exact nnN _|assumption) only [BB,B2,↓reduceIte,Nat.reduceLeDiff,Nat.reduceAdd,CC]<;>rfl) ?_|refine aD ?_|refine aE ?_|with_reducible first|refine aG ?_|refine aF ?_|refine aK ?_|refine aH ?_|refine aJ ?_|refine aI ?_|refine aL ?_|refine aC ?_))
      generalize hB:oF S s.r n s.rule s.next=B at hno hK
      refine bC (fun j e h' nx'=>∃ (k:Nat),k+j=s.next.length∧n3≤nx'∧h'=p2∧e 2=ptr nx∧e 3=ptr (nx+1)∧e 5=.int .i64 cd∧e 6=.int .i64 k∧oF S s.r n (s.rule.drop k) (s.next.drop k)=B) ?_ (n:=s.next.length) ⟨0,by omega,by omega,rfl,rfl,rfl,rfl,rfl,hB⟩
      rintro j e h' nx' ⟨k,hj,hnx,rfl,e2,e3,e5,e6,hr⟩ Q' hq hx
      unfold yQ
      rw [e2,e3,e5,e6]
      refine dF (fun hk=>?_) (fun hk=>?_)
      ·have hk:k < s.next.length:=by omega
       have hk2:k < s.rule.length:=by omega
       rw [bT hk,bT hk2,pR] at hr
       have nix:=h4.ix .i64 hk
       obtain ⟨w,⟨w',ow,orow,olen⟩,o1⟩:=h4.at1 hk
       simp only [List.cons.injEq,and_true] at ow
       subst ow
       have uix:=h3.ix .i64 hk2
       have uld:=h3.load hk2
       generalize s.next[k]=row at hr o1 orow olen
       generalize s.rule[k]=ru at hr uld
       have rl:=orow.len
       have hfin:∀ (e':Env) n',e' 4=.bool false→wM S s.r n ru row=false→nx≤n'→Q' .ret e' h' n':=fun e' n' h6 hc hn=>by
        refine hx _ _ _ _ (fun e=>by cases e) (eL ?_)
        rw [h6]
        refine ⟨h,hs,kb hK ?_ hn⟩
        rw [← hr,hc]; rfl
       have hok:∀ (e':Env) n',e' 2=ptr nx→e' 3=ptr (nx+1)→e' 5=.int .i64 cd→e' 6=.int .i64 ((k:Int)+1)→wM S s.r n ru row=true→n3≤n'→Q' .normal e' h' n':=fun e' n' f2 f3 f5 f6 hc hn =>
        hq (j - 1) _ _ _ _ (by omega) ⟨k+1,by omega,hn,rfl,f2,f3,f5,f6,by rw [← hr,hc]; rfl⟩ (Sub.refl _)
       unfold wM at hfin hok
       (repeat(first|refine aB (by simp (disch:=first|omega|exact nnN _|assumption) only [BB,B2,↓reduceIte,Nat.reduceLeDiff,Nat.reduceAdd,CC,g2,uix,uld]<;>rfl) ?_|refine aD ?_|refine aE ?_|with_reducible first|refine aG ?_|refine aF ?_|refine aK ?_|refine aH ?_|refine aJ ?_|refine aI ?_|refine aL ?_|refine aC ?_))
       refine dF (fun v1=>?_) (fun v1=>?_)
       ·(repeat(first|refine aB (by simp (disch:=first|omega|exact nnN _|assumption) only [BB,B2,↓reduceIte,Nat.reduceLeDiff,Nat.reduceAdd,CC]<;>rfl) ?_|refine aD ?_|refine aE ?_|with_reducible first|refine aG ?_|refine aF ?_|refine aK ?_|refine aH ?_|refine aJ ?_|refine aI ?_|refine aL ?_|refine aC ?_))
        exact hfin _ _ rfl (by rw [decide_eq_false (by omega)]; rfl) (by omega)
       ·rw [decide_eq_true v1,Bool.true_and] at hfin hok
        (repeat(first|refine aB (by simp (disch:=first|omega|exact nnN _|assumption) only [BB,B2,↓reduceIte,Nat.reduceLeDiff,Nat.reduceAdd,CC,g2,uix,uld]<;>rfl) ?_|refine aD ?_|refine aE ?_|with_reducible first|refine aG ?_|refine aF ?_|refine aK ?_|refine aH ?_|refine aJ ?_|refine aI ?_|refine aL ?_|refine aC ?_))
        refine uN (fun v2=>?_) (fun v2=>?_)
        ·(repeat(first|refine aB (by simp (disch:=first|omega|exact nnN _|assumption) only [BB,B2,↓reduceIte,Nat.reduceLeDiff,Nat.reduceAdd,CC]<;>rfl) ?_|refine aD ?_|refine aE ?_|with_reducible first|refine aG ?_|refine aF ?_|refine aK ?_|refine aH ?_|refine aJ ?_|refine aI ?_|refine aL ?_|refine aC ?_))
         exact hfin _ _ rfl (by rw [decide_eq_false (by omega)]; rfl) (by omega)
        ·rw [decide_eq_true v2,Bool.true_and] at hfin hok
         (repeat(first|refine aB (by simp (disch:=first|omega|exact nnN _|assumption) only [BB,B2,↓reduceIte,Nat.reduceLeDiff,Nat.reduceAdd,CC,g1,g2,nix,o1,rl,hmg]<;>rfl) ?_|refine aD ?_|refine aE ?_|with_reducible first|refine aG ?_|refine aF ?_|refine aK ?_|refine aH ?_|refine aJ ?_|refine aI ?_|refine aL ?_|refine aC ?_))
         refine pN (fun v3=>?_) (fun v3=>?_)
         ·(repeat(first|refine aB (by simp (disch:=first|omega|exact nnN _|assumption) only [BB,B2,↓reduceIte,Nat.reduceLeDiff,Nat.reduceAdd,CC]<;>rfl) ?_|refine aD ?_|refine aE ?_|with_reducible first|refine aG ?_|refine aF ?_|refine aK ?_|refine aH ?_|refine aJ ?_|refine aI ?_|refine aL ?_|refine aC ?_))
          exact hfin _ _ rfl (by rw [decide_eq_false (by omega)]; rfl) (by omega)
         ·rw [decide_eq_true (by omega),Bool.true_and] at hfin hok
          (repeat(first|refine aB (by simp (disch:=first|omega|exact nnN _|assumption) only [BB,B2,↓reduceIte,Nat.reduceLeDiff,Nat.reduceAdd,CC]<;>rfl) ?_|refine aD ?_|refine aE ?_|with_reducible first|refine aG ?_|refine aF ?_|refine aK ?_|refine aH ?_|refine aJ ?_|refine aI ?_|refine aL ?_|refine aC ?_))
          generalize hA:row.all (gT S s.r)=A at hfin hok
          refine bC (fun j e h'' nx'=>∃ (q:Nat),q+j=row.length∧n3≤nx'∧h''=h'∧e 2=ptr nx∧e 3=ptr (nx+1)∧e 5=.int .i64 cd∧e 6=.int .i64 k∧e 7=.int .i64 q∧(row.drop q).all (gT S s.r)=A) ?_ (n:=row.length) ⟨0,by omega,by omega,rfl,e2,e3,e5,e6,rfl,hA⟩
          rintro j2 e' h'' nx2 ⟨q,hj2,hnx2,rfl,f2,f3,f5,f6,f7,hr2⟩ Q2 hq2 hx
          unfold yR
          rw [f2,f3,f6,f7]
          (repeat(first|refine aB (by simp (disch:=first|omega|exact nnN _|assumption) only [BB,B2,↓reduceIte,Nat.reduceLeDiff,Nat.reduceAdd,CC,g2,nix,o1,rl]<;>rfl) ?_|refine aD ?_|refine aE ?_|with_reducible first|refine aG ?_|refine aF ?_|refine aK ?_|refine aH ?_|refine aJ ?_|refine aI ?_|refine aL ?_|refine aC ?_))
          refine dF (fun hk3=>?_) (fun hk3=>?_)
          ·have hk3:q < row.length:=by omega
           rw [bT hk3,List.all_cons] at hr2
           have qix:=orow.ix .i64 hk3
           obtain ⟨x,⟨ov,rfl,y1,y2⟩,hx2,hx3,hx4,hx5⟩:=orow.at hk3
           generalize row[q]=m at hr2 y1 y2 hx3 hx5
           (repeat(first|refine aB (by simp (disch:=first|omega|exact nnN _|assumption) only [BB,B2,↓reduceIte,Nat.reduceLeDiff,Nat.reduceAdd,CC,LA,LS,g2,nix,o1,qix,hx3]<;>rfl) ?_|refine aD ?_|refine aE ?_|with_reducible first|refine aG ?_|refine aF ?_|refine aK ?_|refine aH ?_|refine aJ ?_|refine aI ?_|refine aL ?_|refine aC ?_))
           refine aHB hc hSl (by omega) y2 (hf2.mono (by omega)) hS h2 y1 fun n4 hn4=>?_
           cases hm:gT S s.r m with
           | true =>
            rw [hm,Bool.true_and] at hr2
            have hok2:∀ (e':Env) n',e' 2=ptr nx→e' 3=ptr (nx+1)→e' 5=.int .i64 cd→e' 6=.int .i64 k→e' 7=.int .i64 ((q:Int)+1)→n3≤n'→Q2 .normal e' h'' n':=fun e' n' z2 z3 z5 z6 z7 hn =>
             hq2 (j2 - 1) _ _ _ _ (by omega) ⟨q+1,by omega,hn,rfl,z2,z3,z5,z6,z7,hr2⟩ (Sub.refl _)
            (repeat(first|refine aB (by simp (disch:=first|omega|exact nnN _|assumption) only [BB,B2,↓reduceIte,Nat.reduceLeDiff,Nat.reduceAdd,CC]<;>rfl) ?_|refine aD ?_|refine aE ?_|with_reducible first|refine aG ?_|refine aF ?_|refine aK ?_|refine aH ?_|refine aJ ?_|refine aI ?_|refine aL ?_|refine aC ?_))
            exact hok2 _ _ f2 f3 f5 f6 rfl (by omega)
           | false =>
            rw [hm,Bool.false_and] at hr2
            subst hr2
            (repeat(first|refine aB (by simp (disch:=first|omega|exact nnN _|assumption) only [BB,B2,↓reduceIte,Nat.reduceLeDiff,Nat.reduceAdd,CC]<;>rfl) ?_|refine aD ?_|refine aE ?_|with_reducible first|refine aG ?_|refine aF ?_|refine aK ?_|refine aH ?_|refine aJ ?_|refine aI ?_|refine aL ?_|refine aC ?_))
            refine hx _ _ _ _ (fun e=>by cases e) (eL ?_)
            exact hfin _ _ rfl rfl (by omega)
          ·rw [gB (by omega)] at hr2
           have hr2:true=A:=hr2
           subst hr2
           (repeat(first|refine aB (by simp (disch:=first|omega|exact nnN _|assumption) only [BB,B2,↓reduceIte,Nat.reduceLeDiff,Nat.reduceAdd,CC]<;>rfl) ?_|refine aD ?_|refine aE ?_|with_reducible first|refine aG ?_|refine aF ?_|refine aK ?_|refine aH ?_|refine aJ ?_|refine aI ?_|refine aL ?_|refine aC ?_))
           refine hx _ _ _ _ (fun e=>by cases e) (eB (dA ?_))
           have hend:∀ (e':Env) n',e' 2=ptr nx→e' 3=ptr (nx+1)→e' 5=.int .i64 cd→e' 6=.int .i64 k→n3≤n'→lE ro Q' e' h'' n':=fun e' n' z2 z3 z5 z6 hn=>by
            unfold lE
            rw [z6]
            (repeat(first|refine aB (by simp (disch:=first|omega|exact nnN _|assumption) only [BB,B2,↓reduceIte,Nat.reduceLeDiff,Nat.reduceAdd,CC]<;>rfl) ?_|refine aD ?_|refine aE ?_|with_reducible first|refine aG ?_|refine aF ?_|refine aK ?_|refine aH ?_|refine aJ ?_|refine aI ?_|refine aL ?_|refine aC ?_))
            exact hok _ _ z2 z3 z5 rfl rfl (by omega)
           exact hend _ _ f2 f3 f5 f6 (by omega)
      ·(repeat(first|refine aB (by simp (disch:=first|omega|exact nnN _|assumption) only [BB,B2,↓reduceIte,Nat.reduceLeDiff,Nat.reduceAdd,CC]<;>rfl) ?_|refine aD ?_|refine aE ?_|with_reducible first|refine aG ?_|refine aF ?_|refine aK ?_|refine aH ?_|refine aJ ?_|refine aI ?_|refine aL ?_|refine aC ?_))
       refine hx _ _ _ _ (fun e=>by cases e) (eB (dA ?_))
       unfold sT
       rw [gB (l:=s.next) (by omega),v7] at hr
       exact ⟨h,hs,kb hK hr.symm (by omega)⟩
theorem SlR.okC {D:Type} {ro:Ro} {h:T Obj} {v:Value} {z:Nat} {R:List Value→D→Prop} {l:List D} (hl:SlR ro h v z R l):cP v=true:=by obtain ⟨cs,h9,_⟩:=hl; exact h9.ok
def mJ (p:Int × Int):Bool:=decide (1≤p.1)&&(decide (p.1≤p.2)&&(decide (2≤p.2)&&decide (p.2≤4096)))
def zS (S:List StateD):Bool:=decide ((S.getD 0 noS).l.length=0)&&decide ((S.getD 0 noS).r.length=0)
def eW (d:AutoD):Bool:=oD d.c d.many&&(decide (d.counts.length≤512)&&(decide (1≤d.states.length)&&(decide (d.states.length≤256)&&(zS d.states&&(d.counts.all mJ&&d.states.all (gJ d.states d.many d.counts.length))))))
theorem aAs {c:List Nat} {n:Int} (h:oD c n=true):n≤256:=by
 unfold oD at h
 split at h
 ·rename_i m hm
  have:=aK8 hm
  simp only [decide_eq_true_eq] at h
  omega
 ·cases h
theorem aKa:∀ {l:List Int} {a m:Int},rz a m l=true→(l.length:Int)≤max 0 (m - a - 1)
 | [],a,m,_=>by simp only [List.length_nil]; omega
 | x::r,a,m,h=>by
  rw [aDK] at h
  simp only [Bool.and_eq_true,decide_eq_true_eq] at h
  have:=aKa h.2.2
  rw [List.length_cons]
  omega
theorem aGE {S:List StateD} {n:Int} {cn:Nat} {s:StateD} (h:gJ S n cn s=true):s.l.length≤512∧s.r.length≤3:=by
 unfold gJ at h
 simp only [Bool.and_eq_true,decide_eq_true_eq] at h
 have h1:=aKa h.2.2.2.1
 have h2:=aBo h.1
 omega
theorem aPn {a b:Nat} (h:wr .i64 ((a:Int)+b)≤0):a+b=0∨9223372036854775807 < a+b:=by
 rcases Nat.lt_or_ge 9223372036854775807 (a+b) with h1 | h1
 ·exact .inr h1
 ·rw [eP (by omega) (by omega)] at h
  exact .inl (by omega)
theorem aOd {a b:Nat} (h:0 < wr .i64 ((a:Int)+b)):a≠0∨b≠0:=by
 rcases Nat.eq_zero_or_pos (a+b) with h1 | h1
 ·rw [show (a:Int)+b=0 by omega] at h
  exact absurd h (by decide)
 ·omega
theorem aFA {c:List Nat} {n:Int} {cv sv:Value} (hc:c.length=256):eX Tryz.prog dP [(0,.agg (dQ c n cv sv).toArray)]=some (.agg (dQ c n cv sv).toArray):=by
 have h1:((zer Tryz.prog dP).bind fun z=>match z with
  | .agg a=>if a.size=259 then some true else none
  | _=>none)=some true:=by kernel_rfl
 have h2:((und Tryz.prog dP).bind fun d=>match d with
  | .struct fs=>nW Tryz.prog fs.toList
  | _=>none)=some [(0,259)]:=by kernel_rfl
 obtain ⟨z,h1,h4⟩:=aM h1
 cases z<;>try (cases h4; done)
 rename_i z
 simp only at h4
 split at h4
 ·rename_i h5
  obtain ⟨d,h2,h3⟩:=aM h2
  cases d<;>try (cases h3; done)
  rename_i fs
  simp only at h3
  unfold eX
  rw [h1]
  simp only [Option.bind,h2,h3]
  have hl:=cK (n:=n) (cv:=cv) (sv:=sv) hc
  have hz:z.toList.length=259:=by simpa using h5
  have e1:Nat.beq (dQ c n cv sv).toArray.size 259=true:=by simp [hl]
  have e2:Nat.ble (0+259) z.toList.length=true:=by rw [hz]; rfl
  simp only [mZ,List.getElem?_cons_zero,Option.bind,Value.cells_agg,e1,e2]
  rw [aIV (by rw [hz]; simpa using hl)]
 ·cases h4
theorem aIz:∃ z,zer Tryz.prog dP=some z∧z.cells.size=259:=by
 have h1:((zer Tryz.prog dP).bind fun z=>if z.cells.size=259 then some true else none)=some true:=by kernel_rfl
 obtain ⟨z,h1,h4⟩:=aM h1
 split at h4
 ·exact ⟨z,h1,by assumption⟩
 ·cases h4
theorem aHO:zer Tryz.prog gD=some (.agg #[.int .i64 0,.int .i64 0]):=by kernel_rfl
set_option maxRecDepth 8000 in
theorem aDR {ro:Ro} {c:List Nat} {n:Int} {cv sv lv rv uv nv:Value} {S:List StateD} {C:List (Int × Int)} {s:StateD} {i1:Nat} (hc:c.length=256) (hn:n≤256) (hSl:S.length≤256) (hC:C.length≤512) (hsr:s.r.length≤mF) {h:T Obj} {nx:Nat} {K:KV} (hf:Fr h nx)
  (g1:h.get i1=some (.cells (dQ c n cv sv).toArray dP)) (hcv:SlR ro h cv 2 vB C) (hS:SlR ro h sv 4 (dX ro h) S) (h1:ZI ro h lv s.l) (h2:ZI ro h rv s.r) (h3:ZI ro h uv s.rule) (h4:SlR ro h nv 1 (rN ro h) s.next)
  (hK:∀ nx',nx≤nx'→K (.bool (!gJ S n C.length s)) h nx'):aN Tryz.prog ro sD [.agg #[lv,rv,uv,nv],ptr i1] h nx K:=by
 apply aCm
 unfold vE
 refine dY hf (Nat.le_refl _) fun p1 hs1 hf1 g3 _=>?_
 have g3:p1.get nx=some (.cells #[lv,rv,uv,nv] a8):=g3
 refine aB (c8 (hs1 _ _ g1) (cK hc)) ?_
 refine aB (c8 (l:=[lv,rv,uv,nv]) g3 rfl) ?_
 refine aCn hc hn hSl hC hsr (hf1.mono (by omega)) (hcv.sub hs1 fun _ _ h=>h) (hS.sub hs1 (dX.sub hs1)) (h1.sub hs1) (h2.sub hs1) (h3.sub hs1) (h4.sub hs1 (rN.sub hs1)) fun n hn=>?_
 (repeat(first|refine aB (by simp (disch:=first|omega|exact nnN _|assumption) only [BB,B2,↓reduceIte,Nat.reduceLeDiff,Nat.reduceAdd,CC]<;>rfl) ?_|refine aD ?_|refine aE ?_|with_reducible first|refine aG ?_|refine aF ?_|refine aK ?_|refine aH ?_|refine aJ ?_|refine aI ?_|refine aL ?_|refine aC ?_))
 exact ⟨h,hs1,hK _ (by omega)⟩
set_option maxRecDepth 8000 in
set_option maxHeartbeats 2000000 in
theorem aBD {ro:Ro} {x:List Value} {d:AutoD} {h:T Obj} {nx:Nat} {K:KV} (hf:Fr h nx) (hd:qI ro h x d) (hK:∀ nx',nx≤nx'→K (.bool (eW d)) h nx'):aN Tryz.prog ro qS [.agg x.toArray] h nx K:=by
 obtain ⟨cv,sv,rfl,hc,hcl,hcv,hS,hb1,hb2⟩:=hd
 obtain ⟨c,n,C,S⟩:=d
 simp only at hc hcl hcv hS hb1 hb2
 dsimp only
 apply aEw
 unfold aA6
 refine dY hf (Nat.le_refl _) fun p1 hs hf1 g1 _=>?_
 have g1:p1.get nx=some (.cells (dQ c n cv sv).toArray bG):=g1
 have hS:=hS.sub hs (dX.sub hs)
 have hcv:=hcv.sub hs fun _ _ h=>h
 have hsg:=gY (n:=n) (cv:=cv) (sv:=sv) hc
 have hcg:=kS (n:=n) (cv:=cv) (sv:=sv) hc
 have lc:=hcv.len
 have ls:=hS.len
 have hno:∀ n',eW ⟨c,n,C,S⟩=false→nx≤n'→∃ h',Sub h' p1∧K (.bool false) h' n':=fun n' e hn=>⟨h,hs,kb hK e hn⟩
 unfold eW at hno hK
 dsimp only at hno hK
 (repeat(first|refine aB (by simp (disch:=first|omega|exact nnN _|assumption) only [BB,B2,↓reduceIte,Nat.reduceLeDiff,Nat.reduceAdd,CC]<;>rfl) ?_|refine aD ?_|refine aE ?_|with_reducible first|refine aG ?_|refine aF ?_|refine aK ?_|refine aH ?_|refine aJ ?_|refine aI ?_|refine aL ?_|refine aC ?_))
 refine aB (aMe g1 hc) ?_
 refine aF5 hc hcl (hf1.mono (by omega)) fun n1 hn1=>?_
 cases hr:oD c n with
 | false =>
  (repeat(first|refine aB (by simp (disch:=first|omega|exact nnN _|assumption) only [BB,B2,↓reduceIte,Nat.reduceLeDiff,Nat.reduceAdd,CC]<;>rfl) ?_|refine aD ?_|refine aE ?_|with_reducible first|refine aG ?_|refine aF ?_|refine aK ?_|refine aH ?_|refine aJ ?_|refine aI ?_|refine aL ?_|refine aC ?_))
  exact hno _ (by rw [hr]; rfl) (by omega)
 | true =>
  have hn:=aAs hr
  rw [hr,Bool.true_and] at hno hK
  (repeat(first|refine aB (by simp (disch:=first|omega|exact nnN _|assumption) only [BB,B2,↓reduceIte,Nat.reduceLeDiff,Nat.reduceAdd,CC,g1,hcg,lc]<;>rfl) ?_|refine aD ?_|refine aE ?_|with_reducible first|refine aG ?_|refine aF ?_|refine aK ?_|refine aH ?_|refine aJ ?_|refine aI ?_|refine aL ?_|refine aC ?_))
  refine kY (fun u1=>?_) (fun u1=>?_)
  ·(repeat(first|refine aB (by simp (disch:=first|omega|exact nnN _|assumption) only [BB,B2,↓reduceIte,Nat.reduceLeDiff,Nat.reduceAdd,CC]<;>rfl) ?_|refine aD ?_|refine aE ?_|with_reducible first|refine aG ?_|refine aF ?_|refine aK ?_|refine aH ?_|refine aJ ?_|refine aI ?_|refine aL ?_|refine aC ?_))
   exact hno _ (by rw [decide_eq_false (by omega)]; rfl) (by omega)
  ·have u1:C.length≤512:=by omega
   rw [decide_eq_true u1,Bool.true_and] at hno hK
   (repeat(first|refine aB (by simp (disch:=first|omega|exact nnN _|assumption) only [BB,B2,↓reduceIte,Nat.reduceLeDiff,Nat.reduceAdd,CC,g1,hsg,ls]<;>rfl) ?_|refine aD ?_|refine aE ?_|with_reducible first|refine aG ?_|refine aF ?_|refine aK ?_|refine aH ?_|refine aJ ?_|refine aI ?_|refine aL ?_|refine aC ?_))
   refine dF (fun u2=>?_) (fun u2=>?_)
   ·(repeat(first|refine aB (by simp (disch:=first|omega|exact nnN _|assumption) only [BB,B2,↓reduceIte,Nat.reduceLeDiff,Nat.reduceAdd,CC]<;>rfl) ?_|refine aD ?_|refine aE ?_|with_reducible first|refine aG ?_|refine aF ?_|refine aK ?_|refine aH ?_|refine aJ ?_|refine aI ?_|refine aL ?_|refine aC ?_))
    exact hno _ (by rw [decide_eq_false (by omega)]; rfl) (by omega)
   ·have u2:1≤S.length:=by omega
    rw [decide_eq_true u2,Bool.true_and] at hno hK
    (repeat(first|refine aB (by simp (disch:=first|omega|exact nnN _|assumption) only [BB,B2,↓reduceIte,Nat.reduceLeDiff,Nat.reduceAdd,CC,g1,hsg,ls]<;>rfl) ?_|refine aD ?_|refine aE ?_|with_reducible first|refine aG ?_|refine aF ?_|refine aK ?_|refine aH ?_|refine aJ ?_|refine aI ?_|refine aL ?_|refine aC ?_))
    refine kY (fun u3=>?_) (fun u3=>?_)
    ·(repeat(first|refine aB (by simp (disch:=first|omega|exact nnN _|assumption) only [BB,B2,↓reduceIte,Nat.reduceLeDiff,Nat.reduceAdd,CC]<;>rfl) ?_|refine aD ?_|refine aE ?_|with_reducible first|refine aG ?_|refine aF ?_|refine aK ?_|refine aH ?_|refine aJ ?_|refine aI ?_|refine aL ?_|refine aC ?_))
     exact hno _ (by rw [decide_eq_false (by omega)]; rfl) (by omega)
    ·have u3:S.length≤256:=by omega
     rw [decide_eq_true u3,Bool.true_and] at hno hK
     have h0:0 < S.length:=by omega
     have six:cL 4 sv (.int .i64 0)=some (iT 4 sv 0):=hS.ix .i64 (i:=0) h0
     obtain ⟨x,⟨lv,rv,uv,nv,rfl,y1,y2,y3,y4,y5⟩,hx2,hx3,hx4,hx5⟩:=hS.at h0
     have q0:=hx5 0 lv rfl
     have q1:=hx5 1 rv rfl
     have ll:=y1.len
     have lr:=y2.len
     have hgd:S.getD 0 noS=S[0]:=by rw [List.getD_eq_getElem?_getD,List.getElem?_eq_getElem h0]; rfl
     have hfst:zS S=(decide (S[0].l.length=0)&&decide (S[0].r.length=0)):=by unfold zS; rw [hgd]
     have hall:S.all (gJ S n C.length)=true→S[0].l.length≤512∧S[0].r.length≤3:=fun h=>aGE (List.all_eq_true.1 h _ (List.getElem_mem h0))
     (repeat(first|refine aB (by simp (disch:=first|omega|exact nnN _|assumption) only [BB,B2,↓reduceIte,Nat.reduceLeDiff,Nat.reduceAdd,CC,g1,hsg,six,hx4,q0,q1,ll,lr]<;>rfl) ?_|refine aD ?_|refine aE ?_|with_reducible first|refine aG ?_|refine aF ?_|refine aK ?_|refine aH ?_|refine aJ ?_|refine aI ?_|refine aL ?_|refine aC ?_))
     first
     | refine aB (dB _ _ _) ?_
     | skip
     (repeat(first|refine aB (by simp (disch:=first|omega|exact nnN _|assumption) only [BB,B2,↓reduceIte,Nat.reduceLeDiff,Nat.reduceAdd,CC]<;>rfl) ?_|refine aD ?_|refine aE ?_|with_reducible first|refine aG ?_|refine aF ?_|refine aK ?_|refine aH ?_|refine aJ ?_|refine aI ?_|refine aL ?_|refine aC ?_))
     have hrest:(S[0].l.length=0∧S[0].r.length=0∨9223372036854775807 < S[0].l.length+S[0].r.length)→∀ (e':Env) n',e' 1=ptr nx→e' 2=.bool false→e' 45=cv→e' 46=.int .i64 C.length→e' 47=.int .i64 0→nx+1≤n' →
       dS (tI ro) e' p1 n' fun x229 e226 h227 n228=>exP x229 (kD ro K e226 h227 n228) (fun i230=>cO (Nat.beq i230 0) (kD ro K e226 h227 n228) (False)) (∃ h231,Sub h231 h227∧K (e226 2) h231 n228):=by
      intro hlen e' n' f1 f2 f45 f46 f47 hn'
      generalize hB:C.all mJ=B at hno hK
      refine bC (fun j e h' nx'=>∃ (k:Nat),k+j=C.length∧nx+1≤nx'∧h'=p1∧e 1=ptr nx∧e 2=.bool false∧e 45=cv∧e 46=.int .i64 C.length∧e 47=.int .i64 k∧(C.drop k).all mJ=B) ?_ (n:=C.length) ⟨0,by omega,hn',rfl,f1,f2,f45,f46,f47,hB⟩
      rintro j e h' nx' ⟨k,hj,hnx,rfl,e1,e2,e45,e46,e47,hr2⟩ Q' hq hx
      unfold tI
      rw [e45,e46,e47]
      refine dF (fun hk=>?_) (fun hk=>?_)
      ·have hk:k < C.length:=by omega
       rw [bT hk,List.all_cons] at hr2
       have cix:=hcv.ix .i64 hk
       obtain ⟨x,hx1,hx2,hx3,hx4,hx5⟩:=hcv.at hk
       generalize C[k]=p at hr2 hx1
       obtain rfl:x=[.int .i64 p.1,.int .i64 p.2]:=hx1
       (repeat(first|refine aB (by simp (disch:=first|omega|exact nnN _|assumption) only [BB,B2,↓reduceIte,Nat.reduceLeDiff,Nat.reduceAdd,CC,cix,hx3]<;>rfl) ?_|refine aD ?_|refine aE ?_|with_reducible first|refine aG ?_|refine aF ?_|refine aK ?_|refine aH ?_|refine aJ ?_|refine aI ?_|refine aL ?_|refine aC ?_))
       refine jL (x:=[.int .i64 p.1,.int .i64 p.2]) aHO rfl rfl rfl rfl hf1 (by omega) fun h6 hs6 hf6 g6 _=>?_
       have hfin:∀ (e':Env) n',e' 2=.bool false→mJ p=false→nx≤n'→Q' .ret e' h6 n':=fun e' n' h6 hc hn=>by
        refine hx _ _ _ _ (fun e=>by cases e) (eL ?_)
        rw [h6]
        rw [hc,Bool.false_and] at hr2
        subst hr2
        obtain ⟨h9,z1,z2⟩:=hno n' (by simp) hn
        exact ⟨h9,z1.trans hs6,z2⟩
       have hok:∀ (e':Env) n',e' 1=ptr nx→e' 2=.bool false→e' 45=cv→e' 46=.int .i64 C.length→e' 47=.int .i64 ((k:Int)+1)→mJ p=true→nx+1≤n'→Q' .normal e' h6 n':=fun e' n' f1 f2 f45 f46 f47 hc hn =>
        hq (j - 1) _ h' _ _ (by omega) ⟨k+1,by omega,hn,rfl,f1,f2,f45,f46,f47,by rw [← hr2,hc]; rfl⟩ hs6
       unfold mJ at hfin hok
       (repeat(first|refine aB (by simp (disch:=first|omega|exact nnN _|assumption) only [BB,B2,↓reduceIte,Nat.reduceLeDiff,Nat.reduceAdd,CC,g6]<;>rfl) ?_|refine aD ?_|refine aE ?_|with_reducible first|refine aG ?_|refine aF ?_|refine aK ?_|refine aH ?_|refine aJ ?_|refine aI ?_|refine aL ?_|refine aC ?_))
       refine dF (fun v1=>?_) (fun v1=>?_)
       ·(repeat(first|refine aB (by simp (disch:=first|omega|exact nnN _|assumption) only [BB,B2,↓reduceIte,Nat.reduceLeDiff,Nat.reduceAdd,CC]<;>rfl) ?_|refine aD ?_|refine aE ?_|with_reducible first|refine aG ?_|refine aF ?_|refine aK ?_|refine aH ?_|refine aJ ?_|refine aI ?_|refine aL ?_|refine aC ?_))
        exact hfin _ _ rfl (by rw [decide_eq_false (by omega)]; rfl) (by omega)
       ·rw [decide_eq_true v1,Bool.true_and] at hfin hok
        (repeat(first|refine aB (by simp (disch:=first|omega|exact nnN _|assumption) only [BB,B2,↓reduceIte,Nat.reduceLeDiff,Nat.reduceAdd,CC,g6]<;>rfl) ?_|refine aD ?_|refine aE ?_|with_reducible first|refine aG ?_|refine aF ?_|refine aK ?_|refine aH ?_|refine aJ ?_|refine aI ?_|refine aL ?_|refine aC ?_))
        refine kY (fun v2=>?_) (fun v2=>?_)
        ·(repeat(first|refine aB (by simp (disch:=first|omega|exact nnN _|assumption) only [BB,B2,↓reduceIte,Nat.reduceLeDiff,Nat.reduceAdd,CC]<;>rfl) ?_|refine aD ?_|refine aE ?_|with_reducible first|refine aG ?_|refine aF ?_|refine aK ?_|refine aH ?_|refine aJ ?_|refine aI ?_|refine aL ?_|refine aC ?_))
         exact hfin _ _ rfl (by rw [decide_eq_false (by omega)]; rfl) (by omega)
        ·rw [decide_eq_true v2,Bool.true_and] at hfin hok
         (repeat(first|refine aB (by simp (disch:=first|omega|exact nnN _|assumption) only [BB,B2,↓reduceIte,Nat.reduceLeDiff,Nat.reduceAdd,CC,g6]<;>rfl) ?_|refine aD ?_|refine aE ?_|with_reducible first|refine aG ?_|refine aF ?_|refine aK ?_|refine aH ?_|refine aJ ?_|refine aI ?_|refine aL ?_|refine aC ?_))
         refine dF (fun v3=>?_) (fun v3=>?_)
         ·(repeat(first|refine aB (by simp (disch:=first|omega|exact nnN _|assumption) only [BB,B2,↓reduceIte,Nat.reduceLeDiff,Nat.reduceAdd,CC]<;>rfl) ?_|refine aD ?_|refine aE ?_|with_reducible first|refine aG ?_|refine aF ?_|refine aK ?_|refine aH ?_|refine aJ ?_|refine aI ?_|refine aL ?_|refine aC ?_))
          exact hfin _ _ rfl (by rw [decide_eq_false (by omega)]; rfl) (by omega)
         ·rw [decide_eq_true v3,Bool.true_and] at hfin hok
          (repeat(first|refine aB (by simp (disch:=first|omega|exact nnN _|assumption) only [BB,B2,↓reduceIte,Nat.reduceLeDiff,Nat.reduceAdd,CC,g6]<;>rfl) ?_|refine aD ?_|refine aE ?_|with_reducible first|refine aG ?_|refine aF ?_|refine aK ?_|refine aH ?_|refine aJ ?_|refine aI ?_|refine aL ?_|refine aC ?_))
          refine kY (fun v4=>?_) (fun v4=>?_)
          ·(repeat(first|refine aB (by simp (disch:=first|omega|exact nnN _|assumption) only [BB,B2,↓reduceIte,Nat.reduceLeDiff,Nat.reduceAdd,CC]<;>rfl) ?_|refine aD ?_|refine aE ?_|with_reducible first|refine aG ?_|refine aF ?_|refine aK ?_|refine aH ?_|refine aJ ?_|refine aI ?_|refine aL ?_|refine aC ?_))
           exact hfin _ _ rfl (by rw [decide_eq_false (by omega)]) (by omega)
          ·rw [decide_eq_true v4] at hok
           (repeat(first|refine aB (by simp (disch:=first|omega|exact nnN _|assumption) only [BB,B2,↓reduceIte,Nat.reduceLeDiff,Nat.reduceAdd,CC]<;>rfl) ?_|refine aD ?_|refine aE ?_|with_reducible first|refine aG ?_|refine aF ?_|refine aK ?_|refine aH ?_|refine aJ ?_|refine aI ?_|refine aL ?_|refine aC ?_))
           exact hok _ _ e1 e2 e45 e46 rfl rfl (by omega)
      ·rw [gB (by omega)] at hr2
       have hr2:true=B:=hr2
       subst hr2
       rw [Bool.true_and] at hno hK
       (repeat(first|refine aB (by simp (disch:=first|omega|exact nnN _|assumption) only [BB,B2,↓reduceIte,Nat.reduceLeDiff,Nat.reduceAdd,CC]<;>rfl) ?_|refine aD ?_|refine aE ?_|with_reducible first|refine aG ?_|refine aF ?_|refine aK ?_|refine aH ?_|refine aJ ?_|refine aI ?_|refine aL ?_|refine aC ?_))
       refine hx _ _ _ _ (fun e=>by cases e) (eB (dA ?_))
       have hend:∀ (e':Env) n',e' 1=ptr nx→nx+1≤n'→kD ro K e' h' n':=by
        intro e' n' z1 hn'
        unfold kD
        rw [z1]
        refine aB (c8 g1 (cK hc)) ?_
        refine aB (aFA hc) ?_
        obtain ⟨z,hz,hzs⟩:=aIz
        refine jL (x:=dQ c n cv sv) hz hzs rfl (cK hc) (aDD (SlR.okC hcv) (SlR.okC hS)) hf1 (by omega) fun h6 hs6 hf6 g6 _=>?_
        have g16:=hs6 _ _ g1
        (repeat(first|refine aB (by simp (disch:=first|omega|exact nnN _|assumption) only [BB,B2,↓reduceIte,Nat.reduceLeDiff,Nat.reduceAdd,CC,g16,hsg]<;>rfl) ?_|refine aD ?_|refine aE ?_|with_reducible first|refine aG ?_|refine aF ?_|refine aK ?_|refine aH ?_|refine aJ ?_|refine aI ?_|refine aL ?_|refine aC ?_))
        refine p8 (q:=fun s=>!gJ S n C.length s) (by omega) (hS.sub hs6 (dX.sub hs6)) (fun i hi x n' K' hx hn' hk'=>?_) fun n' hn'=>?_
        ·obtain ⟨lv,rv,uv,nv,rfl,w1,w2,w3,w4,w5⟩:=hx
         exact aDR hc hn u3 u1 w5 (hf6.mono (by omega)) g6 (hcv.sub hs6 fun _ _ h=>h) (hS.sub hs6 (dX.sub hs6)) w1 w2 w3 w4 hk'
        ·(repeat(first|refine aB (by simp (disch:=first|omega|exact nnN _|assumption) only [BB,B2,↓reduceIte,Nat.reduceLeDiff,Nat.reduceAdd,CC]<;>rfl) ?_|refine aD ?_|refine aE ?_|with_reducible first|refine aG ?_|refine aF ?_|refine aK ?_|refine aH ?_|refine aJ ?_|refine aI ?_|refine aL ?_|refine aC ?_))
         refine ⟨h,hs.trans hs6,kb hK ?_ (by omega)⟩
         rw [aGL]
         rcases hlen with hlen | hlen
         ·rw [hfst,decide_eq_true hlen.1,decide_eq_true hlen.2]; rfl
         ·cases ha:S.all (gJ S n C.length) with
          | false=>simp
          | true=>have:=hall ha; omega
       exact hend _ _ e1 (by omega)
     refine kY (fun u4=>?_) (fun u4=>?_)
     ·(repeat(first|refine aB (by simp (disch:=first|omega|exact nnN _|assumption) only [BB,B2,↓reduceIte,Nat.reduceLeDiff,Nat.reduceAdd,CC]<;>rfl) ?_|refine aD ?_|refine aE ?_|with_reducible first|refine aG ?_|refine aF ?_|refine aK ?_|refine aH ?_|refine aJ ?_|refine aI ?_|refine aL ?_|refine aC ?_))
      have:=aOd u4
      refine hno _ ?_ (by omega)
      rw [hfst]
      rcases this with h | h
      ·rw [decide_eq_false h]; simp
      ·rw [decide_eq_false h]; simp
     ·(repeat(first|refine aB (by simp (disch:=first|omega|exact nnN _|assumption) only [BB,B2,↓reduceIte,Nat.reduceLeDiff,Nat.reduceAdd,CC,g1,hcg,lc]<;>rfl) ?_|refine aD ?_|refine aE ?_|with_reducible first|refine aG ?_|refine aF ?_|refine aK ?_|refine aH ?_|refine aJ ?_|refine aI ?_|refine aL ?_|refine aC ?_))
      exact hrest (by rcases aPn u4 with h | h<;>omega) _ _ rfl rfl rfl rfl rfl (by omega)
set_option maxRecDepth 8000 in
set_option maxHeartbeats 2000000 in
theorem aFW {ro:Ro} {x:List Value} {d:AutoD} {h:T Obj} {nx:Nat} {K:KV} (hf:Fr h nx) (hd:qI ro h x d) (hK:∀ nx',nx≤nx'→K (.bool (eW d)) h nx'):aN Tryz.prog ro tR [.agg x.toArray] h nx K:=by
 obtain ⟨cv,sv,rfl,hc,hcl,hcv,hS,hb1,hb2⟩:=hd
 obtain ⟨c,n,C,S⟩:=d
 simp only at hc hcl hcv hS hb1 hb2
 dsimp only
 apply aER
 unfold yJ
 refine dY hf (Nat.le_refl _) fun p1 hs hf1 g1 _=>?_
 have g1:p1.get nx=some (.cells (dQ c n cv sv).toArray bG):=g1
 have hS:=hS.sub hs (dX.sub hs)
 have hcv:=hcv.sub hs fun _ _ h=>h
 have hsg:=gY (n:=n) (cv:=cv) (sv:=sv) hc
 have hcg:=kS (n:=n) (cv:=cv) (sv:=sv) hc
 have lc:=hcv.len
 have ls:=hS.len
 have hno:∀ n',eW ⟨c,n,C,S⟩=false→nx≤n'→∃ h',Sub h' p1∧K (.bool false) h' n':=fun n' e hn=>⟨h,hs,kb hK e hn⟩
 unfold eW at hno hK
 dsimp only at hno hK
 (repeat(first|refine aB (by simp (disch:=first|omega|exact nnN _|assumption) only [BB,B2,↓reduceIte,Nat.reduceLeDiff,Nat.reduceAdd,CC]<;>rfl) ?_|refine aD ?_|refine aE ?_|with_reducible first|refine aG ?_|refine aF ?_|refine aK ?_|refine aH ?_|refine aJ ?_|refine aI ?_|refine aL ?_|refine aC ?_))
 refine aB (aMe g1 hc) ?_
 refine aFR hc hcl (hf1.mono (by omega)) fun n1 hn1=>?_
 cases hr:oD c n with
 | false =>
  (repeat(first|refine aB (by simp (disch:=first|omega|exact nnN _|assumption) only [BB,B2,↓reduceIte,Nat.reduceLeDiff,Nat.reduceAdd,CC]<;>rfl) ?_|refine aD ?_|refine aE ?_|with_reducible first|refine aG ?_|refine aF ?_|refine aK ?_|refine aH ?_|refine aJ ?_|refine aI ?_|refine aL ?_|refine aC ?_))
  exact hno _ (by rw [hr]; rfl) (by omega)
 | true =>
  have hn:=aAs hr
  rw [hr,Bool.true_and] at hno hK
  (repeat(first|refine aB (by simp (disch:=first|omega|exact nnN _|assumption) only [BB,B2,↓reduceIte,Nat.reduceLeDiff,Nat.reduceAdd,CC,g1,hcg,lc]<;>rfl) ?_|refine aD ?_|refine aE ?_|with_reducible first|refine aG ?_|refine aF ?_|refine aK ?_|refine aH ?_|refine aJ ?_|refine aI ?_|refine aL ?_|refine aC ?_))
  refine kY (fun u1=>?_) (fun u1=>?_)
  ·(repeat(first|refine aB (by simp (disch:=first|omega|exact nnN _|assumption) only [BB,B2,↓reduceIte,Nat.reduceLeDiff,Nat.reduceAdd,CC]<;>rfl) ?_|refine aD ?_|refine aE ?_|with_reducible first|refine aG ?_|refine aF ?_|refine aK ?_|refine aH ?_|refine aJ ?_|refine aI ?_|refine aL ?_|refine aC ?_))
   exact hno _ (by rw [decide_eq_false (by omega)]; rfl) (by omega)
  ·have u1:C.length≤512:=by omega
   rw [decide_eq_true u1,Bool.true_and] at hno hK
   (repeat(first|refine aB (by simp (disch:=first|omega|exact nnN _|assumption) only [BB,B2,↓reduceIte,Nat.reduceLeDiff,Nat.reduceAdd,CC,g1,hsg,ls]<;>rfl) ?_|refine aD ?_|refine aE ?_|with_reducible first|refine aG ?_|refine aF ?_|refine aK ?_|refine aH ?_|refine aJ ?_|refine aI ?_|refine aL ?_|refine aC ?_))
   refine dF (fun u2=>?_) (fun u2=>?_)
   ·(repeat(first|refine aB (by simp (disch:=first|omega|exact nnN _|assumption) only [BB,B2,↓reduceIte,Nat.reduceLeDiff,Nat.reduceAdd,CC]<;>rfl) ?_|refine aD ?_|refine aE ?_|with_reducible first|refine aG ?_|refine aF ?_|refine aK ?_|refine aH ?_|refine aJ ?_|refine aI ?_|refine aL ?_|refine aC ?_))
    exact hno _ (by rw [decide_eq_false (by omega)]; rfl) (by omega)
   ·have u2:1≤S.length:=by omega
    rw [decide_eq_true u2,Bool.true_and] at hno hK
    (repeat(first|refine aB (by simp (disch:=first|omega|exact nnN _|assumption) only [BB,B2,↓reduceIte,Nat.reduceLeDiff,Nat.reduceAdd,CC,g1,hsg,ls]<;>rfl) ?_|refine aD ?_|refine aE ?_|with_reducible first|refine aG ?_|refine aF ?_|refine aK ?_|refine aH ?_|refine aJ ?_|refine aI ?_|refine aL ?_|refine aC ?_))
    refine kY (fun u3=>?_) (fun u3=>?_)
    ·(repeat(first|refine aB (by simp (disch:=first|omega|exact nnN _|assumption) only [BB,B2,↓reduceIte,Nat.reduceLeDiff,Nat.reduceAdd,CC]<;>rfl) ?_|refine aD ?_|refine aE ?_|with_reducible first|refine aG ?_|refine aF ?_|refine aK ?_|refine aH ?_|refine aJ ?_|refine aI ?_|refine aL ?_|refine aC ?_))
     exact hno _ (by rw [decide_eq_false (by omega)]; rfl) (by omega)
    ·have u3:S.length≤256:=by omega
     rw [decide_eq_true u3,Bool.true_and] at hno hK
     have h0:0 < S.length:=by omega
     have six:cL 4 sv (.int .i64 0)=some (iT 4 sv 0):=hS.ix .i64 (i:=0) h0
     obtain ⟨x,⟨lv,rv,uv,nv,rfl,y1,y2,y3,y4,y5⟩,hx2,hx3,hx4,hx5⟩:=hS.at h0
     have q0:=hx5 0 lv rfl
     have q1:=hx5 1 rv rfl
     have ll:=y1.len
     have lr:=y2.len
     have hgd:S.getD 0 noS=S[0]:=by rw [List.getD_eq_getElem?_getD,List.getElem?_eq_getElem h0]; rfl
     have hfst:zS S=(decide (S[0].l.length=0)&&decide (S[0].r.length=0)):=by unfold zS; rw [hgd]
     rw [hfst] at hno hK
     (repeat(first|refine aB (by simp (disch:=first|omega|exact nnN _|assumption) only [BB,B2,↓reduceIte,Nat.reduceLeDiff,Nat.reduceAdd,CC,g1,hsg,six,hx4,q0,ll]<;>rfl) ?_|refine aD ?_|refine aE ?_|with_reducible first|refine aG ?_|refine aF ?_|refine aK ?_|refine aH ?_|refine aJ ?_|refine aI ?_|refine aL ?_|refine aC ?_))
     refine kY (fun u4=>?_) (fun u4=>?_)
     ·(repeat(first|refine aB (by simp (disch:=first|omega|exact nnN _|assumption) only [BB,B2,↓reduceIte,Nat.reduceLeDiff,Nat.reduceAdd,CC]<;>rfl) ?_|refine aD ?_|refine aE ?_|with_reducible first|refine aG ?_|refine aF ?_|refine aK ?_|refine aH ?_|refine aJ ?_|refine aI ?_|refine aL ?_|refine aC ?_))
      exact hno _ (by rw [decide_eq_false (by omega)]; rfl) (by omega)
     ·rw [decide_eq_true (show S[0].l.length=0 by omega),Bool.true_and] at hno hK
      (repeat(first|refine aB (by simp (disch:=first|omega|exact nnN _|assumption) only [BB,B2,↓reduceIte,Nat.reduceLeDiff,Nat.reduceAdd,CC,g1,hsg,six,hx4,q1,lr]<;>rfl) ?_|refine aD ?_|refine aE ?_|with_reducible first|refine aG ?_|refine aF ?_|refine aK ?_|refine aH ?_|refine aJ ?_|refine aI ?_|refine aL ?_|refine aC ?_))
      refine kY (fun u5=>?_) (fun u5=>?_)
      ·(repeat(first|refine aB (by simp (disch:=first|omega|exact nnN _|assumption) only [BB,B2,↓reduceIte,Nat.reduceLeDiff,Nat.reduceAdd,CC]<;>rfl) ?_|refine aD ?_|refine aE ?_|with_reducible first|refine aG ?_|refine aF ?_|refine aK ?_|refine aH ?_|refine aJ ?_|refine aI ?_|refine aL ?_|refine aC ?_))
       exact hno _ (by rw [decide_eq_false (by omega)]; rfl) (by omega)
      ·rw [decide_eq_true (show S[0].r.length=0 by omega),Bool.true_and] at hno hK
       (repeat(first|refine aB (by simp (disch:=first|omega|exact nnN _|assumption) only [BB,B2,↓reduceIte,Nat.reduceLeDiff,Nat.reduceAdd,CC]<;>rfl) ?_|refine aD ?_|refine aE ?_|with_reducible first|refine aG ?_|refine aF ?_|refine aK ?_|refine aH ?_|refine aJ ?_|refine aI ?_|refine aL ?_|refine aC ?_))
       generalize hB:C.all mJ=B at hno hK
       refine bC (fun j e h' nx'=>∃ (k:Nat),k+j=C.length∧nx+1≤nx'∧h'=p1∧e 1=ptr nx∧e 3=.int .i64 k∧(C.drop k).all mJ=B) ?_ (n:=C.length) ⟨0,by omega,by omega,rfl,rfl,rfl,hB⟩
       rintro j e h' nx' ⟨k,hj,hnx,rfl,e1,e3,hr2⟩ Q' hq hx
       unfold yL
       rw [e1,e3]
       (repeat(first|refine aB (by simp (disch:=first|omega|exact nnN _|assumption) only [BB,B2,↓reduceIte,Nat.reduceLeDiff,Nat.reduceAdd,CC,g1,hcg,lc]<;>rfl) ?_|refine aD ?_|refine aE ?_|with_reducible first|refine aG ?_|refine aF ?_|refine aK ?_|refine aH ?_|refine aJ ?_|refine aI ?_|refine aL ?_|refine aC ?_))
       refine dF (fun hk=>?_) (fun hk=>?_)
       ·have hk:k < C.length:=by omega
        rw [bT hk,List.all_cons] at hr2
        have cix:=hcv.ix .i64 hk
        obtain ⟨x,hx1,hx2,hx3,hx4,hx5⟩:=hcv.at hk
        generalize C[k]=p at hr2 hx1
        obtain rfl:x=[.int .i64 p.1,.int .i64 p.2]:=hx1
        (repeat(first|refine aB (by simp (disch:=first|omega|exact nnN _|assumption) only [BB,B2,↓reduceIte,Nat.reduceLeDiff,Nat.reduceAdd,CC,g1,hcg,cix,hx3]<;>rfl) ?_|refine aD ?_|refine aE ?_|with_reducible first|refine aG ?_|refine aF ?_|refine aK ?_|refine aH ?_|refine aJ ?_|refine aI ?_|refine aL ?_|refine aC ?_))
        refine jL (x:=[.int .i64 p.1,.int .i64 p.2]) aHO rfl rfl rfl rfl hf1 (by omega) fun h6 hs6 hf6 g6 _=>?_
        have hfin:∀ (e':Env) n',e' 2=.bool false→mJ p=false→nx≤n'→Q' .ret e' h6 n':=fun e' n' h6 hc hn=>by
         refine hx _ _ _ _ (fun e=>by cases e) (eL ?_)
         rw [h6]
         rw [hc,Bool.false_and] at hr2
         subst hr2
         obtain ⟨h9,z1,z2⟩:=hno n' (by simp) hn
         exact ⟨h9,z1.trans hs6,z2⟩
        have hok:∀ (e':Env) n',e' 1=ptr nx→e' 3=.int .i64 ((k:Int)+1)→mJ p=true→nx+1≤n'→Q' .normal e' h6 n':=fun e' n' f1 f3 hc hn =>
         hq (j - 1) _ h' _ _ (by omega) ⟨k+1,by omega,hn,rfl,f1,f3,by rw [← hr2,hc]; rfl⟩ hs6
        unfold mJ at hfin hok
        (repeat(first|refine aB (by simp (disch:=first|omega|exact nnN _|assumption) only [BB,B2,↓reduceIte,Nat.reduceLeDiff,Nat.reduceAdd,CC,g6]<;>rfl) ?_|refine aD ?_|refine aE ?_|with_reducible first|refine aG ?_|refine aF ?_|refine aK ?_|refine aH ?_|refine aJ ?_|refine aI ?_|refine aL ?_|refine aC ?_))
        refine dF (fun v1=>?_) (fun v1=>?_)
        ·(repeat(first|refine aB (by simp (disch:=first|omega|exact nnN _|assumption) only [BB,B2,↓reduceIte,Nat.reduceLeDiff,Nat.reduceAdd,CC]<;>rfl) ?_|refine aD ?_|refine aE ?_|with_reducible first|refine aG ?_|refine aF ?_|refine aK ?_|refine aH ?_|refine aJ ?_|refine aI ?_|refine aL ?_|refine aC ?_))
         exact hfin _ _ rfl (by rw [decide_eq_false (by omega)]; rfl) (by omega)
        ·rw [decide_eq_true v1,Bool.true_and] at hfin hok
         (repeat(first|refine aB (by simp (disch:=first|omega|exact nnN _|assumption) only [BB,B2,↓reduceIte,Nat.reduceLeDiff,Nat.reduceAdd,CC,g6]<;>rfl) ?_|refine aD ?_|refine aE ?_|with_reducible first|refine aG ?_|refine aF ?_|refine aK ?_|refine aH ?_|refine aJ ?_|refine aI ?_|refine aL ?_|refine aC ?_))
         refine kY (fun v2=>?_) (fun v2=>?_)
         ·(repeat(first|refine aB (by simp (disch:=first|omega|exact nnN _|assumption) only [BB,B2,↓reduceIte,Nat.reduceLeDiff,Nat.reduceAdd,CC]<;>rfl) ?_|refine aD ?_|refine aE ?_|with_reducible first|refine aG ?_|refine aF ?_|refine aK ?_|refine aH ?_|refine aJ ?_|refine aI ?_|refine aL ?_|refine aC ?_))
          exact hfin _ _ rfl (by rw [decide_eq_false (by omega)]; rfl) (by omega)
         ·rw [decide_eq_true v2,Bool.true_and] at hfin hok
          (repeat(first|refine aB (by simp (disch:=first|omega|exact nnN _|assumption) only [BB,B2,↓reduceIte,Nat.reduceLeDiff,Nat.reduceAdd,CC,g6]<;>rfl) ?_|refine aD ?_|refine aE ?_|with_reducible first|refine aG ?_|refine aF ?_|refine aK ?_|refine aH ?_|refine aJ ?_|refine aI ?_|refine aL ?_|refine aC ?_))
          refine dF (fun v3=>?_) (fun v3=>?_)
          ·(repeat(first|refine aB (by simp (disch:=first|omega|exact nnN _|assumption) only [BB,B2,↓reduceIte,Nat.reduceLeDiff,Nat.reduceAdd,CC]<;>rfl) ?_|refine aD ?_|refine aE ?_|with_reducible first|refine aG ?_|refine aF ?_|refine aK ?_|refine aH ?_|refine aJ ?_|refine aI ?_|refine aL ?_|refine aC ?_))
           exact hfin _ _ rfl (by rw [decide_eq_false (by omega)]; rfl) (by omega)
          ·rw [decide_eq_true v3,Bool.true_and] at hfin hok
           (repeat(first|refine aB (by simp (disch:=first|omega|exact nnN _|assumption) only [BB,B2,↓reduceIte,Nat.reduceLeDiff,Nat.reduceAdd,CC,g6]<;>rfl) ?_|refine aD ?_|refine aE ?_|with_reducible first|refine aG ?_|refine aF ?_|refine aK ?_|refine aH ?_|refine aJ ?_|refine aI ?_|refine aL ?_|refine aC ?_))
           refine kY (fun v4=>?_) (fun v4=>?_)
           ·(repeat(first|refine aB (by simp (disch:=first|omega|exact nnN _|assumption) only [BB,B2,↓reduceIte,Nat.reduceLeDiff,Nat.reduceAdd,CC]<;>rfl) ?_|refine aD ?_|refine aE ?_|with_reducible first|refine aG ?_|refine aF ?_|refine aK ?_|refine aH ?_|refine aJ ?_|refine aI ?_|refine aL ?_|refine aC ?_))
            exact hfin _ _ rfl (by rw [decide_eq_false (by omega)]) (by omega)
           ·rw [decide_eq_true v4] at hok
            (repeat(first|refine aB (by simp (disch:=first|omega|exact nnN _|assumption) only [BB,B2,↓reduceIte,Nat.reduceLeDiff,Nat.reduceAdd,CC]<;>rfl) ?_|refine aD ?_|refine aE ?_|with_reducible first|refine aG ?_|refine aF ?_|refine aK ?_|refine aH ?_|refine aJ ?_|refine aI ?_|refine aL ?_|refine aC ?_))
            exact hok _ _ e1 rfl rfl (by omega)
       ·rw [gB (by omega)] at hr2
        have hr2:true=B:=hr2
        subst hr2
        rw [Bool.true_and] at hno hK
        (repeat(first|refine aB (by simp (disch:=first|omega|exact nnN _|assumption) only [BB,B2,↓reduceIte,Nat.reduceLeDiff,Nat.reduceAdd,CC]<;>rfl) ?_|refine aD ?_|refine aE ?_|with_reducible first|refine aG ?_|refine aF ?_|refine aK ?_|refine aH ?_|refine aJ ?_|refine aI ?_|refine aL ?_|refine aC ?_))
        refine hx _ _ _ _ (fun e=>by cases e) (eB (dA ?_))
        have LA:=c8 (ro:=ro) (z:=0) (n:=259) (l:=dQ c n cv sv) g1 (cK hc)
        have hend:∀ (e':Env) n',e' 1=ptr nx→nx+1≤n'→nZ ro K e' h' n':=by
         intro e' n' z1 hn'
         unfold nZ
         generalize hA:S.all (gJ S n C.length)=A at hno hK
         refine bC (fun j e h'' nx'=>∃ (k:Nat),k+j=S.length∧nx+1≤nx'∧h''=h'∧e 1=ptr nx∧e 5=.int .i64 k∧(S.drop k).all (gJ S n C.length)=A) ?_ (n:=S.length) ⟨0,by omega,by omega,rfl,z1,rfl,hA⟩
         rintro j e h'' nx' ⟨k,hj,hnx,rfl,e1,e5,hr2⟩ Q2 hq hx
         unfold yK
         rw [e1,e5]
         (repeat(first|refine aB (by simp (disch:=first|omega|exact nnN _|assumption) only [BB,B2,↓reduceIte,Nat.reduceLeDiff,Nat.reduceAdd,CC,g1,hsg,ls]<;>rfl) ?_|refine aD ?_|refine aE ?_|with_reducible first|refine aG ?_|refine aF ?_|refine aK ?_|refine aH ?_|refine aJ ?_|refine aI ?_|refine aL ?_|refine aC ?_))
         refine dF (fun hk=>?_) (fun hk=>?_)
         ·have hk:k < S.length:=by omega
          rw [bT hk,List.all_cons] at hr2
          have kix:=hS.ix .i64 hk
          obtain ⟨x,⟨lv,rv,uv,nv,rfl,w1,w2,w3,w4,w5⟩,hx2,hx3,hx4,hx5⟩:=hS.at hk
          generalize S[k]=s at hr2 w1 w2 w3 w4 w5
          (repeat(first|refine aB (by simp (disch:=first|omega|exact nnN _|assumption) only [BB,B2,↓reduceIte,Nat.reduceLeDiff,Nat.reduceAdd,CC,LA,g1,hsg,kix,hx3]<;>rfl) ?_|refine aD ?_|refine aE ?_|with_reducible first|refine aG ?_|refine aF ?_|refine aK ?_|refine aH ?_|refine aJ ?_|refine aI ?_|refine aL ?_|refine aC ?_))
          refine aFZ hc hn u3 u1 w5 (hf1.mono (by omega)) hcv hS w1 w2 w3 w4 fun n4 hn4=>?_
          cases hm:gJ S n C.length s with
          | true =>
           rw [hm,Bool.true_and] at hr2
           have hok2:∀ (e':Env) n',e' 1=ptr nx→e' 5=.int .i64 ((k:Int)+1)→nx+1≤n'→Q2 .normal e' h'' n':=fun e' n' z1 z5 hn =>
            hq (j - 1) _ _ _ _ (by omega) ⟨k+1,by omega,hn,rfl,z1,z5,hr2⟩ (Sub.refl _)
           (repeat(first|refine aB (by simp (disch:=first|omega|exact nnN _|assumption) only [BB,B2,↓reduceIte,Nat.reduceLeDiff,Nat.reduceAdd,CC]<;>rfl) ?_|refine aD ?_|refine aE ?_|with_reducible first|refine aG ?_|refine aF ?_|refine aK ?_|refine aH ?_|refine aJ ?_|refine aI ?_|refine aL ?_|refine aC ?_))
           exact hok2 _ _ e1 rfl (by omega)
          | false =>
           rw [hm,Bool.false_and] at hr2
           subst hr2
           (repeat(first|refine aB (by simp (disch:=first|omega|exact nnN _|assumption) only [BB,B2,↓reduceIte,Nat.reduceLeDiff,Nat.reduceAdd,CC]<;>rfl) ?_|refine aD ?_|refine aE ?_|with_reducible first|refine aG ?_|refine aF ?_|refine aK ?_|refine aH ?_|refine aJ ?_|refine aI ?_|refine aL ?_|refine aC ?_))
           refine hx _ _ _ _ (fun e=>by cases e) (eL ?_)
           exact hno _ rfl (by omega)
         ·rw [gB (by omega)] at hr2
          have hr2:true=A:=hr2
          subst hr2
          (repeat(first|refine aB (by simp (disch:=first|omega|exact nnN _|assumption) only [BB,B2,↓reduceIte,Nat.reduceLeDiff,Nat.reduceAdd,CC]<;>rfl) ?_|refine aD ?_|refine aE ?_|with_reducible first|refine aG ?_|refine aF ?_|refine aK ?_|refine aH ?_|refine aJ ?_|refine aI ?_|refine aL ?_|refine aC ?_))
          refine hx _ _ _ _ (fun e=>by cases e) (eB (dA ?_))
          unfold sR
          exact ⟨h,hs,hK _ (by omega)⟩
        exact hend _ _ e1 (by omega)
end V
end Go.Proofs.YtcaccnneblghgaaGreat
namespace Go.Proofs.YtcaccnneblghgaaGreat
namespace V
theorem aDL (m b i:Nat):oP (m ||| 2 ^ b) i=if i=b / 64 then oP m i ||| 2 ^ (b % 64) else oP m i:=by
 apply Nat.eq_of_testBit_eq
 intro j
 rw [oN,Nat.testBit_or,Nat.testBit_two_pow]
 by_cases h:i=b / 64
 ·rw [if_pos h,Nat.testBit_or,oN,Nat.testBit_two_pow]
  subst h
  by_cases hj:j < 64
  ·have:(b=64*(b / 64)+j) ↔ (b % 64=j):=by omega
   simp [hj,this]
  ·have:¬ (b % 64=j):=by have:=Nat.mod_lt b (show 64 > 0 by decide); omega
   simp [hj,this]
 ·rw [if_neg h,oN]
  by_cases hj:j < 64
  ·have:¬ (b=64*i+j):=by omega
   simp [hj,this]
  ·simp [hj]
theorem aJc (k a b:Nat):2 ^ k*(a ||| b)=2 ^ k*a ||| 2 ^ k*b:=by
 apply Nat.eq_of_testBit_eq
 intro j
 simp only [Nat.testBit_or,Nat.testBit_two_pow_mul]
 cases decide (j ≥ k)<;>simp
theorem aHg {a:Nat} (h:a % 2=0):a ||| 1=a+1:=by
 have h2:a=2 ^ 1*(a / 2):=by omega
 have:=Nat.two_pow_add_eq_or_of_lt (show 1 < 2 ^ 1 by decide) (a / 2)
 rw [← h2] at this; exact this.symm
theorem aNa {x k:Nat} (h:x.testBit k=false):x+2 ^ k=x ||| 2 ^ k:=by
 have hr:x % 2 ^ k < 2 ^ k:=Nat.mod_lt _ (Nat.two_pow_pos k)
 have ha:(x / 2 ^ k) % 2=0:=by
  rw [Nat.testBit_eq_decide_div_mod_eq] at h
  have:¬ (x / 2 ^ k % 2=1):=by simpa using h
  omega
 have e1:=Nat.two_pow_add_eq_or_of_lt hr (x / 2 ^ k)
 have e2:=Nat.two_pow_add_eq_or_of_lt hr (x / 2 ^ k+1)
 have e0:2 ^ k*(x / 2 ^ k)+x % 2 ^ k=x:=Nat.div_add_mod _ _
 have e3:x+2 ^ k=2 ^ k*(x / 2 ^ k+1)+x % 2 ^ k:=by rw [Nat.mul_add,Nat.mul_one]; omega
 have e4:2 ^ k*(x / 2 ^ k+1)=2 ^ k*(x / 2 ^ k) ||| 2 ^ k:=by
  rw [← aHg ha,aJc,Nat.mul_one]
 have hx:x ||| 2 ^ k=(2 ^ k*(x / 2 ^ k) ||| x % 2 ^ k) ||| 2 ^ k:=by rw [← e1,e0]
 rw [e3,e2,e4,hx,Nat.or_assoc,Nat.or_comm (2 ^ k) (x % 2 ^ k),← Nat.or_assoc]
theorem aIU {x k:Nat} (h:x.testBit k=true):x ||| 2 ^ k=x:=by
 apply Nat.eq_of_testBit_eq
 intro j
 rw [Nat.testBit_or,Nat.testBit_two_pow]
 by_cases e:k=j
 ·subst e; simp [h]
 ·simp [e]
theorem aOe:zer Tryz.prog dR=some (aBe 0):=by kernel_rfl
set_option maxRecDepth 20000
theorem aE9 (m:Nat):(mI m).length=4:=rfl
theorem aOT (m:Nat):(mI m).all cP=true:=rfl
theorem aKb (m:Nat):List.take 4 (List.drop 0 (mI m))=mI m:=rfl
theorem wE {K:Value→Prop} (k:K (aBe 0)):aA (zer Tryz.prog dR) K:=by rw [aOe]; exact k
theorem aMy (m n:Nat):over (mI m) 0 (mI n)=mI n:=rfl
theorem aL4 (m:Nat):(aBe m).cells.size=4:=rfl
theorem aIp (m:Nat):Value.agg (mI m).toArray=aBe m:=rfl
theorem aNJ {m b:Nat} (hb:b < 256):(mI m).set (b / 64) (.int .u64 ((oP m (b / 64) ||| 2 ^ (b % 64):Nat):Int))=mI (m ||| 2 ^ b):=by
 have h0:=aDL m b 0
 have h1:=aDL m b 1
 have h2:=aDL m b 2
 have h3:=aDL m b 3
 have hq:b / 64=0∨b / 64=1∨b / 64=2∨b / 64=3:=by omega
 unfold mI
 rcases hq with hq | hq | hq | hq<;>rw [hq] at h0 h1 h2 h3 ⊢<;>simp at h0 h1 h2 h3<;>simp [h0,h1,h2,h3]
theorem yB {ro:Ro} {m w:Nat} {e:Env} {h h0:T Obj} {id nx nx0:Nat} {K:KV} (h2:e 2=at_ id 0 0) (h4:e 4=at_ (id+1) 0 0) (g1:h.get id=some (.cells (mI m).toArray dR)) (g2:h.get (id+1)=some (.cells (mI w).toArray dR))
  (hf:Fr h0 nx0) (hs:Sub h0 h) (hid:nx0≤id) (hK:K (aBe m) h0 (nx+2)):pD ro K e h nx:=by
 unfold pD
 (repeat(first|refine aB (by simp (disch:=first|omega|exact nnN _|assumption) only [BB,B2,↓reduceIte,Nat.reduceLeDiff,Nat.reduceAdd,aT,aU,aY,aX,aW,aV,gE,aE9,aKb,aIp,h2,h4,g1,g2,aL4,aOT,aMy]<;>rfl) ?_|refine aD ?_|refine aE ?_|with_reducible first|refine aG ?_|refine aF ?_|refine aK ?_|refine aH ?_|refine aJ ?_|refine aI ?_|refine aL ?_|refine aC ?_))
 exact ⟨h0,hs.new hf (by omega),hK⟩
section
theorem aGy {ro:Ro} {m b:Nat} (hb:b < 256) {h:T Obj} {nx:Nat} {K:KV} (hf:Fr h nx) (hK:∀ nx',nx≤nx'→K (aBe (m ||| 2 ^ b)) h nx'):aN Tryz.prog ro vL [aBe m,.int .u8 b] h nx K:=by
 apply aFP
 unfold aAo
 refine aD (wE ?_)
 (repeat(first|refine aB (by simp (disch:=first|omega|exact nnN _|assumption) only [BB,B2,↓reduceIte,Nat.reduceLeDiff,Nat.reduceAdd,aT,aU,aY,aX,aW,aV,gE,aE9,aKb,aIp]<;>rfl) ?_|refine aD ?_|refine aE ?_|with_reducible first|refine aG ?_|refine aF ?_|refine aK ?_|refine aH ?_|refine aJ ?_|refine aI ?_|refine aL ?_|refine aC ?_))
 refine aCf hb ((hf.mono (Nat.le_add_right nx 5)).upd (n:=nx+5) (Nat.le_refl _) (by omega) |>.upd (Nat.le_refl _) (by omega)) fun n hn=>?_
 (repeat(first|refine aB (by simp (disch:=first|omega|exact nnN _|assumption) only [BB,B2,↓reduceIte,Nat.reduceLeDiff,Nat.reduceAdd,aT,aU,aY,aX,aW,aV]<;>rfl) ?_|refine aD ?_|refine aE ?_|with_reducible first|refine aG ?_|refine aF ?_|refine aK ?_|refine aH ?_|refine aJ ?_|refine aI ?_|refine aL ?_|refine aC ?_))
 have h1:((b:Int) / 64).toNat=b / 64:=by omega
 have h2:((b:Int) % 64).toNat=b % 64:=by omega
 have h3:=aKe m (b / 64)
 have h4:b / 64 < 4:=by omega
 have h5:=aIo (m:=m) h4
 cases hm:m.testBit b with
 | true =>
  simp only [Bool.not_true]
  (repeat(first|refine aB (by simp (disch:=first|omega|exact nnN _|assumption) only [BB,B2,↓reduceIte,Nat.reduceLeDiff,Nat.reduceAdd,aT,aU,aY,aX,aW,aV]<;>rfl) ?_|refine aD ?_|refine aE ?_|with_reducible first|refine aG ?_|refine aF ?_|refine aK ?_|refine aH ?_|refine aJ ?_|refine aI ?_|refine aL ?_|refine aC ?_))
  refine yB (m:=m) (w:=0) (id:=nx) rfl rfl ?_ ?_ hf ?_ (Nat.le_refl _) ?_
  ·simp (disch:=first | omega | exact Int.natCast_nonneg _ | assumption) only [BB,B2,↓reduceIte,Nat.reduceLeDiff,Nat.reduceAdd,aT,aU,aY,aX,aW,aV,gE]
  ·simp (disch:=first | omega | exact Int.natCast_nonneg _ | assumption) only [BB,B2,↓reduceIte,Nat.reduceLeDiff,Nat.reduceAdd,aT,aU,aY,aX,aW,aV,gE]
  ·exact ((Sub.refl h).new hf (Nat.le_refl _)).new hf (by omega)
  ·have:=hK (n+1+2) (by omega)
   rw [aIU hm] at this; exact this
 | false =>
  simp only [Bool.not_false]
  have h6:(oP m (b / 64)).testBit (b % 64)=false:=by
   rw [oN,Nat.div_add_mod,hm]; simp
  have h7:=aNa h6
  have h8:oP m (b / 64)+2 ^ (b % 64) < 18446744073709551616:=by
   rw [h7]; exact Nat.or_lt_two_pow (n:=64) h3 (Nat.pow_lt_pow_right (by decide) (by omega))
  have h9:((oP m (b / 64):Nat):Int)+((2 ^ (b % 64):Nat):Int)=((oP m (b / 64) ||| 2 ^ (b % 64):Nat):Int):=by rw [← h7]; exact (Int.natCast_add _ _).symm
  have h10:((oP m (b / 64) ||| 2 ^ (b % 64):Nat):Int)≤18446744073709551615:=aKF (by rw [← h7]; exact h8)
  have h11:=aED (.int .u64 ((oP m (b / 64) ||| 2 ^ (b % 64):Nat):Int)) (l:=mI m) (off:=b / 64) (by rw [aE9]; omega)
  (repeat(first|refine aB (by simp (disch:=first|omega|exact nnN _|assumption) only [BB,B2,↓reduceIte,Nat.reduceLeDiff,Nat.reduceAdd,aT,aU,aY,aX,aW,aV,gE,h1,h2,h5,h9]<;>rfl) ?_|refine aD ?_|refine aE ?_|with_reducible first|refine aG ?_|refine aF ?_|refine aK ?_|refine aH ?_|refine aJ ?_|refine aI ?_|refine aL ?_|refine aC ?_))
  refine aB (dN (l:=mI m) (by simp (disch:=first | omega | exact Int.natCast_nonneg _ | assumption) only [BB,B2,↓reduceIte,Nat.reduceLeDiff,Nat.reduceAdd,aT,aU,aY,aX,aW,aV,gE]<;>rfl) h4 rfl rfl) ?_
  rw [aNJ hb]
  refine yB (m:=m ||| 2 ^ b) (w:=0) (id:=nx) rfl rfl ?_ ?_ hf ?_ (Nat.le_refl _) (hK _ (by omega))
  ·simp (disch:=first | omega | exact Int.natCast_nonneg _ | assumption) only [BB,B2,↓reduceIte,Nat.reduceLeDiff,Nat.reduceAdd,aT,aU,aY,aX,aW,aV,gE]
  ·simp (disch:=first | omega | exact Int.natCast_nonneg _ | assumption) only [BB,B2,↓reduceIte,Nat.reduceLeDiff,Nat.reduceAdd,aT,aU,aY,aX,aW,aV,gE]
  ·exact (((Sub.refl h).new hf (Nat.le_refl _)).new hf (by omega)).new hf (Nat.le_refl _)
end
set_option maxRecDepth 20000
def pB (m:Nat) (l:List Nat):Nat:=l.foldl (fun m b=>m ||| 2 ^ b) m
def cA (l:List Nat):List (List Value):=l.map fun b:Nat=>[Value.int .u8 (b:Int)]
theorem d9 (l:List Nat):(cA l).length=l.length:=by simp [cA]
theorem rR {l:List Nat} {i:Nat} (hi:i < l.length):(cA l)[i]?=some [.int .u8 (l[i]:Nat)]:=by simp [cA,hi]
theorem aJG:eX Tryz.prog dR []=some (aBe 0):=by kernel_rfl
theorem aEz {K:Value→Prop} (k:K (aBe 0)):aA (eX Tryz.prog dR []) K:=by rw [aJG]; exact k
theorem aGn {m:Nat} {l:List Nat} {i:Nat} (hi:i < l.length):pB m (l.take (i+1))=pB m (l.take i) ||| 2 ^ l[i]:=by
 rw [List.take_succ_eq_append_getElem hi,pB,List.foldl_append]; rfl
theorem aJf {ro:Ro} {v:Value} {l:List Nat} (hl:∀ b∈l,b < 256) (hlen:l.length≤1000000) {h:T Obj} {nx:Nat} {K:KV} (hf:Fr h nx) (hv:Sl ro h v 1 (cA l)) (hK:∀ nx',nx≤nx'→K (aBe (pB 0 l)) h nx'):aN Tryz.prog ro aAh [v] h nx K:=by
 apply aI7
 unfold aEG
 refine wE (aD (aEz (wE (aD ?_))))
 refine aB (lJ (l:=mI 0) (vs:=mI 0) (by simp (disch:=first | omega | exact Int.natCast_nonneg _ | assumption) only [BB,B2,↓reduceIte,Nat.reduceLeDiff,Nat.reduceAdd,aT,aU,aY,aX,aW,aV,gE]<;>rfl) rfl rfl rfl rfl) ?_
 refine bC (fun n e h' nx'=>∃ i:Nat,i+n=l.length∧nx+3≤nx'∧e 0=v∧e 2=ptr nx∧e 3=ptr (nx+2)∧e 4=.int .i64 i∧Sub h h'∧Fr h' nx' ∧
  h'.get nx=some (.cells (mI 0).toArray dR)∧h'.get (nx+2)=some (.cells (mI (pB 0 (l.take i))).toArray dR)) ?_ (n:=l.length) ⟨0,by omega,by omega,rfl,rfl,rfl,rfl,?_,?_,?_,?_⟩
 ·rintro n e h' nx' ⟨i,hin,hnx,e0,e2,e3,e4,hs,hf',g1,g2⟩ Q' hc hx
  unfold aCg
  rw [e0,e3,e4]
  have hlenv:=(hv.sub hs).len
  rw [d9] at hlenv
  refine aB hlenv ?_
  (repeat(first|refine aB (by simp (disch:=first|omega|exact nnN _|assumption) only [BB,B2,↓reduceIte,Nat.reduceLeDiff,Nat.reduceAdd,aT,aU,aY,aX,aW,aV]<;>rfl) ?_|refine aD ?_|refine aE ?_|with_reducible first|refine aG ?_|refine aF ?_|refine aK ?_|refine aH ?_|refine aJ ?_|refine aI ?_|refine aL ?_|refine aC ?_))
  by_cases hi:i < l.length
  ·refine hY (by simp; omega) ?_
   refine aB (c8 g2 rfl) ?_
   refine aB ((hv.sub hs).ix _ (by rw [d9]; exact hi)) ?_
   refine aB ((hv.sub hs).load1 (rR hi)) ?_
   refine aGy (hl _ (List.getElem_mem hi)) (hf'.mono (by omega)) fun n1 hn1=>?_
   refine aB (lJ (l:=mI _) (vs:=mI _) g2 rfl rfl rfl rfl) ?_
   (repeat(first|refine aB (by simp (disch:=first|omega|exact nnN _|assumption) only [BB,B2,↓reduceIte,Nat.reduceLeDiff,Nat.reduceAdd,aT,aU,aY,aX,aW,aV]<;>rfl) ?_|refine aD ?_|refine aE ?_|with_reducible first|refine aG ?_|refine aF ?_|refine aK ?_|refine aH ?_|refine aJ ?_|refine aI ?_|refine aL ?_|refine aC ?_))
   refine hc (n - 1) _ _ _ _ (by omega) ⟨i+1,by omega,?_,e0,e2,e3,rfl,hs.new hf (by omega),(hf'.mono (by omega)).upd (Nat.le_refl _) (by omega),?_,?_⟩ (Sub.refl _)
   ·omega
   ·simp (disch:=first | omega | exact Int.natCast_nonneg _ | assumption) only [BB,B2,↓reduceIte,Nat.reduceLeDiff,Nat.reduceAdd,aT,aU,aY,aX,aW,aV,g1]
   ·rw [T.get_upd_same,aGn hi]
  ·refine hU (by simp; omega) ?_
   refine hx _ _ _ _ (fun e=>by cases e) ?_
   show exP _ _ _ _
   rw [dI]
   show tC ro K _ _ _
   unfold tC
   show aA (loadA ro h' 4 (e 3)) _
   rw [e3]
   refine aB (c8 g2 rfl) ?_
   show aA (bV 4 h' (e 2) _) _
   rw [e2]
   refine aB (lJ (l:=mI _) (vs:=mI _) g1 rfl rfl rfl rfl) ?_
   show aA (loadA ro _ 4 (e 2)) _
   rw [e2]
   refine aB (c8 (by rw [T.get_upd_same]) rfl) ?_
   refine ⟨h,hs.new hf (Nat.le_refl _),?_⟩
   have:l.take i=l:=List.take_of_length_le (by omega)
   rw [this]
   exact hK _ (by omega)
 ·exact (((Sub.refl h).new hf (Nat.le_refl _)).new hf (by omega)).new hf (by omega)
 ·exact ((hf.upd (m:=nx+5) (by omega) (by omega)).upd (Nat.le_refl _) (by omega)).upd (Nat.le_refl _) (by omega)
 ·simp (disch:=first | omega | exact Int.natCast_nonneg _ | assumption) only [BB,B2,↓reduceIte,Nat.reduceLeDiff,Nat.reduceAdd,aT,aU,aY,aX,aW,aV,gE]
 ·rw [T.get_upd_same]; rfl
set_option maxRecDepth 20000
set_option maxRecDepth 20000
set_option maxRecDepth 20000
set_option maxRecDepth 20000
theorem aPX (aid:Nat) (b:Int):bU Tryz.prog bM aid 1 [(0,.int .u8 b)]=some (.slice (some (own aid 1)) 1 1,some (.cells #[.int .u8 b] cJ)):=by kernel_rfl
theorem oO:und Tryz.prog bM=some (.slice cJ):=by kernel_rfl
theorem aJy:∃ i,tin Tryz.prog cJ=some i∧i.size=1∧i.bytes=1:=by
 have h:(tin Tryz.prog cJ).map (fun i=>(i.size,i.bytes))=some (1,1):=by kernel_rfl
 cases hi:tin Tryz.prog cJ with
 | none=>rw [hi] at h; cases h
 | some i=>rw [hi] at h; simp at h; exact ⟨i,rfl,h.1,h.2⟩
theorem aPq:zer Tryz.prog cJ=some (.int .u8 0):=by kernel_rfl
theorem aKg {ro:Ro} {h:T Obj} {v x:Value} {nx lo hi:Nat} {l:List Nat} {b:Nat} (ho:Own h v 1 cJ (cA l) lo hi) (hx:Sl ro h x 1 (cA [b])) (hb:l.length≤1000000) (hlo:lo≤nx) (hnx:hi≤nx) :
  ∃ h' r,cR Tryz.prog ro h nx #[bM,bM] [v,x]=some (r,h',nx+1)∧Own h' r 1 cJ (cA (l++[b])) lo (nx+1)∧(∀ k,(k < lo∨hi≤k)→k≠nx→h'.get k=h.get k)∧(∀ k,k≠nx→h'.get k=h.get k∨h'.get k=none):=by
 obtain ⟨i,h1,h2,h3⟩:=aJy
 have hcat:cA l++cA [b]=cA (l++[b]):=by simp [cA]
 have hl1:(cA l).length=l.length:=d9 l
 have hl2:(cA [b]).length=1:=rfl
 obtain ⟨h',q1,q2,q3,q4⟩:=aA4 (P:=Tryz.prog) (t:=bM) ho hx oO h1 h2 (by omega) aPq rfl (by simp [cA]) rfl (by rw [hl1,hl2,h3]; unfold big; omega) (by rw [hl1,hl2]; unfold big; omega) hlo hnx
 rw [hcat] at q1 q2
 exact ⟨h',_,q1,q2,q3,q4⟩
set_option maxRecDepth 20000
set_option maxRecDepth 20000
theorem aDC (m:Nat) (l:List Nat) (b:Nat):(pB m l).testBit b=(m.testBit b || decide (b∈l)):=by
 induction l generalizing m with
 | nil=>simp [pB]
 | cons a l ih =>
  have:pB m (a::l)=pB (m ||| 2 ^ a) l:=rfl
  rw [this,ih,Nat.testBit_or,Nat.testBit_two_pow]
  by_cases e:a=b
  ·subst e; simp
  ·have:¬ b=a:=fun h=>e h.symm
   simp [e,this]
def mem (c:List Nat) (k:Int) (i:Nat):List Nat:=(List.range i).filter fun b=>decide (((c.getD b 0:Nat):Int)=k)
def aNe (c:List Nat) (k:Int):Nat:=pB 0 (mem c k 256)
theorem aDe (p:Nat→Bool) (i:Nat):[i].filter p=if p i=true then [i] else []:=by
 cases h:p i<;>simp [h]
theorem aIK (c:List Nat) (k:Int) (i:Nat):mem c k (i+1)=mem c k i++(if ((c.getD i 0:Nat):Int)=k then [i] else []):=by
 unfold mem
 rw [List.range_succ,List.filter_append,aDe]
 simp only [decide_eq_true_eq]
theorem aPY {c:List Nat} {k:Int} {i b:Nat} (h:b∈mem c k i):b < i:=by
 unfold mem at h
 exact List.mem_range.1 (List.mem_filter.1 h).1
theorem aKZ (c:List Nat) (k:Int) (i:Nat):(mem c k i).length≤i:=by
 unfold mem
 refine Nat.le_trans (List.length_filter_le _ _) ?_
 simp
theorem s4 {ro:Ro} {h h0:T Obj} {v:Value} {n1 lo hi nx nx0:Nat} {l:List Nat} {b:Nat} {K:Value × T Obj × Nat→Prop} (ho:Own h v 1 cJ (cA l) lo hi) (hl:l.length≤1000000) (hf:Fr h nx) (hs:Sub h0 h) (hf0:Fr h0 nx0) (hlo0:nx0≤lo) (hlo:lo≤hi) (hn:hi≤n1) (hnx:nx≤n1) (h2:n1+1≤nx+1000)
  {n2:Nat} (hn2:n1 < n2)
  (hK:∀ h' r,Own h' r 1 cJ (cA (l++[b])) lo (n2+1)→Sub h0 h'→Fr h' (n2+1)→(∀ k,(k < lo∨hi≤k)→k≠n2→k≠n1→h'.get k=h.get k)→K (r,h',n2+1)) :
  aA (bU Tryz.prog bM n1 1 [(0,.int .u8 (b:Int))]) fun r=>eQ h n1 r.2 fun h'=>aA (cR Tryz.prog ro h' n2 #[bM,bM] [v,r.1]) K:=by
 refine aB (aPX _ _) (aE ?_)
 have ho2:Own (h.upd n1 (some (.cells #[.int .u8 (b:Int)] cJ))) v 1 cJ (cA l) lo hi:=ho.keep (Nat.le_refl _) fun id h1 h2 o hg=>by rw [T.get_upd_ne _ _ (by omega)]; exact hg
 have hx1:Sl ro (h.upd n1 (some (.cells #[.int .u8 (b:Int)] cJ))) (.slice (some (own n1 1)) 1 1) 1 (cA [b]):=Sl.own (l:=cA [b]) (by rw [T.get_upd_same]; rfl) (by simp [cA]) (Nat.le_refl _)
 obtain ⟨h2,r,q1,q2,q3,q4⟩:=aKg (nx:=n2) ho2 hx1 hl (by omega) (by omega)
 refine aB q1 (hK h2 r q2 ?_ ?_ ?_)
 ·intro k o hk
  have hkn:k < nx0:=by
   rcases Nat.lt_or_ge k nx0 with h9 | h9
   ·exact h9
   ·rw [hf0 k h9] at hk; cases hk
  rw [q3 k (.inl (by omega)) (by omega),T.get_upd_ne _ _ (by omega)]
  exact hs k o hk
 ·intro k hk
  rw [q3 k (.inr (by omega)) (by omega),T.get_upd_ne _ _ (by omega)]
  exact hf k (by omega)
 ·intro k hk h3 h4
  rw [q3 k hk h3,T.get_upd_ne _ _ h4]
set_option maxRecDepth 20000
set_option maxRecDepth 4000 in
theorem aI8 {ro:Ro} {c:List Nat} {n k:Int} (hc:c.length=256) (hcl:∀ x∈c,x < 256) {h:T Obj} {nx:Nat} {K:KV} (hf:Fr h nx) (hK:∀ nx',nx≤nx'→K (aBe (aNe c k)) h nx'):aN Tryz.prog ro x3 [mB c n,.int .i64 k] h nx K:=by
 apply aHA
 unfold aCH
 refine aD (wE (aD ?_))
 refine bC (fun j e h' nx'=>∃ (i:Nat) (lv:Value),i+j=256∧nx+2≤nx'∧e 1=.int .i64 k∧e 2=ptr nx∧e 4=ptr (nx+1)∧e 5=lv∧e 6=.int .i64 i∧Sub h h'∧Fr h' nx' ∧
  h'.get nx=some (.cells (eU c n).toArray dC)∧h'.get (nx+1)=some (.cells (mI 0).toArray dR)∧Own h' lv 1 cJ (cA (mem c k i)) (nx+2) nx') ?_ (n:=256) ⟨0,_,by omega,by omega,rfl,rfl,rfl,rfl,rfl,?_,?_,?_,?_,Own.nil⟩
 ·rintro j e h' nx' ⟨i,lv,hij,hnx,e1,e2,e4,e5,e6,hs,hf',g0,g1,ho⟩ Q' hq hx
  unfold aB9
  rw [e1,e2,e5,e6]
  (repeat(first|refine aB (by simp (disch:=first|omega|exact nnN _|assumption) only [BB,B2,↓reduceIte,Nat.reduceLeDiff,Nat.reduceAdd,aT,aU,aY,aX,aW,aV]<;>rfl) ?_|refine aD ?_|refine aE ?_|with_reducible first|refine aG ?_|refine aF ?_|refine aK ?_|refine aH ?_|refine aJ ?_|refine aI ?_|refine aL ?_|refine aC ?_))
  by_cases hi:i < 256
  ·refine hY (by simp; omega) ?_
   have hic:i < c.length:=by omega
   have hci:=hcl _ (List.getElem_mem hic)
   have hg:=zD (n:=n) hic
   have hgd:c.getD i 0=c[i]:=by rw [List.getD_eq_getElem?_getD,List.getElem?_eq_getElem hic]; rfl
   (repeat(first|refine aB (by simp (disch:=first|omega|exact nnN _|assumption) only [BB,B2,↓reduceIte,Nat.reduceLeDiff,Nat.reduceAdd,aT,aU,aY,aX,aW,aV,g0,hg]<;>rfl) ?_|refine aD ?_|refine aE ?_|with_reducible first|refine aG ?_|refine aF ?_|refine aK ?_|refine aH ?_|refine aJ ?_|refine aI ?_|refine aL ?_|refine aC ?_))
   have hj2:∀ (e:Env) (h1:T Obj) (n2:Nat) (lv:Value),nx'≤n2→e 1=.int .i64 k→e 2=ptr nx→e 4=ptr (nx+1)→e 5=lv→e 6=.int .i64 i→Sub h h1→Fr h1 n2→h1.get nx=some (.cells (eU c n).toArray dC)→h1.get (nx+1)=some (.cells (mI 0).toArray dR) →
     Own h1 lv 1 cJ (cA (mem c k (i+1))) (nx+2) n2→qY ro Q' e h1 n2:=by
    intro e h1 n2 lv hn2 e1 e2 e4 e5 e6 hs1 hf1 g0 g1 ho1
    unfold qY
    rw [e6]
    (repeat(first|refine aB (by simp (disch:=first|omega|exact nnN _|assumption) only [BB,B2,↓reduceIte,Nat.reduceLeDiff,Nat.reduceAdd,aT,aU,aY,aX,aW,aV]<;>rfl) ?_|refine aD ?_|refine aE ?_|with_reducible first|refine aG ?_|refine aF ?_|refine aK ?_|refine aH ?_|refine aJ ?_|refine aI ?_|refine aL ?_|refine aC ?_))
    exact hq (j - 1) _ _ _ _ (by omega) ⟨i+1,lv,by omega,by omega,e1,e2,e4,e5,rfl,hs1,hf1.mono (by omega),g0,g1,ho1.keep (by omega) fun _ _ _ _ hg=>hg⟩ (Sub.refl _)
   by_cases hk:((c[i]:Nat):Int)=k
   ·refine hY (by simp [hk]) ?_
    (repeat(first|refine aB (by simp (disch:=first|omega|exact nnN _|assumption) only [BB,B2,↓reduceIte,Nat.reduceLeDiff,Nat.reduceAdd,aT,aU,aY,aX,aW,aV]<;>rfl) ?_|refine aD ?_|refine aE ?_|with_reducible first|refine aG ?_|refine aF ?_|refine aK ?_|refine aH ?_|refine aJ ?_|refine aI ?_|refine aL ?_|refine aC ?_))
    refine s4 (h0:=h) (nx0:=nx) (nx:=nx') (lo:=nx+2) (hi:=nx') ho (Nat.le_trans (aKZ _ _ _) (by omega)) hf' hs hf (by omega) (by omega) (by omega) (by omega) (by omega) (by omega) fun h2 r q1 q2 q3 q4=>?_
    dsimp only
    refine hj2 _ _ _ r (by omega) e1 e2 e4 rfl e6 q2 (q3.mono (by omega)) ?_ ?_ ?_
    ·rw [q4 _ (.inl (by omega)) (by omega) (by omega)]; exact g0
    ·rw [q4 _ (.inl (by omega)) (by omega) (by omega)]; exact g1
    ·rw [aIK,hgd,if_pos hk]; exact q1.keep (by omega) fun _ _ _ _ hg=>hg
   ·refine hU (by simp [hk]) ?_
    refine hj2 _ _ _ lv (by omega) e1 e2 e4 e5 e6 hs (hf'.mono (by omega)) g0 g1 ?_
    rw [aIK,hgd,if_neg hk,List.append_nil]; exact ho.keep (by omega) fun _ _ _ _ hg=>hg
  ·refine hU (by simp; omega) ?_
   refine hx _ _ _ _ (fun e=>by cases e) (eB (dA ?_))
   have hi2:i=256:=by omega
   subst hi2
   unfold vV
   have f4:∀ a b,Env.put (Env.put e 7 a) 8 b 4=ptr (nx+1):=fun a b=>e4
   have f5:∀ a b,Env.put (Env.put e 7 a) 8 b 5=lv:=fun a b=>e5
   simp only [puts,f4,f5]
   refine aJf (fun b hb=>aPY hb) (Nat.le_trans (aKZ c k 256) (by omega)) (hf'.mono (by omega)) ho.sl fun n2 hn2=>?_
   refine aB (lJ (l:=mI 0) (vs:=mI (aNe c k)) g1 rfl rfl rfl rfl) ?_
   refine aB (c8 (by rw [T.get_upd_same]) rfl) ?_
   exact ⟨h,hs.new hf (by omega),hK _ (by omega)⟩
 ·exact ((Sub.refl h).new hf (Nat.le_refl _)).new hf (by omega)
 ·exact (hf.upd (m:=nx+4) (by omega) (by omega)).upd (Nat.le_refl _) (by omega)
 ·simp (disch:=first | omega | exact Int.natCast_nonneg _ | assumption) only [BB,B2,↓reduceIte,Nat.reduceLeDiff,Nat.reduceAdd,aT,aU,aY,aX,aW,aV,lR]
 ·simp (disch:=first | omega | exact Int.natCast_nonneg _ | assumption) only [BB,B2,↓reduceIte,Nat.reduceLeDiff,Nat.reduceAdd,aT,aU,aY,aX,aW,aV,gE]
def lst (m i:Nat):List Nat:=(List.range i).filter fun b=>m.testBit b
def aM7 (m:Nat):List Nat:=lst m 256
theorem aIH (m i:Nat):lst m (i+1)=lst m i++(if m.testBit i=true then [i] else []):=by
 unfold lst
 rw [List.range_succ,List.filter_append,aDe]
theorem aNw (m i:Nat):(lst m i).length≤i:=by
 unfold lst
 refine Nat.le_trans (List.length_filter_le _ _) ?_
 simp
set_option maxRecDepth 4000 in
theorem aGx {ro:Ro} {m:Nat} {h:T Obj} {nx:Nat} {K:KV} (hf:Fr h nx) (hK:∀ r h' nx',nx≤nx'→Sub h h'→Fr h' nx'→Own h' r 1 cJ (cA (aM7 m)) nx nx'→K r h' nx'):aN Tryz.prog ro vK [aBe m] h nx K:=by
 apply aFN
 unfold aAn
 refine aD ?_
 refine bC (fun j e h' nx'=>∃ (i:Nat) (lv:Value),i+j=256∧nx+1≤nx'∧e 1=ptr nx∧e 3=lv∧e 4=.int .i64 i∧Sub h h'∧Fr h' nx' ∧
  h'.get nx=some (.cells (mI m).toArray dR)∧Own h' lv 1 cJ (cA (lst m i)) (nx+1) nx') ?_ (n:=256) ⟨0,_,by omega,by omega,rfl,rfl,rfl,?_,?_,?_,Own.nil⟩
 ·rintro j e h' nx' ⟨i,lv,hij,hnx,e1,e3,e4,hs,hf',g0,ho⟩ Q' hq hx
  unfold aAT
  rw [e1,e3,e4]
  (repeat(first|refine aB (by simp (disch:=first|omega|exact nnN _|assumption) only [BB,B2,↓reduceIte,Nat.reduceLeDiff,Nat.reduceAdd,aT,aU,aY,aX,aW,aV]<;>rfl) ?_|refine aD ?_|refine aE ?_|with_reducible first|refine aG ?_|refine aF ?_|refine aK ?_|refine aH ?_|refine aJ ?_|refine aI ?_|refine aL ?_|refine aC ?_))
  by_cases hi:i < 256
  ·refine hY (by simp; omega) ?_
   refine aB (c8 g0 rfl) ?_
   (repeat(first|refine aB (by simp (disch:=first|omega|exact nnN _|assumption) only [BB,B2,↓reduceIte,Nat.reduceLeDiff,Nat.reduceAdd,aT,aU,aY,aX,aW,aV]<;>rfl) ?_|refine aD ?_|refine aE ?_|with_reducible first|refine aG ?_|refine aF ?_|refine aK ?_|refine aH ?_|refine aJ ?_|refine aI ?_|refine aL ?_|refine aC ?_))
   refine aCf hi (hf'.mono (by omega)) fun n1 hn1=>?_
   have hj2:∀ (e:Env) (h1:T Obj) (n2:Nat) (lv:Value),nx'≤n2→e 1=ptr nx→e 3=lv→e 4=.int .i64 i→Sub h h1→Fr h1 n2→h1.get nx=some (.cells (mI m).toArray dR) →
     Own h1 lv 1 cJ (cA (lst m (i+1))) (nx+1) n2→pC ro Q' e h1 n2:=by
    intro e h1 n2 lv hn2 e1 e3 e4 hs1 hf1 g0 ho1
    unfold pC
    rw [e4]
    (repeat(first|refine aB (by simp (disch:=first|omega|exact nnN _|assumption) only [BB,B2,↓reduceIte,Nat.reduceLeDiff,Nat.reduceAdd,aT,aU,aY,aX,aW,aV]<;>rfl) ?_|refine aD ?_|refine aE ?_|with_reducible first|refine aG ?_|refine aF ?_|refine aK ?_|refine aH ?_|refine aJ ?_|refine aI ?_|refine aL ?_|refine aC ?_))
    exact hq (j - 1) _ _ _ _ (by omega) ⟨i+1,lv,by omega,by omega,e1,e3,rfl,hs1,hf1.mono (by omega),g0,ho1.keep (by omega) fun _ _ _ _ hg=>hg⟩ (Sub.refl _)
   cases hb:m.testBit i with
   | true =>
    refine hY rfl ?_
    (repeat(first|refine aB (by simp (disch:=first|omega|exact nnN _|assumption) only [BB,B2,↓reduceIte,Nat.reduceLeDiff,Nat.reduceAdd,aT,aU,aY,aX,aW,aV]<;>rfl) ?_|refine aD ?_|refine aE ?_|with_reducible first|refine aG ?_|refine aF ?_|refine aK ?_|refine aH ?_|refine aJ ?_|refine aI ?_|refine aL ?_|refine aC ?_))
    refine s4 (h0:=h) (nx0:=nx) (nx:=n1) (lo:=nx+1) (hi:=nx') ho (Nat.le_trans (aNw _ _) (by omega)) (hf'.mono (by omega)) hs hf (by omega) (by omega) (by omega) (by omega) (by omega) (by omega) fun h2 r q1 q2 q3 q4=>?_
    dsimp only
    refine hj2 _ _ _ r (by omega) e1 rfl e4 q2 (q3.mono (by omega)) ?_ ?_
    ·rw [q4 _ (.inl (by omega)) (by omega) (by omega)]; exact g0
    ·rw [aIH,hb,if_pos rfl]; exact q1.keep (by omega) fun _ _ _ _ hg=>hg
   | false =>
    refine hU rfl ?_
    refine hj2 _ _ _ lv (by omega) e1 e3 e4 hs (hf'.mono (by omega)) g0 ?_
    rw [aIH,hb,if_neg (by simp),List.append_nil]; exact ho.keep (by omega) fun _ _ _ _ hg=>hg
  ·refine hU (by simp; omega) ?_
   refine hx _ _ _ _ (fun e=>by cases e) (eB (dA ?_))
   have hi2:i=256:=by omega
   subst hi2
   unfold tX
   have f3:∀ a b,Env.put (Env.put e 5 a) 6 b 3=lv:=fun a b=>e3
   simp only [puts,f3]
   refine ⟨h',Sub.refl _,hK _ _ _ (by omega) hs (hf'.mono (by omega)) ?_⟩
   rcases ho with ho | ⟨id,h1,h2,h3⟩
   ·exact .inl ho
   ·exact .inr ⟨id,by omega,by omega,h3⟩
 ·exact (Sub.refl h).new hf (Nat.le_refl _)
 ·exact hf.upd (m:=nx+4) (by omega) (by omega)
 ·simp (disch:=first | omega | exact Int.natCast_nonneg _ | assumption) only [BB,B2,↓reduceIte,Nat.reduceLeDiff,Nat.reduceAdd,aT,aU,aY,aX,aW,aV,gE]
set_option maxRecDepth 20000
def lb (c:List Nat) (k i:Nat):Nat:=((List.range' i (256 - i)).find? fun b=>decide (c.getD b 0=k)).getD 0
def xV (c:List Nat) (n:Int):List Nat:=if n < 1∨256 < n then [] else (List.range n.toNat).map fun k=>lb c k 0
theorem aLH {c:List Nat} {k:Int}:aM7 (aNe c k)=mem c k 256:=by
 unfold aM7 lst mem
 apply List.filter_congr
 intro b hb
 have hb:=List.mem_range.1 hb
 unfold aNe
 rw [aDC]
 simp [mem,hb]
theorem aMg {c:List Nat} {k:Nat}:(mem c (k:Int) 256).head?.getD 0=lb c k 0:=by
 unfold mem lb
 rw [List.head?_filter]
 have:(fun b=>decide (((c.getD b 0:Nat):Int)=(k:Int)))=fun b=>decide (c.getD b 0=k):=by
  funext b
  by_cases h:c.getD b 0=k
  ·rw [decide_eq_true h,decide_eq_true (by rw [h])]
  ·rw [decide_eq_false h,decide_eq_false (by omega)]
 rw [this,← List.range_eq_range']
set_option maxRecDepth 4000 in
theorem aFQ {ro:Ro} {c:List Nat} {n:Int} (hc:c.length=256) (hcl:∀ x∈c,x < 256) {h:T Obj} {nx:Nat} {K:KV} (hf:Fr h nx) (hK:∀ r h' nx',nx≤nx'→Sub h h'→Fr h' nx'→Own h' r 1 cJ (cA (xV c n)) nx nx'→K r h' nx'):aN Tryz.prog ro o8 [mB c n] h nx K:=by
 apply aEI
 unfold yC
 refine aD ?_
 have hg:=rE (n:=n) hc
 have g0:(h.upd nx (some (.cells (Value.cells (mB c n)) dC))).get nx=some (.cells (eU c n).toArray dC):=by rw [T.get_upd_same]; rfl
 have hs0:Sub h (h.upd nx (some (.cells (Value.cells (mB c n)) dC))):=(Sub.refl h).new hf (Nat.le_refl _)
 have hf0:Fr (h.upd nx (some (.cells (Value.cells (mB c n)) dC))) (nx+1):=(hf.mono (Nat.le_succ _)).upd (Nat.le_refl _) (by omega)
 generalize (h.upd nx (some (.cells (Value.cells (mB c n)) dC)))=h0 at g0 hs0 hf0
 (repeat(first|refine aB (by simp (disch:=first|omega|exact nnN _|assumption) only [BB,B2,↓reduceIte,Nat.reduceLeDiff,Nat.reduceAdd,aT,aU,aY,aX,aW,aV,g0,hg]<;>rfl) ?_|refine aD ?_|refine aE ?_|with_reducible first|refine aG ?_|refine aF ?_|refine aK ?_|refine aH ?_|refine aJ ?_|refine aI ?_|refine aL ?_|refine aC ?_))
 by_cases h1:n < 1
 ·rw [decide_eq_true h1]
  (repeat(first|refine aB (by simp (disch:=first|omega|exact nnN _|assumption) only [BB,B2,↓reduceIte,Nat.reduceLeDiff,Nat.reduceAdd,aT,aU,aY,aX,aW,aV,g0,hg]<;>rfl) ?_|refine aD ?_|refine aE ?_|with_reducible first|refine aG ?_|refine aF ?_|refine aK ?_|refine aH ?_|refine aJ ?_|refine aI ?_|refine aL ?_|refine aC ?_))
  exact ⟨h0,Sub.refl _,hK _ _ _ (by omega) hs0 (hf0.mono (by omega)) (by unfold xV; rw [if_pos (.inl h1)]; exact Own.nil)⟩
 rw [decide_eq_false h1]
 (repeat(first|refine aB (by simp (disch:=first|omega|exact nnN _|assumption) only [BB,B2,↓reduceIte,Nat.reduceLeDiff,Nat.reduceAdd,aT,aU,aY,aX,aW,aV,g0,hg]<;>rfl) ?_|refine aD ?_|refine aE ?_|with_reducible first|refine aG ?_|refine aF ?_|refine aK ?_|refine aH ?_|refine aJ ?_|refine aI ?_|refine aL ?_|refine aC ?_))
 by_cases h2:256 < n
 ·rw [decide_eq_true h2]
  (repeat(first|refine aB (by simp (disch:=first|omega|exact nnN _|assumption) only [BB,B2,↓reduceIte,Nat.reduceLeDiff,Nat.reduceAdd,aT,aU,aY,aX,aW,aV,g0,hg]<;>rfl) ?_|refine aD ?_|refine aE ?_|with_reducible first|refine aG ?_|refine aF ?_|refine aK ?_|refine aH ?_|refine aJ ?_|refine aI ?_|refine aL ?_|refine aC ?_))
  exact ⟨h0,Sub.refl _,hK _ _ _ (by omega) hs0 (hf0.mono (by omega)) (by unfold xV; rw [if_pos (.inr h2)]; exact Own.nil)⟩
 rw [decide_eq_false h2]
 obtain ⟨k0,rfl⟩:∃ k0:Nat,n=(k0:Int):=⟨n.toNat,by omega⟩
 (repeat(first|refine aB (by simp (disch:=first|omega|exact nnN _|assumption) only [BB,B2,↓reduceIte,Nat.reduceLeDiff,Nat.reduceAdd,aT,aU,aY,aX,aW,aV,g0,hg]<;>rfl) ?_|refine aD ?_|refine aE ?_|with_reducible first|refine aG ?_|refine aF ?_|refine aK ?_|refine aH ?_|refine aJ ?_|refine aI ?_|refine aL ?_|refine aC ?_))
 refine bC (fun j e h' nx'=>∃ (i:Nat) (lv:Value),i+j=k0∧nx+1≤nx'∧e 1=ptr nx∧e 3=lv∧e 4=.int .i64 (i:Int)∧Sub h h'∧Fr h' nx' ∧
  h'.get nx=some (.cells (eU c k0).toArray dC)∧Own h' lv 1 cJ (cA ((List.range i).map fun k=>lb c k 0)) (nx+1) nx') ?_ (n:=k0) ⟨0,_,by omega,by omega,rfl,rfl,rfl,hs0,hf0.mono (by omega),g0,Own.nil⟩
 rintro j e h' nx' ⟨i,lv,hij,hnx,e1,e3,e4,hs,hf',g0,ho⟩ Q' hq hx
 unfold yD
 rw [e1,e3,e4]
 (repeat(first|refine aB (by simp (disch:=first|omega|exact nnN _|assumption) only [BB,B2,↓reduceIte,Nat.reduceLeDiff,Nat.reduceAdd,aT,aU,aY,aX,aW,aV,g0,hg]<;>rfl) ?_|refine aD ?_|refine aE ?_|with_reducible first|refine aG ?_|refine aF ?_|refine aK ?_|refine aH ?_|refine aJ ?_|refine aI ?_|refine aL ?_|refine aC ?_))
 by_cases hi:i < k0
 ·refine hY (by simp; omega) ?_
  refine aB (c8 g0 (dZ hc)) ?_
  refine aI8 (n:=(k0:Int)) hc hcl (hf'.mono (by omega)) fun n1 hn1=>?_
  refine aGx (hf'.mono (by omega)) fun r h2 n2 hn2 hs2 hf2 hr=>?_
  rw [aLH] at hr
  have hlen:=(hr.sl (ro:=ro)).len
  rw [d9] at hlen
  refine aB hlen ?_
  (repeat(first|refine aB (by simp (disch:=first|omega|exact nnN _|assumption) only [BB,B2,↓reduceIte,Nat.reduceLeDiff,Nat.reduceAdd,aT,aU,aY,aX,aW,aV]<;>rfl) ?_|refine aD ?_|refine aE ?_|with_reducible first|refine aG ?_|refine aF ?_|refine aK ?_|refine aH ?_|refine aJ ?_|refine aI ?_|refine aL ?_|refine aC ?_))
  have hrange:(List.range (i+1)).map (fun k=>lb c k 0)=(List.range i).map (fun k=>lb c k 0)++[lb c i 0]:=by rw [List.range_succ,List.map_append]; rfl
  have hol:((List.range i).map fun k=>lb c k 0).length≤1000000:=by rw [List.length_map,List.length_range]; omega
  have ho2:Own h2 lv 1 cJ (cA ((List.range i).map fun k=>lb c k 0)) (nx+1) nx':=ho.keep (Nat.le_refl _) fun id _ _ o hg=>hs2 _ _ hg
  have hj2:∀ (e:Env) (h3:T Obj) (n3:Nat) (lv:Value),nx'≤n3→e 1=ptr nx→e 3=lv→e 4=.int .i64 (i:Int)→Sub h h3→Fr h3 n3→h3.get nx=some (.cells (eU c k0).toArray dC) →
    Own h3 lv 1 cJ (cA ((List.range (i+1)).map fun k=>lb c k 0)) (nx+1) n3→nX ro Q' e h3 n3:=by
   intro e h3 n3 lv hn3 e1 e3 e4 hs3 hf3 g0 ho3
   unfold nX
   rw [e4]
   (repeat(first|refine aB (by simp (disch:=first|omega|exact nnN _|assumption) only [BB,B2,↓reduceIte,Nat.reduceLeDiff,Nat.reduceAdd,aT,aU,aY,aX,aW,aV]<;>rfl) ?_|refine aD ?_|refine aE ?_|with_reducible first|refine aG ?_|refine aF ?_|refine aK ?_|refine aH ?_|refine aJ ?_|refine aI ?_|refine aL ?_|refine aC ?_))
   exact hq (j - 1) _ _ _ _ (by omega) ⟨i+1,lv,by omega,by omega,e1,e3,rfl,hs3,hf3.mono (by omega),g0,ho3.keep (by omega) fun _ _ _ _ hg=>hg⟩ (Sub.refl _)
  have hhd:=aMg (c:=c) (k:=i)
  by_cases hm:(mem c (i:Int) 256)=[]
  ·refine hY (by rw [hm]; rfl) ?_
   have hl0:lb c i 0=0:=by rw [← hhd,hm]; rfl
   refine s4 (b:=0) (h0:=h) (nx0:=nx) (nx:=n2) (lo:=nx+1) (hi:=nx') ho2 hol hf2 (hs.trans hs2) hf (by omega) (by omega) (by omega) (by omega) (by omega) (by omega) fun h3 r3 q1 q2 q3 q4=>?_
   dsimp only
   refine hj2 _ _ _ r3 (by omega) e1 rfl e4 q2 (q3.mono (by omega)) ?_ ?_
   ·rw [q4 _ (.inl (by omega)) (by omega) (by omega)]; exact hs2 _ _ g0
   ·rw [hrange,hl0]; exact q1.keep (by omega) fun _ _ _ _ hg=>hg
  ·have hpos:0 < (mem c (i:Int) 256).length:=List.length_pos_iff.2 hm
   refine hU (by simp; exact hm) ?_
   have hix:=(hr.sl (ro:=ro)).ix .i64 (i:=0) (by rw [d9]; exact hpos)
   refine aB hix ?_
   refine aB ((hr.sl (ro:=ro)).load1 (rR hpos)) ?_
   have hl0:(mem c (i:Int) 256)[0]=lb c i 0:=by rw [← hhd,List.head?_eq_getElem?,List.getElem?_eq_getElem hpos]; rfl
   rw [hl0]
   refine s4 (h0:=h) (nx0:=nx) (nx:=n2) (lo:=nx+1) (hi:=nx') ho2 hol hf2 (hs.trans hs2) hf (by omega) (by omega) (by omega) (by omega) (by omega) (by omega) fun h3 r3 q1 q2 q3 q4=>?_
   dsimp only
   refine hj2 _ _ _ r3 (by omega) e1 rfl e4 q2 (q3.mono (by omega)) ?_ ?_
   ·rw [q4 _ (.inl (by omega)) (by omega) (by omega)]; exact hs2 _ _ g0
   ·rw [hrange]; exact q1.keep (by omega) fun _ _ _ _ hg=>hg
 ·refine hU (by simp; omega) ?_
  refine hx _ _ _ _ (fun e=>by cases e) (eB (dA ?_))
  have hi2:i=k0:=by omega
  subst hi2
  unfold sO
  have f3:∀ a b c d,Env.put (Env.put (Env.put (Env.put e 14 a) 15 b) 16 c) 17 d 3=lv:=fun a b c d=>e3
  simp only [puts,f3]
  have hfz:xV c (i:Int)=(List.range i).map fun k=>lb c k 0:=by unfold xV; rw [if_neg (by omega)]; simp
  refine ⟨h',Sub.refl _,hK _ _ _ (by omega) hs (hf'.mono (by omega)) ?_⟩
  rw [hfz]
  rcases ho with ho | ⟨id,q1,q2,q3⟩
  ·exact .inl ho
  ·exact .inr ⟨id,by omega,by omega,q3⟩
end V
end Go.Proofs.YtcaccnneblghgaaGreat
namespace Go.Proofs.YtcaccnneblghgaaGreat
namespace V
attribute [local irreducible] aA ifP aS cM eQ exP cO
theorem okZ:fY Tryz.prog=true:=by kernel_rfl
theorem okN:lN Tryz.prog=true:=by kernel_rfl
theorem okM:Tryz.prog.follows .mixedOrders=true:=by kernel_rfl
def aKv:Nat→List Value→Option (List Nat × Int)
 | 0,[.int .i64 n]=>some ([],n)
 | k+1,.int .u8 x::r=>match decide (0≤x),decide (x < 256) with
  | true,true=>(aKv k r).bind fun p=>some (x.toNat::p.1,p.2)
  | _,_=>none
 | _,_=>none
theorem aKw (k:Nat) (x:Int) (r:List Value):aKv (k+1) (.int .u8 x::r)=match decide (0≤x),decide (x < 256) with
  | true,true=>(aKv k r).bind fun p=>some (x.toNat::p.1,p.2)
  | _,_=>none:=rfl
theorem aNh:∀ {k:Nat} {l:List Value} {c:List Nat} {n:Int},aKv k l=some (c,n)→l=eU c n∧c.length=k∧∀ x∈c,x < 256:=by
 intro k
 induction k with
 | zero =>
  intro l c n h
  unfold aKv at h
  split at h<;>first
   | (cases h; exact ⟨rfl,rfl,by simp⟩)
   | (cases h; done)
   | contradiction
 | succ k ih =>
  intro l c n h
  cases l with
  | nil=>cases h
  | cons v r =>
   have hv:∃ x,v=.int .u8 x:=by
    cases v with
    | int kd x =>
     cases kd with
     | u8=>exact ⟨x,rfl⟩
     | _=>cases (show (none:Option (List Nat × Int))=some (c,n) from h)
    | _=>cases (show (none:Option (List Nat × Int))=some (c,n) from h)
   obtain ⟨x,rfl⟩:=hv
   rw [aKw] at h
   split at h
   ·rename_i h1 h2
    obtain ⟨p,h3,h4⟩:=aM h
    obtain ⟨p1,p2⟩:=p
    simp only [Option.some.injEq,Prod.mk.injEq] at h4
    obtain ⟨rfl,rfl⟩:=h4
    obtain ⟨h5,h6,h7⟩:=ih h3
    simp only [decide_eq_true_eq] at h1 h2
    refine ⟨?_,by simp [h6],fun y hy=>?_⟩
    ·rw [h5]
     simp only [eU,u8s,List.map_cons,List.cons_append]
     rw [Int.toNat_of_nonneg h1]
    ·rcases List.mem_cons.1 hy with rfl | hy
     ·omega
     ·exact h7 y hy
   ·cases h
def aQP:aKf:=fun f args=>match Nat.beq f o8,args with
 | true,[.agg cs]=>match aKv 256 cs.toList with
  | some (c,n)=>match xV c n with
   | []=>none
   | x::r=>some (1,(x::r).length,(x::r).length,cJ,(x::r).map fun b:Nat=>Value.int .u8 (b:Int))
  | none=>none
 | _,_=>none
theorem aAM:∀ l:List Nat,(cA l).flatten=l.map fun b:Nat=>Value.int .u8 (b:Int)
 | []=>rfl
 | x::r=>by
  have:=aAM r
  simp only [cA,List.map_cons,List.flatten_cons] at this ⊢
  rw [this]; rfl
theorem jY:∀ f args z l c e cs,aQP f args=some (z,l,c,e,cs)→aHQ Tryz.prog f args z l c cs:=by
 intro f args z l c e cs h
 unfold aQP at h
 split at h
 ·rename_i cells hf
  split at h
  ·rename_i c' n hd
   obtain ⟨h1,h2,h3⟩:=aNh hd
   split at h
   ·cases h
   ·rename_i x r hx
    have hne:xV c' n≠[]:=by rw [hx]; simp
    rw [← hx] at h
    simp only [Option.some.injEq,Prod.mk.injEq] at h
    obtain ⟨rfl,rfl,rfl,rfl,rfl⟩:=h
    have hfe:f=o8:=Nat.eq_of_beq_eq_true hf
    subst hfe
    have hc:(Value.agg cells)=mB c' n:=by
     unfold mB
     rw [← h1]
    rw [hc]
    have hlen:0 < (xV c' n).length:=List.length_pos_iff.2 hne
    refine aOK okZ okN okM ?_ ?_ (by kernel_rfl) (Nat.le_refl _) (by simp) hlen fun ro=>?_
    ·simp [rigid,mB,eU,u8s,V.flat]
    ·simp [V.flat]
    ·refine aFQ h2 h3 Fr.e fun r h' nx' hn hs hf' ho=>?_
     rcases ho with ⟨_,he⟩ | ⟨id,_,_,rfl,_,hg⟩
     ·exact absurd (List.map_eq_nil_iff.1 he) hne
     ·refine ⟨id,cJ,?_,?_⟩
      ·rw [d9]; rfl
      ·rw [hg,aAM]
  ·cases h
 ·cases h
end V
end Go.Proofs.YtcaccnneblghgaaGreat
set_option maxRecDepth 8000
namespace Go.Proofs.YtcaccnneblghgaaGreat
namespace V
open Go.ChangeShapes Go.WideShapes Go.ChangeAt Go.RowKit
set_option maxRecDepth 8000
theorem aQM:ownKnob Tryz.prog.godebug=none:=by kernel_rfl
theorem aP4:laidOutB Tryz.prog=true:=by kernel_rfl
section
variable {H:Type} {enc:TypeId × Value→H} {W:World}
theorem aQT {n:Int} (h:(Lit.int .u8 n).wf=true):0≤n∧n≤255:=by
 simp only [Lit.wf,Bool.and_eq_true,decide_eq_true_eq] at h
 have h1:IntKind.u8.min=0:=rfl
 have h2:IntKind.u8.max=255:=rfl
 rw [h1,h2] at h; exact h
end
end V
end Go.Proofs.YtcaccnneblghgaaGreat
namespace Go.Proofs.YtcaccnneblghgaaGreat
namespace V
attribute [local irreducible] aA ifP aS cM eQ exP cO
theorem aGk (a b:Value):nth 0 (.tuple #[a,b])=some a:=rfl
theorem aGl (a b:Value):nth 1 (.tuple #[a,b])=some b:=rfl
theorem zL {t:TypeId} {s b:Nat} (h:(tin Tryz.prog t).map (fun i=>(i.size,i.bytes))=some (s,b)):∃ i,tin Tryz.prog t=some i∧i.size=s∧i.bytes=b:=by
 cases hi:tin Tryz.prog t with
 | none=>rw [hi] at h; cases h
 | some i=>rw [hi] at h; simp at h; exact ⟨i,rfl,h.1,h.2⟩
theorem aRD:zer Tryz.prog dW=some (.int .i64 0):=by kernel_rfl
section
variable {av bv nv fv:Value} {c:List Nat} {n:Int} {cv sv kv ev yv:Value}
theorem aLo (hc:c.length=256) (v:Value):(dQ c n cv sv).set 258 v=dQ c n cv v:=by
 unfold dQ
 rw [List.set_append_right _ _ (by rw [dZ hc]; omega),dZ hc]; rfl
theorem aHU (hc:c.length=256) (v:Value):(dQ c n cv sv).set 257 v=dQ c n v sv:=by
 unfold dQ
 rw [List.set_append_right _ _ (by rw [dZ hc]; omega),dZ hc]; rfl
end
def dU (ids:List Nat) (h h':T Obj):Prop:=∀ k o,h.get k=some o→k ∉ ids→h'.get k=some o
theorem Sub.keepL {ids:List Nat} {h h':T Obj} (hs:Sub h h'):dU ids h h':=fun k o hk _=>hs k o hk
theorem dU.trans {ids:List Nat} {a b c:T Obj} (h1:dU ids a b) (h2:dU ids b c):dU ids a c:=fun k o hk hi=>h2 k o (h1 k o hk hi) hi
theorem dU.mono {ids ids':List Nat} {a b:T Obj} (h1:dU ids a b) (h2:∀ k,k∈ids→k∈ids'):dU ids' a b:=fun k o hk hi=>h1 k o hk fun h=>hi (h2 k h)
theorem dU.upd {ids:List Nat} {a b:T Obj} {i:Nat} {o:Option Obj} (h1:dU ids a b) (hi:i∈ids):dU ids a (b.upd i o):=fun k x hk hn=>by
 rw [T.get_upd_ne _ _ (fun e=>hn (by rw [e]; exact hi))]; exact h1 k x hk hn
def del (h:T Obj):List Nat→T Obj
 | []=>h
 | i::l=>(del h l).upd i none
theorem jE {h:T Obj}:∀ {l:List Nat} {k:Nat},(del h l).get k=if k∈l then none else h.get k
 | [],k=>by simp [del]
 | i::l,k=>by
  show ((del h l).upd i none).get k=_
  by_cases hk:k=i
  ·subst hk; rw [T.get_upd_same]; simp
  ·rw [T.get_upd_ne _ _ hk,jE]; simp [hk]
theorem gW (h:T Obj) (l:List Nat):Sub (del h l) h:=fun k o hk=>by
 rw [jE] at hk
 split at hk
 ·cases hk
 ·exact hk
theorem kA {h:T Obj} {l:List Nat} {k:Nat} {o:Obj} (hk:h.get k=some o) (hn:k ∉ l):(del h l).get k=some o:=by rw [jE,if_neg hn]; exact hk
theorem dU.del {ids l l':List Nat} {h h':T Obj} (hk:dU ids h h') (h1:∀ k,k∈ids→k∈l) (h2:∀ k,k∈l'→k∈l∨h.get k=none):Sub (del h l) (del h' l'):=fun k o hg=>by
 rw [jE] at hg
 split at hg
 ·cases hg
 ·rename_i hn
  refine kA (hk k o hg fun h=>hn (h1 k h)) fun hm=>?_
  rcases h2 k hm with h3 | h3
  ·exact hn h3
  ·rw [h3] at hg; cases hg
theorem dV.keepK {ids:List Nat} {h h':T Obj} {v:Value} {z:Nat} {e:TypeId} {l:List (List Value)} {lo:Nat} (ho:dV h v z e l lo) (hk:dU ids h h') (hne:∀ id,iN v=some id→id ∉ ids):dV h' v z e l lo:=by
 rcases ho with ho | ⟨id,h1,rfl,h4,h5⟩
 ·exact .inl ho
 ·exact .inr ⟨id,h1,rfl,h4,hk id _ h5 (hne id rfl)⟩
theorem dV.del {h:T Obj} {v:Value} {z:Nat} {e:TypeId} {l:List (List Value)} {lo:Nat} {ids:List Nat} (ho:dV h v z e l lo) (hne:∀ id,iN v=some id→id ∉ ids):dV (del h ids) v z e l lo:=by
 rcases ho with ho | ⟨id,h1,rfl,h4,h5⟩
 ·exact .inl ho
 ·exact .inr ⟨id,h1,rfl,h4,kA h5 (hne id rfl)⟩
theorem Kp.keepL {v:Value} {h h':T Obj} {ids:List Nat} (hk:Kp v h h') (hv:∀ id,iN v=some id→id∈ids):dU ids h h':=fun k o h1 h2=>hk k o h1 fun e=>h2 (hv k e)
theorem dV.blk {h:T Obj} {v:Value} {z:Nat} {e:TypeId} {l:List (List Value)} {lo id:Nat} (ho:dV h v z e l lo) (hb:iN v=some id):lo≤id∧h.get id=some (.cells l.flatten.toArray e):=by
 rcases ho with ⟨rfl,_⟩ | ⟨i,h1,rfl,h4,h5⟩
 ·cases hb
 ·have:i=id:=Option.some.inj hb
  subst this; exact ⟨h1,h5⟩
theorem dV.ok {h:T Obj} {v:Value} {z:Nat} {e:TypeId} {l:List (List Value)} {lo:Nat} (ho:dV h v z e l lo):cP v=true:=(ho.sl (ro:=fun _=>none)).ok
abbrev cN:Value:=.slice none 0 0
theorem aNZ:und Tryz.prog iL=some (.slice dW):=by kernel_rfl
theorem aNS:∃ i,tin Tryz.prog dW=some i∧i.size=1∧i.bytes=8:=zL (by kernel_rfl)
theorem rK:zer Tryz.prog a8=some (.agg #[cN,cN,cN,cN]):=by kernel_rfl
theorem aLJ (aid:Nat) (a b c d:Value):bU Tryz.prog hE aid 1 [(0,.agg #[a,b,c,d])]=some (.slice (some (own aid 4)) 1 1,some (.cells [a,b,c,d].toArray a8)):=by kernel_rfl
theorem aKA:und Tryz.prog hE=some (.slice a8):=by kernel_rfl
theorem aLb:∃ i,tin Tryz.prog a8=some i∧i.size=4∧i.bytes=96:=zL (by kernel_rfl)
def aGp (l:List Nat):List (List Value):=l.map fun b:Nat=>[Value.int .u8 (b:Int)]
theorem aB5 (l:List Nat):(aGp l).length=l.length:=by simp [aGp]
theorem aEr:zer Tryz.prog b7=some (.agg #[.int .i64 0,cN]):=by kernel_rfl
def qB (e:TypeId) (h h':T Obj):Prop:=∀ (k:Nat) c f,h.get k=some (.cells c e f)→h'.get k=some (.cells c e f)
theorem qB.refl {e:TypeId} {h:T Obj}:qB e h h:=fun _ _ _ hg=>hg
theorem qB.trans {e:TypeId} {a b c:T Obj} (h1:qB e a b) (h2:qB e b c):qB e a c:=fun k x f hg=>h2 k x f (h1 k x f hg)
theorem Sub.ty {e:TypeId} {h h':T Obj} (hs:Sub h h'):qB e h h':=fun k c f hg=>hs _ _ hg
theorem qB.upd {e e':TypeId} {a h:T Obj} {i:Nat} {o:Option Obj} {c:Array Value} {f:Nat × Nat} (h1:qB e a h) (hg:h.get i=some (.cells c e' f)) (he:e'≠e):qB e a (h.upd i o):=fun k x q hk=>by
 have:=h1 k x q hk
 rw [T.get_upd_ne _ _ (by
  rintro rfl
  rw [hg] at this
  simp only [Option.some.injEq,Obj.cells.injEq] at this
  exact he this.2.1)]
 exact this
theorem dV.ty {h h':T Obj} {v:Value} {z:Nat} {e:TypeId} {l:List (List Value)} {lo:Nat} (ho:dV h v z e l lo) (hk:qB e h h'):dV h' v z e l lo:=by
 rcases ho with ho | ⟨id,h1,rfl,h4,h5⟩
 ·exact .inl ho
 ·exact .inr ⟨id,h1,rfl,h4,hk _ _ _ h5⟩
theorem dV.neB {h:T Obj} {v:Value} {z:Nat} {e:TypeId} {l:List (List Value)} {lo k:Nat} {o:Obj} (ho:dV h v z e l lo) (hk:h.get k=some o) (he:∀ c f,o≠.cells c e f):iN v≠some k:=fun hb=>by
 obtain ⟨_,h5⟩:=ho.blk hb
 rw [hk] at h5
 exact he _ _ (Option.some.inj h5)
theorem Kp.ty {h h':T Obj} {v:Value} {z:Nat} {e e':TypeId} {l:List (List Value)} {lo:Nat} (hk:Kp v h h') (ho:dV h v z e' l lo) (he:e'≠e):qB e h h':=fun k c f hg=>hk k _ hg (ho.neB hg (by
 intro c f h
 simp only [Obj.cells.injEq] at h
 exact he h.2.1.symm))
theorem aLg:und Tryz.prog d4=some (.slice b7):=by kernel_rfl
theorem aNR:∃ i,tin Tryz.prog b7=some i∧i.size=2∧i.bytes=32:=zL (by kernel_rfl)
theorem rU {h:T Obj} {l l':List Nat} (hl:∀ k,k∈l→k∈l'):Sub (del h l') (del h l):=fun k o hk=>by
 rw [jE] at hk
 split at hk
 ·cases hk
 ·rename_i hn
  exact kA hk fun h=>hn (hl k h)
theorem dU.delS {ids l:List Nat} {h h':T Obj} (hk:dU ids h h') (hl:∀ k,k∈ids→k∈l):Sub (V.del h l) h':=fun k o hg=>by
 rw [jE] at hg
 split at hg
 ·cases hg
 ·rename_i hn; exact hk k o hg fun h=>hn (hl k h)
def vD:List Value:=dQ (List.replicate 256 0) 0 cN cN
theorem aEq:zer Tryz.prog bG=some (.agg vD.toArray):=by kernel_rfl
theorem rQ:vD.length=259:=cK List.length_replicate
theorem Sub.delN {h h':T Obj} {ids:List Nat} {n:Nat} (hs:Sub h h') (hf:Fr h n) (hi:∀ i∈ids,n≤i):Sub h (V.del h' ids):=fun k o hk=>kA (hs k o hk) fun hm=>by
 have:=hf.lt' hk
 have:=hi k hm
 omega
def aFC (l:List (Int × Int)):List (List Value):=l.map fun p=>[.int .i64 p.1,.int .i64 p.2]
theorem aBH (l:List (Int × Int)):(aFC l).length=l.length:=by simp [aFC]
theorem aPs {ro:Ro} {h:T Obj} {v:Value} {l:List (Int × Int)} {lo:Nat} (ho:dV h v 2 gD (aFC l) lo):SlR ro h v 2 vB l:=⟨aFC l,ho.sl,aBH l,fun i x d hx hd=>by
 unfold aFC at hx
 rw [List.getElem?_map,hd] at hx
 exact (Option.some.inj hx).symm⟩
end V
end Go.Proofs.YtcaccnneblghgaaGreat
namespace Go.Proofs.YtcaccnneblghgaaGreat
namespace V
attribute [local irreducible] a9 aN aA
abbrev gU:FuncId:=18
abbrev eM:FuncId:=19
abbrev z8:FuncId:=46
abbrev k9:FuncId:=123
abbrev lX:FuncId:=124
abbrev lW:FuncId:=125
abbrev kB:FuncId:=160
abbrev iX:FuncId:=161
abbrev iW:FuncId:=162
abbrev jF:FuncId:=163
abbrev lA:FuncId:=186
abbrev mL:FuncId:=188
abbrev mK:FuncId:=189
abbrev qD:FuncId:=194
abbrev qC:FuncId:=195
abbrev fQ:FuncId:=196
@[irreducible] def s8 (ro:Ro) (K:KV):Env→T Obj→Nat→Prop:=fun e h nx=>∃ h14,Sub h14 h∧K (.tuple #[(e 4),(Value.int IntKind.i64 0)]) h14 (nx+3)
@[irreducible] def aC5 (ro:Ro):PT:=fun e h nx Q=>aA (aO .lss (e 19) (e 18)) fun t20_18=>aS t20_18 (aA (cL 2 (e 17) (e 19)) fun t21_19=>aA (loadA ro h 2 t21_19) fun t22_20=>aA (zer Tryz.prog gD) fun z21=>cM h (nx+3) (.cells z21.cells gD) fun h22=>aA (bV 2 h22 (ptr (nx+3)) t22_20) fun h23=>aA (ixArr 2 1 (ptr (nx+3)) (Value.int IntKind.i64 1)) fun t24_24=>aA (load1 ro h23 t24_24) fun t25_25=>aN Tryz.prog ro aAj [t25_25] h23 (nx+8) fun t26_26 h27 n28=>aA (nth 0 t26_26) fun t27_29=>aA (nth 1 t26_26) fun t28_30=>aA (aO .neq t28_30 (Value.int IntKind.i64 0)) fun t30_31=>aS t30_31 (Q .ret (puts e [(20,t20_18),(21,t21_19),(22,t22_20),(6,(ptr (nx+3))),(24,t24_24),(25,t25_25),(26,t26_26),(23,t26_26),(27,t27_29),(28,t28_30),(7,t27_29),(8,t28_30),(29,t28_30),(30,t30_31),(31,t28_30),(2,(Value.pointer none)),(3,t28_30)]) h27 (n28+10)) (aA (bK (e 4)) fun t34_32=>aA (aQ 260 t34_32) fun t35_33=>aA (load1 ro h27 t35_33) fun t36_34=>aA (bU Tryz.prog kC (n28+13) 1 [(0,t27_29)]) fun r35=>eQ h27 (n28+13) r35.2 fun h36=>aA (cR Tryz.prog ro h36 (n28+15) #[kC,kC] [t36_34,r35.1]) fun r37=>aA (bK (e 4)) fun t40_38=>aA (aQ 260 t40_38) fun t41_39=>aA (bV 1 r37.2.1 t41_39 r37.1) fun h40=>aA (aO .add (e 19) (Value.int IntKind.i64 1)) fun t42_41=>Q .normal (puts e [(20,t20_18),(21,t21_19),(22,t22_20),(6,(ptr (nx+3))),(24,t24_24),(25,t25_25),(26,t26_26),(23,t26_26),(27,t27_29),(28,t28_30),(7,t27_29),(8,t28_30),(29,t28_30),(30,t30_31),(32,(e 4)),(33,(e 4)),(34,t34_32),(35,t35_33),(36,t36_34),(37,t27_29),(38,r35.1),(39,r37.1),(40,t40_38),(41,t41_39),(42,t42_41),(19,t42_41)]) h40 (r37.2.2+5))) (Q (.exit 0) (puts e [(20,t20_18)]) h (nx+1))
@[irreducible] def aD9 (ro:Ro) (v0:Value) (h:T Obj) (nx:Nat) (K:KV):Prop:=cM h nx (.cells (Value.cells v0) bG) fun h1=>aA (loadA ro h1 259 (ptr nx)) fun t9_2=>aN Tryz.prog ro qS [t9_2] h1 (nx+5) fun t10_3 h4 n5=>aA (unV .not t10_3) fun t11_6=>aS t11_6 (∃ h7,Sub h7 h4∧K (.tuple #[(Value.pointer none),(Value.int IntKind.i64 1)]) h7 (n5+3)) (aA (loadA ro h4 259 (ptr nx)) fun t12_8=>aN Tryz.prog ro tL [t12_8] h4 (n5+3) fun t13_9 h10 n11=>aA (eX Tryz.prog bF [(0,t13_9)]) fun t14_12=>cM h10 (n11+1) (.cells (Value.cells t14_12) bF) fun h13=>aA (aQ 257 (ptr nx)) fun t16_15=>aA (load1 ro h13 t16_15) fun t17_16=>aA (bI t17_16) fun t18_17=>dS (aC5 ro) (puts (gQ [v0]) [(1,(ptr nx)),(2,(Value.pointer none)),(3,(Value.int IntKind.i64 0)),(9,t9_2),(10,t10_3),(11,t11_6),(12,t12_8),(13,t13_9),(14,t14_12),(15,(ptr (n11+1))),(4,(ptr (n11+1))),(16,t16_15),(17,t17_16),(18,t18_17),(19,(Value.int IntKind.i64 0))]) h13 (n11+7) fun x45 e42 h43 n44=>exP x45 (s8 ro K e42 h43 n44) (fun i46=>cO (Nat.beq i46 0) (s8 ro K e42 h43 n44) (False)) (∃ h47,Sub h47 h43∧K (.tuple #[(e42 2),(e42 3)]) h47 n44))
theorem aHj (ro:Ro) (v0:Value) (h:T Obj) (nx:Nat) (K:KV):a9 Tryz.prog ro (aN Tryz.prog ro) Tryz.f39 [v0] h nx K=aD9 ro v0 h nx K:=by kernel_rfl
theorem aHk {ro:Ro} {v0:Value} {h:T Obj} {nx:Nat} {K:KV} (hw:aD9 ro v0 h nx K):aN Tryz.prog ro aAf [v0] h nx K:=a7 (P:=Tryz.prog) (fn:=Tryz.f39) (by kernel_rfl) (by kernel_rfl) (by kernel_rfl) (Eq.mpr (aHj ro v0 h nx K) hw)
@[irreducible] def nQ (ro:Ro) (K:KV):Env→T Obj→Nat→Prop:=fun e h nx=>aA (loadA ro h 259 (e 3)) fun t70_15=>aA (bV 259 h (e 2) t70_15) fun h16=>aA (loadA ro h16 259 (e 2)) fun r17=>∃ h18,Sub h18 h16∧K r17 h18 (nx+2)
@[irreducible] def nR (ro:Ro) (Q:KE):Env→T Obj→Nat→Prop:=fun e h nx=>aA (aO .add (e 21) (Value.int IntKind.i64 1)) fun t69_23=>Q .normal (puts e [(69,t69_23),(21,t69_23)]) h (nx+2)
@[irreducible] def nS (ro:Ro) (Q:KE):Env→T Obj→Nat→Prop:=fun e h nx=>aA (aQ 258 (e 3)) fun t63_43=>aA (load1 ro h t63_43) fun t64_44=>aA (loadA ro h 4 (e 6)) fun t65_45=>aA (bU Tryz.prog hE (nx+3) 1 [(0,t65_45)]) fun r46=>eQ h (nx+3) r46.2 fun h47=>aA (cR Tryz.prog ro h47 (nx+5) #[hE,hE] [t64_44,r46.1]) fun r48=>aA (aQ 258 (e 3)) fun t68_49=>aA (bV 1 r48.2.1 t68_49 r48.1) fun h50=>nR ro Q (puts e [(63,t63_43),(64,t64_44),(65,t65_45),(66,r46.1),(67,r48.1),(68,t68_49)]) h50 (r48.2.2+2)
@[irreducible] def nT (ro:Ro) (Q:KE):Env→T Obj→Nat→Prop:=fun e h nx=>aA (aO .add (e 35) (Value.int IntKind.i64 1)) fun t62_55=>Q .normal (puts e [(62,t62_55),(35,t62_55)]) h (nx+2)
@[irreducible] def nU (ro:Ro) (Q:KE):Env→T Obj→Nat→Prop:=fun e h nx=>aA (aQ 3 (e 6)) fun t56_61=>aA (load1 ro h t56_61) fun t57_62=>aA (bU Tryz.prog fX (nx+3) 1 [(0,(e 9))]) fun r63=>eQ h (nx+3) r63.2 fun h64=>aA (cR Tryz.prog ro h64 (nx+5) #[fX,fX] [t57_62,r63.1]) fun r65=>aA (aQ 3 (e 6)) fun t61_66=>aA (bV 1 r65.2.1 t61_66 r65.1) fun h67=>nT ro Q (puts e [(56,t56_61),(57,t57_62),(58,(e 9)),(59,r63.1),(60,r65.1),(61,t61_66)]) h67 (r65.2.2+2)
@[irreducible] def sA (ro:Ro):PT:=fun e h nx Q=>aA (aO .lss (e 43) (e 42)) fun t44_69=>aS t44_69 (aA (cL 2 (e 41) (e 43)) fun t46_70=>aA (loadA ro h 2 t46_70) fun t47_71=>aA (zer Tryz.prog b7) fun z72=>cM h (nx+4) (.cells z72.cells b7) fun h73=>aA (bV 2 h73 (ptr (nx+4)) t47_71) fun h74=>aA (aQ 1 (ptr (nx+4))) fun t50_75=>aA (load1 ro h74 t50_75) fun t51_76=>aN Tryz.prog ro iA [t51_76] h74 (nx+12) fun t52_77 h78 n79=>aA (cL 2 (e 9) (e 43)) fun t53_80=>aA (aQ 1 t53_80) fun t54_81=>aA (bV 1 h78 t54_81 t52_77) fun h82=>aA (aO .add (e 43) (Value.int IntKind.i64 1)) fun t55_83=>Q .normal (puts e [(44,t44_69),(45,(e 43)),(46,t46_70),(47,t47_71),(11,(ptr (nx+4))),(10,(e 43)),(48,(e 9)),(49,(e 43)),(50,t50_75),(51,t51_76),(52,t52_77),(53,t53_80),(54,t54_81),(55,t55_83),(43,t55_83)]) h82 (n79+5)) (Q (.exit 4) (puts e [(44,t44_69)]) h (nx+1))
@[irreducible] def rZ (ro:Ro):PT:=fun e h nx Q=>aA (aO .lss (e 35) (e 34)) fun t36_54=>aS t36_54 (aA (cL 1 (e 33) (e 35)) fun t37_56=>aA (load1 ro h t37_56) fun t38_57=>aN Tryz.prog ro fS [t38_57] h (nx+6) fun t40_58 h59 n60=>aA (bI t40_58) fun t42_68=>dS (sA ro) (puts e [(36,t36_54),(37,t37_56),(38,t38_57),(8,t38_57),(39,t38_57),(40,t40_58),(9,t40_58),(41,t40_58),(42,t42_68),(43,(Value.int IntKind.i64 0))]) h59 (n60+4) fun x87 e84 h85 n86=>exP x87 (nU ro Q e84 h85 n86) (fun i88=>cO (Nat.beq i88 4) (nU ro Q e84 h85 n86) (cO (Nat.beq i88 3) (nT ro Q e84 h85 n86) (Q (.exit i88) e84 h85 n86))) (Q .ret e84 h85 n86)) (Q (.exit 2) (puts e [(36,t36_54)]) h (nx+1))
@[irreducible] def rY (ro:Ro):PT:=fun e h nx Q=>aA (aO .lss (e 21) (e 20)) fun t22_22=>aS t22_22 (aA (cL 4 (e 19) (e 21)) fun t23_24=>aA (loadA ro h 4 t23_24) fun t24_25=>aA (zer Tryz.prog a8) fun z26=>cM h (nx+3) (.cells z26.cells a8) fun h27=>aA (bV 4 h27 (ptr (nx+3)) t24_25) fun h28=>aA (aQ 1 (ptr (nx+3))) fun t25_29=>aA (load1 ro h28 t25_29) fun t26_30=>aN Tryz.prog ro eR [t26_30] h28 (nx+14) fun t27_31 h32 n33=>aA (aQ 2 (ptr (nx+3))) fun t28_34=>aA (load1 ro h32 t28_34) fun t29_35=>(jD t28_34 h28 h32)∧(aN Tryz.prog ro eR [t29_35] h32 n33 fun t30_36 h37 n38=>aA (eX Tryz.prog a8 [(1,t27_31),(2,t30_36)]) fun t31_39=>aA (zer Tryz.prog a8) fun z40=>cM h37 (nx+12) (.cells z40.cells a8) fun h41=>aA (bV 4 h41 (ptr (nx+12)) t31_39) fun h42=>aA (aQ 3 (ptr (nx+3))) fun t32_51=>aA (load1 ro h42 t32_51) fun t33_52=>aA (bI t33_52) fun t34_53=>dS (rZ ro) (puts e [(22,t22_22),(23,t23_24),(24,t24_25),(5,(ptr (nx+3))),(25,t25_29),(26,t26_30),(27,t27_31),(28,t28_34),(29,t29_35),(30,t30_36),(31,t31_39),(6,(ptr (nx+12))),(32,t32_51),(33,t33_52),(34,t34_53),(35,(Value.int IntKind.i64 0))]) h42 (n38+4) fun x92 e89 h90 n91=>exP x92 (nS ro Q e89 h90 n91) (fun i93=>cO (Nat.beq i93 2) (nS ro Q e89 h90 n91) (cO (Nat.beq i93 1) (nR ro Q e89 h90 n91) (Q (.exit i93) e89 h90 n91))) (Q .ret e89 h90 n91))) (Q (.exit 0) (puts e [(22,t22_22)]) h (nx+1))
@[irreducible] def xU (ro:Ro) (v0:Value) (h:T Obj) (nx:Nat) (K:KV):Prop:=cM h nx (.cells (Value.cells v0) bG) fun h1=>aA (zer Tryz.prog bG) fun z2=>cM h1 (nx+1) (.cells z2.cells bG) fun h3=>aA (aQ 0 (ptr nx)) fun t12_4=>aA (loadA ro h3 257 t12_4) fun t13_5=>aA (aQ 257 (ptr nx)) fun t14_6=>aA (load1 ro h3 t14_6) fun t15_7=>aN Tryz.prog ro hZ [t15_7] h3 (nx+10) fun t16_8 h9 n10=>(jD t12_4 h3 h9)∧(aA (eX Tryz.prog bG [(0,t13_5),(1,t16_8)]) fun t17_11=>aA (zer Tryz.prog bG) fun z12=>cM h9 (nx+8) (.cells z12.cells bG) fun h13=>aA (bV 259 h13 (ptr (nx+8)) t17_11) fun h14=>aA (aQ 258 (ptr nx)) fun t18_19=>aA (load1 ro h14 t18_19) fun t19_20=>aA (bI t19_20) fun t20_21=>dS (rY ro) (puts (gQ [v0]) [(1,(ptr nx)),(2,(ptr (nx+1))),(12,t12_4),(13,t13_5),(14,t14_6),(15,t15_7),(16,t16_8),(17,t17_11),(3,(ptr (nx+8))),(18,t18_19),(19,t19_20),(20,t20_21),(21,(Value.int IntKind.i64 0))]) h14 (n10+4) fun x97 e94 h95 n96=>exP x97 (nQ ro K e94 h95 n96) (fun i98=>cO (Nat.beq i98 0) (nQ ro K e94 h95 n96) (False)) (aA (loadA ro h95 259 (e94 2)) fun r99=>∃ h100,Sub h100 h95∧K r99 h100 n96))
theorem aDc (ro:Ro) (v0:Value) (h:T Obj) (nx:Nat) (K:KV):a9 Tryz.prog ro (aN Tryz.prog ro) Tryz.f75 [v0] h nx K=xU ro v0 h nx K:=by kernel_rfl
theorem aDd {ro:Ro} {v0:Value} {h:T Obj} {nx:Nat} {K:KV} (hw:xU ro v0 h nx K):aN Tryz.prog ro tL [v0] h nx K:=a7 (P:=Tryz.prog) (fn:=Tryz.f75) (by kernel_rfl) (by kernel_rfl) (by kernel_rfl) (Eq.mpr (aDc ro v0 h nx K) hw)
@[irreducible] def aE2 (ro:Ro) (v0:Value) (h:T Obj) (nx:Nat) (K:KV):Prop:=aA (aO .lss v0 (Value.int IntKind.i64 1)) fun t5_1=>ifP t5_1 false h (nx+5) (fun k2=>k2 v0 h (nx+6)) fun t7_3 h4 n5=>ifP t5_1 false h4 n5 (fun k6=>aA (aO .gtr t7_3 (Value.int IntKind.i64 4096)) fun t8_10=>k6 t8_10 h4 (n5+1)) fun t8_7 h8 n9=>aA (bH t5_1 (Value.bool true) t8_7) fun t9_11=>aS t9_11 (∃ h12,Sub h12 h8∧K (.tuple #[(Value.pointer none),(Value.int IntKind.i64 1)]) h12 (n9+3)) (aA (aDw Tryz.prog iL (n9+2) v0 v0) fun r13=>eQ h8 (n9+2) r13.2 fun h14=>aA (eX Tryz.prog bL [(0,r13.1)]) fun t12_15=>cM h14 (n9+4) (.cells (Value.cells t12_15) bL) fun h16=>∃ h17,Sub h17 h16∧K (.tuple #[(ptr (n9+4)),(Value.int IntKind.i64 0)]) h17 (n9+7))
theorem aIe (ro:Ro) (v0:Value) (h:T Obj) (nx:Nat) (K:KV):a9 Tryz.prog ro (aN Tryz.prog ro) Tryz.f76 [v0] h nx K=aE2 ro v0 h nx K:=by kernel_rfl
theorem aIf {ro:Ro} {v0:Value} {h:T Obj} {nx:Nat} {K:KV} (hw:aE2 ro v0 h nx K):aN Tryz.prog ro aAj [v0] h nx K:=a7 (P:=Tryz.prog) (fn:=Tryz.f76) (by kernel_rfl) (by kernel_rfl) (by kernel_rfl) (Eq.mpr (aIe ro v0 h nx K) hw)
@[irreducible] def iH (ro:Ro) (Q:KE):Env→T Obj→Nat→Prop:=fun e h nx=>aA (aO .add (e 14) (Value.int IntKind.i64 1)) fun t23_11=>Q .normal (puts e [(23,t23_11),(14,t23_11)]) h (nx+2)
@[irreducible] def oT (ro:Ro):PT:=fun e h nx Q=>aA (aO .lss (e 14) (e 13)) fun t15_10=>aS t15_10 (aA (cL 1 (e 12) (e 14)) fun t16_12=>aA (load1 ro h t16_12) fun t17_13=>aN Tryz.prog ro kB [t17_13] h (nx+6) fun t19_14 h15 n16=>aA (aO .gtr t19_14 (Value.int IntKind.i64 0)) fun t20_17=>aS t20_17 (aN Tryz.prog ro iX [t17_13] h15 (n16+3) fun t22_18 h19 n20=>iH ro Q (puts e [(15,t15_10),(16,t16_12),(17,t17_13),(3,t17_13),(18,t17_13),(19,t19_14),(20,t20_17),(21,t17_13),(22,t22_18)]) h19 n20) (iH ro Q (puts e [(15,t15_10),(16,t16_12),(17,t17_13),(3,t17_13),(18,t17_13),(19,t19_14),(20,t20_17)]) h15 (n16+1))) (Q (.exit 0) (puts e [(15,t15_10)]) h (nx+1))
@[irreducible] def mO (ro:Ro) (v0:Value) (h:T Obj) (nx:Nat) (K:KV):Prop:=aA (vU .eql v0 (Value.pointer none)) fun t5_1=>aS t5_1 (∃ h2,Sub h2 h∧K (.tuple #[]) h2 (nx+2)) (aA (bK v0) fun t7_3=>aA (aQ 259 t7_3) fun t8_4=>aA (bV 1 h t8_4 (Value.int IntKind.i64 0)) fun h5=>aA (bK v0) fun t10_6=>aA (aQ 260 t10_6) fun t11_7=>aA (load1 ro h5 t11_7) fun t12_8=>aA (bI t12_8) fun t13_9=>dS (oT ro) (puts (gQ [v0]) [(4,v0),(5,t5_1),(6,v0),(7,t7_3),(8,t8_4),(9,v0),(10,t10_6),(11,t11_7),(12,t12_8),(13,t13_9),(14,(Value.int IntKind.i64 0))]) h5 (nx+12) fun x24 e21 h22 n23=>exP x24 (∃ h27,Sub h27 h22∧K (.tuple #[]) h27 n23) (fun i25=>cO (Nat.beq i25 0) (∃ h26,Sub h26 h22∧K (.tuple #[]) h26 n23) (False)) (∃ h28,Sub h28 h22∧K (.tuple #[]) h28 n23))
theorem wQ (ro:Ro) (v0:Value) (h:T Obj) (nx:Nat) (K:KV):a9 Tryz.prog ro (aN Tryz.prog ro) Tryz.f123 [v0] h nx K=mO ro v0 h nx K:=by kernel_rfl
theorem wR {ro:Ro} {v0:Value} {h:T Obj} {nx:Nat} {K:KV} (hw:mO ro v0 h nx K):aN Tryz.prog ro k9 [v0] h nx K:=a7 (P:=Tryz.prog) (fn:=Tryz.f123) (by kernel_rfl) (by kernel_rfl) (by kernel_rfl) (Eq.mpr (wQ ro v0 h nx K) hw)
@[irreducible] def iU (ro:Ro) (K:KV):Env→T Obj→Nat→Prop:=fun e h nx=>aA (aQ 0 (e 6)) fun t113_53=>aA (load1 ro h t113_53) fun t114_54=>aA (aO .neq t114_54 (Value.int IntKind.i64 (-1))) fun t115_55=>∃ h56,Sub h56 h∧K t115_55 h56 (nx+4)
@[irreducible] def pJ (ro:Ro):PT:=fun e h nx Q=>aA (aO .lss (e 94) (e 93)) fun t95_58=>aS t95_58 (aA (cL 1 (e 92) (e 94)) fun t97_59=>aA (load1 ro h t97_59) fun t98_60=>aA (bK (e 0)) fun t100_61=>aA (aQ 260 t100_61) fun t101_62=>aA (load1 ro h t101_62) fun t102_63=>aA (cL 1 t102_63 t98_60) fun t104_64=>aA (load1 ro h t104_64) fun t105_65=>aA (aQ 1 (e 6)) fun t106_66=>aA (load1 ro h t106_66) fun t107_67=>aA (cL 1 t107_67 (e 94)) fun t109_68=>aA (load1 ro h t109_68) fun t110_69=>aN Tryz.prog ro tK [t105_65,t110_69] h (nx+19) fun t111_70 h71 n72=>aA (aO .add (e 94) (Value.int IntKind.i64 1)) fun t112_73=>Q .normal (puts e [(95,t95_58),(96,(e 94)),(97,t97_59),(98,t98_60),(10,(e 94)),(11,t98_60),(99,(e 0)),(100,t100_61),(101,t101_62),(102,t102_63),(103,t98_60),(104,t104_64),(105,t105_65),(106,t106_66),(107,t107_67),(108,(e 94)),(109,t109_68),(110,t110_69),(111,t111_70),(112,t112_73),(94,t112_73)]) h71 (n72+2)) (Q (.exit 2) (puts e [(95,t95_58)]) h (nx+1))
@[irreducible] def gM (ro:Ro) (K:KV):Env→T Obj→Nat→Prop:=fun e h nx=>aA (bI (e 7)) fun t93_57=>dS (pJ ro) (puts e [(92,(e 7)),(93,t93_57),(94,(Value.int IntKind.i64 0))]) h (nx+3) fun x77 e74 h75 n76=>exP x77 (iU ro K e74 h75 n76) (fun i78=>cO (Nat.beq i78 2) (iU ro K e74 h75 n76) (False)) (∃ h79,Sub h79 h75∧K (e74 4) h79 n76)
@[irreducible] def iV (ro:Ro) (Q:KE):Env→T Obj→Nat→Prop:=fun e h nx=>aA (aO .add (e 75) (Value.int IntKind.i64 1)) fun t91_84=>Q .normal (puts e [(91,t91_84),(75,t91_84)]) h (nx+2)
@[irreducible] def pK (ro:Ro):PT:=fun e h nx Q=>aA (aO .lss (e 75) (e 74)) fun t76_83=>aS t76_83 (aA (cL 1 (e 73) (e 75)) fun t77_85=>aA (load1 ro h t77_85) fun t78_86=>aN Tryz.prog ro gA [(e 7),t78_86] h (nx+7) fun t81_87 h88 n89=>aA (unV .not t81_87) fun t82_90=>aS t82_90 (aA (bK (e 0)) fun t84_91=>aA (aQ 260 t84_91) fun t85_92=>aA (load1 ro h88 t85_92) fun t86_93=>aA (cL 1 t86_93 t78_86) fun t88_94=>aA (load1 ro h88 t88_94) fun t89_95=>aN Tryz.prog ro iX [t89_95] h88 (n89+9) fun t90_96 h97 n98=>iV ro Q (puts e [(76,t76_83),(77,t77_85),(78,t78_86),(9,t78_86),(79,(e 7)),(80,t78_86),(81,t81_87),(82,t82_90),(83,(e 0)),(84,t84_91),(85,t85_92),(86,t86_93),(87,t78_86),(88,t88_94),(89,t89_95),(90,t90_96)]) h97 n98) (iV ro Q (puts e [(76,t76_83),(77,t77_85),(78,t78_86),(9,t78_86),(79,(e 7)),(80,t78_86),(81,t81_87),(82,t82_90)]) h88 (n89+1))) (Q (.exit 0) (puts e [(76,t76_83)]) h (nx+1))
@[irreducible] def gL (ro:Ro) (K:KV):Env→T Obj→Nat→Prop:=fun e h nx=>aA (aQ 1 (e 5)) fun t72_80=>aA (load1 ro h t72_80) fun t73_81=>aA (bI t73_81) fun t74_82=>dS (pK ro) (puts e [(72,t72_80),(73,t73_81),(74,t74_82),(75,(Value.int IntKind.i64 0))]) h (nx+4) fun x102 e99 h100 n101=>exP x102 (gM ro K e99 h100 n101) (fun i103=>cO (Nat.beq i103 0) (gM ro K e99 h100 n101) (False)) (∃ h104,Sub h104 h100∧K (e99 4) h104 n101)
@[irreducible] def nO (ro:Ro) (v0 v1:Value) (h:T Obj) (nx:Nat) (K:KV):Prop:=aN Tryz.prog ro iW [v0] h (nx+3) fun t13_1 h2 n3=>aA (aO .eql t13_1 (Value.int IntKind.i64 (-1))) fun t14_4=>aS t14_4 (∃ h5,Sub h5 h2∧K (Value.bool false) h5 (n3+2)) (aA (bK v0) fun t16_6=>aA (aQ 0 t16_6) fun t17_7=>aA (aQ 258 t17_7) fun t18_8=>aA (load1 ro h2 t18_8) fun t19_9=>aA (bK v0) fun t21_10=>aA (aQ 259 t21_10) fun t22_11=>aA (load1 ro h2 t22_11) fun t23_12=>aA (cL 4 t19_9 t23_12) fun t24_13=>aA (loadA ro h2 4 t24_13) fun t25_14=>aA (zer Tryz.prog a8) fun z15=>cM h2 (n3+12) (.cells z15.cells a8) fun h16=>aA (bV 4 h16 (ptr (n3+12)) t25_14) fun h17=>aA (aQ 3 (ptr (n3+12))) fun t26_18=>aA (load1 ro h17 t26_18) fun t27_19=>aA (loadA ro h17 4 (ptr (n3+12))) fun t29_20=>aN Tryz.prog ro jF [v0,t29_20] h17 (n3+33) fun t30_21 h22 n23=>(jD t26_18 h17 h22)∧(aA (cL 1 t27_19 t30_21) fun t31_24=>aA (load1 ro h22 t31_24) fun t32_25=>aA (bK v0) fun t35_26=>aA (aQ 0 t35_26) fun t36_27=>aA (aQ 0 t36_27) fun t37_28=>aA (aQ 0 t37_28) fun t38_29=>aA (ixArr 256 1 t38_29 v1) fun t39_30=>aA (load1 ro h22 t39_30) fun t40_31=>(jD t39_30 h17 h22)∧(aA (cL 2 t32_25 t40_31) fun t41_32=>aA (loadA ro h22 2 t41_32) fun t42_33=>aA (zer Tryz.prog b7) fun z34=>cM h22 (n3+31) (.cells z34.cells b7) fun h35=>aA (bV 2 h35 (ptr (n3+31)) t42_33) fun h36=>aA (bK v0) fun t44_37=>aA (aQ 261 t44_37) fun t45_38=>aA (load1 ro h36 t45_38) fun t46_39=>aA (aQ 1 (ptr (n3+12))) fun t47_40=>aA (load1 ro h36 t47_40) fun t48_41=>aA (bI t48_41) fun t49_42=>aA (aO .add (Value.int IntKind.i64 1) t49_42) fun t50_43=>aA (aO .add t46_39 t50_43) fun t51_44=>aA (bK v0) fun t52_45=>aA (aQ 261 t52_45) fun t53_46=>aA (bV 1 h36 t53_46 t51_44) fun h47=>aA (aQ 0 (ptr (n3+31))) fun t55_48=>aA (load1 ro h47 t55_48) fun t56_49=>aA (bK v0) fun t57_50=>aA (aQ 259 t57_50) fun t58_51=>aA (bV 1 h47 t58_51 t56_49) fun h52=>aA (aQ 0 (ptr (n3+31))) fun t59_105=>aA (load1 ro h52 t59_105) fun t60_106=>aA (aO .neq t60_106 (Value.int IntKind.i64 (-1))) fun t61_107=>aS t61_107 (aA (bK v0) fun t63_108=>aA (aQ 0 t63_108) fun t64_109=>aA (aQ 258 t64_109) fun t65_110=>aA (load1 ro h52 t65_110) fun t66_111=>aA (aQ 0 (ptr (n3+31))) fun t67_112=>aA (load1 ro h52 t67_112) fun t68_113=>aA (cL 4 t66_111 t68_113) fun t69_114=>aA (aQ 1 t69_114) fun t70_115=>aA (load1 ro h52 t70_115) fun t71_116=>gL ro K (puts (gQ [v0,v1]) [(4,(Value.bool false)),(12,v0),(13,t13_1),(14,t14_4),(15,v0),(16,t16_6),(17,t17_7),(18,t18_8),(19,t19_9),(20,v0),(21,t21_10),(22,t22_11),(23,t23_12),(24,t24_13),(25,t25_14),(5,(ptr (n3+12))),(26,t26_18),(27,t27_19),(28,v0),(29,t29_20),(30,t30_21),(31,t31_24),(32,t32_25),(33,v0),(34,v1),(35,t35_26),(36,t36_27),(37,t37_28),(38,t38_29),(39,t39_30),(40,t40_31),(41,t41_32),(42,t42_33),(6,(ptr (n3+31))),(43,v0),(44,t44_37),(45,t45_38),(46,t46_39),(47,t47_40),(48,t48_41),(49,t49_42),(50,t50_43),(51,t51_44),(52,t52_45),(53,t53_46),(54,v0),(55,t55_48),(56,t56_49),(57,t57_50),(58,t58_51),(7,(Value.slice none 0 0)),(59,t59_105),(60,t60_106),(61,t61_107),(62,v0),(63,t63_108),(64,t64_109),(65,t65_110),(66,t66_111),(67,t67_112),(68,t68_113),(69,t69_114),(70,t70_115),(71,t71_116),(7,t71_116)]) h52 (n23+33)) (gL ro K (puts (gQ [v0,v1]) [(4,(Value.bool false)),(12,v0),(13,t13_1),(14,t14_4),(15,v0),(16,t16_6),(17,t17_7),(18,t18_8),(19,t19_9),(20,v0),(21,t21_10),(22,t22_11),(23,t23_12),(24,t24_13),(25,t25_14),(5,(ptr (n3+12))),(26,t26_18),(27,t27_19),(28,v0),(29,t29_20),(30,t30_21),(31,t31_24),(32,t32_25),(33,v0),(34,v1),(35,t35_26),(36,t36_27),(37,t37_28),(38,t38_29),(39,t39_30),(40,t40_31),(41,t41_32),(42,t42_33),(6,(ptr (n3+31))),(43,v0),(44,t44_37),(45,t45_38),(46,t46_39),(47,t47_40),(48,t48_41),(49,t49_42),(50,t50_43),(51,t51_44),(52,t52_45),(53,t53_46),(54,v0),(55,t55_48),(56,t56_49),(57,t57_50),(58,t58_51),(7,(Value.slice none 0 0)),(59,t59_105),(60,t60_106),(61,t61_107)]) h52 (n23+22)))))
theorem xP (ro:Ro) (v0 v1:Value) (h:T Obj) (nx:Nat) (K:KV):a9 Tryz.prog ro (aN Tryz.prog ro) Tryz.f124 [v0,v1] h nx K=nO ro v0 v1 h nx K:=by kernel_rfl
theorem xQ {ro:Ro} {v0 v1:Value} {h:T Obj} {nx:Nat} {K:KV} (hw:nO ro v0 v1 h nx K):aN Tryz.prog ro lX [v0,v1] h nx K:=a7 (P:=Tryz.prog) (fn:=Tryz.f124) (by kernel_rfl) (by kernel_rfl) (by kernel_rfl) (Eq.mpr (xP ro v0 v1 h nx K) hw)
@[irreducible] def nN (ro:Ro) (v0:Value) (h:T Obj) (nx:Nat) (K:KV):Prop:=aN Tryz.prog ro iW [v0] h (nx+3) fun t5_1 h2 n3=>aA (aO .eql t5_1 (Value.int IntKind.i64 (-1))) fun t6_4=>aS t6_4 (∃ h5,Sub h5 h2∧K (Value.int IntKind.i64 (-1)) h5 (n3+2)) (aA (bK v0) fun t8_6=>aA (aQ 0 t8_6) fun t9_7=>aA (aQ 258 t9_7) fun t10_8=>aA (load1 ro h2 t10_8) fun t11_9=>aA (bK v0) fun t13_10=>aA (aQ 259 t13_10) fun t14_11=>aA (load1 ro h2 t14_11) fun t15_12=>aA (cL 4 t11_9 t15_12) fun t16_13=>aA (loadA ro h2 4 t16_13) fun t17_14=>aA (zer Tryz.prog a8) fun z15=>cM h2 (n3+12) (.cells z15.cells a8) fun h16=>aA (bV 4 h16 (ptr (n3+12)) t17_14) fun h17=>aA (aQ 2 (ptr (n3+12))) fun t18_18=>aA (load1 ro h17 t18_18) fun t19_19=>aA (loadA ro h17 4 (ptr (n3+12))) fun t21_20=>aN Tryz.prog ro jF [v0,t21_20] h17 (n3+22) fun t22_21 h22 n23=>(jD t18_18 h17 h22)∧(aA (cL 1 t19_19 t22_21) fun t23_24=>aA (load1 ro h22 t23_24) fun t24_25=>∃ h26,Sub h26 h22∧K t24_25 h26 n23))
theorem xN (ro:Ro) (v0:Value) (h:T Obj) (nx:Nat) (K:KV):a9 Tryz.prog ro (aN Tryz.prog ro) Tryz.f125 [v0] h nx K=nN ro v0 h nx K:=by kernel_rfl
theorem xO {ro:Ro} {v0:Value} {h:T Obj} {nx:Nat} {K:KV} (hw:nN ro v0 h nx K):aN Tryz.prog ro lW [v0] h nx K:=a7 (P:=Tryz.prog) (fn:=Tryz.f125) (by kernel_rfl) (by kernel_rfl) (by kernel_rfl) (Eq.mpr (xN ro v0 h nx K) hw)
@[irreducible] def t5 (ro:Ro) (v0:Value) (h:T Obj) (nx:Nat) (K:KV):Prop:=aA (vU .eql v0 (Value.pointer none)) fun t4_1=>aS t4_1 (∃ h2,Sub h2 h∧K (Value.int IntKind.i64 0) h2 (nx+4)) (aA (bK v0) fun t6_3=>aA (aQ 2 t6_3) fun t7_4=>aA (load1 ro h t7_4) fun t8_5=>∃ h6,Sub h6 h∧K t8_5 h6 (nx+8))
theorem aCL (ro:Ro) (v0:Value) (h:T Obj) (nx:Nat) (K:KV):a9 Tryz.prog ro (aN Tryz.prog ro) Tryz.f160 [v0] h nx K=t5 ro v0 h nx K:=by kernel_rfl
theorem aCM {ro:Ro} {v0:Value} {h:T Obj} {nx:Nat} {K:KV} (hw:t5 ro v0 h nx K):aN Tryz.prog ro kB [v0] h nx K:=a7 (P:=Tryz.prog) (fn:=Tryz.f160) (by kernel_rfl) (by kernel_rfl) (by kernel_rfl) (Eq.mpr (aCL ro v0 h nx K) hw)
@[irreducible] def qF (ro:Ro) (v0:Value) (h:T Obj) (nx:Nat) (K:KV):Prop:=aA (vU .neq v0 (Value.pointer none)) fun t3_1=>aS t3_1 (aA (bK v0) fun t6_2=>aA (aQ 1 t6_2) fun t7_3=>aA (bV 1 h t7_3 (Value.int IntKind.i64 0)) fun h4=>aA (bK v0) fun t8_5=>aA (aQ 2 t8_5) fun t9_6=>aA (bV 1 h4 t9_6 (Value.int IntKind.i64 0)) fun h7=>aA (bK v0) fun t11_8=>aA (aQ 4 t11_8) fun t12_9=>aA (load1 ro h7 t12_9) fun t13_10=>aA (aO .add t13_10 (Value.int IntKind.i64 1)) fun t14_11=>aA (bK v0) fun t15_12=>aA (aQ 4 t15_12) fun t16_13=>aA (bV 1 h7 t16_13 t14_11) fun h14=>∃ h15,Sub h15 h14∧K (.tuple #[]) h15 (nx+18)) (∃ h16,Sub h16 h∧K (.tuple #[]) h16 (nx+2))
theorem aAu (ro:Ro) (v0:Value) (h:T Obj) (nx:Nat) (K:KV):a9 Tryz.prog ro (aN Tryz.prog ro) Tryz.f161 [v0] h nx K=qF ro v0 h nx K:=by kernel_rfl
theorem aAv {ro:Ro} {v0:Value} {h:T Obj} {nx:Nat} {K:KV} (hw:qF ro v0 h nx K):aN Tryz.prog ro iX [v0] h nx K:=a7 (P:=Tryz.prog) (fn:=Tryz.f161) (by kernel_rfl) (by kernel_rfl) (by kernel_rfl) (Eq.mpr (aAu ro v0 h nx K) hw)
@[irreducible] def mP (ro:Ro) (v0:Value) (h:T Obj) (nx:Nat) (K:KV):Prop:=aA (vU .eql v0 (Value.pointer none)) fun t4_1=>aS t4_1 (∃ h2,Sub h2 h∧K (Value.int IntKind.i64 (-1)) h2 (nx+4)) (aA (bK v0) fun t6_3=>aA (aQ 259 t6_3) fun t7_4=>aA (load1 ro h t7_4) fun t8_5=>∃ h6,Sub h6 h∧K t8_5 h6 (nx+8))
theorem wS (ro:Ro) (v0:Value) (h:T Obj) (nx:Nat) (K:KV):a9 Tryz.prog ro (aN Tryz.prog ro) Tryz.f162 [v0] h nx K=mP ro v0 h nx K:=by kernel_rfl
theorem wT {ro:Ro} {v0:Value} {h:T Obj} {nx:Nat} {K:KV} (hw:mP ro v0 h nx K):aN Tryz.prog ro iW [v0] h nx K:=a7 (P:=Tryz.prog) (fn:=Tryz.f162) (by kernel_rfl) (by kernel_rfl) (by kernel_rfl) (Eq.mpr (wS ro v0 h nx K) hw)
@[irreducible] def kW (ro:Ro) (K:KV):Env→T Obj→Nat→Prop:=fun e h nx=>∃ h2,Sub h2 h∧K (e 5) h2 (nx+2)
@[irreducible] def pL (ro:Ro):PT:=fun e h nx Q=>aA (aO .lss (e 12) (e 11)) fun t13_6=>aS t13_6 (aA (cL 1 (e 10) (e 12)) fun t14_7=>aA (load1 ro h t14_7) fun t15_8=>aN Tryz.prog ro lA [(e 0),t15_8] h (nx+9) fun t20_9 h10 n11=>aA (aO .mul (e 6) t20_9) fun t21_12=>aA (aO .add (e 5) t21_12) fun t22_13=>aA (aO .mul (e 6) (Value.int IntKind.i64 3)) fun t24_14=>aA (aO .add (e 12) (Value.int IntKind.i64 1)) fun t25_15=>Q .normal (puts e [(13,t13_6),(14,t14_7),(15,t15_8),(8,t15_8),(16,(e 5)),(17,(e 6)),(18,(e 0)),(19,t15_8),(20,t20_9),(21,t21_12),(22,t22_13),(5,t22_13),(23,(e 6)),(24,t24_14),(6,t24_14),(25,t25_15),(12,t25_15)]) h10 (n11+8)) (Q (.exit 0) (puts e [(13,t13_6)]) h (nx+1))
@[irreducible] def nP (ro:Ro) (v0 v1:Value) (h:T Obj) (nx:Nat) (K:KV):Prop:=cM h nx (.cells (Value.cells v1) a8) fun h1=>aA (aQ 1 (ptr nx)) fun t9_3=>aA (load1 ro h1 t9_3) fun t10_4=>aA (bI t10_4) fun t11_5=>dS (pL ro) (puts (gQ [v0,v1]) [(3,(ptr nx)),(4,(Value.int IntKind.i64 0)),(5,(Value.int IntKind.i64 0)),(6,(Value.int IntKind.i64 1)),(9,t9_3),(10,t10_4),(11,t11_5),(12,(Value.int IntKind.i64 0))]) h1 (nx+8) fun x19 e16 h17 n18=>exP x19 (kW ro K e16 h17 n18) (fun i20=>cO (Nat.beq i20 0) (kW ro K e16 h17 n18) (False)) (∃ h21,Sub h21 h17∧K (e16 4) h21 n18)
theorem xR (ro:Ro) (v0 v1:Value) (h:T Obj) (nx:Nat) (K:KV):a9 Tryz.prog ro (aN Tryz.prog ro) Tryz.f163 [v0,v1] h nx K=nP ro v0 v1 h nx K:=by kernel_rfl
theorem xS {ro:Ro} {v0 v1:Value} {h:T Obj} {nx:Nat} {K:KV} (hw:nP ro v0 v1 h nx K):aN Tryz.prog ro jF [v0,v1] h nx K:=a7 (P:=Tryz.prog) (fn:=Tryz.f163) (by kernel_rfl) (by kernel_rfl) (by kernel_rfl) (Eq.mpr (xR ro v0 v1 h nx K) hw)
@[irreducible] def xT (ro:Ro) (v0 v1:Value) (h:T Obj) (nx:Nat) (K:KV):Prop:=aA (aO .eql v1 (Value.int IntKind.u8 3)) fun t6_1=>aS t6_1 (aN Tryz.prog ro iX [v0] h (nx+5) fun t8_2 h3 n4=>aN Tryz.prog ro mL [v0] h3 (n4+2) fun t10_5 h6 n7=>∃ h8,Sub h8 h6∧K (.tuple #[]) h8 n7) (aA (aO .eql v1 (Value.int IntKind.u8 2)) fun t12_9=>aS t12_9 (aN Tryz.prog ro mK [v0] h (nx+7) fun t14_10 h11 n12=>aN Tryz.prog ro mL [v0] h11 (n12+2) fun t16_13 h14 n15=>∃ h16,Sub h16 h14∧K (.tuple #[]) h16 n15) (aA (aO .eql v1 (Value.int IntKind.u8 1)) fun t18_17=>aS t18_17 (aN Tryz.prog ro mK [v0] h (nx+9) fun t20_18 h19 n20=>∃ h21,Sub h21 h19∧K (.tuple #[]) h21 n20) (∃ h22,Sub h22 h∧K (.tuple #[]) h22 (nx+7))))
theorem aDa (ro:Ro) (v0 v1:Value) (h:T Obj) (nx:Nat) (K:KV):a9 Tryz.prog ro (aN Tryz.prog ro) Tryz.f165 [v0,v1] h nx K=xT ro v0 v1 h nx K:=by kernel_rfl
theorem aDb {ro:Ro} {v0 v1:Value} {h:T Obj} {nx:Nat} {K:KV} (hw:xT ro v0 v1 h nx K):aN Tryz.prog ro tK [v0,v1] h nx K:=a7 (P:=Tryz.prog) (fn:=Tryz.f165) (by kernel_rfl) (by kernel_rfl) (by kernel_rfl) (Eq.mpr (aDa ro v0 v1 h nx K) hw)
@[irreducible] def mQ (ro:Ro) (v0 v1:Value) (h:T Obj) (nx:Nat) (K:KV):Prop:=aA (bK v0) fun t11_1=>aA (aQ 260 t11_1) fun t12_2=>aA (load1 ro h t12_2) fun t13_3=>aA (cL 1 t13_3 v1) fun t15_4=>aA (load1 ro h t15_4) fun t16_5=>aN Tryz.prog ro qD [t16_5] h (nx+9) fun t17_6 h7 n8=>aA (nth 0 t17_6) fun t18_9=>aA (nth 1 t17_6) fun t19_10=>aA (bK v0) fun t22_11=>aA (aQ 260 t22_11) fun t23_12=>aA (load1 ro h7 t23_12) fun t24_13=>aA (cL 1 t24_13 v1) fun t26_14=>aA (load1 ro h7 t26_14) fun t27_15=>aN Tryz.prog ro qC [t27_15] h7 (n8+13) fun t28_16 h17 n18=>aA (nth 0 t28_16) fun t29_19=>aA (nth 1 t28_16) fun t30_20=>aA (unV .not t30_20) fun t33_21=>ifP t33_21 false h17 (n18+8) (fun k22=>k22 t29_19 h17 (n18+9)) fun t35_23 h24 n25=>ifP t33_21 false h24 n25 (fun k26=>k26 v0 h24 (n25+1)) fun t36_27 h28 n29=>ifP t33_21 false h28 n29 (fun k30=>aA (bK t36_27) fun t37_34=>k30 t37_34 h28 (n29+1)) fun t37_31 h32 n33=>ifP t33_21 false h32 n33 (fun k35=>aA (aQ 0 t37_31) fun t38_39=>k35 t38_39 h32 (n33+1)) fun t38_36 h37 n38=>ifP t33_21 false h37 n38 (fun k40=>aA (aQ 257 t38_36) fun t39_44=>k40 t39_44 h37 (n38+1)) fun t39_41 h42 n43=>ifP t33_21 false h42 n43 (fun k45=>aA (load1 ro h42 t39_41) fun t40_49=>k45 t40_49 h42 (n43+1)) fun t40_46 h47 n48=>ifP t33_21 false h47 n48 (fun k50=>k50 v1 h47 (n48+1)) fun t41_51 h52 n53=>ifP t33_21 false h52 n53 (fun k54=>aA (cL 2 t40_46 t41_51) fun t42_58=>k54 t42_58 h52 (n53+1)) fun t42_55 h56 n57=>ifP t33_21 false h56 n57 (fun k59=>aA (ixArr 2 1 t42_55 (Value.int IntKind.i64 0)) fun t43_63=>k59 t43_63 h56 (n57+1)) fun t43_60 h61 n62=>ifP t33_21 false h61 n62 (fun k64=>aA (load1 ro h61 t43_60) fun t44_68=>k64 t44_68 h61 (n62+1)) fun t44_65 h66 n67=>ifP t33_21 false h66 n67 (fun k69=>aA (aO .lss t35_23 t44_65) fun t45_73=>k69 t45_73 h66 (n67+1)) fun t45_70 h71 n72=>aA (bH t33_21 (Value.bool true) t45_70) fun t46_74=>aS t46_74 (∃ h75,Sub h75 h71∧K (Value.int IntKind.i64 0) h75 (n72+3)) (aA (bK v0) fun t50_76=>aA (aQ 0 t50_76) fun t51_77=>aA (aQ 257 t51_77) fun t52_78=>aA (load1 ro h71 t52_78) fun t53_79=>aA (cL 2 t53_79 v1) fun t55_80=>aA (ixArr 2 1 t55_80 (Value.int IntKind.i64 1)) fun t56_81=>aA (load1 ro h71 t56_81) fun t57_82=>aA (aO .lss t18_9 t57_82) fun t58_83=>aS t58_83 (∃ h84,Sub h84 h71∧K (Value.int IntKind.i64 2) h84 (n72+15)) (∃ h85,Sub h85 h71∧K (Value.int IntKind.i64 1) h85 (n72+15)))
theorem wU (ro:Ro) (v0 v1:Value) (h:T Obj) (nx:Nat) (K:KV):a9 Tryz.prog ro (aN Tryz.prog ro) Tryz.f186 [v0,v1] h nx K=mQ ro v0 v1 h nx K:=by kernel_rfl
theorem wV {ro:Ro} {v0 v1:Value} {h:T Obj} {nx:Nat} {K:KV} (hw:mQ ro v0 v1 h nx K):aN Tryz.prog ro lA [v0,v1] h nx K:=a7 (P:=Tryz.prog) (fn:=Tryz.f186) (by kernel_rfl) (by kernel_rfl) (by kernel_rfl) (Eq.mpr (wU ro v0 v1 h nx K) hw)
@[irreducible] def uA (ro:Ro) (v0:Value) (h:T Obj) (nx:Nat) (K:KV):Prop:=aA (vU .eql v0 (Value.pointer none)) fun t3_1=>aS t3_1 (∃ h2,Sub h2 h∧K (.tuple #[]) h2 (nx+2)) (aA (bK v0) fun t5_3=>aA (aQ 4 t5_3) fun t6_4=>aA (load1 ro h t6_4) fun t7_5=>aA (aO .add t7_5 (Value.int IntKind.i64 1)) fun t8_6=>aA (bK v0) fun t9_7=>aA (aQ 4 t9_7) fun t10_8=>aA (bV 1 h t10_8 t8_6) fun h9=>aA (bK v0) fun t12_10=>aA (aQ 2 t12_10) fun t13_11=>aA (load1 ro h9 t13_11) fun t14_12=>aA (aO .gtr t14_12 (Value.int IntKind.i64 0)) fun t15_13=>ifP t15_13 true h9 (nx+16) (fun k14=>k14 v0 h9 (nx+17)) fun t17_15 h16 n17=>ifP t15_13 true h16 n17 (fun k18=>k18 v0 h16 (n17+1)) fun t18_19 h20 n21=>ifP t15_13 true h20 n21 (fun k22=>aA (bK t18_19) fun t19_26=>k22 t19_26 h20 (n21+1)) fun t19_23 h24 n25=>ifP t15_13 true h24 n25 (fun k27=>aA (aQ 2 t19_23) fun t20_31=>k27 t20_31 h24 (n25+1)) fun t20_28 h29 n30=>ifP t15_13 true h29 n30 (fun k32=>aA (load1 ro h29 t20_28) fun t21_36=>k32 t21_36 h29 (n30+1)) fun t21_33 h34 n35=>ifP t15_13 true h34 n35 (fun k37=>aA (aO .sub t21_33 (Value.int IntKind.i64 1)) fun t22_41=>k37 t22_41 h34 (n35+1)) fun t22_38 h39 n40=>ifP t15_13 true h39 n40 (fun k42=>aN Tryz.prog ro fQ [t17_15,t22_38] h39 (n40+1) fun t23_46 h47 n48=>k42 t23_46 h47 n48) fun t23_43 h44 n45=>ifP t15_13 true h44 n45 (fun k49=>aA (aO .eql t23_43 (Value.int IntKind.i64 1)) fun t24_53=>k49 t24_53 h44 (n45+1)) fun t24_50 h51 n52=>aA (bH t15_13 t24_50 (Value.bool false)) fun t25_54=>aS t25_54 (∃ h55,Sub h55 h51∧K (.tuple #[]) h55 (n52+1)) (aA (bK v0) fun t27_56=>aA (aQ 0 t27_56) fun t28_57=>aA (load1 ro h51 t28_57) fun t29_58=>aA (bK v0) fun t31_59=>aA (aQ 1 t31_59) fun t32_60=>aA (load1 ro h51 t32_60) fun t33_61=>aA (bK v0) fun t35_62=>aA (aQ 2 t35_62) fun t36_63=>aA (load1 ro h51 t36_63) fun t37_64=>aA (aO .add t33_61 t37_64) fun t38_65=>aA (bK v0) fun t40_66=>aA (aQ 0 t40_66) fun t41_67=>aA (load1 ro h51 t41_67) fun t42_68=>aA (bI t42_68) fun t43_69=>aA (aO .rem t38_65 t43_69) fun t44_70=>aA (bK v0) fun t46_71=>aA (aQ 3 t46_71) fun t47_72=>aA (load1 ro h51 t47_72) fun t48_73=>aA (cL 1 t29_58 t44_70) fun t49_74=>aA (bV 1 h51 t49_74 t48_73) fun h75=>aA (bK v0) fun t51_76=>aA (aQ 2 t51_76) fun t52_77=>aA (load1 ro h75 t52_77) fun t53_78=>aA (aO .add t53_78 (Value.int IntKind.i64 1)) fun t54_79=>aA (bK v0) fun t55_80=>aA (aQ 2 t55_80) fun t56_81=>aA (bV 1 h75 t56_81 t54_79) fun h82=>∃ h83,Sub h83 h82∧K (.tuple #[]) h83 (n52+34)))
theorem aCR (ro:Ro) (v0:Value) (h:T Obj) (nx:Nat) (K:KV):a9 Tryz.prog ro (aN Tryz.prog ro) Tryz.f188 [v0] h nx K=uA ro v0 h nx K:=by kernel_rfl
theorem aCS {ro:Ro} {v0:Value} {h:T Obj} {nx:Nat} {K:KV} (hw:uA ro v0 h nx K):aN Tryz.prog ro mL [v0] h nx K:=a7 (P:=Tryz.prog) (fn:=Tryz.f188) (by kernel_rfl) (by kernel_rfl) (by kernel_rfl) (Eq.mpr (aCR ro v0 h nx K) hw)
@[irreducible] def tZ (ro:Ro) (v0:Value) (h:T Obj) (nx:Nat) (K:KV):Prop:=aA (vU .eql v0 (Value.pointer none)) fun t3_1=>aS t3_1 (∃ h2,Sub h2 h∧K (.tuple #[]) h2 (nx+2)) (aA (bK v0) fun t5_3=>aA (aQ 4 t5_3) fun t6_4=>aA (load1 ro h t6_4) fun t7_5=>aA (aO .add t7_5 (Value.int IntKind.i64 1)) fun t8_6=>aA (bK v0) fun t9_7=>aA (aQ 4 t9_7) fun t10_8=>aA (bV 1 h t10_8 t8_6) fun h9=>aA (bK v0) fun t12_10=>aA (aQ 3 t12_10) fun t13_11=>aA (load1 ro h9 t13_11) fun t14_12=>aA (aO .add t14_12 (Value.int IntKind.i64 1)) fun t15_13=>aA (bK v0) fun t16_14=>aA (aQ 3 t16_14) fun t17_15=>aA (bV 1 h9 t17_15 t15_13) fun h16=>aA (bK v0) fun t19_17=>aA (aQ 2 t19_17) fun t20_18=>aA (load1 ro h16 t20_18) fun t21_19=>aA (aO .gtr t21_19 (Value.int IntKind.i64 0)) fun t22_20=>ifP t22_20 true h16 (nx+33) (fun k21=>k21 v0 h16 (nx+33)) fun t24_22 h23 n24=>ifP t22_20 true h23 n24 (fun k25=>aN Tryz.prog ro fQ [t24_22,(Value.int IntKind.i64 0)] h23 n24 fun t25_29 h30 n31=>k25 t25_29 h30 n31) fun t25_26 h27 n28=>ifP t22_20 true h27 n28 (fun k32=>k32 v0 h27 n28) fun t26_33 h34 n35=>ifP t22_20 true h34 n35 (fun k36=>aA (bK t26_33) fun t27_40=>k36 t27_40 h34 n35) fun t27_37 h38 n39=>ifP t22_20 true h38 n39 (fun k41=>aA (aQ 0 t27_37) fun t28_45=>k41 t28_45 h38 n39) fun t28_42 h43 n44=>ifP t22_20 true h43 n44 (fun k46=>aA (load1 ro h43 t28_42) fun t29_50=>(onP (some (t22_20,true)) (jD t28_42 h23 h27))∧(k46 t29_50 h43 n44)) fun t29_47 h48 n49=>ifP t22_20 true h48 n49 (fun k51=>aA (bI t29_47) fun t30_55=>k51 t30_55 h48 n49) fun t30_52 h53 n54=>ifP t22_20 true h53 n54 (fun k56=>aA (aO .gtr t25_26 t30_52) fun t31_60=>k56 t31_60 h53 n54) fun t31_57 h58 n59=>aA (bH t22_20 t31_57 (Value.bool false)) fun t32_61=>aS t32_61 (aA (bK v0) fun t35_62=>aA (aQ 1 t35_62) fun t36_63=>aA (load1 ro h58 t36_63) fun t37_64=>aA (aO .add t37_64 (Value.int IntKind.i64 1)) fun t38_65=>aA (bK v0) fun t40_66=>aA (aQ 0 t40_66) fun t41_67=>aA (load1 ro h58 t41_67) fun t42_68=>aA (bI t42_68) fun t43_69=>aA (aO .rem t38_65 t43_69) fun t44_70=>aA (bK v0) fun t45_71=>aA (aQ 1 t45_71) fun t46_72=>aA (bV 1 h58 t46_72 t44_70) fun h73=>aA (bK v0) fun t48_74=>aA (aQ 2 t48_74) fun t49_75=>aA (load1 ro h73 t49_75) fun t50_76=>aA (aO .sub t50_76 (Value.int IntKind.i64 1)) fun t51_77=>aA (bK v0) fun t52_78=>aA (aQ 2 t52_78) fun t53_79=>aA (bV 1 h73 t53_79 t51_77) fun h80=>∃ h81,Sub h81 h80∧K (.tuple #[]) h81 (n59+23)) (∃ h82,Sub h82 h58∧K (.tuple #[]) h82 n59))
theorem aCJ (ro:Ro) (v0:Value) (h:T Obj) (nx:Nat) (K:KV):a9 Tryz.prog ro (aN Tryz.prog ro) Tryz.f189 [v0] h nx K=tZ ro v0 h nx K:=by kernel_rfl
theorem aCK {ro:Ro} {v0:Value} {h:T Obj} {nx:Nat} {K:KV} (hw:tZ ro v0 h nx K):aN Tryz.prog ro mK [v0] h nx K:=a7 (P:=Tryz.prog) (fn:=Tryz.f189) (by kernel_rfl) (by kernel_rfl) (by kernel_rfl) (Eq.mpr (aCJ ro v0 h nx K) hw)
@[irreducible] def t7 (ro:Ro) (v0:Value) (h:T Obj) (nx:Nat) (K:KV):Prop:=aN Tryz.prog ro kB [v0] h (nx+4) fun t5_1 h2 n3=>aA (aO .eql t5_1 (Value.int IntKind.i64 0)) fun t6_4=>aS t6_4 (∃ h5,Sub h5 h2∧K (.tuple #[(Value.int IntKind.i64 0),(Value.bool false)]) h5 (n3+3)) (aA (bK v0) fun t9_6=>aA (aQ 2 t9_6) fun t10_7=>aA (load1 ro h2 t10_7) fun t11_8=>aA (aO .sub t11_8 (Value.int IntKind.i64 1)) fun t12_9=>aN Tryz.prog ro fQ [v0,t12_9] h2 (n3+8) fun t13_10 h11 n12=>∃ h13,Sub h13 h11∧K (.tuple #[t13_10,(Value.bool true)]) h13 (n12+2))
theorem aCP (ro:Ro) (v0:Value) (h:T Obj) (nx:Nat) (K:KV):a9 Tryz.prog ro (aN Tryz.prog ro) Tryz.f194 [v0] h nx K=t7 ro v0 h nx K:=by kernel_rfl
theorem aCQ {ro:Ro} {v0:Value} {h:T Obj} {nx:Nat} {K:KV} (hw:t7 ro v0 h nx K):aN Tryz.prog ro qD [v0] h nx K:=a7 (P:=Tryz.prog) (fn:=Tryz.f194) (by kernel_rfl) (by kernel_rfl) (by kernel_rfl) (Eq.mpr (aCP ro v0 h nx K) hw)
@[irreducible] def t6 (ro:Ro) (v0:Value) (h:T Obj) (nx:Nat) (K:KV):Prop:=aN Tryz.prog ro kB [v0] h (nx+4) fun t5_1 h2 n3=>aA (aO .eql t5_1 (Value.int IntKind.i64 0)) fun t6_4=>aS t6_4 (∃ h5,Sub h5 h2∧K (.tuple #[(Value.int IntKind.i64 0),(Value.bool false)]) h5 (n3+3)) (aN Tryz.prog ro fQ [v0,(Value.int IntKind.i64 0)] h2 (n3+3) fun t8_6 h7 n8=>∃ h9,Sub h9 h7∧K (.tuple #[t8_6,(Value.bool true)]) h9 (n8+2))
theorem aCN (ro:Ro) (v0:Value) (h:T Obj) (nx:Nat) (K:KV):a9 Tryz.prog ro (aN Tryz.prog ro) Tryz.f195 [v0] h nx K=t6 ro v0 h nx K:=by kernel_rfl
theorem aCO {ro:Ro} {v0:Value} {h:T Obj} {nx:Nat} {K:KV} (hw:t6 ro v0 h nx K):aN Tryz.prog ro qC [v0] h nx K:=a7 (P:=Tryz.prog) (fn:=Tryz.f195) (by kernel_rfl) (by kernel_rfl) (by kernel_rfl) (Eq.mpr (aCN ro v0 h nx K) hw)
@[irreducible] def mM (ro:Ro) (v0 v1:Value) (h:T Obj) (nx:Nat) (K:KV):Prop:=aA (bK v0) fun t6_1=>aA (aQ 3 t6_1) fun t7_2=>aA (load1 ro h t7_2) fun t8_3=>aA (bK v0) fun t10_4=>aA (aQ 0 t10_4) fun t11_5=>aA (load1 ro h t11_5) fun t12_6=>aA (bK v0) fun t14_7=>aA (aQ 1 t14_7) fun t15_8=>aA (load1 ro h t15_8) fun t16_9=>aA (aO .add t16_9 v1) fun t18_10=>aA (bK v0) fun t20_11=>aA (aQ 0 t20_11) fun t21_12=>aA (load1 ro h t21_12) fun t22_13=>aA (bI t22_13) fun t23_14=>aA (aO .rem t18_10 t23_14) fun t24_15=>aA (cL 1 t12_6 t24_15) fun t25_16=>aA (load1 ro h t25_16) fun t26_17=>aA (aO .sub t8_3 t26_17) fun t27_18=>aA (aO .add t27_18 (Value.int IntKind.i64 1)) fun t28_19=>∃ h20,Sub h20 h∧K t28_19 h20 (nx+26)
theorem aAw (ro:Ro) (v0 v1:Value) (h:T Obj) (nx:Nat) (K:KV):a9 Tryz.prog ro (aN Tryz.prog ro) Tryz.f196 [v0,v1] h nx K=mM ro v0 v1 h nx K:=by kernel_rfl
theorem sU {ro:Ro} {v0 v1:Value} {h:T Obj} {nx:Nat} {K:KV} (hw:mM ro v0 v1 h nx K):aN Tryz.prog ro fQ [v0,v1] h nx K:=a7 (P:=Tryz.prog) (fn:=Tryz.f196) (by kernel_rfl) (by kernel_rfl) (by kernel_rfl) (Eq.mpr (aAw ro v0 v1 h nx K) hw)
end V
end Go.Proofs.YtcaccnneblghgaaGreat
namespace Go.Proofs.YtcaccnneblghgaaGreat
set_option maxRecDepth 20000
namespace V
theorem pQ (id off z:Nat):vU .eql (at_ id off z) (.pointer none)=some (.bool false):=rfl
theorem aI0 (id off z:Nat):vU .neq (at_ id off z) (.pointer none)=some (.bool true):=rfl
theorem bA (id off z:Nat):bK (at_ id off z)=some (at_ id off z):=rfl
theorem aDO (a b n:Nat):((a:Int)+(b:Int)) % (n:Int)=(((a+b) % n:Nat):Int):=by rw [Int.natCast_emod,Int.natCast_add]
theorem aDH (a n c:Nat) (k:IntKind) {i:Nat} (hi:i < n):cL 1 (.slice (some (V.own a 1)) n c) (.int k (i:Int))=some (at_ a i 0):=by
 have h1:lO (Value.int k (i:Int))=some i:=by simp [lO]
 have h2:Nat.blt i n=true:=by simpa using hi
 simp [cL,h1,h2,V.own,elt]
def lG (a n first many now w:Nat):List Value:=[.slice (some (V.own a 1)) n n,.int .i64 first,.int .i64 many,.int .i64 now,.int .i64 w]
def o5 (put:List Nat):List Value:=put.map fun (x:Nat)=>.int .i64 (x:Int)
theorem aI2 (put:List Nat):(o5 put).length=put.length:=by simp [o5]
theorem aI1 {put:List Nat} {k:Nat} (hk:k < put.length):(o5 put)[k]?=some (.int .i64 (put.getD k 0:Nat)):=by
 simp [o5,hk]
theorem aI3 (put:List Nat) (k x:Nat):(o5 put).set k (.int .i64 (x:Int))=o5 (put.set k x):=by
 simp [o5,List.map_set]
def RI (h:T Obj) (p a n:Nat) (L:List Nat) (w:Nat):Prop:=∃ (put:List Nat) (first now:Nat),
 h.get p=some (.cells (lG a n first L.length now w).toArray bL)∧h.get a=some (.cells (o5 put).toArray dW)∧p≠a∧put.length=n∧1≤n∧n≤4096∧first < n∧now≤w∧w≤1000000 ∧
 (∀ i,i < L.length→put.getD ((first+i) % n) 0+L.getD i 0=now+1)∧L.Pairwise (fun x y=>y < x)∧(∀ x∈L,1≤x∧x≤n)
def rM (h h':T Obj) (p a:Nat):Prop:=∀ k,k≠p→k≠a→h'.get k=h.get k
theorem Fr.lt {h:T Obj} {nx k:Nat} {o:Obj} (hf:Fr h nx) (hg:h.get k=some o):k < nx:=by
 rcases Nat.lt_or_ge k nx with h9 | h9
 ·exact h9
 ·rw [hf k h9] at hg; cases hg
theorem aKK {L:List Nat}:∀ {lo hi:Nat},1≤lo→L.Pairwise (fun x y=>y < x)→(∀ x∈L,lo≤x∧x≤hi)→L.length+lo≤hi+1∨L=[]:=by
 induction L with
 | nil=>intro lo hi _ _ _; exact .inr rfl
 | cons x r ih =>
  intro lo hi hlo hp hb
  left
  have hx:=hb x (List.mem_cons_self ..)
  rw [List.pairwise_cons] at hp
  rcases ih (lo:=lo) (hi:=x - 1) hlo hp.2 fun y hy=>⟨(hb y (List.mem_cons_of_mem _ hy)).1,by have:=hp.1 y hy; omega⟩ with h1 | h1
  ·rw [List.length_cons]; omega
  ·subst h1; simp; omega
theorem RI.len {h:T Obj} {p a n w:Nat} {L:List Nat} (hR:RI h p a n L w):L.length≤n:=by
 obtain ⟨put,first,now,_,_,_,_,h1,_,_,_,_,_,hp,hb⟩:=hR
 rcases aKK (Nat.le_refl 1) hp hb with h9 | h9
 ·omega
 ·subst h9; simp
theorem vY {ro:Ro} {h:T Obj} {p a n w i nx:Nat} {L:List Nat} {K:KV} (hR:RI h p a n L w) (hi:i < L.length) (hK:∀ nx',nx≤nx'→K (.int .i64 (L.getD i 0:Nat)) h nx'):aN Tryz.prog ro fQ [ptr p,.int .i64 (i:Int)] h nx K:=by
 have hln:=hR.len
 obtain ⟨put,first,now,gp,ga,hne,hpl,h1,h2,h3,h4,h5,hrel,hpw,hb⟩:=hR
 apply sU
 unfold mM
 have hm:(first+i) % n < n:=Nat.mod_lt _ (by omega)
 have hm2:(first+i) % n < put.length:=by omega
 have hr:=hrel i hi
 (repeat(first|refine aB (by simp (disch:=first|omega|exact nnN _|assumption) only [decide_true,decide_false,Bool.not_true,Bool.not_false,d7,cZ,cY,bS,cC,bW,fW,fT,fV,fU,cD,dI,eC,cS,b8,Option.bind_some,Value.cells_agg,cV,cB,dB,dL,dG,dJ,dK,aT,aU,aY,aX,aW,aV,bO,bJ,cE,cX,cF,eP,iO,fH,cW,eE,cT,cU,cG,bX,bR,fL,eD,dM,cI,bZ,bY,T.get_upd_same,T.get_upd_ne,bE,bP,tl,ts,if_pos,Nat.zero_add,Nat.mul_one,Nat.add_zero,Int.toNat_natCast,↓reduceIte,Nat.reduceLeDiff,Nat.reduceAdd,Nat.le_refl,bA,gp,ga,aDO,aDH,aI1]<;>rfl) ?_|refine aD ?_|refine aE ?_|with_reducible refine aG ?_|with_reducible refine aF ?_|with_reducible refine aK ?_|with_reducible refine aH ?_|with_reducible refine aJ ?_|with_reducible refine aI ?_|with_reducible refine aL ?_|refine aC ?_))
 refine ⟨h,Sub.refl _,?_⟩
 have e:(now:Int) - (put.getD ((first+i) % n) 0:Nat)+1=(L.getD i 0:Nat):=by omega
 rw [e]
 exact hK _ (by omega)
theorem aAt {ro:Ro} {h:T Obj} {p a n w nx:Nat} {L:List Nat} {K:KV} (hR:RI h p a n L w) (hK:∀ nx',nx≤nx'→K (.int .i64 (L.length:Nat)) h nx'):aN Tryz.prog ro kB [ptr p] h nx K:=by
 obtain ⟨put,first,now,gp,ga,hne,hpl,h1,h2,h3,h4,h5,hrel,hpw,hb⟩:=hR
 apply aCM
 unfold t5
 (repeat(first|refine aB (by simp (disch:=first|omega|exact nnN _|assumption) only [decide_true,decide_false,Bool.not_true,Bool.not_false,d7,cZ,cY,bS,cC,bW,fW,fT,fV,fU,cD,dI,eC,cS,b8,Option.bind_some,Value.cells_agg,cV,cB,dB,dL,dG,dJ,dK,aT,aU,aY,aX,aW,aV,bO,bJ,cE,cX,cF,eP,iO,fH,cW,eE,cT,cU,cG,bX,bR,fL,eD,dM,cI,bZ,bY,T.get_upd_same,T.get_upd_ne,bE,bP,tl,ts,if_pos,Nat.zero_add,Nat.mul_one,Nat.add_zero,Int.toNat_natCast,↓reduceIte,Nat.reduceLeDiff,Nat.reduceAdd,Nat.le_refl,pQ,bA,gp,ga]<;>rfl) ?_|refine aD ?_|refine aE ?_|with_reducible refine aG ?_|with_reducible refine aF ?_|with_reducible refine aK ?_|with_reducible refine aH ?_|with_reducible refine aJ ?_|with_reducible refine aI ?_|with_reducible refine aL ?_|refine aC ?_))
 exact ⟨h,Sub.refl _,hK _ (by omega)⟩
def aBr (L:List Nat):Value:=if L.length=0 then .tuple #[.int .i64 0,.bool false] else .tuple #[.int .i64 (L.getD 0 0:Nat),.bool true]
def aCA (L:List Nat):Value:=if L.length=0 then .tuple #[.int .i64 0,.bool false] else .tuple #[.int .i64 (L.getD (L.length - 1) 0:Nat),.bool true]
theorem aJj {ro:Ro} {h:T Obj} {p a n w nx:Nat} {L:List Nat} {K:KV} (hR:RI h p a n L w) (hK:∀ nx',nx≤nx'→K (aBr L) h nx'):aN Tryz.prog ro qC [ptr p] h nx K:=by
 apply aCO
 unfold t6
 refine aAt hR fun n2 hn2=>?_
 (repeat(first|refine aB (by simp (disch:=first|omega|exact nnN _|assumption) only [decide_true,decide_false,Bool.not_true,Bool.not_false,d7,cZ,cY,bS,cC,bW,fW,fT,fV,fU,cD,dI,eC,cS,b8,Option.bind_some,Value.cells_agg,cV,cB,dB,dL,dG,dJ,dK,aT,aU,aY,aX,aW,aV,bO,bJ,cE,cX,cF,eP,iO,fH,cW,eE,cT,cU,cG,bX,bR,fL,eD,dM,cI,bZ,bY,T.get_upd_same,T.get_upd_ne,bE,bP,tl,ts,if_pos,Nat.zero_add,Nat.mul_one,Nat.add_zero,Int.toNat_natCast,↓reduceIte,Nat.reduceLeDiff,Nat.reduceAdd,Nat.le_refl]<;>rfl) ?_|refine aD ?_|refine aE ?_|with_reducible refine aG ?_|with_reducible refine aF ?_|with_reducible refine aK ?_|with_reducible refine aH ?_|with_reducible refine aJ ?_|with_reducible refine aI ?_|with_reducible refine aL ?_|refine aC ?_))
 unfold aBr at hK
 by_cases h0:L.length=0
 ·refine hY (by simp [h0]) ?_
  rw [if_pos h0] at hK
  exact ⟨h,Sub.refl _,hK _ (by omega)⟩
 ·refine hU (decide_eq_false (by omega)) ?_
  rw [if_neg h0] at hK
  refine vY (i:=0) hR (by omega) fun n3 hn3=>?_
  exact ⟨h,Sub.refl _,hK _ (by omega)⟩
theorem aJk {ro:Ro} {h:T Obj} {p a n w nx:Nat} {L:List Nat} {K:KV} (hR:RI h p a n L w) (hK:∀ nx',nx≤nx'→K (aCA L) h nx'):aN Tryz.prog ro qD [ptr p] h nx K:=by
 apply aCQ
 unfold t7
 refine aAt hR fun n2 hn2=>?_
 (repeat(first|refine aB (by simp (disch:=first|omega|exact nnN _|assumption) only [decide_true,decide_false,Bool.not_true,Bool.not_false,d7,cZ,cY,bS,cC,bW,fW,fT,fV,fU,cD,dI,eC,cS,b8,Option.bind_some,Value.cells_agg,cV,cB,dB,dL,dG,dJ,dK,aT,aU,aY,aX,aW,aV,bO,bJ,cE,cX,cF,eP,iO,fH,cW,eE,cT,cU,cG,bX,bR,fL,eD,dM,cI,bZ,bY,T.get_upd_same,T.get_upd_ne,bE,bP,tl,ts,if_pos,Nat.zero_add,Nat.mul_one,Nat.add_zero,Int.toNat_natCast,↓reduceIte,Nat.reduceLeDiff,Nat.reduceAdd,Nat.le_refl]<;>rfl) ?_|refine aD ?_|refine aE ?_|with_reducible refine aG ?_|with_reducible refine aF ?_|with_reducible refine aK ?_|with_reducible refine aH ?_|with_reducible refine aJ ?_|with_reducible refine aI ?_|with_reducible refine aL ?_|refine aC ?_))
 unfold aCA at hK
 by_cases h0:L.length=0
 ·refine hY (by simp [h0]) ?_
  rw [if_pos h0] at hK
  exact ⟨h,Sub.refl _,hK _ (by omega)⟩
 ·refine hU (decide_eq_false (by omega)) ?_
  rw [if_neg h0] at hK
  have hR':=hR
  have hln:=hR.len
  obtain ⟨put,first,now,gp,ga,hne,hpl,h1,h2,h3,h4,h5,hrel,hpw,hb⟩:=hR
  (repeat(first|refine aB (by simp (disch:=first|omega|exact nnN _|assumption) only [decide_true,decide_false,Bool.not_true,Bool.not_false,d7,cZ,cY,bS,cC,bW,fW,fT,fV,fU,cD,dI,eC,cS,b8,Option.bind_some,Value.cells_agg,cV,cB,dB,dL,dG,dJ,dK,aT,aU,aY,aX,aW,aV,bO,bJ,cE,cX,cF,eP,iO,fH,cW,eE,cT,cU,cG,bX,bR,fL,eD,dM,cI,bZ,bY,T.get_upd_same,T.get_upd_ne,bE,bP,tl,ts,if_pos,Nat.zero_add,Nat.mul_one,Nat.add_zero,Int.toNat_natCast,↓reduceIte,Nat.reduceLeDiff,Nat.reduceAdd,Nat.le_refl,bA,gp]<;>rfl) ?_|refine aD ?_|refine aE ?_|with_reducible refine aG ?_|with_reducible refine aF ?_|with_reducible refine aK ?_|with_reducible refine aH ?_|with_reducible refine aJ ?_|with_reducible refine aI ?_|with_reducible refine aL ?_|refine aC ?_))
  have e:(L.length:Int) - 1=((L.length - 1:Nat):Int):=by omega
  rw [e]
  refine vY (i:=L.length - 1) hR' (by omega) fun n3 hn3=>?_
  exact ⟨h,Sub.refl _,hK _ (by omega)⟩
def aON (L:List Nat):List Nat:=if L.getD (L.length - 1) 0=1 then L else L++[1]
theorem aFz {L:List Nat} (h:L.getD (L.length - 1) 0≠1):aON L=L++[1]:=if_neg h
theorem aM5 {L:List Nat} {x:Nat} (hx:x∈L) (hp:L.Pairwise (fun x y=>y < x)):L.getD (L.length - 1) 0≤x:=by
 obtain ⟨i,hi,rfl⟩:=List.getElem_of_mem hx
 have h1:L.getD (L.length - 1) 0=L[L.length - 1]:=by simp [List.getD,List.getElem?_eq_getElem (show L.length - 1 < L.length by omega)]
 rw [h1]
 rcases Nat.lt_or_ge i (L.length - 1) with h2 | h2
 ·exact Nat.le_of_lt (List.pairwise_iff_getElem.1 hp i (L.length - 1) hi (by omega) h2)
 ·have:i=L.length - 1:=by omega
  subst this; exact Nat.le_refl _
theorem aK6 {L:List Nat} {n:Nat} (h:L.getD (L.length - 1) 0≠1) (hp:L.Pairwise (fun x y=>y < x)) (hb:∀ x∈L,1≤x∧x≤n):∀ x∈L,2≤x∧x≤n:=fun x hx=>by
 have h1:=aM5 hx hp
 have h2:=hb x hx
 have h3:L.getD (L.length - 1) 0∈L:=by
  obtain ⟨i,hi,_⟩:=List.getElem_of_mem hx
  have h1:L.getD (L.length - 1) 0=L[L.length - 1]:=by simp [List.getD,List.getElem?_eq_getElem (show L.length - 1 < L.length by omega)]
  rw [h1]; exact List.getElem_mem _
 have:=hb _ h3
 omega
theorem aI5 {L:List Nat} {n:Nat} (hn:1≤n) (h:L.getD (L.length - 1) 0≠1) (hp:L.Pairwise (fun x y=>y < x)) (hb:∀ x∈L,1≤x∧x≤n):L.length < n:=by
 rcases aKK (lo:=2) (by omega) hp (aK6 h hp hb) with h9 | h9
 ·omega
 ·subst h9; exact hn
theorem aK4 {L:List Nat} {n:Nat} (h:L.getD (L.length - 1) 0≠1) (hp:L.Pairwise (fun x y=>y < x)) (hb:∀ x∈L,1≤x∧x≤n):(L++[1]).Pairwise (fun x y=>y < x):=by
 rw [List.pairwise_append]
 refine ⟨hp,List.pairwise_singleton ..,fun x hx y hy=>?_⟩
 have:=aK6 h hp hb x hx
 rw [List.mem_singleton] at hy
 omega
theorem aNC {L:List Nat} {n:Nat} (hn:1≤n) (hb:∀ x∈L,1≤x∧x≤n):∀ x∈L++[1],1≤x∧x≤n:=fun x hx=>by
 rw [List.mem_append,List.mem_singleton] at hx
 rcases hx with hx | rfl
 ·exact hb x hx
 ·omega
theorem aOB {f i j n:Nat} (hi:i < n) (hj:j < n) (he:(f+i) % n=(f+j) % n):i=j:=by
 have h1:=Nat.div_add_mod (f+i) n
 have h2:=Nat.div_add_mod (f+j) n
 rcases Nat.lt_trichotomy ((f+i) / n) ((f+j) / n) with h | h | h
 ·have:=Nat.mul_le_mul_left n (show (f+i) / n+1≤(f+j) / n from h)
  rw [Nat.mul_add] at this; omega
 ·rw [h] at h1; omega
 ·have:=Nat.mul_le_mul_left n (show (f+j) / n+1≤(f+i) / n from h)
  rw [Nat.mul_add] at this; omega
theorem aK5 {L put:List Nat} {n first now:Nat} (hpl:put.length=n) (hf:first < n) (hr:L.length < n) (hrel:∀ i,i < L.length→put.getD ((first+i) % n) 0+L.getD i 0=now+1) :
  ∀ i,i < (L++[1]).length→(put.set ((first+L.length) % n) now).getD ((first+i) % n) 0+(L++[1]).getD i 0=now+1:=fun i hi=>by
 have hm:(first+i) % n < n:=Nat.mod_lt _ (by omega)
 rw [List.length_append,List.length_singleton] at hi
 rcases Nat.lt_or_ge i L.length with h1 | h1
 ·have hne:(first+L.length) % n≠(first+i) % n:=fun e=>by have:=aOB hr (by omega) e; omega
  have e1:(put.set ((first+L.length) % n) now).getD ((first+i) % n) 0=put.getD ((first+i) % n) 0:=by simp [List.getD,List.getElem?_set_ne hne]
  have e2:(L++[1]).getD i 0=L.getD i 0:=by simp [List.getD,List.getElem?_append_left h1]
  rw [e1,e2]; exact hrel i h1
 ·have:i=L.length:=by omega
  subst this
  have e1:(put.set ((first+L.length) % n) now).getD ((first+L.length) % n) 0=now:=by simp [List.getD,List.getElem?_set_self,hpl,hm]
  have e2:(L++[1]).getD L.length 0=1:=by simp [List.getD]
  rw [e1,e2]
set_option maxRecDepth 4000 in
theorem aE3 {ro:Ro} {h:T Obj} {p a n w nx:Nat} {L:List Nat} {K:KV} (hR:RI h p a n L w) (hw:w+1≤1000000) (hK:∀ h' nx',nx≤nx'→RI h' p a n (aON L) (w+1)→rM h h' p a→K (.tuple #[]) h' nx'):aN Tryz.prog ro mL [ptr p] h nx K:=by
 have hln:=hR.len
 obtain ⟨put,first,now,gp,ga,hne,hpl,b1,b2,b3,b4,b5,hrel,hpw,hb⟩:=hR
 apply aCS
 unfold uA
 (repeat(first|refine aB (by simp (disch:=first|omega|exact nnN _|assumption) only [decide_true,decide_false,Bool.not_true,Bool.not_false,d7,cZ,cY,bS,cC,bW,fW,fT,fV,fU,cD,dI,eC,cS,b8,Option.bind_some,Value.cells_agg,cV,cB,dB,dL,dG,dJ,dK,aT,aU,aY,aX,aW,aV,bO,bJ,cE,cX,cF,eP,iO,fH,cW,eE,cT,cU,cG,bX,bR,fL,eD,dM,cI,bZ,bY,T.get_upd_same,T.get_upd_ne,bE,bP,tl,ts,if_pos,Nat.zero_add,Nat.mul_one,Nat.add_zero,Int.toNat_natCast,↓reduceIte,Nat.reduceLeDiff,Nat.reduceAdd,Nat.le_refl,pQ,bA,gp,ga]<;>rfl) ?_|refine aD ?_|refine aE ?_|with_reducible refine aG ?_|with_reducible refine aF ?_|with_reducible refine aK ?_|with_reducible refine aH ?_|with_reducible refine aJ ?_|with_reducible refine aI ?_|with_reducible refine aL ?_|refine aC ?_))
 have gp1:(h.upd p (some (.cells (over (lG a n first L.length now w).toArray.toList 4 [.int .i64 ((w:Int)+1)]).toArray bL))).get p=some (.cells (lG a n first L.length now (w+1)).toArray bL):=by
  rw [T.get_upd_same]; rfl
 have ga1:(h.upd p (some (.cells (over (lG a n first L.length now w).toArray.toList 4 [.int .i64 ((w:Int)+1)]).toArray bL))).get a=some (.cells (o5 put).toArray dW):=by rw [T.get_upd_ne _ _ (Ne.symm hne)]; exact ga
 have ho1:rM h (h.upd p (some (.cells (over (lG a n first L.length now w).toArray.toList 4 [.int .i64 ((w:Int)+1)]).toArray bL))) p a:=fun k k1 k2=>by rw [T.get_upd_ne _ _ k1]
 generalize (h.upd p (some (.cells (over (lG a n first L.length now w).toArray.toList 4 [.int .i64 ((w:Int)+1)]).toArray bL)))=h1 at gp1 ga1 ho1
 have hR1:RI h1 p a n L (w+1):=⟨put,first,now,gp1,ga1,hne,hpl,b1,b2,b3,by omega,hw,hrel,hpw,hb⟩
 (repeat(first|refine aB (by simp (disch:=first|omega|exact nnN _|assumption) only [decide_true,decide_false,Bool.not_true,Bool.not_false,d7,cZ,cY,bS,cC,bW,fW,fT,fV,fU,cD,dI,eC,cS,b8,Option.bind_some,Value.cells_agg,cV,cB,dB,dL,dG,dJ,dK,aT,aU,aY,aX,aW,aV,bO,bJ,cE,cX,cF,eP,iO,fH,cW,eE,cT,cU,cG,bX,bR,fL,eD,dM,cI,bZ,bY,T.get_upd_same,T.get_upd_ne,bE,bP,tl,ts,if_pos,Nat.zero_add,Nat.mul_one,Nat.add_zero,Int.toNat_natCast,↓reduceIte,Nat.reduceLeDiff,Nat.reduceAdd,Nat.le_refl,bA,gp1]<;>rfl) ?_|refine aD ?_|refine aE ?_|with_reducible refine aG ?_|with_reducible refine aF ?_|with_reducible refine aK ?_|with_reducible refine aH ?_|with_reducible refine aJ ?_|with_reducible refine aI ?_|with_reducible refine aL ?_|refine aC ?_))
 rcases Nat.eq_zero_or_pos L.length with hm | hm
 ·have d:decide ((0:Int) < (L.length:Int))=false:=decide_eq_false (by omega)
  rw [d]
  have hlast:L.getD (L.length - 1) 0≠1:=by
   have:L=[]:=List.length_eq_zero_iff.1 hm
   subst this; decide
  (repeat(first|refine aB (by simp (disch:=first|omega|exact nnN _|assumption) only [decide_true,decide_false,Bool.not_true,Bool.not_false,d7,cZ,cY,bS,cC,bW,fW,fT,fV,fU,cD,dI,eC,cS,b8,Option.bind_some,Value.cells_agg,cV,cB,dB,dL,dG,dJ,dK,aT,aU,aY,aX,aW,aV,bO,bJ,cE,cX,cF,eP,iO,fH,cW,eE,cT,cU,cG,bX,bR,fL,eD,dM,cI,bZ,bY,T.get_upd_same,T.get_upd_ne,bE,bP,tl,ts,if_pos,Nat.zero_add,Nat.mul_one,Nat.add_zero,Int.toNat_natCast,↓reduceIte,Nat.reduceLeDiff,Nat.reduceAdd,Nat.le_refl]<;>rfl) ?_|refine aD ?_|refine aE ?_|with_reducible refine aG ?_|with_reducible refine aF ?_|with_reducible refine aK ?_|with_reducible refine aH ?_|with_reducible refine aJ ?_|with_reducible refine aI ?_|with_reducible refine aL ?_|refine aC ?_))
  (repeat(first|refine aB (by simp (disch:=first|omega|exact nnN _|assumption) only [decide_true,decide_false,Bool.not_true,Bool.not_false,d7,cZ,cY,bS,cC,bW,fW,fT,fV,fU,cD,dI,eC,cS,b8,Option.bind_some,Value.cells_agg,cV,cB,dB,dL,dG,dJ,dK,aT,aU,aY,aX,aW,aV,bO,bJ,cE,cX,cF,eP,iO,fH,cW,eE,cT,cU,cG,bX,bR,fL,eD,dM,cI,bZ,bY,T.get_upd_same,T.get_upd_ne,bE,bP,tl,ts,if_pos,Nat.zero_add,Nat.mul_one,Nat.add_zero,Int.toNat_natCast,↓reduceIte,Nat.reduceLeDiff,Nat.reduceAdd,Nat.le_refl,bA,gp1,aDO]<;>rfl) ?_|refine aD ?_|refine aE ?_|with_reducible refine aG ?_|with_reducible refine aF ?_|with_reducible refine aK ?_|with_reducible refine aH ?_|with_reducible refine aJ ?_|with_reducible refine aI ?_|with_reducible refine aL ?_|refine aC ?_))
  have hcase:(first+L.length) % n < n:=Nat.mod_lt _ (by omega)
  refine aB (aDH _ _ _ _ hcase) ?_
  refine aB (dN (v:=.int .i64 _) (l:=o5 put) ga1 (by rw [aI2]; omega) rfl rfl) ?_
  rw [aI3]
  have gp2:(h1.upd a (some (.cells (o5 (put.set ((first+L.length) % n) now)).toArray dW))).get p=some (.cells (lG a n first L.length now (w+1)).toArray bL):=by rw [T.get_upd_ne _ _ hne]; exact gp1
  have ga2:(h1.upd a (some (.cells (o5 (put.set ((first+L.length) % n) now)).toArray dW))).get a=some (.cells (o5 (put.set ((first+L.length) % n) now)).toArray dW):=T.get_upd_same _ _ _
  have ho2:rM h (h1.upd a (some (.cells (o5 (put.set ((first+L.length) % n) now)).toArray dW))) p a:=fun k k1 k2=>by rw [T.get_upd_ne _ _ k2]; exact ho1 k k1 k2
  generalize (h1.upd a (some (.cells (o5 (put.set ((first+L.length) % n) now)).toArray dW)))=h2 at gp2 ga2 ho2
  (repeat(first|refine aB (by simp (disch:=first|omega|exact nnN _|assumption) only [decide_true,decide_false,Bool.not_true,Bool.not_false,d7,cZ,cY,bS,cC,bW,fW,fT,fV,fU,cD,dI,eC,cS,b8,Option.bind_some,Value.cells_agg,cV,cB,dB,dL,dG,dJ,dK,aT,aU,aY,aX,aW,aV,bO,bJ,cE,cX,cF,eP,iO,fH,cW,eE,cT,cU,cG,bX,bR,fL,eD,dM,cI,bZ,bY,T.get_upd_same,T.get_upd_ne,bE,bP,tl,ts,if_pos,Nat.zero_add,Nat.mul_one,Nat.add_zero,Int.toNat_natCast,↓reduceIte,Nat.reduceLeDiff,Nat.reduceAdd,Nat.le_refl,bA,gp2]<;>rfl) ?_|refine aD ?_|refine aE ?_|with_reducible refine aG ?_|with_reducible refine aF ?_|with_reducible refine aK ?_|with_reducible refine aH ?_|with_reducible refine aJ ?_|with_reducible refine aI ?_|with_reducible refine aL ?_|refine aC ?_))
  have gp3:(h2.upd p (some (.cells (over (lG a n first L.length now (w+1)).toArray.toList 2 [.int .i64 ((L.length:Int)+1)]).toArray bL))).get p=some (.cells (lG a n first (L++[1]).length now (w+1)).toArray bL):=by
   rw [T.get_upd_same,List.length_append]; rfl
  refine ⟨_,Sub.refl _,hK _ _ (by omega) ?_ ?_⟩
  ·rw [aFz hlast]
   exact ⟨put.set ((first+L.length) % n) now,first,now,gp3,by rw [T.get_upd_ne _ _ (Ne.symm hne)]; exact ga2,hne,by rw [List.length_set]; exact hpl,b1,b2,b3,by omega,hw,aK5 hpl b3 (aI5 b1 hlast hpw hb) hrel,aK4 hlast hpw hb,aNC b1 hb⟩
  ·exact fun k k1 k2=>by rw [T.get_upd_ne _ _ k1]; exact ho2 k k1 k2
 ·have d:decide ((0:Int) < (L.length:Int))=true:=decide_eq_true (by omega)
  rw [d]
  (repeat(first|refine aB (by simp (disch:=first|omega|exact nnN _|assumption) only [decide_true,decide_false,Bool.not_true,Bool.not_false,d7,cZ,cY,bS,cC,bW,fW,fT,fV,fU,cD,dI,eC,cS,b8,Option.bind_some,Value.cells_agg,cV,cB,dB,dL,dG,dJ,dK,aT,aU,aY,aX,aW,aV,bO,bJ,cE,cX,cF,eP,iO,fH,cW,eE,cT,cU,cG,bX,bR,fL,eD,dM,cI,bZ,bY,T.get_upd_same,T.get_upd_ne,bE,bP,tl,ts,if_pos,Nat.zero_add,Nat.mul_one,Nat.add_zero,Int.toNat_natCast,↓reduceIte,Nat.reduceLeDiff,Nat.reduceAdd,Nat.le_refl,bA,gp1]<;>rfl) ?_|refine aD ?_|refine aE ?_|with_reducible refine aG ?_|with_reducible refine aF ?_|with_reducible refine aK ?_|with_reducible refine aH ?_|with_reducible refine aJ ?_|with_reducible refine aI ?_|with_reducible refine aL ?_|refine aC ?_))
  have e:(L.length:Int) - 1=((L.length - 1:Nat):Int):=by omega
  rw [e]
  refine vY (i:=L.length - 1) hR1 (by omega) fun n4 hn4=>?_
  (repeat(first|refine aB (by simp (disch:=first|omega|exact nnN _|assumption) only [decide_true,decide_false,Bool.not_true,Bool.not_false,d7,cZ,cY,bS,cC,bW,fW,fT,fV,fU,cD,dI,eC,cS,b8,Option.bind_some,Value.cells_agg,cV,cB,dB,dL,dG,dJ,dK,aT,aU,aY,aX,aW,aV,bO,bJ,cE,cX,cF,eP,iO,fH,cW,eE,cT,cU,cG,bX,bR,fL,eD,dM,cI,bZ,bY,T.get_upd_same,T.get_upd_ne,bE,bP,tl,ts,if_pos,Nat.zero_add,Nat.mul_one,Nat.add_zero,Int.toNat_natCast,↓reduceIte,Nat.reduceLeDiff,Nat.reduceAdd,Nat.le_refl]<;>rfl) ?_|refine aD ?_|refine aE ?_|with_reducible refine aG ?_|with_reducible refine aF ?_|with_reducible refine aK ?_|with_reducible refine aH ?_|with_reducible refine aJ ?_|with_reducible refine aI ?_|with_reducible refine aL ?_|refine aC ?_))
  by_cases hlast:L.getD (L.length - 1) 0=1
  ·rw [decide_eq_true (show ((L.getD (L.length - 1) 0:Nat):Int)=1 by omega)]
   (repeat(first|refine aB (by simp (disch:=first|omega|exact nnN _|assumption) only [decide_true,decide_false,Bool.not_true,Bool.not_false,d7,cZ,cY,bS,cC,bW,fW,fT,fV,fU,cD,dI,eC,cS,b8,Option.bind_some,Value.cells_agg,cV,cB,dB,dL,dG,dJ,dK,aT,aU,aY,aX,aW,aV,bO,bJ,cE,cX,cF,eP,iO,fH,cW,eE,cT,cU,cG,bX,bR,fL,eD,dM,cI,bZ,bY,T.get_upd_same,T.get_upd_ne,bE,bP,tl,ts,if_pos,Nat.zero_add,Nat.mul_one,Nat.add_zero,Int.toNat_natCast,↓reduceIte,Nat.reduceLeDiff,Nat.reduceAdd,Nat.le_refl]<;>rfl) ?_|refine aD ?_|refine aE ?_|with_reducible refine aG ?_|with_reducible refine aF ?_|with_reducible refine aK ?_|with_reducible refine aH ?_|with_reducible refine aJ ?_|with_reducible refine aI ?_|with_reducible refine aL ?_|refine aC ?_))
   refine ⟨_,Sub.refl _,hK _ _ (by omega) ?_ ho1⟩
   unfold aON
   rw [if_pos hlast]
   exact hR1
  rw [decide_eq_false (show ¬ ((L.getD (L.length - 1) 0:Nat):Int)=1 by omega)]
  (repeat(first|refine aB (by simp (disch:=first|omega|exact nnN _|assumption) only [decide_true,decide_false,Bool.not_true,Bool.not_false,d7,cZ,cY,bS,cC,bW,fW,fT,fV,fU,cD,dI,eC,cS,b8,Option.bind_some,Value.cells_agg,cV,cB,dB,dL,dG,dJ,dK,aT,aU,aY,aX,aW,aV,bO,bJ,cE,cX,cF,eP,iO,fH,cW,eE,cT,cU,cG,bX,bR,fL,eD,dM,cI,bZ,bY,T.get_upd_same,T.get_upd_ne,bE,bP,tl,ts,if_pos,Nat.zero_add,Nat.mul_one,Nat.add_zero,Int.toNat_natCast,↓reduceIte,Nat.reduceLeDiff,Nat.reduceAdd,Nat.le_refl]<;>rfl) ?_|refine aD ?_|refine aE ?_|with_reducible refine aG ?_|with_reducible refine aF ?_|with_reducible refine aK ?_|with_reducible refine aH ?_|with_reducible refine aJ ?_|with_reducible refine aI ?_|with_reducible refine aL ?_|refine aC ?_))
  (repeat(first|refine aB (by simp (disch:=first|omega|exact nnN _|assumption) only [decide_true,decide_false,Bool.not_true,Bool.not_false,d7,cZ,cY,bS,cC,bW,fW,fT,fV,fU,cD,dI,eC,cS,b8,Option.bind_some,Value.cells_agg,cV,cB,dB,dL,dG,dJ,dK,aT,aU,aY,aX,aW,aV,bO,bJ,cE,cX,cF,eP,iO,fH,cW,eE,cT,cU,cG,bX,bR,fL,eD,dM,cI,bZ,bY,T.get_upd_same,T.get_upd_ne,bE,bP,tl,ts,if_pos,Nat.zero_add,Nat.mul_one,Nat.add_zero,Int.toNat_natCast,↓reduceIte,Nat.reduceLeDiff,Nat.reduceAdd,Nat.le_refl,bA,gp1,aDO]<;>rfl) ?_|refine aD ?_|refine aE ?_|with_reducible refine aG ?_|with_reducible refine aF ?_|with_reducible refine aK ?_|with_reducible refine aH ?_|with_reducible refine aJ ?_|with_reducible refine aI ?_|with_reducible refine aL ?_|refine aC ?_))
  have hcase:(first+L.length) % n < n:=Nat.mod_lt _ (by omega)
  refine aB (aDH _ _ _ _ hcase) ?_
  refine aB (dN (v:=.int .i64 _) (l:=o5 put) ga1 (by rw [aI2]; omega) rfl rfl) ?_
  rw [aI3]
  have gp2:(h1.upd a (some (.cells (o5 (put.set ((first+L.length) % n) now)).toArray dW))).get p=some (.cells (lG a n first L.length now (w+1)).toArray bL):=by rw [T.get_upd_ne _ _ hne]; exact gp1
  have ga2:(h1.upd a (some (.cells (o5 (put.set ((first+L.length) % n) now)).toArray dW))).get a=some (.cells (o5 (put.set ((first+L.length) % n) now)).toArray dW):=T.get_upd_same _ _ _
  have ho2:rM h (h1.upd a (some (.cells (o5 (put.set ((first+L.length) % n) now)).toArray dW))) p a:=fun k k1 k2=>by rw [T.get_upd_ne _ _ k2]; exact ho1 k k1 k2
  generalize (h1.upd a (some (.cells (o5 (put.set ((first+L.length) % n) now)).toArray dW)))=h2 at gp2 ga2 ho2
  (repeat(first|refine aB (by simp (disch:=first|omega|exact nnN _|assumption) only [decide_true,decide_false,Bool.not_true,Bool.not_false,d7,cZ,cY,bS,cC,bW,fW,fT,fV,fU,cD,dI,eC,cS,b8,Option.bind_some,Value.cells_agg,cV,cB,dB,dL,dG,dJ,dK,aT,aU,aY,aX,aW,aV,bO,bJ,cE,cX,cF,eP,iO,fH,cW,eE,cT,cU,cG,bX,bR,fL,eD,dM,cI,bZ,bY,T.get_upd_same,T.get_upd_ne,bE,bP,tl,ts,if_pos,Nat.zero_add,Nat.mul_one,Nat.add_zero,Int.toNat_natCast,↓reduceIte,Nat.reduceLeDiff,Nat.reduceAdd,Nat.le_refl,bA,gp2]<;>rfl) ?_|refine aD ?_|refine aE ?_|with_reducible refine aG ?_|with_reducible refine aF ?_|with_reducible refine aK ?_|with_reducible refine aH ?_|with_reducible refine aJ ?_|with_reducible refine aI ?_|with_reducible refine aL ?_|refine aC ?_))
  have gp3:(h2.upd p (some (.cells (over (lG a n first L.length now (w+1)).toArray.toList 2 [.int .i64 ((L.length:Int)+1)]).toArray bL))).get p=some (.cells (lG a n first (L++[1]).length now (w+1)).toArray bL):=by
   rw [T.get_upd_same,List.length_append]; rfl
  refine ⟨_,Sub.refl _,hK _ _ (by omega) ?_ ?_⟩
  ·rw [aFz hlast]
   exact ⟨put.set ((first+L.length) % n) now,first,now,gp3,by rw [T.get_upd_ne _ _ (Ne.symm hne)]; exact ga2,hne,by rw [List.length_set]; exact hpl,b1,b2,b3,by omega,hw,aK5 hpl b3 (aI5 b1 hlast hpw hb) hrel,aK4 hlast hpw hb,aNC b1 hb⟩
  ·exact fun k k1 k2=>by rw [T.get_upd_ne _ _ k1]; exact ho2 k k1 k2
theorem aNW:und Tryz.prog iL=some (.slice dW):=by kernel_rfl
theorem aO2:∃ i,tin Tryz.prog dW=some i∧i.size=1∧i.bytes=8:=by
 have h:(tin Tryz.prog dW).map (fun i=>(i.size,i.bytes))=some (1,8):=by kernel_rfl
 cases hi:tin Tryz.prog dW with
 | none=>rw [hi] at h; cases h
 | some i=>rw [hi] at h; simp at h; exact ⟨i,rfl,h.1,h.2⟩
theorem aOf:zer Tryz.prog dW=some (.int .i64 0):=by kernel_rfl
theorem RI.sub {h h':T Obj} {p a n w:Nat} {L:List Nat} (hR:RI h p a n L w) (hs:Sub h h'):RI h' p a n L w:=by
 obtain ⟨put,first,now,gp,ga,hr⟩:=hR
 exact ⟨put,first,now,hs _ _ gp,hs _ _ ga,hr⟩
theorem aHF {ro:Ro} {h:T Obj} {p a n first m now w i x nx:Nat} {put:List Nat} {K:KV} (gp:h.get p=some (.cells (lG a n first m now w).toArray bL)) (ga:h.get a=some (.cells (o5 put).toArray dW)) (hpl:put.length=n) (h1:1≤n) (h2:n≤4096) (h3:first < n) (h4:now≤2000000) (hi:i≤4096) (hr:put.getD ((first+i) % n) 0+x=now+1) (hK:∀ nx',nx≤nx'→K (.int .i64 (x:Nat)) h nx'):aN Tryz.prog ro fQ [ptr p,.int .i64 (i:Int)] h nx K:=by
 apply sU
 unfold mM
 have hm:(first+i) % n < n:=Nat.mod_lt _ (by omega)
 have hm2:(first+i) % n < put.length:=by omega
 (repeat(first|refine aB (by simp (disch:=first|omega|exact nnN _|assumption) only [decide_true,decide_false,Bool.not_true,Bool.not_false,d7,cZ,cY,bS,cC,bW,fW,fT,fV,fU,cD,dI,eC,cS,b8,Option.bind_some,Value.cells_agg,cV,cB,dB,dL,dG,dJ,dK,aT,aU,aY,aX,aW,aV,bO,bJ,cE,cX,cF,eP,iO,fH,cW,eE,cT,cU,cG,bX,bR,fL,eD,dM,cI,bZ,bY,T.get_upd_same,T.get_upd_ne,bE,bP,tl,ts,if_pos,Nat.zero_add,Nat.mul_one,Nat.add_zero,Int.toNat_natCast,↓reduceIte,Nat.reduceLeDiff,Nat.reduceAdd,Nat.le_refl,bA,gp,ga,aDO,aDH,aI1]<;>rfl) ?_|refine aD ?_|refine aE ?_|with_reducible refine aG ?_|with_reducible refine aF ?_|with_reducible refine aK ?_|with_reducible refine aH ?_|with_reducible refine aJ ?_|with_reducible refine aI ?_|with_reducible refine aL ?_|refine aC ?_))
 refine ⟨h,Sub.refl _,?_⟩
 have e:(now:Int) - (put.getD ((first+i) % n) 0:Nat)+1=(x:Nat):=by omega
 rw [e]
 exact hK _ (by omega)
def aCr (n:Nat) (L:List Nat):List Nat:=if n≤L.getD 0 0 then (L.map (·+1)).tail else L.map (·+1)
theorem aLD {L:List Nat} {i:Nat} (hi:i < L.length):(L.map (·+1)).getD i 0=L.getD i 0+1:=by
 simp [List.getD,hi]
theorem aJY {L:List Nat} {i:Nat} (hi:i+1 < L.length):(L.map (·+1)).tail.getD i 0=L.getD (i+1) 0+1:=by
 simp [List.getD,hi]
theorem aKL {L:List Nat} (hp:L.Pairwise (fun x y=>y < x)):(L.map (·+1)).Pairwise (fun x y=>y < x):=by
 rw [List.pairwise_map]
 exact hp.imp fun h=>by omega
theorem aLC {L:List Nat} {x:Nat} (hp:L.Pairwise (fun x y=>y < x)) (hx:x∈L):x≤L.getD 0 0:=by
 cases L with
 | nil=>cases hx
 | cons y r =>
  rw [List.pairwise_cons] at hp
  rcases List.mem_cons.1 hx with rfl | h
  ·exact Nat.le_refl _
  ·exact Nat.le_of_lt (hp.1 x h)
theorem aMU {L:List Nat} {n:Nat} (hp:L.Pairwise (fun x y=>y < x)) (hb:∀ x∈L,1≤x∧x≤n):∀ x∈aCr n L,1≤x∧x≤n:=fun x hx=>by
 unfold aCr at hx
 by_cases h:n≤L.getD 0 0
 ·rw [if_pos h] at hx
  cases L with
  | nil=>cases hx
  | cons y r =>
   rw [List.map_cons,List.tail_cons,List.mem_map] at hx
   obtain ⟨z,hz,rfl⟩:=hx
   rw [List.pairwise_cons] at hp
   have h1:=hp.1 z hz
   have h2:=hb y (List.mem_cons_self ..)
   omega
 ·rw [if_neg h,List.mem_map] at hx
  obtain ⟨z,hz,rfl⟩:=hx
  have:=aLC hp hz
  omega
theorem aKX {L:List Nat} {n:Nat} (hp:L.Pairwise (fun x y=>y < x)):(aCr n L).Pairwise (fun x y=>y < x):=by
 unfold aCr
 by_cases h:n≤L.getD 0 0
 ·rw [if_pos h]; exact (aKL hp).sublist (List.tail_sublist _)
 ·rw [if_neg h]; exact aKL hp
theorem aMj {f i n:Nat}:((f+1) % n+i) % n=(f+(i+1)) % n:=by
 rw [Nat.add_mod,Nat.mod_mod,← Nat.add_mod]; congr 1; omega
set_option maxRecDepth 4000 in
theorem aE1 {ro:Ro} {h:T Obj} {p a n w nx:Nat} {L:List Nat} {K:KV} (hR:RI h p a n L w) (hw:w+1≤1000000) (hK:∀ h' nx',nx≤nx'→RI h' p a n (aCr n L) (w+1)→rM h h' p a→K (.tuple #[]) h' nx'):aN Tryz.prog ro mK [ptr p] h nx K:=by
 have hln:=hR.len
 obtain ⟨put,first,now,gp,ga,hne,hpl,b1,b2,b3,b4,b5,hrel,hpw,hb⟩:=hR
 apply aCK
 unfold tZ
 (repeat(first|refine aB (by simp (disch:=first|omega|exact nnN _|assumption) only [decide_true,decide_false,Bool.not_true,Bool.not_false,d7,cZ,cY,bS,cC,bW,fW,fT,fV,fU,cD,dI,eC,cS,b8,Option.bind_some,Value.cells_agg,cV,cB,dB,dL,dG,dJ,dK,aT,aU,aY,aX,aW,aV,bO,bJ,cE,cX,cF,eP,iO,fH,cW,eE,cT,cU,cG,bX,bR,fL,eD,dM,cI,bZ,bY,T.get_upd_same,T.get_upd_ne,bE,bP,tl,ts,if_pos,Nat.zero_add,Nat.mul_one,Nat.add_zero,Int.toNat_natCast,↓reduceIte,Nat.reduceLeDiff,Nat.reduceAdd,Nat.le_refl,pQ,bA,gp,ga]<;>rfl) ?_|refine aD ?_|refine aE ?_|with_reducible refine aG ?_|with_reducible refine aF ?_|with_reducible refine aK ?_|with_reducible refine aH ?_|with_reducible refine aJ ?_|with_reducible refine aI ?_|with_reducible refine aL ?_|refine aC ?_))
 have gp1:((h.upd p (some (.cells (over (lG a n first L.length now w).toArray.toList 4 [.int .i64 ((w:Int)+1)]).toArray bL))).upd p (some (.cells (over (over (lG a n first L.length now w).toArray.toList 4 [.int .i64 ((w:Int)+1)]).toArray.toList 3 [.int .i64 ((now:Int)+1)]).toArray bL))).get p=some (.cells (lG a n first L.length (now+1) (w+1)).toArray bL):=by
  rw [T.get_upd_same]; rfl
 have ga1:((h.upd p (some (.cells (over (lG a n first L.length now w).toArray.toList 4 [.int .i64 ((w:Int)+1)]).toArray bL))).upd p (some (.cells (over (over (lG a n first L.length now w).toArray.toList 4 [.int .i64 ((w:Int)+1)]).toArray.toList 3 [.int .i64 ((now:Int)+1)]).toArray bL))).get a=some (.cells (o5 put).toArray dW):=by rw [T.get_upd_ne _ _ (Ne.symm hne),T.get_upd_ne _ _ (Ne.symm hne)]; exact ga
 have ho1:rM h ((h.upd p (some (.cells (over (lG a n first L.length now w).toArray.toList 4 [.int .i64 ((w:Int)+1)]).toArray bL))).upd p (some (.cells (over (over (lG a n first L.length now w).toArray.toList 4 [.int .i64 ((w:Int)+1)]).toArray.toList 3 [.int .i64 ((now:Int)+1)]).toArray bL))) p a:=fun k k1 k2=>by rw [T.get_upd_ne _ _ k1,T.get_upd_ne _ _ k1]
 generalize ((h.upd p (some (.cells (over (lG a n first L.length now w).toArray.toList 4 [.int .i64 ((w:Int)+1)]).toArray bL))).upd p (some (.cells (over (over (lG a n first L.length now w).toArray.toList 4 [.int .i64 ((w:Int)+1)]).toArray.toList 3 [.int .i64 ((now:Int)+1)]).toArray bL)))=h1 at gp1 ga1 ho1
 rcases Nat.eq_zero_or_pos L.length with hm | hm
 ·have d:decide ((0:Int) < (L.length:Int))=false:=decide_eq_false (by omega)
  rw [d]
  (repeat(first|refine aB (by simp (disch:=first|omega|exact nnN _|assumption) only [decide_true,decide_false,Bool.not_true,Bool.not_false,d7,cZ,cY,bS,cC,bW,fW,fT,fV,fU,cD,dI,eC,cS,b8,Option.bind_some,Value.cells_agg,cV,cB,dB,dL,dG,dJ,dK,aT,aU,aY,aX,aW,aV,bO,bJ,cE,cX,cF,eP,iO,fH,cW,eE,cT,cU,cG,bX,bR,fL,eD,dM,cI,bZ,bY,T.get_upd_same,T.get_upd_ne,bE,bP,tl,ts,if_pos,Nat.zero_add,Nat.mul_one,Nat.add_zero,Int.toNat_natCast,↓reduceIte,Nat.reduceLeDiff,Nat.reduceAdd,Nat.le_refl]<;>rfl) ?_|refine aD ?_|refine aE ?_|with_reducible refine aG ?_|with_reducible refine aF ?_|with_reducible refine aK ?_|with_reducible refine aH ?_|with_reducible refine aJ ?_|with_reducible refine aI ?_|with_reducible refine aL ?_|refine aC ?_))
  refine ⟨_,Sub.refl _,hK _ _ (by omega) ?_ ho1⟩
  have hL:L=[]:=List.length_eq_zero_iff.1 hm
  subst hL
  have hi:aCr n []=[]:=by unfold aCr; rw [if_neg (show ¬ n≤([]:List Nat).getD 0 0 by simp; omega)]; rfl
  rw [hi]
  exact ⟨put,first,now+1,gp1,ga1,hne,hpl,b1,b2,b3,by omega,hw,fun i hi=>(by cases hi),List.Pairwise.nil,fun x hx=>(by cases hx)⟩
 ·have d:decide ((0:Int) < (L.length:Int))=true:=decide_eq_true (by omega)
  rw [d]
  (repeat(first|refine aB (by simp (disch:=first|omega|exact nnN _|assumption) only [decide_true,decide_false,Bool.not_true,Bool.not_false,d7,cZ,cY,bS,cC,bW,fW,fT,fV,fU,cD,dI,eC,cS,b8,Option.bind_some,Value.cells_agg,cV,cB,dB,dL,dG,dJ,dK,aT,aU,aY,aX,aW,aV,bO,bJ,cE,cX,cF,eP,iO,fH,cW,eE,cT,cU,cG,bX,bR,fL,eD,dM,cI,bZ,bY,T.get_upd_same,T.get_upd_ne,bE,bP,tl,ts,if_pos,Nat.zero_add,Nat.mul_one,Nat.add_zero,Int.toNat_natCast,↓reduceIte,Nat.reduceLeDiff,Nat.reduceAdd,Nat.le_refl]<;>rfl) ?_|refine aD ?_|refine aE ?_|with_reducible refine aG ?_|with_reducible refine aF ?_|with_reducible refine aK ?_|with_reducible refine aH ?_|with_reducible refine aJ ?_|with_reducible refine aI ?_|with_reducible refine aL ?_|refine aC ?_))
  refine aHF (i:=0) (x:=L.getD 0 0+1) gp1 ga1 hpl b1 b2 b3 (by omega) (by omega) (by have:=hrel 0 hm; omega) fun n4 hn4=>?_
  (repeat(first|refine aB (by simp (disch:=first|omega|exact nnN _|assumption) only [decide_true,decide_false,Bool.not_true,Bool.not_false,d7,cZ,cY,bS,cC,bW,fW,fT,fV,fU,cD,dI,eC,cS,b8,Option.bind_some,Value.cells_agg,cV,cB,dB,dL,dG,dJ,dK,aT,aU,aY,aX,aW,aV,bO,bJ,cE,cX,cF,eP,iO,fH,cW,eE,cT,cU,cG,bX,bR,fL,eD,dM,cI,bZ,bY,T.get_upd_same,T.get_upd_ne,bE,bP,tl,ts,if_pos,Nat.zero_add,Nat.mul_one,Nat.add_zero,Int.toNat_natCast,↓reduceIte,Nat.reduceLeDiff,Nat.reduceAdd,Nat.le_refl,bA,gp1]<;>rfl) ?_|refine aD ?_|refine aE ?_|with_reducible refine aG ?_|with_reducible refine aF ?_|with_reducible refine aK ?_|with_reducible refine aH ?_|with_reducible refine aJ ?_|with_reducible refine aI ?_|with_reducible refine aL ?_|refine aC ?_))
  refine ⟨fun _=>fK gp1 gp1,?_⟩
  (repeat(first|refine aB (by simp (disch:=first|omega|exact nnN _|assumption) only [decide_true,decide_false,Bool.not_true,Bool.not_false,d7,cZ,cY,bS,cC,bW,fW,fT,fV,fU,cD,dI,eC,cS,b8,Option.bind_some,Value.cells_agg,cV,cB,dB,dL,dG,dJ,dK,aT,aU,aY,aX,aW,aV,bO,bJ,cE,cX,cF,eP,iO,fH,cW,eE,cT,cU,cG,bX,bR,fL,eD,dM,cI,bZ,bY,T.get_upd_same,T.get_upd_ne,bE,bP,tl,ts,if_pos,Nat.zero_add,Nat.mul_one,Nat.add_zero,Int.toNat_natCast,↓reduceIte,Nat.reduceLeDiff,Nat.reduceAdd,Nat.le_refl]<;>rfl) ?_|refine aD ?_|refine aE ?_|with_reducible refine aG ?_|with_reducible refine aF ?_|with_reducible refine aK ?_|with_reducible refine aH ?_|with_reducible refine aJ ?_|with_reducible refine aI ?_|with_reducible refine aL ?_|refine aC ?_))
  by_cases hx:n≤L.getD 0 0
  ·rw [decide_eq_true (show (n:Int) < ((L.getD 0 0+1:Nat):Int) by omega)]
   have hmod:((first:Int)+1) % (n:Int)=(((first+1) % n:Nat):Int):=aDO first 1 n
   have hml:(first+1) % n < n:=Nat.mod_lt _ (by omega)
   (repeat(first|refine aB (by simp (disch:=first|omega|exact nnN _|assumption) only [decide_true,decide_false,Bool.not_true,Bool.not_false,d7,cZ,cY,bS,cC,bW,fW,fT,fV,fU,cD,dI,eC,cS,b8,Option.bind_some,Value.cells_agg,cV,cB,dB,dL,dG,dJ,dK,aT,aU,aY,aX,aW,aV,bO,bJ,cE,cX,cF,eP,iO,fH,cW,eE,cT,cU,cG,bX,bR,fL,eD,dM,cI,bZ,bY,T.get_upd_same,T.get_upd_ne,bE,bP,tl,ts,if_pos,Nat.zero_add,Nat.mul_one,Nat.add_zero,Int.toNat_natCast,↓reduceIte,Nat.reduceLeDiff,Nat.reduceAdd,Nat.le_refl,bA,gp1,hmod]<;>rfl) ?_|refine aD ?_|refine aE ?_|with_reducible refine aG ?_|with_reducible refine aF ?_|with_reducible refine aK ?_|with_reducible refine aH ?_|with_reducible refine aJ ?_|with_reducible refine aI ?_|with_reducible refine aL ?_|refine aC ?_))
   refine ⟨_,Sub.refl _,hK _ _ (by omega) ?_ ?_⟩
   ·have hi:aCr n L=(L.map (·+1)).tail:=if_pos hx
    have hlen:(aCr n L).length=L.length - 1:=by rw [hi]; simp
    refine ⟨put,(first+1) % n,now+1,?_,?_,hne,hpl,b1,b2,hml,by omega,hw,?_,aKX hpw,aMU hpw hb⟩
    ·rw [T.get_upd_same,hlen]
     have e:(L.length:Int) - 1=((L.length - 1:Nat):Int):=by omega
     rw [e]; rfl
    ·rw [T.get_upd_ne _ _ (Ne.symm hne),T.get_upd_ne _ _ (Ne.symm hne)]; exact ga1
    ·intro i hil
     rw [hlen] at hil
     rw [hi,aJY (by omega),aMj]
     have:=hrel (i+1) (by omega)
     omega
   ·exact fun k k1 k2=>by rw [T.get_upd_ne _ _ k1,T.get_upd_ne _ _ k1]; exact ho1 k k1 k2
  ·rw [decide_eq_false (show ¬ (n:Int) < ((L.getD 0 0+1:Nat):Int) by omega)]
   (repeat(first|refine aB (by simp (disch:=first|omega|exact nnN _|assumption) only [decide_true,decide_false,Bool.not_true,Bool.not_false,d7,cZ,cY,bS,cC,bW,fW,fT,fV,fU,cD,dI,eC,cS,b8,Option.bind_some,Value.cells_agg,cV,cB,dB,dL,dG,dJ,dK,aT,aU,aY,aX,aW,aV,bO,bJ,cE,cX,cF,eP,iO,fH,cW,eE,cT,cU,cG,bX,bR,fL,eD,dM,cI,bZ,bY,T.get_upd_same,T.get_upd_ne,bE,bP,tl,ts,if_pos,Nat.zero_add,Nat.mul_one,Nat.add_zero,Int.toNat_natCast,↓reduceIte,Nat.reduceLeDiff,Nat.reduceAdd,Nat.le_refl]<;>rfl) ?_|refine aD ?_|refine aE ?_|with_reducible refine aG ?_|with_reducible refine aF ?_|with_reducible refine aK ?_|with_reducible refine aH ?_|with_reducible refine aJ ?_|with_reducible refine aI ?_|with_reducible refine aL ?_|refine aC ?_))
   refine ⟨_,Sub.refl _,hK _ _ (by omega) ?_ ho1⟩
   have hi:aCr n L=L.map (·+1):=if_neg hx
   have hlen:(aCr n L).length=L.length:=by rw [hi]; simp
   refine ⟨put,first,now+1,by rw [hlen]; exact gp1,ga1,hne,hpl,b1,b2,b3,by omega,hw,?_,aKX hpw,aMU hpw hb⟩
   intro i hil
   rw [hlen] at hil
   rw [hi,aLD hil]
   have:=hrel i hil
   omega
set_option maxRecDepth 4000 in
theorem vX {ro:Ro} {h:T Obj} {p a n w nx:Nat} {L:List Nat} {K:KV} (hR:RI h p a n L w) (hw:w+1≤1000000) (hK:∀ h' nx',nx≤nx'→RI h' p a n [] (w+1)→rM h h' p a→K (.tuple #[]) h' nx'):aN Tryz.prog ro iX [ptr p] h nx K:=by
 obtain ⟨put,first,now,gp,ga,hne,hpl,b1,b2,b3,b4,b5,hrel,hpw,hb⟩:=hR
 apply aAv
 unfold qF
 (repeat(first|refine aB (by simp (disch:=first|omega|exact nnN _|assumption) only [decide_true,decide_false,Bool.not_true,Bool.not_false,d7,cZ,cY,bS,cC,bW,fW,fT,fV,fU,cD,dI,eC,cS,b8,Option.bind_some,Value.cells_agg,cV,cB,dB,dL,dG,dJ,dK,aT,aU,aY,aX,aW,aV,bO,bJ,cE,cX,cF,eP,iO,fH,cW,eE,cT,cU,cG,bX,bR,fL,eD,dM,cI,bZ,bY,T.get_upd_same,T.get_upd_ne,bE,bP,tl,ts,if_pos,Nat.zero_add,Nat.mul_one,Nat.add_zero,Int.toNat_natCast,↓reduceIte,Nat.reduceLeDiff,Nat.reduceAdd,Nat.le_refl,aI0,bA,gp,ga]<;>rfl) ?_|refine aD ?_|refine aE ?_|with_reducible refine aG ?_|with_reducible refine aF ?_|with_reducible refine aK ?_|with_reducible refine aH ?_|with_reducible refine aJ ?_|with_reducible refine aI ?_|with_reducible refine aL ?_|refine aC ?_))
 refine ⟨_,Sub.refl _,hK _ _ (by omega) ?_ ?_⟩
 ·refine ⟨put,0,now,?_,?_,hne,hpl,b1,b2,by omega,by omega,hw,fun i hi=>(by cases hi),List.Pairwise.nil,fun x hx=>(by cases hx)⟩
  ·rw [T.get_upd_same]; rfl
  ·rw [T.get_upd_ne _ _ (Ne.symm hne),T.get_upd_ne _ _ (Ne.symm hne),T.get_upd_ne _ _ (Ne.symm hne)]; exact ga
 ·exact fun k k1 k2=>by rw [T.get_upd_ne _ _ k1,T.get_upd_ne _ _ k1,T.get_upd_ne _ _ k1]
theorem aEs:∀ n:Nat,wF [.int .i64 0] n=o5 (List.replicate n 0)
 | 0=>rfl
 | n+1=>by
  have:=aEs n
  simp only [wF,this,o5,List.replicate_succ,List.map_cons]; rfl
theorem aMf {aid n:Nat} (h0:1≤n) (h1:n≤1000000):aDw Tryz.prog iL aid (.int .i64 (n:Int)) (.int .i64 (n:Int))=some (.slice (some (own aid 1)) n n,some (.cells (o5 (List.replicate n 0)).toArray dW)):=by
 obtain ⟨i,g1,g2,g3⟩:=aO2
 have hb:Nat.ble (n*8) big=true:=Nat.ble_eq_true_of_le (by unfold big; omega)
 have e1:decide ((0:Int)≤(n:Int))=true:=by simp
 have e2:decide ((n:Int)≤(n:Int))=true:=by simp
 have e3:decide ((n:Int)≤70368744177664)=true:=by simp; omega
 have hz:aJA Tryz.prog dW n=some (o5 (List.replicate n 0)):=by
  obtain ⟨m,rfl⟩:∃ m,n=m+1:=⟨n - 1,by omega⟩
  have hs:siz Tryz.prog dW=some 1:=by kernel_rfl
  unfold aJA
  simp only [aOf,hs,Option.bind_some]
  have h3:Nat.beq (Value.cells (.int .i64 0)).size 1=true:=rfl
  have h4:Nat.blt 0 1=true:=rfl
  rw [h3,h4]
  simp only
  rw [← aEs]; rfl
 unfold aDw
 simp only [aNW,e1,e2,g1,Option.bind_some,g3,Int.toNat_natCast,hb,e3,hz,g2]
theorem aHY (a n:Nat):eX Tryz.prog bL [(0,.slice (some (own a 1)) n n)]=some (.agg (lG a n 0 0 0 0).toArray):=by kernel_rfl
set_option maxRecDepth 4000 in
theorem aJl {ro:Ro} {h:T Obj} {n nx:Nat} {K:KV} (hf:Fr h nx) (h1:1≤n) (h2:n≤4096) (hK:∀ p a h' nx',nx≤p→nx≤a→nx≤nx'→Sub h h'→Fr h' nx'→RI h' p a n [] 0→K (.tuple #[ptr p,.int .i64 0]) h' nx'):aN Tryz.prog ro aAj [.int .i64 (n:Int)] h nx K:=by
 apply aIf
 unfold aE2
 (repeat(first|refine aB (by simp (disch:=first|omega|exact nnN _|assumption) only [decide_true,decide_false,Bool.not_true,Bool.not_false,d7,cZ,cY,bS,cC,bW,fW,fT,fV,fU,cD,dI,eC,cS,b8,Option.bind_some,Value.cells_agg,cV,cB,dB,dL,dG,dJ,dK,aT,aU,aY,aX,aW,aV,bO,bJ,cE,cX,cF,eP,iO,fH,cW,eE,cT,cU,cG,bX,bR,fL,eD,dM,cI,bZ,bY,T.get_upd_same,T.get_upd_ne,bE,bP,tl,ts,if_pos,Nat.zero_add,Nat.mul_one,Nat.add_zero,Int.toNat_natCast,↓reduceIte,Nat.reduceLeDiff,Nat.reduceAdd,Nat.le_refl]<;>rfl) ?_|refine aD ?_|refine aE ?_|with_reducible refine aG ?_|with_reducible refine aF ?_|with_reducible refine aK ?_|with_reducible refine aH ?_|with_reducible refine aJ ?_|with_reducible refine aI ?_|with_reducible refine aL ?_|refine aC ?_))
 rw [decide_eq_false (show ¬ (n:Int) < 1 by omega)]
 (repeat(first|refine aB (by simp (disch:=first|omega|exact nnN _|assumption) only [decide_true,decide_false,Bool.not_true,Bool.not_false,d7,cZ,cY,bS,cC,bW,fW,fT,fV,fU,cD,dI,eC,cS,b8,Option.bind_some,Value.cells_agg,cV,cB,dB,dL,dG,dJ,dK,aT,aU,aY,aX,aW,aV,bO,bJ,cE,cX,cF,eP,iO,fH,cW,eE,cT,cU,cG,bX,bR,fL,eD,dM,cI,bZ,bY,T.get_upd_same,T.get_upd_ne,bE,bP,tl,ts,if_pos,Nat.zero_add,Nat.mul_one,Nat.add_zero,Int.toNat_natCast,↓reduceIte,Nat.reduceLeDiff,Nat.reduceAdd,Nat.le_refl]<;>rfl) ?_|refine aD ?_|refine aE ?_|with_reducible refine aG ?_|with_reducible refine aF ?_|with_reducible refine aK ?_|with_reducible refine aH ?_|with_reducible refine aJ ?_|with_reducible refine aI ?_|with_reducible refine aL ?_|refine aC ?_))
 rw [decide_eq_false (show ¬ (4096:Int) < (n:Int) by omega)]
 (repeat(first|refine aB (by simp (disch:=first|omega|exact nnN _|assumption) only [decide_true,decide_false,Bool.not_true,Bool.not_false,d7,cZ,cY,bS,cC,bW,fW,fT,fV,fU,cD,dI,eC,cS,b8,Option.bind_some,Value.cells_agg,cV,cB,dB,dL,dG,dJ,dK,aT,aU,aY,aX,aW,aV,bO,bJ,cE,cX,cF,eP,iO,fH,cW,eE,cT,cU,cG,bX,bR,fL,eD,dM,cI,bZ,bY,T.get_upd_same,T.get_upd_ne,bE,bP,tl,ts,if_pos,Nat.zero_add,Nat.mul_one,Nat.add_zero,Int.toNat_natCast,↓reduceIte,Nat.reduceLeDiff,Nat.reduceAdd,Nat.le_refl]<;>rfl) ?_|refine aD ?_|refine aE ?_|with_reducible refine aG ?_|with_reducible refine aF ?_|with_reducible refine aK ?_|with_reducible refine aH ?_|with_reducible refine aJ ?_|with_reducible refine aI ?_|with_reducible refine aL ?_|refine aC ?_))
 refine aB (aMf h1 (by omega)) (aE ?_)
 refine aB (aHY _ _) (aD ?_)
 refine ⟨_,Sub.refl _,hK _ (nx+6+1+2) _ _ (by omega) (by omega) (by omega) (((Sub.refl h).new hf (by omega)).new hf (by omega)) ((hf.upd (m:=nx+6+1+7) (by omega) (by omega)).upd (Nat.le_refl _) (by omega)) ?_⟩
 exact ⟨List.replicate n 0,0,0,by rw [T.get_upd_same]; rfl,by rw [T.get_upd_ne _ _ (by omega),T.get_upd_same],by omega,List.length_replicate,h1,h2,by omega,Nat.le_refl _,by omega,fun i hi=>(by cases hi),List.Pairwise.nil,fun x hx=>(by cases hx)⟩
theorem Sub.e (h:T Obj):Sub .e h:=fun k o e=>by cases e
theorem RI.only {h h':T Obj} {p a p2 a2 n w:Nat} {L:List Nat} (hR:RI h p a n L w) (ho:rM h h' p2 a2) (h1:p≠p2) (h2:p≠a2) (h3:a≠p2) (h4:a≠a2):RI h' p a n L w:=by
 obtain ⟨put,first,now,gp,ga,hr⟩:=hR
 exact ⟨put,first,now,by rw [ho _ h1 h2]; exact gp,by rw [ho _ h3 h4]; exact ga,hr⟩
theorem RI.lt {h:T Obj} {p a n w nx:Nat} {L:List Nat} (hR:RI h p a n L w) (hf:Fr h nx):p < nx∧a < nx:=by
 obtain ⟨put,first,now,gp,ga,hr⟩:=hR
 exact ⟨hf.lt gp,hf.lt ga⟩
theorem rM.sub {h0 h h':T Obj} {p a n0:Nat} (ho:rM h h' p a) (hs:Sub h0 h) (hf:Fr h0 n0) (hp:n0≤p) (ha:n0≤a):Sub h0 h':=fun k o e=>by
 have:=hf.lt e
 rw [ho k (by omega) (by omega)]; exact hs k o e
def aNn (L:List Nat):Nat:=if L.length=0 then 0 else L.getD 0 0
theorem aPH (L:List Nat):nth 0 (aBr L)=some (.int .i64 (aNn L:Nat)):=by
 unfold aBr aNn
 by_cases h:L.length=0
 ·rw [if_pos h,if_pos h]; rfl
 ·rw [if_neg h,if_neg h]; rfl
theorem aPI (L:List Nat):nth 1 (aBr L)=some (.bool (!decide (L.length=0))):=by
 unfold aBr
 by_cases h:L.length=0
 ·rw [if_pos h,decide_eq_true h]; rfl
 ·rw [if_neg h,decide_eq_false h]; rfl
section
attribute [local irreducible] aA ifP aS cM eQ exP cO
def isC (n:Nat) (L:List Nat):List Value:=(List.range (n+1)).map fun i=>.bool (decide (i∈L))
def WI (h:T Obj) (p a n:Nat) (L:List Nat) (w:Nat):Prop:=h.get p=some (.cells #[.slice (some (V.own a 1)) (n+1) (n+1),.int .i64 w] j9)∧h.get a=some (.cells (isC n L).toArray aEp)∧p≠a∧1≤n∧n≤4096∧w≤1000000
end
theorem WI.sub {h h':T Obj} {p a n w:Nat} {L:List Nat} (hW:WI h p a n L w) (hs:Sub h h'):WI h' p a n L w:=⟨hs _ _ hW.1,hs _ _ hW.2.1,hW.2.2⟩
theorem jN {h:T Obj} {i j:Nat} {c d:Array Value} {e f:TypeId} (hi:h.get i=some (.cells c e)) (hj:h.get j=some (.cells d f)) (hef:e≠f):i≠j:=fun e9=>by
 subst e9; rw [hi] at hj; cases hj; exact hef rfl
def low (L:List Nat):Nat:=if L.length=0 then 0 else L.getD (L.length - 1) 0
theorem aPT (L:List Nat):nth 0 (aCA L)=some (.int .i64 (low L:Nat)):=by
 unfold aCA low
 by_cases h:L.length=0
 ·rw [if_pos h,if_pos h]; rfl
 ·rw [if_neg h,if_neg h]; rfl
theorem aPU (L:List Nat):nth 1 (aCA L)=some (.bool (!decide (L.length=0))):=by
 unfold aCA
 by_cases h:L.length=0
 ·rw [if_pos h,decide_eq_true h]; rfl
 ·rw [if_neg h,decide_eq_false h]; rfl
theorem RI.in {h:T Obj} {p a n w:Nat} {L:List Nat} (hR:RI h p a n L w):L.Pairwise (fun x y=>y < x)∧(∀ x∈L,1≤x∧x≤n)∧1≤n∧n≤4096:=by
 obtain ⟨put,first,now,gp,ga,hne,hpl,b1,b2,b3,b4,b5,hrel,hpw,hb⟩:=hR
 exact ⟨hpw,hb,b1,b2⟩
end V
end Go.Proofs.YtcaccnneblghgaaGreat
namespace Go.Proofs.YtcaccnneblghgaaGreat
namespace V
attribute [local irreducible] aA ifP aS cM eQ exP cO
abbrev RgD:=List Nat × Nat
def noR:RgD:=([],0)
def aGV (r:RgD):RgD:=([],r.2+1)
def aPc (r:RgD):RgD:=(aON r.1,r.2+1)
def aPJ (n:Nat) (r:RgD):RgD:=(aCr n r.1,r.2+1)
def aHE (n o:Nat) (r:RgD):RgD:=if o=3 then aPc (aGV r) else if o=2 then aPc (aPJ n r) else aPJ n r
structure MacD where
 cur:Int
 rs:List RgD
 steps:Nat
def oS (C:List (Int × Int)) (c:Int):Int × Int:=C.getD c.toNat (0,0)
def qZ (rs:List RgD) (c:Int):RgD:=rs.getD c.toNat noR
def aJS (C:List (Int × Int)) (rs:List RgD) (c:Int):Nat :=
 if (qZ rs c).1.length=0 then 0 else if (((qZ rs c).1.getD 0 0:Nat):Int) < (oS C c).1 then 0 else if (((qZ rs c).1.getD ((qZ rs c).1.length - 1) 0:Nat):Int) < (oS C c).2 then 2 else 1
def hN (C:List (Int × Int)) (rs:List RgD):List Int→Nat
 | []=>0
 | c::r=>aJS C rs c+3*hN C rs r
def aP2:MoveD:=⟨-1,[]⟩
def f8 (d:AutoD) (m:MacD):StateD:=d.states.getD m.cur.toNat noS
def qL (d:AutoD) (m:MacD):Int:=if m.cur=-1 then -1 else (f8 d m).rule.getD (hN d.counts m.rs (f8 d m).r) 0
def pM (d:AutoD) (m:MacD) (b:Nat):MoveD:=((f8 d m).next.getD (hN d.counts m.rs (f8 d m).r) []).getD (d.c.getD b 0) aP2
def pO (d:AutoD) (t:Int):List Int:=if t=-1 then [] else (d.states.getD t.toNat noS).r
def wG (nx:List Int):List Int→List RgD→List RgD
 | [],rs=>rs
 | c::r,rs=>wG nx r (if nx.contains c then rs else rs.set c.toNat (aGV (qZ rs c)))
def x8 (C:List (Int × Int)):List Int→List Nat→List RgD→List RgD
 | c::r,o::os,rs=>x8 C r os (rs.set c.toNat (aHE (oS C c).2.toNat o (qZ rs c)))
 | _,_,rs=>rs
def onM (d:AutoD) (m:MacD) (b:Nat):Bool:=!decide (m.cur=-1)&&!decide ((pM d m b).to=-1)
def lU (d:AutoD) (m:MacD) (b:Nat):MacD :=
 if m.cur=-1 then m else ⟨(pM d m b).to,x8 d.counts (pO d (pM d m b).to) (pM d m b).ops (wG (pO d (pM d m b).to) (f8 d m).r m.rs),m.steps+1+(f8 d m).r.length⟩
def pS (r:RgD):RgD:=if r.1.length=0 then r else aGV r
def aE0 (m:MacD):MacD:=⟨0,m.rs.map pS,m.steps⟩
def aDy (d:AutoD):MacD:=⟨0,d.counts.map fun _=>noR,0⟩
def MOk (d:AutoD) (m:MacD):Prop:=(m.cur=-1∨0≤m.cur∧m.cur < d.states.length)∧m.rs.length=d.counts.length
theorem fN {d:AutoD} (h:eW d=true):oD d.c d.many=true∧d.counts.length≤512∧1≤d.states.length∧d.states.length≤256∧(∀ c∈d.counts,1≤c.1∧c.1≤c.2∧2≤c.2∧c.2≤4096)∧∀ s∈d.states,gJ d.states d.many d.counts.length s=true:=by
 unfold eW at h
 simp only [Bool.and_eq_true,decide_eq_true_eq] at h
 obtain ⟨h1,h2,h3,h4,h5,h6,h7⟩:=h
 refine ⟨h1,h2,h3,h4,fun c hc=>?_,fun s hs=>List.all_eq_true.1 h7 s hs⟩
 have:=List.all_eq_true.1 h6 c hc
 unfold mJ at this
 simp only [Bool.and_eq_true,decide_eq_true_eq] at this
 exact this
theorem p9 {S:List StateD} {n:Int} {cn:Nat} {s:StateD} (h:gJ S n cn s=true):s.r.length≤3∧(s.rule.length:Int)=jJ s.r.length∧(s.next.length:Int)=jJ s.r.length∧(∀ c∈s.r,0≤c∧c < cn)∧oF S s.r n s.rule s.next=true:=by
 have h3:=(aGE h).2
 unfold gJ at h
 simp only [Bool.and_eq_true,decide_eq_true_eq] at h
 obtain ⟨h1,h2,h4,h5,h6,h7⟩:=h
 refine ⟨h3,h2,h4,fun c hc=>?_,h7⟩
 have:=aJn h6 c hc
 omega
theorem aKM (C:List (Int × Int)) (rs:List RgD) (c:Int):aJS C rs c < 3:=by
 unfold aJS
 repeat' split
 all_goals omega
theorem aH7 (C:List (Int × Int)) (rs:List RgD):∀ r:List Int,hN C rs r < 3 ^ r.length
 | []=>by show 0 < 1; omega
 | c::r=>by
  have:=aH7 C rs r
  have:=aKM C rs c
  rw [List.length_cons,Nat.pow_succ]
  unfold hN
  omega
theorem aC2 {C:List (Int × Int)} {rs:List RgD} {r:List Int} (h:r.length≤3):(hN C rs r:Int) < jJ r.length:=by
 have h1:=aH7 C rs r
 generalize r.length=n at h h1
 match n,h with
 | 0,_=>have h2:hN C rs r < 1:=h1; show (hN C rs r:Int) < 1; omega
 | 1,_=>have h2:hN C rs r < 3:=h1; show (hN C rs r:Int) < 3; omega
 | 2,_=>have h2:hN C rs r < 9:=h1; show (hN C rs r:Int) < 9; omega
 | 3,_=>have h2:hN C rs r < 27:=h1; show (hN C rs r:Int) < 27; omega
theorem aHG {S:List StateD} {R:List Int} {n:Int}:∀ {us:List Int} {rows:List (List MoveD)},oF S R n us rows=true→us.length=rows.length→∀ (i:Nat) row u,rows[i]?=some row→us[i]?=some u→wM S R n u row=true
 | [],[],_,_,i,row,u,hr,hu=>by simp at hr
 | u::us,row::rows,h,hl,i,row',u',hr,hu=>by
  rw [pR,Bool.and_eq_true] at h
  cases i with
  | zero=>simp at hr hu; subst hr hu; exact h.1
  | succ i=>exact aHG h.2 (by simpa using hl) i row' u' (by simpa using hr) (by simpa using hu)
 | [],_::_,_,hl,_,_,_,_,_=>by simp at hl
 | _::_,[],_,hl,_,_,_,_,_=>by simp at hl
theorem aId {c:List Nat} {n:Int} (hc:c.length=256) (h:oD c n=true):∀ b,b < 256→((c.getD b 0:Nat):Int) < n:=by
 unfold oD at h
 split at h
 ·rename_i m hm
  simp only [decide_eq_true_eq] at h
  subst h
  have key:∀ i m,rt c i=some m→∀ b,b < i→c.getD b 0 < m:=by
   intro i
   induction i with
   | zero=>intro m _ b hb; omega
   | succ i ih =>
    intro m h b hb
    obtain ⟨k,h1,h2⟩:=aM h
    have:=ih k h1
    split at h2
    ·cases h2
    ·split at h2
     ·cases h2
      rcases Nat.lt_or_ge b i with h4 | h4
      ·have:=this b h4; omega
      ·have:b=i:=by omega
       subst this; omega
     ·cases h2
      rcases Nat.lt_or_ge b i with h4 | h4
      ·exact this b h4
      ·have:b=i:=by omega
       subst this; omega
  intro b hb
  exact_mod_cast key 256 m hm b hb
 ·cases h
structure StF (d:AutoD) (s:StateD) (k:Nat):Prop where
 r3:s.r.length≤3
 rl:∀ c∈s.r,0≤c∧c < d.counts.length
 kr:k < s.rule.length
 kn:k < s.next.length
 row:((s.next.getD k []).length:Int)=d.many
 mv:∀ m∈s.next.getD k [],gT d.states s.r m=true
 ru:-1≤s.rule.getD k 0∧s.rule.getD k 0 < 512
theorem aGD {d:AutoD} {m:MacD} (ha:eW d=true) (hm:MOk d m) (hc:m.cur≠-1):StF d (f8 d m) (hN d.counts m.rs (f8 d m).r):=by
 obtain ⟨h1,h2,h3,h4,h5,h6⟩:=fN ha
 have hcur:0≤m.cur∧m.cur < d.states.length:=by rcases hm.1 with h | h<;>omega
 have hi:m.cur.toNat < d.states.length:=by omega
 have hs:f8 d m=d.states[m.cur.toNat]:=by unfold f8; rw [List.getD_eq_getElem?_getD,List.getElem?_eq_getElem hi]; rfl
 have hk:=h6 _ (List.getElem_mem hi)
 rw [← hs] at hk
 generalize f8 d m=s at hk
 obtain ⟨k1,k2,k3,k4,k5⟩:=p9 hk
 have hlt:=aC2 (C:=d.counts) (rs:=m.rs) k1
 generalize hN d.counts m.rs s.r=k at hlt
 have kr:k < s.rule.length:=by omega
 have kn:k < s.next.length:=by omega
 have e1:s.next[k]?=some s.next[k]:=List.getElem?_eq_getElem kn
 have e2:s.rule[k]?=some s.rule[k]:=List.getElem?_eq_getElem kr
 have hro:=aHG k5 (by omega) k _ _ e1 e2
 unfold wM at hro
 simp only [Bool.and_eq_true,decide_eq_true_eq] at hro
 refine ⟨k1,k4,kr,kn,?_,?_,?_⟩
 ·rw [List.getD_eq_getElem?_getD,e1]; exact hro.2.2.1
 ·rw [List.getD_eq_getElem?_getD,e1]; exact fun m hm=>List.all_eq_true.1 hro.2.2.2 m hm
 ·rw [List.getD_eq_getElem?_getD,e2]; exact ⟨hro.1,hro.2.1⟩
theorem aGh {d:AutoD} {m:MacD} {b:Nat} (ha:eW d=true) (hm:MOk d m) (hc:m.cur≠-1) (hl:d.c.length=256) (hb:b < 256):d.c.getD b 0 < ((f8 d m).next.getD (hN d.counts m.rs (f8 d m).r) []).length∧gT d.states (f8 d m).r (pM d m b)=true:=by
 have hs:=aGD ha hm hc
 have h1:=aId hl (fN ha).1 b hb
 have h2:d.c.getD b 0 < ((f8 d m).next.getD (hN d.counts m.rs (f8 d m).r) []).length:=by have:=hs.row; omega
 refine ⟨h2,hs.mv _ ?_⟩
 unfold pM
 rw [List.getD_eq_getElem?_getD (a:=aP2),List.getElem?_eq_getElem h2]
 exact List.getElem_mem h2
theorem aAl {S:List StateD} {R:List Int} {m:MoveD} (h:gT S R m=true):(m.to=-1∧m.ops=[])∨(1≤m.to∧m.to < S.length∧m.ops.length=(S.getD m.to.toNat noS).r.length∧x9 R m.ops (S.getD m.to.toNat noS).r=true):=by
 unfold gT at h
 split at h
 ·rename_i ht
  exact .inl ⟨ht,List.length_eq_zero_iff.1 (by simpa using h)⟩
 ·simp only [Bool.and_eq_true,decide_eq_true_eq] at h
  exact .inr ⟨h.1,h.2.1,h.2.2.1,h.2.2.2⟩
theorem aFw {R:List Int}:∀ {os:List Nat} {rs:List Int},x9 R os rs=true→os.length=rs.length→∀ o∈os,1≤o∧o≤3
 | [],_,_,_,o,ho=>by cases ho
 | o::os,[],_,hl,_,_=>by simp at hl
 | o::os,r::rs,h,hl,x,hx=>by
  rw [aAm,Bool.and_eq_true] at h
  rcases List.mem_cons.1 hx with rfl | hx
  ·have:=h.1
   unfold aGo at this
   simp only [Bool.and_eq_true,decide_eq_true_eq] at this
   exact ⟨this.1,this.2.1⟩
  ·exact aFw h.2 (by simpa using hl) x hx
theorem aH4 (nx:List Int):∀ (r:List Int) (rs:List RgD),(wG nx r rs).length=rs.length
 | [],rs=>rfl
 | c::r,rs=>by
  unfold wG
  rw [aH4 nx r]
  split<;>simp
theorem aIT (C:List (Int × Int)):∀ (r:List Int) (os:List Nat) (rs:List RgD),(x8 C r os rs).length=rs.length
 | [],_,rs=>by simp [x8]
 | _::_,[],rs=>by simp [x8]
 | c::r,o::os,rs=>by
  unfold x8
  rw [aIT C r os]; simp
theorem aOX {d:AutoD} {m:MacD} {b:Nat} (ha:eW d=true) (hm:MOk d m) (hl:d.c.length=256) (hb:b < 256):MOk d (lU d m b):=by
 unfold lU
 by_cases hc:m.cur=-1
 ·rw [if_pos hc]; exact hm
 ·rw [if_neg hc]
  have h1:=aAl (aGh ha hm hc hl hb).2
  refine ⟨?_,?_⟩
  ·rcases h1 with ⟨h1,_⟩ | ⟨h1,h2,_⟩
   ·exact .inl h1
   ·exact .inr ⟨by show (0:Int)≤(pM d m b).to; omega,h2⟩
  ·show (x8 _ _ _ _).length=_
   rw [aIT,aH4]; exact hm.2
theorem aND {d:AutoD} {m:MacD} (ha:eW d=true) (hm:MOk d m):MOk d (aE0 m):=⟨.inr ⟨Int.le_refl _,by have:=(fN ha).2.2.1; show (0:Int) < _; omega⟩,by show (m.rs.map pS).length=_; rw [List.length_map]; exact hm.2⟩
theorem aPZ {d:AutoD} (ha:eW d=true):MOk d (aDy d):=⟨.inr ⟨Int.le_refl _,by have:=(fN ha).2.2.1; show (0:Int) < _; omega⟩,by show (d.counts.map _).length=_; rw [List.length_map]⟩
def WLe (B:Nat) (rs:List RgD):Prop:=∀ r∈rs,r.2≤B
theorem WLe.mono {B B':Nat} {rs:List RgD} (h:WLe B rs) (hb:B≤B'):WLe B' rs:=fun r hr=>Nat.le_trans (h r hr) hb
theorem WLe.set {B:Nat} {rs:List RgD} {i:Nat} {x:RgD} (h:WLe B rs) (hx:x.2≤B):WLe B (rs.set i x):=fun r hr=>by
 rcases List.mem_or_eq_of_mem_set hr with h1 | h1
 ·exact h r h1
 ·rw [h1]; exact hx
theorem WLe.at {B:Nat} {rs:List RgD} (h:WLe B rs) (c:Int):(qZ rs c).2≤B:=by
 unfold qZ
 rw [List.getD_eq_getElem?_getD]
 cases hq:rs[c.toNat]? with
 | none=>exact Nat.zero_le _
 | some r=>exact h r (List.mem_of_getElem? hq)
theorem aNE (n o:Nat) (r:RgD):(aHE n o r).2≤r.2+2:=by
 unfold aHE
 repeat' split
 all_goals simp [aPc,aGV,aPJ]
end V
end Go.Proofs.YtcaccnneblghgaaGreat