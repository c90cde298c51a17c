/- Texts laid one behind the other: XD, XE, XG, XH, SC, SE, GA, SN, SO, XI, XM, XU, SP, TO, XW, XX, XY, XZ, GS, SX, SY, SZ, SQ, SR, ST, SU.
   No condition. -/
import Derived.KernelRfl
import Derived.Test.YtcaccnneblghgaaGreatQ44
set_option linter.unusedVariables false
set_option linter.unusedSimpArgs false
namespace Go.Proofs.YtcaccnneblghgaaGreat
namespace V
attribute [local irreducible] aB ifP aR cS eQ exP cN
theorem qZ.parts {ro:Ro}{h:T Obj}{d:AutoD}{cv sv:Value} (hd:qZ ro h (d4 d.c d.many cv sv) d):d.c.length=256∧(∀ x∈d.c,x < 256)∧SlR ro h cv 2 vY d.counts∧SlR ro h sv 4 (eD ro h) d.states:=by
 obtain⟨cv',sv',h1,h2,h3,h4,h5,h6⟩:=hd
 unfold d4 at h1
 have:=List.append_cancel_left h1
 simp only[List.cons.injEq,and_true] at this
 obtain⟨rfl,rfl⟩:=this
 exact⟨h2,h3,h4,h5⟩
theorem Sl.ixI {ro:Ro}{h:T Obj}{v:Value}{z:Nat}{l:List (List Value)} (hl:Sl ro h v z l) (k:IntKind) {i:Int} (h0:0≤i) (hi:i < l.length):cO z v (.int k i)=some (jB z v i.toNat):=by
 have:=hl.ix k (i:=i.toNat) (by omega)
 rwa [Int.toNat_of_nonneg h0] at this
theorem SlR.sl' {D:Type}{ro:Ro}{h:T Obj}{v:Value}{z:Nat}{R:List Value→D→Prop}{l:List D} (hl:SlR ro h v z R l) {i:Nat} (hi:i < l.length) (n w:Nat) (k:IntKind) {j:Int} (h0:0≤j) (h1:j < n):ixArr n w (jB z v i) (.int k j)=some (pJ z v i (j.toNat*w)):=by
 obtain⟨cs,g1,g2,g3⟩:=hl
 exact g1.ixArr (by omega) n w k h0 h1
theorem yO {ps:List (Nat × Nat)}{i:Nat}{q:Nat × Nat} (hq:ps[i]?=some q):(mY ps)[i]?=some [ptr q.1]:=by simp[mY,hq]
theorem aDK {C:List (Int × Int)}{c:Int} (h0:0≤c) (h1:c < C.length):C[c.toNat]'(by omega)=nR C c:=by
 unfold nR
 rw[List.getD_eq_getElem?_getD,List.getElem?_eq_getElem (by omega)]; rfl
section
variable {ro:Ro}{h:T Obj}{nx:Nat}{X:List Nat}{p:Nat}{ps:List (Nat × Nat)}{d:AutoD}{m:MacD}{K:KV}
theorem aBL (hm:MI ro h X p ps d m) (hK:∀ nx',nx≤nx'→K (.int .i64 m.cur) h nx'):aN Tryz.prog ro jE [ptr p] h nx K:=by
 obtain⟨cv,sv,rv,gp,hA,_⟩:=hm
 have m9:=aCD (n:=d.many) (cv:=cv) (sv:=sv) (cur:=m.cur) (rv:=rv) (steps:=m.steps) hA.parts.1
 apply xM
 unfold sS
 (repeat(first|refine aA (by simp (disch:=first|omega|exact nnN _|assumption) only [BB,B2,↓reduceIte,Nat.reduceLeDiff,Nat.reduceAdd,CC,lR,a8,gp,m9]<;>rfl) ?_|apply aD|apply aE|with_reducible first|apply aG|apply aF|apply aK|apply aH|apply aJ|apply aI|apply aL|apply aC))
 exact⟨h,Sub.refl _,hK _ (by omega)⟩
set_option maxRecDepth 8000 in
theorem aGZ {c:Int} (hm:MI ro h X p ps d m) (hc0:0≤c) (hc:c < d.counts.length) (hK:∀ nx',nx≤nx'→K (.int .i64 (aJR d.counts m.rs c:Nat)) h nx'):aN Tryz.prog ro lP [ptr p,.int .i64 c] h nx K:=by
 obtain⟨cv,sv,rv,gp,hA,hP,hR,hD,hpX,hbX⟩:=hm
 obtain⟨hcl,hclt,hcv,hsv⟩:=hA.parts
 have hP:=hP.sub (eX h X)
 have hcv:=hcv.sub (eX h X) fun _ _ h=>h
 have m0:=sA (n:=d.many) (cv:=cv) (sv:=sv) (cur:=m.cur) (rv:=rv) (steps:=m.steps) hcl
 have m7:=aL2 (n:=d.many) (cv:=cv) (sv:=sv) (cur:=m.cur) (rv:=rv) (steps:=m.steps) hcl
 obtain⟨q,hq,hri⟩:=hR.at hc0 hc
 have hi:c.toNat < d.counts.length:=by omega
 have hpi:=hP.ixI .i64 hc0 (by rw[mF,hR.1]; exact hc)
 have hp1:=hP.load1 (yO hq)
 have hci:=hcv.ixI .i64 hc0 hc
 obtain⟨x,hx1,hx2,hx3,hx4,hx5⟩:=hcv.at hi
 rw[aDK hc0 hc] at hx1
 have ha0:V.ixArr 2 1 (jB 2 cv c.toNat) (.int .i64 0)=some (pJ 2 cv c.toNat 0):=hcv.sl' hi 2 1 .i64 (j:=0) (by omega) (by omega)
 have ha1:V.ixArr 2 1 (jB 2 cv c.toNat) (.int .i64 1)=some (pJ 2 cv c.toNat 1):=hcv.sl' hi 2 1 .i64 (j:=1) (by omega) (by omega)
 obtain rfl:x=[.int .i64 (nR d.counts c).1,.int .i64 (nR d.counts c).2]:=hx1
 have hl0:=hx5 0 _ rfl
 have hl1:=hx5 1 _ rfl
 have hL:=jR.L hri
 apply xN
 unfold sT
 unfold aJR at hK
 generalize (nR d.counts c)=ct at hri hl0 hl1 hL hK
 generalize (m5 m.rs c)=r at hri hL hK
 (repeat(first|refine aA (by simp (disch:=first|omega|exact nnN _|assumption) only [BB,B2,↓reduceIte,Nat.reduceLeDiff,Nat.reduceAdd,CC,a8,gp,m0,hpi,hp1]<;>rfl) ?_|apply aD|apply aE|with_reducible first|apply aG|apply aF|apply aK|apply aH|apply aJ|apply aI|apply aL|apply aC))
 refine aJp hri fun n1 hn1=>?_
 refine aA (aPg _) (aA (aPh _) ?_)
 (repeat(first|refine aA (by simp (disch:=first|omega|exact nnN _|assumption) only [BB,B2,↓reduceIte,Nat.reduceLeDiff,Nat.reduceAdd,CC,a8,gp,m0,hpi,hp1]<;>rfl) ?_|apply aD|apply aE|with_reducible first|apply aG|apply aF|apply aK|apply aH|apply aJ|apply aI|apply aL|apply aC))
 refine aJo hri fun n2 hn2=>?_
 refine aA (aP4 _) (aA (aP5 _) ?_)
 have hend:∀ (k:Nat) n,nx≤n→(if r.1.length=0 then 0 else if ((r.1.getD 0 0:Nat):Int) < ct.1 then 0 else if ((r.1.getD (r.1.length - 1) 0:Nat):Int) < ct.2 then 2 else 1)=k→∃ h',Sub h' h∧K (.int .i64 (k:Int)) h' n:=fun k n hn e=>by
  subst e; exact⟨h,Sub.refl _,hK _ hn⟩
 by_cases h0:r.1.length=0
 ·rw[decide_eq_true h0]
  (repeat(first|refine zzB ?_|apply aD|apply aE|with_reducible first|apply aG|apply aF|apply aK|apply aH|apply aJ|apply aI|apply aL|apply aC))
  exact hend 0 _ (by omega) (by rw[if_pos h0])
 ·rw[decide_eq_false h0]
  have e1:aOJ r.1=r.1.getD 0 0:=by unfold aOJ; rw[if_neg h0]
  have e2:low r.1=r.1.getD (r.1.length - 1) 0:=by unfold low; rw[if_neg h0]
  rw[e1,e2]
  simp only[if_neg h0] at hend
  (repeat(first|refine aA (by simp (disch:=first|omega|exact nnN _|assumption) only [BB,B2,↓reduceIte,Nat.reduceLeDiff,Nat.reduceAdd,CC,a8,gp,m7,hci,ha0,hl0]<;>rfl) ?_|apply aD|apply aE|with_reducible first|apply aG|apply aF|apply aK|apply aH|apply aJ|apply aI|apply aL|apply aC))
  refine dC (fun h1=>?_) (fun h1=>?_)
  ·(repeat(first|refine zzB ?_|apply aD|apply aE|with_reducible first|apply aG|apply aF|apply aK|apply aH|apply aJ|apply aI|apply aL|apply aC))
   exact hend 0 _ (by omega) (by rw[if_pos h1])
  ·simp only[if_neg (show ¬ ((r.1.getD 0 0:Nat):Int) < ct.1 by omega)] at hend
   (repeat(first|refine aA (by simp (disch:=first|omega|exact nnN _|assumption) only [BB,B2,↓reduceIte,Nat.reduceLeDiff,Nat.reduceAdd,CC,a8,gp,m7,hci,ha1,hl1]<;>rfl) ?_|apply aD|apply aE|with_reducible first|apply aG|apply aF|apply aK|apply aH|apply aJ|apply aI|apply aL|apply aC))
   refine dC (fun h2=>?_) (fun h2=>?_)
   ·(repeat(first|refine zzB ?_|apply aD|apply aE|with_reducible first|apply aG|apply aF|apply aK|apply aH|apply aJ|apply aI|apply aL|apply aC))
    exact hend 2 _ (by omega) (by rw[if_pos h2])
   ·(repeat(first|refine zzB ?_|apply aD|apply aE|with_reducible first|apply aG|apply aF|apply aK|apply aH|apply aJ|apply aI|apply aL|apply aC))
    exact hend 1 _ (by omega) (by rw[if_neg (by omega)])
set_option maxRecDepth 8000 in
theorem aC1 {lv rv' uv nv:Value}{R:List Int} (hm:MI ro h X p ps d m) (hf:Fr h nx) (hR3:R.length≤3) (hRl:∀ c∈R,0≤c∧c < d.counts.length) (hr:ZI ro h rv' R) (hK:∀ nx',nx≤nx'→K (.int .i64 (iJ d.counts m.rs R:Nat)) h nx'):aN Tryz.prog ro jV [ptr p,.agg #[lv,rv',uv,nv]] h nx K:=by
 apply yA
 unfold t5
 refine eF hf (Nat.le_refl _) fun h1 hs1 hf1 g1 _=>?_
 have g1:h1.get nx=some (.cells #[lv,rv',uv,nv] bA):=g1
 have hr:=hr.sub hs1
 have hrl:=hr.len
 have hm1:=hm.subX jR hs1
 have htot:iJ d.counts m.rs R≤26:=by
  have h9:=aCW (C:=d.counts) (rs:=m.rs) hR3
  have h10:=aBH (R.length:Int)
  omega
 (repeat(first|refine aA (by simp (disch:=first|omega|exact nnN _|assumption) only [BB,B2,↓reduceIte,Nat.reduceLeDiff,Nat.reduceAdd,CC,g1,hrl]<;>rfl) ?_|apply aD|apply aE|with_reducible first|apply aG|apply aF|apply aK|apply aH|apply aJ|apply aI|apply aL|apply aC))
 generalize hT:iJ d.counts m.rs R=tot at hK htot
 refine a9 (fun j e h' nx'=>∃ (k n w:Nat),k+j=R.length∧nx≤nx'∧h'=h1∧e 0=ptr p∧e 5=.int .i64 (n:Int)∧e 6=.int .i64 (w:Int)∧e 10=rv'∧e 11=.int .i64 R.length∧e 12=.int .i64 k∧n+w*iJ d.counts m.rs (R.drop k)=tot∧(k=0∧w=1∨k=1∧w=3∨k=2∧w=9∨k=3∧w=27)) ?_ (n:=R.length) ⟨0,0,1,by omega,by omega,rfl,rfl,rfl,rfl,rfl,rfl,rfl,by rw[List.drop_zero,hT]; omega,by omega⟩
 rintro j e h' nx' ⟨k,n,w,hj,hnx,rfl,e0,e5,e6,e10,e11,e12,ht,hw⟩ Q' hq hx
 unfold qB
 rw[e0,e5,e6,e10,e11,e12]
 refine dC (fun hk=>?_) (fun hk=>?_)
 ·have hk:k < R.length:=by omega
  rw[bW hk] at ht
  have hcm:=hRl _ (List.getElem_mem hk)
  (repeat(first|refine zzB ?_|apply aD|apply aE|with_reducible first|apply aG|apply aF|apply aK|apply aH|apply aJ|apply aI|apply aL|apply aC))
  refine aA (hr.ix _ hk) (aA (hr.load hk) ?_)
  generalize R[k]=c at ht hcm
  refine aGZ hm1 hcm.1 hcm.2 fun n2 hn2=>?_
  change n+w*(aJR d.counts m.rs c+3*iJ d.counts m.rs (R.drop (k+1)))=tot at ht
  have hdl:=aKW d.counts m.rs c
  generalize aJR d.counts m.rs c=g at ht hdl
  have hw27:w≤27:=by omega
  have hwg:w*g≤54:=Nat.mul_le_mul hw27 (show g≤2 by omega)
  have hmul:aO .mul (.int .i64 (w:Int)) (.int .i64 (g:Int))=some (.int .i64 ((w*g:Nat):Int)):=by
   rw[dB,← Int.natCast_mul,dW (by omega) (by omega)]
  rw[Nat.mul_add,← Nat.mul_assoc] at ht
  have hadd:aO .add (.int .i64 (n:Int)) (.int .i64 ((w*g:Nat):Int))=some (.int .i64 ((n+w*g:Nat):Int)):=by
   rw[cK,← Int.natCast_add,dW (by omega) (by omega)]
  have hmul3:aO .mul (.int .i64 (w:Int)) (.int .i64 3)=some (.int .i64 ((w*3:Nat):Int)):=by
   rw[dB,dW (by omega) (by omega)]; simp
  refine aA hmul (aA hadd (aA hmul3 ?_))
  (repeat(first|refine zzB ?_|apply aD|apply aE|with_reducible first|apply aG|apply aF|apply aK|apply aH|apply aJ|apply aI|apply aL|apply aC))
  exact hq (j - 1) _ _ _ _ (by omega) ⟨k+1,n+w*g,w*3,by omega,by omega,rfl,e0,rfl,rfl,e10,e11,rfl,by omega,by omega⟩ (Sub.refl _)
 ·(repeat(first|refine zzB ?_|apply aD|apply aE|with_reducible first|apply aG|apply aF|apply aK|apply aH|apply aJ|apply aI|apply aL|apply aC))
  refine hx _ _ _ _ (fun e=>by cases e) (eA (cR ?_))
  unfold lK
  rw[gG (by omega)] at ht
  have ht:n+w*0=tot:=ht
  have f5:∀ (e':Env) n',e' 5=.int .i64 (n:Int)→nx≤n'→∃ h2,Sub h2 h'∧K (e' 5) h2 n':=fun e' n' h5 hn=>by
   rw[h5]
   exact⟨h,hs1,ki hK (by omega) hn⟩
  exact f5 _ _ e5 (by omega)
set_option maxRecDepth 8000 in
theorem aHh (hm:MI ro h X p ps d m) (ha:fA d=true) (ho:MOk d m) (hf:Fr h nx) (hK:∀ nx',nx≤nx'→K (.int .i64 (rC d m)) h nx'):aN Tryz.prog ro mN [ptr p] h nx K:=by
 apply x7
 unfold tX
 refine aBL hm fun n1 hn1=>?_
 unfold rC at hK
 by_cases hc:m.cur=-1
 ·rw[if_pos hc] at hK
  refine aK3 hc ?_
  (repeat(first|refine zzB ?_|apply aD|apply aE|with_reducible first|apply aG|apply aF|apply aK|apply aH|apply aJ|apply aI|apply aL|apply aC))
  exact⟨h,Sub.refl _,hK _ (by omega)⟩
 ·rw[if_neg hc] at hK
  have hst:=aEb ha ho hc
  obtain⟨cv,sv,rv,gp,hA,hP,hR,hD,hpX,hbX⟩:=id hm
  obtain⟨hcl,hclt,hcv,hsv⟩:=hA.parts
  have hsv:=hsv.sub (eX h X) (eD.sub (eX h X))
  have m8:=aCC (n:=d.many) (cv:=cv) (sv:=sv) (cur:=m.cur) (rv:=rv) (steps:=m.steps) hcl
  have m9:=aCD (n:=d.many) (cv:=cv) (sv:=sv) (cur:=m.cur) (rv:=rv) (steps:=m.steps) hcl
  have hcur:0≤m.cur∧m.cur < d.states.length:=by rcases ho.1 with h | h<;>omega
  have hi:m.cur.toNat < d.states.length:=by omega
  have hs:d.states[m.cur.toNat]=fN d m:=by unfold fN; rw[List.getD_eq_getElem?_getD,List.getElem?_eq_getElem hi]; rfl
  have hsi:=hsv.ixI .i64 hcur.1 hcur.2
  obtain⟨x,⟨lv,rv',uv,nv,rfl,y1,y2,y3,y4,y5⟩,hx2,hx3,hx4,hx5⟩:=hsv.at hi
  rw[hs] at y1 y2 y3 y4 y5
  generalize fN d m=s at hst y1 y2 y3 y4 y5 hK
  refine aK2 hc ?_
  (repeat(first|refine aA (by simp (disch:=first|omega|exact nnN _|assumption) only [BB,B2,↓reduceIte,Nat.reduceLeDiff,Nat.reduceAdd,CC,a8,gp,m8,m9,hsi,hx3]<;>rfl) ?_|apply aD|apply aE|with_reducible first|apply aG|apply aF|apply aK|apply aH|apply aJ|apply aI|apply aL|apply aC))
  refine jH (x:=[lv,rv',uv,nv]) sD rfl rfl rfl (by simp[y1.ok,y2.ok,y3.ok,SlR.okC y4]) hf (by omega) fun h2 hs2 hf2 g2 _=>?_
  (repeat(first|refine aA (by simp (disch:=first|omega|exact nnN _|assumption) only [BB,B2,↓reduceIte,Nat.reduceLeDiff,Nat.reduceAdd,CC,g2]<;>rfl) ?_|apply aD|apply aE|with_reducible first|apply aG|apply aF|apply aK|apply aH|apply aJ|apply aI|apply aL|apply aC))
  refine aC1 (hm.subX jR hs2) (hf2.mono (by omega)) hst.r3 hst.rl (y2.sub hs2) fun n3 hn3=>?_
  refine⟨fS g2 g2,?_⟩
  have hkr:=hst.kr
  have y3:=y3.sub hs2
  refine aA (y3.ix _ hkr) (aA (y3.load hkr) ?_)
  refine⟨h,hs2,?_⟩
  rw[List.getD_eq_getElem?_getD,List.getElem?_eq_getElem hkr] at hK
  exact hK _ (by omega)
end
end V
end Go.Proofs.YtcaccnneblghgaaGreat
namespace Go.Proofs.YtcaccnneblghgaaGreat
namespace V
attribute [local irreducible] aB ifP aR cS eQ exP cN
theorem sF.trans {a b c:T Obj}{p q:Nat} (h1:sF a b p q) (h2:sF b c p q):sF a c p q:=fun k k1 k2=>by rw[h2 k k1 k2,h1 k k1 k2]
theorem sF.get {h h':T Obj}{p a n w k:Nat}{L:List Nat}{c:Array Value}{e:TypeId} (ho:sF h h' p a) (hR:RI h p a n L w) (hg:h.get k=some (.cells c e)) (h1:e≠bL) (h2:e≠dR):h'.get k=some (.cells c e):=by
 obtain⟨c1,t1⟩:=jR.p hR
 obtain⟨c2,t2⟩:=jR.a hR
 rw[ho k (kA hg t1 h1) (kA hg t2 h2)]; exact hg
theorem sF.frR {h h':T Obj}{p a n w nx:Nat}{L:List Nat} (ho:sF h h' p a) (hR:RI h p a n L w) (hf:Fr h nx):Fr h' nx:=fun k hk=>by
 obtain⟨c1,t1⟩:=jR.p hR
 obtain⟨c2,t2⟩:=jR.a hR
 have:=hf.lt' t1
 have:=hf.lt' t2
 rw[ho k (by omega) (by omega)]; exact hf k hk
theorem aFC {ro:Ro}{h:T Obj}{p a n w o nx:Nat}{L:List Nat}{K:KV} (hR:RI h p a n L w) (ho:1≤o∧o≤3) (hw:w+2≤1000000) (hK:∀ h' nx',nx≤nx'→RI h' p a n (aDD n o (L,w)).1 (aDD n o (L,w)).2→sF h h' p a→K (.tuple #[]) h' nx'):aN Tryz.prog ro uM [ptr p,.int .u8 (o:Int)] h nx K:=by
 apply aDk
 unfold aC0
 unfold aDD at hK
 refine sQ (fun h3=>?_) (fun h3=>?_)
 ·rw[if_pos (by omega)] at hK
  (repeat(first|refine zzB ?_|apply aD|apply aE|with_reducible first|apply aG|apply aF|apply aK|apply aH|apply aJ|apply aI|apply aL|apply aC))
  refine wS hR (by omega) fun h1 n1 hn1 hR1 ho1=>?_
  refine aE4 hR1 (by omega) fun h2 n2 hn2 hR2 ho2=>?_
  exact⟨_,Sub.refl _,hK _ _ (by omega) hR2 (ho1.trans ho2)⟩
 ·rw[if_neg (by omega)] at hK
  (repeat(first|refine zzB ?_|apply aD|apply aE|with_reducible first|apply aG|apply aF|apply aK|apply aH|apply aJ|apply aI|apply aL|apply aC))
  refine sQ (fun h2=>?_) (fun h2=>?_)
  ·rw[if_pos (by omega)] at hK
   (repeat(first|refine zzB ?_|apply aD|apply aE|with_reducible first|apply aG|apply aF|apply aK|apply aH|apply aJ|apply aI|apply aL|apply aC))
   refine aE3 hR (by omega) fun h1 n1 hn1 hR1 ho1=>?_
   refine aE4 hR1 (by omega) fun h2 n2 hn2 hR2 ho2=>?_
   exact⟨_,Sub.refl _,hK _ _ (by omega) hR2 (ho1.trans ho2)⟩
  ·rw[if_neg (by omega)] at hK
   (repeat(first|refine zzB ?_|apply aD|apply aE|with_reducible first|apply aG|apply aF|apply aK|apply aH|apply aJ|apply aI|apply aL|apply aC))
   refine aE3 hR (by omega) fun h1 n1 hn1 hR1 ho1=>?_
   exact⟨_,Sub.refl _,hK _ _ (by omega) hR1 ho1⟩
def SIn (D hs:T Obj) (p sb mb:Nat) (pc sc mc:List Value) (ps:List (Nat × Nat)) (C:List (Int × Int)) (h:T Obj) (nx:Nat) (rs:List RgD):Prop :=
 h.get p=some (.cells pc.toArray bF)∧h.get sb=some (.cells sc.toArray bA)∧h.get mb=some (.cells mc.toArray cJ)∧Sub D h∧RsX RI h ps C rs∧dT (p::jY ps) hs h∧Fr h nx
theorem sF.subD {h0 h h':T Obj}{p a:Nat}{X:List Nat} (ho:sF h h' p a) (hp:p∈X) (ha:a∈X) (hs:Sub (del h0 X) h):Sub (del h0 X) h':=fun k o hk=>by
 have h1:=hk
 rw[jU] at h1
 split at h1
 ·cases h1
 ·rename_i hn
  rw[ho k (fun e=>hn (by rw[e]; exact hp)) (fun e=>hn (by rw[e]; exact ha))]
  exact hs k o hk
section
variable {ro:Ro}{h0 hs h h':T Obj}{X:List Nat}{p sb mb nx:Nat}{pc sc mc:List Value}{ps:List (Nat × Nat)}{C:List (Int × Int)}{rs:List RgD}{K:KV}
theorem SIn.mono {n':Nat} (hi:SIn (del h0 X) hs p sb mb pc sc mc ps C h nx rs) (hn:nx≤n'):SIn (del h0 X) hs p sb mb pc sc mc ps C h n' rs:=by
 obtain⟨g1,g2,g3,g4,g5,g6,g7⟩:=hi
 exact⟨g1,g2,g3,g4,g5,g6,g7.mono hn⟩
theorem SIn.ring {i n':Nat}{q:Nat × Nat}{c:Int × Int}{L:List Nat}{w n:Nat}{r:RgD} (hi:SIn (del h0 X) hs p sb mb pc sc mc ps C h nx rs) (hd:Dst ps) (hX:∀ k∈jY ps,k∈X) (hq:ps[i]?=some q) (hc:C[i]?=some c) (hR:RI h q.1 q.2 n L w) (hR':RI h' q.1 q.2 c.2.toNat r.1 r.2) (ho:sF h h' q.1 q.2) (hn:nx≤n') :
  SIn (del h0 X) hs p sb mb pc sc mc ps C h' n' (rs.set i r):=by
 obtain⟨g1,g2,g3,g4,g5,g6,g7⟩:=hi
 have hm:=List.mem_of_getElem? hq
 have m1:q.1∈jY ps:=iO.2 ⟨q,hm,.inl rfl⟩
 have m2:q.2∈jY ps:=iO.2 ⟨q,hm,.inr rfl⟩
 have hr:=g5.set jR hd g7 hq hc hR' fun k _ k1 k2=>ho k k1 k2
 rw[aIp hq] at hr
 refine⟨ho.get hR g1 (by decide) (by decide),ho.get hR g2 (by decide) (by decide),ho.get hR g3 (by decide) (by decide),ho.subD (hX _ m1) (hX _ m2) g4,hr,fun k o hk hn=>?_,(ho.frR hR g7).mono hn⟩
 rw[ho k (fun e=>hn (List.mem_cons_of_mem _ (by rw[e]; exact m1))) (fun e=>hn (List.mem_cons_of_mem _ (by rw[e]; exact m2)))]
 exact g6 k o hk hn
variable {cc:List Nat}{many cur:Int}{cv sv rv:Value}{steps:Nat}{to:Int}{ov nxv:Value}{ops:List Nat}{R:List Int}
set_option maxRecDepth 8000 in
theorem aLo {e:Env}{B:Nat} (hcl:cc.length=256) (e0:e 0=ptr p) (e6:e 6=ptr mb) (e7:e 7=nxv) (hi:SIn (del h0 X) hs p sb mb (eB cc many cv sv cur rv steps) sc [.int .i64 to,ov] ps C h nx rs) (hd:Dst ps) (hX:∀ k∈jY ps,k∈X) (hP:Sl ro (del h0 X) rv 1 (mY ps))
  (hR:ZI ro (del h0 X) nxv R) (ho:SlR ro (del h0 X) ov 1 RU8 ops) (hl:ops.length=R.length) (hor:∀ o∈ops,1≤o∧o≤3) (hRl:∀ c∈R,0≤c∧c < C.length) (hR3:R.length≤3) (hB:WLe B rs) (hB2:B+8≤1000000)
  (fin:∀ h' n',nx≤n'→SIn (del h0 X) hs p sb mb (eB cc many cv sv cur rv steps) sc [.int .i64 to,ov] ps C h' n' (rP C R ops rs)→K (.bool (!decide (to=-1))) h' n'):gU ro K e h nx:=by
 unfold gU
 rw[e7]
 refine aA hR.len ?_
 have m0:=sA (n:=many) (cv:=cv) (sv:=sv) (cur:=cur) (rv:=rv) (steps:=steps) hcl
 generalize hF:rP C R ops rs=fin0 at fin
 refine a9 (fun j e h' nx'=>∃ (k:Nat) (rs':List RgD),k+j=R.length∧nx≤nx'∧e 0=ptr p∧e 6=ptr mb∧e 7=nxv∧e 92=nxv∧e 93=.int .i64 R.length∧e 94=.int .i64 k ∧
  SIn (del h0 X) hs p sb mb (eB cc many cv sv cur rv steps) sc [.int .i64 to,ov] ps C h' nx' rs'∧WLe (B+2*k) rs'∧rP C (R.drop k) (ops.drop k) rs'=fin0) ?_ (n:=R.length) ⟨0,rs,by omega,by omega,e0,e6,e7,rfl,rfl,rfl,hi.mono (by omega),hB.mono (by omega),hF⟩
 rintro j e h' nx' ⟨k,rs',hj,hnx,e0,e6,e7,e92,e93,e94,hi,hw,hF⟩ Q' hq hx
 obtain⟨g1,g2,g3,g4,g5,g6,g7⟩:=id hi
 unfold p8
 rw[e0,e6,e92,e93,e94]
 refine dC (fun hk=>?_) (fun hk=>?_)
 ·have hk:k < R.length:=by omega
  have hko:k < ops.length:=by omega
  rw[bW hk,bW hko] at hF
  have hcm:=hRl _ (List.getElem_mem hk)
  have hom:=hor _ (List.getElem_mem hko)
  have hR':=hR.sub g4
  have hP':=hP.sub g4
  have ho':=ho.sub g4 fun _ _ h=>h
  have rix:=hR'.ix .i64 hk
  have rld:=hR'.load hk
  have oix:=ho'.ix .i64 hko
  obtain⟨w,⟨ow,olt⟩,o1⟩:=ho'.at1 hko
  simp only[List.cons.injEq,and_true] at ow
  subst ow
  generalize R[k]=c at hF hcm rld
  generalize ops[k]=o at hF hom o1 olt
  change rP C _ _ (rs'.set c.toNat (aDD (nR C c).2.toNat o (m5 rs' c)))=fin0 at hF
  obtain⟨q,hq',hri⟩:=g5.at hcm.1 hcm.2
  have hpi:=hP'.ixI .i64 hcm.1 (by rw[mF,g5.1]; exact hcm.2)
  have hp1:=hP'.load1 (yO hq')
  have hwc:=hw.at c
  have hci:C[c.toNat]?=some (nR C c):=by rw[← aDK hcm.1 hcm.2]; exact List.getElem?_eq_getElem _
  (repeat(first|refine aA (by simp (disch:=first|omega|exact nnN _|assumption) only [BB,B2,↓reduceIte,Nat.reduceLeDiff,Nat.reduceAdd,CC,a8,rix,rld,g1,m0,hpi,hp1,g3,oix,o1]<;>rfl) ?_|apply aD|apply aE|with_reducible first|apply aG|apply aF|apply aK|apply aH|apply aJ|apply aI|apply aL|apply aC))
  refine aFC hri hom (by omega) fun h2 n2 hn2 hR2 ho2=>?_
  have hwo:=aJn (nR C c).2.toNat o (m5 rs' c)
  (repeat(first|refine zzB ?_|apply aD|apply aE|with_reducible first|apply aG|apply aF|apply aK|apply aH|apply aJ|apply aI|apply aL|apply aC))
  exact hq (j - 1) _ _ _ _ (by omega) ⟨k+1,_,by omega,by omega,e0,e6,e7,e92,e93,rfl,hi.ring (r:=aDD (nR C c).2.toNat o (m5 rs' c)) hd hX hq' hci hri hR2 ho2 (by omega),(hw.mono (by omega)).set (by omega),hF⟩ (Sub.refl _)
 ·(repeat(first|refine zzB ?_|apply aD|apply aE|with_reducible first|apply aG|apply aF|apply aK|apply aH|apply aJ|apply aI|apply aL|apply aC))
  refine hx _ _ _ _ (fun e=>by cases e) (eA (cR ?_))
  rw[gG (by omega)] at hF
  have hF:rs'=fin0:=hF
  subst hF
  have hj3:∀ (e':Env) n',e' 6=ptr mb→nx'≤n'→jC ro K e' h' n':=by
   intro e' n' f6 hn
   unfold jC
   rw[f6]
   (repeat(first|refine aA (by simp (disch:=first|omega|exact nnN _|assumption) only [BB,B2,↓reduceIte,Nat.reduceLeDiff,Nat.reduceAdd,CC,g3]<;>rfl) ?_|apply aD|apply aE|with_reducible first|apply aG|apply aF|apply aK|apply aH|apply aJ|apply aI|apply aL|apply aC))
   refine aA (aU _ _ _) ?_
   exact⟨h',Sub.refl _,fin _ _ (by omega) (hi.mono (by omega))⟩
  exact hj3 _ _ e6 (by omega)
set_option maxRecDepth 8000 in
theorem aLn {e:Env}{B:Nat}{lv rv' uv nv:Value}{S:List Int} (hcl:cc.length=256) (e0:e 0=ptr p) (e5:e 5=ptr sb) (e6:e 6=ptr mb) (e7:e 7=nxv) (hi:SIn (del h0 X) hs p sb mb (eB cc many cv sv cur rv steps) [lv,rv',uv,nv] [.int .i64 to,ov] ps C h nx rs) (hd:Dst ps) (hX:∀ k∈jY ps,k∈X) (hP:Sl ro (del h0 X) rv 1 (mY ps))
  (hS:ZI ro (del h0 X) rv' S) (hSl:∀ c∈S,0≤c∧c < C.length) (hS3:S.length≤3)
  (hR:ZI ro (del h0 X) nxv R) (ho:SlR ro (del h0 X) ov 1 RU8 ops) (hl:ops.length=R.length) (hor:∀ o∈ops,1≤o∧o≤3) (hRl:∀ c∈R,0≤c∧c < C.length) (hR3:R.length≤3) (hB:WLe B rs) (hB2:B+20≤1000000)
  (fin:∀ h' n',nx≤n'→SIn (del h0 X) hs p sb mb (eB cc many cv sv cur rv steps) [lv,rv',uv,nv] [.int .i64 to,ov] ps C h' n' (rP C R ops (pB R S rs))→K (.bool (!decide (to=-1))) h' n'):gT ro K e h nx:=by
 unfold gT
 rw[e5]
 have g2:=hi.2.1
 have hSh:=(hS.sub hi.2.2.2.1).len
 (repeat(first|refine aA (by simp (disch:=first|omega|exact nnN _|assumption) only [BB,B2,↓reduceIte,Nat.reduceLeDiff,Nat.reduceAdd,CC,g2,hSh]<;>rfl) ?_|apply aD|apply aE|with_reducible first|apply aG|apply aF|apply aK|apply aH|apply aJ|apply aI|apply aL|apply aC))
 have m0:=sA (n:=many) (cv:=cv) (sv:=sv) (cur:=cur) (rv:=rv) (steps:=steps) hcl
 generalize hF:pB R S rs=fin0 at fin
 refine a9 (fun j e h' nx'=>∃ (k:Nat) (rs':List RgD),k+j=S.length∧nx≤nx'∧e 0=ptr p∧e 6=ptr mb∧e 7=nxv∧e 73=rv'∧e 74=.int .i64 S.length∧e 75=.int .i64 k ∧
  SIn (del h0 X) hs p sb mb (eB cc many cv sv cur rv steps) [lv,rv',uv,nv] [.int .i64 to,ov] ps C h' nx' rs'∧WLe (B+2*k) rs'∧pB R (S.drop k) rs'=fin0) ?_ (n:=S.length) ⟨0,rs,by omega,by omega,e0,e6,e7,rfl,rfl,rfl,hi.mono (by omega),hB.mono (by omega),hF⟩
 rintro j e h' nx' ⟨k,rs',hj,hnx,e0,e6,e7,e73,e74,e75,hi,hw,hF⟩ Q' hq hx
 obtain⟨g1,g2,g3,g4,g5,g6,g7⟩:=id hi
 unfold p9
 rw[e0,e7,e73,e74,e75]
 refine dC (fun hk=>?_) (fun hk=>?_)
 ·have hk:k < S.length:=by omega
  rw[bW hk] at hF
  have hcm:=hSl _ (List.getElem_mem hk)
  have hS':=hS.sub g4
  have hR':=hR.sub g4
  have hP':=hP.sub g4
  have six:=hS'.ix .i64 hk
  have sld:=hS'.load hk
  generalize S[k]=c at hF hcm sld
  change pB R _ (if R.contains c then rs' else rs'.set c.toNat (aBp (m5 rs' c)))=fin0 at hF
  obtain⟨q,hq',hri⟩:=g5.at hcm.1 hcm.2
  have hpi:=hP'.ixI .i64 hcm.1 (by rw[mF,g5.1]; exact hcm.2)
  have hp1:=hP'.load1 (yO hq')
  have hwc:=hw.at c
  have hci:C[c.toNat]?=some (nR C c):=by rw[← aDK hcm.1 hcm.2]; exact List.getElem?_eq_getElem _
  have hj4:∀ (e':Env) h2 n2 rs2,e' 0=ptr p→e' 6=ptr mb→e' 7=nxv→e' 73=rv'→e' 74=.int .i64 S.length→e' 75=.int .i64 k→nx≤n2→SIn (del h0 X) hs p sb mb (eB cc many cv sv cur rv steps) [lv,rv',uv,nv] [.int .i64 to,ov] ps C h2 n2 rs2→WLe (B+2*(k+1)) rs2→pB R (S.drop (k+1)) rs2=fin0→jD ro Q' e' h2 n2:=by
   intro e' h2 n2 rs2 f0 f6 f7 f73 f74 f75 hn hi2 hw2 hF2
   unfold jD
   rw[f75]
   (repeat(first|refine zzB ?_|apply aD|apply aE|with_reducible first|apply aG|apply aF|apply aK|apply aH|apply aJ|apply aI|apply aL|apply aC))
   exact hq (j - 1) _ _ _ _ (by omega) ⟨k+1,rs2,by omega,by omega,f0,f6,f7,f73,f74,rfl,hi2.mono (by omega),hw2,hF2⟩ (Sub.refl _)
  (repeat(first|refine aA (by simp (disch:=first|omega|exact nnN _|assumption) only [BB,B2,↓reduceIte,Nat.reduceLeDiff,Nat.reduceAdd,CC,six,sld]<;>rfl) ?_|apply aD|apply aE|with_reducible first|apply aG|apply aF|apply aK|apply aH|apply aJ|apply aI|apply aL|apply aC))
  refine uI (by omega) hR' fun n2 hn2=>?_
  cases hcn:R.contains c with
  | true =>
   rw[hcn,if_pos rfl] at hF
   (repeat(first|refine zzB ?_|apply aD|apply aE|with_reducible first|apply aG|apply aF|apply aK|apply aH|apply aJ|apply aI|apply aL|apply aC))
   exact hj4 _ _ _ rs' e0 e6 e7 e73 e74 e75 (by omega) (hi.mono (by omega)) (hw.mono (by omega)) hF
  | false =>
   rw[hcn,if_neg (by decide)] at hF
   (repeat(first|refine aA (by simp (disch:=first|omega|exact nnN _|assumption) only [BB,B2,↓reduceIte,Nat.reduceLeDiff,Nat.reduceAdd,CC,a8,g1,m0,hpi,hp1]<;>rfl) ?_|apply aD|apply aE|with_reducible first|apply aG|apply aF|apply aK|apply aH|apply aJ|apply aI|apply aL|apply aC))
   refine wS hri (by omega) fun h2 n3 hn3 hR2 ho2=>?_
   exact hj4 _ _ _ _ e0 e6 e7 e73 e74 e75 (by omega) (hi.ring (r:=aBp (m5 rs' c)) hd hX hq' hci hri hR2 ho2 (by omega)) ((hw.mono (by omega)).set (by show (m5 rs' c).2+1≤_; omega)) hF
 ·(repeat(first|refine zzB ?_|apply aD|apply aE|with_reducible first|apply aG|apply aF|apply aK|apply aH|apply aJ|apply aI|apply aL|apply aC))
  refine hx _ _ _ _ (fun e=>by cases e) (eA (cR ?_))
  rw[gG (by omega)] at hF
  have hF:rs'=fin0:=hF
  subst hF
  have hj2:∀ (e':Env) n',e' 0=ptr p→e' 6=ptr mb→e' 7=nxv→nx'≤n'→gU ro K e' h' n':=fun e' n' f0 f6 f7 hn =>
   aLo hcl f0 f6 f7 (hi.mono hn) hd hX hP hR ho hl hor hRl hR3 hw (by omega) fun h2 n2 hn2 hi2=>fin h2 n2 (by omega) hi2
  exact hj2 _ _ e0 e6 e7 (by omega)
end
end V
end Go.Proofs.YtcaccnneblghgaaGreat
namespace Go.Proofs.YtcaccnneblghgaaGreat
namespace V
attribute [local irreducible] aB ifP aR cS eQ exP cN
theorem aDR {d:AutoD}{R S:List Int}{m:MoveD} (ha:fA d=true) (h:hU d.states R m=true):m.ops.length=(lD d m.to).length∧(∀ o∈m.ops,1≤o∧o≤3)∧(∀ c∈lD d m.to,0≤c∧c < d.counts.length)∧(lD d m.to).length≤3:=by
 rcases aAn h with ⟨h1,h2⟩ | ⟨h1,h2,h3,h4⟩
 ·unfold lD
  rw[if_pos h1,h2]
  exact⟨rfl,(fun o ho=>by cases ho),(fun o ho=>by cases ho),by simp⟩
 ·have hne:m.to≠-1:=by omega
  unfold lD
  rw[if_neg hne]
  have hi:m.to.toNat < d.states.length:=by omega
  have hs:d.states.getD m.to.toNat noS=d.states[m.to.toNat]:=by rw[List.getD_eq_getElem?_getD,List.getElem?_eq_getElem hi]; rfl
  have hk:=qN ((eR ha).2.2.2.2.2 _ (List.getElem_mem hi))
  rw[← hs] at hk
  exact⟨h3,aFt h4 h3,hk.2.2.2.1,hk.1⟩
theorem aMQ {nx:List Int}{B:Nat}:∀ {S:List Int}{rs:List RgD},WLe B rs→WLe (B+S.length) (pB nx S rs)
 | [],rs,h=>h
 | c::r,rs,h=>by
  unfold pB
  have h1:WLe (B+1) (if nx.contains c then rs else rs.set c.toNat (aBp (m5 rs c))):=by
   split
   ·exact h.mono (by omega)
   ·exact (h.mono (by omega)).set (by show (m5 rs c).2+1≤_; have:=h.at c; omega)
  have:=aMQ (nx:=nx) (S:=r) h1
  rw[List.length_cons]
  exact this.mono (by omega)
theorem aPS {C:List (Int × Int)}{B:Nat}:∀ {R:List Int}{os:List Nat}{rs:List RgD},WLe B rs→WLe (B+2*R.length) (rP C R os rs)
 | [],_,rs,h=>by simpa [rP] using h
 | c::r,[],rs,h=>by
  unfold rP; exact h.mono (by omega)
 | c::r,o::os,rs,h=>by
  unfold rP
  have:=aPS (C:=C) (R:=r) (os:=os) (show WLe (B+2) (rs.set c.toNat (aDD (nR C c).2.toNat o (m5 rs c))) from (h.mono (by omega)).set (by have:=h.at c; have:=aJn (nR C c).2.toNat o (m5 rs c); omega))
  rw[List.length_cons]
  exact this.mono (by omega)
theorem aQI {d:AutoD}{m:MacD}{b B:Nat} (ha:fA d=true) (ho:MOk d m) (hcl:d.c.length=256) (hb:b < 256) (h:WLe B m.rs):WLe (B+9) (i4 d m b).rs:=by
 unfold i4
 by_cases hc:m.cur=-1
 ·rw[if_pos hc]; exact h.mono (by omega)
 ·rw[if_neg hc]
  have h1:=(aEb ha ho hc).r3
  have h2:=aDR (S:=[]) ha (aDQ ha ho hc hcl hb).2
  have h3:=aPS (C:=d.counts) (R:=lD d (j8 d m b).to) (os:=(j8 d m b).ops) (aMQ (nx:=lD d (j8 d m b).to) (S:=(fN d m).r) h)
  exact h3.mono (by omega)
section
variable {ro:Ro}{h:T Obj}{nx:Nat}{X:List Nat}{p:Nat}{ps:List (Nat × Nat)}{d:AutoD}{m:MacD}{K:KV}
set_option maxRecDepth 8000 in
set_option maxHeartbeats 1000000 in
theorem aHi {b B:Nat} (hm:MI ro h X p ps d m) (ha:fA d=true) (ho:MOk d m) (hb:b < 256) (hf:Fr h nx) (hB:WLe B m.rs) (hB2:B+20≤1000000) (hst:m.steps≤1000000000)
  (hK:∀ h' nx',nx≤nx'→Fr h' nx'→dT (p::jY ps) h h'→MI ro h' X p ps d (i4 d m b)→K (.bool (onM d m b)) h' nx'):aN Tryz.prog ro mO [ptr p,.int .u8 (b:Int)] h nx K:=by
 apply x8
 unfold tY
 refine aBL hm fun n1 hn1=>?_
 unfold onM i4 at hK
 by_cases hc:m.cur=-1
 ·rw[if_pos hc,decide_eq_true hc] at hK
  refine aK3 hc ?_
  (repeat(first|refine zzB ?_|apply aD|apply aE|with_reducible first|apply aG|apply aF|apply aK|apply aH|apply aJ|apply aI|apply aL|apply aC))
  exact⟨h,Sub.refl _,hK _ _ (by omega) (hf.mono (by omega)) (Sub.refl _).keepL hm⟩
 ·rw[if_neg hc,decide_eq_false hc] at hK
  have hsf:=aEb ha ho hc
  obtain⟨cv,sv,rv,gp,hA,hP,hR,hD,hpX,hbX⟩:=id hm
  obtain⟨hcl,hclt,hcv,hsv⟩:=hA.parts
  have hmv:=aDQ ha ho hc hcl hb
  have hops:=aDR (S:=[]) ha hmv.2
  have hmp:=aAn hmv.2
  have hsvD:=hsv
  have hsv:=hsv.sub (eX h X) (eD.sub (eX h X))
  have m8:=aCC (n:=d.many) (cv:=cv) (sv:=sv) (cur:=m.cur) (rv:=rv) (steps:=m.steps) hcl
  have m9:=aCD (n:=d.many) (cv:=cv) (sv:=sv) (cur:=m.cur) (rv:=rv) (steps:=m.steps) hcl
  have m1:=aFl (n:=d.many) (cv:=cv) (sv:=sv) (cur:=m.cur) (rv:=rv) (steps:=m.steps) hcl
  have mb:=aOU (n:=d.many) (cv:=cv) (sv:=sv) (cur:=m.cur) (rv:=rv) (steps:=m.steps) hcl hb
  have hcur:0≤m.cur∧m.cur < d.states.length:=by rcases ho.1 with h | h<;>omega
  have hi:m.cur.toNat < d.states.length:=by omega
  have hs:d.states[m.cur.toNat]=fN d m:=by unfold fN; rw[List.getD_eq_getElem?_getD,List.getElem?_eq_getElem hi]; rfl
  have hsi:=hsv.ixI .i64 hcur.1 hcur.2
  obtain⟨x,⟨lv,rv',uv,nv,rfl,y1,y2,y3,y4,y5⟩,hx2,hx3,hx4,hx5⟩:=hsv.at hi
  obtain⟨xD,⟨lvD,rvD,uvD,nvD,rfl,z1,z2,z3,z4,z5⟩,w2,w3,w4,w5⟩:=hsvD.at hi
  have hsame:[lv,rv',uv,nv]=[lvD,rvD,uvD,nvD]:=by
   have:=aCB (eX h X) w3
   rw[hx3] at this
   simpa using this
  simp only[List.cons.injEq,and_true] at hsame
  obtain⟨rfl,rfl,rfl,rfl⟩:=hsame
  rw[hs] at y1 y2 y3 y4 y5 z2 z4
  refine aK2 hc ?_
  (repeat(first|refine aA (by simp (disch:=first|omega|exact nnN _|assumption) only [BB,B2,↓reduceIte,Nat.reduceLeDiff,Nat.reduceAdd,CC,a8,gp,m8,m9,hsi,hx3]<;>rfl) ?_|apply aD|apply aE|with_reducible first|apply aG|apply aF|apply aK|apply aH|apply aJ|apply aI|apply aL|apply aC))
  refine jH (x:=[lv,rv',uv,nv]) sD rfl rfl rfl (by simp[y1.ok,y2.ok,y3.ok,SlR.okC y4]) hf (by omega) fun h2 hs2 hf2 g2 _=>?_
  (repeat(first|refine aA (by simp (disch:=first|omega|exact nnN _|assumption) only [BB,B2,↓reduceIte,Nat.reduceLeDiff,Nat.reduceAdd,CC,g2]<;>rfl) ?_|apply aD|apply aE|with_reducible first|apply aG|apply aF|apply aK|apply aH|apply aJ|apply aI|apply aL|apply aC))
  have hm2:=hm.subX jR hs2
  have gp2:=hs2 _ _ gp
  refine aC1 hm2 (hf2.mono (by omega)) hsf.r3 hsf.rl (y2.sub hs2) fun n3 hn3=>?_
  have hkn:=hsf.kn
  have z4':=z4.sub ((eX h X).trans hs2) (sH.sub ((eX h X).trans hs2))
  have nix:=z4'.ix .i64 hkn
  obtain⟨w,⟨w',hw1,hw2,hw3⟩,hw4⟩:=z4'.at1 hkn
  simp only[List.cons.injEq,and_true] at hw1
  subst hw1
  have hrow:(fN d m).next[iJ d.counts m.rs (fN d m).r]=(fN d m).next.getD (iJ d.counts m.rs (fN d m).r) []:=by rw[List.getD_eq_getElem?_getD,List.getElem?_eq_getElem hkn]; rfl
  rw[hrow] at hw2 hw3
  have hrowD:SlR ro (del h X) w 2 (xV ro (del h X)) ((fN d m).next.getD (iJ d.counts m.rs (fN d m).r) []):=by
   obtain⟨u,⟨u',hu1,hu2,hu3⟩,hu4⟩:=z4.at1 hkn
   simp only[List.cons.injEq,and_true] at hu1
   subst hu1
   have:=aCA ((eX h X).trans hs2) hu4
   rw[hw4] at this
   cases this
   rw[hrow] at hu2
   exact hu2
  generalize hcb:d.c.getD b 0=cb at mb hmv
  have hci:cb < ((fN d m).next.getD (iJ d.counts m.rs (fN d m).r) []).length:=hmv.1
  have hmvd:j8 d m b=((fN d m).next.getD (iJ d.counts m.rs (fN d m).r) [])[cb]:=by
   unfold j8
   rw[hcb,List.getD_eq_getElem?_getD (a:=aPr),List.getElem?_eq_getElem hci]; rfl
  refine⟨fS g2 g2,?_⟩
  have rix:=hw2.ix .u8 hci
  obtain⟨x,⟨ov,rfl,hov,hol⟩,v2,v3,v4,v5⟩:=hw2.at hci
  obtain⟨xD,⟨ovD,rfl,hovD,holD⟩,u2,u3,u4,u5⟩:=hrowD.at hci
  have hsame2:[Value.int .i64 ((fN d m).next.getD (iJ d.counts m.rs (fN d m).r) [])[cb].to,ov]=[Value.int .i64 ((fN d m).next.getD (iJ d.counts m.rs (fN d m).r) [])[cb].to,ovD]:=by
   have:=aCB ((eX h X).trans hs2) u3
   rw[v3] at this
   simpa using this
  simp only[List.cons.injEq,and_true,true_and] at hsame2
  subst hsame2
  rw[← hmvd] at v3 hovD hov
  refine aA nix (aA hw4 ?_)
  (repeat(first|refine aA (by simp (disch:=first|omega|exact nnN _|assumption) only [BB,B2,↓reduceIte,Nat.reduceLeDiff,Nat.reduceAdd,CC,a8,gp2,mb]<;>rfl) ?_|apply aD|apply aE|with_reducible first|apply aG|apply aF|apply aK|apply aH|apply aJ|apply aI|apply aL|apply aC))
  refine⟨fS gp2 gp2,?_⟩
  refine aA rix (aA v3 ?_)
  generalize hMV:j8 d m b=mv at hK hops hmp hovD hov
  refine jH (x:=[.int .i64 mv.to,ov]) aEs rfl rfl rfl (by simp[show cT ov=true from SlR.okC hov,show cT (Value.int .i64 mv.to)=true from rfl]) hf2 (by omega) fun h3 hs3 hf3 g3 _=>?_
  have gp3:=hs3 _ _ gp2
  have g23:=hs3 _ _ g2
  (repeat(first|refine aA (by simp (disch:=first|omega|exact nnN _|assumption) only [BB,B2,↓reduceIte,Nat.reduceLeDiff,Nat.reduceAdd,CC,a8]<;>rfl) ?_|apply aD|apply aE|with_reducible first|apply aG|apply aF|apply aK|apply aH|apply aJ|apply aI|apply aL|apply aC))
  refine aA (aZ gp3 m1) ?_
  (repeat(first|refine zzB ?_|apply aD|apply aE|with_reducible first|apply aG|apply aF|apply aK|apply aH|apply aJ|apply aI|apply aL|apply aC))
  refine aA (aZ (l:=[lv,rv',uv,nv]) g23 rfl) ?_
  refine aA y2.len ?_
  have hr3:=hsf.r3
  (repeat(first|refine aA (by simp (disch:=first|omega|exact nnN _|assumption) only [BB,B2,↓reduceIte,Nat.reduceLeDiff,Nat.reduceAdd,CC,a8]<;>rfl) ?_|apply aD|apply aE|with_reducible first|apply aG|apply aF|apply aK|apply aH|apply aJ|apply aI|apply aL|apply aC))
  have esteps:(m.steps:Int)+(1+((fN d m).r.length:Int))=((m.steps+1+(fN d m).r.length:Nat):Int):=by omega
  rw[esteps]
  refine aA (dG (v:=.int .i64 ((m.steps+1+(fN d m).r.length:Nat):Int)) gp3 (by rw[vO hcl]; omega) rfl rfl) ?_
  rw[aGd hcl]
  have n2lt:=hf.lt' gp
  have gp4:(h3.upd p (some (.cells (eB d.c d.many cv sv m.cur rv (m.steps+1+(fN d m).r.length)).toArray bF))).get p=some (.cells (eB d.c d.many cv sv m.cur rv (m.steps+1+(fN d m).r.length)).toArray bF):=T.get_upd_same _ _ _
  have ho4:∀ k,k≠p→(h3.upd p (some (.cells (eB d.c d.many cv sv m.cur rv (m.steps+1+(fN d m).r.length)).toArray bF))).get k=h3.get k:=fun k hk=>T.get_upd_ne _ _ hk
  generalize (h3.upd p (some (.cells (eB d.c d.many cv sv m.cur rv (m.steps+1+(fN d m).r.length)).toArray bF)))=h4 at gp4 ho4
  have g24:=(ho4 (n1+12) (by omega)).trans g23
  have g34:=(ho4 (n1+31) (by omega)).trans g3
  (repeat(first|refine zzB ?_|apply aD|apply aE|with_reducible first|apply aG|apply aF|apply aK|apply aH|apply aJ|apply aI|apply aL|apply aC))
  refine aA (aZ (l:=[.int .i64 mv.to,ov]) g34 rfl) ?_
  (repeat(first|refine aA (by simp (disch:=first|omega|exact nnN _|assumption) only [BB,B2,↓reduceIte,Nat.reduceLeDiff,Nat.reduceAdd,CC,a8]<;>rfl) ?_|apply aD|apply aE|with_reducible first|apply aG|apply aF|apply aK|apply aH|apply aJ|apply aI|apply aL|apply aC))
  refine aA (dG (v:=.int .i64 mv.to) gp4 (by rw[vO hcl]; omega) rfl rfl) ?_
  rw[aBZ hcl]
  have gp5:(h4.upd p (some (.cells (eB d.c d.many cv sv mv.to rv (m.steps+1+(fN d m).r.length)).toArray bF))).get p=some (.cells (eB d.c d.many cv sv mv.to rv (m.steps+1+(fN d m).r.length)).toArray bF):=T.get_upd_same _ _ _
  have ho5:∀ k,k≠p→(h4.upd p (some (.cells (eB d.c d.many cv sv mv.to rv (m.steps+1+(fN d m).r.length)).toArray bF))).get k=h3.get k:=fun k hk=>(T.get_upd_ne _ _ hk).trans (ho4 k hk)
  generalize (h4.upd p (some (.cells (eB d.c d.many cv sv mv.to rv (m.steps+1+(fN d m).r.length)).toArray bF)))=h5 at gp5 ho5
  have g25:=(ho5 (n1+12) (by omega)).trans g23
  have g35:=(ho5 (n1+31) (by omega)).trans g3
  have hs5:Sub h h3:=hs2.trans hs3
  have hD5:Sub (del h X) h5:=fun k o hk=>by
   have h9:=hk
   rw[jU] at h9
   split at h9
   ·cases h9
   ·rename_i hn
    rw[ho5 k (fun e=>hn (by rw[e]; exact hpX))]
    exact hs5 _ _ h9
  have hf5:Fr h5 (n1+32):=fun k hk=>by rw[ho5 k (by omega)]; exact hf3 k (by omega)
  have hSI:SIn (del h X) h p (n1+12) (n1+31) (eB d.c d.many cv sv mv.to rv (m.steps+1+(fN d m).r.length)) [lv,rv',uv,nv] [.int .i64 mv.to,ov] ps d.counts h5 (n1+32) m.rs:=by
   refine⟨gp5,g25,g35,hD5,hR.keep jR fun q hq=>?_,fun k o hk hn=>?_,hf5⟩
   ·obtain⟨⟨c1,t1⟩,c2,t2⟩:=hR.ty jR q hq
    rw[ho5 _ (kA t1 gp (by decide)),ho5 _ (kA t2 gp (by decide)),t1,t2,hs5 _ _ t1,hs5 _ _ t2]
    exact⟨rfl,rfl⟩
   ·rw[ho5 k fun e=>hn (by rw[e]; exact List.mem_cons_self ..)]
    exact hs5 _ _ hk
  have hfin:∀ h' n',n1+32≤n'→SIn (del h X) h p (n1+12) (n1+31) (eB d.c d.many cv sv mv.to rv (m.steps+1+(fN d m).r.length)) [lv,rv',uv,nv] [.int .i64 mv.to,ov] ps d.counts h' n' (rP d.counts (lD d mv.to) mv.ops (pB (lD d mv.to) (fN d m).r m.rs))→K (.bool (!decide (mv.to=-1))) h' n':=by
   intro h' n' hn' hi'
   obtain⟨q1,q2,q3,q4,q5,q6,q7⟩:=hi'
   have hre:=aM3 q4
   have:=hK h' n' (by omega) q7 q6 ⟨cv,sv,rv,q1,hA.sub hre,hP.sub hre,q5,hD,hpX,hbX⟩
   simpa using this
  have hj1:∀ (e':Env) n' nxv,e' 0=ptr p→e' 5=ptr (n1+12)→e' 6=ptr (n1+31)→e' 7=nxv→ZI ro (del h X) nxv (lD d mv.to)→n1+32≤n'→gT ro K e' h5 n':=fun e' n' nxv f0 f5 f6 f7 hz hn' =>
   aLn hcl f0 f5 f6 f7 (hSI.mono hn') hD hbX hP z2 hsf.rl hsf.r3 hz hovD hops.1 hops.2.1 hops.2.2.1 hops.2.2.2 hB hB2 fun h' n'' hn'' hi'=>hfin h' n'' (by omega) hi'
  have m85:=aCC (n:=d.many) (cv:=cv) (sv:=sv) (cur:=mv.to) (rv:=rv) (steps:=m.steps+1+(fN d m).r.length) hcl
  (repeat(first|refine zzB ?_|apply aD|apply aE|with_reducible first|apply aG|apply aF|apply aK|apply aH|apply aJ|apply aI|apply aL|apply aC))
  refine aA (aZ (l:=[.int .i64 mv.to,ov]) g35 rfl) ?_
  by_cases hto:mv.to=-1
  ·refine aB1 hto ?_
   (repeat(first|refine zzB ?_|apply aD|apply aE|with_reducible first|apply aG|apply aF|apply aK|apply aH|apply aJ|apply aI|apply aL|apply aC))
   refine hj1 _ _ (.slice none 0 0) rfl rfl rfl rfl ?_ (by omega)
   unfold lD
   rw[if_pos hto]
   exact Sl.nil
  ·refine aEG hto ?_
   have htr:1≤mv.to∧mv.to < d.states.length:=by rcases hmp with h | h<;>omega
   have hti:mv.to.toNat < d.states.length:=by omega
   have hsv5:=hsvD.sub hD5 (eD.sub hD5)
   have tix:=hsv5.ixI .i64 (show 0≤mv.to by omega) htr.2
   obtain⟨x,⟨lv2,rv2,uv2,nv2,rfl,a1,a2,a3,a4,a5⟩,b2,b3,b4,b5⟩:=hsvD.at hti
   have hl5:=aCA hD5 (b5 1 rv2 rfl)
   have b4':=b4 1
   (repeat(first|refine aA (by simp (disch:=first|omega|exact nnN _|assumption) only [BB,B2,↓reduceIte,Nat.reduceLeDiff,Nat.reduceAdd,CC,a8]<;>rfl) ?_|apply aD|apply aE|with_reducible first|apply aG|apply aF|apply aK|apply aH|apply aJ|apply aI|apply aL|apply aC))
   refine aA (aZ gp5 m85) ?_
   (repeat(first|refine zzB ?_|apply aD|apply aE|with_reducible first|apply aG|apply aF|apply aK|apply aH|apply aJ|apply aI|apply aL|apply aC))
   refine aA (aZ (l:=[.int .i64 mv.to,ov]) g35 rfl) ?_
   refine aA tix (aA b4' (aA hl5 ?_))
   refine hj1 _ _ rv2 rfl rfl rfl rfl ?_ (by omega)
   unfold lD
   rw[if_neg hto,List.getD_eq_getElem?_getD,List.getElem?_eq_getElem hti]
   exact a2
end
end V
end Go.Proofs.YtcaccnneblghgaaGreat
namespace Go.Proofs.YtcaccnneblghgaaGreat
namespace V
attribute [local irreducible] aB ifP aR cS eQ exP cN
def bts (s:ByteArray):List Nat:=s.data.toList.map (·.toNat)
theorem aGP (s:ByteArray):(bts s).length=s.size:=by unfold bts; rw[List.length_map]; rfl
theorem aMM {s:ByteArray}:∀ b∈bts s,b < 256:=fun b hb=>by
 unfold bts at hb
 rw[List.mem_map] at hb
 obtain⟨x,_,rfl⟩:=hb
 exact x.toNat_lt
theorem aDz (s:ByteArray):wM (.string s)=some (.int .i64 (bts s).length):=by rw[aGP]; rfl
theorem aFj {s:ByteArray}{k:IntKind}{i:Nat} (hi:i < (bts s).length):aDw (.string s) (.int k (i:Int))=some (.int .u8 ((bts s)[i]:Nat)):=by
 have hn:mE (.int k (i:Int))=some i:=by simp[mE]
 have hl:i < s.data.toList.length:=by simpa [bts] using hi
 unfold aDw
 rw[hn]
 simp only[Option.bind]
 rw[List.getElem?_eq_getElem hl]
 simp[bts]
theorem aKA {d:AutoD}{m:MacD}{b:Nat} (ha:fA d=true) (ho:MOk d m):(i4 d m b).steps≤m.steps+4:=by
 unfold i4
 by_cases hc:m.cur=-1
 ·rw[if_pos hc]; omega
 ·rw[if_neg hc]
  have:=(aEb ha ho hc).r3
  show m.steps+1+_≤_
  omega
theorem aOd {B:Nat}{m:MacD} (h:WLe B m.rs):WLe (B+1) (aAq m).rs:=fun r hr=>by
 obtain⟨x,hx,rfl⟩:=List.mem_map.1 hr
 have:=h x hx
 unfold m6
 split
 ·omega
 ·show x.2+1≤_; omega
theorem aN9 {l:List Nat}{k x:Nat} (hk:l[k]?=some x):(l.take (k+1)).sum=(l.take k).sum+x:=by
 obtain⟨h1,h2⟩:=List.getElem?_eq_some_iff.1 hk
 rw[List.take_succ_eq_append_getElem h1,List.sum_append,h2]; simp
theorem aKD {B:Nat}:∀ {l:List Nat},(∀ x∈l,x≤B)→l.sum≤B*l.length
 | [],_=>by simp
 | x::r,h=>by
  have h1:=h x (List.mem_cons_self ..)
  have h2:=aKD (l:=r) fun y hy=>h y (List.mem_cons_of_mem _ hy)
  rw[List.sum_cons,List.length_cons,Nat.mul_succ]; omega
theorem aNY {rs:List RgD}{k:Nat} (hk:k < rs.length):m5 rs (k:Int)=rs[k]:=by
 unfold m5
 rw[Int.toNat_natCast,List.getD_eq_getElem?_getD,List.getElem?_eq_getElem hk]; rfl
def SJn (D hs:T Obj) (p:Nat) (pc:List Value) (ps:List (Nat × Nat)) (C:List (Int × Int)) (h:T Obj) (nx:Nat) (rs:List RgD):Prop :=
 h.get p=some (.cells pc.toArray bF)∧Sub D h∧RsX RI h ps C rs∧dT (p::jY ps) hs h∧Fr h nx
section
variable {ro:Ro}{h0 hs h h':T Obj}{X:List Nat}{p nx:Nat}{pc:List Value}{ps:List (Nat × Nat)}{C:List (Int × Int)}{rs:List RgD}{K:KV}
theorem SJn.mono {n':Nat} (hi:SJn (del h0 X) hs p pc ps C h nx rs) (hn:nx≤n'):SJn (del h0 X) hs p pc ps C h n' rs:=by
 obtain⟨g1,g4,g5,g6,g7⟩:=hi
 exact⟨g1,g4,g5,g6,g7.mono hn⟩
theorem SJn.ring {i n':Nat}{q:Nat × Nat}{c:Int × Int}{L:List Nat}{w n:Nat}{r:RgD} (hi:SJn (del h0 X) hs p pc ps C h nx rs) (hd:Dst ps) (hX:∀ k∈jY ps,k∈X) (hq:ps[i]?=some q) (hc:C[i]?=some c) (hR:RI h q.1 q.2 n L w) (hR':RI h' q.1 q.2 c.2.toNat r.1 r.2) (ho:sF h h' q.1 q.2) (hn:nx≤n') :
  SJn (del h0 X) hs p pc ps C h' n' (rs.set i r):=by
 obtain⟨g1,g4,g5,g6,g7⟩:=hi
 have hm:=List.mem_of_getElem? hq
 have m1:q.1∈jY ps:=iO.2 ⟨q,hm,.inl rfl⟩
 have m2:q.2∈jY ps:=iO.2 ⟨q,hm,.inr rfl⟩
 have hr:=g5.set jR hd g7 hq hc hR' fun k _ k1 k2=>ho k k1 k2
 rw[aIp hq] at hr
 refine⟨ho.get hR g1 (by decide) (by decide),ho.subD (hX _ m1) (hX _ m2) g4,hr,fun k o hk hn=>?_,(ho.frR hR g7).mono hn⟩
 rw[ho k (fun e=>hn (List.mem_cons_of_mem _ (by rw[e]; exact m1))) (fun e=>hn (List.mem_cons_of_mem _ (by rw[e]; exact m2)))]
 exact g6 k o hk hn
end
section
variable {ro:Ro}{h:T Obj}{nx:Nat}{X:List Nat}{p:Nat}{ps:List (Nat × Nat)}{d:AutoD}{m:MacD}{K:KV}
set_option maxRecDepth 8000 in
theorem aGY {B:Nat} (hm:MI ro h X p ps d m) (ho:MOk d m) (hC:d.counts.length≤512) (hf:Fr h nx) (hB:WLe B m.rs) (hB2:B+1≤1000000)
  (hK:∀ h' nx',nx≤nx'→Fr h' nx'→dT (p::jY ps) h h'→MI ro h' X p ps d (aAq m)→K (.tuple #[]) h' nx'):aN Tryz.prog ro lO [ptr p] h nx K:=by
 obtain⟨cv,sv,rv,gp,hA,hP,hR,hD,hpX,hbX⟩:=id hm
 obtain⟨hcl,hclt,hcv,hsv⟩:=hA.parts
 have n2lt:=hf.lt' gp
 apply xL
 unfold sR
 refine aA (lR _ _ _) ?_
 (repeat(first|refine aA (by simp (disch:=first|omega|exact nnN _|assumption) only [BB,B2,↓reduceIte,Nat.reduceLeDiff,Nat.reduceAdd,CC,a8]<;>rfl) ?_|apply aD|apply aE|with_reducible first|apply aG|apply aF|apply aK|apply aH|apply aJ|apply aI|apply aL|apply aC))
 refine aA (dG (v:=.int .i64 0) gp (by rw[vO hcl]; omega) rfl rfl) ?_
 rw[aBZ hcl]
 have gp4:(h.upd p (some (.cells (eB d.c d.many cv sv 0 rv m.steps).toArray bF))).get p=some (.cells (eB d.c d.many cv sv 0 rv m.steps).toArray bF):=T.get_upd_same _ _ _
 have ho4:∀ k,k≠p→(h.upd p (some (.cells (eB d.c d.many cv sv 0 rv m.steps).toArray bF))).get k=h.get k:=fun k hk=>T.get_upd_ne _ _ hk
 generalize (h.upd p (some (.cells (eB d.c d.many cv sv 0 rv m.steps).toArray bF)))=h4 at gp4 ho4
 have m0:=sA (n:=d.many) (cv:=cv) (sv:=sv) (cur:=0) (rv:=rv) (steps:=m.steps) hcl
 have hSJ:SJn (del h X) h p (eB d.c d.many cv sv 0 rv m.steps) ps d.counts h4 nx m.rs:=by
  refine⟨gp4,fun k o hk=>?_,hR.keep jR fun q hq=>?_,fun k o hk hn=>?_,fun k hk=>by rw[ho4 k (by omega)]; exact hf k hk⟩
  ·have h9:=hk
   rw[jU] at h9
   split at h9
   ·cases h9
   ·rename_i hn
    rw[ho4 k (fun e=>hn (by rw[e]; exact hpX))]; exact h9
  ·obtain⟨⟨c1,t1⟩,c2,t2⟩:=hR.ty jR q hq
   exact⟨ho4 _ (kA t1 gp (by decide)),ho4 _ (kA t2 gp (by decide))⟩
  ·rw[ho4 k fun e=>hn (by rw[e]; exact List.mem_cons_self ..)]; exact hk
 have hPh:=hP.sub hSJ.2.1
 have hpl:=hPh.len
 rw[mF,hR.1] at hpl
 (repeat(first|refine aA (by simp (disch:=first|omega|exact nnN _|assumption) only [BB,B2,↓reduceIte,Nat.reduceLeDiff,Nat.reduceAdd,CC,a8,gp4,m0,hpl]<;>rfl) ?_|apply aD|apply aE|with_reducible first|apply aG|apply aF|apply aK|apply aH|apply aJ|apply aI|apply aL|apply aC))
 have hrl:=ho.2
 have hfin:∀ h' n',nx≤n'→SJn (del h X) h p (eB d.c d.many cv sv 0 rv m.steps) ps d.counts h' n' (m.rs.map m6)→K (.tuple #[]) h' n':=by
  intro h' n' hn' hi'
  obtain⟨q1,q4,q5,q6,q7⟩:=hi'
  have hre:=aM3 q4
  exact hK h' n' hn' q7 q6 ⟨cv,sv,rv,q1,hA.sub hre,hP.sub hre,q5,hD,hpX,hbX⟩
 refine a9 (fun j e h' nx'=>∃ (k:Nat),k+j=d.counts.length∧nx≤nx'∧e 12=rv∧e 13=.int .i64 d.counts.length∧e 14=.int .i64 k∧SJn (del h X) h p (eB d.c d.many cv sv 0 rv m.steps) ps d.counts h' nx' ((m.rs.take k).map m6++m.rs.drop k)) ?_ (n:=d.counts.length) ⟨0,by omega,by omega,rfl,rfl,rfl,hSJ.mono (by omega)⟩
 rintro j e h' nx' ⟨k,hj,hnx,e12,e13,e14,hi⟩ Q' hq hx
 obtain⟨g1,g4,g5,g6,g7⟩:=id hi
 unfold pC
 rw[e12,e13,e14]
 refine dC (fun hk=>?_) (fun hk=>?_)
 ·have hk:k < d.counts.length:=by omega
  have hkr:k < m.rs.length:=by omega
  have hP':=hP.sub g4
  obtain⟨q,hq',hri⟩:=g5.at (c:=(k:Int)) (by omega) (by omega)
  rw[Int.toNat_natCast] at hq'
  have hlen:((m.rs.take k).map m6).length=k:=by simp; omega
  have hg:m5 ((m.rs.take k).map m6++m.rs.drop k) (k:Int)=m.rs[k]:=by
   unfold m5
   rw[Int.toNat_natCast,List.getD_eq_getElem?_getD,List.getElem?_append_right (by omega),hlen,Nat.sub_self,List.getElem?_drop,Nat.add_zero,List.getElem?_eq_getElem hkr]; rfl
  rw[hg] at hri
  have hset:∀ x,((m.rs.take k).map m6++m.rs.drop k).set k x=(m.rs.take k).map m6++[x]++m.rs.drop (k+1):=fun x=>by
   rw[List.set_append_right _ _ (by omega),hlen,Nat.sub_self,bW hkr,List.append_assoc]; rfl
  have htk:(m.rs.take (k+1)).map m6=(m.rs.take k).map m6++[m6 m.rs[k]]:=by rw[List.take_succ_eq_append_getElem hkr,List.map_append]; rfl
  have hci:d.counts[k]?=some (nR d.counts (k:Int)):=by
   rw[← aDK (by omega) (by omega)]
   simp only[Int.toNat_natCast]
   exact List.getElem?_eq_getElem _
  have hj1:∀ (e':Env) h2 n2,e' 12=rv→e' 13=.int .i64 d.counts.length→e' 14=.int .i64 k→nx'≤n2→SJn (del h X) h p (eB d.c d.many cv sv 0 rv m.steps) ps d.counts h2 n2 ((m.rs.take (k+1)).map m6++m.rs.drop (k+1))→iV ro Q' e' h2 n2:=by
   intro e' h2 n2 f12 f13 f14 hn hi2
   unfold iV
   rw[f14]
   (repeat(first|refine zzB ?_|apply aD|apply aE|with_reducible first|apply aG|apply aF|apply aK|apply aH|apply aJ|apply aI|apply aL|apply aC))
   exact hq (j - 1) _ _ _ _ (by omega) ⟨k+1,by omega,by omega,f12,f13,rfl,hi2.mono (by omega)⟩ (Sub.refl _)
  have hdk:m.rs.drop k=[m.rs[k]]++m.rs.drop (k+1):=bW hkr
  have hw:(m.rs[k]).2≤B:=hB _ (List.getElem_mem hkr)
  generalize m.rs[k]=r at hri htk hw hdk
  (repeat(first|refine zzB ?_|apply aD|apply aE|with_reducible first|apply aG|apply aF|apply aK|apply aH|apply aJ|apply aI|apply aL|apply aC))
  refine aA (hP'.ix _ (by rw[mF,hR.1]; exact hk)) (aA (hP'.load1 (yO hq')) ?_)
  refine aAs hri fun n2 hn2=>?_
  refine lM (fun hl=>?_) (fun hl=>?_)
  ·have hx1:m6 r=aBp r:=if_neg (by omega)
   rw[hx1] at htk
   (repeat(first|refine zzB ?_|apply aD|apply aE|with_reducible first|apply aG|apply aF|apply aK|apply aH|apply aJ|apply aI|apply aL|apply aC))
   refine wS hri (by omega) fun h2 n3 hn3 hR2 ho2=>?_
   have:=hi.ring (r:=aBp r) (n':=n3) hD hbX hq' hci hri hR2 ho2 (by omega)
   rw[hset,← htk] at this
   exact hj1 _ _ _ e12 e13 e14 (by omega) this
  ·have hx1:m6 r=r:=if_pos (by omega)
   rw[hx1] at htk
   (repeat(first|refine zzB ?_|apply aD|apply aE|with_reducible first|apply aG|apply aF|apply aK|apply aH|apply aJ|apply aI|apply aL|apply aC))
   refine hj1 _ _ _ e12 e13 e14 (by omega) ?_
   have e2:(m.rs.take (k+1)).map m6++m.rs.drop (k+1)=(m.rs.take k).map m6++m.rs.drop k:=by
    rw[htk,List.append_assoc,hdk]
   rw[e2]
   exact hi.mono (by omega)
 ·(repeat(first|refine zzB ?_|apply aD|apply aE|with_reducible first|apply aG|apply aF|apply aK|apply aH|apply aJ|apply aI|apply aL|apply aC))
  refine hx _ _ _ _ (fun e=>by cases e) (eA (cR ?_))
  rw[List.take_of_length_le (by omega),List.drop_eq_nil_of_le (by omega),List.append_nil] at hi
  exact⟨h',Sub.refl _,hfin _ _ (by omega) (hi.mono (by omega))⟩
set_option maxRecDepth 8000 in
theorem aHj {B:Nat} (hm:MI ro h X p ps d m) (ho:MOk d m) (hC:d.counts.length≤512) (hB:WLe B m.rs) (hB2:B≤1000000) (hst:m.steps≤1000000000) (hK:∀ nx',nx≤nx'→K (.int .i64 (fO m:Nat)) h nx'):aN Tryz.prog ro mP [ptr p] h nx K:=by
 obtain⟨cv,sv,rv,gp,hA,hP,hR,hD,hpX,hbX⟩:=id hm
 obtain⟨hcl,hclt,hcv,hsv⟩:=hA.parts
 have m0:=sA (n:=d.many) (cv:=cv) (sv:=sv) (cur:=m.cur) (rv:=rv) (steps:=m.steps) hcl
 have m1:=aFl (n:=d.many) (cv:=cv) (sv:=sv) (cur:=m.cur) (rv:=rv) (steps:=m.steps) hcl
 have hPh:=hP.sub (eX h X)
 have hpl:=hPh.len
 rw[mF,hR.1] at hpl
 apply x9
 unfold tZ
 unfold fO at hK
 (repeat(first|refine aA (by simp (disch:=first|omega|exact nnN _|assumption) only [BB,B2,↓reduceIte,Nat.reduceLeDiff,Nat.reduceAdd,CC,lR,a8,gp,m0,m1,hpl]<;>rfl) ?_|apply aD|apply aE|with_reducible first|apply aG|apply aF|apply aK|apply aH|apply aJ|apply aI|apply aL|apply aC))
 have hrl:=ho.2
 have hsl:(m.rs.map (·.2)).length=d.counts.length:=by rw[List.length_map]; exact hrl
 have hwb:∀ x∈m.rs.map (·.2),x≤1000000:=fun x hx=>by
  obtain⟨r,hr,rfl⟩:=List.mem_map.1 hx
  exact Nat.le_trans (hB r hr) hB2
 have hwat:∀ (i:Nat) (hi:i < m.rs.length),(m.rs.map (·.2))[i]?=some (m.rs[i]).2:=fun i hi=>by rw[List.getElem?_map,List.getElem?_eq_getElem hi]; rfl
 generalize m.rs.map (·.2)=ws at hK hsl hwb hwat
 refine a9 (fun j e h' nx'=>∃ (k:Nat),k+j=d.counts.length∧nx≤nx'∧h'=h∧e 3=.int .i64 ((m.steps+(ws.take k).sum:Nat):Int)∧e 15=rv∧e 16=.int .i64 d.counts.length∧e 17=.int .i64 k) ?_ (n:=d.counts.length) ⟨0,by omega,by omega,rfl,rfl,rfl,rfl,rfl⟩
 rintro j e h' nx' ⟨k,hj,hnx,rfl,e3,e15,e16,e17⟩ Q' hq hx
 unfold qA
 rw[e3,e15,e16,e17]
 refine dC (fun hk=>?_) (fun hk=>?_)
 ·have hk:k < d.counts.length:=by omega
  have hkr:k < m.rs.length:=by omega
  obtain⟨q,hq',hri⟩:=hR.at (c:=(k:Int)) (by omega) (by omega)
  rw[Int.toNat_natCast] at hq'
  rw[aNY hkr] at hri
  have hws:=aN9 (hwat k hkr)
  have h1:=aKD (l:=ws.take k) fun x hx=>hwb x (List.mem_of_mem_take hx)
  have h2:(ws.take k).length≤512:=by rw[List.length_take]; omega
  have h3:=Nat.mul_le_mul_left 1000000 h2
  have h4:=hB _ (List.getElem_mem hkr)
  (repeat(first|refine zzB ?_|apply aD|apply aE|with_reducible first|apply aG|apply aF|apply aK|apply aH|apply aJ|apply aI|apply aL|apply aC))
  refine aA (hPh.ix _ (by rw[mF,hR.1]; exact hk)) (aA (hPh.load1 (yO hq')) ?_)
  refine aIc hri fun n2 hn2=>?_
  have hadd:aO .add (.int .i64 ((m.steps+(ws.take k).sum:Nat):Int)) (.int .i64 ((m.rs[k].2:Nat):Int))=some (.int .i64 ((m.steps+(ws.take (k+1)).sum:Nat):Int)):=by
   rw[cK,← Int.natCast_add,hws,dW (by omega) (by omega),Nat.add_assoc]
  refine aA hadd ?_
  (repeat(first|refine zzB ?_|apply aD|apply aE|with_reducible first|apply aG|apply aF|apply aK|apply aH|apply aJ|apply aI|apply aL|apply aC))
  exact hq (j - 1) _ _ _ _ (by omega) ⟨k+1,by omega,by omega,rfl,rfl,e15,e16,rfl⟩ (Sub.refl _)
 ·(repeat(first|refine zzB ?_|apply aD|apply aE|with_reducible first|apply aG|apply aF|apply aK|apply aH|apply aJ|apply aI|apply aL|apply aC))
  refine hx _ _ _ _ (fun e=>by cases e) (eA (cR ?_))
  unfold lJ
  rw[List.take_of_length_le (by omega)] at e3
  have f3:∀ (e':Env) n',e' 3=.int .i64 ((m.steps+ws.sum:Nat):Int)→nx≤n'→∃ h2,Sub h2 h'∧K (e' 3) h2 n':=fun e' n' h3 hn=>by
   rw[h3]
   exact⟨h',Sub.refl _,hK _ hn⟩
  exact f3 _ _ e3 (by omega)
end
end V
end Go.Proofs.YtcaccnneblghgaaGreat
namespace Go.Proofs.YtcaccnneblghgaaGreat
namespace V
section
variable {T:TabD}
def aCr (s:ScD):Prop:=2*s.steps≤s.at_*(s.at_+2*s.kept.length+1)+2*s.took
theorem aQE {a c e t:Nat} (ht:t≤c+1+e):a*(a+2*(c+1+e)+1)+2*t≤(a+(c+1))*(a+(c+1)+2*e+1):=by
 have h1:a*(a+2*(c+1+e)+1)=a*a+2*(a*c)+2*(a*e)+3*a:=by
  rw[show a+2*(c+1+e)+1=a+(c+c)+(e+e)+3 by omega,Nat.mul_add,Nat.mul_add,Nat.mul_add,Nat.mul_add,Nat.mul_add]; omega
 have h2:(a+(c+1))*(a+(c+1)+2*e+1)=a*a+2*(a*c)+2*(a*e)+3*a+c*c+2*(c*e)+3*c+2*e+2:=by
  rw[show a+(c+1)+2*e+1=a+c+(e+e)+2 by omega,show a+(c+1)=a+c+1 by omega]
  simp only[Nat.mul_add,Nat.add_mul,Nat.one_mul,Nat.mul_one]
  rw[Nat.mul_comm c a]
  omega
 rw[h1,h2]
 have:0≤c*c:=Nat.zero_le _
 omega
theorem aQG {s:ScD} (h:ScOk T s) (hk:s.kept≠[]) (hs:aCr s):aCr (mL T s):=by
 obtain⟨h1,h2⟩:=aBY h hk
 have h3:=h.took
 obtain⟨c,hc⟩:∃ c,fL s=c+1:=⟨fL s - 1,by omega⟩
 obtain⟨e,he⟩:∃ e,s.kept.length=c+1+e:=⟨s.kept.length - (c+1),by omega⟩
 unfold aCr at hs ⊢
 have e1:(mL T s).kept.length=e:=by rw[aDL]; omega
 have e2:(mL T s).at_=s.at_+(c+1):=by show s.at_+fL s=_; rw[hc]
 have e3:(mL T s).took=0:=rfl
 have e4:(mL T s).steps=s.steps:=rfl
 rw[e1,e2,e3,e4]
 rw[he] at hs
 have:=aQE (a:=s.at_) (c:=c) (e:=e) (t:=s.took) (by omega)
 omega
theorem aOk {s:ScD} (h:ScOk T s) (hs:aCr s):aCr (dX T s).2:=by
 obtain⟨_,_,_,_,h5,_⟩:=rY (qS T s).a (s.kept.drop s.took) (o9 s) h.tr
 have e1:(dX T s).2.steps+s.took=s.steps+(dX T s).2.took:=h5
 have e2:(dX T s).2.kept=s.kept:=rfl
 have e3:(dX T s).2.at_=s.at_:=rfl
 unfold aCr at hs ⊢
 rw[e2,e3]
 omega
theorem aQF {s:ScD} (b:List Nat) (hs:aCr s):aCr (vD s b):=by
 unfold aCr at hs ⊢
 rw[aDH]
 show 2*s.steps≤s.at_*(s.at_+2*(s.kept.length+b.length)+1)+2*s.took
 have:s.at_*(s.at_+2*s.kept.length+1)≤s.at_*(s.at_+2*(s.kept.length+b.length)+1):=Nat.mul_le_mul_left _ (by omega)
 omega
theorem aQH {s:ScD} (h:ScOk T s) (hs:aCr s):2*s.steps≤(s.at_+s.kept.length)*(s.at_+s.kept.length+1):=by
 unfold aCr at hs
 have h3:=h.took
 generalize s.at_=a at hs
 generalize s.kept.length=k at hs h3
 have h1:a*(a+2*k+1)=a*a+2*(a*k)+a:=by
  rw[show a+2*k+1=a+k+k+1 by omega]
  simp only[Nat.mul_add,Nat.mul_one]; omega
 have h2:(a+k)*(a+k+1)=a*a+2*(a*k)+k*k+a+k:=by
  simp only[Nat.mul_add,Nat.add_mul,Nat.mul_one,Nat.one_mul]
  rw[Nat.mul_comm k a]; omega
 rw[h1] at hs
 rw[h2]
 have:k≤k*k:=by
  cases k with
  | zero=>exact Nat.le_refl _
  | succ k=>exact Nat.le_mul_of_pos_left _ (Nat.succ_pos _)
 omega
structure TabR (T:TabD):Prop where
 ok:∀ e∈T.entries,fA e.a=true
 c256:∀ e∈T.entries,e.a.c.length=256
 rl:∀ e∈T.entries,∀ s∈e.a.states,∀ ru∈s.rule,ru < e.rules.length
 rk:∀ e∈T.entries,∀ r∈e.rules,0≤r∧r < T.kinds.length
 to:T.to.length=T.kinds.length
 tb:∀ t∈T.to,-1≤t∧t < T.conds.length
 len:T.entries.length=2*T.conds.length
 pos:1≤T.conds.length
theorem TabR.tok (h:TabR T):aHL T:=fun c r hc=>by
 unfold aDb
 rw[h.len] at hc ⊢
 split
 ·rename_i hr
  by_cases hlt:r.toNat < T.to.length
  ·have hm:=h.tb _ (List.getElem_mem hlt)
   rw[List.getD_eq_getElem?_getD,List.getElem?_eq_getElem hlt]
   show 2*(T.to[r.toNat]).toNat+1 < _
   omega
  ·have hp:=h.pos
   rw[List.getD_eq_getElem?_getD,List.getElem?_eq_none (by omega)]
   show 2*(0:Int).toNat+1 < _
   have:(0:Int).toNat=0:=rfl
   omega
 ·exact hc
def aHJ (T:TabD) (ms:List MacD) (n:Nat):Prop:=∀ (i:Nat) e m,T.entries[i]?=some e→ms[i]?=some m→MOk e.a m∧WLe (10*n) m.rs∧m.steps≤4*n
theorem aHJ.mono {ms:List MacD}{n n':Nat} (h:aHJ T ms n) (hn:n≤n'):aHJ T ms n':=fun i e m he hm=>by
 obtain⟨h1,h2,h3⟩:=h i e m he hm
 exact⟨h1,h2.mono (by omega),by omega⟩
theorem aHJ.set {ms:List MacD}{n j:Nat}{m':MacD} (h:aHJ T ms n) (hm':∀ e,T.entries[j]?=some e→MOk e.a m'∧WLe (10*n) m'.rs∧m'.steps≤4*n):aHJ T (ms.set j m') n:=fun i e m he hm=>by
 rw[List.getElem?_set] at hm
 split at hm
 ·rename_i hji
  subst hji
  split at hm
  ·cases hm; exact hm' e he
  ·cases hm
 ·exact h i e m he hm
theorem aOf (hT:TabR T) {e:EntD} (he:e∈T.entries) {m:MacD} (hm:MOk e.a m):rC e.a m=-1∨0≤rC e.a m∧rC e.a m < e.rules.length:=by
 unfold rC
 by_cases hc:m.cur=-1
 ·rw[if_pos hc]; exact .inl rfl
 ·rw[if_neg hc]
  have hf:=aEb (hT.ok e he) hm hc
  have h1:=hf.ru
  have hcur:0≤m.cur∧m.cur < e.a.states.length:=by rcases hm.1 with h | h<;>omega
  have hi:m.cur.toNat < e.a.states.length:=by omega
  have hs:fN e.a m∈e.a.states:=by
   unfold fN
   rw[List.getD_eq_getElem?_getD,List.getElem?_eq_getElem hi]
   exact List.getElem_mem hi
  have h2:(fN e.a m).rule.getD (iJ e.a.counts m.rs (fN e.a m).r) 0∈(fN e.a m).rule:=by
   rw[List.getD_eq_getElem?_getD,List.getElem?_eq_getElem hf.kr]
   exact List.getElem_mem hf.kr
  have h3:=hT.rl e he _ hs _ h2
  omega
structure LkOk (K:Nat) (e:EntD) (t:TryD):Prop where
 mok:MOk e.a t.m
 w:WLe (K+9*t.steps) t.m.rs
 st:t.m.steps≤4*t.steps
 ru:t.rule=-1∨0≤t.rule∧t.rule < e.rules.length
theorem LkOk.tk0 (hT:TabR T) {K:Nat}{e:EntD} (he:e∈T.entries) {t:TryD}{b:Nat} (hb:b < 256) (h:LkOk K e t):LkOk K e (tk0 e.a t b):=by
 have h1:=aOl (hT.ok e he) h.mok (hT.c256 e he) hb
 have h2:=aQI (hT.ok e he) h.mok (hT.c256 e he) hb h.w
 have h3:=aKA (b:=b) (hT.ok e he) h.mok
 have h4:=h.st
 exact⟨h1,h2.mono (by show K+9*t.steps+9≤K+9*(t.steps+1); omega),by show (i4 e.a t.m b).steps≤4*(t.steps+1); omega,h.ru⟩
theorem LkOk.tk1 (hT:TabR T) {K:Nat}{e:EntD} (he:e∈T.entries) {t:TryD}{b:Nat} (hb:b < 256) (h:LkOk K e t):LkOk K e (tk1 e.a t b):=by
 have h0:=h.tk0 hT he hb
 unfold V.tk1
 split
 ·exact h0
 ·rename_i hr
  exact⟨h0.mok,h0.w,h0.st,.inr ((aOf hT he h0.mok).resolve_left hr)⟩
theorem aKY (hT:TabR T) {K:Nat}{e:EntD} (he:e∈T.entries):∀ (l:List Nat) (t:TryD),(∀ b∈l,b < 256)→LkOk K e t→LkOk K e (xJ e.a l t).2
 | [],t,_,h=>h
 | b::r,t,hl,h=>by
  have hb:=hl b (by simp)
  rw[zP]
  split
  ·exact aKY hT he r _ (fun x hx=>hl x (by simp[hx])) (h.tk1 hT he hb)
  ·exact h.tk0 hT he hb
structure ScI (T:TabD) (s:ScD):Prop where
 ok:ScOk T s
 c:2*s.cond+1 < T.entries.length
 ms:aHJ T s.ms s.steps
 ru:s.rule=-1∨0≤s.rule∧s.rule < (qS T s).rules.length
 kb:∀ b∈s.kept,b < 256
 st:aCr s
theorem ScI.at {s:ScD} (h:ScI T s):T.entries[qR s]?=some (qS T s)∧qS T s∈T.entries∧∃ m,s.ms[qR s]?=some m∧s.ms.getD (qR s) aPq=m:=by
 have h1:=h.ok.lt
 have h2:=h.ok.len
 have h3:T.entries[qR s]?=some (qS T s):=by
  unfold qS
  rw[List.getD_eq_getElem?_getD,List.getElem?_eq_getElem (by omega)]; rfl
 refine⟨h3,List.mem_of_getElem? h3,s.ms[qR s],List.getElem?_eq_getElem h1,?_⟩
 rw[List.getD_eq_getElem?_getD,List.getElem?_eq_getElem h1]; rfl
theorem ScI.lk (hT:TabR T) {s:ScD} (h:ScI T s):LkOk (s.steps+1) (qS T s) (o9 s):=by
 obtain⟨h1,h2,m,h3,h4⟩:=h.at
 obtain⟨m1,m2,m3⟩:=h.ms _ _ _ h1 h3
 unfold o9
 rw[h4]
 split
 ·exact⟨aNX (hT.ok _ h2) m1,(aOd m2).mono (by show 10*s.steps+1≤s.steps+1+9*s.steps; omega),m3,h.ru⟩
 ·exact⟨m1,m2.mono (by show 10*s.steps≤s.steps+1+9*s.steps; omega),m3,h.ru⟩
theorem aGV (hT:TabR T) {s:ScD} (h:ScI T s) (hk:s.kept≠[]):ScI T (dX T s).2:=by
 obtain⟨h1,h2,m,h3,h4⟩:=h.at
 have hl:0 < s.kept.length:=List.length_pos_iff.2 hk
 have htk:=h.ok.took
 have hend:LkOk (s.steps+1) (qS T s) (kN T s).2:=aKY hT h2 _ _ (fun b hb=>h.kb b (List.mem_of_mem_drop hb)) (h.lk hT)
 obtain⟨_,e2,_,_,e5,e6⟩:=rY (qS T s).a (s.kept.drop s.took) (o9 s) h.ok.tr
 have e5:(kN T s).2.steps+s.took=s.steps+(kN T s).2.took:=e5
 have e2:s.took≤(kN T s).2.took:=e2
 refine⟨(aK0 h.ok).1,h.c,?_,hend.ru,h.kb,aOk h.ok h.st⟩
 show aHJ T (s.ms.set (qR s) (kN T s).2.m) (kN T s).2.steps
 refine (h.ms.mono (by omega)).set fun e he=>?_
 rw[h1] at he
 cases he
 by_cases hd:s.kept.drop s.took=[]
 ·have e:kN T s=(false,o9 s):=by unfold kN; rw[hd]; rfl
  have h0:s.took≠0:=fun e0=>by rw[e0,List.drop_zero] at hd; exact hk hd
  obtain⟨m1,m2,m3⟩:=h.ms _ _ _ h1 h3
  have em:(o9 s).m=m:=by unfold o9; rw[if_neg h0]; exact h4
  rw[e]
  show MOk (qS T s).a (o9 s).m∧WLe (10*s.steps) (o9 s).m.rs∧(o9 s).m.steps≤4*s.steps
  rw[em]
  exact⟨m1,m2,m3⟩
 ·have e6:s.took < (kN T s).2.took:=e6 hd
  exact⟨hend.mok,hend.w.mono (by omega),hend.st⟩
theorem aKT (hT:TabR T) {s:ScD} (h:ScI T s) (hk:s.kept≠[]):ScI T (mL T s):=by
 obtain⟨c1,c2⟩:=aM2 hT.tok h.c h.ok
 exact⟨c1,c2,h.ms,.inl rfl,fun b hb=>h.kb b (List.mem_of_mem_drop hb),aQG h.ok hk h.st⟩
theorem aKF (hT:TabR T):∀ (n:Nat) (s:ScD),ScI T s→ScI T (iB T n s).2
 | 0,s,h=>h
 | n+1,s,h=>by
  by_cases hk:s.kept=[]
  ·rw[zK _ hk]; exact h
  ·have h1:=aGV hT h hk
   rw[pO,if_neg hk]
   split
   ·exact aKF hT n _ (aKT hT h1 hk)
   ·exact h1
theorem aKM {s:ScD} (h:ScI T s) {b:List Nat} (hb:∀ x∈b,x < 256):ScI T (vD s b):=⟨aMD h.ok b,h.c,h.ms,h.ru,fun x hx=>(List.mem_append.1 hx).elim (h.kb x) (hb x),aQF b h.st⟩
theorem aMb (hT:TabR T) {s:ScD} (h:ScI T s) {b:List Nat} (hb:∀ x∈b,x < 256):ScI T (gY T s b).2:=aKF hT _ _ (aKM h hb)
theorem aNy (hT:TabR T) {s:ScD} (h:ScI T s):ScI T (v8 T s).2:=aKF hT _ _ ⟨⟨h.ok.lt,h.ok.len,h.ok.took,h.ok.held,h.ok.none,h.ok.some⟩,h.c,h.ms,h.ru,h.kb,h.st⟩
theorem aQc (hT:TabR T):ScI T (nM T):=by
 have h1:=hT.len
 have h2:=hT.pos
 obtain⟨n1,n2,_,_⟩:=aPp (T:=T) (by omega)
 refine⟨n1,n2,fun i e m he hm=>?_,.inl rfl,(fun b hb=>by cases hb),Nat.zero_le _⟩
 have hm:(T.entries.map fun e=>aCF e.a)[i]?=some m:=hm
 rw[List.getElem?_map,he] at hm
 cases hm
 refine⟨aPo (hT.ok e (List.mem_of_getElem? he)),fun r hr=>?_,Nat.zero_le _⟩
 obtain⟨c9,_,rfl⟩:=List.mem_map.1 hr
 exact Nat.zero_le _
theorem aEc {s:ScD} (h:ScI T s):2*s.steps≤(s.at_+s.kept.length)*(s.at_+s.kept.length+1):=aQH h.ok h.st
end
end V
end Go.Proofs.YtcaccnneblghgaaGreat
namespace Go.Proofs.YtcaccnneblghgaaGreat
namespace V
def aGb (c:Nat):Bool:=decide (97≤c∧c≤122∨65≤c∧c≤90∨c=95)
def aGU (c:Nat):Bool:=decide (48≤c∧c≤57)
def pE:Bool→List Nat→Bool
 | _,[]=>true
 | first,c::r=>(aGb c || !first&&aGU c)&&pE false r
def j9 (s:ByteArray):Bool:=pE true (bts s)&&(decide (1≤s.size)&&decide (s.size≤32))
def xE:List ByteArray→List ByteArray→Bool
 | _,[]=>true
 | seen,s::r=>j9 s&&!(seen.any fun t=>decide (s=t))&&xE (seen++[s]) r
def jS (n:Nat) (s:ByteArray) (t:Int):Bool:=(decide (s=.empty) || j9 s)&&(decide (-1≤t)&&decide (t < n))
def lL (n:Nat) (e:EntD):Bool:=rz (-1) n e.rules&&(fA e.a&&e.a.states.all fun s=>s.rule.all fun r=>decide (r < e.rules.length))
def zG : ByteArray := "start".toUTF8
def fX (T:TabD):Bool :=
 decide (1≤T.conds.length)&&(decide (T.conds.length≤8)&&(decide (T.conds.head?=some zG)&&(decide (T.kinds.length≤64)&&(decide (T.to.length=T.kinds.length)&&(decide (T.entries.length=2*T.conds.length) &&
  (xE [] T.conds&&((List.zip T.kinds T.to).all (fun x=>jS T.conds.length x.1 x.2)&&T.entries.all (lL T.kinds.length))))))))
theorem aI8 {T:TabD} (h:fX T=true) (hc:∀ e∈T.entries,e.a.c.length=256):TabR T∧T.kinds.length≤64∧T.conds.length≤8:=by
 unfold fX at h
 simp only[Bool.and_eq_true,decide_eq_true_eq] at h
 obtain⟨h1,h2,_,h4,h5,h6,_,h8,h9⟩:=h
 have hf:∀ e∈T.entries,rz (-1) T.kinds.length e.rules=true∧fA e.a=true∧∀ s∈e.a.states,∀ r∈s.rule,r < e.rules.length:=fun e he=>by
  have:=List.all_eq_true.1 h9 e he
  unfold lL at this
  simp only[Bool.and_eq_true] at this
  refine⟨this.1,this.2.1,fun s hs r hr=>?_⟩
  have h3:=List.all_eq_true.1 this.2.2 s hs
  exact of_decide_eq_true (List.all_eq_true.1 h3 r hr)
 refine⟨⟨fun e he=>(hf e he).2.1,hc,fun e he=>(hf e he).2.2,fun e he r hr=>?_,h5,fun t ht=>?_,h6,h1⟩,h4,h2⟩
 ·have:=aJs (hf e he).1 r hr
  omega
 ·obtain⟨i,hi⟩:=List.getElem?_of_mem ht
  have hl:=(List.getElem?_eq_some_iff.1 hi).1
  have hz:(List.zip T.kinds T.to)[i]?=some (T.kinds[i]'(by omega),t):=by
   rw[List.getElem?_zip_eq_some]
   exact⟨List.getElem?_eq_getElem _,hi⟩
  have:=List.all_eq_true.1 h8 _ (List.mem_of_getElem? hz)
  unfold jS at this
  simp only[Bool.and_eq_true,decide_eq_true_eq] at this
  exact this.2
end V
end Go.Proofs.YtcaccnneblghgaaGreat
namespace Go.Proofs.YtcaccnneblghgaaGreat
namespace V
attribute [local irreducible] rE aN aB
@[irreducible] def oK (ro:Ro) (K:KV):Env→T Obj→Nat→Prop:=fun e h nx=>∃ h1,Sub h1 h∧K (e 3) h1 (nx+2)
@[irreducible] def oL (ro:Ro) (Q:KE):Env→T Obj→Nat→Prop:=fun e h nx=>aB (aO .add (e 8) (Value.int IntKind.i64 1)) fun a'=>Q .normal (puts e [(23,a'),(8,a')]) h (nx+2)
@[irreducible] def yJ (ro:Ro):PT:=fun e h nx Q=>aB (aO .lss (e 8) (e 7)) fun b'=>aR b' (aB (cO 1 (e 6) (e 8)) fun d'=>aB (load1 ro h d') fun a'=>aB (aO .lss (e 8) (Value.int IntKind.i64 12)) fun e'=>aR e' (aB (bG a') fun g'=>aB (eE Tryz.prog h .min #[dR,dR] [g',(Value.int IntKind.i64 20)]) fun h'=>aB (lW Tryz.prog bC a' none (some h') none) fun i'=>aB (bQ Tryz.prog gE (nx+14) 1 [(0,i')]) fun f'=>eQ h (nx+14) f'.2 fun j'=>aB (cM Tryz.prog ro j' (nx+16) #[gE,gE] [(e 3),f'.1]) fun c'=>oL ro Q (puts e [(9,b'),(10,(e 8)),(11,d'),(12,a'),(4,(e 8)),(5,a'),(13,(e 8)),(14,e'),(15,(e 3)),(16,a'),(17,a'),(18,g'),(19,h'),(20,i'),(21,f'.1),(22,c'.1),(3,c'.1)]) c'.2.1 (c'.2.2+1)) (oL ro Q (puts e [(9,b'),(10,(e 8)),(11,d'),(12,a'),(4,(e 8)),(5,a'),(13,(e 8)),(14,e')]) h (nx+8))) (Q (.exit 0) (puts e [(9,b')]) h (nx+1))
@[irreducible] def aC7 (ro:Ro) (v0:Value) (h:T Obj) (nx:Nat) (K:KV):Prop:=aB (bG v0) fun e'=>dQ (yJ ro) (puts (gH [v0]) [(2,(Value.slice none 0 0)),(3,(Value.slice none 0 0)),(6,v0),(7,e'),(8,(Value.int IntKind.i64 0))]) h (nx+5) fun f' a' b' c'=>exP f' (oK ro K a' b' c') (fun g'=>cN (Nat.beq g' 0) (oK ro K a' b' c') (False)) (∃ d',Sub d' b'∧K (a' 2) d' c')
theorem aDy {ro:Ro}{v0:Value}{h:T Obj}{nx:Nat}{K:KV} (hw:aC7 ro v0 h nx K):aN Tryz.prog ro uP [v0] h nx K:=a7 (P:=Tryz.prog) (fn:=Tryz.f14) (by kernel_rfl) (by kernel_rfl) (by kernel_rfl) (Eq.mpr (by kernel_rfl) hw)
@[irreducible] def rO (ro:Ro) (K:KV):Env→T Obj→Nat→Prop:=fun e h nx=>aB (aS 3 (e 1)) fun a'=>aB (load1 ro h a') fun b'=>aB (bG b') fun c'=>aB (aO .leq c' (Value.int IntKind.i64 8)) fun d'=>∃ h6,Sub h6 h∧K d' h6 (nx+5)
@[irreducible] def aBX (ro:Ro):PT:=fun e h nx Q=>aB (aO .lss (e 8) (e 7)) fun a'=>aR a' (aB (cO 260 (e 6) (e 8)) fun b'=>aB (loadA ro h 260 b') fun c'=>aB (zer Tryz.prog cA) fun k'=>cS h (nx+3) (.cells k'.cells cA) fun l'=>aB (bV 260 l' (ptr (nx+3)) c') fun d'=>aB (aS 0 (ptr (nx+3))) fun e'=>aB (aS 258 e') fun f'=>aB (load1 ro d' f') fun g'=>aB (bG g') fun h'=>aB (aO .gtr h' (Value.int IntKind.i64 60)) fun i'=>aR i' (Q .ret (puts e [(9,a'),(10,b'),(11,c'),(4,(ptr (nx+3))),(12,e'),(13,f'),(14,g'),(15,h'),(16,i'),(2,(Value.bool false))]) d' (nx+11)) (aB (aO .add (e 8) (Value.int IntKind.i64 1)) fun j'=>Q .normal (puts e [(9,a'),(10,b'),(11,c'),(4,(ptr (nx+3))),(12,e'),(13,f'),(14,g'),(15,h'),(16,i'),(17,j'),(8,j')]) d' (nx+12))) (Q (.exit 0) (puts e [(9,a')]) h (nx+1))
@[irreducible] def aFk (ro:Ro) (v0:Value) (h:T Obj) (nx:Nat) (K:KV):Prop:=cS h nx (.cells (Value.cells v0) dF) fun h1=>aB (aS 3 (ptr nx)) fun d'=>aB (load1 ro h1 d') fun e'=>aB (bG e') fun g'=>dQ (aBX ro) (puts (gH [v0]) [(1,(ptr nx)),(2,(Value.bool false)),(5,d'),(6,e'),(7,g'),(8,(Value.int IntKind.i64 0))]) h1 (nx+6) fun h' a' b' c'=>exP h' (rO ro K a' b' c') (fun i'=>cN (Nat.beq i' 0) (rO ro K a' b' c') (False)) (∃ f',Sub f' b'∧K (a' 2) f' c')
theorem aGa {ro:Ro}{v0:Value}{h:T Obj}{nx:Nat}{K:KV} (hw:aFk ro v0 h nx K):aN Tryz.prog ro yE [v0] h nx K:=a7 (P:=Tryz.prog) (fn:=Tryz.f20) (by kernel_rfl) (by kernel_rfl) (by kernel_rfl) (Eq.mpr (by kernel_rfl) hw)
@[irreducible] def oT (ro:Ro) (K:KV):Env→T Obj→Nat→Prop:=fun e h nx=>∃ h152,Sub h152 h∧K (Value.bool true) h152 (nx+1)
@[irreducible] def yZ (ro:Ro):PT:=fun e h nx Q=>aB (aS 3 (e 1)) fun a'=>aB (load1 ro h a') fun b'=>aB (bG b') fun c'=>aB (aO .lss (e 6) c') fun d'=>aR d' (aB (aS 3 (e 1)) fun e'=>aB (load1 ro h e') fun f'=>aB (cO 260 f' (e 6)) fun g'=>aB (loadA ro h 260 g') fun h'=>aB (aS 1 (e 1)) fun i'=>aB (load1 ro h i') fun j'=>aB (bG j') fun k'=>aN Tryz.prog ro wJ [h',k'] h (nx+15) fun l' n' o'=>aB (unV .not l') fun m'=>aR m' (Q .ret (puts e [(120,(e 6)),(121,a'),(122,b'),(123,c'),(124,d'),(127,e'),(128,f'),(129,(e 6)),(130,g'),(131,h'),(132,i'),(133,j'),(134,k'),(135,l'),(136,m'),(2,(Value.bool false))]) n' (o'+1)) (aB (aO .add (e 6) (Value.int IntKind.i64 1)) fun p'=>Q .normal (puts e [(120,(e 6)),(121,a'),(122,b'),(123,c'),(124,d'),(127,e'),(128,f'),(129,(e 6)),(130,g'),(131,h'),(132,i'),(133,j'),(134,k'),(135,l'),(136,m'),(125,(e 6)),(126,p'),(6,p')]) n' (o'+3))) (Q (.exit 6) (puts e [(120,(e 6)),(121,a'),(122,b'),(123,c'),(124,d')]) h (nx+5))
@[irreducible] def oS (ro:Ro) (K:KV):Env→T Obj→Nat→Prop:=fun e h nx=>dQ (yZ ro) (puts e [(6,(Value.int IntKind.i64 0))]) h (nx+1) fun x172 e169 h170 n171=>exP x172 (oT ro K e169 h170 n171) (fun i173=>cN (Nat.beq i173 6) (oT ro K e169 h170 n171) (False)) (∃ h174,Sub h174 h170∧K (e169 2) h174 n171)
@[irreducible] def y0 (ro:Ro):PT:=fun e h nx Q=>aB (aS 1 (e 1)) fun d'=>aB (load1 ro h d') fun e'=>aB (bG e') fun f'=>aB (aO .lss (e 5) f') fun g'=>aR g' (aB (aS 1 (e 1)) fun h'=>aB (load1 ro h h') fun i'=>aB (cO 1 i' (e 5)) fun j'=>aB (load1 ro h j') fun k'=>aB (aEe .neq k' (Value.string { data:=#[] })) fun b'=>ifP b' true h (nx+39) (fun aB'=>aB (aS 1 (e 1)) fun aC'=>aB' aC' h (nx+39)) fun l' m' P'=>ifP b' true m' P' (fun aD'=>aB (load1 ro m' l') fun aE'=>aD' aE' m' P') fun n' Q' R'=>ifP b' true Q' R' (fun aF'=>aF' (e 5) Q' R') fun o' S' T'=>ifP b' true S' T' (fun aG'=>aB (cO 1 n' o') fun aH'=>aG' aH' S' T') fun p' q' U'=>ifP b' true q' U' (fun aI'=>aB (load1 ro q' p') fun aJ'=>aI' aJ' q' U') fun r' V' W'=>ifP b' true V' W' (fun aK'=>aN Tryz.prog ro rM [r'] V' W' fun aL' aM' aN'=>aK' aL' aM' aN') fun s' X' Y'=>ifP b' true X' Y' (fun aO'=>aB (unV .not s') fun aP'=>aO' aP' X' Y') fun t' Z' aa'=>aB (bO b' t' (Value.bool false)) fun c'=>ifP c' false Z' aa' (fun aQ'=>aB (aS 2 (e 1)) fun aR'=>aQ' aR' Z' aa') fun u' v' ab'=>ifP c' false v' ab' (fun aS'=>aB (load1 ro v' u') fun aT'=>aS' aT' v' ab') fun w' ac' ad'=>ifP c' false ac' ad' (fun aU'=>aU' (e 5) ac' ad') fun x' ae' af'=>ifP c' false ae' af' (fun aV'=>aB (cO 1 w' x') fun aW'=>aV' aW' ae' af') fun y' z' ag'=>ifP c' false z' ag' (fun aX'=>aB (load1 ro z' y') fun aY'=>aX' aY' z' ag') fun A' ah' ai'=>ifP c' false ah' ai' (fun aZ'=>aB (aO .lss A' (Value.int IntKind.i64 (-1))) fun a0'=>aZ' a0' ah' ai') fun B' aj' ak'=>aB (bO c' (Value.bool true) B') fun a'=>ifP a' false aj' ak' (fun a1'=>aB (aS 2 (e 1)) fun a2'=>a1' a2' aj' ak') fun C' D' al'=>ifP a' false D' al' (fun a3'=>aB (load1 ro D' C') fun a4'=>a3' a4' D' al') fun E' am' an'=>ifP a' false am' an' (fun a5'=>a5' (e 5) am' an') fun F' ao' ap'=>ifP a' false ao' ap' (fun a6'=>aB (cO 1 E' F') fun a7'=>a6' a7' ao' ap') fun G' H' aq'=>ifP a' false H' aq' (fun a8'=>aB (load1 ro H' G') fun a9'=>a8' a9' H' aq') fun I' ar' as'=>ifP a' false ar' as' (fun ba'=>aB (aS 0 (e 1)) fun bb'=>ba' bb' ar' as') fun J' K' at'=>ifP a' false K' at' (fun bc'=>aB (load1 ro K' J') fun bd'=>bc' bd' K' at') fun L' au' av'=>ifP a' false au' av' (fun be'=>aB (bG L') fun bf'=>be' bf' au' av') fun M' aw' ax'=>ifP a' false aw' ax' (fun bg'=>aB (aO .geq I' M') fun bh'=>bg' bh' aw' ax') fun N' ay' az'=>aB (bO a' (Value.bool true) N') fun O'=>aR O' (Q .ret (puts e [(79,(e 5)),(80,d'),(81,e'),(82,f'),(83,g'),(86,h'),(87,i'),(88,(e 5)),(89,j'),(90,k'),(91,b'),(92,b'),(93,l'),(94,n'),(95,o'),(96,p'),(97,r'),(98,s'),(99,t'),(100,c'),(101,c'),(102,u'),(103,w'),(104,x'),(105,y'),(106,A'),(107,B'),(108,a'),(109,a'),(110,C'),(111,E'),(112,F'),(113,G'),(114,I'),(115,J'),(116,L'),(117,M'),(118,N'),(119,O'),(2,(Value.bool false))]) ay' (az'+1)) (aB (aO .add (e 5) (Value.int IntKind.i64 1)) fun aA'=>Q .normal (puts e [(79,(e 5)),(80,d'),(81,e'),(82,f'),(83,g'),(86,h'),(87,i'),(88,(e 5)),(89,j'),(90,k'),(91,b'),(92,b'),(93,l'),(94,n'),(95,o'),(96,p'),(97,r'),(98,s'),(99,t'),(100,c'),(101,c'),(102,u'),(103,w'),(104,x'),(105,y'),(106,A'),(107,B'),(108,a'),(109,a'),(110,C'),(111,E'),(112,F'),(113,G'),(114,I'),(115,J'),(116,L'),(117,M'),(118,N'),(119,O'),(84,(e 5)),(85,aA'),(5,aA')]) ay' (az'+3))) (Q (.exit 4) (puts e [(79,(e 5)),(80,d'),(81,e'),(82,f'),(83,g')]) h (nx+5))
@[irreducible] def oR (ro:Ro) (K:KV):Env→T Obj→Nat→Prop:=fun e h nx=>dQ (y0 ro) (puts e [(5,(Value.int IntKind.i64 0))]) h (nx+1) fun x300 e297 h298 n299=>exP x300 (oS ro K e297 h298 n299) (fun i301=>cN (Nat.beq i301 4) (oS ro K e297 h298 n299) (False)) (∃ h302,Sub h302 h298∧K (e297 2) h302 n299)
@[irreducible] def lU (ro:Ro) (Q:KE):Env→T Obj→Nat→Prop:=fun e h nx=>aB (aO .add (e 3) (Value.int IntKind.i64 1)) fun a'=>Q .normal (puts e [(54,(e 3)),(55,a'),(3,a')]) h (nx+3)
@[irreducible] def y7 (ro:Ro):PT:=fun e h nx Q=>aB (aO .lss (e 4) (e 3)) fun a'=>aR a' (aB (aS 0 (e 1)) fun b'=>aB (load1 ro h b') fun c'=>aB (cO 1 c' (e 4)) fun d'=>aB (load1 ro h d') fun e'=>aB (aS 0 (e 1)) fun f'=>aB (load1 ro h f') fun g'=>aB (cO 1 g' (e 3)) fun h'=>aB (load1 ro h h') fun i'=>aB (aEe .eql e' i') fun j'=>aR j' (Q .ret (puts e [(63,(e 4)),(64,(e 3)),(65,a'),(68,b'),(69,c'),(70,(e 4)),(71,d'),(72,e'),(73,f'),(74,g'),(75,(e 3)),(76,h'),(77,i'),(78,j'),(2,(Value.bool false))]) h (nx+15)) (aB (aO .add (e 4) (Value.int IntKind.i64 1)) fun k'=>Q .normal (puts e [(63,(e 4)),(64,(e 3)),(65,a'),(68,b'),(69,c'),(70,(e 4)),(71,d'),(72,e'),(73,f'),(74,g'),(75,(e 3)),(76,h'),(77,i'),(78,j'),(66,(e 4)),(67,k'),(4,k')]) h (nx+17))) (Q (.exit 2) (puts e [(63,(e 4)),(64,(e 3)),(65,a')]) h (nx+3))
@[irreducible] def y6 (ro:Ro):PT:=fun e h nx Q=>aB (aS 0 (e 1)) fun d'=>aB (load1 ro h d') fun e'=>aB (bG e') fun f'=>aB (aO .lss (e 3) f') fun g'=>aR g' (aB (aS 0 (e 1)) fun h'=>aB (load1 ro h h') fun i'=>aB (cO 1 i' (e 3)) fun j'=>aB (load1 ro h j') fun k'=>aN Tryz.prog ro rM [k'] h (nx+11) fun l' o' p'=>aB (unV .not l') fun m'=>aR m' (Q .ret (puts e [(49,(e 3)),(50,d'),(51,e'),(52,f'),(53,g'),(56,h'),(57,i'),(58,(e 3)),(59,j'),(60,k'),(61,l'),(62,m'),(2,(Value.bool false))]) o' (p'+2)) (dQ (y7 ro) (puts e [(49,(e 3)),(50,d'),(51,e'),(52,f'),(53,g'),(56,h'),(57,i'),(58,(e 3)),(59,j'),(60,k'),(61,l'),(62,m'),(4,(Value.int IntKind.i64 0))]) o' (p'+2) fun q' a' b' c'=>exP q' (lU ro Q a' b' c') (fun n'=>cN (Nat.beq n' 2) (lU ro Q a' b' c') (cN (Nat.beq n' 1) (lU ro Q a' b' c') (Q (.exit n') a' b' c'))) (Q .ret a' b' c'))) (Q (.exit 0) (puts e [(49,(e 3)),(50,d'),(51,e'),(52,f'),(53,g')]) h (nx+5))
@[irreducible] def aCl (ro:Ro) (v0:Value) (h:T Obj) (nx:Nat) (K:KV):Prop:=cS h nx (.cells (Value.cells v0) dF) fun h1=>aB (aS 0 (ptr nx)) fun p'=>aB (load1 ro h1 p') fun q'=>aB (bG q') fun r'=>aB (aO .lss r' (Value.int IntKind.i64 1)) fun d'=>ifP d' false h1 (nx+7) (fun k6=>aB (aS 0 (ptr nx)) fun aS'=>k6 aS' h1 (nx+8)) fun s' h8 n9=>ifP d' false h8 n9 (fun aT'=>aB (load1 ro h8 s') fun aU'=>aT' aU' h8 (n9+1)) fun t' u' v'=>ifP d' false u' v' (fun aV'=>aB (bG t') fun aW'=>aV' aW' u' (v'+1)) fun w' x' y'=>ifP d' false x' y' (fun aX'=>aB (aO .gtr w' (Value.int IntKind.i64 8)) fun aY'=>aX' aY' x' (y'+1)) fun z' A' B'=>aB (bO d' (Value.bool true) z') fun c'=>ifP c' false A' (B'+2) (fun aZ'=>aB (aS 0 (ptr nx)) fun a0'=>aZ' a0' A' (B'+3)) fun C' f' D'=>ifP c' false f' D' (fun a1'=>aB (load1 ro f' C') fun a2'=>a1' a2' f' (D'+1)) fun E' F' G'=>ifP c' false F' G' (fun a3'=>aB (cO 1 E' (Value.int IntKind.i64 0)) fun a4'=>a3' a4' F' (G'+1)) fun H' g' I'=>ifP c' false g' I' (fun a5'=>aB (load1 ro g' H') fun a6'=>a5' a6' g' (I'+1)) fun J' K' L'=>ifP c' false K' L' (fun a7'=>aB (aEe .neq J' (Value.string { data:=#[115,116,97,114,116] })) fun a8'=>a7' a8' K' (L'+1)) fun M' N' O'=>aB (bO c' (Value.bool true) M') fun e'=>ifP e' false N' (O'+2) (fun a9'=>aB (aS 1 (ptr nx)) fun ba'=>a9' ba' N' (O'+3)) fun P' h' Q'=>ifP e' false h' Q' (fun bb'=>aB (load1 ro h' P') fun bc'=>bb' bc' h' (Q'+1)) fun R' S' T'=>ifP e' false S' T' (fun bd'=>aB (bG R') fun be'=>bd' be' S' (T'+1)) fun U' V' W'=>ifP e' false V' W' (fun bf'=>aB (aO .gtr U' (Value.int IntKind.i64 64)) fun bg'=>bf' bg' V' (W'+1)) fun X' Y' Z'=>aB (bO e' (Value.bool true) X') fun b'=>ifP b' false Y' (Z'+2) (fun bh'=>aB (aS 2 (ptr nx)) fun bi'=>bh' bi' Y' (Z'+3)) fun aa' i' ab'=>ifP b' false i' ab' (fun bj'=>aB (load1 ro i' aa') fun bk'=>bj' bk' i' (ab'+1)) fun ac' ad' ae'=>ifP b' false ad' ae' (fun bl'=>aB (bG ac') fun bm'=>bl' bm' ad' (ae'+1)) fun af' ag' ah'=>ifP b' false ag' ah' (fun bn'=>aB (aS 1 (ptr nx)) fun bo'=>bn' bo' ag' (ah'+1)) fun ai' j' aj'=>ifP b' false j' aj' (fun bp'=>aB (load1 ro j' ai') fun bq'=>bp' bq' j' (aj'+1)) fun ak' al' am'=>ifP b' false al' am' (fun br'=>aB (bG ak') fun bs'=>br' bs' al' (am'+1)) fun an' ao' ap'=>ifP b' false ao' ap' (fun bt'=>aB (aO .neq af' an') fun bu'=>bt' bu' ao' (ap'+1)) fun aq' ar' as'=>aB (bO b' (Value.bool true) aq') fun a'=>ifP a' false ar' (as'+2) (fun bv'=>aB (aS 3 (ptr nx)) fun bw'=>bv' bw' ar' (as'+3)) fun at' k' au'=>ifP a' false k' au' (fun bx'=>aB (load1 ro k' at') fun by'=>bx' by' k' (au'+1)) fun av' aw' ax'=>ifP a' false aw' ax' (fun bz'=>aB (bG av') fun bA'=>bz' bA' aw' (ax'+1)) fun ay' az' aA'=>ifP a' false az' aA' (fun bB'=>aB (aS 0 (ptr nx)) fun bC'=>bB' bC' az' (aA'+1)) fun aB' l' aC'=>ifP a' false l' aC' (fun bD'=>aB (load1 ro l' aB') fun bE'=>bD' bE' l' (aC'+1)) fun aD' aE' aF'=>ifP a' false aE' aF' (fun bF'=>aB (bG aD') fun bG'=>bF' bG' aE' (aF'+1)) fun aG' aH' aI'=>ifP a' false aH' aI' (fun bH'=>aB (aO .mul (Value.int IntKind.i64 2) aG') fun bI'=>bH' bI' aH' (aI'+1)) fun aJ' aK' aL'=>ifP a' false aK' aL' (fun bJ'=>aB (aO .neq ay' aJ') fun bK'=>bJ' bK' aK' (aL'+1)) fun aM' aN' aO'=>aB (bO a' (Value.bool true) aM') fun aP'=>aR aP' (∃ aQ',Sub aQ' aN'∧K (Value.bool false) aQ' (aO'+2)) (dQ (y6 ro) (puts (gH [v0]) [(1,(ptr nx)),(2,(Value.bool false)),(7,p'),(8,q'),(9,r'),(10,d'),(11,d'),(12,s'),(13,t'),(14,w'),(15,z'),(16,c'),(17,c'),(18,C'),(19,E'),(20,H'),(21,J'),(22,M'),(23,e'),(24,e'),(25,P'),(26,R'),(27,U'),(28,X'),(29,b'),(30,b'),(31,aa'),(32,ac'),(33,af'),(34,ai'),(35,ak'),(36,an'),(37,aq'),(38,a'),(39,a'),(40,at'),(41,av'),(42,ay'),(43,aB'),(44,aD'),(45,aG'),(46,aJ'),(47,aM'),(48,aP'),(3,(Value.int IntKind.i64 0))]) aN' (aO'+2) fun bL' m' n' o'=>exP bL' (oR ro K m' n' o') (fun bM'=>cN (Nat.beq bM' 0) (oR ro K m' n' o') (False)) (∃ aR',Sub aR' n'∧K (m' 2) aR' o'))
theorem aE1 {ro:Ro}{v0:Value}{h:T Obj}{nx:Nat}{K:KV} (hw:aCl ro v0 h nx K):aN Tryz.prog ro uW [v0] h nx K:=a7 (P:=Tryz.prog) (fn:=Tryz.f21) (by kernel_rfl) (by kernel_rfl) (by kernel_rfl) (Eq.mpr (by kernel_rfl) hw)
@[irreducible] def rI (ro:Ro) (K:KV):Env→T Obj→Nat→Prop:=fun e h nx=>aB (aS 3 (e 1)) fun b'=>aB (load1 ro h b') fun c'=>aN Tryz.prog ro eL [c',(.func (.func uO) #[] #[(e 1)])] h (nx+4) fun d' e' f'=>aB (unV .not d') fun g'=>∃ a',Sub a' e'∧K g' a' (f'+2)
@[irreducible] def aBQ (ro:Ro):PT:=fun e h nx Q=>aB (aO .lss (e 72) (e 71)) fun e'=>aR e' (aB (cO 1 (e 70) (e 72)) fun f'=>aB (load1 ro h f') fun c'=>aB (aEe .neq c' (Value.string { data:=#[] })) fun d'=>ifP d' true h (nx+32) (fun ak'=>ak' c' h (nx+32)) fun g' E' F'=>ifP d' true E' F' (fun al'=>aN Tryz.prog ro pR [g'] E' F' fun am' an' ao'=>al' am' an' ao') fun h' G' H'=>ifP d' true G' H' (fun ap'=>aB (unV .not h') fun aq'=>ap' aq' G' H') fun i' I' J'=>aB (bO d' i' (Value.bool false)) fun b'=>ifP b' false I' J' (fun ar'=>aB (aS 2 (e 1)) fun as'=>ar' as' I' J') fun j' k' K'=>ifP b' false k' K' (fun at'=>aB (load1 ro k' j') fun au'=>at' au' k' K') fun l' L' M'=>ifP b' false L' M' (fun av'=>av' (e 72) L' M') fun m' N' O'=>ifP b' false N' O' (fun aw'=>aB (cO 1 l' m') fun ax'=>aw' ax' N' O') fun n' o' P'=>ifP b' false o' P' (fun ay'=>aB (load1 ro o' n') fun az'=>ay' az' o' P') fun p' Q' R'=>ifP b' false Q' R' (fun aA'=>aB (aO .lss p' (Value.int IntKind.i64 (-1))) fun aB'=>aA' aB' Q' R') fun q' S' T'=>aB (bO b' (Value.bool true) q') fun a'=>ifP a' false S' T' (fun aC'=>aB (aS 2 (e 1)) fun aD'=>aC' aD' S' T') fun r' s' U'=>ifP a' false s' U' (fun aE'=>aB (load1 ro s' r') fun aF'=>aE' aF' s' U') fun t' V' W'=>ifP a' false V' W' (fun aG'=>aG' (e 72) V' W') fun u' X' Y'=>ifP a' false X' Y' (fun aH'=>aB (cO 1 t' u') fun aI'=>aH' aI' X' Y') fun v' w' Z'=>ifP a' false w' Z' (fun aJ'=>aB (load1 ro w' v') fun aK'=>aJ' aK' w' Z') fun x' aa' ab'=>ifP a' false aa' ab' (fun aL'=>aB (aS 0 (e 1)) fun aM'=>aL' aM' aa' ab') fun y' z' ac'=>ifP a' false z' ac' (fun aN'=>aB (load1 ro z' y') fun aO'=>aN' aO' z' ac') fun A' ad' ae'=>ifP a' false ad' ae' (fun aP'=>aB (bG A') fun aQ'=>aP' aQ' ad' ae') fun B' af' ag'=>ifP a' false af' ag' (fun aR'=>aB (aO .geq x' B') fun aS'=>aR' aS' af' ag') fun C' ah' ai'=>aB (bO a' (Value.bool true) C') fun D'=>aR D' (Q .ret (puts e [(73,e'),(74,(e 72)),(75,f'),(76,c'),(5,(e 72)),(6,c'),(77,c'),(78,d'),(79,d'),(80,g'),(81,h'),(82,i'),(83,b'),(84,b'),(85,j'),(86,l'),(87,m'),(88,n'),(89,p'),(90,q'),(91,a'),(92,a'),(93,r'),(94,t'),(95,u'),(96,v'),(97,x'),(98,y'),(99,A'),(100,B'),(101,C'),(102,D'),(2,(Value.bool false))]) ah' (ai'+1)) (aB (aO .add (e 72) (Value.int IntKind.i64 1)) fun aj'=>Q .normal (puts e [(73,e'),(74,(e 72)),(75,f'),(76,c'),(5,(e 72)),(6,c'),(77,c'),(78,d'),(79,d'),(80,g'),(81,h'),(82,i'),(83,b'),(84,b'),(85,j'),(86,l'),(87,m'),(88,n'),(89,p'),(90,q'),(91,a'),(92,a'),(93,r'),(94,t'),(95,u'),(96,v'),(97,x'),(98,y'),(99,A'),(100,B'),(101,C'),(102,D'),(103,aj'),(72,aj')]) ah' (ai'+2))) (Q (.exit 2) (puts e [(73,e')]) h (nx+1))
@[irreducible] def rH (ro:Ro) (K:KV):Env→T Obj→Nat→Prop:=fun e h nx=>aB (aS 1 (e 1)) fun d'=>aB (load1 ro h d') fun e'=>aB (bG e') fun g'=>dQ (aBQ ro) (puts e [(69,d'),(70,e'),(71,g'),(72,(Value.int IntKind.i64 0))]) h (nx+4) fun h' a' b' c'=>exP h' (rI ro K a' b' c') (fun i'=>cN (Nat.beq i' 2) (rI ro K a' b' c') (False)) (∃ f',Sub f' b'∧K (a' 2) f' c')
@[irreducible] def aBR (ro:Ro):PT:=fun e h nx Q=>aB (aO .lss (e 52) (e 51)) fun c'=>aR c' (aB (cO 1 (e 50) (e 52)) fun d'=>aB (load1 ro h d') fun b'=>aN Tryz.prog ro pR [b'] h (nx+8) fun e' n' o'=>aB (unV .not e') fun a'=>ifP a' false n' (o'+2) (fun B'=>aB (aS 0 (e 1)) fun C'=>B' C' n' (o'+3)) fun f' g' p'=>ifP a' false g' p' (fun D'=>aB (load1 ro g' f') fun E'=>D' E' g' (p'+1)) fun h' q' r'=>ifP a' false q' r' (fun F'=>F' b' q' (r'+1)) fun i' s' t'=>ifP a' false s' t' (fun G'=>aN Tryz.prog ro hJ [h',i'] s' (t'+1) fun H' I' J'=>G' H' I' J') fun j' u' v'=>ifP a' false u' v' (fun K'=>K' (e 52) u' (v'+1)) fun k' w' x'=>ifP a' false w' x' (fun L'=>aB (aO .neq j' k') fun M'=>L' M' w' (x'+1)) fun l' y' z'=>aB (bO a' (Value.bool true) l') fun m'=>aR m' (Q .ret (puts e [(53,c'),(54,(e 52)),(55,d'),(56,b'),(3,(e 52)),(4,b'),(57,b'),(58,e'),(59,a'),(60,a'),(61,f'),(62,h'),(63,i'),(64,j'),(65,k'),(66,l'),(67,m'),(2,(Value.bool false))]) y' (z'+2)) (aB (aO .add (e 52) (Value.int IntKind.i64 1)) fun A'=>Q .normal (puts e [(53,c'),(54,(e 52)),(55,d'),(56,b'),(3,(e 52)),(4,b'),(57,b'),(58,e'),(59,a'),(60,a'),(61,f'),(62,h'),(63,i'),(64,j'),(65,k'),(66,l'),(67,m'),(68,A'),(52,A')]) y' (z'+3))) (Q (.exit 0) (puts e [(53,c')]) h (nx+1))
@[irreducible] def aFh (ro:Ro) (v0:Value) (h:T Obj) (nx:Nat) (K:KV):Prop:=cS h nx (.cells (Value.cells v0) dF) fun h1=>aB (aS 0 (ptr nx)) fun q'=>aB (load1 ro h1 q') fun r'=>aB (bG r') fun s'=>aB (aO .lss s' (Value.int IntKind.i64 1)) fun d'=>ifP d' false h1 (nx+7) (fun k6=>aB (aS 0 (ptr nx)) fun aU'=>k6 aU' h1 (nx+8)) fun t' h8 n9=>ifP d' false h8 n9 (fun aV'=>aB (load1 ro h8 t') fun aW'=>aV' aW' h8 (n9+1)) fun u' v' w'=>ifP d' false v' w' (fun aX'=>aB (bG u') fun aY'=>aX' aY' v' (w'+1)) fun x' y' z'=>ifP d' false y' z' (fun aZ'=>aB (aO .gtr x' (Value.int IntKind.i64 8)) fun a0'=>aZ' a0' y' (z'+1)) fun A' B' C'=>aB (bO d' (Value.bool true) A') fun c'=>ifP c' false B' (C'+2) (fun a1'=>aB (aS 0 (ptr nx)) fun a2'=>a1' a2' B' (C'+3)) fun D' f' E'=>ifP c' false f' E' (fun a3'=>aB (load1 ro f' D') fun a4'=>a3' a4' f' (E'+1)) fun F' G' H'=>ifP c' false G' H' (fun a5'=>aB (cO 1 F' (Value.int IntKind.i64 0)) fun a6'=>a5' a6' G' (H'+1)) fun I' g' J'=>ifP c' false g' J' (fun a7'=>aB (load1 ro g' I') fun a8'=>a7' a8' g' (J'+1)) fun K' L' M'=>ifP c' false L' M' (fun a9'=>aB (aEe .neq K' (Value.string { data:=#[115,116,97,114,116] })) fun ba'=>a9' ba' L' (M'+1)) fun N' O' P'=>aB (bO c' (Value.bool true) N') fun e'=>ifP e' false O' (P'+2) (fun bb'=>aB (aS 1 (ptr nx)) fun bc'=>bb' bc' O' (P'+3)) fun Q' h' R'=>ifP e' false h' R' (fun bd'=>aB (load1 ro h' Q') fun be'=>bd' be' h' (R'+1)) fun S' T' U'=>ifP e' false T' U' (fun bf'=>aB (bG S') fun bg'=>bf' bg' T' (U'+1)) fun V' W' X'=>ifP e' false W' X' (fun bh'=>aB (aO .gtr V' (Value.int IntKind.i64 64)) fun bi'=>bh' bi' W' (X'+1)) fun Y' Z' aa'=>aB (bO e' (Value.bool true) Y') fun b'=>ifP b' false Z' (aa'+2) (fun bj'=>aB (aS 2 (ptr nx)) fun bk'=>bj' bk' Z' (aa'+3)) fun ab' i' ac'=>ifP b' false i' ac' (fun bl'=>aB (load1 ro i' ab') fun bm'=>bl' bm' i' (ac'+1)) fun ad' ae' af'=>ifP b' false ae' af' (fun bn'=>aB (bG ad') fun bo'=>bn' bo' ae' (af'+1)) fun ag' ah' ai'=>ifP b' false ah' ai' (fun bp'=>aB (aS 1 (ptr nx)) fun bq'=>bp' bq' ah' (ai'+1)) fun aj' j' ak'=>ifP b' false j' ak' (fun br'=>aB (load1 ro j' aj') fun bs'=>br' bs' j' (ak'+1)) fun al' am' an'=>ifP b' false am' an' (fun bt'=>aB (bG al') fun bu'=>bt' bu' am' (an'+1)) fun ao' ap' aq'=>ifP b' false ap' aq' (fun bv'=>aB (aO .neq ag' ao') fun bw'=>bv' bw' ap' (aq'+1)) fun ar' as' at'=>aB (bO b' (Value.bool true) ar') fun a'=>ifP a' false as' (at'+2) (fun bx'=>aB (aS 3 (ptr nx)) fun by'=>bx' by' as' (at'+3)) fun au' k' av'=>ifP a' false k' av' (fun bz'=>aB (load1 ro k' au') fun bA'=>bz' bA' k' (av'+1)) fun aw' ax' ay'=>ifP a' false ax' ay' (fun bB'=>aB (bG aw') fun bC'=>bB' bC' ax' (ay'+1)) fun az' aA' aB'=>ifP a' false aA' aB' (fun bD'=>aB (aS 0 (ptr nx)) fun bE'=>bD' bE' aA' (aB'+1)) fun aC' l' aD'=>ifP a' false l' aD' (fun bF'=>aB (load1 ro l' aC') fun bG'=>bF' bG' l' (aD'+1)) fun aE' aF' aG'=>ifP a' false aF' aG' (fun bH'=>aB (bG aE') fun bI'=>bH' bI' aF' (aG'+1)) fun aH' aI' aJ'=>ifP a' false aI' aJ' (fun bJ'=>aB (aO .mul (Value.int IntKind.i64 2) aH') fun bK'=>bJ' bK' aI' (aJ'+1)) fun aK' aL' aM'=>ifP a' false aL' aM' (fun bL'=>aB (aO .neq az' aK') fun bM'=>bL' bM' aL' (aM'+1)) fun aN' m' aO'=>aB (bO a' (Value.bool true) aN') fun aP'=>aR aP' (∃ aQ',Sub aQ' m'∧K (Value.bool false) aQ' (aO'+2)) (aB (aS 0 (ptr nx)) fun aR'=>aB (load1 ro m' aR') fun aS'=>aB (bG aS') fun bN'=>dQ (aBR ro) (puts (gH [v0]) [(1,(ptr nx)),(2,(Value.bool false)),(7,q'),(8,r'),(9,s'),(10,d'),(11,d'),(12,t'),(13,u'),(14,x'),(15,A'),(16,c'),(17,c'),(18,D'),(19,F'),(20,I'),(21,K'),(22,N'),(23,e'),(24,e'),(25,Q'),(26,S'),(27,V'),(28,Y'),(29,b'),(30,b'),(31,ab'),(32,ad'),(33,ag'),(34,aj'),(35,al'),(36,ao'),(37,ar'),(38,a'),(39,a'),(40,au'),(41,aw'),(42,az'),(43,aC'),(44,aE'),(45,aH'),(46,aK'),(47,aN'),(48,aP'),(49,aR'),(50,aS'),(51,bN'),(52,(Value.int IntKind.i64 0))]) m' (aO'+5) fun bO' n' o' p'=>exP bO' (rH ro K n' o' p') (fun bP'=>cN (Nat.beq bP' 0) (rH ro K n' o' p') (False)) (∃ aT',Sub aT' o'∧K (n' 2) aT' p'))
theorem aG4 {ro:Ro}{v0:Value}{h:T Obj}{nx:Nat}{K:KV} (hw:aFh ro v0 h nx K):aN Tryz.prog ro yD [v0] h nx K:=a7 (P:=Tryz.prog) (fn:=Tryz.f36) (by kernel_rfl) (by kernel_rfl) (by kernel_rfl) (Eq.mpr (by kernel_rfl) hw)
@[irreducible] def pV (ro:Ro) (K:KV):Env→T Obj→Nat→Prop:=fun e h nx=>aB (wM (e 0)) fun d'=>aB (aO .geq d' (Value.int IntKind.i64 1)) fun a'=>ifP a' true h (nx+4) (fun k3=>k3 (e 0) h (nx+5)) fun e' h5 n6=>ifP a' true h5 n6 (fun k7=>aB (wM e') fun f'=>k7 f' h5 (n6+1)) fun g' h9 b'=>ifP a' true h9 b' (fun h'=>aB (aO .leq g' (Value.int IntKind.i64 32)) fun i'=>h' i' h9 (b'+1)) fun j' k' l'=>aB (bO a' j' (Value.bool false)) fun m'=>∃ c',Sub c' k'∧K m' c' (l'+2)
@[irreducible] def aAS (ro:Ro):PT:=fun e h nx Q=>aB (wM (e 0)) fun c'=>aB (aO .lss (e 3) c') fun d'=>aR d' (aB (aDw (e 0) (e 3)) fun e'=>aN Tryz.prog ro sZ [e'] h (nx+8) fun f' p' q'=>aB (unV .not f') fun a'=>ifP a' true p' (q'+2) (fun K'=>K' (e 3) p' (q'+3)) fun g' r' s'=>ifP a' true r' s' (fun L'=>aB (aO .eql g' (Value.int IntKind.i64 0)) fun M'=>L' M' r' (s'+1)) fun h' t' u'=>ifP a' true t' u' (fun N'=>N' h' t' (u'+1)) fun b' v' w'=>ifP b' false v' w' (fun O'=>O' (e 0) v' (w'+1)) fun i' x' y'=>ifP b' false x' y' (fun P'=>P' (e 3) x' (y'+1)) fun j' z' A'=>ifP b' false z' A' (fun Q'=>aB (aDw i' j') fun R'=>Q' R' z' (A'+1)) fun k' B' C'=>ifP b' false B' C' (fun S'=>aN Tryz.prog ro uS [k'] B' (C'+1) fun T' U' V'=>S' T' U' V') fun l' D' E'=>ifP b' false D' E' (fun W'=>aB (unV .not l') fun X'=>W' X' D' (E'+1)) fun m' F' G'=>ifP a' true F' G' (fun Y'=>aB (bO b' (Value.bool true) m') fun Z'=>Y' Z' F' (G'+1)) fun n' H' I'=>aB (bO a' n' (Value.bool false)) fun o'=>aR o' (Q .ret (puts e [(4,(e 3)),(5,(e 0)),(6,c'),(7,d'),(10,(e 0)),(11,(e 3)),(12,e'),(13,f'),(14,a'),(15,a'),(16,g'),(17,h'),(18,b'),(19,i'),(20,j'),(21,k'),(22,l'),(23,m'),(24,n'),(25,o'),(2,(Value.bool false))]) H' (I'+2)) (aB (aO .add (e 3) (Value.int IntKind.i64 1)) fun J'=>Q .normal (puts e [(4,(e 3)),(5,(e 0)),(6,c'),(7,d'),(10,(e 0)),(11,(e 3)),(12,e'),(13,f'),(14,a'),(15,a'),(16,g'),(17,h'),(18,b'),(19,i'),(20,j'),(21,k'),(22,l'),(23,m'),(24,n'),(25,o'),(8,(e 3)),(9,J'),(3,J')]) H' (I'+4))) (Q (.exit 0) (puts e [(4,(e 3)),(5,(e 0)),(6,c'),(7,d')]) h (nx+4))
@[irreducible] def aET (ro:Ro) (v0:Value) (h:T Obj) (nx:Nat) (K:KV):Prop:=dQ (aAS ro) (puts (gH [v0]) [(2,(Value.bool false)),(3,(Value.int IntKind.i64 0))]) h (nx+2) fun x74 e71 h72 n73=>exP x74 (pV ro K e71 h72 n73) (fun i75=>cN (Nat.beq i75 0) (pV ro K e71 h72 n73) (False)) (∃ h76,Sub h76 h72∧K (e71 2) h76 n73)
theorem aFO {ro:Ro}{v0:Value}{h:T Obj}{nx:Nat}{K:KV} (hw:aET ro v0 h nx K):aN Tryz.prog ro rM [v0] h nx K:=a7 (P:=Tryz.prog) (fn:=Tryz.f44) (by kernel_rfl) (by kernel_rfl) (by kernel_rfl) (Eq.mpr (by kernel_rfl) hw)
@[irreducible] def pX (ro:Ro) (K:KV):Env→T Obj→Nat→Prop:=fun e h nx=>∃ h9,Sub h9 h∧K (Value.bool true) h9 (nx+1)
@[irreducible] def mZ (ro:Ro) (Q:KE):Env→T Obj→Nat→Prop:=fun e h nx=>aB (aO .add (e 6) (Value.int IntKind.i64 1)) fun a'=>Q .normal (puts e [(58,(e 6)),(59,a'),(6,a')]) h (nx+3)
@[irreducible] def aAW (ro:Ro):PT:=fun e h nx Q=>aB (aS 0 (e 2)) fun a'=>aB (aS 258 a') fun b'=>aB (load1 ro h b') fun c'=>aB (cO 4 c' (e 6)) fun d'=>aB (aS 2 d') fun e'=>aB (load1 ro h e') fun f'=>aB (bG f') fun g'=>aB (aO .lss (e 7) g') fun h'=>aR h' (aB (aS 0 (e 2)) fun i'=>aB (aS 258 i') fun j'=>aB (load1 ro h j') fun k'=>aB (cO 4 k' (e 6)) fun l'=>aB (aS 2 l') fun m'=>aB (load1 ro h m') fun n'=>aB (cO 1 n' (e 7)) fun o'=>aB (load1 ro h o') fun p'=>aB (aS 259 (e 2)) fun q'=>aB (load1 ro h q') fun r'=>aB (bG r') fun s'=>aB (aO .geq p' s') fun t'=>aR t' (Q .ret (puts e [(60,(e 7)),(61,a'),(62,b'),(63,c'),(64,(e 6)),(65,d'),(66,e'),(67,f'),(68,g'),(69,h'),(72,i'),(73,j'),(74,k'),(75,(e 6)),(76,l'),(77,m'),(78,n'),(79,(e 7)),(80,o'),(81,p'),(82,q'),(83,r'),(84,s'),(85,t'),(4,(Value.bool false))]) h (nx+25)) (aB (aO .add (e 7) (Value.int IntKind.i64 1)) fun u'=>Q .normal (puts e [(60,(e 7)),(61,a'),(62,b'),(63,c'),(64,(e 6)),(65,d'),(66,e'),(67,f'),(68,g'),(69,h'),(72,i'),(73,j'),(74,k'),(75,(e 6)),(76,l'),(77,m'),(78,n'),(79,(e 7)),(80,o'),(81,p'),(82,q'),(83,r'),(84,s'),(85,t'),(70,(e 7)),(71,u'),(7,u')]) h (nx+27))) (Q (.exit 4) (puts e [(60,(e 7)),(61,a'),(62,b'),(63,c'),(64,(e 6)),(65,d'),(66,e'),(67,f'),(68,g'),(69,h')]) h (nx+10))
@[irreducible] def aAV (ro:Ro):PT:=fun e h nx Q=>aB (aS 0 (e 2)) fun d'=>aB (aS 258 d') fun e'=>aB (load1 ro h e') fun f'=>aB (bG f') fun g'=>aB (aO .lss (e 6) g') fun h'=>aR h' (dQ (aAW ro) (puts e [(52,(e 6)),(53,d'),(54,e'),(55,f'),(56,g'),(57,h'),(7,(Value.int IntKind.i64 0))]) h (nx+7) fun j' a' b' c'=>exP j' (mZ ro Q a' b' c') (fun i'=>cN (Nat.beq i' 4) (mZ ro Q a' b' c') (cN (Nat.beq i' 3) (mZ ro Q a' b' c') (Q (.exit i') a' b' c'))) (Q .ret a' b' c')) (Q (.exit 2) (puts e [(52,(e 6)),(53,d'),(54,e'),(55,f'),(56,g'),(57,h')]) h (nx+6))
@[irreducible] def pW (ro:Ro) (K:KV):Env→T Obj→Nat→Prop:=fun e h nx=>dQ (aAV ro) (puts e [(6,(Value.int IntKind.i64 0))]) h (nx+1) fun x45 e42 h43 n44=>exP x45 (pX ro K e42 h43 n44) (fun i46=>cN (Nat.beq i46 2) (pX ro K e42 h43 n44) (False)) (∃ h47,Sub h47 h43∧K (e42 4) h47 n44)
@[irreducible] def aAX (ro:Ro):PT:=fun e h nx Q=>aB (aS 259 (e 2)) fun d'=>aB (load1 ro h d') fun e'=>aB (bG e') fun f'=>aB (aO .lss (e 5) f') fun g'=>aR g' (aB (aS 259 (e 2)) fun h'=>aB (load1 ro h h') fun i'=>aB (cO 1 i' (e 5)) fun j'=>aB (load1 ro h j') fun k'=>aB (aO .lss k' (Value.int IntKind.i64 0)) fun b'=>ifP b' false h (nx+38) (fun aD'=>aB (aS 259 (e 2)) fun aE'=>aD' aE' h (nx+38)) fun l' m' O'=>ifP b' false m' O' (fun aF'=>aB (load1 ro m' l') fun aG'=>aF' aG' m' O') fun n' P' Q'=>ifP b' false P' Q' (fun aH'=>aH' (e 5) P' Q') fun o' R' S'=>ifP b' false R' S' (fun aI'=>aB (cO 1 n' o') fun aJ'=>aI' aJ' R' S') fun p' q' T'=>ifP b' false q' T' (fun aK'=>aB (load1 ro q' p') fun aL'=>aK' aL' q' T') fun r' U' V'=>ifP b' false U' V' (fun aM'=>aM' (e 1) U' V') fun s' W' X'=>ifP b' false W' X' (fun aN'=>aB (aO .geq r' s') fun aO'=>aN' aO' W' X') fun t' Y' Z'=>aB (bO b' (Value.bool true) t') fun c'=>ifP c' false Y' Z' (fun aP'=>aP' (e 5) Y' Z') fun u' aa' ab'=>ifP c' false aa' ab' (fun aQ'=>aB (aO .gtr u' (Value.int IntKind.i64 0)) fun aR'=>aQ' aR' aa' ab') fun v' ac' ad'=>ifP c' false ac' ad' (fun aS'=>aS' v' ac' ad') fun a' ae' af'=>ifP a' true ae' af' (fun aT'=>aB (aS 259 (e 2)) fun aU'=>aT' aU' ae' af') fun w' x' ag'=>ifP a' true x' ag' (fun aV'=>aB (load1 ro x' w') fun aW'=>aV' aW' x' ag') fun y' ah' ai'=>ifP a' true ah' ai' (fun aX'=>aX' (e 5) ah' ai') fun z' aj' ak'=>ifP a' true aj' ak' (fun aY'=>aB (aO .sub z' (Value.int IntKind.i64 1)) fun aZ'=>aY' aZ' aj' ak') fun A' al' am'=>ifP a' true al' am' (fun a0'=>aB (cO 1 y' A') fun a1'=>a0' a1' al' am') fun B' C' an'=>ifP a' true C' an' (fun a2'=>aB (load1 ro C' B') fun a3'=>a2' a3' C' an') fun D' ao' ap'=>ifP a' true ao' ap' (fun a4'=>aB (aS 259 (e 2)) fun a5'=>a4' a5' ao' ap') fun E' F' aq'=>ifP a' true F' aq' (fun a6'=>aB (load1 ro F' E') fun a7'=>a6' a7' F' aq') fun G' ar' as'=>ifP a' true ar' as' (fun a8'=>a8' (e 5) ar' as') fun H' at' au'=>ifP a' true at' au' (fun a9'=>aB (cO 1 G' H') fun ba'=>a9' ba' at' au') fun I' J' av'=>ifP a' true J' av' (fun bb'=>aB (load1 ro J' I') fun bc'=>bb' bc' J' av') fun K' aw' ax'=>ifP a' true aw' ax' (fun bd'=>aB (aO .geq D' K') fun be'=>bd' be' aw' ax') fun L' ay' az'=>ifP c' false ay' az' (fun bf'=>aB (bO a' L' (Value.bool false)) fun bg'=>bf' bg' ay' az') fun M' aA' aB'=>aB (bO c' (Value.bool true) M') fun N'=>aR N' (Q .ret (puts e [(12,(e 5)),(13,d'),(14,e'),(15,f'),(16,g'),(19,h'),(20,i'),(21,(e 5)),(22,j'),(23,k'),(24,b'),(25,b'),(26,l'),(27,n'),(28,o'),(29,p'),(30,r'),(31,s'),(32,t'),(33,c'),(34,c'),(35,u'),(36,v'),(37,a'),(38,w'),(39,y'),(40,z'),(41,A'),(42,B'),(43,D'),(44,E'),(45,G'),(46,H'),(47,I'),(48,K'),(49,L'),(50,M'),(51,N'),(4,(Value.bool false))]) aA' (aB'+1)) (aB (aO .add (e 5) (Value.int IntKind.i64 1)) fun aC'=>Q .normal (puts e [(12,(e 5)),(13,d'),(14,e'),(15,f'),(16,g'),(19,h'),(20,i'),(21,(e 5)),(22,j'),(23,k'),(24,b'),(25,b'),(26,l'),(27,n'),(28,o'),(29,p'),(30,r'),(31,s'),(32,t'),(33,c'),(34,c'),(35,u'),(36,v'),(37,a'),(38,w'),(39,y'),(40,z'),(41,A'),(42,B'),(43,D'),(44,E'),(45,G'),(46,H'),(47,I'),(48,K'),(49,L'),(50,M'),(51,N'),(17,(e 5)),(18,aC'),(5,aC')]) aA' (aB'+3))) (Q (.exit 0) (puts e [(12,(e 5)),(13,d'),(14,e'),(15,f'),(16,g')]) h (nx+5))
@[irreducible] def aE2 (ro:Ro) (v0 v1:Value) (h:T Obj) (nx:Nat) (K:KV):Prop:=cS h nx (.cells (Value.cells v0) cA) fun h1=>aB (aS 0 (ptr nx)) fun d'=>aB (loadA ro h1 259 d') fun e'=>aN Tryz.prog ro uU [e'] h1 (nx+5) fun f' h5 n6=>aB (unV .not f') fun g'=>aR g' (∃ h8,Sub h8 h5∧K (Value.bool false) h8 (n6+2)) (dQ (aAX ro) (puts (gH [v0,v1]) [(2,(ptr nx)),(4,(Value.bool false)),(8,d'),(9,e'),(10,f'),(11,g'),(5,(Value.int IntKind.i64 0))]) h5 (n6+2) fun i' a' b' c'=>exP i' (pW ro K a' b' c') (fun j'=>cN (Nat.beq j' 0) (pW ro K a' b' c') (False)) (∃ h',Sub h' b'∧K (a' 4) h' c'))
theorem aFV {ro:Ro}{v0 v1:Value}{h:T Obj}{nx:Nat}{K:KV} (hw:aE2 ro v0 v1 h nx K):aN Tryz.prog ro wJ [v0,v1] h nx K:=a7 (P:=Tryz.prog) (fn:=Tryz.f45) (by kernel_rfl) (by kernel_rfl) (by kernel_rfl) (Eq.mpr (by kernel_rfl) hw)
@[irreducible] def o5 (ro:Ro) (K:KV):Env→T Obj→Nat→Prop:=fun e h nx=>aB (wM (e 0)) fun d'=>aB (aO .geq d' (Value.int IntKind.i64 1)) fun a'=>ifP a' true h (nx+4) (fun k3=>k3 (e 0) h (nx+5)) fun e' h5 n6=>ifP a' true h5 n6 (fun k7=>aB (wM e') fun f'=>k7 f' h5 (n6+1)) fun g' h9 b'=>ifP a' true h9 b' (fun h'=>aB (aO .leq g' (Value.int IntKind.i64 32)) fun i'=>h' i' h9 (b'+1)) fun j' k' l'=>aB (bO a' j' (Value.bool false)) fun m'=>∃ c',Sub c' k'∧K m' c' (l'+2)
@[irreducible] def zJ (ro:Ro):PT:=fun e h nx Q=>aB (aO .lss (e 6) (e 5)) fun c'=>aR c' (aB (aDw (e 0) (e 6)) fun d'=>aN Tryz.prog ro qV [d'] h (nx+7) fun e' o' p'=>aB (unV .not e') fun a'=>ifP a' true o' (p'+2) (fun J'=>J' (e 6) o' (p'+3)) fun f' q' r'=>ifP a' true q' r' (fun K'=>aB (aO .eql f' (Value.int IntKind.i64 0)) fun L'=>K' L' q' (r'+1)) fun g' s' t'=>ifP a' true s' t' (fun M'=>M' g' s' (t'+1)) fun b' u' v'=>ifP b' false u' v' (fun N'=>N' (e 0) u' (v'+1)) fun h' w' x'=>ifP b' false w' x' (fun O'=>O' (e 6) w' (x'+1)) fun i' y' z'=>ifP b' false y' z' (fun P'=>aB (aDw h' i') fun Q'=>P' Q' y' (z'+1)) fun j' A' B'=>ifP b' false A' B' (fun R'=>aN Tryz.prog ro s4 [j'] A' (B'+1) fun S' T' U'=>R' S' T' U') fun k' C' D'=>ifP b' false C' D' (fun V'=>aB (unV .not k') fun W'=>V' W' C' (D'+1)) fun l' E' F'=>ifP a' true E' F' (fun X'=>aB (bO b' (Value.bool true) l') fun Y'=>X' Y' E' (F'+1)) fun m' G' H'=>aB (bO a' m' (Value.bool false)) fun n'=>aR n' (Q .ret (puts e [(7,c'),(8,(e 6)),(3,(e 6)),(9,(e 0)),(10,(e 6)),(11,d'),(12,e'),(13,a'),(14,a'),(15,f'),(16,g'),(17,b'),(18,h'),(19,i'),(20,j'),(21,k'),(22,l'),(23,m'),(24,n'),(2,(Value.bool false))]) G' (H'+2)) (aB (aO .add (e 6) (Value.int IntKind.i64 1)) fun I'=>Q .normal (puts e [(7,c'),(8,(e 6)),(3,(e 6)),(9,(e 0)),(10,(e 6)),(11,d'),(12,e'),(13,a'),(14,a'),(15,f'),(16,g'),(17,b'),(18,h'),(19,i'),(20,j'),(21,k'),(22,l'),(23,m'),(24,n'),(25,I'),(6,I')]) G' (H'+3))) (Q (.exit 0) (puts e [(7,c')]) h (nx+1))
@[irreducible] def aCp (ro:Ro) (v0:Value) (h:T Obj) (nx:Nat) (K:KV):Prop:=aB (wM v0) fun e'=>dQ (zJ ro) (puts (gH [v0]) [(2,(Value.bool false)),(4,v0),(5,e'),(6,(Value.int IntKind.i64 0))]) h (nx+4) fun f' a' b' c'=>exP f' (o5 ro K a' b' c') (fun g'=>cN (Nat.beq g' 0) (o5 ro K a' b' c') (False)) (∃ d',Sub d' b'∧K (a' 2) d' c')
theorem aEi {ro:Ro}{v0:Value}{h:T Obj}{nx:Nat}{K:KV} (hw:aCp ro v0 h nx K):aN Tryz.prog ro pR [v0] h nx K:=a7 (P:=Tryz.prog) (fn:=Tryz.f69) (by kernel_rfl) (by kernel_rfl) (by kernel_rfl) (Eq.mpr (by kernel_rfl) hw)
@[irreducible] def aC4 (ro:Ro) (v0 v1:Value) (h:T Obj) (nx:Nat) (K:KV):Prop:=cS h nx (.cells (Value.cells v0) cA) fun h1=>aB (loadA ro h1 260 (ptr nx)) fun b'=>aB (aS 1 v1) fun c'=>aB (load1 ro h1 c') fun d'=>aB (bG d') fun e'=>aN Tryz.prog ro aAh [b',e'] h1 (nx+7) fun f' h7 n8=>aB (unV .not f') fun g'=>∃ a',Sub a' h7∧K g' a' (n8+2)
theorem aDq {ro:Ro}{v0 v1:Value}{h:T Obj}{nx:Nat}{K:KV} (hw:aC4 ro v0 v1 h nx K):aN Tryz.prog ro uO [v0,v1] h nx K:=a7 (P:=Tryz.prog) (fn:=Tryz.f72) (by kernel_rfl) (by kernel_rfl) (by kernel_rfl) (Eq.mpr (by kernel_rfl) hw)
@[irreducible] def t7 (ro:Ro) (K:KV):Env→T Obj→Nat→Prop:=fun e h nx=>aB (aS 0 (e 2)) fun b'=>aB (loadA ro h 259 b') fun c'=>aN Tryz.prog ro rK [c'] h (nx+3) fun d' h5 n6=>aB (unV .not d') fun e'=>aR e' (∃ h8,Sub h8 h5∧K (Value.bool false) h8 (n6+2)) (aB (aS 0 (e 2)) fun f'=>aB (aS 258 f') fun g'=>aB (load1 ro h5 g') fun h'=>aN Tryz.prog ro dK [h',(.func (.func wF) #[] #[(e 2)])] h5 (n6+6) fun i' j' k'=>aB (unV .not i') fun l'=>∃ a',Sub a' j'∧K l' a' (k'+2))
@[irreducible] def aC5 (ro:Ro):PT:=fun e h nx Q=>aB (aO .lss (e 11) (e 10)) fun c'=>aR c' (aB (cO 1 (e 9) (e 11)) fun d'=>aB (load1 ro h d') fun a'=>aB (aO .leq a' (e 5)) fun b'=>ifP b' false h (nx+8) (fun p'=>p' a' h (nx+9)) fun e' i' j'=>ifP b' false i' j' (fun q'=>q' (e 1) i' (j'+1)) fun f' k' l'=>ifP b' false k' l' (fun r'=>aB (aO .geq e' f') fun s'=>r' s' k' (l'+1)) fun g' m' n'=>aB (bO b' (Value.bool true) g') fun h'=>aR h' (Q .ret (puts e [(12,c'),(13,d'),(14,a'),(7,a'),(15,a'),(16,(e 5)),(17,b'),(18,b'),(19,e'),(20,f'),(21,g'),(22,h'),(4,(Value.bool false))]) m' (n'+2)) (aB (aO .add (e 11) (Value.int IntKind.i64 1)) fun o'=>Q .normal (puts e [(12,c'),(13,d'),(14,a'),(7,a'),(15,a'),(16,(e 5)),(17,b'),(18,b'),(19,e'),(20,f'),(21,g'),(22,h'),(23,a'),(5,a'),(24,o'),(11,o')]) m' (n'+5))) (Q (.exit 0) (puts e [(12,c')]) h (nx+1))
@[irreducible] def aHq (ro:Ro) (v0 v1:Value) (h:T Obj) (nx:Nat) (K:KV):Prop:=cS h nx (.cells (Value.cells v0) cA) fun h1=>aB (aS 259 (ptr nx)) fun d'=>aB (load1 ro h1 d') fun e'=>aB (bG e') fun g'=>dQ (aC5 ro) (puts (gH [v0,v1]) [(2,(ptr nx)),(4,(Value.bool false)),(5,(Value.int IntKind.i64 (-1))),(8,d'),(9,e'),(10,g'),(11,(Value.int IntKind.i64 0))]) h1 (nx+7) fun h' a' b' c'=>exP h' (t7 ro K a' b' c') (fun i'=>cN (Nat.beq i' 0) (t7 ro K a' b' c') (False)) (∃ f',Sub f' b'∧K (a' 4) f' c')
theorem aHr {ro:Ro}{v0 v1:Value}{h:T Obj}{nx:Nat}{K:KV} (hw:aHq ro v0 v1 h nx K):aN Tryz.prog ro aAh [v0,v1] h nx K:=a7 (P:=Tryz.prog) (fn:=Tryz.f73) (by kernel_rfl) (by kernel_rfl) (by kernel_rfl) (Eq.mpr (by kernel_rfl) hw)
@[irreducible] def aBa (ro:Ro) (v0:Value) (h:T Obj) (nx:Nat) (K:KV):Prop:=aB (aO .geq v0 (Value.int IntKind.u8 97)) fun b'=>ifP b' true h (nx+4) (fun k2=>k2 v0 h (nx+5)) fun t' h4 n5=>ifP b' true h4 n5 (fun k6=>aB (aO .leq t' (Value.int IntKind.u8 122)) fun u'=>k6 u' h4 (n5+1)) fun v' h8 n9=>aB (bO b' v' (Value.bool false)) fun a'=>ifP a' false h8 (n9+2) (fun w'=>w' v0 h8 (n9+3)) fun x' e' f'=>ifP a' false e' f' (fun y'=>aB (aO .geq x' (Value.int IntKind.u8 65)) fun z'=>y' z' e' (f'+1)) fun A' g' h'=>ifP a' false g' h' (fun B'=>B' A' g' (h'+1)) fun c' i' j'=>ifP c' true i' j' (fun C'=>C' v0 i' (j'+1)) fun D' k' l'=>ifP c' true k' l' (fun E'=>aB (aO .leq D' (Value.int IntKind.u8 90)) fun F'=>E' F' k' (l'+1)) fun G' m' n'=>ifP a' false m' n' (fun H'=>aB (bO c' G' (Value.bool false)) fun I'=>H' I' m' (n'+1)) fun J' o' p'=>aB (bO a' (Value.bool true) J') fun d'=>ifP d' false o' (p'+2) (fun K'=>K' v0 o' (p'+3)) fun L' q' r'=>ifP d' false q' r' (fun M'=>aB (aO .eql L' (Value.int IntKind.u8 95)) fun N'=>M' N' q' (r'+1)) fun O' P' Q'=>aB (bO d' (Value.bool true) O') fun R'=>∃ s',Sub s' P'∧K R' s' (Q'+2)
theorem aDC {ro:Ro}{v0:Value}{h:T Obj}{nx:Nat}{K:KV} (hw:aBa ro v0 h nx K):aN Tryz.prog ro sZ [v0] h nx K:=a7 (P:=Tryz.prog) (fn:=Tryz.f81) (by kernel_rfl) (by kernel_rfl) (by kernel_rfl) (Eq.mpr (by kernel_rfl) hw)
@[irreducible] def aCf (ro:Ro) (v0:Value) (h:T Obj) (nx:Nat) (K:KV):Prop:=aB (aO .geq v0 (Value.int IntKind.u8 48)) fun a'=>ifP a' true h (nx+4) (fun k2=>k2 v0 h (nx+5)) fun c' h4 n5=>ifP a' true h4 n5 (fun k6=>aB (aO .leq c' (Value.int IntKind.u8 57)) fun d'=>k6 d' h4 (n5+1)) fun e' h8 n9=>aB (bO a' e' (Value.bool false)) fun f'=>∃ b',Sub b' h8∧K f' b' (n9+2)
theorem aEU {ro:Ro}{v0:Value}{h:T Obj}{nx:Nat}{K:KV} (hw:aCf ro v0 h nx K):aN Tryz.prog ro uS [v0] h nx K:=a7 (P:=Tryz.prog) (fn:=Tryz.f82) (by kernel_rfl) (by kernel_rfl) (by kernel_rfl) (Eq.mpr (by kernel_rfl) hw)
@[irreducible] def aA6 (ro:Ro) (v0:Value) (h:T Obj) (nx:Nat) (K:KV):Prop:=aB (aO .geq v0 (Value.int IntKind.u8 97)) fun b'=>ifP b' true h (nx+4) (fun k2=>k2 v0 h (nx+5)) fun t' h4 n5=>ifP b' true h4 n5 (fun k6=>aB (aO .leq t' (Value.int IntKind.u8 122)) fun u'=>k6 u' h4 (n5+1)) fun v' h8 n9=>aB (bO b' v' (Value.bool false)) fun a'=>ifP a' false h8 (n9+2) (fun w'=>w' v0 h8 (n9+3)) fun x' e' f'=>ifP a' false e' f' (fun y'=>aB (aO .geq x' (Value.int IntKind.u8 65)) fun z'=>y' z' e' (f'+1)) fun A' g' h'=>ifP a' false g' h' (fun B'=>B' A' g' (h'+1)) fun c' i' j'=>ifP c' true i' j' (fun C'=>C' v0 i' (j'+1)) fun D' k' l'=>ifP c' true k' l' (fun E'=>aB (aO .leq D' (Value.int IntKind.u8 90)) fun F'=>E' F' k' (l'+1)) fun G' m' n'=>ifP a' false m' n' (fun H'=>aB (bO c' G' (Value.bool false)) fun I'=>H' I' m' (n'+1)) fun J' o' p'=>aB (bO a' (Value.bool true) J') fun d'=>ifP d' false o' (p'+2) (fun K'=>K' v0 o' (p'+3)) fun L' q' r'=>ifP d' false q' r' (fun M'=>aB (aO .eql L' (Value.int IntKind.u8 95)) fun N'=>M' N' q' (r'+1)) fun O' P' Q'=>aB (bO d' (Value.bool true) O') fun R'=>∃ s',Sub s' P'∧K R' s' (Q'+2)
theorem aCP {ro:Ro}{v0:Value}{h:T Obj}{nx:Nat}{K:KV} (hw:aA6 ro v0 h nx K):aN Tryz.prog ro qV [v0] h nx K:=a7 (P:=Tryz.prog) (fn:=Tryz.f109) (by kernel_rfl) (by kernel_rfl) (by kernel_rfl) (Eq.mpr (by kernel_rfl) hw)
@[irreducible] def aBj (ro:Ro) (v0:Value) (h:T Obj) (nx:Nat) (K:KV):Prop:=aB (aO .geq v0 (Value.int IntKind.u8 48)) fun a'=>ifP a' true h (nx+4) (fun k2=>k2 v0 h (nx+5)) fun c' h4 n5=>ifP a' true h4 n5 (fun k6=>aB (aO .leq c' (Value.int IntKind.u8 57)) fun d'=>k6 d' h4 (n5+1)) fun e' h8 n9=>aB (bO a' e' (Value.bool false)) fun f'=>∃ b',Sub b' h8∧K f' b' (n9+2)
theorem aDE {ro:Ro}{v0:Value}{h:T Obj}{nx:Nat}{K:KV} (hw:aBj ro v0 h nx K):aN Tryz.prog ro s4 [v0] h nx K:=a7 (P:=Tryz.prog) (fn:=Tryz.f110) (by kernel_rfl) (by kernel_rfl) (by kernel_rfl) (Eq.mpr (by kernel_rfl) hw)
@[irreducible] def aDr (ro:Ro) (v0 v1:Value) (h:T Obj) (nx:Nat) (K:KV):Prop:=cS h nx (.cells (Value.cells v0) bA) fun h1=>aB (aS 2 (ptr nx)) fun c'=>aB (load1 ro h1 c') fun d'=>aN Tryz.prog ro lQ [d'] h1 (nx+10) fun e' h5 n6=>aB (aS 259 v1) fun a'=>aB (load1 ro h5 a') fun f'=>(jT a' h1 h5)∧(aB (bG f') fun g'=>aB (aO .geq e' g') fun h'=>∃ b',Sub b' h5∧K h' b' n6)
theorem aFF {ro:Ro}{v0 v1:Value}{h:T Obj}{nx:Nat}{K:KV} (hw:aDr ro v0 v1 h nx K):aN Tryz.prog ro wF [v0,v1] h nx K:=a7 (P:=Tryz.prog) (fn:=Tryz.f113) (by kernel_rfl) (by kernel_rfl) (by kernel_rfl) (Eq.mpr (by kernel_rfl) hw)
end V
end Go.Proofs.YtcaccnneblghgaaGreat
namespace Go.Proofs.YtcaccnneblghgaaGreat
namespace V
attribute [local irreducible] aB ifP aR cS eQ exP cN
section
variable {ro:Ro}{h:T Obj}{nx:Nat}{K:KV}
theorem aDF {c:Nat} (hK:∀ nx',nx≤nx'→K (.bool (aGb c)) h nx'):aN Tryz.prog ro qV [.int .u8 (c:Int)] h nx K:=by
 have fin:∀ (b:Bool) n',nx≤n'→aGb c=b→∃ h',Sub h' h∧K (.bool b) h' n':=fun b n' hn hb=>⟨h,Sub.refl _,by rw[← hb]; exact hK _ hn⟩
 apply aCP
 unfold aA6
 by_cases h1:97≤c
 ·by_cases h2:c≤122
  ·(repeat(first|refine zzB ?_|apply aD|apply aE|with_reducible first|apply aG|apply aF|apply aK|apply aH|apply aJ|apply aI|apply aL|apply aC))
   exact fin _ _ (by omega) (decide_eq_true (by omega))
  ·(repeat(first|refine zzB ?_|apply aD|apply aE|with_reducible first|apply aG|apply aF|apply aK|apply aH|apply aJ|apply aI|apply aL|apply aC))
   exact fin _ _ (by omega) (decide_eq_false (by omega))
 ·by_cases h3:65≤c
  ·by_cases h4:c≤90
   ·(repeat(first|refine zzB ?_|apply aD|apply aE|with_reducible first|apply aG|apply aF|apply aK|apply aH|apply aJ|apply aI|apply aL|apply aC))
    exact fin _ _ (by omega) (decide_eq_true (by omega))
   ·by_cases h5:c=95
    ·(repeat(first|refine zzB ?_|apply aD|apply aE|with_reducible first|apply aG|apply aF|apply aK|apply aH|apply aJ|apply aI|apply aL|apply aC))
     exact fin _ _ (by omega) (decide_eq_true (by omega))
    ·(repeat(first|refine zzB ?_|apply aD|apply aE|with_reducible first|apply aG|apply aF|apply aK|apply aH|apply aJ|apply aI|apply aL|apply aC))
     exact fin _ _ (by omega) (decide_eq_false (by omega))
  ·(repeat(first|refine zzB ?_|apply aD|apply aE|with_reducible first|apply aG|apply aF|apply aK|apply aH|apply aJ|apply aI|apply aL|apply aC))
   exact fin _ _ (by omega) (decide_eq_false (by omega))
theorem aEV {c:Nat} (hK:∀ nx',nx≤nx'→K (.bool (aGb c)) h nx'):aN Tryz.prog ro sZ [.int .u8 (c:Int)] h nx K:=by
 have fin:∀ (b:Bool) n',nx≤n'→aGb c=b→∃ h',Sub h' h∧K (.bool b) h' n':=fun b n' hn hb=>⟨h,Sub.refl _,by rw[← hb]; exact hK _ hn⟩
 apply aDC
 unfold aBa
 by_cases h1:97≤c
 ·by_cases h2:c≤122
  ·(repeat(first|refine zzB ?_|apply aD|apply aE|with_reducible first|apply aG|apply aF|apply aK|apply aH|apply aJ|apply aI|apply aL|apply aC))
   exact fin _ _ (by omega) (decide_eq_true (by omega))
  ·(repeat(first|refine zzB ?_|apply aD|apply aE|with_reducible first|apply aG|apply aF|apply aK|apply aH|apply aJ|apply aI|apply aL|apply aC))
   exact fin _ _ (by omega) (decide_eq_false (by omega))
 ·by_cases h3:65≤c
  ·by_cases h4:c≤90
   ·(repeat(first|refine zzB ?_|apply aD|apply aE|with_reducible first|apply aG|apply aF|apply aK|apply aH|apply aJ|apply aI|apply aL|apply aC))
    exact fin _ _ (by omega) (decide_eq_true (by omega))
   ·by_cases h5:c=95
    ·(repeat(first|refine zzB ?_|apply aD|apply aE|with_reducible first|apply aG|apply aF|apply aK|apply aH|apply aJ|apply aI|apply aL|apply aC))
     exact fin _ _ (by omega) (decide_eq_true (by omega))
    ·(repeat(first|refine zzB ?_|apply aD|apply aE|with_reducible first|apply aG|apply aF|apply aK|apply aH|apply aJ|apply aI|apply aL|apply aC))
     exact fin _ _ (by omega) (decide_eq_false (by omega))
  ·(repeat(first|refine zzB ?_|apply aD|apply aE|with_reducible first|apply aG|apply aF|apply aK|apply aH|apply aJ|apply aI|apply aL|apply aC))
   exact fin _ _ (by omega) (decide_eq_false (by omega))
theorem aEj {c:Nat} (hK:∀ nx',nx≤nx'→K (.bool (aGU c)) h nx'):aN Tryz.prog ro s4 [.int .u8 (c:Int)] h nx K:=by
 have fin:∀ (b:Bool) n',nx≤n'→aGU c=b→∃ h',Sub h' h∧K (.bool b) h' n':=fun b n' hn hb=>⟨h,Sub.refl _,by rw[← hb]; exact hK _ hn⟩
 apply aDE
 unfold aBj
 by_cases h1:48≤c
 ·by_cases h2:c≤57
  ·(repeat(first|refine zzB ?_|apply aD|apply aE|with_reducible first|apply aG|apply aF|apply aK|apply aH|apply aJ|apply aI|apply aL|apply aC))
   exact fin _ _ (by omega) (decide_eq_true (by omega))
  ·(repeat(first|refine zzB ?_|apply aD|apply aE|with_reducible first|apply aG|apply aF|apply aK|apply aH|apply aJ|apply aI|apply aL|apply aC))
   exact fin _ _ (by omega) (decide_eq_false (by omega))
 ·(repeat(first|refine zzB ?_|apply aD|apply aE|with_reducible first|apply aG|apply aF|apply aK|apply aH|apply aJ|apply aI|apply aL|apply aC))
  exact fin _ _ (by omega) (decide_eq_false (by omega))
theorem aFP {c:Nat} (hK:∀ nx',nx≤nx'→K (.bool (aGU c)) h nx'):aN Tryz.prog ro uS [.int .u8 (c:Int)] h nx K:=by
 have fin:∀ (b:Bool) n',nx≤n'→aGU c=b→∃ h',Sub h' h∧K (.bool b) h' n':=fun b n' hn hb=>⟨h,Sub.refl _,by rw[← hb]; exact hK _ hn⟩
 apply aEU
 unfold aCf
 by_cases h1:48≤c
 ·by_cases h2:c≤57
  ·(repeat(first|refine zzB ?_|apply aD|apply aE|with_reducible first|apply aG|apply aF|apply aK|apply aH|apply aJ|apply aI|apply aL|apply aC))
   exact fin _ _ (by omega) (decide_eq_true (by omega))
  ·(repeat(first|refine zzB ?_|apply aD|apply aE|with_reducible first|apply aG|apply aF|apply aK|apply aH|apply aJ|apply aI|apply aL|apply aC))
   exact fin _ _ (by omega) (decide_eq_false (by omega))
 ·(repeat(first|refine zzB ?_|apply aD|apply aE|with_reducible first|apply aG|apply aF|apply aK|apply aH|apply aJ|apply aI|apply aL|apply aC))
  exact fin _ _ (by omega) (decide_eq_false (by omega))
end
end V
end Go.Proofs.YtcaccnneblghgaaGreat
namespace Go.Proofs.YtcaccnneblghgaaGreat
namespace V
attribute [local irreducible] aB ifP aR cS eQ exP cN
section
variable {ro:Ro}{h:T Obj}{nx:Nat}{K:KV}
set_option maxRecDepth 4000 in
theorem aA5 {s:ByteArray} (hs:s.size≤9223372036854775807) (hK:∀ nx',nx≤nx'→K (.bool (j9 s)) h nx'):aN Tryz.prog ro pR [.string s] h nx K:=by
 have hbl:=aGP s
 have hl:=aDz s
 rw[hbl] at hl
 apply aEi
 unfold aCp
 refine aA hl ?_
 refine a9 (fun j e h' nx'=>∃ k:Nat,k+j=s.size∧nx≤nx'∧h'=h∧e 0=.string s∧e 5=.int .i64 (s.size:Nat)∧e 2=.bool false∧e 6=.int .i64 k∧pE true (bts s)=pE (decide (k=0)) ((bts s).drop k)) ?_ (n:=s.size) ⟨0,by omega,by omega,rfl,rfl,rfl, rfl,rfl,rfl⟩
 rintro j e h' nx' ⟨k,hj,hnx,rfl,e0,e5,e2,eI,hq⟩ Q' hc hx
 unfold zJ
 rw[e5, e0,eI]
 refine dC (fun hk=>?_) (fun hk=>?_)
 ·have hk:k < s.size:=by omega
  have hkb:k < (bts s).length:=by omega
  have hbb:=aMM _ (List.getElem_mem hkb)
  have hix:=aFj (s:=s) (k:=.i64) hkb
  have hdr:(bts s).drop k=(bts s)[k]::(bts s).drop (k+1):=List.drop_eq_getElem_cons hkb
  rw[hdr] at hq
  generalize (bts s)[k]=b at hbb hix hq
  have hq:pE true (bts s)=((aGb b || !(decide (k=0))&&aGU b)&&pE false ((bts s).drop (k+1))):=hq
  have hcont:∀ (e':Env) n',nx≤n'→e' 0=.string s→e' 5=.int .i64 (s.size:Nat)→e' 2=.bool false→e' 6=.int .i64 ((k:Int)+1)→pE true (bts s)=pE false ((bts s).drop (k+1))→Q' .normal e' h' n':=by
   intro e' n' hn f0 f5 f2 fI hqq
   refine hc (j - 1) _ _ _ _ (by omega) ⟨k+1,by omega,hn,rfl,f0,f5,f2,by rw[fI]; rfl,?_⟩ (Sub.refl _)
   rw[hqq,decide_eq_false (by omega)]
  have hno:pE true (bts s)=false→K (.bool false) h'=K (.bool (j9 s)) h':=fun hn=>by
   have:j9 s=false:=by unfold j9; rw[hn]; rfl
   rw[this]
  (repeat(first|refine aA (by simp (disch:=first|omega|exact nnN _|assumption) only [BB,B2,↓reduceIte,Nat.reduceLeDiff,Nat.reduceAdd,CC,hix]<;>rfl) ?_|apply aD|apply aE|with_reducible first|apply aG|apply aF|apply aK|apply aH|apply aJ|apply aI|apply aL|apply aC))
  refine aDF fun n1 hn1=>?_
  cases hlt:aGb b with
  | true =>
   rw[hlt] at hq
   (repeat(first|refine zzB ?_|apply aD|apply aE|with_reducible first|apply aG|apply aF|apply aK|apply aH|apply aJ|apply aI|apply aL|apply aC))
   exact hcont _ _ (by omega) e0 e5 e2 rfl (by rw[hq]; simp)
  | false =>
   rw[hlt] at hq
   by_cases hk0:k=0
   ·(repeat(first|refine zzB ?_|apply aD|apply aE|with_reducible first|apply aG|apply aF|apply aK|apply aH|apply aJ|apply aI|apply aL|apply aC))
    refine hx _ _ _ _ (fun e=>by cases e) (eW ?_)
    refine⟨h',Sub.refl _,?_⟩
    show K (.bool false) h' _
    rw[hno (by rw[hq,decide_eq_true hk0]; rfl)]
    exact hK _ (by omega)
   ·(repeat(first|refine aA (by simp (disch:=first|omega|exact nnN _|assumption) only [BB,B2,↓reduceIte,Nat.reduceLeDiff,Nat.reduceAdd,CC,hix]<;>rfl) ?_|apply aD|apply aE|with_reducible first|apply aG|apply aF|apply aK|apply aH|apply aJ|apply aI|apply aL|apply aC))
    refine aEj fun n2 hn2=>?_
    cases hdg:aGU b with
    | true =>
     rw[hdg] at hq
     (repeat(first|refine zzB ?_|apply aD|apply aE|with_reducible first|apply aG|apply aF|apply aK|apply aH|apply aJ|apply aI|apply aL|apply aC))
     exact hcont _ _ (by omega) e0 e5 e2 rfl (by rw[hq,decide_eq_false hk0]; simp)
    | false =>
     rw[hdg] at hq
     (repeat(first|refine zzB ?_|apply aD|apply aE|with_reducible first|apply aG|apply aF|apply aK|apply aH|apply aJ|apply aI|apply aL|apply aC))
     refine hx _ _ _ _ (fun e=>by cases e) (eW ?_)
     refine⟨h',Sub.refl _,?_⟩
     show K (.bool false) h' _
     rw[hno (by rw[hq,decide_eq_false hk0]; rfl)]
     exact hK _ (by omega)
 ·have hk:k=s.size:=by omega
  have hnl:pE true (bts s)=true:=by rw[hq,List.drop_of_length_le (by omega)]; rfl
  (repeat(first|refine zzB ?_|apply aD|apply aE|with_reducible first|apply aG|apply aF|apply aK|apply aH|apply aJ|apply aI|apply aL|apply aC))
  refine hx _ _ _ _ (fun e=>by cases e) (eA (cR ?_))
  have hend:∀ (e':Env) n',nx≤n'→e' 0=.string s→o5 ro K e' h' n':=by
   intro e' n' hn f0
   unfold o5
   rw[f0]
   refine aA hl ?_
   by_cases h1:1≤s.size
   ·(repeat(first|refine zzB ?_|apply aD|apply aE|with_reducible first|apply aG|apply aF|apply aK|apply aH|apply aJ|apply aI|apply aL|apply aC))
    refine aA hl ?_
    by_cases h2:s.size≤32
    ·(repeat(first|refine zzB ?_|apply aD|apply aE|with_reducible first|apply aG|apply aF|apply aK|apply aH|apply aJ|apply aI|apply aL|apply aC))
     refine⟨h',Sub.refl _,?_⟩
     have:j9 s=true:=by unfold j9; rw[hnl,decide_eq_true h1,decide_eq_true h2]; rfl
     rw[← this]; exact hK _ (by omega)
    ·(repeat(first|refine zzB ?_|apply aD|apply aE|with_reducible first|apply aG|apply aF|apply aK|apply aH|apply aJ|apply aI|apply aL|apply aC))
     refine⟨h',Sub.refl _,?_⟩
     have:j9 s=false:=by unfold j9; rw[hnl,decide_eq_true h1,decide_eq_false h2]; rfl
     rw[← this]; exact hK _ (by omega)
   ·(repeat(first|refine zzB ?_|apply aD|apply aE|with_reducible first|apply aG|apply aF|apply aK|apply aH|apply aJ|apply aI|apply aL|apply aC))
    refine⟨h',Sub.refl _,?_⟩
    have:j9 s=false:=by unfold j9; rw[hnl,decide_eq_false h1]; rfl
    rw[← this]; exact hK _ (by omega)
  exact hend _ _ (by omega) e0
set_option maxRecDepth 4000 in
theorem aB9 {s:ByteArray} (hs:s.size≤9223372036854775807) (hK:∀ nx',nx≤nx'→K (.bool (j9 s)) h nx'):aN Tryz.prog ro rM [.string s] h nx K:=by
 have hbl:=aGP s
 have hl:=aDz s
 rw[hbl] at hl
 apply aFO
 unfold aET
 skip
 refine a9 (fun j e h' nx'=>∃ k:Nat,k+j=s.size∧nx≤nx'∧h'=h∧e 0=.string s∧ e 2=.bool false∧e 3=.int .i64 k∧pE true (bts s)=pE (decide (k=0)) ((bts s).drop k)) ?_ (n:=s.size) ⟨0,by omega,by omega,rfl,rfl, rfl,rfl,rfl⟩
 rintro j e h' nx' ⟨k,hj,hnx,rfl,e0, e2,eI,hq⟩ Q' hc hx
 unfold aAS
 rw[ e0,eI]
 refine aA hl ?_
 refine dC (fun hk=>?_) (fun hk=>?_)
 ·have hk:k < s.size:=by omega
  have hkb:k < (bts s).length:=by omega
  have hbb:=aMM _ (List.getElem_mem hkb)
  have hix:=aFj (s:=s) (k:=.i64) hkb
  have hdr:(bts s).drop k=(bts s)[k]::(bts s).drop (k+1):=List.drop_eq_getElem_cons hkb
  rw[hdr] at hq
  generalize (bts s)[k]=b at hbb hix hq
  have hq:pE true (bts s)=((aGb b || !(decide (k=0))&&aGU b)&&pE false ((bts s).drop (k+1))):=hq
  have hcont:∀ (e':Env) n',nx≤n'→e' 0=.string s→ e' 2=.bool false→e' 3=.int .i64 ((k:Int)+1)→pE true (bts s)=pE false ((bts s).drop (k+1))→Q' .normal e' h' n':=by
   intro e' n' hn f0  f2 fI hqq
   refine hc (j - 1) _ _ _ _ (by omega) ⟨k+1,by omega,hn,rfl,f0, f2,by rw[fI]; rfl,?_⟩ (Sub.refl _)
   rw[hqq,decide_eq_false (by omega)]
  have hno:pE true (bts s)=false→K (.bool false) h'=K (.bool (j9 s)) h':=fun hn=>by
   have:j9 s=false:=by unfold j9; rw[hn]; rfl
   rw[this]
  (repeat(first|refine aA (by simp (disch:=first|omega|exact nnN _|assumption) only [BB,B2,↓reduceIte,Nat.reduceLeDiff,Nat.reduceAdd,CC,hix]<;>rfl) ?_|apply aD|apply aE|with_reducible first|apply aG|apply aF|apply aK|apply aH|apply aJ|apply aI|apply aL|apply aC))
  refine aEV fun n1 hn1=>?_
  cases hlt:aGb b with
  | true =>
   rw[hlt] at hq
   (repeat(first|refine zzB ?_|apply aD|apply aE|with_reducible first|apply aG|apply aF|apply aK|apply aH|apply aJ|apply aI|apply aL|apply aC))
   exact hcont _ _ (by omega) e0  e2 rfl (by rw[hq]; simp)
  | false =>
   rw[hlt] at hq
   by_cases hk0:k=0
   ·(repeat(first|refine zzB ?_|apply aD|apply aE|with_reducible first|apply aG|apply aF|apply aK|apply aH|apply aJ|apply aI|apply aL|apply aC))
    refine hx _ _ _ _ (fun e=>by cases e) (eW ?_)
    refine⟨h',Sub.refl _,?_⟩
    show K (.bool false) h' _
    rw[hno (by rw[hq,decide_eq_true hk0]; rfl)]
    exact hK _ (by omega)
   ·(repeat(first|refine aA (by simp (disch:=first|omega|exact nnN _|assumption) only [BB,B2,↓reduceIte,Nat.reduceLeDiff,Nat.reduceAdd,CC,hix]<;>rfl) ?_|apply aD|apply aE|with_reducible first|apply aG|apply aF|apply aK|apply aH|apply aJ|apply aI|apply aL|apply aC))
    refine aFP fun n2 hn2=>?_
    cases hdg:aGU b with
    | true =>
     rw[hdg] at hq
     (repeat(first|refine zzB ?_|apply aD|apply aE|with_reducible first|apply aG|apply aF|apply aK|apply aH|apply aJ|apply aI|apply aL|apply aC))
     exact hcont _ _ (by omega) e0  e2 rfl (by rw[hq,decide_eq_false hk0]; simp)
    | false =>
     rw[hdg] at hq
     (repeat(first|refine zzB ?_|apply aD|apply aE|with_reducible first|apply aG|apply aF|apply aK|apply aH|apply aJ|apply aI|apply aL|apply aC))
     refine hx _ _ _ _ (fun e=>by cases e) (eW ?_)
     refine⟨h',Sub.refl _,?_⟩
     show K (.bool false) h' _
     rw[hno (by rw[hq,decide_eq_false hk0]; rfl)]
     exact hK _ (by omega)
 ·have hk:k=s.size:=by omega
  have hnl:pE true (bts s)=true:=by rw[hq,List.drop_of_length_le (by omega)]; rfl
  (repeat(first|refine zzB ?_|apply aD|apply aE|with_reducible first|apply aG|apply aF|apply aK|apply aH|apply aJ|apply aI|apply aL|apply aC))
  refine hx _ _ _ _ (fun e=>by cases e) (eA (cR ?_))
  have hend:∀ (e':Env) n',nx≤n'→e' 0=.string s→pV ro K e' h' n':=by
   intro e' n' hn f0
   unfold pV
   rw[f0]
   refine aA hl ?_
   by_cases h1:1≤s.size
   ·(repeat(first|refine zzB ?_|apply aD|apply aE|with_reducible first|apply aG|apply aF|apply aK|apply aH|apply aJ|apply aI|apply aL|apply aC))
    refine aA hl ?_
    by_cases h2:s.size≤32
    ·(repeat(first|refine zzB ?_|apply aD|apply aE|with_reducible first|apply aG|apply aF|apply aK|apply aH|apply aJ|apply aI|apply aL|apply aC))
     refine⟨h',Sub.refl _,?_⟩
     have:j9 s=true:=by unfold j9; rw[hnl,decide_eq_true h1,decide_eq_true h2]; rfl
     rw[← this]; exact hK _ (by omega)
    ·(repeat(first|refine zzB ?_|apply aD|apply aE|with_reducible first|apply aG|apply aF|apply aK|apply aH|apply aJ|apply aI|apply aL|apply aC))
     refine⟨h',Sub.refl _,?_⟩
     have:j9 s=false:=by unfold j9; rw[hnl,decide_eq_true h1,decide_eq_false h2]; rfl
     rw[← this]; exact hK _ (by omega)
   ·(repeat(first|refine zzB ?_|apply aD|apply aE|with_reducible first|apply aG|apply aF|apply aK|apply aH|apply aJ|apply aI|apply aL|apply aC))
    refine⟨h',Sub.refl _,?_⟩
    have:j9 s=false:=by unfold j9; rw[hnl,decide_eq_false h1]; rfl
    rw[← this]; exact hK _ (by omega)
  exact hend _ _ (by omega) e0
end
end V
end Go.Proofs.YtcaccnneblghgaaGreat
namespace Go.Proofs.YtcaccnneblghgaaGreat
namespace V
attribute [local irreducible] aB ifP aR cS eQ exP cN
section
variable {ro:Ro}{h:T Obj}{p a n w nx:Nat}{L:List Nat}{K:KV}
end
def Lo (h:T Obj) (L:List (Nat × List Value × TypeId)):Prop:=∀ b∈L,h.get b.1=some (.cells b.2.1.toArray b.2.2)∧b.2.2≠kU∧b.2.2≠aEq
def SW (hs:T Obj) (X:List Nat) (n0:Nat) (p:Nat) (pc:List Value) (L:List (Nat × List Value × TypeId)) (ps0:List (Nat × Nat)) (C:List (Int × Int)) (h:T Obj) (nx:Nat) (rs:List RgD) (ps:List (Nat × Nat)):Prop :=
 h.get p=some (.cells pc.toArray iY)∧Lo h L∧Sub (del hs X) h∧RsX WJ h ps C rs∧Dst ps∧mY ps=mY ps0∧(∀ q∈ps,q.1∈ps0.map (·.1)∧(q.2∈ps0.map (·.2)∨n0≤q.2))∧dT (p::jY ps0) hs h∧Fr h nx∧n0≤nx∧Fr hs n0∧∀ k∈p::jY ps0,k∈X
section
variable {ro:Ro}{hs h h':T Obj}{X:List Nat}{n0 p nx:Nat}{pc:List Value}{L:List (Nat × List Value × TypeId)}{ps0 ps:List (Nat × Nat)}{C:List (Int × Int)}{rs:List RgD}{K:KV}
theorem SW.mono {n':Nat} (hi:SW hs X n0 p pc L ps0 C h nx rs ps) (hn:nx≤n'):SW hs X n0 p pc L ps0 C h n' rs ps:=by
 obtain⟨g1,g2,g3,g4,g5,g6,g7,g8,g9,g10,g11⟩:=hi
 exact⟨g1,g2,g3,g4,g5,g6,g7,g8,g9.mono hn,by omega,g11⟩
theorem SW.sub {n':Nat} (hi:SW hs X n0 p pc L ps0 C h nx rs ps) (hs':Sub h h') (hf:Fr h' n') (hn:nx≤n'):SW hs X n0 p pc L ps0 C h' n' rs ps:=by
 obtain⟨g1,g2,g3,g4,g5,g6,g7,g8,g9,g10,g11⟩:=hi
 exact⟨hs' _ _ g1,fun b hb=>⟨hs' _ _ (g2 b hb).1,(g2 b hb).2⟩,g3.trans hs',g4.sub aDW hs',g5,g6,g7,fun k o hk hn=>hs' _ _ (g8 k o hk hn),hf,by omega,g11⟩
theorem aDO {ps:List (Nat × Nat)}{k:Nat} (h:k∈ps.map (·.1)):k∈jY ps:=by
 obtain⟨q,hq,rfl⟩:=List.mem_map.1 h
 exact iO.2 ⟨q,hq,.inl rfl⟩
theorem aDP {ps:List (Nat × Nat)}{k:Nat} (h:k∈ps.map (·.2)):k∈jY ps:=by
 obtain⟨q,hq,rfl⟩:=List.mem_map.1 h
 exact iO.2 ⟨q,hq,.inr rfl⟩
theorem SW.ring {i n' a' w n:Nat}{q:Nat × Nat}{c:Int × Int}{M:List Nat}{r:RgD} (hi:SW hs X n0 p pc L ps0 C h nx rs ps) (hq:ps[i]?=some q) (hc:C[i]?=some c) (hR:WJ h q.1 q.2 n M w) (hR':WJ h' q.1 a' c.2.toNat r.1 r.2) (ha:a'=q.2∨nx≤a') (hg:∀ k,k < nx→k≠q.1→k≠q.2→h'.get k=h.get k) (hf:Fr h' n') (hn:nx≤n') :
  SW hs X n0 p pc L ps0 C h' n' (rs.set i r) (ps.set i (q.1,a')):=by
 obtain⟨g1,g2,g3,g4,g5,g6,g7,g8,g9,g10,g11,g12⟩:=hi
 have hm:=List.mem_of_getElem? hq
 obtain⟨m1,m2⟩:=g7 q hm
 obtain⟨c1,t1⟩:=aDW.p hR
 obtain⟨c2,t2⟩:=aDW.a hR
 have hlt:=g4.lt aDW g9
 have hget:∀ {k:Nat} {c:Array Value} {e:TypeId},h.get k=some (.cells c e)→e≠kU→e≠aEq→h'.get k=some (.cells c e):=fun hk h1 h2=>by
  rw[hg _ (g9.lt' hk) (kA hk t1 h1) (kA hk t2 h2)]; exact hk
 refine⟨hget g1 (by decide) (by decide),fun b hb=>⟨hget (g2 b hb).1 (g2 b hb).2.1 (g2 b hb).2.2,(g2 b hb).2⟩,fun k o hk=>?_,g4.set aDW g5 g9 hq hc hR' hg,g5.set hq ?_,(aLe hq).trans g6,fun r hr=>?_,fun k o hk hkn=>?_,hf,by omega,g11,g12⟩
 ·have h1:=hk
  rw[jU] at h1
  split at h1
  ·cases h1
  ·rename_i hnX
   have hk0:=g11.lt' h1
   rw[hg k (by omega) (fun e=>hnX (by rw[e]; exact g12 _ (List.mem_cons_of_mem _ (aDO m1)))) (fun e=>?_)]
   ·exact g3 k o hk
   ·rcases m2 with m2 | m2
    ·exact hnX (by rw[e]; exact g12 _ (List.mem_cons_of_mem _ (aDP m2)))
    ·omega
 ·rcases ha with ha | ha
  ·exact .inl ha
  ·exact .inr fun s hs=>by have:=(hlt s hs).2; omega
 ·rcases List.mem_or_eq_of_mem_set hr with h1 | h1
  ·exact g7 r h1
  ·subst h1
   refine⟨m1,?_⟩
   rcases ha with ha | ha
   ·subst ha; exact m2
   ·exact .inr (show n0≤a' by omega)
 ·have hk0:=g11.lt' hk
  rw[hg k (by omega) (fun e=>hkn (by rw[e]; exact List.mem_cons_of_mem _ (aDO m1))) (fun e=>?_)]
  ·exact g8 k o hk hkn
  ·rcases m2 with m2 | m2
   ·exact hkn (by rw[e]; exact List.mem_cons_of_mem _ (aDP m2))
   ·omega
theorem SW.cell {pc':List Value} (hi:SW hs X n0 p pc L ps0 C h nx rs ps) (h1:h'.get p=some (.cells pc'.toArray iY)) (h2:∀ k,k≠p→h'.get k=h.get k) (hL:∀ b∈L,b.2.2≠iY):SW hs X n0 p pc' L ps0 C h' nx rs ps:=by
 obtain⟨g1,g2,g3,g4,g5,g6,g7,g8,g9,g10,g11,g12⟩:=hi
 have hp:=g9.lt' g1
 refine⟨h1,fun b hb=>⟨?_,(g2 b hb).2⟩,fun k o hk=>?_,g4.keep aDW fun q hq=>?_,g5,g6,g7,fun k o hk hkn=>?_,fun k hk=>by rw[h2 k (by omega)]; exact g9 k hk,g10,g11,g12⟩
 ·rw[h2 _ (kA (g2 b hb).1 g1 (hL b hb))]; exact (g2 b hb).1
 ·have h9:=hk
  rw[jU] at h9
  split at h9
  ·cases h9
  ·rename_i hnX
   rw[h2 k (fun e=>hnX (by rw[e]; exact g12 _ (List.mem_cons_self ..)))]; exact g3 k o hk
 ·obtain⟨⟨c1,t1⟩,c2,t2⟩:=g4.ty aDW q hq
  exact⟨h2 _ (kA t1 g1 (by decide)),h2 _ (kA t2 g1 (by decide))⟩
 ·rw[h2 k fun e=>hkn (by rw[e]; exact List.mem_cons_self ..)]
  exact g8 k o hk hkn
def X2 (X:List Nat) (ps:List (Nat × Nat)):List Nat:=ps.map (·.2)++X
end
def aAC (ro:Ro) (h:T Obj) (nx:Nat) (X:List Nat) (p:Nat) (ps:List (Nat × Nat)) (d:AutoD) (m':MacD) (h':T Obj) (nx':Nat) (X':List Nat) (ps':List (Nat × Nat)):Prop :=
 nx≤nx'∧Fr h' nx'∧dT (p::jY ps) h h'∧(∀ k∈X',k∈X∨h.get k=none)∧(∀ k∈X,k∈X')∧(∀ k∈jY ps',k∈jY ps∨nx≤k)∧MW ro h' X' p ps' d m'
section
variable {ro:Ro}{h h':T Obj}{X:List Nat}{n0 p nx n':Nat}{L:List (Nat × List Value × TypeId)}{ps ps':List (Nat × Nat)}{d:AutoD}{m m':MacD}{cv sv rv:Value}{K:KV}
theorem SW.left (hA:qZ ro (del h X) (d4 d.c d.many cv sv) d) (hP:Sl ro (del h X) rv 1 (mY ps)) (hn:nx≤n0) (hi:SW h X n0 p (eB d.c d.many cv sv m'.cur rv m'.steps) L ps d.counts h' n' m'.rs ps'):aAC ro h nx X p ps d m' h' n' (X2 X ps') ps':=by
 obtain⟨g1,g2,g3,g4,g5,g6,g7,g8,g9,g10,g11,g12⟩:=hi
 have hX:∀ k∈X2 X ps',k∈X∨h.get k=none:=fun k hk=>by
  rcases List.mem_append.1 hk with h1 | h1
  ·obtain⟨q,hq,rfl⟩:=List.mem_map.1 h1
   rcases (g7 q hq).2 with h2 | h2
   ·exact .inl (g12 _ (List.mem_cons_of_mem _ (aDP h2)))
   ·exact .inr (g11 _ h2)
  ·exact .inl h1
 have hre:=aOD g3 hX
 refine⟨by omega,g9,g8,hX,fun k hk=>List.mem_append.2 (.inr hk),fun k hk=>?_,cv,sv,rv,g1,hA.sub hre,by rw[g6]; exact hP.sub hre,g4,g5,List.mem_append.2 (.inr (g12 _ (List.mem_cons_self ..))),fun k hk=>?_⟩
 ·obtain⟨q,hq,h1⟩:=iO.1 hk
  rcases h1 with rfl | rfl
  ·exact .inl (aDO (g7 q hq).1)
  ·rcases (g7 q hq).2 with h2 | h2
   ·exact .inl (aDP h2)
   ·exact .inr (by omega)
 obtain⟨q,hq,h1⟩:=iO.1 hk
 rcases h1 with rfl | rfl
 ·exact List.mem_append.2 (.inr (g12 _ (List.mem_cons_of_mem _ (aDO (g7 q hq).1))))
 ·exact List.mem_append.2 (.inl (List.mem_map.2 ⟨q,hq,rfl⟩))
theorem aAC.refl (hm:MW ro h X p ps d m) (hf:Fr h nx) (hn:nx≤n'):aAC ro h nx X p ps d m h n' X ps:=⟨hn,hf.mono hn,(Sub.refl h).keepL,fun k hk=>.inl hk,fun k hk=>hk,fun k hk=>.inl hk,hm⟩
theorem MX.inX {RR:RgP}{ty:TypeId} (hm:MX RR ty ro h X p ps d m):∀ k∈p::jY ps,k∈X:=fun k hk=>by
 obtain⟨cv,sv,rv,g1,g2,g3,g4,g5,g6,g7⟩:=hm
 rcases List.mem_cons.1 hk with rfl | hk
 ·exact g6
 ·exact g7 k hk
theorem aAC.trans {h1 h2:T Obj}{n1 n2:Nat}{X1 X2:List Nat}{ps1 ps2:List (Nat × Nat)}{m1 m2:MacD} (hf:Fr h nx) (hX:∀ k∈p::jY ps,k∈X) (a:aAC ro h nx X p ps d m1 h1 n1 X1 ps1) (b:aAC ro h1 n1 X1 p ps1 d m2 h2 n2 X2 ps2):aAC ro h nx X p ps d m2 h2 n2 X2 ps2:=by
 obtain⟨a1,a2,a3,a4,a5,hb,a6⟩:=a
 obtain⟨b1,b2,b3,b4,b5,hb2,b6⟩:=b
 refine⟨by omega,b2,fun k o hk hn=>b3 k o (a3 k o hk hn) fun hm=>?_,fun k hk=>?_,fun k hk=>b5 k (a5 k hk),fun k hk=>?_,b6⟩
 ·have hlt:=hf.lt' hk
  rcases List.mem_cons.1 hm with rfl | hm
  ·exact hn (List.mem_cons_self ..)
  ·rcases hb k hm with h9 | h9
   ·exact hn (List.mem_cons_of_mem _ h9)
   ·omega
 ·rcases b4 k hk with h9 | h9
  ·exact a4 k h9
  ·by_cases hp:k∈p::jY ps
   ·exact .inl (hX k hp)
   ·cases hq:h.get k with
    | none=>exact .inr rfl
    | some o=>rw[a3 k o hq hp] at h9; cases h9
 ·rcases hb2 k hk with h9 | h9
  ·exact hb k h9
  ·exact .inr (by omega)
theorem aAC.mono {n2:Nat}{X':List Nat} (a:aAC ro h nx X p ps d m h' n' X' ps') (hn:n'≤n2):aAC ro h nx X p ps d m h' n2 X' ps':=by
 obtain⟨a1,a2,a3⟩:=a
 exact⟨by omega,a2.mono hn,a3⟩
end
end V
end Go.Proofs.YtcaccnneblghgaaGreat
namespace Go.Proofs.YtcaccnneblghgaaGreat
namespace V
attribute [local irreducible] aB ifP aR cS eQ exP cN
section
variable {ro:Ro}{hs h h':T Obj}{X:List Nat}{n0 p sb mb nx:Nat}{lv rv' uv nv:Value}{ps0 ps:List (Nat × Nat)}{C:List (Int × Int)}{rs:List RgD}{K:KV}
variable {cc:List Nat}{many cur:Int}{cv sv rv:Value}{steps:Nat}{to:Int}{ov nxv:Value}{ops:List Nat}{R:List Int}
end
section
variable {ro:Ro}{h:T Obj}{nx:Nat}{X:List Nat}{p:Nat}{ps:List (Nat × Nat)}{d:AutoD}{m:MacD}{K:KV}
theorem SW.lo {hs h h':T Obj}{X:List Nat}{n0 p nx n':Nat}{pc:List Value}{L L':List (Nat × List Value × TypeId)}{ps0 ps:List (Nat × Nat)}{C:List (Int × Int)}{rs:List RgD} (hi:SW hs X n0 p pc L ps0 C h nx rs ps) (hs':Sub h h') (hf:Fr h' n') (hn:nx≤n') (hL:Lo h' L'):SW hs X n0 p pc L' ps0 C h' n' rs ps:=by
 obtain⟨g1,g2,g3⟩:=hi.sub hs' hf hn
 exact⟨g1,hL,g3⟩
end
end V
end Go.Proofs.YtcaccnneblghgaaGreat
namespace Go.Proofs.YtcaccnneblghgaaGreat
namespace V
attribute [local irreducible] aB ifP aR cS eQ exP cN
theorem aOi {ro:Ro}{h:T Obj}{v:Value}{z:Nat}{l:List (List Value)} (hl:Sl ro h v z l):(v=.slice none 0 0∧l=[]∧slB .eql v (.slice none 0 0)=some (.bool true))∨slB .eql v (.slice none 0 0)=some (.bool false):=by
 rcases hl with ⟨rfl,rfl⟩ | ⟨a,cap,rfl,_⟩
 ·exact .inl ⟨rfl,rfl,rfl⟩
 ·exact .inr rfl
theorem sN {ro:Ro}{h:T Obj}{v:Value}{z nx:Nat}{t e:TypeId}{i:TypeInfo}{zv:Value}{m:List (List Value)}{K:KV} (hx:Sl ro h v z m) (hlit:∀ id,bQ Tryz.prog t id 0 []=some (.slice (some (own id z)) 0 0,some (.cells #[] e))) (hu:und Tryz.prog t=some (.slice e)) (hi':tin Tryz.prog e=some i) (hz:i.size=z) (hz0:0 < z) (hzer:zer Tryz.prog e=some zv) (hzs:zv.cells.size=z)
  (hok:m.flatten.all cT=true) (hb:m.length*i.bytes≤big) (hb2:m.length≤big) (hf:Fr h nx)
  (hK:∀ r h' n',nx≤n'→Fr h' n'→Sub h h'→dU h' r z e m nx→K r h' n') :
  aB (slB .eql v (.slice none 0 0)) fun t4=>aR t4 (∃ h2,Sub h2 h∧K (.slice none 0 0) h2 (nx+4)) (aB (bQ Tryz.prog t (nx+3) 0 []) fun r3=>eQ h (nx+3) r3.2 fun h4=>aB (cM Tryz.prog ro h4 (nx+6) #[t,t] [r3.1,v]) fun r5=>∃ h6,Sub h6 r5.2.1∧K r5.1 h6 (r5.2.2+1)):=by
 rcases aOi hx with ⟨rfl,rfl,h1⟩ | h1
 ·refine aA h1 (aG ⟨h,Sub.refl _,hK _ _ _ (by omega) (hf.mono (by omega)) (Sub.refl _) dU.nil⟩)
 ·refine aA h1 (aF (aA (hlit _) (aE ?_)))
  have hs1:Sub h (h.upd (nx+3) (some (.cells #[] e))):=(Sub.refl h).new hf (by omega)
  have hf1:Fr (h.upd (nx+3) (some (.cells #[] e))) (nx+6):=(hf.mono (by omega)).upd (Nat.le_refl _) (by omega)
  have ho:dU (h.upd (nx+3) (some (.cells #[] e))) (.slice (some (own (nx+3) z)) 0 0) z e [] nx:=.inr ⟨nx+3,by omega,rfl,(fun x hx=>by cases hx),by rw[T.get_upd_same]; rfl⟩
  obtain⟨r,h',n',q1,q2,q3,q4,q5,q6⟩:=aJD (P:=Tryz.prog) (t:=t) (nx:=nx+6) ho (hx.sub hs1) hu hi' hz hz0 hzer hzs hok (by simpa using hb) (by simpa using hb2) (by omega) hf1
  refine aA q1 ⟨h',Sub.refl _,hK r h' (n'+1) (by omega) (q5.mono (by omega)) (fun k o hk=>q3 k o (hs1 k o hk) fun e=>?_) (by simpa using q2)⟩
  have hkk:nx+3=k:=Option.some.inj e
  have:=hf.lt' hk
  omega
theorem aMv (id:Nat):bQ Tryz.prog iZ id 0 []=some (.slice (some (own id 1)) 0 0,some (.cells #[] dR)):=by kernel_rfl
theorem aOP (id:Nat):bQ Tryz.prog mA id 0 []=some (.slice (some (own id 2)) 0 0,some (.cells #[] gJ)):=by kernel_rfl
theorem aL0 (id:Nat):bQ Tryz.prog eJ id 0 []=some (.slice (some (own id 2)) 0 0,some (.cells #[] cJ)):=by kernel_rfl
theorem aOQ (id:Nat):bQ Tryz.prog bC id 0 []=some (.slice (some (own id 1)) 0 0,some (.cells #[] cB)):=by kernel_rfl
theorem aOv:und Tryz.prog mA=some (.slice gJ):=by kernel_rfl
theorem aQJ:∃ i,tin Tryz.prog gJ=some i∧i.size=2∧i.bytes=16:=xH (by kernel_rfl)
theorem aOy:und Tryz.prog bC=some (.slice cB):=by kernel_rfl
theorem aOs:∃ i,tin Tryz.prog cB=some i∧i.size=1∧i.bytes=1:=xH (by kernel_rfl)
theorem aPH:zer Tryz.prog cB=some (.int .u8 0):=by kernel_rfl
section
variable {ro:Ro}{h:T Obj}{v:Value}{nx:Nat}{K:KV}
theorem tU {l:List Int} (hv:ZI ro h v l) (hl:l.length≤1000000) (hf:Fr h nx) (hK:∀ r h' n',nx≤n'→Fr h' n'→Sub h h'→dU h' r 1 dR (kJ l) nx→K r h' n'):aN Tryz.prog ro fB [v] h nx K:=by
 apply vU
 unfold qI
 obtain⟨i,g1,g2,g3⟩:=aNc
 exact sN hv aMv aNi g1 (by omega) (by omega) aR4 rfl (by simp[kJ,cT]) (by rw[eP,g3]; unfold big; omega) (by rw[eP]; unfold big; omega) hf hK
theorem aJL {l:List Nat} (hv:SlR ro h v 1 RU8 l) (hl:l.length≤1000000) (hf:Fr h nx) (hK:∀ r h' n',nx≤n'→Fr h' n'→Sub h h'→dU h' r 1 cB (aGm l) nx→K r h' n'):aN Tryz.prog ro iN [v] h nx K:=by
 apply rU
 unfold nE
 obtain⟨i,g1,g2,g3⟩:=aOs
 obtain⟨cs,h1,h2,h3⟩:=hv
 have hcs:cs=aGm l:=by
  apply List.ext_getElem?
  intro k
  rcases Nat.lt_or_ge k l.length with hk | hk
  ·have e1:cs[k]?=some (cs[k]'(by omega)):=List.getElem?_eq_getElem _
   have e2:l[k]?=some l[k]:=List.getElem?_eq_getElem _
   have:=(h3 k _ _ e1 e2).1
   rw[e1,this]; simp[aGm,hk]
  ·rw[List.getElem?_eq_none (by omega),List.getElem?_eq_none (by rw[aB5]; omega)]
 subst hcs
 exact sN h1 aOQ aOy g1 (by omega) (by omega) aPH rfl (by simp[aGm,cT]) (by rw[aB5,g3]; unfold big; omega) (by rw[aB5]; unfold big; omega) hf hK
theorem aJK {l:List (Int × Int)} (hv:SlR ro h v 2 vY l) (hl:l.length≤1000000) (hf:Fr h nx) (hK:∀ r h' n',nx≤n'→Fr h' n'→Sub h h'→dU h' r 2 gJ (aFA l) nx→K r h' n'):aN Tryz.prog ro iM [v] h nx K:=by
 apply rT
 unfold nD
 obtain⟨i,g1,g2,g3⟩:=aQJ
 obtain⟨cs,h1,h2,h3⟩:=hv
 have hcs:cs=aFA l:=by
  apply List.ext_getElem?
  intro k
  rcases Nat.lt_or_ge k l.length with hk | hk
  ·have e1:cs[k]?=some (cs[k]'(by omega)):=List.getElem?_eq_getElem _
   have e2:l[k]?=some l[k]:=List.getElem?_eq_getElem _
   have:=h3 k _ _ e1 e2
   unfold vY at this
   rw[e1,this]; simp[aFA,hk]
  ·rw[List.getElem?_eq_none (by omega),List.getElem?_eq_none (by rw[aBF]; omega)]
 subst hcs
 have hok:(aFA l).flatten.all cT=true:=by
  rw[List.all_eq_true]
  intro x hx
  obtain⟨y,hy,hxy⟩:=List.mem_flatten.1 hx
  obtain⟨p,_,rfl⟩:=List.mem_map.1 hy
  simp at hxy
  rcases hxy with rfl | rfl<;>rfl
 exact sN h1 aOP aOv g1 (by omega) (by omega) aHI rfl hok (by rw[aBF,g3]; unfold big; omega) (by rw[aBF]; unfold big; omega) hf hK
theorem aGT {cs:List (List Value)} (hv:Sl ro h v 2 cs) (hok:cs.flatten.all cT=true) (hl:cs.length≤1000000) (hf:Fr h nx) (hK:∀ r h' n',nx≤n'→Fr h' n'→Sub h h'→dU h' r 2 cJ cs nx→K r h' n'):aN Tryz.prog ro f8 [v] h nx K:=by
 apply oA
 unfold kD
 obtain⟨i,g1,g2,g3⟩:=aNb
 exact sN hv aL0 aLw g1 (by omega) (by omega) aEs rfl hok (by rw[g3]; unfold big; omega) (by unfold big; omega) hf hK
end
theorem aA9 {ro:Ro}{h:T Obj}{v w:Value}{z n1 n2 lo:Nat}{t e:TypeId}{i:TypeInfo}{zv:Value}{l:List (List Value)}{y:List Value}{K:Value × Option Obj→T Obj→Value × T Obj × Nat→Prop} (hlit:bQ Tryz.prog t n1 1 [(0,w)]=some (.slice (some (own n1 z)) 1 1,some (.cells y.toArray e))) (hy:y.length=z) (ho:dU h v z e l lo)
  (hu:und Tryz.prog t=some (.slice e)) (hi':tin Tryz.prog e=some i) (hz:i.size=z) (hz0:0 < z) (hzer:zer Tryz.prog e=some zv) (hzs:zv.cells.size=z) (hok:y.all cT=true) (hb:(l.length+1)*i.bytes≤big) (hb2:l.length+1≤big) (hf:Fr h n2) (hlo:lo≤n2) (hn:n1 < n2) (hne:i3 v≠some n1)
  (hK:∀ h',dU h' (.slice (some (own n2 z)) (l++[y]).length (l++[y]).length) z e (l++[y]) lo→(∀ k o,h.get k=some o→k≠n1→i3 v≠some k→h'.get k=some o)→Fr h' (n2+1)→K (.slice (some (own n1 z)) 1 1,some (.cells y.toArray e)) (h.upd n1 (some (.cells y.toArray e))) (.slice (some (own n2 z)) (l++[y]).length (l++[y]).length,h',n2+1)) :
  aB (bQ Tryz.prog t n1 1 [(0,w)]) fun r=>eQ h n1 r.2 fun h'=>aB (cM Tryz.prog ro h' n2 #[t,t] [v,r.1]) (K r h'):=by
 refine aA hlit (aE ?_)
 have hkk:dT [n1] h (h.upd n1 (some (.cells y.toArray e))):=(Sub.refl h).keepL.upd (by simp)
 have ho1:dU (h.upd n1 (some (.cells y.toArray e))) v z e l lo:=ho.keepK hkk fun id hid hm=>hne (by rw[hid]; simp at hm; rw[hm])
 have hf1:Fr (h.upd n1 (some (.cells y.toArray e))) n2:=hf.upd (Nat.le_refl _) hn
 have hx1:Sl ro (h.upd n1 (some (.cells y.toArray e))) (.slice (some (own n1 z)) 1 1) z [y]:=Sl.own (l:=[y]) (e:=e) (f:=(0,0)) (by rw[T.get_upd_same]; simp) (by simpa using hy) (Nat.le_refl _)
 obtain⟨h',q1,q2,q3,q4,q5⟩:=aKN (P:=Tryz.prog) (t:=t) (nx:=n2) ho1 hx1 hu hi' hz hz0 hzer hzs (by simp) (by simpa using hok) hb hb2 hlo hf1
 exact aA q1 (hK h' q2 (fun k o hk h1 h2=>q3 k o (hkk k o hk (by simpa using h1)) h2) q4)
section
variable {RR:RgP}{tp ta:TypeId}{h h':T Obj}{ps:List (Nat × Nat)}{C:List (Int × Int)}{rs:List RgD}
theorem RsX.snoc (hr:RsX RR h ps C rs) {q:Nat × Nat}{c:Int × Int}{r:RgD} (hn:RR h q.1 q.2 c.2.toNat r.1 r.2):RsX RR h (ps++[q]) (C++[c]) (rs++[r]):=by
 obtain⟨r1,r2,r3⟩:=hr
 refine⟨by simp[r1],by simp[r2],fun i p c' r' h1 h2 h3=>?_⟩
 rcases Nat.lt_or_ge i ps.length with hi | hi
 ·rw[List.getElem?_append_left hi] at h1
  rw[List.getElem?_append_left (by omega)] at h2
  rw[List.getElem?_append_left (by omega)] at h3
  exact r3 i p c' r' h1 h2 h3
 ·rw[List.getElem?_append_right hi] at h1
  rw[List.getElem?_append_right (by omega)] at h2
  rw[List.getElem?_append_right (by omega)] at h3
  have hlt:=(List.getElem?_eq_some_iff.1 h1).1
  have hi0:i=ps.length:=by simp at hlt; omega
  subst hi0
  rw[Nat.sub_self] at h1
  rw[r1,Nat.sub_self] at h2
  rw[show ps.length - rs.length=0 by omega] at h3
  cases h1; cases h2; cases h3
  exact hn
theorem Dst.snoc (hd:Dst ps) {q:Nat × Nat} (hq:∀ p∈ps,p.1≠q.1∧p.2≠q.2):Dst (ps++[q]):=by
 intro i j p p2 h1 h2 hij
 rcases Nat.lt_or_ge i ps.length with hi | hi
 ·rw[List.getElem?_append_left hi] at h1
  rcases Nat.lt_or_ge j ps.length with hj | hj
  ·rw[List.getElem?_append_left hj] at h2
   exact hd i j p p2 h1 h2 hij
  ·rw[List.getElem?_append_right hj] at h2
   have:p2=q:=by have:=List.mem_of_getElem? h2; simpa using this
   subst this
   exact hq p (List.mem_of_getElem? h1)
 ·rw[List.getElem?_append_right hi] at h1
  have hp:p=q:=by have:=List.mem_of_getElem? h1; simpa using this
  subst hp
  rcases Nat.lt_or_ge j ps.length with hj | hj
  ·rw[List.getElem?_append_left hj] at h2
   have:=hq p2 (List.mem_of_getElem? h2)
   exact⟨Ne.symm this.1,Ne.symm this.2⟩
  ·rw[List.getElem?_append_right hj] at h2
   have h3:=(List.getElem?_eq_some_iff.1 h1).1
   have h4:=(List.getElem?_eq_some_iff.1 h2).1
   simp at h3 h4
   omega
theorem Dst.nil:Dst []:=fun i j p q h1=>by simp at h1
end
end V
end Go.Proofs.YtcaccnneblghgaaGreat
namespace Go.Proofs.YtcaccnneblghgaaGreat
namespace V
attribute [local irreducible] aB ifP aR cS eQ exP cN
def zZ (x:List Value) (s:ByteArray):Prop:=x=[.string s]∧s.size≤kW
def sG (ro:Ro) (h:T Obj) (x:List Value) (e:EntD):Prop:=∃ ax rv,x=ax++[rv]∧qZ ro h ax e.a∧Sl ro h rv 1 (kJ e.rules)∧e.rules.length≤kW
theorem sG.sub {ro:Ro}{h h':T Obj} (hs:Sub h h'):∀ x e,sG ro h x e→sG ro h' x e:=fun x e ⟨ax,rv,h1,h2,h3,h4⟩=>⟨ax,rv,h1,h2.sub hs,h3.sub hs,h4⟩
def aCq (ro:Ro) (h:T Obj) (x:List Value) (T:TabD):Prop:=∃ cv kv tv ev,x=[cv,kv,tv,ev]∧SlR ro h cv 1 zZ T.conds∧SlR ro h kv 1 zZ T.kinds∧Sl ro h tv 1 (kJ T.to)∧SlR ro h ev 260 (sG ro h) T.entries ∧
 T.conds.length≤kW∧T.kinds.length≤kW∧T.to.length≤kW∧T.entries.length≤kW
theorem aCq.sub {ro:Ro}{h h':T Obj}{x:List Value}{T:TabD} (hd:aCq ro h x T) (hs:Sub h h'):aCq ro h' x T:=by
 obtain⟨cv,kv,tv,ev,h1,h2,h3,h4,h5,h6⟩:=hd
 exact⟨cv,kv,tv,ev,h1,h2.sub hs fun _ _ h=>h,h3.sub hs fun _ _ h=>h,h4.sub hs,h5.sub hs (sG.sub hs),h6⟩
def aJT:List Value:=v7++[dD]
theorem aDU:zer Tryz.prog cA=some (.agg aJT.toArray):=by kernel_rfl
theorem aBI:aJT.length=260:=by simp[aJT,sK]
section
variable {ro:Ro}{h:T Obj}{x:List Value}{e:EntD}
theorem sG.len (hd:sG ro h x e):x.length=260:=by
 obtain⟨ax,rv,rfl,h2,h3,_⟩:=hd
 obtain⟨cv,sv,rfl,hc,_⟩:=h2
 simp[cQ hc]
theorem sG.okL (hd:sG ro h x e):x.all cT=true:=by
 obtain⟨ax,rv,rfl,h2,h3,_⟩:=hd
 obtain⟨cv,sv,rfl,hc,_,h1,h4,_⟩:=h2
 have:=aDI (c:=e.a.c) (n:=e.a.many) (SlR.okC h1) (SlR.okC h4)
 rw[List.all_append,this]
 simp[h3.ok]
theorem sG.cells (hd:sG ro h x e):∃ cv sv rv,x=d4 e.a.c e.a.many cv sv++[rv]∧x[258]?=some sv∧x[259]?=some rv∧(x.take 259)=d4 e.a.c e.a.many cv sv∧qZ ro h (d4 e.a.c e.a.many cv sv) e.a∧SlR ro h sv 4 (eD ro h) e.a.states∧e.a.states.length≤kW∧Sl ro h rv 1 (kJ e.rules)∧e.rules.length≤kW:=by
 obtain⟨ax,rv,rfl,h2,h3,h4⟩:=hd
 obtain⟨cv,sv,rfl,hc,hclt,h5,h6,h7,h8⟩:=id h2
 refine⟨cv,sv,rv,rfl,?_,?_,?_,h2,h6,h8,h3,h4⟩
 ·rw[List.getElem?_append_left (by rw[cQ hc]; omega)]; exact iE hc
 ·rw[List.getElem?_append_right (by rw[cQ hc]; omega),cQ hc]; rfl
 ·rw[List.take_append_of_le_length (by rw[cQ hc]; omega),List.take_of_length_le (by rw[cQ hc]; omega)]
end
def aHk (T:TabD):Bool:=T.entries.all (fun e=>decide (e.a.states.length≤60))&&decide (T.entries.length≤8)
section
variable {ro:Ro}{h:T Obj}{nx:Nat}{K:KV}
set_option maxRecDepth 8000 in
theorem aHx {x:List Value}{T:TabD} (hf:Fr h nx) (hd:aCq ro h x T) (hK:∀ nx',nx≤nx'→K (.bool (aHk T)) h nx'):aN Tryz.prog ro yE [.agg x.toArray] h nx K:=by
 obtain⟨cv,kv,tv,ev,rfl,q1,q2,q3,q4,q5,q6,q7,q8⟩:=id hd
 have q8:T.entries.length≤9223372036854775807:=q8
 apply aGa
 unfold aFk
 refine eF hf (Nat.le_refl _) fun h1 hs1 hf1 g1 _=>?_
 have g1:h1.get nx=some (.cells [cv,kv,tv,ev].toArray dF):=g1
 have m3:[cv,kv,tv,ev][3]?=some ev:=rfl
 have hev:=q4.sub hs1 (sG.sub hs1)
 have hlen:=hev.len
 (repeat(first|refine zzB ?_|apply aD|apply aE|with_reducible first|apply aG|apply aF|apply aK|apply aH|apply aJ|apply aI|apply aL|apply aC))
 refine aA (aZ g1 m3) (aA hlen ?_)
 generalize hB:T.entries.all (fun e=>decide (e.a.states.length≤60))=B
 refine a9 (fun j e h' nx'=>∃ (k:Nat),k+j=T.entries.length∧nx+1≤nx'∧e 1=ptr nx∧e 2=.bool false∧e 6=ev∧e 7=.int .i64 T.entries.length∧e 8=.int .i64 k∧Sub h1 h'∧Fr h' nx'∧(T.entries.drop k).all (fun e=>decide (e.a.states.length≤60))=B) ?_ (n:=T.entries.length)
  ⟨0,by omega,by omega,rfl,rfl,rfl,rfl,rfl,Sub.refl _,hf1.mono (by omega),hB⟩
 rintro j e h' nx' ⟨k,hj,hnx,e1,e2,e6,e7,e8,hs',hf',hr⟩ Q' hq hx
 unfold aBX
 rw[e6,e7,e8]
 refine dC (fun hk=>?_) (fun hk=>?_)
 ·have hk:k < T.entries.length:=by omega
  rw[bW hk,List.all_cons] at hr
  have hev':=hev.sub hs' (sG.sub hs')
  have hix:=hev'.ix .i64 hk
  obtain⟨y,hy1,hy2,hy3,hy4,hy5⟩:=hev'.at hk
  generalize T.entries[k]=ee at hr hy1
  obtain⟨ecv,esv,erv,_,c258,c259,_,_,hsv,hsl,_,_⟩:=hy1.cells
  have hsl:ee.a.states.length≤9223372036854775807:=hsl
  have hsvl:=hsv.len
  (repeat(first|refine aA (by simp (disch:=first|omega|exact nnN _|assumption) only [BB,B2,↓reduceIte,Nat.reduceLeDiff,Nat.reduceAdd,CC,hix,hy3]<;>rfl) ?_|apply aD|apply aE|with_reducible first|apply aG|apply aF|apply aK|apply aH|apply aJ|apply aI|apply aL|apply aC))
  refine jH (x:=y) aDU (by show aJT.toArray.size=260; simp[aBI]) rfl hy1.len hy1.okL hf' (by omega) fun h2 hs2 hf2 g2 _=>?_
  (repeat(first|refine zzB ?_|apply aD|apply aE|with_reducible first|apply aG|apply aF|apply aK|apply aH|apply aJ|apply aI|apply aL|apply aC))
  refine aA (aZ g2 c258) (aA hsvl ?_)
  by_cases hb:ee.a.states.length≤60
  ·rw[decide_eq_true hb,Bool.true_and] at hr
   (repeat(first|refine zzB ?_|apply aD|apply aE|with_reducible first|apply aG|apply aF|apply aK|apply aH|apply aJ|apply aI|apply aL|apply aC))
   exact hq (j - 1) _ _ _ _ (by omega) ⟨k+1,by omega,by omega,e1,e2,e6,e7,rfl,hs'.trans hs2,hf2.mono (by omega),hr⟩ (Sub.refl _)
  ·rw[decide_eq_false hb,Bool.false_and] at hr
   (repeat(first|refine zzB ?_|apply aD|apply aE|with_reducible first|apply aG|apply aF|apply aK|apply aH|apply aJ|apply aI|apply aL|apply aC))
   refine hx _ _ _ _ (fun e=>by cases e) (eW ?_)
   refine⟨h,hs1.trans (hs'.trans hs2),?_⟩
   have:aHk T=false:=by unfold aHk; rw[hB,← hr]; rfl
   show K (.bool false) h _
   rw[← this]; exact hK _ (by omega)
 ·have hk:k=T.entries.length:=by omega
  have hr:B=true:=by rw[← hr,List.drop_of_length_le (by omega)]; rfl
  have g1':=hs' _ _ g1
  (repeat(first|refine zzB ?_|apply aD|apply aE|with_reducible first|apply aG|apply aF|apply aK|apply aH|apply aJ|apply aI|apply aL|apply aC))
  refine hx _ _ _ _ (fun e=>by cases e) (eA (cR ?_))
  have hend:∀ (e':Env) n',nx≤n'→e' 1=ptr nx→rO ro K e' h' n':=by
   intro e' n' hn f1
   unfold rO
   rw[f1]
   (repeat(first|refine zzB ?_|apply aD|apply aE|with_reducible first|apply aG|apply aF|apply aK|apply aH|apply aJ|apply aI|apply aL|apply aC))
   refine aA (aZ g1' m3) (aA hlen ?_)
   by_cases h8:T.entries.length≤8
   ·(repeat(first|refine zzB ?_|apply aD|apply aE|with_reducible first|apply aG|apply aF|apply aK|apply aH|apply aJ|apply aI|apply aL|apply aC))
    refine⟨h,hs1.trans hs',?_⟩
    have:aHk T=true:=by unfold aHk; rw[hB,hr,decide_eq_true h8]; rfl
    rw[← this]; exact hK _ (by omega)
   ·(repeat(first|refine zzB ?_|apply aD|apply aE|with_reducible first|apply aG|apply aF|apply aK|apply aH|apply aJ|apply aI|apply aL|apply aC))
    refine⟨h,hs1.trans hs',?_⟩
    have:aHk T=false:=by unfold aHk; rw[hB,hr,decide_eq_false h8]; rfl
    rw[← this]; exact hK _ (by omega)
  exact hend _ _ (by omega) e1
end
end V
end Go.Proofs.YtcaccnneblghgaaGreat
set_option maxRecDepth 8000
namespace Go.Proofs.YtcaccnneblghgaaGreat
namespace V
open Go.ChangeShapes Go.WideShapes Go.ChangeAt Go.RowKit Go.Deep
set_option maxRecDepth 8000
section
variable {H:Type}{enc:TypeId × Value→H}{W:World}
def fieldsOf (P:Program) (t:TypeId):Option (List (Nat × TypeId)):=match und P t with
 | some (.struct fs)=>some (fs.toList.map fun f=>(f.offset,f.type))
 | _=>none
theorem nY {t:TypeId}{L:List (Nat × TypeId)} (hL:fieldsOf Tryz.prog t=some L) {fuel:Nat}{cs:List Value}{x:DataW H × List MemPlace} (h:DataW.trod enc Tryz.prog W 0 (fun _=>true) true fuel t cs=some x) :
  cs.length=Tryz.prog.cellsOf t∧∃ n,∀ (i o:Nat) (ty:TypeId),L[i]?=some (o,ty)→∃ y,DataW.trod enc Tryz.prog W 0 (fun _=>true) true n ty ((cs.drop o).take (Tryz.prog.cellsOf ty))=some y:=by
 unfold fieldsOf at hL
 split at hL
 ·rename_i fs hu
  cases hL
  obtain⟨xs,n,_,_,hlen,hxs,hf⟩:=DataW.trod_struct (fK hu) h
  refine⟨hlen,n,fun i o ty hi=>?_⟩
  rw[List.getElem?_map] at hi
  cases hq:fs.toList[i]? with
  | none=>rw[hq] at hi; cases hi
  | some f =>
   rw[hq] at hi
   cases hi
   have hfs:fs[i]?=some f:=by simpa using hq
   have hil:=(List.getElem?_eq_some_iff.1 hq).1
   have hx:xs[i]?=some (xs[i]'(by rw[hxs]; simpa using hil)):=List.getElem?_eq_getElem _
   exact⟨_,by rw[hf i f hfs,hx]⟩
 ·cases hL
theorem aJ6 {t:TypeId}{L:List (Nat × TypeId)} (hL:fieldsOf Tryz.prog t=some L) {v:Value}{base:Nat} (hval:Value.okWide Tryz.prog W .any base t v):∃ cs,v=.agg cs:=by
 unfold fieldsOf at hL
 split at hL
 ·rename_i fs hu
  unfold Value.okWide at hval
  rw[fK hu] at hval
  obtain⟨cs,e,_⟩:=hval
  exact⟨cs,e⟩
 ·cases hL
theorem aBU {n:Nat}{cs:List Value}{y:DataW H × List MemPlace} (h:DataW.trod enc Tryz.prog W 0 (fun _=>true) true n dR cs=some y):∃ a:Int,cs=[.int .i64 a]:=by
 have hu:Tryz.prog.underlying dR=some (.int .i64):=by kernel_rfl
 obtain⟨a,rfl,_⟩:=DataW.trod_int hu h
 exact⟨a,rfl⟩
theorem aKt {n:Nat}{cs:List Value}{y:DataW H × List MemPlace} (h:DataW.trod enc Tryz.prog W 0 (fun _=>true) true n cB cs=some y):∃ a:Nat,cs=[.int .u8 (a:Int)]∧a < 256:=by
 have hu:Tryz.prog.underlying cB=some (.int .u8):=by kernel_rfl
 obtain⟨a,rfl,_,hw⟩:=DataW.trod_int hu h
 have:=aQl hw
 exact⟨a.toNat,by rw[Int.toNat_of_nonneg this.1],by omega⟩
theorem aIK {N:Nat}{v v':Value}{o:Option Addr}{l c:Nat} (hv:v=.slice o l c) (h:wP N v=some v'):bG v'=some (.int .i64 l):=by
 subst hv
 unfold wP at h
 split at h
 ·rename_i h1
  cases h
  cases h1
  rfl
 ·rename_i h1
  cases h1
  split at h
  ·cases h; rfl
  ·cases h
 ·rename_i h1; cases h1
 ·split at h
  ·cases h; rfl
  ·cases h
theorem oM {D:Type}{t e:TypeId}{z:Nat}{R:List Value→D→Prop} (ht:Tryz.prog.underlying t=some (.slice e)) (hz:Tryz.prog.cellsOf e=z) (hz0:0 < z) {fuel:Nat}{cs:List Value}{x:DataW H × List MemPlace} (h:DataW.trod enc Tryz.prog W 0 (fun _=>true) true fuel t cs=some x)
  (hel:∀ n cs' y,DataW.trod enc Tryz.prog W 0 (fun _=>true) true n e cs'=some y→∃ cs'',kB W.heap.size cs'=some cs''∧∃ d,R cs'' d):∃ v v' l,cs=[v]∧wP W.heap.size v=some v'∧SlR (nO W) .e v' z R l∧l.length≤kW:=by
 obtain⟨v,v',hv,hn,l,hl,hall⟩:=aO4 ht hz hz0 h (El:=fun x=>∃ d,R x d) hel
 have hbound:l.length≤kW:=by
  have hlen:=hl.len
  rcases open_slice ht h with ⟨h1,_⟩ | ⟨a,len,cap,m,n,D,Pl,h1,_,hle,hm,_⟩
  ·rw[hv] at h1
   have h2:=aIK (List.cons.inj h1).1 hn
   rw[hlen] at h2
   simp only[Option.some.injEq,Value.int.injEq,true_and] at h2
   have:l.length=0:=by omega
   rw[this]; unfold kW; omega
  ·rw[hv] at h1
   have h2:=aIK (List.cons.inj h1).1 hn
   rw[hlen] at h2
   simp only[Option.some.injEq,Value.int.injEq,true_and] at h2
   unfold maxLen at hm
   unfold kW
   omega
 refine⟨v,v',?_⟩
 have e:∃ ds:List D,l.length=ds.length∧∀ (i:Nat) x d,l[i]?=some x→ds[i]?=some d→R x d:=by
  clear hl hbound
  induction l with
  | nil=>exact⟨[],rfl,fun i x d hx=>by simp at hx⟩
  | cons x l ih =>
   obtain⟨ds,h1,h2⟩:=ih fun y hy=>hall y (by simp[hy])
   obtain⟨d,hd⟩:=hall x (by simp)
   refine⟨d::ds,by simp[h1],fun i x' d' hx hd'=>?_⟩
   cases i with
   | zero=>simp at hx hd'; subst hx; subst hd'; exact hd
   | succ i=>exact h2 i x' d' (by simpa using hx) (by simpa using hd')
 obtain⟨ds,h1,h2⟩:=e
 exact⟨ds,hv,hn,⟨l,hl,h1,h2⟩,by rw[← h1]; exact hbound⟩
theorem s6 {n:Nat}{cs:List Value}{y:DataW H × List MemPlace} (h:DataW.trod enc Tryz.prog W 0 (fun _=>true) true n iZ cs=some y):∃ v v' l,cs=[v]∧wP W.heap.size v=some v'∧ZI (nO W) .e v' l∧l.length≤kW:=by
 have hu:Tryz.prog.underlying iZ=some (.slice dR):=by kernel_rfl
 have hc:Tryz.prog.cellsOf dR=1:=by kernel_rfl
 obtain⟨v,v',l,hv,hn,⟨cs,h1,h2,h3⟩,hb⟩:=oM (R:=fun x (a:Int)=>x=[Value.int .i64 a]) hu hc (by omega) h fun n cs' y hy=>by
  obtain⟨a,rfl⟩:=aBU hy
  exact⟨_,rfl,a,rfl⟩
 refine⟨v,v',l,hv,hn,?_,hb⟩
 have e:cs=kJ l:=by
  refine List.ext_getElem? fun i=>?_
  unfold kJ
  rw[List.getElem?_map]
  cases hi:l[i]? with
  | none =>
   have:=List.getElem?_eq_none_iff.1 hi
   rw[List.getElem?_eq_none (by omega)]; rfl
  | some a =>
   have hil:=(List.getElem?_eq_some_iff.1 hi).1
   have hx:cs[i]?=some (cs[i]'(by omega)):=List.getElem?_eq_getElem (by omega)
   rw[hx,h3 i _ a hx hi]; rfl
 unfold ZI
 rw[← e]; exact h1
theorem aEJ {W:World}{v v':Value} (hn:wP W.heap.size v=some v'):kB W.heap.size [v]=some [v']:=by
 simp only[kB,hn]; rfl
theorem aFs {n:Nat}{cs:List Value}{y:DataW H × List MemPlace} (h:DataW.trod enc Tryz.prog W 0 (fun _=>true) true n bC cs=some y):∃ v v' l,cs=[v]∧wP W.heap.size v=some v'∧SlR (nO W) .e v' 1 RU8 l∧l.length≤kW:=by
 have hu:Tryz.prog.underlying bC=some (.slice cB):=by kernel_rfl
 have hc:Tryz.prog.cellsOf cB=1:=by kernel_rfl
 exact oM hu hc (by omega) h fun n cs' y hy=>by
  obtain⟨a,rfl,ha⟩:=aKt hy
  exact⟨_,rfl,a,rfl,ha⟩
theorem aJ3 {n:Nat}{cs:List Value}{y:DataW H × List MemPlace} (h:DataW.trod enc Tryz.prog W 0 (fun _=>true) true n cJ cs=some y):∃ cs'',kB W.heap.size cs=some cs''∧∃ d,xV (nO W) .e cs'' d:=by
 have hL:fieldsOf Tryz.prog cJ=some [(0,dR),(1,bC)]:=by kernel_rfl
 have c0:Tryz.prog.cellsOf cJ=2:=by kernel_rfl
 have c2:Tryz.prog.cellsOf dR=1:=by kernel_rfl
 have c4:Tryz.prog.cellsOf bC=1:=by kernel_rfl
 obtain⟨hlen,m,hf⟩:=nY hL h
 obtain⟨_,f0⟩:=hf 0 _ _ rfl
 obtain⟨_,f1⟩:=hf 1 _ _ rfl
 rw[c0] at hlen
 rw[c2] at f0
 rw[c4] at f1
 obtain⟨p,g0⟩:=aBU f0
 obtain⟨v,v',l,g1,hn,hz,hb⟩:=aFs f1
 match cs,hlen with
 | [a0,a1],_ =>
  simp at g0 g1
  subst g0 g1
  refine⟨[.int .i64 p,v'],?_,⟨p,l⟩,v',rfl,hz,hb⟩
  simp only[kB,hn]; rfl
theorem aLg {n:Nat}{cs:List Value}{y:DataW H × List MemPlace} (h:DataW.trod enc Tryz.prog W 0 (fun _=>true) true n eJ cs=some y):∃ cs'',kB W.heap.size cs=some cs''∧∃ d,sH (nO W) .e cs'' d:=by
 have hu:Tryz.prog.underlying eJ=some (.slice cJ):=by kernel_rfl
 have hc:Tryz.prog.cellsOf cJ=2:=by kernel_rfl
 obtain⟨v,v',l,rfl,hn,hl,hb⟩:=oM hu hc (by omega) h fun n cs' y hy=>aJ3 hy
 exact⟨[v'],aEJ hn,l,v',rfl,hl,hb⟩
theorem aJr {n:Nat}{cs:List Value}{y:DataW H × List MemPlace} (h:DataW.trod enc Tryz.prog W 0 (fun _=>true) true n gB cs=some y):∃ v v' l,cs=[v]∧wP W.heap.size v=some v'∧SlR (nO W) .e v' 1 (sH (nO W) .e) l∧l.length≤kW:=by
 have hu:Tryz.prog.underlying gB=some (.slice eJ):=by kernel_rfl
 have hc:Tryz.prog.cellsOf eJ=1:=by kernel_rfl
 exact oM hu hc (by omega) h fun n cs' y hy=>aLg hy
theorem aIt {n:Nat}{cs:List Value}{y:DataW H × List MemPlace} (h:DataW.trod enc Tryz.prog W 0 (fun _=>true) true n bA cs=some y):∃ cs'',kB W.heap.size cs=some cs''∧∃ d,eD (nO W) .e cs'' d:=by
 have hL:fieldsOf Tryz.prog bA=some [(0,iZ),(1,iZ),(2,iZ),(3,gB)]:=by kernel_rfl
 have c0:Tryz.prog.cellsOf bA=4:=by kernel_rfl
 have c2:Tryz.prog.cellsOf iZ=1:=by kernel_rfl
 have c4:Tryz.prog.cellsOf gB=1:=by kernel_rfl
 obtain⟨hlen,m,hf⟩:=nY hL h
 obtain⟨_,f0⟩:=hf 0 _ _ rfl
 obtain⟨_,f1⟩:=hf 1 _ _ rfl
 obtain⟨_,f2⟩:=hf 2 _ _ rfl
 obtain⟨_,f3⟩:=hf 3 _ _ rfl
 rw[c0] at hlen
 rw[c2] at f0 f1 f2
 rw[c4] at f3
 obtain⟨v0,w0,l0,g0,n0,z0,b0⟩:=s6 f0
 obtain⟨v1,w1,l1,g1,n1,z1,b1⟩:=s6 f1
 obtain⟨v2,w2,l2,g2,n2,z2,b2⟩:=s6 f2
 obtain⟨v3,w3,l3,g3,n3,z3,b3⟩:=aJr f3
 match cs,hlen with
 | [a0,a1,a2,a3],_ =>
  simp at g0 g1 g2 g3
  subst g0 g1 g2 g3
  refine⟨[w0,w1,w2,w3],?_,⟨l0,l1,l2,l3⟩,w0,w1,w2,w3,rfl,z0,z1,z2,z3,b1⟩
  simp only[kB,n0,n1,n2,n3]; rfl
theorem aH5 {n:Nat}{cs:List Value}{y:DataW H × List MemPlace} (h:DataW.trod enc Tryz.prog W 0 (fun _=>true) true n gJ cs=some y):∃ cs'',kB W.heap.size cs=some cs''∧∃ d,vY cs'' d:=by
 have hu:Tryz.prog.underlying gJ=some (.array 2 dR):=by kernel_rfl
 have hc:Tryz.prog.cellsOf gJ=2:=by kernel_rfl
 have hc1:Tryz.prog.cellsOf dR=1:=by kernel_rfl
 obtain⟨xs,m,_,_,hlen,hxs,hel⟩:=DataW.trod_array hu h
 rw[hc] at hlen
 have el:∀ i,i < 2→∃ a:Int,(cs.drop i).take 1=[.int .i64 a]:=by
  intro i hi
  have:=hel i hi
  rw[hc1,Nat.mul_one] at this
  have hx:xs[i]?=some xs[i]:=List.getElem?_eq_getElem (by omega)
  rw[hx] at this
  exact aBU this
 match cs,hlen with
 | [a0,a1],_ =>
  obtain⟨x0,g0⟩:=el 0 (by omega)
  obtain⟨x1,g1⟩:=el 1 (by omega)
  simp at g0 g1
  subst g0 g1
  exact⟨_,rfl,(x0,x1),rfl⟩
theorem aIr {n:Nat}{cs:List Value}{y:DataW H × List MemPlace} (h:DataW.trod enc Tryz.prog W 0 (fun _=>true) true n dH cs=some y):∃ (c:List Nat) (k:Int),c.length=256∧(∀ x∈c,x < 256)∧cs=fD c k:=by
 have hL:fieldsOf Tryz.prog dH=some [(0,wZ),(256,dR)]:=by kernel_rfl
 have c0:Tryz.prog.cellsOf dH=257:=by kernel_rfl
 have c2:Tryz.prog.cellsOf wZ=256:=by kernel_rfl
 have c4:Tryz.prog.cellsOf dR=1:=by kernel_rfl
 have hc8:Tryz.prog.cellsOf cB=1:=by kernel_rfl
 have hua:Tryz.prog.underlying wZ=some (.array 256 cB):=by kernel_rfl
 obtain⟨hlen,m,hf⟩:=nY hL h
 obtain⟨_,f0⟩:=hf 0 _ _ rfl
 obtain⟨_,f1⟩:=hf 1 _ _ rfl
 rw[c0] at hlen
 rw[c2,List.drop_zero] at f0
 rw[c4] at f1
 obtain⟨k,hk⟩:=aBU f1
 obtain⟨xs,m,_,_,hl0,hxs,hel⟩:=DataW.trod_array hua f0
 have el:∀ i,i < 256→∃ a:Nat,cs[i]?=some (.int .u8 (a:Int))∧a < 256:=by
  intro i hi
  have h1:=hel i hi
  rw[hc8,Nat.mul_one,List.drop_take,List.take_take] at h1
  have hx:xs[i]?=some xs[i]:=List.getElem?_eq_getElem (by omega)
  rw[hx,show min 1 (256 - i)=1 by omega] at h1
  obtain⟨a,h2,h3⟩:=aKt h1
  refine⟨a,?_,h3⟩
  have h4:((cs.drop i).take 1)[0]?=some (.int .u8 (a:Int)):=by rw[h2]; rfl
  rw[List.getElem?_take] at h4
  simpa using h4
 have key:∀ i,i≤256→∃ c:List Nat,c.length=i∧(∀ x∈c,x < 256)∧cs.take i=u8s c:=by
  intro i
  induction i with
  | zero=>intro _; exact⟨[],rfl,by simp,by simp[u8s]⟩
  | succ i ih =>
   intro hi
   obtain⟨c,c1,c2,c3⟩:=ih (by omega)
   obtain⟨a,h1,h2⟩:=el i (by omega)
   refine⟨c++[a],by simp[c1],?_,?_⟩
   ·intro x hx
    rcases List.mem_append.1 hx with h | h
    ·exact c2 x h
    ·simp at h; omega
   ·have hil:i < cs.length:=by omega
    rw[List.getElem?_eq_getElem hil] at h1
    rw[List.take_succ_eq_append_getElem hil,Option.some.inj h1,c3]
    simp[u8s]
 obtain⟨c,c1,c2,c3⟩:=key 256 (Nat.le_refl _)
 refine⟨c,k,c1,c2,?_⟩
 unfold fD
 rw[← List.take_append_drop 256 cs,c3]
 congr 1
 rw[← hk,List.take_of_length_le (by rw[List.length_drop]; omega)]
theorem aC9 {N:Nat} (k:Int) {v w v' w':Value} (h1:wP N v=some v') (h2:wP N w=some w'):∀ c:List Nat,kB N (d4 c k v w)=some (d4 c k v' w')
 | []=>by
  show kB N [.int .i64 k,v,w]=some [.int .i64 k,v',w']
  simp only[kB,h1,h2]; rfl
 | a::c=>by
  have e:∀ x y,d4 (a::c) k x y=.int .u8 (a:Int)::d4 c k x y:=fun _ _=>rfl
  rw[e,e]
  simp only[kB,aC9 k h1 h2 c]; rfl
theorem aJE {n:Nat}{cs:List Value}{y:DataW H × List MemPlace} (h:DataW.trod enc Tryz.prog W 0 (fun _=>true) true n bH cs=some y):∃ cs'',kB W.heap.size cs=some cs''∧∃ d,qZ (nO W) .e cs'' d:=by
 have hL:fieldsOf Tryz.prog bH=some [(0,dH),(257,mA),(258,iG)]:=by kernel_rfl
 have c0:Tryz.prog.cellsOf bH=259:=by kernel_rfl
 have c2:Tryz.prog.cellsOf dH=257:=by kernel_rfl
 have c4:Tryz.prog.cellsOf mA=1:=by kernel_rfl
 have c5:Tryz.prog.cellsOf iG=1:=by kernel_rfl
 have hu1:Tryz.prog.underlying mA=some (.slice gJ):=by kernel_rfl
 have hu2:Tryz.prog.underlying iG=some (.slice bA):=by kernel_rfl
 have hc1:Tryz.prog.cellsOf gJ=2:=by kernel_rfl
 have hc2:Tryz.prog.cellsOf bA=4:=by kernel_rfl
 obtain⟨hlen,m,hf⟩:=nY hL h
 obtain⟨_,f0⟩:=hf 0 _ _ rfl
 obtain⟨_,f1⟩:=hf 1 _ _ rfl
 obtain⟨_,f2⟩:=hf 2 _ _ rfl
 rw[c0] at hlen
 rw[c2,List.drop_zero] at f0
 rw[c4] at f1
 rw[c5] at f2
 obtain⟨c,k,hc,hcl,g0⟩:=aIr f0
 obtain⟨v,v',C,g1,n1,z1,b1⟩:=oM hu1 hc1 (by omega) f1 fun n cs' y hy=>aH5 hy
 obtain⟨w,w',S,g2,n2,z2,b2⟩:=oM hu2 hc2 (by omega) f2 fun n cs' y hy=>aIt hy
 have hcs:cs=d4 c k v w:=by
  unfold d4
  rw[← List.take_append_drop 257 cs,g0]
  congr 1
  have h1:cs.drop 257=(cs.drop 257).take 1++(cs.drop 257).drop 1:=(List.take_append_drop 1 _).symm
  rw[h1,g1,List.drop_drop,← List.take_of_length_le (i:=1) (l:=cs.drop (257+1)) (by rw[List.length_drop]; omega)]
  show [v]++(cs.drop 258).take 1=_
  rw[g2]; rfl
 refine⟨d4 c k v' w',?_,⟨c,k,C,S⟩,v',w',rfl,hc,hcl,z1,z2,b1,b2⟩
 rw[hcs]
 exact aC9 k n1 n2 c
theorem aN7 {n:Nat}{cs:List Value}{y:DataW H × List MemPlace} (h:DataW.trod enc Tryz.prog W 0 (fun _=>true) true n o8 cs=some y):∃ a:ByteArray,zZ cs a:=by
 have hu:Tryz.prog.underlying o8=some .string:=by kernel_rfl
 obtain⟨a,rfl,_,hb⟩:=DataW.trod_string hu h
 exact⟨a,rfl,by unfold maxLen at hb; unfold kW; omega⟩
theorem aEf {n:Nat}{cs:List Value}{y:DataW H × List MemPlace} (h:DataW.trod enc Tryz.prog W 0 (fun _=>true) true n jQ cs=some y):∃ v v' l,cs=[v]∧wP W.heap.size v=some v'∧SlR (nO W) .e v' 1 zZ l∧l.length≤kW:=by
 have hu:Tryz.prog.underlying jQ=some (.slice o8):=by kernel_rfl
 have hc:Tryz.prog.cellsOf o8=1:=by kernel_rfl
 exact oM hu hc (by omega) h fun n cs' y hy=>by
  obtain⟨a,ha⟩:=aN7 hy
  exact⟨cs',by rw[ha.1]; rfl,a,ha⟩
theorem aFo {N:Nat}:∀ {l l' m m':List Value},kB N l=some l'→kB N m=some m'→kB N (l++m)=some (l'++m')
 | [],l',m,m',h1,h2=>by cases h1; exact h2
 | x::l,l',m,m',h1,h2=>by
  simp only[kB] at h1
  obtain⟨x',e1,h1⟩:=aM h1
  obtain⟨r',e2,h1⟩:=aM h1
  cases h1
  simp only[List.cons_append,kB,e1,aFo e2 h2]; rfl
theorem aLP {n:Nat}{cs:List Value}{y:DataW H × List MemPlace} (h:DataW.trod enc Tryz.prog W 0 (fun _=>true) true n cA cs=some y):∃ cs'',kB W.heap.size cs=some cs''∧∃ d,sG (nO W) .e cs'' d:=by
 have hL:fieldsOf Tryz.prog cA=some [(0,bH),(259,iZ)]:=by kernel_rfl
 have c0:Tryz.prog.cellsOf cA=260:=by kernel_rfl
 have c2:Tryz.prog.cellsOf bH=259:=by kernel_rfl
 have c4:Tryz.prog.cellsOf iZ=1:=by kernel_rfl
 obtain⟨hlen,m,hf⟩:=nY hL h
 obtain⟨_,f0⟩:=hf 0 _ _ rfl
 obtain⟨_,f1⟩:=hf 1 _ _ rfl
 rw[c0] at hlen
 rw[c2,List.drop_zero] at f0
 rw[c4] at f1
 obtain⟨cs'',n0,d,hd⟩:=aJE f0
 obtain⟨v,v',l,g1,n1,z1,b1⟩:=s6 f1
 have hcs:cs=cs.take 259++[v]:=by
  have h1:cs=cs.take 259++cs.drop 259:=(List.take_append_drop 259 _).symm
  rw[List.take_of_length_le (by rw[List.length_drop]; omega)] at g1
  rw[← g1]; exact h1
 refine⟨cs''++[v'],?_,⟨d,l⟩,cs'',v',rfl,hd,z1,b1⟩
 rw[hcs]
 exact aFo n0 (aEJ n1)
theorem aNP {v:Value}{d:DataW H}{p:List MemPlace} (h:DataW.Trod enc Tryz.prog W 0 (fun _=>true) true dF v d p) {base:Nat} (hval:Value.okWide Tryz.prog W .any base dF v):∃ x T,Arg W.heap.size (.agg x.toArray) v∧aCq (nO W) .e x T:=by
 have hL:fieldsOf Tryz.prog dF=some [(0,jQ),(1,jQ),(2,iZ),(3,iF)]:=by kernel_rfl
 have c0:Tryz.prog.cellsOf dF=4:=by kernel_rfl
 have c1:Tryz.prog.cellsOf jQ=1:=by kernel_rfl
 have c2:Tryz.prog.cellsOf iZ=1:=by kernel_rfl
 have c3:Tryz.prog.cellsOf iF=1:=by kernel_rfl
 have hu:Tryz.prog.underlying iF=some (.slice cA):=by kernel_rfl
 have hc:Tryz.prog.cellsOf cA=260:=by kernel_rfl
 obtain⟨cs,rfl⟩:=aJ6 hL hval
 obtain⟨fuel,hf⟩:=h
 have ecs:(Value.agg cs).cells.toList=cs.toList:=rfl
 rw[ecs] at hf
 obtain⟨hlen,m,hf⟩:=nY hL hf
 obtain⟨_,f0⟩:=hf 0 _ _ rfl
 obtain⟨_,f1⟩:=hf 1 _ _ rfl
 obtain⟨_,f2⟩:=hf 2 _ _ rfl
 obtain⟨_,f3⟩:=hf 3 _ _ rfl
 rw[c0] at hlen
 rw[c1] at f0 f1
 rw[c2] at f2
 rw[c3] at f3
 obtain⟨v0,w0,l0,g0,n0,z0,b0⟩:=aEf f0
 obtain⟨v1,w1,l1,g1,n1,z1,b1⟩:=aEf f1
 obtain⟨v2,w2,l2,g2,n2,z2,b2⟩:=s6 f2
 obtain⟨v3,w3,l3,g3,n3,z3,b3⟩:=oM hu hc (by omega) f3 fun n cs' y hy=>aLP hy
 refine⟨[w0,w1,w2,w3],⟨l0,l1,l2,l3⟩,.agg ?_,w0,w1,w2,w3,rfl,z0,z1,z2,z3,b0,b1,b2,b3⟩
 generalize cs.toList=cl at *
 match cl,hlen with
 | [a0,a1,a2,a3],_ =>
  simp at g0 g1 g2 g3
  subst g0 g1 g2 g3
  simp only[kB,n0,n1,n2,n3]; rfl
def aKK (ro:Ro) (h:V.T Obj) (x:List Value) (l:List Nat):Prop:=∃ w,x=[w]∧SlR ro h w 1 RU8 l∧l.length≤kW
theorem aJ9 {v:Value}{d:DataW H}{p:List MemPlace} (h:DataW.Trod enc Tryz.prog W 0 (fun _=>true) true gE v d p) {base:Nat} (hval:Value.okWide Tryz.prog W .any base gE v):∃ v' l,Arg W.heap.size v' v∧SlR (nO W) .e v' 1 (aKK (nO W) .e) l∧l.length≤kW:=by
 have hu:Tryz.prog.underlying gE=some (.slice bC):=by kernel_rfl
 have hc:Tryz.prog.cellsOf bC=1:=by kernel_rfl
 obtain⟨fuel,hf⟩:=h
 obtain⟨v1,v',l,hv,hn,hl,hb⟩:=oM hu hc (by omega) hf (R:=aKK (nO W) .e) fun n cs' y hy=>by
  obtain⟨v9,v9',l9,rfl,hn9,hl9,hb9⟩:=aFs hy
  exact⟨_,aEJ hn9,l9,v9',rfl,hl9,hb9⟩
 have hvv:v.cells.toList=[v1]:=hv
 have hv1:v=v1:=by
  obtain⟨a,len,cap,rfl⟩:=okWide_slice hu hval
  simpa [Value.cells] using hvv
 subst hv1
 exact⟨v',l,.one hn,hl,hb⟩
end
end V
end Go.Proofs.YtcaccnneblghgaaGreat
namespace Go.Proofs.YtcaccnneblghgaaGreat
namespace V
attribute [local irreducible] aB ifP aR cS eQ exP cN
theorem aBO:∀ {mcs:List (List Value)}{k:Nat}{a b r:Value},(∀ x∈mcs,x.length=2)→mcs[k]?=some [a,b]→mcs.flatten.set (k*2+1) r=(mcs.set k [a,r]).flatten
 | [],k,a,b,r,_,h=>by simp at h
 | y::l,0,a,b,r,hz,h=>by
  simp at h; subst h; rfl
 | y::l,k+1,a,b,r,hz,h=>by
  have hy:=hz y (by simp)
  have ih:=aBO (mcs:=l) (k:=k) (a:=a) (b:=b) (r:=r) (fun x hx=>hz x (by simp[hx])) (by simpa using h)
  rw[List.set_cons_succ,List.flatten_cons,List.flatten_cons,List.set_append_right _ _ (by omega),hy,show (k+1)*2+1 - 2=k*2+1 by omega,ih]
theorem aQg {ro:Ro}{h:T Obj}{v:Value}{l:List Nat} (hs:Sl ro h v 1 (aGm l)) (hl:∀ x∈l,x < 256):SlR ro h v 1 RU8 l:=⟨aGm l,hs,aB5 l,fun i x d hx hd=>by
 simp only[aGm,List.getElem?_map] at hx
 rw[hd] at hx
 cases hx
 exact⟨rfl,hl d (List.mem_of_getElem? hd)⟩⟩
theorem RU8.lt {ro:Ro}{h:T Obj}{v:Value}{l:List Nat} (hs:SlR ro h v 1 RU8 l):∀ x∈l,x < 256:=fun x hx=>by
 obtain⟨cs,h1,h2,h3⟩:=hs
 obtain⟨i,hi⟩:=List.getElem?_of_mem hx
 have hlt:=(List.getElem?_eq_some_iff.1 hi).1
 exact (h3 i _ _ (List.getElem?_eq_getElem (by omega)) hi).2
theorem aJS (mid n c k j:Nat):pJ 2 (.slice (some (own mid 2)) n c) k j=at_ mid (k*2+j) 0:=by simp[pJ,elt,own]
def lA (v:Value):List Nat:=(i3 v).toList
theorem fE {v:Value}{k:Nat}:k∈lA v ↔ i3 v=some k:=by unfold lA; cases i3 v<;>simp[eq_comm]
section
variable {ro:Ro}{h:T Obj}{nx nA:Nat}{X:List Nat}{Q:KE}{e:Env}
set_option maxRecDepth 8000 in
theorem aQ1 {mid:Nat}{row:List MoveD}{mcs0:List (List Value)}{w2 w3 w6 w19 w20 w21 w33 w34 w35:Value} (e2:e 2=w2) (e3:e 3=w3) (e6:e 6=w6) (e19:e 19=w19) (e20:e 20=w20) (e21:e 21=w21) (e33:e 33=w33) (e34:e 34=w34) (e35:e 35=w35)
  (e9:e 9=.slice (some (own mid 2)) row.length row.length) (e41:e 41=.slice (some (own mid 2)) row.length row.length) (e42:e 42=.int .i64 row.length) (e43:e 43=.int .i64 0)
  (hg:h.get mid=some (.cells mcs0.flatten.toArray cJ)) (hl:mcs0.length=row.length) (h2:∀ x∈mcs0,x.length=2) (hlen:row.length≤1000000)
  (hsrc:∀ (i:Nat) x m,mcs0[i]?=some x→row[i]?=some m→∃ ov,x=[.int .i64 m.to,ov]∧SlR ro (del h [mid]) ov 1 RU8 m.ops∧m.ops.length≤1000000) (hf:Fr h nx) (hX:∀ k∈X,k < nA) (hmid:nA≤mid) (hnA:nA≤nx)
  (hQ:∀ (e':Env) h' n',e' 2=w2→e' 3=w3→e' 6=w6→e' 9=.slice (some (own mid 2)) row.length row.length→e' 19=w19→e' 20=w20→e' 21=w21→e' 33=w33→e' 34=w34→e' 35=w35→nx≤n'→Fr h' n'→dT [mid] h h' →
   SlR ro (del h' X) (.slice (some (own mid 2)) row.length row.length) 2 (xV ro (del h' X)) row→Q (.exit 4) e' h' n'):dQ (sW ro) e h nx Q:=by
 have hlt:=hf.lt' hg
 refine a9 (fun j e h' nx'=>∃ (k:Nat) (mcs:List (List Value)),k+j=row.length∧nx≤nx'∧e 2=w2∧e 3=w3∧e 6=w6∧e 19=w19∧e 20=w20∧e 21=w21∧e 33=w33∧e 34=w34∧e 35=w35∧e 9=.slice (some (own mid 2)) row.length row.length∧e 41=.slice (some (own mid 2)) row.length row.length∧e 42=.int .i64 row.length∧e 43=.int .i64 k ∧
  h'.get mid=some (.cells mcs.flatten.toArray cJ)∧mcs.length=row.length∧(∀ x∈mcs,x.length=2)∧(∀ i,k≤i→mcs[i]?=mcs0[i]?)∧(∀ (i:Nat) x m,i < k→mcs[i]?=some x→row[i]?=some m→∃ ov,x=[.int .i64 m.to,ov]∧SlR ro (del h' (mid::X)) ov 1 RU8 m.ops∧m.ops.length≤1000000)∧dT [mid] h h'∧Fr h' nx') ?_ (n:=row.length)
  ⟨0,mcs0,by omega,by omega,e2,e3,e6,e19,e20,e21,e33,e34,e35,e9,e41,e42,e43,hg,hl,h2,fun _ _=>rfl,fun i x m hi=>by omega,(Sub.refl h).keepL,hf⟩
 rintro j e h' nx' ⟨k,mcs,hj,hnx,e2,e3,e6,e19,e20,e21,e33,e34,e35,e9,e41,e42,e43,hg',hl',h2',hun,hpr,hk',hf'⟩ Q' hq hx
 have hsl:Sl ro h' (.slice (some (own mid 2)) row.length row.length) 2 mcs:=by rw[← hl']; exact Sl.own hg' h2' (Nat.le_refl _)
 unfold sW
 rw[e9,e41,e42,e43]
 refine dC (fun hk=>?_) (fun hk=>?_)
 ·have hk:k < row.length:=by omega
  have hmk:mcs[k]?=some (mcs[k]'(by omega)):=List.getElem?_eq_getElem _
  have hmk0:=hun k (Nat.le_refl _)
  rw[hmk] at hmk0
  have hrk:row[k]?=some row[k]:=List.getElem?_eq_getElem _
  obtain⟨ov,hx0,hov,hol⟩:=hsrc k _ _ hmk0.symm hrk
  rw[hx0] at hmk
  have hix:=hsl.ix .i64 (i:=k) (by omega)
  have hld:=hsl.loadA hmk
  have hfw:=hsl.fwd (i:=k) (by omega) 1
  rw[aJS] at hfw
  generalize row[k]=m at hx0 hov hol hmk hrk hld
  (repeat(first|refine zzB ?_|apply aD|apply aE|with_reducible first|apply aG|apply aF|apply aK|apply aH|apply aJ|apply aI|apply aL|apply aC))
  refine aA hix (aA hld ?_)
  refine jH (x:=[.int .i64 m.to,ov]) aEs rfl rfl rfl (by simp[show cT ov=true from SlR.okC hov,show cT (Value.int .i64 m.to)=true from rfl]) hf' (by omega) fun h3 hs3 hf3 g3 _=>?_
  (repeat(first|refine zzB ?_|apply aD|apply aE|with_reducible first|apply aG|apply aF|apply aK|apply aH|apply aJ|apply aI|apply aL|apply aC))
  refine aA (aZ (l:=[.int .i64 m.to,ov]) g3 rfl) ?_
  have hD3:Sub (del h [mid]) h3:=(hk'.delS (fun k h=>h)).trans hs3
  refine aJL (hov.sub hD3 fun _ _ h=>h) hol (hf3.mono (by omega)) fun r h4 n4 hn4 hf4 hs4 ho4=>?_
  have g4:=hs4 _ _ (hs3 _ _ hg')
  refine aA hix (aA hfw ?_)
  have hfl:mcs.flatten.length=row.length*2:=by rw[(mC h2').1,hl']
  refine aA (dG (l:=mcs.flatten) g4 (by omega) ho4.ok (by rcases ho4 with ⟨rfl,_⟩ | ⟨id,_,rfl,_⟩<;>rfl)) ?_
  rw[aBO h2' hmk]
  have hk5:dT [mid] h' (h4.upd mid (some (.cells (mcs.set k [.int .i64 m.to,r]).flatten.toArray cJ))):=((hs3.trans hs4).keepL).upd (by simp)
  have hk45:dT [mid] h4 (h4.upd mid (some (.cells (mcs.set k [.int .i64 m.to,r]).flatten.toArray cJ))):=(Sub.refl h4).keepL.upd (by simp)
  have hf5:Fr (h4.upd mid (some (.cells (mcs.set k [.int .i64 m.to,r]).flatten.toArray cJ))) n4:=hf4.upd (Nat.le_refl _) (by omega)
  have g5:(h4.upd mid (some (.cells (mcs.set k [.int .i64 m.to,r]).flatten.toArray cJ))).get mid=some (.cells (mcs.set k [.int .i64 m.to,r]).flatten.toArray cJ):=T.get_upd_same _ _ _
  generalize (h4.upd mid (some (.cells (mcs.set k [.int .i64 m.to,r]).flatten.toArray cJ)))=h5 at hk5 hk45 hf5 g5
  have ho5:=(ho4.keepK hk45 fun id hid hm=>by have:=(ho4.blk hid).1; simp at hm; omega).del (ids:=mid::X) fun id hid hm=>by
   have:=(ho4.blk hid).1
   rcases List.mem_cons.1 hm with h9 | h9
   ·omega
   ·have:=hX id h9; omega
  have hR5:=aQg (ro:=ro) ho5.sl (RU8.lt hov)
  (repeat(first|refine zzB ?_|apply aD|apply aE|with_reducible first|apply aG|apply aF|apply aK|apply aH|apply aJ|apply aI|apply aL|apply aC))
  refine hq (j - 1) _ _ _ _ (by omega) ⟨k+1,mcs.set k [.int .i64 m.to,r],by omega,by omega,e2,e3,e6,e19,e20,e21,e33,e34,e35,e9,e41,e42,rfl,g5,by rw[List.length_set]; exact hl',fun x hx=>?_,fun i hi=>?_,fun i x m' hi hxi hmi=>?_,hk'.trans hk5,hf5.mono (by omega)⟩ (Sub.refl _)
  ·rcases List.mem_or_eq_of_mem_set hx with h9 | h9
   ·exact h2' x h9
   ·subst h9; rfl
  ·rw[List.getElem?_set_ne (by omega)]; exact hun i (by omega)
  ·by_cases hik:k=i
   ·subst hik
    rw[List.getElem?_set_self (by omega)] at hxi
    cases hxi
    rw[hrk] at hmi
    cases hmi
    exact⟨r,rfl,hR5,hol⟩
   ·rw[List.getElem?_set_ne hik] at hxi
    obtain⟨ov',q1,q2,q3⟩:=hpr i x m' (by omega) hxi hmi
    exact⟨ov',q1,q2.sub (hk5.del (l:=mid::X) (l':=mid::X) (fun k hk=>by simp at hk; subst hk; exact List.mem_cons_self ..) fun k hk=>.inl hk) fun _ _ h=>h,q3⟩
 ·(repeat(first|refine zzB ?_|apply aD|apply aE|with_reducible first|apply aG|apply aF|apply aK|apply aH|apply aJ|apply aI|apply aL|apply aC))
  refine hx _ _ _ _ (fun e=>by cases e) ?_
  have hmX:mid ∉ X:=fun hm=>by have:=hX mid hm; omega
  refine hQ _ _ _ e2 e3 e6 e9 e19 e20 e21 e33 e34 e35 (by omega) (hf'.mono (by omega)) hk' ⟨mcs,?_,hl',fun i x m hx hm=>?_⟩
  ·have:(del h' X).get mid=some (.cells mcs.flatten.toArray cJ):=j5 hg' hmX
   rw[← hl']
   exact Sl.own this h2' (Nat.le_refl _)
  ·have hi:=(List.getElem?_eq_some_iff.1 hx).1
   obtain⟨ov',q1,q2,q3⟩:=hpr i x m (by omega) hx hm
   exact⟨ov',q1,q2.sub (sP fun k hk=>List.mem_cons_of_mem _ hk) fun _ _ h=>h,by unfold kW; omega⟩
end
end V
end Go.Proofs.YtcaccnneblghgaaGreat
namespace Go.Proofs.YtcaccnneblghgaaGreat
namespace V
attribute [local irreducible] aB ifP aR cS eQ exP cN
theorem aOx:und Tryz.prog gB=some (.slice eJ):=by kernel_rfl
theorem aQM:∃ i,tin Tryz.prog eJ=some i∧i.size=1∧i.bytes=24:=xH (by kernel_rfl)
theorem aQV:zer Tryz.prog eJ=some (.slice none 0 0):=by kernel_rfl
theorem aPk (aid:Nat) (a:Option Addr) (n c:Nat):bQ Tryz.prog gB aid 1 [(0,.slice a n c)]=some (.slice (some (own aid 1)) 1 1,some (.cells [Value.slice a n c].toArray eJ)):=by kernel_rfl
def wsC (ws:List Value):List (List Value):=ws.map fun w=>[w]
theorem aHH (ws:List Value):(wsC ws).length=ws.length:=by simp[wsC]
theorem aQD {ro:Ro}{h:T Obj}{w:Value}{row:List MoveD} (hr:SlR ro h w 2 (xV ro h) row):∃ cs,Sl ro h w 2 cs∧cs.length=row.length∧cs.flatten.all cT=true∧(∀ x∈cs,x.length=2)∧∀ (i:Nat) x m,cs[i]?=some x→row[i]?=some m→xV ro h x m:=by
 obtain⟨cs,h1,h2,h3⟩:=hr
 refine⟨cs,h1,h2,?_,?_,h3⟩
 ·rw[List.all_eq_true]
  intro x hx
  obtain⟨y,hy,hxy⟩:=List.mem_flatten.1 hx
  obtain⟨i,hi⟩:=List.getElem?_of_mem hy
  have hlt:=(List.getElem?_eq_some_iff.1 hi).1
  obtain⟨ov,rfl,hov,_⟩:=h3 i _ _ hi (List.getElem?_eq_getElem (by omega))
  simp at hxy
  rcases hxy with rfl | rfl
  ·rfl
  ·exact SlR.okC hov
 ·intro y hy
  obtain⟨i,hi⟩:=List.getElem?_of_mem hy
  have hlt:=(List.getElem?_eq_some_iff.1 hi).1
  obtain⟨ov,rfl,_⟩:=h3 i _ _ hi (List.getElem?_eq_getElem (by omega))
  rfl
section
variable {ro:Ro}{h:T Obj}{nx nA:Nat}{X:List Nat}{Q:KE}{e:Env}
set_option maxRecDepth 8000 in
set_option maxHeartbeats 1000000 in
theorem aQ0 {tid:Nat}{nvs R' U':Value}{rows:List (List MoveD)}{w2 w3 w19 w20 w21:Value} (e2:e 2=w2) (e3:e 3=w3) (e6:e 6=ptr tid) (e19:e 19=w19) (e20:e 20=w20) (e21:e 21=w21) (e33:e 33=nvs) (e34:e 34=.int .i64 rows.length) (e35:e 35=.int .i64 0)
  (hg:h.get tid=some (.cells [dD,R',U',dD].toArray bA)) (hlen:rows.length≤1000000) (hsrc:SlR ro (del h [tid]) nvs 1 (sH ro (del h [tid])) rows) (hrow:∀ row∈rows,row≠[]∧row.length≤1000000∧∀ m∈row,m.ops.length≤1000000)
  (hf:Fr h nx) (hX:∀ k∈X,k < nA) (htid:nA≤tid) (hnA:nA≤nx)
  (hQ:∀ (e':Env) h' n' nv,e' 2=w2→e' 3=w3→e' 6=ptr tid→e' 19=w19→e' 20=w20→e' 21=w21→nx≤n'→Fr h' n'→dT [tid] h h'→h'.get tid=some (.cells [dD,R',U',nv].toArray bA) →
   SlR ro (del h' (tid::X)) nv 1 (sH ro (del h' (tid::X))) rows→Q (.exit 2) e' h' n'):dQ (sV ro) e h nx Q:=by
 have hlt:=hf.lt' hg
 refine a9 (fun j e h' nx'=>∃ (k:Nat) (ws:List Value) (nv:Value),k+j=rows.length∧nx≤nx'∧e 2=w2∧e 3=w3∧e 6=ptr tid∧e 19=w19∧e 20=w20∧e 21=w21∧e 33=nvs∧e 34=.int .i64 rows.length∧e 35=.int .i64 k ∧
  h'.get tid=some (.cells [dD,R',U',nv].toArray bA)∧dU h' nv 1 eJ (wsC ws) nx∧ws.length=k∧(∀ (i:Nat) w row,ws[i]?=some w→rows[i]?=some row→sH ro (del h' (tid::(lA nv++X))) [w] row)∧dT [tid] h h'∧Fr h' nx') ?_ (n:=rows.length)
  ⟨0,[],dD,by omega,by omega,e2,e3,e6,e19,e20,e21,e33,e34,e35,hg,dU.nil,rfl,fun i w row hw=>by simp at hw,(Sub.refl h).keepL,hf⟩
 rintro j e h' nx' ⟨k,ws,nv,hj,hnx,e2,e3,e6,e19,e20,e21,e33,e34,e35,hg',ho',hwl,hfa,hk',hf'⟩ Q' hq hx
 unfold sV
 rw[e33,e34,e35]
 refine dC (fun hk=>?_) (fun hk=>?_)
 ·have hk:k < rows.length:=by omega
  have hD:Sub (del h [tid]) h':=hk'.delS fun k h=>h
  have hs':=hsrc.sub hD (sH.sub hD)
  have hix:=hs'.ix .i64 hk
  obtain⟨w0,⟨w0',hw1,hw2,hw3⟩,hld⟩:=hs'.at1 hk
  simp only[List.cons.injEq,and_true] at hw1
  subst hw1
  have hrk:rows[k]?=some rows[k]:=List.getElem?_eq_getElem _
  obtain⟨b1,b2,b3⟩:=hrow _ (List.getElem_mem hk)
  generalize rows[k]=row at hw2 hw3 hrk b1 b2 b3
  obtain⟨cs,c1,c2,c3,c4,c5⟩:=aQD hw2
  (repeat(first|refine zzB ?_|apply aD|apply aE|with_reducible first|apply aG|apply aF|apply aK|apply aH|apply aJ|apply aI|apply aL|apply aC))
  refine aA hix (aA hld ?_)
  refine aGT c1 c3 (by omega) (hf'.mono (by omega)) fun r h1 n1 hn1 hf1 hs1 ho1=>?_
  have hlnr:=(ho1.sl (ro:=ro)).len
  rw[c2] at hlnr
  rcases ho1 with ⟨_,hnil⟩ | ⟨mid,hmid,rfl,hz1,hg1⟩
  ·exact absurd (List.length_eq_zero_iff.1 (by rw[← c2,hnil]; rfl)) b1
  rw[c2]
  refine aA rfl ?_
  have hmlt:=hf1.lt' hg1
  have hs1m:Sub h' (del h1 [mid]):=hs1.delN hf' fun i hi=>by simp at hi; omega
  refine aQ1 (ro:=ro) (mid:=mid) (row:=row) (mcs0:=cs) (nA:=nx'+6) (X:=tid::(lA nv++X)) e2 e3 e6 e19 e20 e21 e33 e34 e35 rfl rfl rfl rfl hg1 c2 hz1 b2 (fun i x m hxi hmi=>?_) (hf1.mono (by omega)) (fun k hk=>?_) hmid (by omega) ?_
  ·obtain⟨ov,rfl,hov,_⟩:=c5 i x m hxi hmi
   exact⟨ov,rfl,hov.sub hs1m fun _ _ h=>h,b3 m (List.mem_of_getElem? hmi)⟩
  ·rcases List.mem_cons.1 hk with rfl | hk
   ·have:=hf'.lt' hg'; omega
   ·rcases List.mem_append.1 hk with hk | hk
    ·have h9:=(ho'.blk (fE.1 hk)).2
     have:=hf'.lt' h9; omega
    ·have:=hX k hk; omega
  ·intro e4 h2 n2 f2 f3 f6 f9 f19 f20 f21 f33 f34 f35 hn2 hf2 hk2 hrw
   have hs2:Sub h' h2:=fun k o hk=>hk2 k o (hs1 k o hk) fun hm=>by have:=hf'.lt' hk; simp at hm; omega
   have hg2:=hs2 _ _ hg'
   have ho2:=ho'.keepS hs2
   have hj5:∀ (e5:Env) n3,e5 2=w2→e5 3=w3→e5 6=ptr tid→e5 9=.slice (some (own mid 2)) row.length row.length→e5 19=w19→e5 20=w20→e5 21=w21→e5 33=nvs→e5 34=.int .i64 rows.length→e5 35=.int .i64 k→n2≤n3→oI ro Q' e5 h2 n3:=by
    intro e5 n3 u2 u3 u6 u9 u19 u20 u21 u33 u34 u35 hn3
    unfold oI
    rw[u6,u9]
    (repeat(first|refine zzB ?_|apply aD|apply aE|with_reducible first|apply aG|apply aF|apply aK|apply aH|apply aJ|apply aI|apply aL|apply aC))
    refine aA (aZ (l:=[dD,R',U',nv]) hg2 rfl) ?_
    obtain⟨i,t1,t2,t3⟩:=aQM
    have hn1lt:i3 nv≠some (n3+3):=fun e=>by
     have h9:=(ho2.blk e).2
     have:=hf2.lt' h9; omega
    refine aA9 (z:=1) (l:=wsC ws) (y:=[.slice (some (own mid 2)) row.length row.length]) (aPk _ _ _ _) rfl ho2 aOx t1 (by omega) (by omega) aQV rfl rfl (by rw[aHH,t3]; unfold big; omega) (by rw[aHH]; unfold big; omega) (hf2.mono (by omega)) (by omega) (by omega) hn1lt fun h3 ho3 hk3 hf3=>?_
    have ewc:wsC ws++[[.slice (some (own mid 2)) row.length row.length]]=wsC (ws++[.slice (some (own mid 2)) row.length row.length]):=by simp[wsC]
    rw[ewc] at ho3 ⊢
    generalize hnv:Value.slice (some (own (n3+5) 1)) (wsC (ws++[.slice (some (own mid 2)) row.length row.length])).length (wsC (ws++[.slice (some (own mid 2)) row.length row.length])).length=nv2 at ho3
    have hsb2:i3 nv2=some (n3+5):=by rw[← hnv]; rfl
    have hg3:=hk3 _ _ hg2 (by have:=hf2.lt' hg2; omega) (fun e=>(ho2.ne hg2 (by decide)) e)
    dsimp only
    (repeat(first|refine zzB ?_|apply aD|apply aE|with_reducible first|apply aG|apply aF|apply aK|apply aH|apply aJ|apply aI|apply aL|apply aC))
    refine aA (dG (l:=[dD,R',U',nv]) hg3 (by show 3 < 4; omega) ho3.ok (by rw[← hnv]; rfl)) ?_
    have hk4:dT (tid::lA nv) h2 (h3.upd tid (some (.cells ([dD,R',U',nv].set 3 nv2).toArray bA))):=fun k o hk hn=>by
     have h9:k≠tid:=fun e=>hn (by rw[e]; exact List.mem_cons_self ..)
     have h10:i3 nv≠some k:=fun e=>hn (List.mem_cons_of_mem _ (fE.2 e))
     rw[T.get_upd_ne _ _ h9]
     exact hk3 k o hk (by have:=hf2.lt' hk; omega) h10
    have ho4:dU (h3.upd tid (some (.cells ([dD,R',U',nv].set 3 nv2).toArray bA))) nv2 1 eJ (wsC (ws++[.slice (some (own mid 2)) row.length row.length])) nx:=by
     have hkk:dT [tid] h3 (h3.upd tid (some (.cells ([dD,R',U',nv].set 3 nv2).toArray bA))):=(Sub.refl h3).keepL.upd (by simp)
     exact ho3.keepK hkk fun id hid hm=>by rw[hsb2] at hid; cases hid; simp at hm; have:=hf2.lt' hg2; omega
    have hf4:Fr (h3.upd tid (some (.cells ([dD,R',U',nv].set 3 nv2).toArray bA))) (n3+6):=(hf3.mono (by omega)).upd (Nat.le_refl _) (by omega)
    have g4:(h3.upd tid (some (.cells ([dD,R',U',nv].set 3 nv2).toArray bA))).get tid=some (.cells [dD,R',U',nv2].toArray bA):=T.get_upd_same _ _ _
    generalize (h3.upd tid (some (.cells ([dD,R',U',nv].set 3 nv2).toArray bA)))=h4 at hk4 ho4 hf4 g4
    have hmono:Sub (del h2 (tid::(lA nv++X))) (del h4 (tid::(lA nv2++X))):=hk4.del (fun k hk=>by
      rcases List.mem_cons.1 hk with rfl | hk
      ·exact List.mem_cons_self ..
      ·exact List.mem_cons_of_mem _ (List.mem_append.2 (.inl hk))) fun k hk=>by
     rcases List.mem_cons.1 hk with rfl | hk
     ·exact .inl (List.mem_cons_self ..)
     ·rcases List.mem_append.1 hk with hk | hk
      ·have:=fE.1 hk
       rw[hsb2] at this
       cases this
       exact .inr (hf2 _ (by omega))
      ·exact .inl (List.mem_cons_of_mem _ (List.mem_append.2 (.inr hk)))
    have hj4:∀ (e6':Env) n6,e6' 2=w2→e6' 3=w3→e6' 6=ptr tid→e6' 19=w19→e6' 20=w20→e6' 21=w21→e6' 33=nvs→e6' 34=.int .i64 rows.length→e6' 35=.int .i64 k→n3+6≤n6→oH ro Q' e6' h4 n6:=by
     intro e6' n6 v2 v3 v6 v19 v20 v21 v33 v34 v35 hn6
     unfold oH
     rw[v35]
     (repeat(first|refine zzB ?_|apply aD|apply aE|with_reducible first|apply aG|apply aF|apply aK|apply aH|apply aJ|apply aI|apply aL|apply aC))
     refine hq (j - 1) _ _ _ _ (by omega) ⟨k+1,ws++[.slice (some (own mid 2)) row.length row.length],nv2,by omega,by omega,v2,v3,v6,v19,v20,v21,v33,v34,rfl,g4,ho4,by simp[hwl],fun i w row' hwi hri=>?_,fun k' o hk9 hn9=>?_,hf4.mono (by omega)⟩ (Sub.refl _)
     ·rcases Nat.lt_or_ge i ws.length with hi | hi
      ·rw[List.getElem?_append_left hi] at hwi
       have h9:=hfa i w row' hwi hri
       have hkeep2:Sub (del h' (tid::(lA nv++X))) (del h2 (tid::(lA nv++X))):=(Sub.keepL hs2:dT [] h' h2).del (fun k hk=>by cases hk) fun k hk=>.inl hk
       exact sH.sub (hkeep2.trans hmono) _ _ h9
      ·rw[List.getElem?_append_right hi] at hwi
       have hlt9:=(List.getElem?_eq_some_iff.1 hwi).1
       have:i=k:=by simp at hlt9; omega
       subst this
       rw[hrk] at hri
       cases hri
       have:w=.slice (some (own mid 2)) row.length row.length:=by have:=List.mem_of_getElem? hwi; simpa using this
       subst this
       exact⟨_,rfl,hrw.sub hmono (xV.sub hmono),by unfold kW; omega⟩
     ·have h10:=hs2 _ _ (hk' k' o hk9 hn9)
      have hk'lt:=hf.lt' hk9
      refine hk4 k' o h10 fun hm=>?_
      rcases List.mem_cons.1 hm with rfl | hm
      ·exact hn9 (by simp)
      ·have:=(ho2.blk (fE.1 hm)).1; omega
    exact hj4 _ _ u2 u3 u6 u19 u20 u21 u33 u34 u35 (by omega)
   refine eA (cR ?_)
   exact hj5 _ _ f2 f3 f6 f9 f19 f20 f21 f33 f34 f35 (Nat.le_refl _)
 ·(repeat(first|refine zzB ?_|apply aD|apply aE|with_reducible first|apply aG|apply aF|apply aK|apply aH|apply aJ|apply aI|apply aL|apply aC))
  refine hx _ _ _ _ (fun e=>by cases e) ?_
  have hnt:∀ id,i3 nv=some id→id ∉ tid::X:=fun id hid hm=>by
   have h9:=ho'.blk hid
   rcases List.mem_cons.1 hm with rfl | hm
   ·exact (ho'.ne hg' (by decide)) hid
   ·have:=hX id hm; omega
  have hsub:Sub (del h' (tid::(lA nv++X))) (del h' (tid::X)):=sP fun k hk=>by
   rcases List.mem_cons.1 hk with rfl | hk
   ·exact List.mem_cons_self ..
   ·exact List.mem_cons_of_mem _ (List.mem_append.2 (.inr hk))
  refine hQ _ _ _ nv e2 e3 e6 e19 e20 e21 (by omega) (hf'.mono (by omega)) hk' hg' ⟨wsC ws,(ho'.del hnt).sl,by rw[aHH]; omega,fun i x row hxi hri=>?_⟩
  simp only[wsC,List.getElem?_map] at hxi
  cases hw:ws[i]? with
  | none=>rw[hw] at hxi; cases hxi
  | some w =>
   rw[hw] at hxi
   cases hxi
   exact sH.sub hsub _ _ (hfa i w row hw hri)
end
end V
end Go.Proofs.YtcaccnneblghgaaGreat
namespace Go.Proofs.YtcaccnneblghgaaGreat
namespace V
attribute [local irreducible] aB ifP aR cS eQ exP cN
def erS (s:StateD):StateD:=⟨[],s.r,s.rule,s.next⟩
def er (d:AutoD):AutoD:=⟨d.c,d.many,d.counts,d.states.map erS⟩
theorem aBm {P:Program}{t:TypeId}{z:Array Value}{fs:Array Field}{pl:List (Nat × Nat)}{parts:List (Nat × Value)}{l:List Value} (h1:zer P t=some (.agg z)) (h2:und P t=some (.struct fs)) (h3:oN P fs.toList=some pl) (h4:nS (pl[·]?) z.toList parts=some l):fF P t parts=some (.agg l.toArray):=by
 unfold fF
 rw[h1]
 simp only[Option.bind,h2,h3,Value.cells_agg,h4]
theorem aN5 {P:Program}{t:TypeId}{pl:List (Nat × Nat)} (h:((und P t).bind fun d=>match d with
  | .struct fs=>oN P fs.toList
  | _=>none)=some pl):∃ fs,und P t=some (.struct fs)∧oN P fs.toList=some pl:=by
 obtain⟨d,h2,h3⟩:=aM h
 cases d<;>try (cases h3; done)
 exact⟨_,h2,h3⟩
theorem aIS {a b c:List Value} (h:c.length=a.length):over (a++b) 0 c=c++b:=by
 unfold over
 rw[List.take_zero,List.nil_append,Nat.zero_add,h,List.drop_left]
theorem aHV {c:List Nat}{n:Int}{cv:Value} (hc:c.length=256) (hcv:cv.cells=#[cv]):fF Tryz.prog bH [(0,mU c n),(1,cv)]=some (.agg (d4 c n cv dD).toArray):=by
 obtain⟨fs,h1,h2⟩:=aN5 (P:=Tryz.prog) (t:=bH) (pl:=[(0,257),(257,1),(258,1)]) (by kernel_rfl)
 refine aBm aEr h1 h2 ?_
 have hs:(fD (List.replicate 256 0) 0).length=257:=eG List.length_replicate
 have hs2:(fD c n).length=257:=eG hc
 have e1:Nat.beq (mU c n).cells.size 257=true:=by rw[mH]; simp[hs2]
 have e2:Nat.ble (0+257) v7.length=true:=by rw[sK]; rfl
 have o1:over v7 0 (mU c n).cells.toList=d4 c n dD dD:=by
  rw[mH]
  exact aIS (by rw[hs,hs2])
 have e3:Nat.beq cv.cells.size 1=true:=by rw[hcv]; rfl
 have e4:Nat.ble (257+1) (d4 c n dD dD).length=true:=by rw[cQ hc]; rfl
 have o2:over (d4 c n dD dD) 257 cv.cells.toList=d4 c n cv dD:=by
  rw[hcv]
  show over _ 257 [cv]=_
  rw[aEM _ (by rw[cQ hc]; omega),aHQ hc]
 show nS _ v7 _=_
 simp only[nS,List.getElem?_cons_zero,List.getElem?_cons_succ,Option.bind,e1,e2,o1,e3,e4,o2]
theorem aHz {P:Program}{h:T Obj}{a n:Nat}{ty:TypeId}{zv v:Value}{x:List Value}{K:T Obj→Prop} (hz:zer P ty=some zv) (hzs:zv.cells.size=n) (hv:v.cells=x.toArray) (hx:x.length=n) (hok:x.all cT=true)
  (hK:∀ h',h'.get a=some (.cells x.toArray ty)→(∀ k,k≠a→h'.get k=h.get k)→K h') :
  aB (zer P ty) fun z=>cS h a (.cells z.cells ty) fun h1=>aB (bV n h1 (ptr a) v) K:=by
 refine aA hz (aD (aA (l5 (l:=zv.cells.toList) (vs:=x) (e:=ty) (f:=(0,0)) (by rw[T.get_upd_same]) hv hx (by simpa using hzs) hok) ?_))
 exact hK _ (by rw[T.get_upd_same]) fun k hk=>by rw[T.get_upd_ne _ _ hk,T.get_upd_ne _ _ hk]
theorem aGR (a b:Value) (h1:a.cells=#[a]) (h2:b.cells=#[b]):fF Tryz.prog bA [(1,a),(2,b)]=some (.agg #[dD,a,b,dD]):=by
 obtain⟨fs,g1,g2⟩:=aN5 (P:=Tryz.prog) (t:=bA) (pl:=[(0,1),(1,1),(2,1),(3,1)]) (by kernel_rfl)
 refine aBm sD g1 g2 ?_
 simp only[nS,List.getElem?_cons_zero,List.getElem?_cons_succ,Option.bind,h1,h2]
 rfl
theorem dU.cells {h:T Obj}{v:Value}{z:Nat}{e:TypeId}{l:List (List Value)}{lo:Nat} (ho:dU h v z e l lo):v.cells=#[v]:=by
 rcases ho with ⟨rfl,_⟩ | ⟨id,_,rfl,_⟩<;>rfl
def Fit (d:AutoD):Prop:=d.counts.length≤1000000∧d.states.length≤1000000∧∀ s∈d.states,s.r.length≤1000000∧s.rule.length≤1000000∧s.next.length≤1000000∧∀ row∈s.next,row≠[]∧row.length≤1000000∧∀ m∈row,m.ops.length≤1000000
section
variable {ro:Ro}{h:T Obj}{nx:Nat}{Q:KE}{e:Env}
set_option maxRecDepth 8000 in
set_option maxHeartbeats 2000000 in
theorem aQZ {X:List Nat}{rid oid:Nat}{c:List Nat}{n:Int}{cv svs:Value}{S:List StateD} (hc:c.length=256) (e2:e 2=ptr rid) (e3:e 3=ptr oid) (e19:e 19=svs) (e20:e 20=.int .i64 S.length) (e21:e 21=.int .i64 0)
  (hg:h.get oid=some (.cells (d4 c n cv dD).toArray bH)) (hgr:h.get rid=some (.cells v7.toArray bH)) (hro:rid≠oid) (hsrc:SlR ro (del h [oid]) svs 4 (eD ro (del h [oid])) S) (hlen:S.length≤1000000)
  (hfit:∀ s∈S,s.r.length≤1000000∧s.rule.length≤1000000∧s.next.length≤1000000∧∀ row∈s.next,row≠[]∧row.length≤1000000∧∀ m∈row,m.ops.length≤1000000) (hf:Fr h nx) (hX:∀ k∈X,k < nx)
  (hQ:∀ (e':Env) h' n' sv,e' 2=ptr rid→e' 3=ptr oid→nx≤n'→Fr h' n'→dT [oid] h h'→h'.get oid=some (.cells (d4 c n cv sv).toArray bH)→cT sv=true →
   SlR ro (del h' (oid::X)) sv 4 (eD ro (del h' (oid::X))) (S.map erS)→Q (.exit 0) e' h' n'):dQ (sU ro) e h nx Q:=by
 have hlt:=hf.lt' hg
 have hltr:=hf.lt' hgr
 refine a9 (fun j e h' nx'=>∃ (k:Nat) (cs:List (List Value)) (sv:Value),k+j=S.length∧nx≤nx'∧e 2=ptr rid∧e 3=ptr oid∧e 19=svs∧e 20=.int .i64 S.length∧e 21=.int .i64 k ∧
  h'.get oid=some (.cells (d4 c n cv sv).toArray bH)∧dU h' sv 4 bA cs nx∧cs.length=k∧(∀ (i:Nat) x s,cs[i]?=some x→S[i]?=some s→eD ro (del h' (oid::(lA sv++X))) x (erS s))∧dT [oid] h h'∧Fr h' nx') ?_ (n:=S.length)
  ⟨0,[],dD,by omega,by omega,e2,e3,e19,e20,e21,hg,dU.nil,rfl,fun i x s hx=>by simp at hx,(Sub.refl h).keepL,hf⟩
 rintro j e h' nx' ⟨k,cs,sv,hj,hnx,e2,e3,e19,e20,e21,hg',ho',hcl,hfa,hk',hf'⟩ Q' hq hx
 unfold sU
 rw[e19,e20,e21]
 refine dC (fun hk=>?_) (fun hk=>?_)
 ·have hk:k < S.length:=by omega
  have hD:Sub (del h [oid]) h':=hk'.delS fun k h=>h
  have hs':=hsrc.sub hD (eD.sub hD)
  have hix:=hs'.ix .i64 hk
  have hsk:S[k]?=some S[k]:=List.getElem?_eq_getElem _
  obtain⟨x,⟨lv,rv,uv,nv,rfl,y1,y2,y3,y4,y5⟩,hx2,hx3,hx4,hx5⟩:=hs'.at hk
  obtain⟨b1,b2,b3,b4⟩:=hfit _ (List.getElem_mem hk)
  generalize S[k]=s at y1 y2 y3 y4 y5 b1 b2 b3 b4 hsk
  have hlt':=hf'.lt' hg'
  (repeat(first|refine zzB ?_|apply aD|apply aE|with_reducible first|apply aG|apply aF|apply aK|apply aH|apply aJ|apply aI|apply aL|apply aC))
  refine aA hix (aA hx3 ?_)
  refine jH (x:=[lv,rv,uv,nv]) sD rfl rfl rfl (by simp[y1.ok,y2.ok,y3.ok,SlR.okC y4]) hf' (by omega) fun h1 hs1 hf1 g1 _=>?_
  (repeat(first|refine zzB ?_|apply aD|apply aE|with_reducible first|apply aG|apply aF|apply aK|apply aH|apply aJ|apply aI|apply aL|apply aC))
  refine aA (aZ (l:=[lv,rv,uv,nv]) g1 rfl) ?_
  refine tU (y2.sub hs1) b1 (hf1.mono (by omega)) fun R' h2 n2 hn2 hf2 hs2 ho2=>?_
  (repeat(first|refine zzB ?_|apply aD|apply aE|with_reducible first|apply aG|apply aF|apply aK|apply aH|apply aJ|apply aI|apply aL|apply aC))
  refine aA (aZ (l:=[lv,rv,uv,nv]) (hs2 _ _ g1) rfl) ?_
  refine⟨fS g1 (hs2 _ _ g1),?_⟩
  refine tU (y3.sub (hs1.trans hs2)) b2 hf2 fun U' h3 n3 hn3 hf3 hs3 ho3=>?_
  refine aA (aGR _ _ ho2.cells ho3.cells) ?_
  refine aHz (x:=[dD,R',U',dD]) sD rfl rfl rfl (by simp[show cT dD=true from rfl,ho2.ok,ho3.ok]) fun h4 g4 ho4=>?_
  have hs13:Sub h' h3:=(hs1.trans hs2).trans hs3
  have hs4:Sub h' h4:=fun k o hk=>by rw[ho4 k (by have:=hf'.lt' hk; omega)]; exact hs13 k o hk
  have hs4t:Sub h' (del h4 [nx'+12]):=fun k o hk=>j5 (hs4 k o hk) (by have:=hf'.lt' hk; simp; omega)
  have hf4:Fr h4 n3:=fun k hk=>by rw[ho4 k (by omega)]; exact hf3 k hk
  have g14:h4.get (nx'+3)=some (.cells [lv,rv,uv,nv].toArray bA):=by rw[ho4 _ (by omega)]; exact hs3 _ _ (hs2 _ _ g1)
  have hnl:=(y4.sub hs4 (sH.sub hs4)).len
  (repeat(first|refine zzB ?_|apply aD|apply aE|with_reducible first|apply aG|apply aF|apply aK|apply aH|apply aJ|apply aI|apply aL|apply aC))
  refine aA (aZ (l:=[lv,rv,uv,nv]) g14 rfl) ?_
  refine aA hnl ?_
  refine aQ0 (ro:=ro) (tid:=nx'+12) (rows:=s.next) (R':=R') (U':=U') (X:=oid::(lA sv++X)) (nA:=nx') e2 e3 rfl e19 e20 e21 rfl rfl rfl g4 b3 (y4.sub hs4t (sH.sub hs4t)) b4 (hf4.mono (by omega)) (fun k hk=>?_) (by omega) (by omega) ?_
  ·rcases List.mem_cons.1 hk with rfl | hk
   ·exact hlt'
   ·rcases List.mem_append.1 hk with hk | hk
    ·exact hf'.lt' (ho'.blk (fE.1 hk)).2
    ·have:=hX k hk; omega
  ·intro e5 h5 n5 nv5 f2 f3 f6 f19 f20 f21 hn5 hf5 hk5 g5 hnx5
   have hs5:Sub h' h5:=fun k o hk=>hk5 k o (hs4 k o hk) (by have:=hf'.lt' hk; simp; omega)
   have hg5:=hs5 _ _ hg'
   have ho5:=ho'.keepS hs5
   have hR5:dU h5 R' 1 dR (kJ s.r) (nx'+14):=((ho2.keepS hs3).keepK (ids:=[nx'+12]) (h':=h4) (fun k o hk hn=>by rw[ho4 k (by simpa using hn)]; exact hk) fun id hid hm=>by have:=(ho2.blk hid).1; simp at hm; omega).keepK hk5 fun id hid hm=>by have:=(ho2.blk hid).1; simp at hm; omega
   have hU5:dU h5 U' 1 dR (kJ s.rule) n2:=(ho3.keepK (ids:=[nx'+12]) (h':=h4) (fun k o hk hn=>by rw[ho4 k (by simpa using hn)]; exact hk) fun id hid hm=>by have:=(ho3.blk hid).1; simp at hm; omega).keepK hk5 fun id hid hm=>by have:=(ho3.blk hid).1; simp at hm; omega
   have hXlt:∀ k∈oid::(lA sv++X),k < nx':=fun k hk=>by
    rcases List.mem_cons.1 hk with rfl | hk
    ·exact hlt'
    ·rcases List.mem_append.1 hk with hk | hk
     ·exact hf'.lt' (ho'.blk (fE.1 hk)).2
     ·have:=hX k hk; omega
   have hst:eD ro (del h5 (oid::(lA sv++X))) [dD,R',U',nv5] (erS s):=by
    refine⟨dD,R',U',nv5,rfl,Sl.nil,(hR5.del fun id hid hm=>?_).sl,(hU5.del fun id hid hm=>?_).sl,hnx5.sub (sP fun k hk=>List.mem_cons_of_mem _ hk) (sH.sub (sP fun k hk=>List.mem_cons_of_mem _ hk)),y5⟩
    ·have:=(hR5.blk hid).1; have:=hXlt id hm; omega
    ·have:=(hU5.blk hid).1; have:=hXlt id hm; omega
   have hnv5:cT nv5=true:=SlR.okC hnx5
   have hj3:∀ (e6:Env) n6,e6 2=ptr rid→e6 3=ptr oid→e6 6=ptr (nx'+12)→e6 19=svs→e6 20=.int .i64 S.length→e6 21=.int .i64 k→n5≤n6→oG ro Q' e6 h5 n6:=by
    intro e6 n6 u2 u3 u6 u19 u20 u21 hn6
    unfold oG
    rw[u3,u6]
    (repeat(first|refine zzB ?_|apply aD|apply aE|with_reducible first|apply aG|apply aF|apply aK|apply aH|apply aJ|apply aI|apply aL|apply aC))
    refine aA (aZ hg5 (iE hc)) ?_
    refine aA (dI (l:=[dD,R',U',nv5]) g5 rfl) ?_
    obtain⟨i,t1,t2,t3⟩:=aLr
    have hn1lt:i3 sv≠some (n6+3):=fun e=>by
     have h9:=(ho5.blk e).2
     have:=hf5.lt' h9; omega
    refine aA9 (z:=4) (l:=cs) (y:=[dD,R',U',nv5]) (aL1 _ _ _ _ _) rfl ho5 aKG t1 (by omega) (by omega) sD rfl (by simp[show cT dD=true from rfl,hR5.ok,hU5.ok,hnv5]) (by rw[t3]; unfold big; omega) (by unfold big; omega) (hf5.mono (by omega)) (by omega) (by omega) hn1lt fun h7 ho7 hk7 hf7=>?_
    generalize hnv:Value.slice (some (own (n6+5) 4)) (cs++[[dD,R',U',nv5]]).length (cs++[[dD,R',U',nv5]]).length=sv2 at ho7
    have hsb2:i3 sv2=some (n6+5):=by rw[← hnv]; rfl
    have hg7:=hk7 _ _ hg5 (by have:=hf5.lt' hg5; omega) (fun e=>(ho5.ne hg5 (by decide)) e)
    dsimp only
    (repeat(first|refine zzB ?_|apply aD|apply aE|with_reducible first|apply aG|apply aF|apply aK|apply aH|apply aJ|apply aI|apply aL|apply aC))
    refine aA (dG hg7 (by rw[cQ hc]; omega) ho7.ok (by rw[← hnv]; rfl)) ?_
    rw[aMI hc]
    have hk8:dT (oid::lA sv) h5 (h7.upd oid (some (.cells (d4 c n cv sv2).toArray bH))):=fun k o hk hn=>by
     have h9:k≠oid:=fun e=>hn (by rw[e]; exact List.mem_cons_self ..)
     have h10:i3 sv≠some k:=fun e=>hn (List.mem_cons_of_mem _ (fE.2 e))
     rw[T.get_upd_ne _ _ h9]
     exact hk7 k o hk (by have:=hf5.lt' hk; omega) h10
    have ho8:dU (h7.upd oid (some (.cells (d4 c n cv sv2).toArray bH))) sv2 4 bA (cs++[[dD,R',U',nv5]]) nx:=by
     have hkk:dT [oid] h7 (h7.upd oid (some (.cells (d4 c n cv sv2).toArray bH))):=(Sub.refl h7).keepL.upd (by simp)
     exact ho7.keepK hkk fun id hid hm=>by rw[hsb2] at hid; cases hid; simp at hm; have:=hf5.lt' hg5; omega
    have hf8:Fr (h7.upd oid (some (.cells (d4 c n cv sv2).toArray bH))) (n6+6):=(hf7.mono (by omega)).upd (Nat.le_refl _) (by omega)
    have g8:(h7.upd oid (some (.cells (d4 c n cv sv2).toArray bH))).get oid=some (.cells (d4 c n cv sv2).toArray bH):=T.get_upd_same _ _ _
    generalize (h7.upd oid (some (.cells (d4 c n cv sv2).toArray bH)))=h8 at hk8 ho8 hf8 g8
    have hmono:Sub (del h5 (oid::(lA sv++X))) (del h8 (oid::(lA sv2++X))):=hk8.del (fun k hk=>by
      rcases List.mem_cons.1 hk with rfl | hk
      ·exact List.mem_cons_self ..
      ·exact List.mem_cons_of_mem _ (List.mem_append.2 (.inl hk))) fun k hk=>by
     rcases List.mem_cons.1 hk with rfl | hk
     ·exact .inl (List.mem_cons_self ..)
     ·rcases List.mem_append.1 hk with hk | hk
      ·have:=fE.1 hk
       rw[hsb2] at this
       cases this
       exact .inr (hf5 _ (by omega))
      ·exact .inl (List.mem_cons_of_mem _ (List.mem_append.2 (.inr hk)))
    have hj2:∀ (e9:Env) n9,e9 2=ptr rid→e9 3=ptr oid→e9 19=svs→e9 20=.int .i64 S.length→e9 21=.int .i64 k→n6+6≤n9→oF ro Q' e9 h8 n9:=by
     intro e9 n9 v2 v3 v19 v20 v21 hn9
     unfold oF
     rw[v21]
     (repeat(first|refine zzB ?_|apply aD|apply aE|with_reducible first|apply aG|apply aF|apply aK|apply aH|apply aJ|apply aI|apply aL|apply aC))
     refine hq (j - 1) _ _ _ _ (by omega) ⟨k+1,cs++[[dD,R',U',nv5]],sv2,by omega,by omega,v2,v3,v19,v20,rfl,g8,ho8,by simp[hcl],fun i x s' hxi hsi=>?_,fun k' o hk9 hn9=>?_,hf8.mono (by omega)⟩ (Sub.refl _)
     ·rcases Nat.lt_or_ge i cs.length with hi | hi
      ·rw[List.getElem?_append_left hi] at hxi
       have h9:=hfa i x s' hxi hsi
       have hkeep2:Sub (del h' (oid::(lA sv++X))) (del h5 (oid::(lA sv++X))):=(Sub.keepL hs5:dT [] h' h5).del (fun k hk=>by cases hk) fun k hk=>.inl hk
       exact eD.sub (hkeep2.trans hmono) _ _ h9
      ·rw[List.getElem?_append_right hi] at hxi
       have hlt9:=(List.getElem?_eq_some_iff.1 hxi).1
       have:i=k:=by simp at hlt9; omega
       subst this
       rw[hsk] at hsi
       cases hsi
       have:x=[dD,R',U',nv5]:=by have:=List.mem_of_getElem? hxi; simpa using this
       subst this
       exact eD.sub hmono _ _ hst
     ·have h10:=hs5 _ _ (hk' k' o hk9 hn9)
      have hk'lt:=hf.lt' hk9
      refine hk8 k' o h10 fun hm=>?_
      rcases List.mem_cons.1 hm with rfl | hm
      ·exact hn9 (by simp)
      ·have:=(ho5.blk (fE.1 hm)).1; omega
    exact hj2 _ _ u2 u3 u19 u20 u21 (by omega)
   refine eA (cR ?_)
   exact hj3 _ _ f2 f3 f6 f19 f20 f21 (Nat.le_refl _)
 ·(repeat(first|refine zzB ?_|apply aD|apply aE|with_reducible first|apply aG|apply aF|apply aK|apply aH|apply aJ|apply aI|apply aL|apply aC))
  refine hx _ _ _ _ (fun e=>by cases e) ?_
  have hnt:∀ id,i3 sv=some id→id ∉ oid::X:=fun id hid hm=>by
   have h9:=ho'.blk hid
   rcases List.mem_cons.1 hm with rfl | hm
   ·exact (ho'.ne hg' (by decide)) hid
   ·have:=hX id hm; omega
  have hsub:Sub (del h' (oid::(lA sv++X))) (del h' (oid::X)):=sP fun k hk=>by
   rcases List.mem_cons.1 hk with rfl | hk
   ·exact List.mem_cons_self ..
   ·exact List.mem_cons_of_mem _ (List.mem_append.2 (.inr hk))
  refine hQ _ _ _ sv e2 e3 (by omega) (hf'.mono (by omega)) hk' hg' ho'.ok ⟨cs,(ho'.del hnt).sl,by rw[List.length_map]; omega,fun i x s hxi hsi=>?_⟩
  rw[List.getElem?_map] at hsi
  cases hs:S[i]? with
  | none=>rw[hs] at hsi; cases hsi
  | some s0 =>
   rw[hs] at hsi
   cases hsi
   exact eD.sub hsub _ _ (hfa i x s0 hxi hs)
end
end V
end Go.Proofs.YtcaccnneblghgaaGreat
namespace Go.Proofs.YtcaccnneblghgaaGreat
namespace V
attribute [local irreducible] aB ifP aR cS eQ exP cN
theorem aPw {d:AutoD} (ha:fA d=true) (hcl:d.c.length=256):Fit d:=by
 obtain⟨h1,h2,h3,h4,h5,h6⟩:=eR ha
 have hm0:=aI9 hcl h1 0 (by omega)
 have hm:=aAr h1
 refine⟨by omega,by omega,fun s hs=>?_⟩
 have hk:=h6 s hs
 obtain⟨k1,k2,k3,k4,k5⟩:=qN hk
 have hc:=aBH (s.r.length:Int)
 refine⟨by omega,by omega,by omega,fun row hrow=>?_⟩
 obtain⟨i,hi⟩:=List.getElem?_of_mem hrow
 have hlt:=(List.getElem?_eq_some_iff.1 hi).1
 have hro:=aGz k5 (by omega) i row _ hi (List.getElem?_eq_getElem (by omega))
 unfold xG at hro
 simp only[Bool.and_eq_true,decide_eq_true_eq] at hro
 obtain⟨_,_,r3,r4⟩:=hro
 refine⟨fun e=>by rw[e] at r3; simp at r3; omega,by omega,fun m hm=>?_⟩
 have:=aDR (S:=[]) ha (List.all_eq_true.1 r4 m hm)
 omega
theorem aBS (S:List StateD) (i:Nat):(S.map erS).getD i noS=erS (S.getD i noS):=by
 rw[List.getD_eq_getElem?_getD,List.getD_eq_getElem?_getD,List.getElem?_map]
 cases S[i]?<;>rfl
theorem aHE (d:AutoD) (m:MacD):fN (er d) m=erS (fN d m):=aBS _ _
theorem aN0 (d:AutoD) (m:MacD):rC (er d) m=rC d m:=by unfold rC; rw[aHE]; rfl
theorem aIJ (d:AutoD) (m:MacD) (b:Nat):j8 (er d) m b=j8 d m b:=by unfold j8; rw[aHE]; rfl
theorem aNI (d:AutoD) (t:Int):lD (er d) t=lD d t:=by
 unfold lD
 show (if t=-1 then [] else ((d.states.map erS).getD t.toNat noS).r)=_
 rw[aBS]; rfl
theorem aPx (d:AutoD) (m:MacD) (b:Nat):onM (er d) m b=onM d m b:=by unfold onM; rw[aIJ]
theorem aN6 (d:AutoD) (m:MacD) (b:Nat):i4 (er d) m b=i4 d m b:=by unfold i4; rw[aIJ,aNI,aHE]; rfl
theorem aL3 {S:List StateD}{R:List Int} (m:MoveD):hU (S.map erS) R m=hU S R m:=by
 unfold hU
 rw[aBS,List.length_map]; rfl
theorem aGC {S:List StateD}{R:List Int}{n:Int}:∀ (us:List Int) (rows:List (List MoveD)),oV (S.map erS) R n us rows=oV S R n us rows
 | [],_=>rfl
 | u::us,[]=>by rw[wV,wV]
 | u::us,row::rows=>by
  rw[qD,qD,aGC us rows]
  unfold xG
  have:row.all (hU (S.map erS) R)=row.all (hU S R):=by congr 1; funext m; exact aL3 m
  rw[this]
theorem aKz {d:AutoD} (ha:fA d=true):fA (er d)=true:=by
 unfold fA at ha ⊢
 simp only[Bool.and_eq_true,decide_eq_true_eq] at ha ⊢
 obtain⟨h1,h2,h3,h4,h5,h6,h7⟩:=ha
 refine⟨h1,h2,by show 1≤(d.states.map erS).length; rw[List.length_map]; exact h3,by show (d.states.map erS).length≤256; rw[List.length_map]; exact h4,?_,h6,?_⟩
 ·unfold zS at h5 ⊢
  simp only[Bool.and_eq_true,decide_eq_true_eq] at h5 ⊢
  refine⟨?_,?_⟩
  ·show ((d.states.map erS).getD 0 noS).l.length=0
   rw[aBS]; rfl
  ·show ((d.states.map erS).getD 0 noS).r.length=0
   rw[aBS]; exact h5.2
 ·show (d.states.map erS).all _=true
  rw[List.all_map,List.all_eq_true]
  intro s hs
  have:=List.all_eq_true.1 h7 s hs
  show gR (d.states.map erS) d.many d.counts.length (erS s)=true
  unfold gR at this ⊢
  simp only[Bool.and_eq_true,decide_eq_true_eq] at this ⊢
  obtain⟨k1,k2,k3,k4,k5,k6⟩:=this
  refine⟨k1,k2,k3,rfl,k5,?_⟩
  show oV (d.states.map erS) s.r d.many s.rule s.next=true
  rw[aGC]; exact k6
theorem aGI {d:AutoD}{m:MacD} (h:MOk d m):MOk (er d) m:=⟨by have:=h.1; show m.cur=-1∨0≤m.cur∧m.cur < ((d.states.map erS).length:Int); rw[List.length_map]; exact this,h.2⟩
section
variable {ro:Ro}{h:T Obj}{nx:Nat}{K:KV}
set_option maxRecDepth 8000 in
set_option maxHeartbeats 1000000 in
theorem aFD {X0:List Nat}{x:List Value}{d:AutoD} (hf:Fr h nx) (hX0:∀ k∈X0,k < nx) (hd:qZ ro h x d) (hfit:Fit d) (hK:∀ cv sv h' nx',nx≤nx'→Fr h' nx'→Sub h h'→qZ ro (del h' X0) (d4 d.c d.many cv sv) (er d)→K (.agg (d4 d.c d.many cv sv).toArray) h' nx'):aN Tryz.prog ro uN [.agg x.toArray] h nx K:=by
 obtain⟨cv,sv,rfl,hc,hclt,hcv,hS,hb1,hb2⟩:=hd
 obtain⟨f1,f2,f3⟩:=hfit
 have m7:=kI (n:=d.many) (cv:=cv) (sv:=sv) hc
 have m8:=iE (n:=d.many) (cv:=cv) (sv:=sv) hc
 apply aDl
 unfold aC2
 refine eF hf (Nat.le_refl _) fun h1 hs1 hf1 g1 _=>?_
 have g1:h1.get nx=some (.cells (d4 d.c d.many cv sv).toArray bH):=g1
 refine aA aEr ?_
 refine aGi hf1 (Nat.le_refl _) fun h2 hs2 hf2 g2 _=>?_
 have g2:h2.get (nx+1)=some (.cells v7.toArray bH):=g2
 have g12:=hs2 _ _ g1
 (repeat(first|refine zzB ?_|apply aD|apply aE|with_reducible first|apply aG|apply aF|apply aK|apply aH|apply aJ|apply aI|apply aL|apply aC))
 refine aA (aNB g12 hc) ?_
 (repeat(first|refine zzB ?_|apply aD|apply aE|with_reducible first|apply aG|apply aF|apply aK|apply aH|apply aJ|apply aI|apply aL|apply aC))
 refine aA (aZ g12 m7) ?_
 refine aJK (hcv.sub (hs1.trans hs2) fun _ _ h=>h) f1 (hf2.mono (by omega)) fun cv' h3 n3 hn3 hf3 hs3 ho3=>?_
 have g13:=hs3 _ _ g12
 have g23:=hs3 _ _ g2
 refine⟨fS g12 g13,?_⟩
 refine aA (aHV hc ho3.cells) ?_
 refine aHz (x:=d4 d.c d.many cv' dD) aEr (by show v7.toArray.size=259; simp[sK]) rfl (cQ hc) (aDI ho3.ok rfl) fun h4 g4 hk4=>?_
 have g14:h4.get nx=some (.cells (d4 d.c d.many cv sv).toArray bH):=by rw[hk4 _ (by omega)]; exact g13
 have g24:h4.get (nx+1)=some (.cells v7.toArray bH):=by rw[hk4 _ (by omega)]; exact g23
 have hs13:Sub h h3:=(hs1.trans hs2).trans hs3
 have hs4:Sub h h4:=fun k o hk=>by rw[hk4 k (by have:=hf.lt' hk; omega)]; exact hs13 k o hk
 have hs4o:Sub h (del h4 [nx+8]):=fun k o hk=>j5 (hs4 k o hk) (by have:=hf.lt' hk; simp; omega)
 have hf4:Fr h4 n3:=fun k hk=>by rw[hk4 k (by omega)]; exact hf3 k hk
 have hsl:=(hS.sub hs4 (eD.sub hs4)).len
 (repeat(first|refine zzB ?_|apply aD|apply aE|with_reducible first|apply aG|apply aF|apply aK|apply aH|apply aJ|apply aI|apply aL|apply aC))
 refine aA (aZ g14 m8) ?_
 refine aA hsl ?_
 refine aQZ (ro:=ro) (X:=(nx+1)::X0) (rid:=nx+1) (oid:=nx+8) (S:=d.states) hc rfl rfl rfl rfl rfl g4 g24 (by omega) (hS.sub hs4o (eD.sub hs4o)) f2 f3 (hf4.mono (by omega)) (fun k hk=>by
  rcases List.mem_cons.1 hk with rfl | hk
  ·omega
  ·have:=hX0 k hk; omega) fun e5 h5 n5 sv5 u2 u3 hn5 hf5 hk5 g5 hsv5 hS5=>?_
 refine eA (cR ?_)
 have g25:=hk5 _ _ g24 (by simp)
 have hj1:∀ (e6:Env),e6 2=ptr (nx+1)→e6 3=ptr (nx+8)→oE ro K e6 h5 n5:=by
  intro e6 v2 v3
  unfold oE
  rw[v2,v3]
  refine aA (dI g5 (cQ hc)) ?_
  refine aA (l5 (l:=v7) (vs:=d4 d.c d.many cv' sv5) g25 rfl (cQ hc) sK (aDI ho3.ok hsv5)) ?_
  refine aA (dI (l:=d4 d.c d.many cv' sv5) (by rw[T.get_upd_same]) (cQ hc)) ?_
  have hk6:dT [nx+1] h5 (h5.upd (nx+1) (some (.cells (d4 d.c d.many cv' sv5).toArray bH))):=(Sub.refl h5).keepL.upd (by simp)
  have hf6:Fr (h5.upd (nx+1) (some (.cells (d4 d.c d.many cv' sv5).toArray bH))) n5:=hf5.upd (Nat.le_refl _) (by have:=hf5.lt' g25; omega)
  generalize h5.upd (nx+1) (some (.cells (d4 d.c d.many cv' sv5).toArray bH))=h6 at hk6 hf6
  have hd6:Sub (del h5 ((nx+8)::(nx+1)::X0)) (del h6 X0):=fun k o hk=>by
   have h9:=(hk6.delS (l:=(nx+8)::(nx+1)::X0) fun k hk=>by simp at hk; simp[hk]) k o hk
   rw[jU] at hk
   split at hk
   ·cases hk
   ·rename_i hn; exact j5 h9 fun hm=>hn (by simp[hm])
  have ho6:dU h6 cv' 2 gJ (aFA d.counts) (nx+10):=((ho3.keepK (ids:=[nx+8]) (h':=h4) (fun k o hk hn=>by rw[hk4 k (by simpa using hn)]; exact hk) fun id hid hm=>by have:=(ho3.blk hid).1; simp at hm; omega).keepK hk5 fun id hid hm=>by have:=(ho3.blk hid).1; simp at hm; omega).keepK hk6 fun id hid hm=>by have:=(ho3.blk hid).1; simp at hm; omega
  refine⟨h6,Sub.refl _,hK cv' sv5 h6 _ (by omega) (hf6.mono (by omega)) (fun k o hk=>?_) ⟨cv',sv5,rfl,hc,hclt,aQY (ho6.del fun id hid hm=>by have:=(ho6.blk hid).1; have:=hX0 id hm; omega),hS5.sub hd6 (eD.sub hd6),hb1,by show (d.states.map erS).length≤_; rw[List.length_map]; exact hb2⟩⟩
  have:=hf.lt' hk
  exact hk6 k o (hk5 k o (hs4 k o hk) (by simp; omega)) (by simp; omega)
 exact hj1 _ u2 u3
end
def aNn:List Value:=eB (List.replicate 256 0) 0 dD dD 0 dD 0
theorem aNo:zer Tryz.prog bF=some (.agg aNn.toArray):=by kernel_rfl
theorem aMd {c:List Nat}{n:Int}{cv sv:Value}{pl:List (Nat × Nat)} (hp:pl[0]?=some (0,259)) (hc:c.length=256):nS (pl[·]?) aNn [(0,.agg (d4 c n cv sv).toArray)]=some (eB c n cv sv 0 dD 0):=by
 have h0:aNn.length=262:=vO List.length_replicate
 have e1:Nat.beq (Value.agg (d4 c n cv sv).toArray).cells.size 259=true:=by rw[Value.cells_agg]; simp[cQ hc]
 have e2:Nat.ble (0+259) aNn.length=true:=by rw[h0]; rfl
 have o1:over aNn 0 (Value.agg (d4 c n cv sv).toArray).cells.toList=eB c n cv sv 0 dD 0:=by
  rw[Value.cells_agg]
  exact aIS (by rw[cQ hc,cQ List.length_replicate])
 simp only[nS,hp,Option.bind,e1,e2,o1]
theorem aJG {c:List Nat}{n:Int}{cv sv:Value} (hc:c.length=256):fF Tryz.prog bF [(0,.agg (d4 c n cv sv).toArray)]=some (.agg (eB c n cv sv 0 dD 0).toArray):=by
 obtain⟨fs,h1,h2⟩:=aN5 (P:=Tryz.prog) (t:=bF) (pl:=[(0,259),(259,1),(260,1),(261,1)]) (by kernel_rfl)
 exact aBm aNo h1 h2 (aMd rfl hc)
theorem aPi (aid q:Nat):bQ Tryz.prog kX aid 1 [(0,ptr q)]=some (.slice (some (own aid 1)) 1 1,some (.cells [ptr q].toArray kZ)):=by kernel_rfl
theorem aOw:und Tryz.prog kX=some (.slice kZ):=by kernel_rfl
theorem aQK:∃ i,tin Tryz.prog kZ=some i∧i.size=1∧i.bytes=8:=xH (by kernel_rfl)
theorem aQT:zer Tryz.prog kZ=some (.pointer none):=by kernel_rfl
theorem aJh (ps:List (Nat × Nat)) (q:Nat × Nat):mY (ps++[q])=mY ps++[[ptr q.1]]:=by simp[mY]
end V
end Go.Proofs.YtcaccnneblghgaaGreat
namespace Go.Proofs.YtcaccnneblghgaaGreat
namespace V
attribute [local irreducible] rE aN aB
abbrev mQ:FuncId:=22
abbrev fQ:FuncId:=23
abbrev mR:FuncId:=25
abbrev iC:FuncId:=41
abbrev iW:FuncId:=43
abbrev mS:FuncId:=79
abbrev nK:FuncId:=80
abbrev jG:FuncId:=122
@[irreducible] def uE (ro:Ro) (K:KV):Env→T Obj→Nat→Prop:=fun e h nx=>∃ h39,Sub h39 h∧K (.tuple #[(e 6),(Value.int IntKind.i64 0)]) h39 (nx+3)
@[irreducible] def aCm (ro:Ro):PT:=fun e h nx Q=>aB (aO .lss (e 35) (e 34)) fun e'=>aR e' (aB (cO 260 (e 33) (e 35)) fun i'=>aB (loadA ro h 260 i') fun j'=>aB (zer Tryz.prog cA) fun J'=>cS h (nx+3) (.cells J'.cells cA) fun K'=>aB (bV 260 K' (ptr (nx+3)) j') fun r'=>aB (aS 0 (ptr (nx+3))) fun k'=>aB (loadA ro r' 259 k') fun l'=>aN Tryz.prog ro aAg [l'] r' (nx+8) fun b' m' f'=>aB (nth 0 b') fun c'=>aB (nth 1 b') fun a'=>aB (aO .neq a' (Value.int IntKind.i64 0)) fun n'=>aR n' (Q .ret (puts e [(36,e'),(37,i'),(38,j'),(8,(ptr (nx+3))),(40,k'),(41,l'),(42,b'),(39,b'),(43,c'),(44,a'),(9,c'),(10,a'),(45,a'),(46,n'),(47,a'),(4,(Value.pointer none)),(5,a')]) m' (f'+10)) (aB (bK (e 6)) fun s'=>aB (aS 4 s') fun t'=>aB (load1 ro m' t') fun u'=>aB (bQ Tryz.prog iT (f'+13) 1 [(0,c')]) fun o'=>eQ m' (f'+13) o'.2 fun L'=>aB (cM Tryz.prog ro L' (f'+15) #[iT,iT] [u',o'.1]) fun d'=>aB (bK (e 6)) fun v'=>aB (aS 4 v') fun w'=>aB (bV 1 d'.2.1 w' d'.1) fun g'=>aB (bK (e 6)) fun x'=>aB (aS 0 x') fun y'=>aB (aS 3 y') fun p'=>aB (load1 ro g' p') fun z'=>aB (aS 259 (ptr (nx+3))) fun A'=>aB (load1 ro g' A') fun B'=>aN Tryz.prog ro fB [B'] g' (d'.2.2+19) fun C' D' M'=>(jT p' g' D')∧(aB (fF Tryz.prog cA [(1,C')]) fun E'=>aB (bQ Tryz.prog iF (d'.2.2+13) 1 [(0,E')]) fun q'=>eQ D' (d'.2.2+13) q'.2 fun N'=>aB (cM Tryz.prog ro N' M' #[iF,iF] [z',q'.1]) fun h'=>aB (bK (e 6)) fun F'=>aB (aS 0 F') fun G'=>aB (aS 3 G') fun H'=>aB (bV 1 h'.2.1 H' h'.1) fun O'=>aB (aO .add (e 35) (Value.int IntKind.i64 1)) fun I'=>Q .normal (puts e [(36,e'),(37,i'),(38,j'),(8,(ptr (nx+3))),(40,k'),(41,l'),(42,b'),(39,b'),(43,c'),(44,a'),(9,c'),(10,a'),(45,a'),(46,n'),(48,(e 6)),(49,(e 6)),(50,s'),(51,t'),(52,u'),(53,c'),(54,o'.1),(55,d'.1),(56,v'),(57,w'),(58,(e 6)),(59,(e 6)),(60,x'),(61,y'),(62,p'),(63,z'),(64,A'),(65,B'),(66,C'),(67,E'),(68,q'.1),(69,h'.1),(70,F'),(71,G'),(72,H'),(73,I'),(35,I')]) O' (h'.2.2+2)))) (Q (.exit 0) (puts e [(36,e')]) h (nx+1))
@[irreducible] def aIi (ro:Ro) (v0 v1:Value) (h:T Obj) (nx:Nat) (K:KV):Prop:=cS h nx (.cells (Value.cells v0) dF) fun h1=>aB (aO .lss v1 (Value.int IntKind.i64 1)) fun b'=>ifP b' false h1 (nx+6) (fun k3=>aB (loadA ro h1 4 (ptr nx)) fun E'=>k3 E' h1 (nx+7)) fun i' h5 n6=>ifP b' false h5 n6 (fun k8=>aN Tryz.prog ro yD [i'] h5 (n6+1) fun F' G' H'=>k8 F' G' H') fun j' k' l'=>ifP b' false k' l' (fun I'=>aB (unV .not j') fun J'=>I' J' k' (l'+1)) fun m' n' a'=>aB (bO b' (Value.bool true) m') fun o'=>aR o' (∃ p',Sub p' n'∧K (.tuple #[(Value.pointer none),(Value.int IntKind.i64 1)]) p' (a'+3)) (aB (fF Tryz.prog kF [(2,(Value.int IntKind.i64 (-1)))]) fun q'=>aB (fF Tryz.prog aQ [(2,v1),(5,(Value.bool true)),(7,q')]) fun r'=>cS n' (a'+4) (.cells (Value.cells r') aQ) fun d'=>aB (aS 1 (ptr nx)) fun s'=>aB (load1 ro d' s') fun t'=>aN Tryz.prog ro hG [t'] d' (a'+17) fun u' e' K'=>aB (aS 2 (ptr nx)) fun f'=>aB (load1 ro e' f') fun v'=>(jT f' d' e')∧(aN Tryz.prog ro fB [v'] e' K' fun w' L' M'=>aB (fF Tryz.prog dF [(1,u'),(2,w')]) fun x'=>aB (bK (ptr (a'+4))) fun y'=>aB (aS 0 y') fun z'=>aB (bV 4 L' z' x') fun A'=>aB (aS 3 (ptr nx)) fun B'=>aB (load1 ro A' B') fun C'=>aB (bG C') fun N'=>dQ (aCm ro) (puts (gH [v0,v1]) [(2,(ptr nx)),(4,(Value.pointer none)),(5,(Value.int IntKind.i64 0)),(11,v1),(12,b'),(13,b'),(14,i'),(15,j'),(16,m'),(17,o'),(18,v1),(19,q'),(20,r'),(21,(ptr (a'+4))),(6,(ptr (a'+4))),(22,(ptr (a'+4))),(23,s'),(24,t'),(25,u'),(26,f'),(27,v'),(28,w'),(29,x'),(30,y'),(31,z'),(32,B'),(33,C'),(34,N'),(35,(Value.int IntKind.i64 0))]) A' (M'+4) fun O' c' g' h'=>exP O' (uE ro K c' g' h') (fun P'=>cN (Nat.beq P' 0) (uE ro K c' g' h') (False)) (∃ D',Sub D' g'∧K (.tuple #[(c' 4),(c' 5)]) D' h')))
theorem aIj {ro:Ro}{v0 v1:Value}{h:T Obj}{nx:Nat}{K:KV} (hw:aIi ro v0 v1 h nx K):aN Tryz.prog ro wK [v0,v1] h nx K:=a7 (P:=Tryz.prog) (fn:=Tryz.f13) (by kernel_rfl) (by kernel_rfl) (by kernel_rfl) (Eq.mpr (by kernel_rfl) hw)
@[irreducible] def jI (ro:Ro) (K:KV):Env→T Obj→Nat→Prop:=fun e h nx=>aB (bK (e 0)) fun b'=>aB (aS 13 b') fun c'=>aB (load1 ro h c') fun d'=>∃ a',Sub a' h∧K (.tuple #[(e 7),d']) a' (nx+7)
@[irreducible] def oW (ro:Ro) (v0 v1:Value) (h:T Obj) (nx:Nat) (K:KV):Prop:=aN Tryz.prog ro iC [v0] h (nx+4) fun a' h2 n3=>aB (aO .neq a' (Value.int IntKind.i64 0)) fun d'=>aR d' (∃ h5,Sub h5 h2∧K (.tuple #[(Value.slice none 0 0),a']) h5 (n3+6)) (aB (bK v0) fun e'=>aB (aS 6 e') fun f'=>aB (load1 ro h2 f') fun g'=>aB (bQ Tryz.prog gE (n3+9) 2 [(0,g'),(1,v1)]) fun r9=>eQ h2 (n3+9) r9.2 fun v'=>aN Tryz.prog ro i7 [r9.1] v' (n3+11) fun h' w' x'=>aB (bK v0) fun i'=>aB (aS 6 i') fun j'=>aB (bV 1 w' j' h') fun y'=>aN Tryz.prog ro iW [v0] y' (x'+5) fun b' c' s'=>aB (bK v0) fun k'=>aB (aS 6 k') fun l'=>aB (load1 ro c' l') fun m'=>aB (bG m') fun n'=>aB (bK v0) fun o'=>aB (aS 5 o') fun p'=>aB (load1 ro c' p') fun q'=>aB (aO .gtr n' q') fun r'=>aR r' (aB (bK v0) fun t'=>aB (aS 13 t') fun u'=>aB (bV 1 c' u' (Value.int IntKind.i64 180)) fun z'=>jI ro K (puts (gH [v0,v1]) [(4,(Value.slice none 0 0)),(5,(Value.int IntKind.i64 0)),(8,v0),(9,a'),(6,a'),(10,a'),(11,d'),(13,v0),(14,v0),(15,e'),(16,f'),(17,g'),(18,v1),(19,r9.1),(20,h'),(21,i'),(22,j'),(23,v0),(24,b'),(7,b'),(25,v0),(26,k'),(27,l'),(28,m'),(29,n'),(30,v0),(31,o'),(32,p'),(33,q'),(34,r'),(35,v0),(36,t'),(37,u')]) z' (s'+15)) (jI ro K (puts (gH [v0,v1]) [(4,(Value.slice none 0 0)),(5,(Value.int IntKind.i64 0)),(8,v0),(9,a'),(6,a'),(10,a'),(11,d'),(13,v0),(14,v0),(15,e'),(16,f'),(17,g'),(18,v1),(19,r9.1),(20,h'),(21,i'),(22,j'),(23,v0),(24,b'),(7,b'),(25,v0),(26,k'),(27,l'),(28,m'),(29,n'),(30,v0),(31,o'),(32,p'),(33,q'),(34,r')]) c' (s'+11)))
theorem qE {ro:Ro}{v0 v1:Value}{h:T Obj}{nx:Nat}{K:KV} (hw:oW ro v0 v1 h nx K):aN Tryz.prog ro hY [v0,v1] h nx K:=a7 (P:=Tryz.prog) (fn:=Tryz.f18) (by kernel_rfl) (by kernel_rfl) (by kernel_rfl) (Eq.mpr (by kernel_rfl) hw)
@[irreducible] def nP (ro:Ro) (v0:Value) (h:T Obj) (nx:Nat) (K:KV):Prop:=aN Tryz.prog ro iC [v0] h (nx+4) fun a' h2 n3=>aB (aO .neq a' (Value.int IntKind.i64 0)) fun c'=>aR c' (∃ h5,Sub h5 h2∧K (.tuple #[(Value.slice none 0 0),a']) h5 (n3+6)) (aB (bK v0) fun d'=>aB (aS 14 d') fun e'=>aB (bV 1 h2 e' (Value.bool true)) fun h8=>aN Tryz.prog ro iW [v0] h8 (n3+9) fun f' g' h'=>∃ b',Sub b' g'∧K (.tuple #[f',(Value.int IntKind.i64 0)]) b' (h'+2))
theorem pF {ro:Ro}{v0:Value}{h:T Obj}{nx:Nat}{K:KV} (hw:nP ro v0 h nx K):aN Tryz.prog ro gV [v0] h nx K:=a7 (P:=Tryz.prog) (fn:=Tryz.f19) (by kernel_rfl) (by kernel_rfl) (by kernel_rfl) (Eq.mpr (by kernel_rfl) hw)
@[irreducible] def uF (ro:Ro) (v0:Value) (h:T Obj) (nx:Nat) (K:KV):Prop:=aB (xO .eql v0 (Value.pointer none)) fun a'=>aR a' (∃ h2,Sub h2 h∧K (Value.int IntKind.i64 0) h2 (nx+4)) (aB (bK v0) fun b'=>aB (aS 6 b') fun c'=>aB (load1 ro h c') fun d'=>aB (bG d') fun e'=>∃ h7,Sub h7 h∧K e' h7 (nx+9))
theorem zB {ro:Ro}{v0:Value}{h:T Obj}{nx:Nat}{K:KV} (hw:uF ro v0 h nx K):aN Tryz.prog ro mQ [v0] h nx K:=a7 (P:=Tryz.prog) (fn:=Tryz.f22) (by kernel_rfl) (by kernel_rfl) (by kernel_rfl) (Eq.mpr (by kernel_rfl) hw)
@[irreducible] def tK (ro:Ro) (v0:Value) (h:T Obj) (nx:Nat) (K:KV):Prop:=aB (xO .eql v0 (Value.pointer none)) fun a'=>aR a' (∃ h2,Sub h2 h∧K (Value.int IntKind.i64 0) h2 (nx+4)) (aB (bK v0) fun b'=>aB (aS 15 b') fun c'=>aB (load1 ro h c') fun d'=>∃ h6,Sub h6 h∧K d' h6 (nx+8))
theorem xP {ro:Ro}{v0:Value}{h:T Obj}{nx:Nat}{K:KV} (hw:tK ro v0 h nx K):aN Tryz.prog ro fQ [v0] h nx K:=a7 (P:=Tryz.prog) (fn:=Tryz.f23) (by kernel_rfl) (by kernel_rfl) (by kernel_rfl) (Eq.mpr (by kernel_rfl) hw)
@[irreducible] def jJ (ro:Ro) (K:KV):Env→T Obj→Nat→Prop:=fun e h nx=>∃ h3,Sub h3 h∧K (e 3) h3 (nx+2)
@[irreducible] def qF (ro:Ro):PT:=fun e h nx Q=>aB (aO .lss (e 13) (e 12)) fun b'=>aR b' (aB (cO 1 (e 11) (e 13)) fun c'=>aB (load1 ro h c') fun a'=>aN Tryz.prog ro mP [a'] h (nx+7) fun d' g' h'=>aB (aO .add (e 3) d') fun e'=>aB (aO .add (e 13) (Value.int IntKind.i64 1)) fun f'=>Q .normal (puts e [(14,b'),(15,c'),(16,a'),(5,a'),(17,(e 3)),(18,a'),(19,d'),(20,e'),(3,e'),(21,f'),(13,f')]) g' (h'+4)) (Q (.exit 0) (puts e [(14,b')]) h (nx+1))
@[irreducible] def uG (ro:Ro) (v0:Value) (h:T Obj) (nx:Nat) (K:KV):Prop:=aB (xO .eql v0 (Value.pointer none)) fun d'=>aR d' (∃ h2,Sub h2 h∧K (Value.int IntKind.i64 0) h2 (nx+4)) (aB (bK v0) fun e'=>aB (aS 4 e') fun f'=>aB (load1 ro h f') fun g'=>aB (bG g') fun i'=>dQ (qF ro) (puts (gH [v0]) [(2,(Value.int IntKind.i64 0)),(6,v0),(7,d'),(3,(Value.int IntKind.i64 0)),(8,v0),(9,e'),(10,f'),(11,g'),(12,i'),(13,(Value.int IntKind.i64 0))]) h (nx+10) fun j' a' b' c'=>exP j' (jJ ro K a' b' c') (fun k'=>cN (Nat.beq k' 0) (jJ ro K a' b' c') (False)) (∃ h',Sub h' b'∧K (a' 2) h' c'))
theorem zC {ro:Ro}{v0:Value}{h:T Obj}{nx:Nat}{K:KV} (hw:uG ro v0 h nx K):aN Tryz.prog ro mR [v0] h nx K:=a7 (P:=Tryz.prog) (fn:=Tryz.f25) (by kernel_rfl) (by kernel_rfl) (by kernel_rfl) (Eq.mpr (by kernel_rfl) hw)
@[irreducible] def qH (ro:Ro) (v0:Value) (h:T Obj) (nx:Nat) (K:KV):Prop:=aB (xO .eql v0 (Value.pointer none)) fun k'=>aR k' (∃ h2,Sub h2 h∧K (Value.int IntKind.i64 2) h2 (nx+5)) (aB (bK v0) fun l'=>aB (aS 13 l') fun m'=>aB (load1 ro h m') fun n'=>aB (aO .eql n' (Value.int IntKind.i64 0)) fun a'=>ifP a' true h (nx+10) (fun k7=>k7 v0 h (nx+11)) fun o' h9 d'=>ifP a' true h9 d' (fun p'=>aB (bK o') fun q'=>p' q' h9 (d'+1)) fun r' e' f'=>ifP a' true e' f' (fun s'=>aB (aS 14 r') fun t'=>s' t' e' (f'+1)) fun u' b' g'=>ifP a' true b' g' (fun v'=>aB (load1 ro b' u') fun w'=>v' w' b' (g'+1)) fun x' c' h'=>aB (bO a' x' (Value.bool false)) fun y'=>aR y' (∃ i',Sub i' c'∧K (Value.int IntKind.i64 181) i' (h'+3)) (aB (bK v0) fun z'=>aB (aS 13 z') fun A'=>aB (load1 ro c' A') fun B'=>∃ j',Sub j' c'∧K B' j' (h'+7)))
theorem vS {ro:Ro}{v0:Value}{h:T Obj}{nx:Nat}{K:KV} (hw:qH ro v0 h nx K):aN Tryz.prog ro iC [v0] h nx K:=a7 (P:=Tryz.prog) (fn:=Tryz.f41) (by kernel_rfl) (by kernel_rfl) (by kernel_rfl) (Eq.mpr (by kernel_rfl) hw)
@[irreducible] def iD (ro:Ro) (K:KV):Env→T Obj→Nat→Prop:=fun e h nx=>∃ h1,Sub h1 h∧K (e 3) h1 (nx+2)
@[irreducible] def oX (ro:Ro):PT:=fun e h nx Q=>aB (bK (e 0)) fun d'=>aB (aS 6 d') fun e'=>aB (load1 ro h e') fun f'=>aB (bG f') fun g'=>aB (aO .gtr g' (Value.int IntKind.i64 0)) fun b'=>ifP b' true h (nx+7) (fun k7=>k7 (e 0) h (nx+8)) fun h' h9 G'=>ifP b' true h9 G' (fun Z'=>aN Tryz.prog ro mS [h'] h9 (G'+1) fun aa' ab' ac'=>Z' aa' ab' ac') fun i' H' I'=>aB (bO b' i' (Value.bool false)) fun j'=>aR j' (aN Tryz.prog ro nK [(e 0)] H' (I'+3) fun m' ad' c'=>aB (zer Tryz.prog bJ) fun ae'=>cS ad' c' (.cells ae'.cells bJ) fun af'=>aB (bV 3 af' (ptr c') m') fun n'=>aB (aS 0 (ptr c')) fun o'=>aB (load1 ro n' o') fun p'=>aB (aO .eql p' (Value.int IntKind.i64 (-1))) fun a'=>ifP a' false n' (c'+17) (fun ag'=>ag' (e 0) n' (c'+17)) fun q' J' K'=>ifP a' false J' K' (fun ah'=>aB (bK q') fun ai'=>ah' ai' J' K') fun r' L' M'=>ifP a' false L' M' (fun aj'=>aB (aS 0 r') fun ak'=>aj' ak' L' M') fun s' N' O'=>ifP a' false N' O' (fun al'=>aB (aS 1 s') fun am'=>al' am' N' O') fun t' u' P'=>ifP a' false u' P' (fun an'=>aB (load1 ro u' t') fun ao'=>an' ao' u' P') fun v' Q' R'=>ifP a' false Q' R' (fun ap'=>aB (aS 0 (ptr c')) fun aq'=>ap' aq' Q' R') fun w' x' S'=>ifP a' false x' S' (fun ar'=>aB (load1 ro x' w') fun as'=>ar' as' x' S') fun y' T' U'=>ifP a' false T' U' (fun at'=>aB (cO 1 v' y') fun au'=>at' au' T' U') fun z' A' V'=>ifP a' false A' V' (fun av'=>aB (load1 ro A' z') fun aw'=>av' aw' A' V') fun B' W' X'=>ifP a' false W' X' (fun ax'=>aB (aEe .neq B' (Value.string { data:=#[] })) fun ay'=>ax' ay' W' X') fun C' D' k'=>aB (bO a' (Value.bool true) C') fun E'=>aR E' (aB (loadA ro D' 3 (ptr c')) fun Y'=>aB (bQ Tryz.prog iH (k'+2) 1 [(0,Y')]) fun F'=>eQ D' (k'+2) F'.2 fun az'=>aB (cM Tryz.prog ro az' (k'+4) #[iH,iH] [(e 3),F'.1]) fun l'=>Q .normal (puts e [(5,(e 0)),(6,d'),(7,e'),(8,f'),(9,g'),(10,b'),(11,b'),(12,h'),(13,i'),(14,j'),(15,(e 0)),(16,m'),(4,(ptr c')),(17,o'),(18,p'),(19,a'),(20,a'),(21,q'),(22,r'),(23,s'),(24,t'),(25,v'),(26,w'),(27,y'),(28,z'),(29,B'),(30,C'),(31,E'),(32,(e 3)),(33,Y'),(34,F'.1),(35,l'.1),(3,l'.1)]) l'.2.1 (l'.2.2+1)) (Q .normal (puts e [(5,(e 0)),(6,d'),(7,e'),(8,f'),(9,g'),(10,b'),(11,b'),(12,h'),(13,i'),(14,j'),(15,(e 0)),(16,m'),(4,(ptr c')),(17,o'),(18,p'),(19,a'),(20,a'),(21,q'),(22,r'),(23,s'),(24,t'),(25,v'),(26,w'),(27,y'),(28,z'),(29,B'),(30,C'),(31,E')]) D' k')) (Q (.exit 0) (puts e [(5,(e 0)),(6,d'),(7,e'),(8,f'),(9,g'),(10,b'),(11,b'),(12,h'),(13,i'),(14,j')]) H' (I'+1))
@[irreducible] def rD (ro:Ro) (v0:Value) (h:T Obj) (nx:Nat) (K:KV):Prop:=dQ (oX ro) (puts (gH [v0]) [(2,(Value.slice none 0 0)),(3,(Value.slice none 0 0))]) h (nx+2) fun x85 e82 h83 n84=>exP x85 (iD ro K e82 h83 n84) (fun i86=>cN (Nat.beq i86 0) (iD ro K e82 h83 n84) (False)) (∃ h87,Sub h87 h83∧K (e82 2) h87 n84)
theorem wW {ro:Ro}{v0:Value}{h:T Obj}{nx:Nat}{K:KV} (hw:rD ro v0 h nx K):aN Tryz.prog ro iW [v0] h nx K:=a7 (P:=Tryz.prog) (fn:=Tryz.f43) (by kernel_rfl) (by kernel_rfl) (by kernel_rfl) (Eq.mpr (by kernel_rfl) hw)
@[irreducible] def jL (ro:Ro) (K:KV):Env→T Obj→Nat→Prop:=fun e h nx=>aB (bK (e 0)) fun b'=>aB (aS 14 b') fun c'=>aB (load1 ro h c') fun d'=>∃ a',Sub a' h∧K d' a' (nx+5)
@[irreducible] def jM (ro:Ro) (Q:KE):Env→T Obj→Nat→Prop:=fun e h nx=>aB (aO .add (e 34) (Value.int IntKind.i64 1)) fun a'=>Q .normal (puts e [(76,a'),(34,a')]) h (nx+2)
@[irreducible] def qG (ro:Ro):PT:=fun e h nx Q=>aB (aO .lss (e 34) (e 33)) fun c'=>aR c' (aB (cO 1 (e 32) (e 34)) fun d'=>aB (load1 ro h d') fun a'=>aB (bK (e 0)) fun e'=>aB (aS 10 e') fun f'=>aB (aS 0 f') fun g'=>aB (load1 ro h g') fun h'=>aB (aO .add h' (Value.int IntKind.i64 1)) fun i'=>aB (bK (e 0)) fun j'=>aB (aS 10 j') fun k'=>aB (aS 0 k') fun l'=>aB (bV 1 h l' i') fun w'=>aB (bK (e 0)) fun m'=>aB (aS 15 m') fun n'=>aB (load1 ro w' n') fun o'=>aB (aO .add o' (Value.int IntKind.i64 1)) fun p'=>aB (bK (e 0)) fun q'=>aB (aS 15 q') fun r'=>aB (bV 1 w' r' p') fun K'=>aN Tryz.prog ro mO [(e 3),a'] K' (nx+25) fun s' x' y'=>aB (unV .not s') fun t'=>aR t' (Q .ret (puts e [(35,c'),(36,d'),(37,a'),(5,a'),(38,(e 0)),(39,e'),(40,f'),(41,g'),(42,h'),(43,i'),(44,j'),(45,k'),(46,l'),(47,(e 0)),(48,m'),(49,n'),(50,o'),(51,p'),(52,q'),(53,r'),(54,(e 3)),(55,a'),(56,s'),(57,t'),(2,(Value.bool true))]) x' (y'+2)) (aN Tryz.prog ro mN [(e 3)] x' (y'+3) fun b' u' z'=>aB (aO .neq b' (Value.int IntKind.i64 (-1))) fun v'=>aR v' (aB (bK (e 0)) fun A'=>aB (aS 10 A') fun B'=>aB (aS 0 B') fun C'=>aB (load1 ro u' C') fun D'=>aB (bK (e 0)) fun E'=>aB (aS 10 E') fun F'=>aB (aS 1 F') fun G'=>aB (bV 1 u' G' D') fun L'=>aB (bK (e 0)) fun H'=>aB (aS 10 H') fun I'=>aB (aS 2 I') fun J'=>aB (bV 1 L' J' b') fun M'=>jM ro Q (puts e [(35,c'),(36,d'),(37,a'),(5,a'),(38,(e 0)),(39,e'),(40,f'),(41,g'),(42,h'),(43,i'),(44,j'),(45,k'),(46,l'),(47,(e 0)),(48,m'),(49,n'),(50,o'),(51,p'),(52,q'),(53,r'),(54,(e 3)),(55,a'),(56,s'),(57,t'),(58,(e 3)),(59,b'),(6,b'),(60,b'),(61,v'),(62,(e 0)),(63,(e 0)),(64,(e 0)),(65,A'),(66,B'),(67,C'),(68,D'),(69,b'),(70,E'),(71,F'),(72,G'),(73,H'),(74,I'),(75,J')]) M' (z'+19)) (jM ro Q (puts e [(35,c'),(36,d'),(37,a'),(5,a'),(38,(e 0)),(39,e'),(40,f'),(41,g'),(42,h'),(43,i'),(44,j'),(45,k'),(46,l'),(47,(e 0)),(48,m'),(49,n'),(50,o'),(51,p'),(52,q'),(53,r'),(54,(e 3)),(55,a'),(56,s'),(57,t'),(58,(e 3)),(59,b'),(6,b'),(60,b'),(61,v')]) u' (z'+3)))) (Q (.exit 0) (puts e [(35,c')]) h (nx+1))
@[irreducible] def jK (ro:Ro) (K:KV):Env→T Obj→Nat→Prop:=fun e h nx=>aB (bK (e 0)) fun d'=>aB (aS 6 d') fun e'=>aB (load1 ro h e') fun f'=>aB (bK (e 0)) fun g'=>aB (aS 10 g') fun h'=>aB (aS 0 h') fun i'=>aB (load1 ro h i') fun j'=>aB (lW Tryz.prog bC f' (some j') none none) fun k'=>aB (bG k') fun m'=>dQ (qG ro) (puts e [(23,(e 0)),(24,d'),(25,e'),(26,f'),(27,(e 0)),(28,g'),(29,h'),(30,i'),(31,j'),(32,k'),(33,m'),(34,(Value.int IntKind.i64 0))]) h (nx+12) fun n' a' b' c'=>exP n' (jL ro K a' b' c') (fun o'=>cN (Nat.beq o' 0) (jL ro K a' b' c') (False)) (∃ l',Sub l' b'∧K (a' 2) l' c')
@[irreducible] def uH (ro:Ro) (v0:Value) (h:T Obj) (nx:Nat) (K:KV):Prop:=aB (bK v0) fun c'=>aB (aS 4 c') fun b'=>aB (load1 ro h b') fun d'=>aN Tryz.prog ro jG [v0] h (nx+10) fun e' h5 n6=>(jT b' h h5)∧(aB (cO 1 d' e') fun f'=>aB (load1 ro h5 f') fun a'=>aB (bK v0) fun g'=>aB (aS 10 g') fun h'=>aB (loadA ro h5 3 h') fun i'=>aB (fF Tryz.prog kF [(2,(Value.int IntKind.i64 (-1)))]) fun j'=>aB (dY Tryz.prog 20 kF) fun l'=>aB (aJB l' .eql i' j') fun k'=>aR k' (aN Tryz.prog ro lO [a'] h5 (n6+8) fun m' n' o'=>jK ro K (puts (gH [v0]) [(2,(Value.bool false)),(7,v0),(8,c'),(9,b'),(10,d'),(11,v0),(12,e'),(13,f'),(14,a'),(3,a'),(15,v0),(16,g'),(17,h'),(18,i'),(19,j'),(20,k'),(21,a'),(22,m')]) n' o') (jK ro K (puts (gH [v0]) [(2,(Value.bool false)),(7,v0),(8,c'),(9,b'),(10,d'),(11,v0),(12,e'),(13,f'),(14,a'),(3,a'),(15,v0),(16,g'),(17,h'),(18,i'),(19,j'),(20,k')]) h5 (n6+6)))
theorem zD {ro:Ro}{v0:Value}{h:T Obj}{nx:Nat}{K:KV} (hw:uH ro v0 h nx K):aN Tryz.prog ro mS [v0] h nx K:=a7 (P:=Tryz.prog) (fn:=Tryz.f79) (by kernel_rfl) (by kernel_rfl) (by kernel_rfl) (Eq.mpr (by kernel_rfl) hw)
@[irreducible] def jX (ro:Ro) (K:KV):Env→T Obj→Nat→Prop:=fun e h nx=>aB (loadA ro h 3 (e 3)) fun c'=>aB (bV 3 h (e 2) c') fun a'=>aB (loadA ro a' 3 (e 2)) fun d'=>∃ b',Sub b' a'∧K d' b' (nx+2)
@[irreducible] def jW (ro:Ro) (K:KV):Env→T Obj→Nat→Prop:=fun e h nx=>aB (aS 2 (e 3)) fun f'=>aB (load1 ro h f') fun g'=>aB (aS 1 (e 3)) fun h'=>aB (load1 ro h h') fun i'=>aB (aO .sub g' i') fun b'=>aB (bK (e 0)) fun j'=>aB (aS 6 j') fun k'=>aB (load1 ro h k') fun l'=>aB (aO .sub b' (Value.int IntKind.i64 1)) fun m'=>aB (cO 1 l' m') fun n'=>aB (load1 ro h n') fun o'=>aB (aO .eql o' (Value.int IntKind.u8 10)) fun p'=>aB (bK (e 0)) fun q'=>aB (aS 8 q') fun r'=>aB (bV 1 h r' p') fun d'=>aB (bK (e 0)) fun s'=>aB (aS 6 s') fun t'=>aB (load1 ro d' t') fun u'=>aB (lW Tryz.prog bC u' (some b') none none) fun v'=>aB (aS 2 (e 3)) fun e'=>aB (load1 ro d' e') fun w'=>aB (bK (e 0)) fun x'=>aB (aS 6 x') fun y'=>aB (bV 1 d' y' v') fun V'=>(jT e' d' V')∧(aB (bK (e 0)) fun z'=>aB (aS 7 z') fun A'=>aB (bV 1 V' A' w') fun aw'=>aB (fF Tryz.prog kF [(2,(Value.int IntKind.i64 (-1)))]) fun B'=>aB (bK (e 0)) fun C'=>aB (aS 10 C') fun D'=>aB (bV 3 aw' D' B') fun E'=>aB (aS 0 (e 3)) fun F'=>aB (load1 ro E' F') fun G'=>aB (aO .neq G' (Value.int IntKind.i64 (-1))) fun a'=>ifP a' true E' (nx+55) (fun ax'=>ax' (e 0) E' (nx+55)) fun H' W' X'=>ifP a' true W' X' (fun ay'=>aB (bK H') fun az'=>ay' az' W' X') fun I' Y' Z'=>ifP a' true Y' Z' (fun aA'=>aB (aS 0 I') fun aB'=>aA' aB' Y' Z') fun J' aa' ab'=>ifP a' true aa' ab' (fun aC'=>aB (aS 2 J') fun aD'=>aC' aD' aa' ab') fun K' L' ac'=>ifP a' true L' ac' (fun aE'=>aB (load1 ro L' K') fun aF'=>aE' aF' L' ac') fun M' ad' ae'=>ifP a' true ad' ae' (fun aG'=>aB (aS 0 (e 3)) fun aH'=>aG' aH' ad' ae') fun N' O' af'=>ifP a' true O' af' (fun aI'=>aB (load1 ro O' N') fun aJ'=>aI' aJ' O' af') fun P' ag' ah'=>ifP a' true ag' ah' (fun aK'=>aB (cO 1 M' P') fun aL'=>aK' aL' ag' ah') fun Q' R' ai'=>ifP a' true R' ai' (fun aM'=>aB (load1 ro R' Q') fun aN'=>aM' aN' R' ai') fun S' aj' ak'=>ifP a' true aj' ak' (fun aO'=>aB (aO .geq S' (Value.int IntKind.i64 0)) fun aP'=>aO' aP' aj' ak') fun T' c' al'=>aB (bO a' T' (Value.bool false)) fun U'=>aR U' (aB (bK (e 0)) fun am'=>aB (aS 0 am') fun an'=>aB (aS 2 an') fun ao'=>aB (load1 ro c' ao') fun ap'=>aB (aS 0 (e 3)) fun aq'=>aB (load1 ro c' aq') fun ar'=>aB (cO 1 ap' ar') fun as'=>aB (load1 ro c' as') fun at'=>aB (bK (e 0)) fun au'=>aB (aS 9 au') fun av'=>aB (bV 1 c' av' at') fun aQ'=>jX ro K (puts e [(50,f'),(51,g'),(52,h'),(53,i'),(54,b'),(4,b'),(55,(e 0)),(56,(e 0)),(57,j'),(58,k'),(59,l'),(60,b'),(61,m'),(62,n'),(63,o'),(64,p'),(65,q'),(66,r'),(67,(e 0)),(68,(e 0)),(69,(e 0)),(70,s'),(71,t'),(72,u'),(73,b'),(74,v'),(75,e'),(76,w'),(77,x'),(78,y'),(79,z'),(80,A'),(81,(e 0)),(82,B'),(83,C'),(84,D'),(85,F'),(86,G'),(87,a'),(88,a'),(89,H'),(90,I'),(91,J'),(92,K'),(93,M'),(94,N'),(95,P'),(96,Q'),(97,S'),(98,T'),(99,U'),(100,(e 0)),(101,(e 0)),(102,am'),(103,an'),(104,ao'),(105,ap'),(106,aq'),(107,ar'),(108,as'),(109,at'),(110,au'),(111,av')]) aQ' (al'+13)) (jX ro K (puts e [(50,f'),(51,g'),(52,h'),(53,i'),(54,b'),(4,b'),(55,(e 0)),(56,(e 0)),(57,j'),(58,k'),(59,l'),(60,b'),(61,m'),(62,n'),(63,o'),(64,p'),(65,q'),(66,r'),(67,(e 0)),(68,(e 0)),(69,(e 0)),(70,s'),(71,t'),(72,u'),(73,b'),(74,v'),(75,e'),(76,w'),(77,x'),(78,y'),(79,z'),(80,A'),(81,(e 0)),(82,B'),(83,C'),(84,D'),(85,F'),(86,G'),(87,a'),(88,a'),(89,H'),(90,I'),(91,J'),(92,K'),(93,M'),(94,N'),(95,P'),(96,Q'),(97,S'),(98,T'),(99,U')]) c' al'))
@[irreducible] def vR (ro:Ro) (v0:Value) (h:T Obj) (nx:Nat) (K:KV):Prop:=aB (zer Tryz.prog bJ) fun z1=>cS h nx (.cells z1.cells bJ) fun h2=>aB (bK v0) fun e'=>aB (aS 7 e') fun f'=>aB (load1 ro h2 f') fun g'=>aB (bK v0) fun h'=>aB (aS 7 h') fun i'=>aB (load1 ro h2 i') fun j'=>aB (aO .add j' (Value.int IntKind.i64 1)) fun k'=>aB (fF Tryz.prog bJ [(0,(Value.int IntKind.i64 (-1))),(1,g'),(2,k')]) fun l'=>aB (zer Tryz.prog bJ) fun O'=>cS h2 (nx+11) (.cells O'.cells bJ) fun P'=>aB (bV 3 P' (ptr (nx+11)) l') fun b'=>aB (bK v0) fun m'=>aB (aS 10 m') fun n'=>aB (aS 2 n') fun o'=>aB (load1 ro b' o') fun p'=>aB (aO .neq p' (Value.int IntKind.i64 (-1))) fun q'=>aR q' (aB (bK v0) fun u'=>aB (aS 0 u') fun v'=>aB (aS 3 v') fun r'=>aB (load1 ro b' r') fun w'=>aN Tryz.prog ro jG [v0] b' (nx+50) fun x' a' Q'=>(jT r' b' a')∧(aB (cO 260 w' x') fun y'=>aB (aS 259 y') fun z'=>aB (load1 ro a' z') fun A'=>aB (bK v0) fun B'=>aB (aS 10 B') fun C'=>aB (aS 2 C') fun s'=>aB (load1 ro a' s') fun D'=>(jT s' b' a')∧(aB (cO 1 A' D') fun E'=>aB (load1 ro a' E') fun F'=>aB (bK v0) fun G'=>aB (aS 7 G') fun c'=>aB (load1 ro a' c') fun H'=>(jT c' b' a')∧(aB (bK v0) fun I'=>aB (aS 10 I') fun J'=>aB (aS 1 J') fun d'=>aB (load1 ro a' d') fun K'=>(jT d' b' a')∧(aB (aO .add H' K') fun L'=>aB (aS 0 (ptr (nx+11))) fun M'=>aB (bV 1 a' M' F') fun t'=>(jT d' a' t')∧((jT c' a' t')∧(aB (aS 2 (ptr (nx+11))) fun N'=>aB (bV 1 t' N' L') fun R'=>jW ro K (puts (gH [v0]) [(2,(ptr nx)),(5,v0),(6,e'),(7,f'),(8,g'),(9,v0),(10,h'),(11,i'),(12,j'),(13,k'),(14,l'),(3,(ptr (nx+11))),(15,v0),(16,m'),(17,n'),(18,o'),(19,p'),(20,q'),(21,v0),(22,u'),(23,v'),(24,r'),(25,w'),(26,v0),(27,x'),(28,y'),(29,z'),(30,A'),(31,v0),(32,B'),(33,C'),(34,s'),(35,D'),(36,E'),(37,F'),(38,v0),(39,G'),(40,c'),(41,H'),(42,v0),(43,I'),(44,J'),(45,d'),(46,K'),(47,L'),(48,M'),(49,N')]) R' Q'))))))) (jW ro K (puts (gH [v0]) [(2,(ptr nx)),(5,v0),(6,e'),(7,f'),(8,g'),(9,v0),(10,h'),(11,i'),(12,j'),(13,k'),(14,l'),(3,(ptr (nx+11))),(15,v0),(16,m'),(17,n'),(18,o'),(19,p'),(20,q')]) b' (nx+19))
theorem aAB {ro:Ro}{v0:Value}{h:T Obj}{nx:Nat}{K:KV} (hw:vR ro v0 h nx K):aN Tryz.prog ro nK [v0] h nx K:=a7 (P:=Tryz.prog) (fn:=Tryz.f80) (by kernel_rfl) (by kernel_rfl) (by kernel_rfl) (Eq.mpr (by kernel_rfl) hw)
@[irreducible] def tL (ro:Ro) (v0:Value) (h:T Obj) (nx:Nat) (K:KV):Prop:=aB (bK v0) fun b'=>aB (aS 8 b') fun c'=>aB (load1 ro h c') fun d'=>aR d' (aB (bK v0) fun e'=>aB (aS 9 e') fun f'=>aB (load1 ro h f') fun g'=>aB (aO .mul (Value.int IntKind.i64 2) g') fun h'=>aB (aO .add h' (Value.int IntKind.i64 1)) fun i'=>∃ h9,Sub h9 h∧K i' h9 (nx+12)) (aB (bK v0) fun j'=>aB (aS 9 j') fun k'=>aB (load1 ro h k') fun l'=>aB (aO .mul (Value.int IntKind.i64 2) l') fun m'=>∃ a',Sub a' h∧K m' a' (nx+11))
theorem xQ {ro:Ro}{v0:Value}{h:T Obj}{nx:Nat}{K:KV} (hw:tL ro v0 h nx K):aN Tryz.prog ro jG [v0] h nx K:=a7 (P:=Tryz.prog) (fn:=Tryz.f122) (by kernel_rfl) (by kernel_rfl) (by kernel_rfl) (Eq.mpr (by kernel_rfl) hw)
end V
end Go.Proofs.YtcaccnneblghgaaGreat
namespace Go.Proofs.YtcaccnneblghgaaGreat
namespace V
attribute [local irreducible] aB ifP aR cS eQ exP cN
abbrev MqD:=Nat × List (Nat × Nat)
def mW (q:MqD):List Nat:=q.1::jY q.2
structure MsX (ro:Ro) (h:T Obj) (X:List Nat) (qs:List MqD) (ds:List AutoD) (ms:List MacD):Prop where
 lq:qs.length=ds.length
 lm:ms.length=ds.length
 at_:∀ (i:Nat) q d m,qs[i]?=some q→ds[i]?=some d→ms[i]?=some m→MI ro h X q.1 q.2 (er d) m
 dis:∀ (i j:Nat) q r,qs[i]?=some q→qs[j]?=some r→i≠j→∀ k∈mW q,k ∉ mW r
section
variable {ro:Ro}{h h':T Obj}{X X':List Nat}{qs:List MqD}{ds:List AutoD}{ms:List MacD}
theorem MsX.subX (hm:MsX ro h X qs ds ms) (hs:Sub h h'):MsX ro h' X qs ds ms:=⟨hm.lq,hm.lm,fun i q d m h1 h2 h3=>(hm.at_ i q d m h1 h2 h3).subX jR hs,hm.dis⟩
theorem MsX.keep {ids:List Nat} (hm:MsX ro h X qs ds ms) (hs:dT ids h h') (h1:∀ k∈ids,k∈X) (h2:∀ q∈qs,∀ k∈ids,k ∉ mW q) (h3:∀ k∈X',k∈X∨h.get k=none) (h4:∀ k∈X,k∈X'):MsX ro h' X' qs ds ms :=
 ⟨hm.lq,hm.lm,fun i q d m g1 g2 g3=>(hm.at_ i q d m g1 g2 g3).keep jR hs h1 (fun k hk=>by
  have:=h2 q (List.mem_of_getElem? g1) k hk
  exact⟨fun e=>this (by rw[e]; exact List.mem_cons_self ..),fun e=>this (List.mem_cons_of_mem _ e)⟩) h3 h4,hm.dis⟩
theorem MsX.step (hm:MsX ro h X qs ds ms) {i:Nat}{q:MqD}{d:AutoD}{m':MacD} (hq:qs[i]?=some q) (hd:ds[i]?=some d) (hk:dT (q.1::jY q.2) h h') (hX:∀ k∈mW q,k∈X) (hn:MI ro h' X q.1 q.2 (er d) m'):MsX ro h' X qs ds (ms.set i m'):=by
 refine⟨hm.lq,by rw[List.length_set]; exact hm.lm,fun j r d2 m2 g1 g2 g3=>?_,hm.dis⟩
 have hl:=(List.getElem?_eq_some_iff.1 hq).1
 by_cases hij:i=j
 ·subst hij
  rw[List.getElem?_set_self (by rw[hm.lm,← hm.lq]; exact hl)] at g3
  rw[hq] at g1
  rw[hd] at g2
  cases g1; cases g2; cases g3
  exact hn
 ·rw[List.getElem?_set_ne hij] at g3
  refine (hm.at_ j r d2 m2 g1 g2 g3).keep jR hk hX (fun k hk2=>?_) (fun k hk2=>.inl hk2) fun k hk2=>hk2
  have:=hm.dis i j q r hq g1 hij k hk2
  exact⟨fun e=>this (by rw[e]; exact List.mem_cons_self ..),fun e=>this (List.mem_cons_of_mem _ e)⟩
theorem MsX.inX (hm:MsX ro h X qs ds ms) {i:Nat}{q:MqD} (hq:qs[i]?=some q):∀ k∈mW q,k∈X:=fun k hk=>by
 have hl:=(List.getElem?_eq_some_iff.1 hq).1
 have e1:ds[i]?=some (ds[i]'(by rw[← hm.lq]; exact hl)):=List.getElem?_eq_getElem _
 have e2:ms[i]?=some (ms[i]'(by rw[hm.lm,← hm.lq]; exact hl)):=List.getElem?_eq_getElem _
 exact (hm.at_ i q _ _ hq e1 e2).inX k hk
theorem MsX.nil:MsX ro h X [] [] []:=⟨rfl,rfl,fun i q d m h1=>by simp at h1,fun i j q r h1=>by simp at h1⟩
theorem MsX.snoc (hm:MsX ro h X qs ds ms) {q:MqD}{d:AutoD}{m:MacD} (hn:MI ro h X q.1 q.2 (er d) m) (hd:∀ r∈qs,∀ k∈mW r,k ∉ mW q):MsX ro h X (qs++[q]) (ds++[d]) (ms++[m]):=by
 have l1:=hm.lq
 have l2:=hm.lm
 refine⟨by simp[l1],by simp[l2],fun i q2 d2 m2 g1 g2 g3=>?_,fun i j q2 r g1 g2 hij k hk=>?_⟩
 ·rcases Nat.lt_or_ge i qs.length with hi | hi
  ·rw[List.getElem?_append_left hi] at g1
   rw[List.getElem?_append_left (by omega)] at g2 g3
   exact hm.at_ i q2 d2 m2 g1 g2 g3
  ·rw[List.getElem?_append_right hi] at g1
   rw[List.getElem?_append_right (by omega)] at g2 g3
   have hi0:i - qs.length=0:=by
    rcases Nat.eq_zero_or_pos (i - qs.length) with h0 | h0
    ·exact h0
    ·rw[List.getElem?_eq_none (by simp; omega)] at g1; cases g1
   rw[hi0] at g1
   rw[show i - ds.length=0 by omega] at g2
   rw[show i - ms.length=0 by omega] at g3
   simp at g1 g2 g3
   subst g1; subst g2; subst g3
   exact hn
 ·have key:∀ {i:Nat} {q2:MqD},(qs++[q])[i]?=some q2→(i < qs.length∧qs[i]?=some q2)∨(i=qs.length∧q2=q):=fun {i q2} g=>by
   rcases Nat.lt_or_ge i qs.length with hi | hi
   ·rw[List.getElem?_append_left hi] at g; exact .inl ⟨hi,g⟩
   ·rw[List.getElem?_append_right hi] at g
    rcases Nat.eq_zero_or_pos (i - qs.length) with h0 | h0
    ·rw[h0] at g; simp at g; exact .inr ⟨by omega,g.symm⟩
    ·rw[List.getElem?_eq_none (by simp; omega)] at g; cases g
  rcases key g1 with ⟨i1,i2⟩ | ⟨i1,rfl⟩
  ·rcases key g2 with ⟨j1,j2⟩ | ⟨j1,rfl⟩
   ·exact hm.dis i j q2 r i2 j2 hij k hk
   ·exact hd q2 (List.mem_of_getElem? i2) k hk
  ·rcases key g2 with ⟨j1,j2⟩ | ⟨j1,_⟩
   ·intro hk2
    exact hd r (List.mem_of_getElem? j2) k hk2 hk
   ·omega
end
def aA4 (l:List ByteArray):List (List Value):=l.map fun s=>[Value.string s]
theorem zX (l:List ByteArray):(aA4 l).length=l.length:=by simp[aA4]
theorem aGE {l:List ByteArray}{i:Nat} (hi:i < l.length):(aA4 l)[i]?=some [.string l[i]]:=by simp[aA4,hi]
def rB (qs:List MqD):List (List Value):=qs.map fun q=>[ptr q.1]
theorem vQ (l:List MqD):(rB l).length=l.length:=by simp[rB]
theorem aFv {l:List MqD}{i:Nat} (hi:i < l.length):(rB l)[i]?=some [ptr l[i].1]:=by simp[rB,hi]
def pY (ro:Ro) (h:T Obj) (x:List Value) (e:EntD):Prop:=∃ rv,x[259]?=some rv∧Sl ro h rv 1 (kJ e.rules)
theorem pY.sub {ro:Ro}{h h':T Obj} (hs:Sub h h'):∀ x e,pY ro h x e→pY ro h' x e:=fun x e ⟨rv,h1,h2⟩=>⟨rv,h1,h2.sub hs⟩
def scL (kv tv ev mv:Value) (most:Int) (bv:Value) (s:ScD) (er_:Int):List Value :=
 [dD,kv,tv,ev,mv,.int .i64 most,bv,.int .i64 (s.at_:Int),.bool s.line,.int .i64 (s.cond:Int),.int .i64 (s.took:Int),.int .i64 (s.held:Int),.int .i64 s.rule,.int .i64 er_,.bool s.closed,.int .i64 (s.steps:Int)]
def ScX (ro:Ro) (h:T Obj) (X:List Nat) (p:Nat) (qs:List MqD) (T:TabD) (most er_:Int) (s:ScD):Prop:=∃ kv tv ev mv bv,h.get p=some (.cells (scL kv tv ev mv most bv s er_).toArray aQ) ∧
 Sl ro (del h X) kv 1 (aA4 T.kinds)∧Sl ro (del h X) tv 1 (kJ T.to)∧SlR ro (del h X) ev 260 (pY ro (del h X)) T.entries∧Sl ro (del h X) mv 1 (rB qs)∧Sl ro (del h X) bv 1 (bY s.kept)∧MsX ro h X qs (T.entries.map (·.a)) s.ms∧p∈X∧∀ q∈qs,p ∉ mW q
section
variable {ro:Ro}{h h':T Obj}{X X':List Nat}{p:Nat}{qs:List MqD}{T:TabD}{most er_:Int}{s:ScD}
theorem ScX.sub (hm:ScX ro h X p qs T most er_ s) (hs:Sub h h') (h3:∀ k∈X',k∈X∨h.get k=none) (h4:∀ k∈X,k∈X'):ScX ro h' X' p qs T most er_ s:=by
 obtain⟨kv,tv,ev,mv,bv,g1,g2,g3,g4,g5,g6,g7,g8,g9⟩:=hm
 have hD:Sub (del h X) (del h' X'):=dT.del (ids:=[]) hs.keepL (fun k hk=>by cases hk) h3
 exact⟨kv,tv,ev,mv,bv,hs _ _ g1,g2.sub hD,g3.sub hD,g4.sub hD (pY.sub hD),g5.sub hD,g6.sub hD,g7.keep (ids:=[]) hs.keepL (fun k hk=>by cases hk) (fun q hq k hk=>by cases hk) h3 h4,h4 p g8,g9⟩
theorem ScX.step (hm:ScX ro h X p qs T most er_ s) {i:Nat}{q:MqD}{d:AutoD}{m':MacD} (hq:qs[i]?=some q) (hd:(T.entries.map (·.a))[i]?=some d) (hk:dT (q.1::jY q.2) h h') (hn:MI ro h' X q.1 q.2 (er d) m'):ScX ro h' X p qs T most er_ { s with ms:=s.ms.set i m' }:=by
 obtain⟨kv,tv,ev,mv,bv,g1,g2,g3,g4,g5,g6,g7,g8,g9⟩:=hm
 have hX:=g7.inX hq
 have hD:Sub (del h X) (del h' X):=hk.del hX fun k hk=>.inl hk
 have hp:=hk p _ g1 (g9 q (List.mem_of_getElem? hq))
 exact⟨kv,tv,ev,mv,bv,hp,g2.sub hD,g3.sub hD,g4.sub hD (pY.sub hD),g5.sub hD,g6.sub hD,g7.step hq hd hk hX hn,g8,g9⟩
theorem ScX.upd (hm:ScX ro h X p qs T most er_ s) {er':Int}{s':ScD} (hms:s'.ms=s.ms) (hb:s'.kept=s.kept):∃ kv tv ev mv bv,h.get p=some (.cells (scL kv tv ev mv most bv s er_).toArray aQ)∧ScX ro (h.upd p (some (.cells (scL kv tv ev mv most bv s' er').toArray aQ))) X p qs T most er' s':=by
 obtain⟨kv,tv,ev,mv,bv,g1,g2,g3,g4,g5,g6,g7,g8,g9⟩:=hm
 have hk:dT [p] h (h.upd p (some (.cells (scL kv tv ev mv most bv s' er').toArray aQ))):=((Sub.refl _).keepL).upd (by simp)
 have hX:∀ k∈[p],k∈X:=fun k hk=>by simp at hk; subst hk; exact g8
 have hD:Sub (del h X) (del (h.upd p (some (.cells (scL kv tv ev mv most bv s' er').toArray aQ))) X):=hk.del hX fun k hk=>.inl hk
 refine⟨kv,tv,ev,mv,bv,g1,kv,tv,ev,mv,bv,V.T.get_upd_same _ _ _,g2.sub hD,g3.sub hD,g4.sub hD (pY.sub hD),g5.sub hD,by rw[hb]; exact g6.sub hD,?_,g8,g9⟩
 rw[hms]
 exact g7.keep hk hX (fun q hq k hk=>by simp at hk; subst hk; exact g9 q hq) (fun k hk=>.inl hk) fun k hk=>hk
end
end V
end Go.Proofs.YtcaccnneblghgaaGreat
namespace Go.Proofs.YtcaccnneblghgaaGreat
namespace V
attribute [local irreducible] aB ifP aR cS eQ exP cN
theorem aJ5 (id off z:Nat):xO .eql (at_ id off z) (.pointer none)=some (.bool false):=rfl
section
variable {ro:Ro}{h:T Obj}{nx:Nat}{K:KV}
end
section
variable {ro:Ro}{h:T Obj}{nx:Nat}{K:KV}{X:List Nat}{p:Nat}{qs:List MqD}{T:TabD}{most er_:Int}{s:ScD}
theorem rS (hm:ScX ro h X p qs T most er_ s) (hK:∀ nx',nx≤nx'→K (.int .i64 (s.steps:Nat)) h nx'):aN Tryz.prog ro fQ [ptr p] h nx K:=by
 obtain⟨kv,tv,ev,mv,bv,g1,g2,g3,g4,g5,g6,g7,g8,g9⟩:=hm
 apply xP
 unfold tK
 have l15:=aZ (ro:=ro) (z:=0) g1 (show (scL kv tv ev mv most bv s er_)[15]?=some (.int .i64 (s.steps:Int)) from rfl)
 (repeat(first|refine aA (by simp (disch:=first|omega|exact nnN _|assumption) only [BB,B2,↓reduceIte,Nat.reduceLeDiff,Nat.reduceAdd,CC,aJ5,a8,l15]<;>rfl) ?_|apply aD|apply aE|with_reducible first|apply aG|apply aF|apply aK|apply aH|apply aJ|apply aI|apply aL|apply aC))
 exact⟨h,Sub.refl _,hK _ (by omega)⟩
theorem aIh (hm:ScX ro h X p qs T most er_ s) (hK:∀ nx',nx≤nx'→K (.int .i64 (s.kept.length:Nat)) h nx'):aN Tryz.prog ro mQ [ptr p] h nx K:=by
 obtain⟨kv,tv,ev,mv,bv,g1,g2,g3,g4,g5,g6,g7,g8,g9⟩:=hm
 apply zB
 unfold uF
 have l6:=aZ (ro:=ro) (z:=0) g1 (show (scL kv tv ev mv most bv s er_)[6]?=some bv from rfl)
 have hl:=g6.len
 rw[dV] at hl
 (repeat(first|refine aA (by simp (disch:=first|omega|exact nnN _|assumption) only [BB,B2,↓reduceIte,Nat.reduceLeDiff,Nat.reduceAdd,CC,aJ5,a8,l6,hl]<;>rfl) ?_|apply aD|apply aE|with_reducible first|apply aG|apply aF|apply aK|apply aH|apply aJ|apply aI|apply aL|apply aC))
 exact⟨h,Sub.refl _,hK _ (by omega)⟩
def aAA (er_:Int) (closed:Bool):Int:=if er_=0∧closed=true then 181 else er_
theorem oY (hm:ScX ro h X p qs T most er_ s) (hK:∀ nx',nx≤nx'→K (.int .i64 (aAA er_ s.closed)) h nx'):aN Tryz.prog ro iC [ptr p] h nx K:=by
 obtain⟨kv,tv,ev,mv,bv,g1,g2,g3,g4,g5,g6,g7,g8,g9⟩:=hm
 apply vS
 unfold qH
 have l13:=aZ (ro:=ro) (z:=0) g1 (show (scL kv tv ev mv most bv s er_)[13]?=some (.int .i64 er_) from rfl)
 have l14:=aZ (ro:=ro) (z:=0) g1 (show (scL kv tv ev mv most bv s er_)[14]?=some (.bool s.closed) from rfl)
 by_cases he:er_=0
 ·cases hc:s.closed with
  | true =>
   rw[hc] at l14
   have:aAA er_ s.closed=181:=if_pos ⟨he,hc⟩
   rw[this] at hK
   (repeat(first|refine aA (by simp (disch:=first|omega|exact nnN _|assumption) only [BB,B2,↓reduceIte,Nat.reduceLeDiff,Nat.reduceAdd,CC,aJ5,a8,l13,l14]<;>rfl) ?_|apply aD|apply aE|with_reducible first|apply aG|apply aF|apply aK|apply aH|apply aJ|apply aI|apply aL|apply aC))
   exact⟨h,Sub.refl _,hK _ (by omega)⟩
  | false =>
   rw[hc] at l14
   have:aAA er_ s.closed=er_:=if_neg fun e=>by rw[hc] at e; exact absurd e.2 (by decide)
   rw[this] at hK
   (repeat(first|refine aA (by simp (disch:=first|omega|exact nnN _|assumption) only [BB,B2,↓reduceIte,Nat.reduceLeDiff,Nat.reduceAdd,CC,aJ5,a8,l13,l14]<;>rfl) ?_|apply aD|apply aE|with_reducible first|apply aG|apply aF|apply aK|apply aH|apply aJ|apply aI|apply aL|apply aC))
   exact⟨h,Sub.refl _,hK _ (by omega)⟩
 ·have:aAA er_ s.closed=er_:=if_neg fun e=>he e.1
  rw[this] at hK
  (repeat(first|refine aA (by simp (disch:=first|omega|exact nnN _|assumption) only [BB,B2,↓reduceIte,Nat.reduceLeDiff,Nat.reduceAdd,CC,aJ5,a8,l13,l14]<;>rfl) ?_|apply aD|apply aE|with_reducible first|apply aG|apply aF|apply aK|apply aH|apply aJ|apply aI|apply aL|apply aC))
  exact⟨h,Sub.refl _,hK _ (by omega)⟩
theorem aBe (hm:ScX ro h X p qs T most er_ s) (hc:s.cond≤1000000) (hK:∀ nx',nx≤nx'→K (.int .i64 (qR s:Nat)) h nx'):aN Tryz.prog ro jG [ptr p] h nx K:=by
 obtain⟨kv,tv,ev,mv,bv,g1,g2,g3,g4,g5,g6,g7,g8,g9⟩:=hm
 apply xQ
 unfold tL
 have l8:=aZ (ro:=ro) (z:=0) g1 (show (scL kv tv ev mv most bv s er_)[8]?=some (.bool s.line) from rfl)
 have l9:=aZ (ro:=ro) (z:=0) g1 (show (scL kv tv ev mv most bv s er_)[9]?=some (.int .i64 (s.cond:Int)) from rfl)
 cases hl:s.line with
 | true =>
  rw[hl] at l8
  have:((qR s:Nat):Int)=2*(s.cond:Int)+1:=by unfold qR; rw[hl]; simp
  rw[this] at hK
  (repeat(first|refine aA (by simp (disch:=first|omega|exact nnN _|assumption) only [BB,B2,↓reduceIte,Nat.reduceLeDiff,Nat.reduceAdd,CC,a8,l8,l9]<;>rfl) ?_|apply aD|apply aE|with_reducible first|apply aG|apply aF|apply aK|apply aH|apply aJ|apply aI|apply aL|apply aC))
  exact⟨h,Sub.refl _,hK _ (by omega)⟩
 | false =>
  rw[hl] at l8
  have:((qR s:Nat):Int)=2*(s.cond:Int):=by unfold qR; rw[hl]; simp
  rw[this] at hK
  (repeat(first|refine aA (by simp (disch:=first|omega|exact nnN _|assumption) only [BB,B2,↓reduceIte,Nat.reduceLeDiff,Nat.reduceAdd,CC,a8,l8,l9]<;>rfl) ?_|apply aD|apply aE|with_reducible first|apply aG|apply aF|apply aK|apply aH|apply aJ|apply aI|apply aL|apply aC))
  exact⟨h,Sub.refl _,hK _ (by omega)⟩
end
end V
end Go.Proofs.YtcaccnneblghgaaGreat
namespace Go.Proofs.YtcaccnneblghgaaGreat
namespace V
theorem aAL {z:Nat}:∀ {l:List (List Value)} (n:Nat),(∀ x∈l,x.length=z)→l.flatten.drop (n*z)=(l.drop n).flatten
 | [],n,_=>by simp
 | y::r,0,_=>by simp
 | y::r,n+1,hz=>by
  have hy:=hz y (by simp)
  rw[List.drop_succ_cons,List.flatten_cons,Nat.succ_mul,show n*z+z=y.length+n*z by omega,List.drop_append,List.drop_of_length_le (Nat.le_add_right _ _),List.nil_append,Nat.add_sub_cancel_left]
  exact aAL n fun x hx=>hz x (by simp[hx])
theorem aBN {z:Nat}:∀ {l:List (List Value)},(∀ x∈l,x.length=z)→l.flatten.length=l.length*z
 | [],_=>by simp
 | y::r,hz=>by
  rw[List.flatten_cons,List.length_append,aBN fun x hx=>hz x (by simp[hx]),hz y (by simp),List.length_cons,Nat.succ_mul]; omega
theorem Sl.drop {P:Program}{t e:TypeId}{ro:Ro}{h:T Obj}{v:Value}{z:Nat}{l:List (List Value)} (hl:Sl ro h v z l) (hu:und P t=some (.slice e)) (hz:siz P e=some z) {n:Nat} (hn:n≤l.length) (k:IntKind) :
  ∃ r,lW P t v (some (.int k (n:Int))) none none=some r∧Sl ro h r z (l.drop n):=by
 have hnv:mE (.int k (n:Int))=some n:=by simp[mE]
 rcases hl with ⟨rfl,rfl⟩ | ⟨a,cap,rfl,h2,h3,h4⟩
 ·simp at hn; subst hn
  refine⟨.slice none 0 0,?_,.inl ⟨rfl,rfl⟩⟩
  unfold lW
  simp[hu,hz,i5,mE]
 ·have hb1:Nat.ble l.length cap=true:=Nat.ble_eq_true_of_le h2
  have hbn:Nat.ble n l.length=true:=Nat.ble_eq_true_of_le hn
  have e1:i5 none cap cap=some cap:=rfl
  have e2:i5 none l.length cap=some l.length:=rfl
  have e3:i5 (some (.int k (n:Int))) 0 l.length=some n:=by simp[i5,hnv,hbn]
  have hlen:(l.drop n).length=l.length - n:=List.length_drop
  have hk:n*z+(l.length - n)*z≤l.length*z:=by rw[← Nat.add_mul]; exact Nat.mul_le_mul_right _ (by omega)
  have hp:=oB h4.2 hk
  rw[aAL n h4.1] at hp
  have hl2:(l.drop n).flatten.length=(l.length - n)*z:=by rw[aBN fun x hx=>h4.1 x (List.mem_of_mem_drop hx),hlen]
  rw[List.take_of_length_le (by rw[hl2]; exact Nat.le_refl _)] at hp
  unfold lW
  simp only[hu,hz,Option.bind,e1,e2,e3,hb1,Option.isNone,Bool.true_or]
  rcases h3 with h3 | h3
  ·simp only[h3]
   cases hc:Nat.beq cap n with
   | true =>
    have hcn:cap=n:=Nat.eq_of_beq_eq_true hc
    have hd:l.drop n=[]:=List.drop_of_length_le (by omega)
    refine⟨_,rfl,.inr ⟨a,cap - n,by rw[hlen],by rw[hlen]; omega,.inl h3,fun x hx=>(by rw[hd] at hx; cases hx),?_⟩⟩
    have h0:=oB (off:=0) (k:=0) h4.2 (Nat.zero_le _)
    have e:elt a 0=a:=by obtain⟨b,o,sp⟩:=a; change sp=none at h3; subst h3; rfl
    rw[e] at h0
    rw[hd]
    simpa using h0
   | false =>
    refine⟨_,rfl,.inr ⟨V.fwd a (n*z),cap - n,by rw[hlen],by rw[hlen]; omega,.inl h3,fun x hx=>h4.1 x (List.mem_of_mem_drop hx),?_⟩⟩
    have e:elt a (n*z)=V.fwd a (n*z):=by obtain⟨b,o,sp⟩:=a; change sp=none at h3; subst h3; rfl
    rw[e] at hp
    rw[hlen]; exact hp
  ·simp only[h3,Nat.beq_refl]
   refine⟨_,rfl,.inr ⟨V.fwd a (n*z),cap - n,by rw[hlen],by rw[hlen]; omega,.inr h3,fun x hx=>h4.1 x (List.mem_of_mem_drop hx),?_⟩⟩
   rw[hlen]
   unfold cellsAt at hp ⊢
   simp only[elt,V.fwd,h3,Option.map] at hp ⊢
   exact hp
end V
end Go.Proofs.YtcaccnneblghgaaGreat
namespace Go.Proofs.YtcaccnneblghgaaGreat
namespace V
attribute [local irreducible] aB ifP aR cS eQ exP cN
theorem aBJ {ro:Ro}{v f:Value}{D:Type}{l:List D}{R:List Value→D→Prop}{q:D→Bool} (hlen:l.length≤1000000) {h:T Obj}{nx:Nat}{K:KV} (hv:SlR ro h v 260 R l)
  (hf:∀ (i:Nat) (hi:i < l.length) x n K',R x l[i]→nx≤n→(∀ n',n≤n'→K' (.bool (q l[i])) h n')→xX (aN Tryz.prog ro) f [.agg x.toArray] h n K')
  (hK:∀ nx',nx≤nx'→K (.int .i64 (pD q 0 l)) h nx'):aN Tryz.prog ro eY [v,f] h nx K:=by
 apply lF
 unfold hZ
 generalize hR:pD q 0 l=r at hK
 refine aA hv.len ?_
 refine a9 (fun j e h' nx'=>∃ (k:Nat),k+j=l.length∧nx≤nx'∧h'=h∧e 0=v∧e 1=f∧e 7=.int .i64 l.length∧e 8=.int .i64 k∧pD q k (l.drop k)=r) ?_ (n:=l.length) ⟨0,by omega,by omega,rfl,rfl,rfl,rfl,rfl,hR⟩
 rintro j e h' nx' ⟨k,hj,hnx,rfl,e0,e1,e7,e8,hr⟩ Q' hq hx
 unfold gO
 rw[e0,e1,e7,e8]
 refine dC (fun hk=>?_) (fun hk=>?_)
 ·have hk:k < l.length:=by omega
  rw[bW hk,nJ] at hr
  obtain⟨x,hx1,hx2,hx3,hx4,hx5⟩:=hv.at hk
  (repeat(first|refine zzB ?_|apply aD|apply aE|with_reducible first|apply aG|apply aF|apply aK|apply aH|apply aJ|apply aI|apply aL|apply aC))
  refine aA (hv.ix _ hk) (aA hx3 ?_)
  refine hf k hk x _ _ hx1 (by omega) fun n hn=>?_
  cases hc:q l[k] with
  | true =>
   rw[hc,if_pos rfl] at hr
   (repeat(first|refine zzB ?_|apply aD|apply aE|with_reducible first|apply aG|apply aF|apply aK|apply aH|apply aJ|apply aI|apply aL|apply aC))
   refine hx _ _ _ _ (fun e=>by cases e) (eW ?_)
   exact⟨_,Sub.refl _,ki hK hr.symm (by omega)⟩
  | false =>
   rw[hc,if_neg (by decide)] at hr
   (repeat(first|refine zzB ?_|apply aD|apply aE|with_reducible first|apply aG|apply aF|apply aK|apply aH|apply aJ|apply aI|apply aL|apply aC))
   exact hq (j - 1) _ _ _ _ (by omega) ⟨k+1,by omega,by omega,rfl,e0,e1,e7,rfl,hr⟩ (Sub.refl _)
 ·(repeat(first|refine zzB ?_|apply aD|apply aE|with_reducible first|apply aG|apply aF|apply aK|apply aH|apply aJ|apply aI|apply aL|apply aC))
  refine hx _ _ _ _ (fun e=>by cases e) (eA (cR ?_))
  unfold eU
  rw[gG (by omega)] at hr
  exact⟨_,Sub.refl _,ki hK hr.symm (by omega)⟩
theorem x6 {ro:Ro}{v f:Value}{D:Type}{l:List D}{R:List Value→D→Prop}{q:D→Bool} (hlen:l.length≤1000000) {h:T Obj}{nx:Nat}{K:KV} (hv:SlR ro h v 260 R l)
  (hf:∀ (i:Nat) (hi:i < l.length) x n K',R x l[i]→nx≤n→(∀ n',n≤n'→K' (.bool (q l[i])) h n')→xX (aN Tryz.prog ro) f [.agg x.toArray] h n K')
  (hK:∀ nx',nx≤nx'→K (.bool (l.any q)) h nx'):aN Tryz.prog ro eL [v,f] h nx K:=by
 apply kS
 unfold gM
 refine aBJ hlen hv (fun i hi x n K' hx hn hk=>hf i hi x n K' hx (by omega) hk) fun n hn=>?_
 rw[← zR q l 0 (by omega)] at hK
 (first | refine dC (fun hb=>?_) (fun hb=>?_) | refine aEA (fun hb=>?_) (fun hb=>?_) | refine lM (fun hb=>?_) (fun hb=>?_) | refine vL (fun hb=>?_) (fun hb=>?_) | refine sQ (fun hb=>?_) (fun hb=>?_) | refine qC (fun hb=>?_) (fun hb=>?_))
 ·exact⟨_,Sub.refl _,kb hK (decide_eq_true hb) (by omega)⟩
 ·exact⟨_,Sub.refl _,kb hK (decide_eq_false (by omega)) (by omega)⟩
theorem aOV (h:T Obj) (ts:Array TypeId) (a b:Int):eE Tryz.prog h .max ts [.int .i64 a,.int .i64 b]=some (.int .i64 (max a b)):=by
 unfold eE
 simp only[aGf,aNF,aII]
 by_cases e:a < b
 ·simp only[e,decide_true]; congr 2; omega
 ·simp only[e,decide_false]; congr 2; omega
theorem aHn {n:Int}:∀ (l:List Int) (x:Int),decide (n≤l.foldl max x)=(decide (n≤x) || l.any fun r=>decide (n≤r))
 | [],x=>(Bool.or_false _).symm
 | y::l,x=>by
  rw[List.foldl_cons,aHn l,List.any_cons,← Bool.or_assoc]
  congr 1
  by_cases h1:n≤x
  ·rw[decide_eq_true h1,decide_eq_true (show n≤max x y by omega)]; rfl
  ·by_cases h2:n≤y
   ·rw[decide_eq_false h1,decide_eq_true h2,decide_eq_true (show n≤max x y by omega)]; rfl
   ·rw[decide_eq_false h1,decide_eq_false h2,decide_eq_false (show ¬n≤max x y by omega)]; rfl
section
variable {ro:Ro}{h:T Obj}{nx:Nat}{K:KV}
set_option maxRecDepth 4000 in
theorem aHD {v:Value}{x:Int}{l:List Int} (hl:l.length≤1000000) (hv:Sl ro h v 1 (kJ (x::l))) (hK:∀ nx',nx≤nx'→K (.int .i64 (l.foldl max x)) h nx'):aN Tryz.prog ro lQ [v] h nx K:=by
 have hlen:=hv.len
 rw[eP,List.length_cons] at hlen
 apply xR
 unfold tO
 have h0x:=hv.ix .i64 (i:=0) (by rw[eP]; simp)
 have h0l:=hv.load1 (j7 (l:=x::l) (i:=0) (by simp))
 have hz:((0:Nat):Int)=0:=rfl
 rw[hz] at h0x
 refine aA hlen ?_
 (repeat(first|refine zzB ?_|apply aD|apply aE|with_reducible first|apply aG|apply aF|apply aK|apply aH|apply aJ|apply aI|apply aL|apply aC))
 have key:∀ (e:Env) n,nx≤n→e 0=v→lC ro K e h n:=by
  intro e n hn e0
  unfold lC
  rw[e0]
  refine aA h0x (aA h0l ?_)
  refine a9 (fun j e h' nx'=>∃ (k:Nat) (m:Int),k+j=(x::l).length∧1≤k∧nx≤nx'∧h'=h∧e 0=v∧e 3=.int .i64 m∧e 4=.int .i64 k∧((x::l).drop k).foldl max m=l.foldl max x) ?_ (n:=l.length) ⟨1,x,by rw[List.length_cons]; omega,by omega,by omega,rfl,e0,rfl,rfl,rfl⟩
  rintro j e' h' nx' ⟨k,m,hj,hk1,hnx,rfl,f0,f3,f4,hr⟩ Q' hq hx
  unfold pH
  rw[f0,f3,f4]
  refine aA hlen ?_
  rw[List.length_cons] at hj
  refine dC (fun hk=>?_) (fun hk=>?_)
  ·have hk:k < (x::l).length:=by rw[List.length_cons]; omega
   have hkx:=hv.ix .i64 (i:=k) (by rw[eP]; exact hk)
   have hkl:=hv.load1 (j7 (l:=x::l) (i:=k) hk)
   rw[bW hk,List.foldl_cons] at hr
   generalize (x::l)[k]=y at hr hkl
   (repeat(first|refine zzB ?_|apply aD|apply aE|with_reducible first|apply aG|apply aF|apply aK|apply aH|apply aJ|apply aI|apply aL|apply aC))
   refine aA hkx (aA hkl (aA (aOV _ _ _ _) ?_))
   (repeat(first|refine zzB ?_|apply aD|apply aE|with_reducible first|apply aG|apply aF|apply aK|apply aH|apply aJ|apply aI|apply aL|apply aC))
   exact hq (j - 1) _ _ _ _ (by omega) ⟨k+1,max m y,by rw[List.length_cons]; omega,by omega,by omega,rfl,f0,rfl,rfl,hr⟩ (Sub.refl _)
  ·(repeat(first|refine zzB ?_|apply aD|apply aE|with_reducible first|apply aG|apply aF|apply aK|apply aH|apply aJ|apply aI|apply aL|apply aC))
   refine hx _ _ _ _ (fun e=>by cases e) (eA (cR ?_))
   have hm:m=l.foldl max x:=by rw[← hr,List.drop_of_length_le (by rw[List.length_cons]; omega)]; rfl
   have hend:∀ (e9:Env) n',nx≤n'→e9 3=.int .i64 m→iX ro K e9 h' n':=by
    intro e9 n' hn f
    unfold iX
    rw[f,hm]
    exact⟨_,Sub.refl _,hK _ (by omega)⟩
   exact hend _ _ (by omega) f3
 exact key _ _ (by omega) rfl
end
end V
end Go.Proofs.YtcaccnneblghgaaGreat
namespace Go.Proofs.YtcaccnneblghgaaGreat
namespace V
attribute [local irreducible] aB ifP aR cS eQ exP cN
section
variable {ro:Ro}{h:T Obj}{nx:Nat}{K:KV}
set_option maxRecDepth 8000 in
theorem aG5 {lv rv uv nv xrv:Value}{s:StateD}{x:List Value}{rules:List Int}{i1:Nat} (hne:s.rule≠[]) (hsl:s.rule.length≤1000000) (hf:Fr h nx) (g1:h.get i1=some (.cells x.toArray cA)) (m1:x[259]?=some xrv) (hrl:Sl ro h xrv 1 (kJ rules)) (hru:rules.length≤kW) (hu:ZI ro h uv s.rule)
  (hK:∀ nx',nx≤nx'→K (.bool (s.rule.any fun r=>decide ((rules.length:Int)≤r))) h nx'):aN Tryz.prog ro wF [.agg #[lv,rv,uv,nv],ptr i1] h nx K:=by
 have hru:rules.length≤9223372036854775807:=hru
 apply aFF
 unfold aDr
 refine eF hf (Nat.le_refl _) fun h1 hs1 hf1 g3 _=>?_
 have g3:h1.get nx=some (.cells [lv,rv,uv,nv].toArray bA):=g3
 have m2:[lv,rv,uv,nv][2]?=some uv:=rfl
 have g1':=hs1 _ _ g1
 have hlen:=(hrl.sub hs1).len
 rw[eP] at hlen
 (repeat(first|refine zzB ?_|apply aD|apply aE|with_reducible first|apply aG|apply aF|apply aK|apply aH|apply aJ|apply aI|apply aL|apply aC))
 refine aA (aZ g3 m2) ?_
 cases hq:s.rule with
 | nil=>exact absurd hq hne
 | cons y r =>
  rw[hq] at hsl
  have hu1:Sl ro h1 uv 1 (kJ (y::r)):=by rw[← hq]; exact (hu.sub hs1:ZI ro h1 uv s.rule)
  refine aHD (by rw[List.length_cons] at hsl; omega) hu1 fun n2 hn2=>?_
  have hany:(s.rule.any fun r=>decide ((rules.length:Int)≤r))=decide ((rules.length:Int)≤r.foldl max y):=by
   rw[hq,List.any_cons,aHn]
  rw[hany] at hK
  (repeat(first|refine zzB ?_|apply aD|apply aE|with_reducible first|apply aG|apply aF|apply aK|apply aH|apply aJ|apply aI|apply aL|apply aC))
  refine aA (aZ g1' m1) ⟨fS g1' g1',aA hlen ?_⟩
  by_cases hc:(rules.length:Int)≤r.foldl max y
  ·rw[decide_eq_true hc] at hK
   (repeat(first|refine zzB ?_|apply aD|apply aE|with_reducible first|apply aG|apply aF|apply aK|apply aH|apply aJ|apply aI|apply aL|apply aC))
   exact⟨h,hs1,hK _ (by omega)⟩
  ·rw[decide_eq_false hc] at hK
   (repeat(first|refine zzB ?_|apply aD|apply aE|with_reducible first|apply aG|apply aF|apply aK|apply aH|apply aJ|apply aI|apply aL|apply aC))
   exact⟨h,hs1,hK _ (by omega)⟩
theorem aKQ {m:Nat} (h:m≤3):jZ (m:Int)≤27:=by
 have:m=0∨m=1∨m=2∨m=3:=by omega
 rcases this with rfl | rfl | rfl | rfl<;>decide
theorem aP0 {m:Nat} (h:m≤3):1≤jZ (m:Int):=by
 have:m=0∨m=1∨m=2∨m=3:=by omega
 rcases this with rfl | rfl | rfl | rfl<;>decide
theorem aGJ {α:Type}{p q:α→Bool}:∀ {l:List α},(∀ x∈l,q x=!p x)→l.all p=!(l.any q)
 | [],_=>rfl
 | y::l,hpq=>by
  rw[List.all_cons,List.any_cons,hpq y (by simp),aGJ fun x hx=>hpq x (by simp[hx])]
  cases p y<;>simp
set_option maxRecDepth 8000 in
set_option maxHeartbeats 1000000 in
theorem aJX {x:List Value}{e:EntD}{many:Nat} (hmb:many≤1000000) (hf:Fr h nx) (hd:sG ro h x e) (hK:∀ nx',nx≤nx'→K (.bool (lL many e)) h nx'):aN Tryz.prog ro aAh [.agg x.toArray,.int .i64 (many:Int)] h nx K:=by
 obtain⟨cv,sv,rv,hxe,c258,c259,htk,hA,hS,hSl,hR,hRl⟩:=hd.cells
 have hRl9:e.rules.length≤9223372036854775807:=hRl
 have hcl:e.a.c.length=256:=by obtain⟨_,_,_,hc,_⟩:=id hA; exact hc
 apply aHr
 unfold aHq
 refine eF hf (Nat.le_refl _) fun h1 hs1 hf1 g1 _=>?_
 have g1:h1.get nx=some (.cells x.toArray cA):=g1
 have hR1:=hR.sub hs1
 have hlen:=hR1.len
 rw[eP] at hlen
 (repeat(first|refine zzB ?_|apply aD|apply aE|with_reducible first|apply aG|apply aF|apply aK|apply aH|apply aJ|apply aI|apply aL|apply aC))
 refine aA (aZ g1 c259) (aA hlen ?_)
 refine a9 (fun j ev h' nx'=>∃ (k:Nat) (la:Int),k+j=e.rules.length∧nx+1≤nx'∧h'=h1∧ev 1=.int .i64 (many:Int)∧ev 2=ptr nx∧ev 5=.int .i64 la∧ev 9=rv∧ev 10=.int .i64 e.rules.length∧ev 11=.int .i64 k∧rz (-1) many e.rules=rz la many (e.rules.drop k)) ?_ (n:=e.rules.length)
  ⟨0,-1,by omega,by omega,rfl,rfl,rfl,rfl,rfl,rfl,rfl,rfl⟩
 rintro j ev h' nx' ⟨k,la,hj,hnx,rfl,e1,e2,e5,e9,e10,e11,hr⟩ Q' hq hx
 unfold aC5
 rw[e1,e5,e9,e10,e11]
 refine dC (fun hk=>?_) (fun hk=>?_)
 ·have hk:k < e.rules.length:=by omega
  have hix:=hR1.ix .i64 (i:=k) (by rw[eP]; exact hk)
  have hld:=hR1.load1 (j7 (l:=e.rules) (i:=k) hk)
  rw[bW hk] at hr
  generalize e.rules[k]=y at hr hld
  have hr:rz (-1) many e.rules=(decide (la < y)&&(decide (y < many)&&rz y many (e.rules.drop (k+1)))):=hr
  have hno:rz (-1) many e.rules=false→∀ n',nx≤n'→∃ h9,Sub h9 h'∧K (.bool false) h9 n':=fun hz n' hn=>⟨h,hs1,by
   have:lL many e=false:=by unfold lL; rw[hz]; rfl
   rw[← this]; exact hK _ hn⟩
  by_cases c1:y≤la
  ·rw[decide_eq_false (show ¬la < y by omega),Bool.false_and] at hr
   (repeat(first|refine aA (by simp (disch:=first|omega|exact nnN _|assumption) only [BB,B2,↓reduceIte,Nat.reduceLeDiff,Nat.reduceAdd,CC,hix,hld]<;>rfl) ?_|apply aD|apply aE|with_reducible first|apply aG|apply aF|apply aK|apply aH|apply aJ|apply aI|apply aL|apply aC))
   refine hx _ _ _ _ (fun e=>by cases e) (eW ?_)
   exact hno hr _ (by omega)
  ·rw[decide_eq_true (show la < y by omega),Bool.true_and] at hr
   by_cases c2:(many:Int)≤y
   ·rw[decide_eq_false (show ¬y < (many:Int) by omega),Bool.false_and] at hr
    (repeat(first|refine aA (by simp (disch:=first|omega|exact nnN _|assumption) only [BB,B2,↓reduceIte,Nat.reduceLeDiff,Nat.reduceAdd,CC,hix,hld]<;>rfl) ?_|apply aD|apply aE|with_reducible first|apply aG|apply aF|apply aK|apply aH|apply aJ|apply aI|apply aL|apply aC))
    refine hx _ _ _ _ (fun e=>by cases e) (eW ?_)
    exact hno hr _ (by omega)
   ·rw[decide_eq_true (show y < (many:Int) by omega),Bool.true_and] at hr
    (repeat(first|refine aA (by simp (disch:=first|omega|exact nnN _|assumption) only [BB,B2,↓reduceIte,Nat.reduceLeDiff,Nat.reduceAdd,CC,hix,hld]<;>rfl) ?_|apply aD|apply aE|with_reducible first|apply aG|apply aF|apply aK|apply aH|apply aJ|apply aI|apply aL|apply aC))
    exact hq (j - 1) _ _ _ _ (by omega) ⟨k+1,y,by omega,by omega,rfl,e1,e2,rfl,e9,e10,rfl,hr⟩ (Sub.refl _)
 ·have hr1:rz (-1) many e.rules=true:=by rw[hr,List.drop_of_length_le (by omega)]; rfl
  have hfit:lL many e=(fA e.a&&e.a.states.all fun s=>s.rule.all fun r=>decide (r < e.rules.length)):=by unfold lL; rw[hr1,Bool.true_and]
  (repeat(first|refine zzB ?_|apply aD|apply aE|with_reducible first|apply aG|apply aF|apply aK|apply aH|apply aJ|apply aI|apply aL|apply aC))
  refine hx _ _ _ _ (fun e=>by cases e) (eA (cR ?_))
  have hend:∀ (ev':Env) n',nx+1≤n'→ev' 2=ptr nx→t7 ro K ev' h' n':=by
   intro ev' n' hn f2
   unfold t7
   rw[f2]
   have hld:loadA ro h' 259 (at_ nx 0 0)=some (.agg (d4 e.a.c e.a.many cv sv).toArray):=by
    rw[bZ,g1,bE]
    simp only[Option.bind_some,tl]
    rw[if_pos (by rw[hd.len]; omega),List.drop_zero,htk]
   (repeat(first|refine zzB ?_|apply aD|apply aE|with_reducible first|apply aG|apply aF|apply aK|apply aH|apply aJ|apply aI|apply aL|apply aC))
   refine aA hld ?_
   refine aBB (hf1.mono (by omega)) (hA.sub hs1) fun n2 hn2=>?_
   cases hok:fA e.a with
   | false =>
    rw[hok,Bool.false_and] at hfit
    (repeat(first|refine zzB ?_|apply aD|apply aE|with_reducible first|apply aG|apply aF|apply aK|apply aH|apply aJ|apply aI|apply aL|apply aC))
    refine⟨h,hs1,?_⟩
    rw[← hfit]; exact hK _ (by omega)
   | true =>
    rw[hok,Bool.true_and] at hfit
    obtain⟨_,_,_,k4,_,k6⟩:=eR hok
    (repeat(first|refine zzB ?_|apply aD|apply aE|with_reducible first|apply aG|apply aF|apply aK|apply aH|apply aJ|apply aI|apply aL|apply aC))
    refine aA (aZ g1 c258) ?_
    refine qM (q:=fun s=>s.rule.any fun r=>decide ((e.rules.length:Int)≤r)) (by omega) (hS.sub hs1 (eD.sub hs1)) (fun i hi y n' K' hy hn' hk'=>?_) fun n' hn'=>?_
    ·obtain⟨lv,rv',uv,nv,rfl,w1,w2,w3,w4,w5⟩:=hy
     have hso:=k6 _ (List.getElem_mem hi)
     obtain⟨p1,p2,p3,p4,p5⟩:=qN hso
     have hcd:=aKQ p1
     exact aG5 (fun e9=>by have:=aP0 p1; rw[e9] at p2; have p2:(0:Int)=_:=p2; omega) (by omega) (hf1.mono (by omega)) g1 c259 hR1 hRl w3 hk'
    ·have hall:(e.a.states.all fun s=>s.rule.all fun r=>decide (r < (e.rules.length:Int)))=!(e.a.states.any fun s=>s.rule.any fun r=>decide ((e.rules.length:Int)≤r)):=aGJ fun s _=>by
      rw[aGJ (q:=fun r=>decide ((e.rules.length:Int)≤r)) fun r _=>by
       by_cases h9:r < (e.rules.length:Int)
       ·rw[decide_eq_true h9,decide_eq_false (by omega)]; rfl
       ·rw[decide_eq_false h9,decide_eq_true (by omega)]; rfl]
      simp
     rw[hall] at hfit
     (repeat(first|refine zzB ?_|apply aD|apply aE|with_reducible first|apply aG|apply aF|apply aK|apply aH|apply aJ|apply aI|apply aL|apply aC))
     refine⟨h,hs1,?_⟩
     rw[← hfit]; exact hK _ (by omega)
  exact hend _ _ (by omega) e2
end
end V
end Go.Proofs.YtcaccnneblghgaaGreat
namespace Go.Proofs.YtcaccnneblghgaaGreat
namespace V
attribute [local irreducible] aB ifP aR cS eQ exP cN
section
variable {ro:Ro}{h:T Obj}{nx:Nat}{K:KV}
set_option maxRecDepth 8000 in
set_option maxHeartbeats 2000000 in
theorem aGw {x:List Value}{e:EntD}{many:Nat} (hmb:many≤1000000) (hf:Fr h nx) (hd:sG ro h x e) (hK:∀ nx',nx≤nx'→K (.bool (lL many e)) h nx'):aN Tryz.prog ro wJ [.agg x.toArray,.int .i64 (many:Int)] h nx K:=by
 obtain⟨cv,sv,rv,hxe,c258,c259,htk,hA,hS,hSl,hR,hRl⟩:=hd.cells
 have hRl9:e.rules.length≤9223372036854775807:=hRl
 have hcl:e.a.c.length=256:=by obtain⟨_,_,_,hc,_⟩:=id hA; exact hc
 apply aFV
 unfold aE2
 refine eF hf (Nat.le_refl _) fun h1 hs1 hf1 g1 _=>?_
 have g1:h1.get nx=some (.cells x.toArray cA):=g1
 have hld:loadA ro h1 259 (at_ nx 0 0)=some (.agg (d4 e.a.c e.a.many cv sv).toArray):=by
  rw[bZ,g1,bE]
  simp only[Option.bind_some,tl]
  rw[if_pos (by rw[hd.len]; omega),List.drop_zero,htk]
 have hR1:=hR.sub hs1
 have hS1:=hS.sub hs1 (eD.sub hs1)
 have hlen:=hR1.len
 rw[eP] at hlen
 have hSlen:=hS1.len
 have l259:=aZ (ro:=ro) (z:=0) g1 c259
 have l258:=aZ (ro:=ro) (z:=0) g1 c258
 (repeat(first|refine zzB ?_|apply aD|apply aE|with_reducible first|apply aG|apply aF|apply aK|apply aH|apply aJ|apply aI|apply aL|apply aC))
 refine aA hld ?_
 refine aFR (hf1.mono (by omega)) (hA.sub hs1) fun n2 hn2=>?_
 have hno:lL many e=false→∀ n',nx≤n'→∃ h9,Sub h9 h1∧K (.bool false) h9 n':=fun hz n' hn=>⟨h,hs1,by rw[← hz]; exact hK _ hn⟩
 cases hok:fA e.a with
 | false =>
  (repeat(first|refine zzB ?_|apply aD|apply aE|with_reducible first|apply aG|apply aF|apply aK|apply aH|apply aJ|apply aI|apply aL|apply aC))
  exact hno (by unfold lL; rw[hok]; simp) _ (by omega)
 | true =>
  obtain⟨_,_,_,k4,_,k6⟩:=eR hok
  (repeat(first|refine zzB ?_|apply aD|apply aE|with_reducible first|apply aG|apply aF|apply aK|apply aH|apply aJ|apply aI|apply aL|apply aC))
  refine a9 (fun j ev h' nx'=>∃ (k:Nat) (la:Int),k+j=e.rules.length∧nx+1≤nx'∧h'=h1∧ev 1=.int .i64 (many:Int)∧ev 2=ptr nx∧ev 5=.int .i64 k∧-1≤la∧(∀ (hk:0 < k),∃ hl:k - 1 < e.rules.length,e.rules[k - 1]=la∧0≤la)∧(k=0→la=-1)∧rz (-1) many e.rules=rz la many (e.rules.drop k)) ?_ (n:=e.rules.length)
   ⟨0,-1,by omega,by omega,rfl,rfl,rfl,rfl,by omega,fun hk=>by omega,fun _=>rfl,rfl⟩
  rintro j ev h' nx' ⟨k,la,hj,hnx,rfl,e1,e2,e5,hla,hprev,hla0,hr⟩ Q' hq hx
  unfold aAX
  rw[e1,e2,e5]
  (repeat(first|refine zzB ?_|apply aD|apply aE|with_reducible first|apply aG|apply aF|apply aK|apply aH|apply aJ|apply aI|apply aL|apply aC))
  refine aA l259 (aA hlen ?_)
  refine dC (fun hk=>?_) (fun hk=>?_)
  ·have hk:k < e.rules.length:=by omega
   have hix:=hR1.ix .i64 (i:=k) (by rw[eP]; exact hk)
   have hldk:=hR1.load1 (j7 (l:=e.rules) (i:=k) hk)
   rw[bW hk] at hr
   have hyk:e.rules[k]=e.rules[k]:=rfl
   generalize hy:e.rules[k]=y at hr hldk
   have hr:rz (-1) many e.rules=(decide (la < y)&&(decide (y < many)&&rz y many (e.rules.drop (k+1)))):=hr
   have hbad:rz (-1) many e.rules=false→∀ n',nx≤n'→∃ h9,Sub h9 h'∧K (.bool false) h9 n':=fun hz n' hn=>hno (by unfold lL; rw[hz]; rfl) n' hn
   by_cases c1:y < 0
   ·have hz:rz (-1) many e.rules=false:=by
     by_cases c2:la < y
     ·by_cases hk0:k=0
      ·have:=hla0 hk0; omega
      ·obtain⟨_,_,h0⟩:=hprev (by omega); omega
     ·rw[hr,decide_eq_false c2]; rfl
    (repeat(first|refine aA (by simp (disch:=first|omega|exact nnN _|assumption) only [BB,B2,↓reduceIte,Nat.reduceLeDiff,Nat.reduceAdd,CC,l259,hix,hldk]<;>rfl) ?_|apply aD|apply aE|with_reducible first|apply aG|apply aF|apply aK|apply aH|apply aJ|apply aI|apply aL|apply aC))
    refine hx _ _ _ _ (fun e=>by cases e) (eW ?_)
    exact hbad hz _ (by omega)
   ·by_cases c2:(many:Int)≤y
    ·have hz:rz (-1) many e.rules=false:=by rw[hr,decide_eq_false (show ¬y < (many:Int) by omega)]; simp
     (repeat(first|refine aA (by simp (disch:=first|omega|exact nnN _|assumption) only [BB,B2,↓reduceIte,Nat.reduceLeDiff,Nat.reduceAdd,CC,l259,hix,hldk]<;>rfl) ?_|apply aD|apply aE|with_reducible first|apply aG|apply aF|apply aK|apply aH|apply aJ|apply aI|apply aL|apply aC))
     refine hx _ _ _ _ (fun e=>by cases e) (eW ?_)
     exact hbad hz _ (by omega)
    ·by_cases hk0:k=0
     ·have hl0:=hla0 hk0
      rw[decide_eq_true (show la < y by omega),decide_eq_true (show y < (many:Int) by omega),Bool.true_and,Bool.true_and] at hr
      (repeat(first|refine aA (by simp (disch:=first|omega|exact nnN _|assumption) only [BB,B2,↓reduceIte,Nat.reduceLeDiff,Nat.reduceAdd,CC,l259,hix,hldk]<;>rfl) ?_|apply aD|apply aE|with_reducible first|apply aG|apply aF|apply aK|apply aH|apply aJ|apply aI|apply aL|apply aC))
      exact hq (j - 1) _ _ _ _ (by omega) ⟨k+1,y,by omega,by omega,rfl,e1,e2,rfl,by omega,fun _=>⟨by omega,by show e.rules[k]=y; exact hy,by omega⟩,fun h9=>by omega,hr⟩ (Sub.refl _)
     ·obtain⟨hkl,hp1,hp0⟩:=hprev (by omega)
      have hixp:=hR1.ix .i64 (i:=k - 1) (by rw[eP]; exact hkl)
      have hldp:=hR1.load1 (j7 (l:=e.rules) (i:=k - 1) hkl)
      rw[hp1] at hldp
      rw[show ((k - 1:Nat):Int)=(k:Int) - 1 by omega] at hixp
      by_cases c3:y≤la
      ·have hz:rz (-1) many e.rules=false:=by rw[hr,decide_eq_false (show ¬la < y by omega)]; rfl
       (repeat(first|refine aA (by simp (disch:=first|omega|exact nnN _|assumption) only [BB,B2,↓reduceIte,Nat.reduceLeDiff,Nat.reduceAdd,CC,l259,hix,hldk,hixp,hldp]<;>rfl) ?_|apply aD|apply aE|with_reducible first|apply aG|apply aF|apply aK|apply aH|apply aJ|apply aI|apply aL|apply aC))
       refine hx _ _ _ _ (fun e=>by cases e) (eW ?_)
       exact hbad hz _ (by omega)
      ·rw[decide_eq_true (show la < y by omega),decide_eq_true (show y < (many:Int) by omega),Bool.true_and,Bool.true_and] at hr
       (repeat(first|refine aA (by simp (disch:=first|omega|exact nnN _|assumption) only [BB,B2,↓reduceIte,Nat.reduceLeDiff,Nat.reduceAdd,CC,l259,hix,hldk,hixp,hldp]<;>rfl) ?_|apply aD|apply aE|with_reducible first|apply aG|apply aF|apply aK|apply aH|apply aJ|apply aI|apply aL|apply aC))
       exact hq (j - 1) _ _ _ _ (by omega) ⟨k+1,y,by omega,by omega,rfl,e1,e2,rfl,by omega,fun _=>⟨by omega,by show e.rules[k]=y; exact hy,by omega⟩,fun h9=>by omega,hr⟩ (Sub.refl _)
  ·have hr1:rz (-1) many e.rules=true:=by rw[hr,List.drop_of_length_le (by omega)]; rfl
   have hfit:lL many e=(e.a.states.all fun s=>s.rule.all fun r=>decide (r < e.rules.length)):=by unfold lL; rw[hr1,hok]; rfl
   (repeat(first|refine zzB ?_|apply aD|apply aE|with_reducible first|apply aG|apply aF|apply aK|apply aH|apply aJ|apply aI|apply aL|apply aC))
   refine hx _ _ _ _ (fun e=>by cases e) (eA (cR ?_))
   have key:∀ (ev':Env) n',nx+1≤n'→ev' 2=ptr nx→pW ro K ev' h' n':=by
    intro ev' n' hn f2
    unfold pW
    generalize hB:(e.a.states.all fun s=>s.rule.all fun r=>decide (r < (e.rules.length:Int)))=B at hfit
    refine a9 (fun j e0 h'' nx2=>∃ (k:Nat),k+j=e.a.states.length∧nx+1≤nx2∧h''=h'∧e0 2=ptr nx∧e0 6=.int .i64 k∧((e.a.states.drop k).all fun s=>s.rule.all fun r=>decide (r < (e.rules.length:Int)))=B) ?_ (n:=e.a.states.length)
     ⟨0,by omega,by omega,rfl,f2,rfl,hB⟩
    rintro j2 e0 h'' nx2 ⟨k2,hj2,hnx2,rfl,f2,f6,hr2⟩ Q2 hq2 hx2
    unfold aAV
    rw[f2,f6]
    (repeat(first|refine zzB ?_|apply aD|apply aE|with_reducible first|apply aG|apply aF|apply aK|apply aH|apply aJ|apply aI|apply aL|apply aC))
    refine aA l258 (aA hSlen ?_)
    refine dC (fun hk2=>?_) (fun hk2=>?_)
    ·have hk2:k2 < e.a.states.length:=by omega
     rw[bW hk2,List.all_cons] at hr2
     have six:=hS1.ix .i64 hk2
     obtain⟨y,hy1,hy2,hy3,hy4,hy5⟩:=hS1.at hk2
     have hso:=k6 _ (List.getElem_mem hk2)
     generalize e.a.states[k2]=st at hr2 hy1 hso
     obtain⟨lv,rv',uv,nv,rfl,w1,w2,w3,w4,w5⟩:=hy1
     obtain⟨p1,p2,p3,p4,p5⟩:=qN hso
     have hcd:=aKQ p1
     have y2:=hy5 2 uv rfl
     have y2p:=hy4 2
     have w3:Sl ro h'' uv 1 (kJ st.rule):=w3
     have ulen:=w3.len
     rw[eP] at ulen
     (repeat(first|refine zzB ?_|apply aD|apply aE|with_reducible first|apply aG|apply aF|apply aK|apply aH|apply aJ|apply aI|apply aL|apply aC))
     generalize hB2:(st.rule.all fun r=>decide (r < (e.rules.length:Int)))=Bq at hr2
     refine a9 (fun j3 e3 h3 nx3=>∃ (k3:Nat),k3+j3=st.rule.length∧nx+1≤nx3∧h3=h''∧e3 2=ptr nx∧e3 6=.int .i64 k2∧e3 7=.int .i64 k3∧((st.rule.drop k3).all fun r=>decide (r < (e.rules.length:Int)))=Bq) ?_ (n:=st.rule.length)
      ⟨0,by omega,by omega,rfl,f2,f6,rfl,hB2⟩
     rintro j3 e3 h3 nx3 ⟨k3,hj3,hnx3,rfl,f2,f6,f7,hr3⟩ Q3 hq3 hx3
     unfold aAW
     rw[f2,f6,f7]
     (repeat(first|refine aA (by simp (disch:=first|omega|exact nnN _|assumption) only [BB,B2,↓reduceIte,Nat.reduceLeDiff,Nat.reduceAdd,CC,six,y2p]<;>rfl) ?_|apply aD|apply aE|with_reducible first|apply aG|apply aF|apply aK|apply aH|apply aJ|apply aI|apply aL|apply aC))
     refine aA l258 ?_
     (repeat(first|refine aA (by simp (disch:=first|omega|exact nnN _|assumption) only [BB,B2,↓reduceIte,Nat.reduceLeDiff,Nat.reduceAdd,CC,six,y2p]<;>rfl) ?_|apply aD|apply aE|with_reducible first|apply aG|apply aF|apply aK|apply aH|apply aJ|apply aI|apply aL|apply aC))
     refine aA y2 (aA ulen ?_)
     refine dC (fun hk3=>?_) (fun hk3=>?_)
     ·have hk3:k3 < st.rule.length:=by omega
      have uix:=w3.ix .i64 (i:=k3) (by rw[eP]; exact hk3)
      have uld:=w3.load1 (j7 (l:=st.rule) (i:=k3) hk3)
      rw[bW hk3,List.all_cons] at hr3
      generalize st.rule[k3]=u at hr3 uld
      have hcount:∀ b:Bool,decide (u < (e.rules.length:Int))=b→True:=fun _ _=>trivial
      (repeat(first|refine aA (by simp (disch:=first|omega|exact nnN _|assumption) only [BB,B2,↓reduceIte,Nat.reduceLeDiff,Nat.reduceAdd,CC,l258,l259,six,y2p,y2,uix,uld,hlen]<;>rfl) ?_|apply aD|apply aE|with_reducible first|apply aG|apply aF|apply aK|apply aH|apply aJ|apply aI|apply aL|apply aC))
      by_cases hc:(e.rules.length:Int)≤u
      ·rw[decide_eq_false (show ¬u < (e.rules.length:Int) by omega),Bool.false_and] at hr3
       (repeat(first|refine zzB ?_|apply aD|apply aE|with_reducible first|apply aG|apply aF|apply aK|apply aH|apply aJ|apply aI|apply aL|apply aC))
       refine hx3 _ _ _ _ (fun e=>by cases e) (eW ?_)
       refine hx2 _ _ _ _ (fun e=>by cases e) (eW ?_)
       refine hno ?_ _ (by omega)
       rw[hfit,← hr2,← hr3]; rfl
      ·rw[decide_eq_true (show u < (e.rules.length:Int) by omega),Bool.true_and] at hr3
       (repeat(first|refine zzB ?_|apply aD|apply aE|with_reducible first|apply aG|apply aF|apply aK|apply aH|apply aJ|apply aI|apply aL|apply aC))
       exact hq3 (j3 - 1) _ _ _ _ (by omega) ⟨k3+1,by omega,by omega,rfl,f2,f6,rfl,hr3⟩ (Sub.refl _)
     ·have hb2:Bq=true:=by rw[← hr3,List.drop_of_length_le (by omega)]; rfl
      rw[hb2,Bool.true_and] at hr2
      (repeat(first|refine zzB ?_|apply aD|apply aE|with_reducible first|apply aG|apply aF|apply aK|apply aH|apply aJ|apply aI|apply aL|apply aC))
      refine hx3 _ _ _ _ (fun e=>by cases e) (eA (cR ?_))
      have hj:∀ (e9:Env) n9,nx+1≤n9→e9 2=ptr nx→e9 6=.int .i64 k2→mZ ro Q2 e9 h3 n9:=by
       intro e9 n9 hn9 f2 f6
       unfold mZ
       rw[f6]
       have hk29:k2 < 256:=by omega
       (repeat(first|refine zzB ?_|apply aD|apply aE|with_reducible first|apply aG|apply aF|apply aK|apply aH|apply aJ|apply aI|apply aL|apply aC))
       exact hq2 (j2 - 1) _ _ _ _ (by omega) ⟨k2+1,by omega,by omega,rfl,f2,rfl,hr2⟩ (Sub.refl _)
      exact hj _ _ (by omega) f2 f6
    ·have hb:B=true:=by rw[← hr2,List.drop_of_length_le (by omega)]; rfl
     (repeat(first|refine zzB ?_|apply aD|apply aE|with_reducible first|apply aG|apply aF|apply aK|apply aH|apply aJ|apply aI|apply aL|apply aC))
     refine hx2 _ _ _ _ (fun e=>by cases e) (eA (cR ?_))
     have hj:∀ (e9:Env) n9,nx≤n9→pX ro K e9 h'' n9:=by
      intro e9 n9 hn9
      unfold pX
      refine⟨h,hs1,?_⟩
      rw[← hb,← hfit]; exact hK _ (by omega)
     exact hj _ _ (by omega)
   exact key _ _ (by omega) e2
end
end V
end Go.Proofs.YtcaccnneblghgaaGreat
namespace Go.Proofs.YtcaccnneblghgaaGreat
namespace V
attribute [local irreducible] aB ifP aR cS eQ exP cN
theorem aKp (a b:ByteArray):(a.data.toList==b.data.toList)=decide (a=b):=by
 by_cases h:a=b
 ·subst h; simp
 ·rw[decide_eq_false h,beq_eq_false_iff_ne]
  intro he
  apply h
  have:a.data=b.data:=Array.toList_inj.1 he
  cases a; cases b
  simp only at this
  rw[this]
theorem aIv (a b:ByteArray):aEe .eql (.string a) (.string b)=some (.bool (decide (a=b))):=by
 rw[← aKp]; rfl
theorem zI (a b:ByteArray):aEe .neq (.string a) (.string b)=some (.bool (!decide (a=b))):=by
 rw[← aKp]; rfl
theorem aC3 {D:Type}{q:D→Bool}:∀ {l:List D}{k:Int}{i:Nat}{x:D},0≤k→l[i]?=some x→q x=true→decide (pD q k l=k+i)=!((l.take i).any q)
 | [],k,i,x,_,h,_=>by simp at h
 | y::l,k,0,x,_,h,hq=>by
  simp at h
  subst h
  rw[nJ,if_pos hq]
  simp
 | y::l,k,i+1,x,hk,h,hq=>by
  rw[nJ,List.take_succ_cons,List.any_cons]
  by_cases hy:q y=true
  ·rw[if_pos hy,hy,Bool.true_or,decide_eq_false (by omega)]; rfl
  ·rw[if_neg hy]
   have:=aC3 (l:=l) (k:=k+1) (i:=i) (by omega) (by simpa using h) hq
   have hyf:q y=false:=by simpa using hy
   rw[hyf,Bool.false_or,← this]
   congr 1
   have e:k+1+(i:Int)=k+((i+1:Nat):Int):=by omega
   rw[e]
section
variable {ro:Ro}{h:T Obj}{nx:Nat}{K:KV}
theorem zZ.load {v:Value}{l:List ByteArray} (hv:SlR ro h v 1 zZ l) {i:Nat} (hi:i < l.length):load1 ro h (jB 1 v i)=some (.string l[i])∧l[i].size≤kW:=by
 obtain⟨w,h1,h2⟩:=hv.at1 hi
 obtain⟨h3,h4⟩:=h1
 have:w=.string l[i]:=by simpa using h3
 rw[this] at h2
 exact⟨h2,h4⟩
set_option maxRecDepth 4000 in
theorem aE9 {v:Value}{l:List ByteArray}{s:ByteArray} (hlen:l.length≤1000000) (hv:SlR ro h v 1 zZ l) (hK:∀ nx',nx≤nx'→K (.int .i64 (pD (fun t=>decide (s=t)) 0 l)) h nx'):aN Tryz.prog ro hJ [v,.string s] h nx K:=by
 apply qL
 unfold lZ
 generalize hR:pD (fun t=>decide (s=t)) 0 l=r at hK
 refine aA hv.len ?_
 refine a9 (fun j e h' nx'=>∃ (k:Nat),k+j=l.length∧nx≤nx'∧h'=h∧e 0=v∧e 1=.string s∧e 7=.int .i64 l.length∧e 8=.int .i64 k∧pD (fun t=>decide (s=t)) k (l.drop k)=r) ?_ (n:=l.length) ⟨0,by omega,by omega,rfl,rfl,rfl,rfl,rfl,hR⟩
 rintro j e h' nx' ⟨k,hj,hnx,rfl,e0,e1,e7,e8,hr⟩ Q' hq hx
 unfold kL
 rw[e0,e1,e7,e8]
 refine dC (fun hk=>?_) (fun hk=>?_)
 ·have hk:k < l.length:=by omega
  have hix:=hv.ix .i64 hk
  obtain⟨hld,_⟩:=zZ.load hv hk
  rw[bW hk,nJ] at hr
  generalize l[k]=y at hr hld
  have hsb:=aIv s y
  by_cases hc:s=y
  ·rw[decide_eq_true hc] at hsb
   rw[if_pos (decide_eq_true hc)] at hr
   (repeat(first|refine aA (by simp (disch:=first|omega|exact nnN _|assumption) only [BB,B2,↓reduceIte,Nat.reduceLeDiff,Nat.reduceAdd,CC,hix,hld,hsb]<;>rfl) ?_|apply aD|apply aE|with_reducible first|apply aG|apply aF|apply aK|apply aH|apply aJ|apply aI|apply aL|apply aC))
   refine hx _ _ _ _ (fun e=>by cases e) (eW ?_)
   refine⟨_,Sub.refl _,?_⟩
   show K (.int .i64 (k:Int)) h' _
   rw[hr]; exact hK _ (by omega)
  ·rw[decide_eq_false hc] at hsb
   rw[if_neg (by rw[decide_eq_false hc]; decide)] at hr
   (repeat(first|refine aA (by simp (disch:=first|omega|exact nnN _|assumption) only [BB,B2,↓reduceIte,Nat.reduceLeDiff,Nat.reduceAdd,CC,hix,hld,hsb]<;>rfl) ?_|apply aD|apply aE|with_reducible first|apply aG|apply aF|apply aK|apply aH|apply aJ|apply aI|apply aL|apply aC))
   exact hq (j - 1) _ _ _ _ (by omega) ⟨k+1,by omega,by omega,rfl,e0,e1,e7,rfl,by rw[← hr]; rfl⟩ (Sub.refl _)
 ·rw[List.drop_of_length_le (by omega)] at hr
  (repeat(first|refine zzB ?_|apply aD|apply aE|with_reducible first|apply aG|apply aF|apply aK|apply aH|apply aJ|apply aI|apply aL|apply aC))
  refine hx _ _ _ _ (fun e=>by cases e) (eA (cR ?_))
  unfold gW
  refine⟨_,Sub.refl _,?_⟩
  have hr:(-1:Int)=r:=hr
  rw[hr]; exact hK _ (by omega)
end
end V
end Go.Proofs.YtcaccnneblghgaaGreat