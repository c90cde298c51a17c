/- Texts laid one behind the other: T7, LSteps.
   No condition. -/
import Derived.Test.YtcaccnneblghgaaGreatQ46
set_option linter.unusedVariables false
set_option linter.unusedSimpArgs false
namespace Go.Proofs.YtcaccnneblghgaaGreat
namespace V
attribute [local irreducible] aB ifP aR cS eQ exP cN
def yK (l:List EntD):Nat:=l.foldr (fun e n=>max e.a.counts.length n) 0
theorem aEF:∀ (l:List EntD) (e:EntD),yK (l++[e])=max (yK l) e.a.counts.length
 | [],e=>by simp[yK]
 | x::l,e=>by
  have:=aEF l e
  unfold yK at this ⊢
  rw[List.cons_append,List.foldr_cons,this,List.foldr_cons]
  omega
structure StI (ro:Ro) (X:List Nat) (p:Nat) (qs:List MqD) (T:TabD) (most:Int) (h:V.T Obj) (n:Nat) (s:ScD) (er_:Int):Prop where
 sc:ScX ro h X p qs T most er_ s
 ii:ScI T s
 cl:s.closed=false
 wk:aHM T s
 le:s.at_+s.kept.length≤n
 er2:er_=0∨er_=180
section
variable {ro:Ro}{h:V.T Obj}{nx:Nat}{K:KV}{X:List Nat}{p:Nat}{qs:List MqD}{most er_:Int}{s:ScD}{n:Nat}{T:TabD}
theorem StI.feed {bb:Value}{b:List Nat} (hi:StI ro X p qs T most h n s er_) (hT:TabR T) (hTl:T.entries.length≤1000) (hX:∀ k∈X,k < nx) (hb:Sl ro h bb 1 (bY b)) (hb2:∀ x∈b,x < 256) (hsz:n+b.length≤400) (hf:Fr h nx)
  (hK:∀ v h' nx' s' er',nx≤nx'→Fr h' nx'→dT (mT p qs) h h'→StI ro X p qs T most h' (n+b.length) s' er'→K v h' nx'):aN Tryz.prog ro hY [ptr p,bb] h nx K:=by
 obtain⟨sc,ii,cl,wk,le,er2⟩:=hi
 rcases er2 with rfl | rfl
 ·obtain⟨f1,f2,f3,f4⟩:=aLT hT ii cl b hb2
  refine aIg sc hT ii hTl cl hX hb hb2 (by omega) hf fun r h' nx' h1 h2 h3 h4 h5=>hK _ h' nx' (gY T s b).2 _ h1 h2 h3 ⟨h4,f1,f2,aKv hT _ _ (aKM ii hb2) wk,by omega,?_⟩
  unfold aFf
  split
  ·exact .inr rfl
  ·exact .inl rfl
 ·have hr:aAA 180 s.closed=180:=by unfold aAA; rw[if_neg (by omega)]
  exact aMc sc (by rw[hr]; decide) fun nx' h1=>hK _ h nx' s 180 h1 (hf.mono h1) (Sub.refl _).keepL ⟨sc,ii,cl,wk,by omega,.inr rfl⟩
theorem StI.close (hi:StI ro X p qs T most h n s er_) (hT:TabR T) (hTl:T.entries.length≤1000) (hsz:n≤400) (hf:Fr h nx)
  (hK:∀ v h' nx' s' er',nx≤nx'→Fr h' nx'→ScX ro h' X p qs T most er' s'→ScI T s'→s'.at_+s'.kept.length≤n→K v h' nx'):aN Tryz.prog ro gV [ptr p] h nx K:=by
 obtain⟨sc,ii,cl,wk,le,er2⟩:=hi
 rcases er2 with rfl | rfl
 ·obtain⟨c1,c2⟩:=aJM hT.tok ii.ok ii.c
  exact aHB sc hT ii hTl cl (by omega) hf fun r h' nx' h1 h2 h3 h4 h5=>hK _ h' nx' (v8 T s).2 0 h1 h2 h4 (aNy hT ii) (by rw[c1,c2]; show s.at_+s.kept.length+0≤n; omega)
 ·have hr:aAA 180 s.closed=180:=by unfold aAA; rw[if_neg (by omega)]
  exact aLJ sc (by rw[hr]; decide) fun nx' h1=>hK _ h nx' s 180 h1 (hf.mono h1) sc ii le
theorem aIs {a n:Nat}{st:Nat} (h:2*st≤a*(a+1)) (ha:a≤n):2*st≤n*(n+1):=Nat.le_trans h (Nat.mul_le_mul ha (by omega))
end
section
variable {ro:Ro}{h:T Obj}{nx:Nat}{K:KV}
set_option maxRecDepth 8000 in
set_option maxHeartbeats 4000000 in
theorem aBW {x:List Value}{Tb:TabD}{v:Value}{ls:List (List Nat)}{kp:Nat} (hf:Fr h nx) (hd:aCq ro h x Tb) (hv0:SlR ro h v 1 (aKK ro h) ls) (hl:ls.length≤kW) (hkp:kp < 65536) (hK:∀ h' nx',K (.bool true) h' nx'):aN Tryz.prog ro uA [.agg x.toArray,v,.int .u16 (kp:Int)] h nx K:=by
 obtain⟨cv,kv,tv,ev,rfl,_,_,_,q4,_⟩:=id hd
 obtain⟨hv,hlb,hb256⟩:=aO8 hv0
 apply aAm
 unfold xC
 refine eF hf (Nat.le_refl _) fun h1 hs1 hf1 g1 _=>?_
 have g1:h1.get nx=some (.cells [cv,kv,tv,ev].toArray dF):=g1
 refine aOh ?_
 have hd1:=hd.sub hs1
 have hv1:=hv.sub hs1 (RB.sub hs1)
 have hev1:=q4.sub hs1 (sG.sub hs1)
 refine aA (dI g1 rfl) ?_
 refine aHx (hf1.mono (by omega)) hd1 fun n2 hn2=>?_
 cases hfew:aHk Tb with
 | false =>
  (repeat(first|refine zzB ?_|apply aD|apply aE|with_reducible first|apply aG|apply aF|apply aK|apply aH|apply aJ|apply aI|apply aL|apply aC))
  exact⟨h1,Sub.refl _,hK _ _⟩
 | true =>
  (repeat(first|refine zzB ?_|apply aD|apply aE|with_reducible first|apply aG|apply aF|apply aK|apply aH|apply aJ|apply aI|apply aL|apply aC))
  refine aA (dI g1 rfl) ?_
  (repeat(first|refine zzB ?_|apply aD|apply aE|with_reducible first|apply aG|apply aF|apply aK|apply aH|apply aJ|apply aI|apply aL|apply aC))
  refine aFU (hf1.mono (by omega)) hd1 fun n3 hn3=>?_
  cases hr:fX Tb with
  | false =>
   (repeat(first|refine zzB ?_|apply aD|apply aE|with_reducible first|apply aG|apply aF|apply aK|apply aH|apply aJ|apply aI|apply aL|apply aC))
   exact⟨h1,Sub.refl _,hK _ _⟩
  | true =>
   have hT:=hd.right hr
   obtain⟨_,_,_,hTl,_⟩:=aGB hr
   (repeat(first|refine zzB ?_|apply aD|apply aE|with_reducible first|apply aG|apply aF|apply aK|apply aH|apply aJ|apply aI|apply aL|apply aC))
   refine aA (dI g1 rfl) ?_
   (repeat(first|refine zzB ?_|apply aD|apply aE|with_reducible first|apply aG|apply aF|apply aK|apply aH|apply aJ|apply aI|apply aL|apply aC))
   have hmst:((kp:Int) % 300+1)=(((kp % 300+1:Nat)):Int):=by omega
   rw[hmst]
   refine aJw (X0:=[]) (hf1.mono (by omega)) hd1 (fun b hb=>by cases hb) (fun h9=>by rcases h9 with h9 | h9<;>first | omega | (rw[hr] at h9; cases h9)) fun _ _ p qs h5 n5 hn5 hf5 hs5 hown hsc=>?_
   rw[List.nil_append] at hsc
   generalize kp % 300+1=most at hsc
   refine aA (aPs _ _) (aA (aPt _ _) ?_)
   (repeat(first|refine aA (by simp (disch:=first|omega|exact nnN _|assumption) only [BB,B2,↓reduceIte,Nat.reduceLeDiff,Nat.reduceAdd,CC,aJ5]<;>rfl) ?_|apply aD|apply aE|with_reducible first|apply aG|apply aF|apply aK|apply aH|apply aJ|apply aI|apply aL|apply aC))
   have g5:=hs5 _ _ g1
   refine aA (aZ g5 (show [cv,kv,tv,ev][3]?=some ev from rfl)) ?_
   have hev5:=hev1.sub hs5 (sG.sub hs5)
   refine aA hev5.len ?_
   refine a9 (fun j e h' nx'=>∃ i:Nat,i+j=Tb.entries.length∧n5≤nx'∧Sub h5 h'∧Fr h' nx'∧e 1=v∧e 7=.bool true∧e 8=ptr p∧e 10=.int .i64 0∧e 11=.int .i64 (yK (Tb.entries.take i):Nat)∧e 42=ev∧e 43=.int .i64 Tb.entries.length∧e 44=.int .i64 i) ?_ (n:=Tb.entries.length) ⟨0,by omega,by omega,Sub.refl _,hf5.mono (by omega),rfl,rfl,rfl,rfl,rfl,rfl,rfl,rfl⟩
   rintro j e h' nx' ⟨i,hj,hnx,hs',hf',e1,e7,e8,e10,e11,e42,e43,e44⟩ Q' hq hx
   unfold s8
   rw[e11,e42,e43,e44]
   refine dC (fun hk=>?_) (fun hk=>?_)
   ·have hk:i < Tb.entries.length:=by omega
    have hev6:=hev5.sub hs' (sG.sub hs')
    have hix:=hev6.ix .i64 hk
    obtain⟨y,hy1,hy2,hy3,hy4,hy5⟩:=hev6.at hk
    obtain⟨cv9,sv9,rv9,hye,c258,c259,htk,hA,hS,hSl,hR,hRl⟩:=hy1.cells
    have hpt:=hA.parts
    have htke:Tb.entries.take (i+1)=Tb.entries.take i++[Tb.entries[i]]:=List.take_succ_eq_append_getElem hk
    have hms:=aEF (Tb.entries.take i) Tb.entries[i]
    (repeat(first|refine zzB ?_|apply aD|apply aE|with_reducible first|apply aG|apply aF|apply aK|apply aH|apply aJ|apply aI|apply aL|apply aC))
    refine aA hix (aA hy3 ?_)
    refine jH (x:=y) (n:=260) aDU (by show aJT.toArray.size=260; rw[List.size_toArray,aBI]) rfl hy2 hy1.okL hf' (by omega) fun h6 hs6 hf6 g6 _=>?_
    obtain⟨hcl9,_,hcv9,_⟩:=hpt
    have c257:y[257]?=some cv9:=by
     rw[hye,List.getElem?_append_left (by rw[cQ hcl9]; omega)]
     exact kI hcl9
    have lc:=aZ (ro:=ro) (z:=0) g6 c257
    have hcvl:=hcv9.len
    (repeat(first|refine zzB ?_|apply aD|apply aE|with_reducible first|apply aG|apply aF|apply aK|apply aH|apply aJ|apply aI|apply aL|apply aC))
    refine aA lc (aA hcvl (aA (aND _ _ _) ?_))
    have hmx:(if ((yK (Tb.entries.take i):Nat):Int) < ((Tb.entries[i].a.counts.length:Nat):Int) then ((Tb.entries[i].a.counts.length:Nat):Int) else ((yK (Tb.entries.take i):Nat):Int))=((yK (Tb.entries.take (i+1)):Nat):Int):=by
     rw[htke,hms]
     split<;>omega
    rw[hmx]
    (repeat(first|refine zzB ?_|apply aD|apply aE|with_reducible first|apply aG|apply aF|apply aK|apply aH|apply aJ|apply aI|apply aL|apply aC))
    refine hq (j - 1) _ _ _ _ (by omega) ⟨i+1,by omega,by omega,hs'.trans hs6,hf6.mono (by omega),?_,?_,?_,?_,rfl,?_,?_,rfl⟩ (Sub.refl _)
    ·exact e1
    ·exact e7
    ·exact e8
    ·exact e10
    ·exact e42
    ·exact e43
   ·(repeat(first|refine zzB ?_|apply aD|apply aE|with_reducible first|apply aG|apply aF|apply aK|apply aH|apply aJ|apply aI|apply aL|apply aC))
    refine hx _ _ _ _ (fun e=>by cases e) (eA (cR ?_))
    obtain rfl:i=Tb.entries.length:=by omega
    rw[List.take_length] at e11
    have hmt:yK Tb.entries=kK Tb:=rfl
    rw[hmt] at e11
    have hmb:kK Tb≤512:=by
     have:∀ l:List EntD,(∀ e∈l,e.a.counts.length≤512)→yK l≤512:=fun l=>by
      induction l with
      | nil=>intro _; show 0≤512; omega
      | cons x l ih =>
       intro h9
       have h1:=h9 x (by simp)
       have h2:=ih fun y hy=>h9 y (by simp[hy])
       unfold yK at h2 ⊢
       rw[List.foldr_cons]
       omega
     exact this _ fun e he=>(eR (hT.ok e he)).2.1
    have hj1:∀ (e':Env) n',e' 1=v→e' 7=.bool true→e' 8=ptr p→e' 10=.int .i64 0→e' 11=.int .i64 (kK Tb:Nat)→nx'≤n'→kO ro K e' h' n':=by
     intro e' n' d1 d7 d8 d10 d11 dn
     unfold kO
     rw[d1]
     have hs15:=hs5.trans hs'
     have hD5:Sub h1 (del h' (mT p qs)):=fun k o hk=>j5 (hs15 k o hk) fun h9=>by
      have:=hf1.lt' hk
      have:=(hown k h9).1
      omega
     refine aFI (X:=mT p qs) (hv1.sub hD5 (RB.sub hD5)) hl hlb (fun k hk=>by have:=(hown k hk).2; omega) (hf'.mono (by omega)) fun r6 h6 n6 hn6 hf6 hs6 hr6=>?_
     have hsc6:ScX ro h6 (mT p qs) p qs Tb (most:Nat) 0 (nM Tb):=hsc.sub (hs'.trans hs6) (fun k hk=>.inl hk) fun k hk=>hk
     have hpb:=aNS hb256
     have hpf:=aJf ls
     have hpl:(nN ls).length≤12:=by rw[aAp]; omega
     have hr6l:=(hr6.sub (eX h6 _) (RB.sub (eX h6 _))).len
     refine aA hr6l ?_
     generalize nN ls=ps at *
     generalize hMv:Value.int .i64 ((kK Tb:Nat):Int)=Mv at d11
     refine a9 (fun j e h2 n2=>∃ (i:Nat) (s2:ScD) (er2:Int),i+j=ps.length∧n6≤n2∧Fr h2 n2∧dT (mT p qs) h6 h2∧e 7=.bool true∧e 8=ptr p∧e 10=.int .i64 ((ps.take i).flatten.length:Nat)∧e 11=Mv∧e 56=r6∧e 57=.int .i64 ps.length∧e 58=.int .i64 i∧StI ro (mT p qs) p qs Tb (most:Nat) h2 (ps.take i).flatten.length s2 er2) ?_ (n:=ps.length)
      ⟨0,nM Tb,0,by omega,by omega,hf6.mono (by omega),(Sub.refl _).keepL,d7,d8,d10,d11,rfl,rfl,rfl,hsc6,aQc hT,rfl,aQR,Nat.le_refl _,.inl rfl⟩
     rintro j e h2 n2 ⟨i,s2,er2,hj,hnx2,hf2,hk2,c7,c8,c10,c11,c56,c57,c58,hst⟩ Q' hq hx
     have hXk:∀ k∈mT p qs,k < n2:=fun k hk=>by have:=(hown k hk).2; omega
     have hD62:Sub (del h6 (mT p qs)) h2:=hk2.delS fun k hk=>hk
     unfold s7
     rw[c8,c10,c11,c56,c57,c58]
     have hr8:=hr6.sub hD62 (RB.sub hD62)
     refine dC (fun hk=>?_) (fun hk=>?_)
     ·have hk:i < ps.length:=by omega
      obtain⟨w,⟨w',hw,hwl⟩,hld⟩:=hr8.at1 hk
      cases hw
      have hwn:=hwl.len
      rw[dV] at hwn
      have hfs:=aBr hk
      have hfl:=wD (ls:=ps) (i+1)
      have hfl2:=hfl
      rw[hfs,List.length_append] at hfl
      have hN:(ps.take (i+1)).flatten.length=(ps.take i).flatten.length+ps[i].length:=by rw[hfs,List.length_append]
      have hadd:aO .add (.int .i64 (((ps.take i).flatten.length:Nat):Int)) (.int .i64 ((ps[i].length:Nat):Int))=some (.int .i64 (((ps.take (i+1)).flatten.length:Nat):Int)):=by
       rw[cK,hN,show (((ps.take i).flatten.length:Nat):Int)+((ps[i].length:Nat):Int)=(((ps.take i).flatten.length+ps[i].length:Nat):Int) by omega,dW (by omega) (by omega)]
      (repeat(first|refine zzB ?_|apply aD|apply aE|with_reducible first|apply aG|apply aF|apply aK|apply aH|apply aJ|apply aI|apply aL|apply aC))
      refine aA (hr8.ix .i64 hk) (aA hld (aA hwn (aA hadd ?_)))
      refine hst.feed hT (by omega) (fun k hk=>by have:=hXk k hk; omega) hwl (hpb _ (List.getElem_mem hk)) (by omega) (hf2.mono (by omega)) fun v9 h3 n3 s3 er3 hn3 hf3 hk3 hst3=>?_
      rw[← hN] at hst3
      have hnext:∀ (e':Env) (n':Nat),e' 7=.bool true→e' 8=ptr p→e' 10=.int .i64 ((ps.take (i+1)).flatten.length:Nat)→e' 11=Mv→e' 56=r6→e' 57=.int .i64 ps.length→e' 58=.int .i64 ((i:Int)+1)→n3≤n'→Q' .normal e' h3 n':=by
       intro e' n' b7 b8 b10 b11 b56 b57 b58 bn
       exact hq (j - 1) _ _ _ _ (by omega) ⟨i+1,s3,er3,by omega,by omega,hf3.mono bn,hk2.trans hk3,b7,b8,b10,b11,b56,b57,b58,hst3⟩ (Sub.refl _)
      generalize (ps.take (i+1)).flatten.length=N at *
      have hNb:N≤240:=by omega
      have hsl:=aIs (aEc hst3.ii) hst3.le
      have hq1:N*(N+1)≤240*241:=Nat.mul_le_mul hNb (by omega)
      have hmul:aO .mul (.int .i64 (N:Int)) (.int .i64 ((N:Int)+1))=some (.int .i64 ((N*(N+1):Nat):Int)):=by
       rw[dB,show (N:Int)*((N:Int)+1)=((N*(N+1):Nat):Int) by rw[Int.natCast_mul]; rfl,dW (by omega) (by omega)]
      have hadd1:aO .add (.int .i64 (N:Int)) (.int .i64 1)=some (.int .i64 ((N:Int)+1)):=by rw[cK,dW (by omega) (by omega)]
      generalize N*(N+1)=q at hsl hq1 hmul
      have hwk:wkS s3≤(13+kK Tb)*s3.steps:=hst3.wk
      have hwk2:(13+kK Tb)*s3.steps=13*s3.steps+kK Tb*s3.steps:=Nat.add_mul ..
      have hmm:kK Tb*(s3.steps+1)=kK Tb*s3.steps+kK Tb:=Nat.mul_succ ..
      have hmb2:kK Tb*(s3.steps+1)≤512*90001:=Nat.mul_le_mul hmb (by omega)
      have hmul2:aO .mul Mv (.int .i64 ((s3.steps:Int)+1))=some (.int .i64 ((kK Tb*(s3.steps+1):Nat):Int)):=by
       rw[← hMv,dB,show ((kK Tb:Nat):Int)*((s3.steps:Int)+1)=((kK Tb*(s3.steps+1):Nat):Int) by rw[Int.natCast_mul]; rfl,dW (by omega) (by omega)]
      generalize kK Tb*(s3.steps+1)=R at hmm hmb2 hmul2
      generalize kK Tb*s3.steps=P at hwk2 hmm
      refine rS hst3.sc fun n7 hn7=>?_
      refine aA hadd1 (aA hmul ?_)
      (repeat(first|refine zzB ?_|apply aD|apply aE|with_reducible first|apply aG|apply aF|apply aK|apply aH|apply aJ|apply aI|apply aL|apply aC))
      refine aIk hst3.sc hT hst3.ii (by omega) (by omega) fun n8 hn8=>?_
      (repeat(first|refine zzB ?_|apply aD|apply aE|with_reducible first|apply aG|apply aF|apply aK|apply aH|apply aJ|apply aI|apply aL|apply aC))
      refine rS hst3.sc fun n9 hn9=>?_
      (repeat(first|refine zzB ?_|apply aD|apply aE|with_reducible first|apply aG|apply aF|apply aK|apply aH|apply aJ|apply aI|apply aL|apply aC))
      refine rS hst3.sc fun n10 hn10=>?_
      (repeat(first|refine zzB ?_|apply aD|apply aE|with_reducible first|apply aG|apply aF|apply aK|apply aH|apply aJ|apply aI|apply aL|apply aC))
      refine aA hmul2 ?_
      (repeat(first|refine zzB ?_|apply aD|apply aE|with_reducible first|apply aG|apply aF|apply aK|apply aH|apply aJ|apply aI|apply aL|apply aC))
      refine aIh hst3.sc fun n11 hn11=>?_
      have hkle:s3.kept.length≤N:=by have:=hst3.le; omega
      (repeat(first|refine zzB ?_|apply aD|apply aE|with_reducible first|apply aG|apply aF|apply aK|apply aH|apply aJ|apply aI|apply aL|apply aC))
      refine hnext _ _ ?_ ?_ rfl ?_ ?_ ?_ rfl ?_
      ·exact c7
      ·exact c8
      ·exact c11
      ·exact c56
      ·exact c57
      ·omega
     ·(repeat(first|refine zzB ?_|apply aD|apply aE|with_reducible first|apply aG|apply aF|apply aK|apply aH|apply aJ|apply aI|apply aL|apply aC))
      refine hx _ _ _ _ (fun e=>by cases e) (eA (cR ?_))
      obtain rfl:i=ps.length:=by omega
      rw[List.take_length] at hst c10
      have hj2:∀ (e':Env) n',e' 7=.bool true→e' 8=ptr p→e' 10=.int .i64 (ps.flatten.length:Nat)→n2≤n'→kP ro K e' h2 n':=by
       intro e' n' b7 b8 b10 bn
       generalize ps.flatten.length=N at *
       generalize hNv:Value.int .i64 ((N:Nat):Int)=Nv at b10
       unfold kP
       rw[b7,b8,b10]
       refine hst.close hT (by omega) (by omega) (hf2.mono (by omega)) fun v9 h3 n3 s3 er3 hn3 hf3 hs3 hI3 hle3=>?_
       have hsl:=aIs (aEc hI3) hle3
       have hq1:N*(N+1)≤240*241:=Nat.mul_le_mul hpf (by omega)
       have hmul:aO .mul Nv (.int .i64 ((N:Int)+1))=some (.int .i64 ((N*(N+1):Nat):Int)):=by
        rw[← hNv,dB,show (N:Int)*((N:Int)+1)=((N*(N+1):Nat):Int) by rw[Int.natCast_mul]; rfl,dW (by omega) (by omega)]
       have hadd1:aO .add Nv (.int .i64 1)=some (.int .i64 ((N:Int)+1)):=by rw[← hNv,cK,dW (by omega) (by omega)]
       generalize N*(N+1)=q at hsl hq1 hmul
       (repeat(first|refine zzB ?_|apply aD|apply aE|with_reducible first|apply aG|apply aF|apply aK|apply aH|apply aJ|apply aI|apply aL|apply aC))
       refine rS hs3 fun n7 hn7=>?_
       (repeat(first|refine zzB ?_|apply aD|apply aE|with_reducible first|apply aG|apply aF|apply aK|apply aH|apply aJ|apply aI|apply aL|apply aC))
       refine aA hadd1 ?_
       (repeat(first|refine zzB ?_|apply aD|apply aE|with_reducible first|apply aG|apply aF|apply aK|apply aH|apply aJ|apply aI|apply aL|apply aC))
       refine aA hmul ?_
       (repeat(first|refine zzB ?_|apply aD|apply aE|with_reducible first|apply aG|apply aF|apply aK|apply aH|apply aJ|apply aI|apply aL|apply aC))
       rw[← hNv]
       (repeat(first|refine zzB ?_|apply aD|apply aE|with_reducible first|apply aG|apply aF|apply aK|apply aH|apply aJ|apply aI|apply aL|apply aC))
       exact⟨h3,Sub.refl _,hK _ _⟩
      refine hj2 _ _ ?_ ?_ ?_ ?_
      ·exact c7
      ·exact c8
      ·exact c10
      ·omega
    refine hj1 _ _ ?_ ?_ ?_ ?_ ?_ ?_
    ·exact e1
    ·exact e7
    ·exact e8
    ·exact e10
    ·exact e11
    ·omega
end
end V
end Go.Proofs.YtcaccnneblghgaaGreat
set_option maxRecDepth 16000
namespace Go.Proofs.YtcaccnneblghgaaGreat
namespace V
open Go.ChangeShapes Go.WideShapes Go.ChangeAt Go.RowKit
theorem aCN (os:Os) (started:os.Started) (H:Type) (enc:TypeId × Value→H) :
  ReturnsInHanded {} Tryz.checked os 6 .any (Rows.scanStepsSpec.pre6 enc Tryz.prog Tryz.f6 Rows.scanStepsRow.domain false) (Rows.scanStepsSpec.post enc Tryz.prog Tryz.f6 false true false false):=by
 refine returnsInHanded_of_change_sized (C:=Tryz.checked) aQe started (by kernel_rfl) (by kernel_rfl)
  (ChangeSpec.witness6 (enc:=enc) (C:=Tryz.checked) false ⟨#[],#[.agg #[.slice none 0 0,.slice none 0 0,.slice none 0 0,.slice none 0 0],.slice none 0 0,.int .u16 0],[]⟩ 8 (by kernel_rfl) (by kernel_rfl) (by kernel_rfl) (by kernel_rfl)) ?_
 intro W base args ds gs before hval hW _ _ _
 have hW':=hW
 obtain⟨p,q,hA0,hV,rfl,hfz,hnd⟩:=hW
 have hA:DataW.TrodAll enc Tryz.prog W 0 (fun _=>true) true [dF,gE,zL] args.toList ds p:=hA0
 obtain⟨v0,v1,v2,d0,d1,d2,p0,p1,p2,rfl,rfl,rfl,h0,h1,h2⟩:=trodAll_three hA
 obtain⟨rfl,rfl⟩:=trodVars_none hV
 obtain⟨w0,t0,a0,hd0⟩:=aNP h0 (hval 0 dF v0 rfl rfl)
 obtain⟨w1,l1,a1,hl1,hn1⟩:=aJ9 h1 (hval 1 gE v1 rfl rfl)
 obtain⟨b2,hb2,a2⟩:=aNQ h2 (hval 2 zL v2 rfl rfl)
 have hsay:aQX Tryz.prog W 6 [.agg w0.toArray,w1,.int .u16 (b2:Int)]:=aBW Fr.e hd0 hl1 hn1 hb2 fun _ _=>rfl
 refine (aJv okZ okN okM (args:=#[v0,v1,v2]) (.cons a0 (.cons a1 (.cons a2 .nil))) hsay).mono fun e W' ⟨he,hb⟩=>?_
 subst he
 exact⟨_,rfl,aMt (tb:=aEq) aPv (by kernel_rfl) (by kernel_rfl) (by kernel_rfl) rfl hW' hb rfl⟩
end V
theorem scanSteps_holds:Rows.ScanStepsSaid :=
 OpenClaim.holds_of_wide 6 Tryz.f6 rfl rfl rfl rfl rfl rfl rfl ⟨rfl,rfl,rfl,rfl,rfl⟩ rfl rfl rfl rfl rfl (by kernel_rfl) (by kernel_rfl) (by kernel_rfl)
  (of_decide_eq_true (by kernel_rfl)) (by unfold Func.isWrapper; rw[if_neg (of_decide_eq_false (by kernel_rfl))]; exact⟨rfl,rfl⟩)
  (fun os started H enc _=>V.aCN os started H enc)
end Go.Proofs.YtcaccnneblghgaaGreat