/- Texts laid one behind the other: SW, YA, S1, S3, S4, S5, GT, S2, S6, S7, S8, S9, T0, T2, T3, TD, K1, K2, K3, K4, K5, K6, K7, K8, K9, KA, KB, KC, KD, KE, SS, G2, T4, G3.
   No condition. -/
import Derived.KernelRfl
import Derived.Test.YtcaccnneblghgaaGreatQ55
set_option linter.unusedVariables false
set_option linter.unusedSimpArgs false
namespace Go.Proofs.YtcaccnneblghgaaGreat
namespace V
attribute [local irreducible] aB ifP aR cT eQ exP cO
section
variable {ro:Ro}{h:T Obj}{nx:Nat}{K:KV}
set_option maxRecDepth 16000 in
set_option maxHeartbeats 4000000 in
theorem aFL {x:List Value}{T:TabD} (hf:Fr h nx) (hd:aCi ro h x T) (hK:∀ nx',nx≤nx'→K (.bool (fQ T)) h nx'):aN Tryz.prog ro uE [.agg x.toArray] h nx K:=by
 obtain⟨cv,kv,tv,ev,rfl,q1,q2,q3,q4,q5,q6,q7,q8⟩:=id hd
 have q5:T.conds.length≤9223372036854775807:=q5
 have q6:T.kinds.length≤9223372036854775807:=q6
 have q7:T.to.length≤9223372036854775807:=q7
 have q8:T.entries.length≤9223372036854775807:=q8
 apply aEU
 unfold aCb
 refine eJ hf (Nat.le_refl _) fun h1 hs1 hf1 g1 _=>?_
 have g1:h1.get nx=some (.cells [cv,kv,tv,ev].toArray dI):=g1
 have l0:=aZ (ro:=ro) (z:=0) g1 (show [cv,kv,tv,ev][0]?=some cv from rfl)
 have l1:=aZ (ro:=ro) (z:=0) g1 (show [cv,kv,tv,ev][1]?=some kv from rfl)
 have l2:=aZ (ro:=ro) (z:=0) g1 (show [cv,kv,tv,ev][2]?=some tv from rfl)
 have l3:=aZ (ro:=ro) (z:=0) g1 (show [cv,kv,tv,ev][3]?=some ev from rfl)
 have q1':=q1.sub hs1 fun _ _ h=>h
 have q2':=q2.sub hs1 fun _ _ h=>h
 have q3':=q3.sub hs1
 have q4':=q4.sub hs1 (uP.sub hs1)
 have hd1:=hd.sub hs1
 have clen:=q1'.len
 have klen:=q2'.len
 have tlen:=q3'.len
 rw[eP] at tlen
 have elen:=q4'.len
 have hno:fQ T=false→∀ n',nx≤n'→∃ h9,Sub h9 h1∧K (.bool false) h9 n':=fun hz n' hn=>⟨h,hs1,by rw[← hz]; exact hK _ hn⟩
 by_cases c1:1≤T.conds.length
 case neg =>
  (repeat(first|refine aA (by simp (disch:=first|omega|exact nnN _|assumption) only [BB,B2,↓reduceIte,Nat.reduceLeDiff,Nat.reduceAdd,CC,l0,clen]<;>rfl) ?_|apply aD|apply aE|with_reducible first|apply aG|apply aF|apply aK|apply aH|apply aJ|apply aI|apply aL|apply aC))
  exact hno (by unfold fQ; rw[decide_eq_false c1]; rfl) _ (by omega)
 by_cases c2:T.conds.length≤8
 case neg =>
  (repeat(first|refine aA (by simp (disch:=first|omega|exact nnN _|assumption) only [BB,B2,↓reduceIte,Nat.reduceLeDiff,Nat.reduceAdd,CC,l0,clen]<;>rfl) ?_|apply aD|apply aE|with_reducible first|apply aG|apply aF|apply aK|apply aH|apply aJ|apply aI|apply aL|apply aC))
  exact hno (by unfold fQ; rw[decide_eq_true c1,decide_eq_false c2]; rfl) _ (by omega)
 have hix0:=q1'.ix .i64 (i:=0) (by omega)
 have hz0:((0:Nat):Int)=0:=rfl
 rw[hz0] at hix0
 obtain⟨hld0,_⟩:=zK.load q1' (i:=0) (by omega)
 have hsb:=y6 T.conds[0] yZ
 have hhd:T.conds.head?=some T.conds[0]:=by rw[List.head?_eq_getElem?,List.getElem?_eq_getElem (by omega)]
 rw[rP] at hsb
 by_cases c3:T.conds[0]=yZ
 case neg =>
  have c3':=c3
  rw[rP] at c3'
  rw[decide_eq_false c3',Bool.not_false] at hsb
  (repeat(first|refine aA (by simp (disch:=first|omega|exact nnN _|assumption) only [BB,B2,↓reduceIte,Nat.reduceLeDiff,Nat.reduceAdd,CC,l0,clen,hix0,hld0,hsb]<;>rfl) ?_|apply aD|apply aE|with_reducible first|apply aG|apply aF|apply aK|apply aH|apply aJ|apply aI|apply aL|apply aC))
  exact hno (by unfold fQ; rw[decide_eq_true c1,decide_eq_true c2,hhd,decide_eq_false (fun e=>c3 (Option.some.inj e))]; rfl) _ (by omega)
 have c3':=c3
 rw[rP] at c3'
 rw[decide_eq_true c3',Bool.not_true] at hsb
 have hr3:decide (T.conds.head?=some yZ)=true:=decide_eq_true (by rw[hhd,c3])
 by_cases c4:T.kinds.length≤64
 case neg =>
  (repeat(first|refine aA (by simp (disch:=first|omega|exact nnN _|assumption) only [BB,B2,↓reduceIte,Nat.reduceLeDiff,Nat.reduceAdd,CC,l0,l1,clen,klen,hix0,hld0,hsb]<;>rfl) ?_|apply aD|apply aE|with_reducible first|apply aG|apply aF|apply aK|apply aH|apply aJ|apply aI|apply aL|apply aC))
  exact hno (by unfold fQ; rw[decide_eq_true c1,decide_eq_true c2,hr3,decide_eq_false c4]; rfl) _ (by omega)
 by_cases c5:T.to.length=T.kinds.length
 case neg =>
  (repeat(first|refine aA (by simp (disch:=first|omega|exact nnN _|assumption) only [BB,B2,↓reduceIte,Nat.reduceLeDiff,Nat.reduceAdd,CC,l0,l1,l2,clen,klen,tlen,hix0,hld0,hsb]<;>rfl) ?_|apply aD|apply aE|with_reducible first|apply aG|apply aF|apply aK|apply aH|apply aJ|apply aI|apply aL|apply aC))
  exact hno (by unfold fQ; rw[decide_eq_true c1,decide_eq_true c2,hr3,decide_eq_true c4,decide_eq_false c5]; rfl) _ (by omega)
 by_cases c6:T.entries.length=2*T.conds.length
 case neg =>
  (repeat(first|refine aA (by simp (disch:=first|omega|exact nnN _|assumption) only [BB,B2,↓reduceIte,Nat.reduceLeDiff,Nat.reduceAdd,CC,l0,l1,l2,l3,clen,klen,tlen,elen,hix0,hld0,hsb]<;>rfl) ?_|apply aD|apply aE|with_reducible first|apply aG|apply aF|apply aK|apply aH|apply aJ|apply aI|apply aL|apply aC))
  exact hno (by unfold fQ; rw[decide_eq_true c1,decide_eq_true c2,hr3,decide_eq_true c4,decide_eq_true c5,decide_eq_false c6]; rfl) _ (by omega)
 have hrt:fQ T=(wT [] T.conds&&((List.zip T.kinds T.to).all (fun x=>jS T.conds.length x.1 x.2)&&T.entries.all (lJ T.kinds.length))):=by
  unfold fQ
  rw[decide_eq_true c1,decide_eq_true c2,hr3,decide_eq_true c4,decide_eq_true c5,decide_eq_true c6]; rfl
 (repeat(first|refine aA (by simp (disch:=first|omega|exact nnN _|assumption) only [BB,B2,↓reduceIte,Nat.reduceLeDiff,Nat.reduceAdd,CC,l0,l1,l2,l3,clen,klen,tlen,elen,hix0,hld0,hsb]<;>rfl) ?_|apply aD|apply aE|with_reducible first|apply aG|apply aF|apply aK|apply aH|apply aJ|apply aI|apply aL|apply aC))
 refine bE (fun j e h' nx'=>∃ (k:Nat),k+j=T.conds.length∧nx+1≤nx'∧h'=h1∧e 1=ptr nx∧e 3=.int .i64 k∧wT [] T.conds=wT (T.conds.take k) (T.conds.drop k)) ?_ (n:=T.conds.length)
  ⟨0,by omega,by omega,rfl,rfl,rfl,rfl⟩
 rintro j e h' nx' ⟨k,hj,hnx,rfl,e1,e3,hr⟩ Q' hq hx
 unfold yN
 rw[e1,e3]
 (repeat(first|refine aA (by simp (disch:=first|omega|exact nnN _|assumption) only [BB,B2,↓reduceIte,Nat.reduceLeDiff,Nat.reduceAdd,CC,l0,clen]<;>rfl) ?_|apply aD|apply aE|with_reducible first|apply aG|apply aF|apply aK|apply aH|apply aJ|apply aI|apply aL|apply aC))
 refine cV (fun hk=>?_) (fun hk=>?_)
 ·have hk:k < T.conds.length:=by omega
  have hix:=q1'.ix .i64 hk
  obtain⟨hld,hsz⟩:=zK.load q1' hk
  rw[bX hk,aEA] at hr
  have htk:T.conds.take (k+1)=T.conds.take k++[T.conds[k]]:=List.take_succ_eq_append_getElem hk
  rw[← htk] at hr
  generalize hsk:T.conds[k]=s at hr hld hsz
  have hsz:s.size≤9223372036854775807:=hsz
  (repeat(first|refine aA (by simp (disch:=first|omega|exact nnN _|assumption) only [BB,B2,↓reduceIte,Nat.reduceLeDiff,Nat.reduceAdd,CC,l0,hix,hld]<;>rfl) ?_|apply aD|apply aE|with_reducible first|apply aG|apply aF|apply aK|apply aH|apply aJ|apply aI|apply aL|apply aC))
  refine aBX hsz fun n2 hn2=>?_
  cases hnm:kB s with
  | false =>
   rw[hnm] at hr
   (repeat(first|refine zzB ?_|apply aD|apply aE|with_reducible first|apply aG|apply aF|apply aK|apply aH|apply aJ|apply aI|apply aL|apply aC))
   refine hx _ _ _ _ (fun e=>by cases e) (eS ?_)
   exact hno (by rw[hrt,hr]; rfl) _ (by omega)
  | true =>
   rw[hnm,Bool.true_and] at hr
   (repeat(first|refine zzB ?_|apply aD|apply aE|with_reducible first|apply aG|apply aF|apply aK|apply aH|apply aJ|apply aI|apply aL|apply aC))
   generalize hBq:(T.conds.take k).any (fun t=>decide (s=t))=Bq at hr
   refine bE (fun j3 e9 h3 nx3=>∃ (m:Nat),m+j3=k∧nx+1≤nx3∧h3=h'∧e9 1=ptr nx∧e9 3=.int .i64 k∧e9 4=.int .i64 m∧((T.conds.take k).drop m).any (fun t=>decide (s=t))=Bq) ?_ (n:=k)
    ⟨0,by omega,by omega,rfl,e1,e3,rfl,hBq⟩
   rintro j3 e9 h3 nx3 ⟨m,hj3,hnx3,rfl,f1,f3,f4,hr3⟩ Q3 hq3 hx3
   unfold yO
   rw[f1,f3,f4]
   refine cV (fun hm=>?_) (fun hm=>?_)
   ·have hm:m < k:=by omega
    have hmc:m < T.conds.length:=by omega
    have hixm:=q1'.ix .i64 hmc
    obtain⟨hldm,_⟩:=zK.load q1' hmc
    have hmt:m < (T.conds.take k).length:=by rw[List.length_take]; omega
    rw[bX hmt,List.any_cons,List.getElem_take] at hr3
    generalize T.conds[m]=t at hr3 hldm
    have hse:=aIp t s
    by_cases hts:s=t
    ·rw[decide_eq_true hts,Bool.true_or] at hr3
     rw[decide_eq_true hts.symm] at hse
     (repeat(first|refine aA (by simp (disch:=first|omega|exact nnN _|assumption) only [BB,B2,↓reduceIte,Nat.reduceLeDiff,Nat.reduceAdd,CC,l0,hix,hld,hixm,hldm,hse]<;>rfl) ?_|apply aD|apply aE|with_reducible first|apply aG|apply aF|apply aK|apply aH|apply aJ|apply aI|apply aL|apply aC))
     refine hx3 _ _ _ _ (fun e=>by cases e) (eS ?_)
     refine hx _ _ _ _ (fun e=>by cases e) (eS ?_)
     exact hno (by rw[hrt,hr,← hr3]; rfl) _ (by omega)
    ·rw[decide_eq_false hts,Bool.false_or] at hr3
     rw[decide_eq_false (fun e=>hts e.symm)] at hse
     (repeat(first|refine aA (by simp (disch:=first|omega|exact nnN _|assumption) only [BB,B2,↓reduceIte,Nat.reduceLeDiff,Nat.reduceAdd,CC,l0,hix,hld,hixm,hldm,hse]<;>rfl) ?_|apply aD|apply aE|with_reducible first|apply aG|apply aF|apply aK|apply aH|apply aJ|apply aI|apply aL|apply aC))
     exact hq3 (j3 - 1) _ _ _ _ (by omega) ⟨m+1,by omega,by omega,rfl,f1,f3,rfl,hr3⟩ (Sub.refl _)
   ·have hb:Bq=false:=by rw[← hr3,List.drop_of_length_le (by rw[List.length_take]; omega)]; rfl
    rw[hb,Bool.not_false,Bool.true_and] at hr
    (repeat(first|refine zzB ?_|apply aD|apply aE|with_reducible first|apply aG|apply aF|apply aK|apply aH|apply aJ|apply aI|apply aL|apply aC))
    refine hx3 _ _ _ _ (fun e=>by cases e) (eD (cQ ?_))
    have hj4:∀ (e9:Env) n9,nx+1≤n9→e9 1=ptr nx→e9 3=.int .i64 k→lR ro Q' e9 h3 n9:=by
     intro e9 n9 hn9 f1 f3
     unfold lR
     rw[f3]
     (repeat(first|refine zzB ?_|apply aD|apply aE|with_reducible first|apply aG|apply aF|apply aK|apply aH|apply aJ|apply aI|apply aL|apply aC))
     exact hq (j - 1) _ _ _ _ (by omega) ⟨k+1,by omega,by omega,rfl,f1,rfl,hr⟩ (Sub.refl _)
    exact hj4 _ _ (by omega) f1 f3
 ·have hr1:wT [] T.conds=true:=by rw[hr,List.drop_of_length_le (by omega)]; rfl
  rw[hr1,Bool.true_and] at hrt
  (repeat(first|refine zzB ?_|apply aD|apply aE|with_reducible first|apply aG|apply aF|apply aK|apply aH|apply aJ|apply aI|apply aL|apply aC))
  refine hx _ _ _ _ (fun e=>by cases e) (eD (cQ ?_))
  have hj1:∀ (ev1:Env) n',nx+1≤n'→ev1 1=ptr nx→oJ ro K ev1 h' n':=by
   intro ev1 n' hn f1
   unfold oJ
   refine bE (fun j e h2 nx2=>∃ (k:Nat),k+j=T.kinds.length∧nx+1≤nx2∧h2=h'∧e 1=ptr nx∧e 5=.int .i64 k∧(List.zip T.kinds T.to).all (fun x=>jS T.conds.length x.1 x.2)=((List.zip T.kinds T.to).drop k).all (fun x=>jS T.conds.length x.1 x.2)) ?_ (n:=T.kinds.length)
    ⟨0,by omega,by omega,rfl,f1,rfl,rfl⟩
   rintro j2 e2 h2 nx2 ⟨k2,hj2,hnx2,rfl,f1,f5,hr2⟩ Q2 hq2 hx2
   unfold yM
   rw[f1,f5]
   (repeat(first|refine aA (by simp (disch:=first|omega|exact nnN _|assumption) only [BB,B2,↓reduceIte,Nat.reduceLeDiff,Nat.reduceAdd,CC,l1,klen]<;>rfl) ?_|apply aD|apply aE|with_reducible first|apply aG|apply aF|apply aK|apply aH|apply aJ|apply aI|apply aL|apply aC))
   refine cV (fun hk2=>?_) (fun hk2=>?_)
   ·have hk2:k2 < T.kinds.length:=by omega
    have hkt:k2 < T.to.length:=by omega
    have hix:=q2'.ix .i64 hk2
    obtain⟨hld,hsz⟩:=zK.load q2' hk2
    have tix:=q3'.ix .i64 (i:=k2) (by rw[eP]; exact hkt)
    have tld:=q3'.load1 (j9 (l:=T.to) (i:=k2) hkt)
    have hzl:k2 < (List.zip T.kinds T.to).length:=by rw[List.length_zip]; omega
    rw[bX hzl,List.all_cons,List.getElem_zip] at hr2
    generalize T.kinds[k2]=s at hr2 hld hsz
    generalize T.to[k2]=t at hr2 tld
    have hsz:s.size≤9223372036854775807:=hsz
    have hse:=y6 s .empty
    rw[rN] at hse
    have hbad:jS T.conds.length s t=false→∀ n',nx≤n'→∃ h9,Sub h9 h2∧K (.bool false) h9 n':=fun hz n' hn=>hno (by rw[hrt,hr2,hz]; rfl) n' hn
    have hgo:jS T.conds.length s t=true→∀ (e9:Env) n9,nx+1≤n9→e9 1=ptr nx→e9 5=.int .i64 ((k2:Int)+1)→Q2 .normal e9 h2 n9:=by
     intro hz e9 n9 hn9 u1 u72
     rw[hz,Bool.true_and] at hr2
     exact hq2 (j2 - 1) _ _ _ _ (by omega) ⟨k2+1,by omega,by omega,rfl,u1,u72,hr2⟩ (Sub.refl _)
    by_cases hs0:s=.empty
    ·have hs0':=hs0
     rw[rN] at hs0'
     rw[decide_eq_true hs0',Bool.not_true] at hse
     (repeat(first|refine aA (by simp (disch:=first|omega|exact nnN _|assumption) only [BB,B2,↓reduceIte,Nat.reduceLeDiff,Nat.reduceAdd,CC,l1,hix,hld,hse]<;>rfl) ?_|apply aD|apply aE|with_reducible first|apply aG|apply aF|apply aK|apply aH|apply aJ|apply aI|apply aL|apply aC))
     by_cases d1:t < -1
     ·(repeat(first|refine aA (by simp (disch:=first|omega|exact nnN _|assumption) only [BB,B2,↓reduceIte,Nat.reduceLeDiff,Nat.reduceAdd,CC,l2,tix,tld]<;>rfl) ?_|apply aD|apply aE|with_reducible first|apply aG|apply aF|apply aK|apply aH|apply aJ|apply aI|apply aL|apply aC))
      refine hx2 _ _ _ _ (fun e=>by cases e) (eS ?_)
      exact hbad (by unfold jS; rw[decide_eq_false (show ¬-1≤t by omega)]; simp) _ (by omega)
     ·by_cases d2:(T.conds.length:Int)≤t
      ·(repeat(first|refine aA (by simp (disch:=first|omega|exact nnN _|assumption) only [BB,B2,↓reduceIte,Nat.reduceLeDiff,Nat.reduceAdd,CC,l2,tix,tld,l0,clen]<;>rfl) ?_|apply aD|apply aE|with_reducible first|apply aG|apply aF|apply aK|apply aH|apply aJ|apply aI|apply aL|apply aC))
       refine hx2 _ _ _ _ (fun e=>by cases e) (eS ?_)
       exact hbad (by unfold jS; rw[decide_eq_false (show ¬t < (T.conds.length:Int) by omega)]; simp) _ (by omega)
      ·(repeat(first|refine aA (by simp (disch:=first|omega|exact nnN _|assumption) only [BB,B2,↓reduceIte,Nat.reduceLeDiff,Nat.reduceAdd,CC,l2,tix,tld,l0,clen]<;>rfl) ?_|apply aD|apply aE|with_reducible first|apply aG|apply aF|apply aK|apply aH|apply aJ|apply aI|apply aL|apply aC))
       exact hgo (by unfold jS; rw[decide_eq_true hs0,decide_eq_true (show -1≤t by omega),decide_eq_true (show t < (T.conds.length:Int) by omega)]; simp) _ _ (by omega) f1 rfl
    ·have hs0':=hs0
     rw[rN] at hs0'
     rw[decide_eq_false hs0',Bool.not_false] at hse
     (repeat(first|refine aA (by simp (disch:=first|omega|exact nnN _|assumption) only [BB,B2,↓reduceIte,Nat.reduceLeDiff,Nat.reduceAdd,CC,l1,hix,hld,hse]<;>rfl) ?_|apply aD|apply aE|with_reducible first|apply aG|apply aF|apply aK|apply aH|apply aJ|apply aI|apply aL|apply aC))
     refine aBX hsz fun n2 hn2=>?_
     cases hnm:kB s with
     | false =>
      (repeat(first|refine zzB ?_|apply aD|apply aE|with_reducible first|apply aG|apply aF|apply aK|apply aH|apply aJ|apply aI|apply aL|apply aC))
      refine hx2 _ _ _ _ (fun e=>by cases e) (eS ?_)
      exact hbad (by unfold jS; rw[decide_eq_false hs0,hnm]; rfl) _ (by omega)
     | true =>
      (repeat(first|refine zzB ?_|apply aD|apply aE|with_reducible first|apply aG|apply aF|apply aK|apply aH|apply aJ|apply aI|apply aL|apply aC))
      by_cases d1:t < -1
      ·(repeat(first|refine aA (by simp (disch:=first|omega|exact nnN _|assumption) only [BB,B2,↓reduceIte,Nat.reduceLeDiff,Nat.reduceAdd,CC,l2,tix,tld]<;>rfl) ?_|apply aD|apply aE|with_reducible first|apply aG|apply aF|apply aK|apply aH|apply aJ|apply aI|apply aL|apply aC))
       refine hx2 _ _ _ _ (fun e=>by cases e) (eS ?_)
       exact hbad (by unfold jS; rw[decide_eq_false (show ¬-1≤t by omega)]; simp) _ (by omega)
      ·by_cases d2:(T.conds.length:Int)≤t
       ·(repeat(first|refine aA (by simp (disch:=first|omega|exact nnN _|assumption) only [BB,B2,↓reduceIte,Nat.reduceLeDiff,Nat.reduceAdd,CC,l2,tix,tld,l0,clen]<;>rfl) ?_|apply aD|apply aE|with_reducible first|apply aG|apply aF|apply aK|apply aH|apply aJ|apply aI|apply aL|apply aC))
        refine hx2 _ _ _ _ (fun e=>by cases e) (eS ?_)
        exact hbad (by unfold jS; rw[decide_eq_false (show ¬t < (T.conds.length:Int) by omega)]; simp) _ (by omega)
       ·(repeat(first|refine aA (by simp (disch:=first|omega|exact nnN _|assumption) only [BB,B2,↓reduceIte,Nat.reduceLeDiff,Nat.reduceAdd,CC,l2,tix,tld,l0,clen]<;>rfl) ?_|apply aD|apply aE|with_reducible first|apply aG|apply aF|apply aK|apply aH|apply aJ|apply aI|apply aL|apply aC))
        exact hgo (by unfold jS; rw[hnm,decide_eq_true (show -1≤t by omega),decide_eq_true (show t < (T.conds.length:Int) by omega)]; simp) _ _ (by omega) f1 rfl
   ·have hall:(List.zip T.kinds T.to).all (fun x=>jS T.conds.length x.1 x.2)=true:=by rw[hr2,List.drop_of_length_le (by rw[List.length_zip]; omega)]; rfl
    rw[hall,Bool.true_and] at hrt
    (repeat(first|refine zzB ?_|apply aD|apply aE|with_reducible first|apply aG|apply aF|apply aK|apply aH|apply aJ|apply aI|apply aL|apply aC))
    refine hx2 _ _ _ _ (fun e=>by cases e) (eD (cQ ?_))
    have hj2:∀ (ev2:Env) n',nx+1≤n'→ev2 1=ptr nx→oK ro K ev2 h2 n':=by
     intro ev2 n' hn f1
     unfold oK
     refine bE (fun j e h4 nx4=>∃ (k:Nat),k+j=T.entries.length∧nx+1≤nx4∧h4=h2∧e 1=ptr nx∧e 6=.int .i64 k∧T.entries.all (lJ T.kinds.length)=(T.entries.drop k).all (lJ T.kinds.length)) ?_ (n:=T.entries.length)
      ⟨0,by omega,by omega,rfl,f1,rfl,rfl⟩
     rintro j4 e4 h4 nx4 ⟨k4,hj4,hnx4,rfl,f1,f6,hr4⟩ Q4 hq4 hx4
     unfold yL
     rw[f1,f6]
     (repeat(first|refine zzB ?_|apply aD|apply aE|with_reducible first|apply aG|apply aF|apply aK|apply aH|apply aJ|apply aI|apply aL|apply aC))
     refine aA l3 (aA elen ?_)
     refine cV (fun hk4=>?_) (fun hk4=>?_)
     ·have hk4:k4 < T.entries.length:=by omega
      have eix:=q4'.ix .i64 hk4
      obtain⟨y,hy1,hy2,hy3,hy4,hy5⟩:=q4'.at hk4
      rw[bX hk4,List.all_cons] at hr4
      generalize T.entries[k4]=ee at hr4 hy1
      (repeat(first|refine aA (by simp (disch:=first|omega|exact nnN _|assumption) only [BB,B2,↓reduceIte,Nat.reduceLeDiff,Nat.reduceAdd,CC,l3,eix,hy3,l1,klen]<;>rfl) ?_|apply aD|apply aE|with_reducible first|apply aG|apply aF|apply aK|apply aH|apply aJ|apply aI|apply aL|apply aC))
      refine aGs (by omega) (hf1.mono (by omega)) hy1 fun n5 hn5=>?_
      cases hft:lJ T.kinds.length ee with
      | false =>
       rw[hft] at hr4
       (repeat(first|refine zzB ?_|apply aD|apply aE|with_reducible first|apply aG|apply aF|apply aK|apply aH|apply aJ|apply aI|apply aL|apply aC))
       refine hx4 _ _ _ _ (fun e=>by cases e) (eS ?_)
       exact hno (by rw[hrt,hr4]; rfl) _ (by omega)
      | true =>
       rw[hft,Bool.true_and] at hr4
       (repeat(first|refine zzB ?_|apply aD|apply aE|with_reducible first|apply aG|apply aF|apply aK|apply aH|apply aJ|apply aI|apply aL|apply aC))
       exact hq4 (j4 - 1) _ _ _ _ (by omega) ⟨k4+1,by omega,by omega,rfl,f1,rfl,hr4⟩ (Sub.refl _)
     ·have hb:fQ T=true:=by rw[hrt,hr4,List.drop_of_length_le (by omega)]; rfl
      (repeat(first|refine zzB ?_|apply aD|apply aE|with_reducible first|apply aG|apply aF|apply aK|apply aH|apply aJ|apply aI|apply aL|apply aC))
      refine hx4 _ _ _ _ (fun e=>by cases e) (eD (cQ ?_))
      have hj3:∀ (e9:Env) n9,nx≤n9→oL ro K e9 h4 n9:=by
       intro e9 n9 hn9
       unfold oL
       refine⟨h,hs1,?_⟩
       rw[← hb]; exact hK _ (by omega)
      exact hj3 _ _ (by omega)
    exact hj2 _ _ (by omega) f1
  exact hj1 _ _ (by omega) e1
end
end V
end Go.Proofs.YtcaccnneblghgaaGreat
namespace Go.Proofs.YtcaccnneblghgaaGreat
namespace V
attribute [local irreducible] aB ifP aR cT eQ exP cO
def NI (RR:RgP) (tm tp te:TypeId) (hC:T Obj) (nC p:Nat) (c:List Nat) (many:Int) (cv sv:Value) (C:List (Int × Int)) (k:Nat) (h:T Obj) (nx:Nat) (ps:List (Nat × Nat)) (rv:Value):Prop :=
 h.get p=some (.cells (eC c many cv sv 0 rv 0).toArray tm)∧cW h rv 1 te (mW ps) nC∧ps.length=k∧RsX RR h ps (C.take k) (List.replicate k noR)∧Dst ps∧(∀ q∈j5 ps,nC≤q)∧Sub hC h∧Fr h nx∧Fr hC nC∧nC≤p∧nC≤nx
section
variable {RR:RgP}{tm tp ta te:TypeId}{ro:Ro}{hC h h':T Obj}{nC p nx n1 n2 k:Nat}{c:List Nat}{many:Int}{cv sv rv:Value}{C:List (Int × Int)}{ps:List (Nat × Nat)}
theorem NI.mono {n':Nat} (hi:NI RR tm tp te hC nC p c many cv sv C k h nx ps rv) (hn:nx≤n'):NI RR tm tp te hC nC p c many cv sv C k h n' ps rv:=by
 obtain⟨g1,g2,g3,g4,g5,g6,g7,g8,g9,g10,g11⟩:=hi
 exact⟨g1,g2,g3,g4,g5,g6,g7,g8.mono hn,g9,g10,by omega⟩
theorem NI.sub {n':Nat} (hk:RgOk RR tp ta) (hi:NI RR tm tp te hC nC p c many cv sv C k h nx ps rv) (hs:Sub h h') (hf:Fr h' n') (hn:nx≤n'):NI RR tm tp te hC nC p c many cv sv C k h' n' ps rv:=by
 obtain⟨g1,g2,g3,g4,g5,g6,g7,g8,g9,g10,g11⟩:=hi
 exact⟨hs _ _ g1,g2.keepS hs,g3,g4.sub hk hs,g5,g6,g7.trans hs,hf,g9,g10,by omega⟩
theorem NI.step {q:Nat × Nat}{cc:Int × Int}{rv2:Value}{lo:Nat} (hk:RgOk RR tp ta) (e1:tp≠te) (e2:ta≠te) (e3:tm≠tp) (e4:tm≠ta) (e5:tm≠te) (hi:NI RR tm tp te hC nC p c many cv sv C k h nx ps rv) (hcl:c.length=256) (hc:C[k]?=some cc) (hR:RR h q.1 q.2 cc.2.toNat [] 0) (hq1:∀ r∈ps,r.1 < q.1∧r.2 < q.2) (hq2:nC≤q.1∧nC≤q.2) (hn1:n1≠p∧(∀ r∈ps++[q],r.1≠n1∧r.2≠n1)∧nC≤n1)
  (ho:cW h' rv2 1 te (mW ps++[[ptr q.1]]) nC) (hsb:iK rv2=some n2) (hn2:nx≤n2) (hg:∀ k o,h.get k=some o→k≠n1→iK rv≠some k→h'.get k=some o) (hf:Fr h' (n2+1)) :
  NI RR tm tp te hC nC p c many cv sv C (k+1) (h'.upd p (some (.cells (eC c many cv sv 0 rv2 0).toArray tm))) (n2+1) (ps++[q]) rv2:=by
 obtain⟨g1,g2,g3,g4,g5,g6,g7,g8,g9,g10,g11⟩:=hi
 have hp:=g8.lt' g1
 have hr:=g4.snoc hR (r:=noR)
 have hgk:∀ {k:Nat} {cs:Array Value} {e:TypeId},h.get k=some (.cells cs e)→e≠te→k≠n1→h'.get k=some (.cells cs e):=fun hk9 he hne=>hg _ _ hk9 hne (g2.ne hk9 he)
 have hgp:h'.get p=some (.cells (eC c many cv sv 0 rv 0).toArray tm):=hgk g1 e5 (Ne.symm hn1.1)
 have hty:=hr.ty hk
 refine⟨T.get_upd_same _ _ _,?_,by simp[g3],?_,g5.snoc fun r hr=>?_,fun k hk=>?_,fun k o hk=>?_,hf.upd (Nat.le_refl _) (by omega),g9,g10,by omega⟩
 ·rw[aJ4]
  exact ho.keepK (ids:=[p]) (fun k o hk hn=>by rw[T.get_upd_ne _ _ (by simpa using hn)]; exact hk) fun id hid hm=>by rw[hsb] at hid; cases hid; simp at hm; omega
 ·rw[List.take_succ_eq_append_getElem (List.getElem?_eq_some_iff.1 hc).1,(List.getElem?_eq_some_iff.1 hc).2,List.replicate_succ']
  refine hr.keep hk fun r hr9=>?_
  obtain⟨⟨c1,t1⟩,c2,t2⟩:=hty r hr9
  rw[T.get_upd_ne _ _ (fun e=>by rw[e,g1] at t1; simp only[Option.some.injEq,Obj.cells.injEq] at t1; exact e3 t1.2.1),T.get_upd_ne _ _ (fun e=>by rw[e,g1] at t2; simp only[Option.some.injEq,Obj.cells.injEq] at t2; exact e4 t2.2.1),hgk t1 e1 (hn1.2.1 r hr9).1,hgk t2 e2 (hn1.2.1 r hr9).2,t1,t2]
  exact⟨rfl,rfl⟩
 ·have:=hq1 r hr; omega
 ·obtain⟨r,hr,h9⟩:=iS.1 hk
  rcases List.mem_append.1 hr with hr | hr
  ·exact g6 k (iS.2 ⟨r,hr,h9⟩)
  ·simp at hr; subst hr; omega
 ·have hlt:=g9.lt' hk
  have h9:=g7 k o hk
  rw[T.get_upd_ne _ _ (by omega)]
  refine hg k o h9 (by have:=hn1.2.2; omega) fun e=>?_
  have:=(g2.blk e).1
  omega
theorem NI.fin {d:AutoD} (hk:RgOk RR tp ta) (e1:tp≠te) (e2:ta≠te) (e5:tm≠te) {X0:List Nat} (hX0:∀ k∈X0,k < nC) (hi:NI RR tm tp te hC nC p d.c d.many cv sv d.counts d.counts.length h nx ps rv) (hA:qN ro (del hC X0) (eA d.c d.many cv sv) d):MX RR tm ro h (X0++(p::j5 ps)) p ps d (aDy d):=by
 obtain⟨g1,g2,g3,g4,g5,g6,g7,g8,g9,g10,g11⟩:=hi
 have hX:∀ k∈p::j5 ps,nC≤k:=fun k hk=>by
  rcases List.mem_cons.1 hk with rfl | hk
  ·exact g10
  ·exact g6 k hk
 have hrs:(aDy d).rs=List.replicate d.counts.length noR:=List.map_const' ..
 rw[List.take_length] at g4
 have hsub:Sub (del hC X0) (del h (X0++(p::j5 ps))):=fun k o hk=>by
  rw[jU] at hk
  split at hk
  ·cases hk
  ·rename_i hn
   have:=g9.lt' hk
   exact j7 (g7 k o hk) fun hm=>by
    rcases List.mem_append.1 hm with hm | hm
    ·exact hn hm
    ·have:=hX k hm; omega
 refine⟨cv,sv,rv,g1,hA.sub hsub,(g2.del fun id hid hm=>?_).sl,by rw[hrs]; exact g4,g5,List.mem_append.2 (.inr (List.mem_cons_self ..)),fun k hk=>List.mem_append.2 (.inr (List.mem_cons_of_mem _ hk))⟩
 rcases List.mem_append.1 hm with hm | hm
 ·have:=hX0 id hm; have:=(g2.blk hid).1; omega
 rcases List.mem_cons.1 hm with rfl | hm
 ·exact g2.ne g1 e5 hid
 ·obtain⟨r,hr,h9⟩:=iS.1 hm
  obtain⟨⟨c1,t1⟩,c2,t2⟩:=g4.ty hk r hr
  rcases h9 with rfl | rfl
  ·exact g2.ne t1 e1 hid
  ·exact g2.ne t2 e2 hid
end
section
variable {ro:Ro}{h:T Obj}{nx:Nat}{K:KV}{x:List Value}{d:AutoD}
theorem aJD (ha:fH d=true) {k:Nat} (hk:k < d.counts.length):1≤(d.counts[k]).2.toNat∧(d.counts[k]).2.toNat≤4096∧((d.counts[k]).2.toNat:Int)=(d.counts[k]).2:=by
 have:=(fW ha).2.2.2.2.1 _ (List.getElem_mem hk)
 omega
set_option maxRecDepth 8000 in
set_option maxHeartbeats 1000000 in
theorem aJL {X0:List Nat} (hf:Fr h nx) (hd:qN ro h x d) (hK0:fH d=false→∀ nx',nx≤nx'→K (.tuple #[.pointer none,.int .i64 1]) h nx')
  (hX0:∀ k∈X0,k < nx)
  (hK1:fH d=true→∀ p ps X h' nx',nx≤nx'→Fr h' nx'→Sub h h'→(∀ k∈X,nx≤k∧k < nx')→X=p::j5 ps→MI ro h' (X0++X) p ps (er d) (aDy d)→K (.tuple #[ptr p,.int .i64 0]) h' nx'):aN Tryz.prog ro aA4 [.agg x.toArray] h nx K:=by
 obtain⟨cv,sv,hxe,hc,hclt,hcv,hS,hb1,hb2⟩:=id hd
 have m7:=lF (n:=d.many) (cv:=cv) (sv:=sv) hc
 apply aHd
 unfold aHc
 refine eJ hf (Nat.le_refl _) fun h1 hs1 hf1 g1 _=>?_
 have g1:h1.get nx=some (.cells x.toArray bK):=g1
 have hxl:x.length=259:=by rw[hxe]; exact cS hc
 have LA:=dF (ro:=ro) (z:=0) (n:=259) (l:=x) g1 hxl
 refine aA LA ?_
 refine aAp (hf1.mono (by omega)) (hd.sub hs1) fun n1 hn1=>?_
 cases hok:fH d with
 | false =>
  (repeat(first|refine zzB ?_|apply aD|apply aE|with_reducible first|apply aG|apply aF|apply aK|apply aH|apply aJ|apply aI|apply aL|apply aC))
  exact⟨h,hs1,hK0 hok _ (by omega)⟩
 | true =>
  have hfit:=aP5 hok hc
  have hC512:=(fW hok).2.1
  (repeat(first|refine zzB ?_|apply aD|apply aE|with_reducible first|apply aG|apply aF|apply aK|apply aH|apply aJ|apply aI|apply aL|apply aC))
  refine aA LA ?_
  refine aEv (X0:=X0) (hf1.mono (by omega)) (fun k hk=>by have:=hX0 k hk; omega) (hd.sub hs1) hfit fun cv2 sv2 hC nC hnC hfC hsC hAC=>?_
  refine aA (aIx hc) (aGd hfC (by omega) fun h2 hs2 hf2 g2 _=>?_)
  have g2:h2.get (nC+1)=some (.cells (eC d.c d.many cv2 sv2 0 cX 0).toArray bJ):=g2
  have g12:=hs2 _ _ (hsC _ _ g1)
  have hcv2:=hcv.sub ((hs1.trans hsC).trans hs2) fun _ _ h=>h
  (repeat(first|refine zzB ?_|apply aD|apply aE|with_reducible first|apply aG|apply aF|apply aK|apply aH|apply aJ|apply aI|apply aL|apply aC))
  refine aA (aZ g12 (by rw[hxe]; exact m7)) ?_
  refine aA hcv2.len ?_
  have hNI0:NI RI bJ bM kW hC nC (nC+1) d.c d.many cv2 sv2 d.counts 0 h2 (nC+2) [] cX:=⟨g2,cW.nil,rfl,⟨rfl,rfl,fun i p c r hp=>by simp at hp⟩,Dst.nil,(fun q hq=>by simp[j5] at hq),hs2,hf2,hfC,by omega,by omega⟩
  refine bE (fun j e h' nx'=>∃ (k:Nat) (ps:List (Nat × Nat)) (rv:Value),k+j=d.counts.length∧nC+2≤nx'∧e 4=ptr (nC+1)∧e 17=cv∧e 18=.int .i64 d.counts.length∧e 19=.int .i64 k∧NI RI bJ bM kW hC nC (nC+1) d.c d.many cv2 sv2 d.counts k h' nx' ps rv) ?_ (n:=d.counts.length) ⟨0,[],cX,by omega,by omega,rfl,rfl,rfl,rfl,hNI0.mono (by omega)⟩
  rintro j e h' nx' ⟨k,ps,rv,hj,hnx,e4,e17,e18,e19,hi⟩ Q' hq hx
  have hfh:=hi.2.2.2.2.2.2.2.1
  have hsh:=hi.2.2.2.2.2.2.1
  unfold aCP
  rw[e4,e17,e18,e19]
  refine cV (fun hk=>?_) (fun hk=>?_)
  ·have hk:k < d.counts.length:=by omega
   obtain⟨b1,b2,b3⟩:=aJD hok hk
   have hcvh:=hcv.sub ((hs1.trans hsC).trans hsh) fun _ _ h=>h
   have hix:=hcvh.ix .i64 hk
   obtain⟨y,hy1,hy2,hy3,hy4,hy5⟩:=hcvh.at hk
   have hck:d.counts[k]?=some d.counts[k]:=List.getElem?_eq_getElem _
   generalize d.counts[k]=cc at b1 b2 b3 hy1 hck
   obtain rfl:y=[.int .i64 cc.1,.int .i64 cc.2]:=hy1
   (repeat(first|refine zzB ?_|apply aD|apply aE|with_reducible first|apply aG|apply aF|apply aK|apply aH|apply aJ|apply aI|apply aL|apply aC))
   refine aA hix (aA hy3 ?_)
   refine kA (x:=[.int .i64 cc.1,.int .i64 cc.2]) aHE rfl rfl rfl rfl hfh (by omega) fun h3 hs3 hf3 g3 _=>?_
   (repeat(first|refine aA (by simp (disch:=first|omega|exact nnN _|assumption) only [BB,B2,↓reduceIte,Nat.reduceLeDiff,Nat.reduceAdd,CC,g3]<;>rfl) ?_|apply aD|apply aE|with_reducible first|apply aG|apply aF|apply aK|apply aH|apply aJ|apply aI|apply aL|apply aC))
   rw[← b3]
   refine aJc (hf3.mono (by omega)) b1 b2 fun p' a' h4 n4 hp' ha' hn4 hs4 hf4 hR4=>?_
   refine aA (aGb _ _) (aA (aGc _ _) ?_)
   have hi4:=hi.sub (n':=n4) jR (hs3.trans hs4) hf4 (by omega)
   have m0:=vB (n:=d.many) (cv:=cv2) (sv:=sv2) (cur:=0) (rv:=rv) (steps:=0) hc
   refine aAA rfl ?_
   (repeat(first|refine aA (by simp (disch:=first|omega|exact nnN _|assumption) only [BB,B2,↓reduceIte,Nat.reduceLeDiff,Nat.reduceAdd,CC,bC]<;>rfl) ?_|apply aD|apply aE|with_reducible first|apply aG|apply aF|apply aK|apply aH|apply aJ|apply aI|apply aL|apply aC))
   refine aA (aZ hi4.1 m0) ?_
   obtain⟨i,t1,t2,t3⟩:=aPk
   have hplen:ps.length≤1000000:=by have:=hi.2.2.1; omega
   refine aAX (z:=1) (l:=mW ps) (y:=[ptr p']) (aPT _ _) rfl hi4.2.1 aO7 t1 (by omega) (by omega) aPr rfl rfl (by rw[pB,t3]; unfold big; omega) (by rw[pB]; unfold big; omega) (hf4.mono (by omega)) (by omega) (by omega) (fun e=>by have:=hf4.lt' (hi4.2.1.blk e).2; omega) fun h5 ho5 hk5 hf5=>?_
   generalize hnv:Value.slice (some (own (n4+15) 1)) (mW ps++[[ptr p']]).length (mW ps++[[ptr p']]).length=rv2 at ho5
   have hsb:iK rv2=some (n4+15):=by rw[← hnv]; rfl
   have g5:=hk5 _ _ hi4.1 (by have:=hf4.lt' hi4.1; omega) (hi4.2.1.ne hi4.1 (by decide))
   have hlt4:=hi.2.2.2.1.lt jR hfh
   have hfin:=hi4.step (h':=h5) (q:=(p',a')) (cc:=cc) (rv2:=rv2) (n1:=n4+13) (n2:=n4+15) (lo:=nC) jR (by decide) (by decide) (by decide) (by decide) (by decide) hc hck hR4 (fun r hr=>by have:=hlt4 r hr; show r.1 < p'∧r.2 < a'; omega) (by show nC≤p'∧nC≤a'; omega) ⟨by have:=hf4.lt' hi4.1; omega,fun r hr=>by
    rcases List.mem_append.1 hr with hr | hr
    ·have:=hlt4 r hr; omega
    ·simp at hr; subst hr; have:=jR.p hR4; have:=jR.a hR4; obtain⟨c1,t8⟩:=jR.p hR4; obtain⟨c2,t9⟩:=jR.a hR4; have:=hf4.lt' t8; have:=hf4.lt' t9; show p'≠_∧a'≠_; omega,by omega⟩ ho5 hsb (by omega) hk5 hf5
   dsimp only
   (repeat(first|refine aA (by simp (disch:=first|omega|exact nnN _|assumption) only [BB,B2,↓reduceIte,Nat.reduceLeDiff,Nat.reduceAdd,CC,bC]<;>rfl) ?_|apply aD|apply aE|with_reducible first|apply aG|apply aF|apply aK|apply aH|apply aJ|apply aI|apply aL|apply aC))
   refine aA (dJ g5 (by rw[vC hc]; omega) ho5.ok (by rw[← hnv]; rfl)) ?_
   rw[aG4 hc]
   (repeat(first|refine zzB ?_|apply aD|apply aE|with_reducible first|apply aG|apply aF|apply aK|apply aH|apply aJ|apply aI|apply aL|apply aC))
   exact hq (j - 1) _ _ _ _ (by omega) ⟨k+1,ps++[(p',a')],rv2,by omega,by omega,e4,e17,e18,rfl,hfin.mono (by omega)⟩ (Sub.refl _)
  ·(repeat(first|refine zzB ?_|apply aD|apply aE|with_reducible first|apply aG|apply aF|apply aK|apply aH|apply aJ|apply aI|apply aL|apply aC))
   refine hx _ _ _ _ (fun e=>by cases e) (eD (cQ ?_))
   obtain rfl:k=d.counts.length:=by omega
   have hMX:=NI.fin (ro:=ro) (d:=er d) (X0:=X0) jR (by decide) (by decide) (by decide) (fun k hk=>by have:=hX0 k hk; omega) hi hAC
   have hend:∀ (e':Env) n',e' 4=ptr (nC+1)→nx'≤n'→tK ro K e' h' n':=by
    intro e' n' f4 hn'
    unfold tK
    rw[f4]
    refine⟨h',Sub.refl _,hK1 hok _ ps _ h' _ (by omega) (hfh.mono (by omega)) ((hs1.trans hsC).trans hsh) (fun k hk=>?_) rfl hMX⟩
    have hlt9:=hMX.lt jR hfh
    rcases List.mem_cons.1 hk with rfl | hk
    ·have:=hlt9.1; omega
    ·have:=hi.2.2.2.2.2.1 k hk; have:=hlt9.2 k hk; omega
   exact hend _ _ e4 (by omega)
end
end V
end Go.Proofs.YtcaccnneblghgaaGreat
namespace Go.Proofs.YtcaccnneblghgaaGreat
namespace V
attribute [local irreducible] aB ifP aR cT eQ exP cO
theorem aMa (id:Nat):bR Tryz.prog jQ id 0 []=some (.slice (some (own id 1)) 0 0,some (.cells #[] oU)):=by kernel_rfl
theorem aNY:und Tryz.prog jQ=some (.slice oU):=by kernel_rfl
theorem aO2:∃ i,tin Tryz.prog oU=some i∧i.size=1∧i.bytes=16:=wW (by kernel_rfl)
theorem aOg:zer Tryz.prog oU=some (.string .empty):=by kernel_rfl
theorem aL9:und Tryz.prog iW=some (.slice iL):=by kernel_rfl
theorem aNN:∃ i,tin Tryz.prog iL=some i∧i.size=1∧i.bytes=8:=wW (by kernel_rfl)
theorem aN4:zer Tryz.prog iL=some (.pointer none):=by kernel_rfl
theorem aMb (id p:Nat):bR Tryz.prog iW id 1 [(0,ptr p)]=some (.slice (some (own id 1)) 1 1,some (.cells [ptr p].toArray iL)):=by kernel_rfl
theorem aNV:und Tryz.prog iH=some (.slice cN):=by kernel_rfl
theorem aOZ:∃ i,tin Tryz.prog cN=some i∧i.size=260∧i.bytes=336:=wW (by kernel_rfl)
theorem aKf (o:Option Addr) (l c:Nat):fJ Tryz.prog cN [(1,.slice o l c)]=some (.agg (vO++[Value.slice o l c]).toArray):=by kernel_rfl
theorem aNt (id:Nat) (o:Option Addr) (l c:Nat):bR Tryz.prog iH id 1 [(0,.agg (vO++[Value.slice o l c]).toArray)]=some (.slice (some (own id 260)) 1 1,some (.cells (vO++[Value.slice o l c]).toArray cN)):=by kernel_rfl
theorem aBd:fJ Tryz.prog kH [(2,.int .i64 (-1))]=some (.agg #[.int .i64 0,.int .i64 0,.int .i64 (-1)]):=by kernel_rfl
theorem aIy (m:Int):fJ Tryz.prog aQ [(2,.int .i64 m),(5,.bool true),(7,.agg #[.int .i64 0,.int .i64 0,.int .i64 (-1)])]=some (.agg #[cX,cX,cX,cX,cX,.int .i64 m,cX,.int .i64 0,.bool true,.int .i64 0,.int .i64 0,.int .i64 0,.int .i64 (-1),.int .i64 0,.bool false,.int .i64 0]):=by kernel_rfl
theorem MX.shrink {RR:RgP}{ty:TypeId}{ro:Ro}{h:T Obj}{X X':List Nat}{p:Nat}{ps:List (Nat × Nat)}{d:AutoD}{m:MacD} (hm:MX RR ty ro h X p ps d m) (hX:∀ k∈X',k∈X) (hp:∀ k∈p::j5 ps,k∈X'):MX RR ty ro h X' p ps d m:=by
 obtain⟨cv,sv,rv,g1,g2,g3,g4,g5,g6,g7⟩:=hm
 have hD:Sub (del h X) (del h X'):=fun k o hk=>by
  rw[jU] at hk
  split at hk
  ·cases hk
  ·rename_i hn
   exact j7 hk fun e=>hn (hX k e)
 exact⟨cv,sv,rv,g1,g2.sub hD,g3.sub hD,g4,g5,hp p (List.mem_cons_self ..),fun k hk=>hp k (List.mem_cons_of_mem _ hk)⟩
theorem MsX.shrink {ro:Ro}{h:T Obj}{X X':List Nat}{qs:List MqD}{ds:List AutoD}{ms:List MacD} (hm:MsX ro h X qs ds ms) (hX:∀ k∈X',k∈X) (hp:∀ q∈qs,∀ k∈mU q,k∈X'):MsX ro h X' qs ds ms :=
 ⟨hm.lq,hm.lm,fun i q d m h1 h2 h3=>(hm.at_ i q d m h1 h2 h3).shrink hX (hp q (List.mem_of_getElem? h1)),hm.dis⟩
section
variable {ro:Ro}{h:T Obj}{nx:Nat}{K:KV}
theorem aHV {v:Value}{l:List ByteArray} (hv:SlR ro h v 1 zK l) (hl:l.length≤1000000) (hf:Fr h nx) (hK:∀ r h' n',nx≤n'→Fr h' n'→Sub h h'→cW h' r 1 oU (aAS l) nx→K r h' n'):aN Tryz.prog ro hN [v] h nx K:=by
 apply qA
 unfold lU
 obtain⟨i,g1,g2,g3⟩:=aO2
 obtain⟨cs,h1,h2,h3⟩:=hv
 have hcs:cs=aAS l:=by
  apply List.ext_getElem?
  intro k
  rcases Nat.lt_or_ge k l.length with hk | hk
  ·have e1:cs[k]?=some (cs[k]'(by omega)):=List.getElem?_eq_getElem _
   have e2:l[k]?=some l[k]:=List.getElem?_eq_getElem _
   have:=(h3 k _ _ e1 e2).1
   rw[e1,this,aFw hk]
  ·rw[List.getElem?_eq_none (by omega),List.getElem?_eq_none (by rw[zI]; omega)]
 subst hcs
 exact rZ h1 aMa aNY g1 (by omega) (by omega) aOg rfl (by simp[aAS,cU]) (by rw[zI,g3]; unfold big; omega) (by rw[zI]; unfold big; omega) hf hK
end
end V
end Go.Proofs.YtcaccnneblghgaaGreat
namespace Go.Proofs.YtcaccnneblghgaaGreat
namespace V
attribute [local irreducible] aB ifP aR cT eQ exP cO
theorem MX.ty {ro:Ro}{h:T Obj}{X:List Nat}{p:Nat}{ps:List (Nat × Nat)}{d:AutoD}{m:MacD} (hm:MI ro h X p ps d m):∀ k∈p::j5 ps,∃ c e,h.get k=some (.cells c e)∧(e=bJ∨e=bM∨e=dR):=fun k hk=>by
 obtain⟨cv,sv,rv,g1,g2,g3,g4,g5,g6,g7⟩:=hm
 rcases List.mem_cons.1 hk with rfl | hk
 ·exact⟨_,_,g1,.inl rfl⟩
 ·obtain⟨q,hq,h9⟩:=iS.1 hk
  obtain⟨⟨c1,t1⟩,c2,t2⟩:=g4.ty jR q hq
  rcases h9 with rfl | rfl
  ·exact⟨_,_,t1,.inr (.inl rfl)⟩
  ·exact⟨_,_,t2,.inr (.inr rfl)⟩
theorem MX.neB {ro:Ro}{h:T Obj}{X:List Nat}{p:Nat}{ps:List (Nat × Nat)}{d:AutoD}{m:MacD} (hm:MI ro h X p ps d m) {k:Nat}{c:Array Value}{e:TypeId} (hk:h.get k=some (.cells c e)) (he:e≠bJ∧e≠bM∧e≠dR):k ∉ p::j5 ps:=fun h9=>by
 obtain⟨c2,e2,g1,g2⟩:=hm.ty k h9
 rw[hk] at g1
 simp only[Option.some.injEq,Obj.cells.injEq] at g1
 rcases g2 with g2 | g2 | g2
 ·exact he.1 (g1.2.1.trans g2)
 ·exact he.2.1 (g1.2.1.trans g2)
 ·exact he.2.2 (g1.2.1.trans g2)
theorem MsX.neB {ro:Ro}{h:T Obj}{X:List Nat}{qs:List MqD}{ds:List AutoD}{ms:List MacD} (hm:MsX ro h X qs ds ms) {k:Nat}{c:Array Value}{e:TypeId} (hk:h.get k=some (.cells c e)) (he:e≠bJ∧e≠bM∧e≠dR):∀ q∈qs,k ∉ mU q:=fun q hq=>by
 obtain⟨i,hi⟩:=List.getElem?_of_mem hq
 have hl:=(List.getElem?_eq_some_iff.1 hi).1
 exact (hm.at_ i q _ _ hi (List.getElem?_eq_getElem (by rw[← hm.lq]; exact hl)) (List.getElem?_eq_getElem (by rw[hm.lm,← hm.lq]; exact hl))).neB hk he
structure NwI (ro:Ro) (X0:List Nat) (hC:T Obj) (nC p:Nat) (Tb:TabD) (most:Int) (kv tv:Value) (i j:Nat) (h:T Obj) (nx:Nat) (X:List Nat) (qs:List MqD) (mv ev:Value) (es:List (List Value)):Prop where
 cell:h.get p=some (.cells (scL kv tv ev mv most cX (kY Tb) 0).toArray aQ)
 mo:cW h mv 1 iL (sR qs) nC
 eo:cW h ev 260 cN es nC
 el:es.length=j
 erd:∀ (k:Nat) x e,es[k]?=some x→Tb.entries[k]?=some e→pO ro (del h X) x e
 kr:Sl ro (del h X) kv 1 (aAS Tb.kinds)
 tr:Sl ro (del h X) tv 1 (kK Tb.to)
 mq:MsX ro h X qs ((Tb.entries.map (·.a)).take i) ((Tb.entries.map fun e=>aDy e.a).take i)
 xl:∀ b∈X,b < nx
 pc:nC≤p
 ql:∀ q∈qs,∀ b∈mU q,nC≤b
 x0:∀ b∈X0,b∈X
 xp:p∈X
 xm:∀ b∈i7 mv,b∈X
 xe:∀ b∈i7 ev,b∈X
 sb:Sub hC h
 frr:Fr h nx
 frC:Fr hC nC
section
variable {ro:Ro}{hC h h' h1 h2:T Obj}{nC p nx n1 n2 l1 i j k:Nat}{Tb:TabD}{most:Int}{kv tv mv ev mv2 ev2:Value}{X0 X:List Nat}{qs:List MqD}{es:List (List Value)}
theorem NwI.nle (hi:NwI ro X0 hC nC p Tb most kv tv i j h nx X qs mv ev es):nC≤p∧p < nx:=⟨hi.pc,hi.xl p hi.xp⟩
theorem NwI.subs (hi:NwI ro X0 hC nC p Tb most kv tv i j h nx X qs mv ev es) (hs:Sub h h') (hf:Fr h' n1) (hn:nx≤n1):NwI ro X0 hC nC p Tb most kv tv i j h' n1 X qs mv ev es:=by
 have hD:Sub (del h X) (del h' X):=dM.del (ids:=[]) hs.keepL (fun k hk=>by cases hk) fun k hk=>.inl hk
 exact⟨hs _ _ hi.cell,hi.mo.keepS hs,hi.eo.keepS hs,hi.el,fun k x e h1 h2=>(hi.erd k x e h1 h2).sub hD,hi.kr.sub hD,hi.tr.sub hD,hi.mq.subX hs,fun b hb=>by have:=hi.xl b hb; omega,hi.pc,hi.ql,hi.x0,hi.xp,hi.xm,hi.xe,hi.sb.trans hs,hf,hi.frC⟩
theorem NwI.neM (hi:NwI ro X0 hC nC p Tb most kv tv i j h nx X qs mv ev es):∀ b∈p::i7 mv,(∃ c e,h.get b=some (.cells c e)∧e≠bJ∧e≠bM∧e≠dR):=fun b hb=>by
 rcases List.mem_cons.1 hb with rfl | hb
 ·exact⟨_,_,hi.cell,by decide,by decide,by decide⟩
 ·exact⟨_,_,(hi.mo.blk (eV.1 hb)).2,by decide,by decide,by decide⟩
theorem NwI.neE (hi:NwI ro X0 hC nC p Tb most kv tv i j h nx X qs mv ev es):∀ b∈p::i7 ev,(∃ c e,h.get b=some (.cells c e)∧e≠bJ∧e≠bM∧e≠dR):=fun b hb=>by
 rcases List.mem_cons.1 hb with rfl | hb
 ·exact⟨_,_,hi.cell,by decide,by decide,by decide⟩
 ·exact⟨_,_,(hi.eo.blk (eV.1 hb)).2,by decide,by decide,by decide⟩
theorem aJ5 (qs:List MqD) (q:MqD):sR (qs++[q])=sR qs++[[ptr q.1]]:=by simp[sR]
theorem NwI.mach (hi0:NwI ro X0 hC nC p Tb most kv tv k j h nx X qs mv ev es) {q:MqD}{e:EntD} (he:Tb.entries[k]?=some e) (hn:MI ro h1 (X++mU q) q.1 q.2 (er e.a) (aDy e.a)) (hs:Sub h h1) (hf1:Fr h1 n1) (hb:∀ b∈mU q,nx≤b∧b < n1) (hnx:nx≤n1)
  (ho:cW h2 mv2 1 iL (sR qs++[[ptr q.1]]) nC) (hsb:iK mv2=some n2) (hg:∀ b o,h1.get b=some o→b≠l1→iK mv≠some b→h2.get b=some o) (hl1:n1≤l1) (hn2:n1≤n2) (hf2:Fr h2 (n2+1)) :
  NwI ro X0 hC nC p Tb most kv tv (k+1) j (h2.upd p (some (.cells (scL kv tv ev mv2 most cX (kY Tb) 0).toArray aQ))) (n2+1) (X++mU q++[n2]) (qs++[q]) mv2 ev es:=by
 have hpx:=hi0.nle
 have hi:=hi0.subs hs hf1 hnx
 have hkk:dM (i7 mv) h1 h2:=fun b o hb hn=>hg b o hb (by have:=hf1.lt' hb; omega) fun e=>hn (eV.2 e)
 have hK:dM (p::i7 mv) h1 (h2.upd p (some (.cells (scL kv tv ev mv2 most cX (kY Tb) 0).toArray aQ))):=(hkk.mono fun b hb=>List.mem_cons_of_mem _ hb).upd (List.mem_cons_self ..)
 have hidX:∀ b∈p::i7 mv,b∈X:=fun b hb=>by
  rcases List.mem_cons.1 hb with rfl | hb
  ·exact hi.xp
  ·exact hi.xm b hb
 have hX2:∀ b∈X++mU q++[n2],b∈X++mU q∨h1.get b=none:=fun b hb=>by
  rcases List.mem_append.1 hb with hb | hb
  ·exact .inl hb
  ·simp at hb; subst hb; exact .inr (hf1 _ (by omega))
 have hX3:∀ b∈X++mU q++[n2],b∈X∨h.get b=none:=fun b hb'=>by
  rcases List.mem_append.1 hb' with hb' | hb'
  ·rcases List.mem_append.1 hb' with hb' | hb'
   ·exact .inl hb'
   ·exact .inr (hi0.frr _ (hb b hb').1)
  ·simp at hb'; subst hb'; exact .inr (hi0.frr _ (by omega))
 have hX4:∀ b∈X,b∈X++mU q++[n2]:=fun b hb=>List.mem_append_left _ (List.mem_append_left _ hb)
 have hgA:=hs.keepL (ids:=p::i7 mv) |>.trans hK
 have hD:Sub (del h X) (del (h2.upd p (some (.cells (scL kv tv ev mv2 most cX (kY Tb) 0).toArray aQ))) (X++mU q++[n2])):=hgA.del hidX hX3
 have hneM:=hi.neM
 have hdis:∀ b∈p::i7 mv,∀ r∈qs,b ∉ mU r:=fun b hb' r hr=>by
  obtain⟨c,e9,g1,g2⟩:=hneM b hb'
  exact hi.mq.neB g1 g2 r hr
 have hdq:∀ b∈p::i7 mv,b ∉ mU q:=fun b hb'=>by
  obtain⟨c,e9,g1,g2⟩:=hneM b hb'
  exact hn.neB g1 g2
 have hmq:=hi0.mq.keep hgA hidX (fun r hr b hb'=>hdis b hb' r hr) hX3 hX4
 have hnq:=hn.keep (X':=X++mU q++[n2]) jR hK (fun b hb'=>List.mem_append_left _ (hidX b hb')) (fun b hb'=>by
  have:=hdq b hb'
  exact⟨fun e=>this (by rw[e]; exact List.mem_cons_self ..),fun e=>this (List.mem_cons_of_mem _ e)⟩) hX2 fun b hb'=>List.mem_append_left _ hb'
 have hlen:k < Tb.entries.length:=(List.getElem?_eq_some_iff.1 he).1
 have hget:=(List.getElem?_eq_some_iff.1 he).2
 have hpe:iK ev≠some p:=hi.eo.ne hi.cell (by decide)
 have hpm:iK mv2≠some p:=by rw[hsb]; intro e9; cases e9; omega
 have hem:∀ b,iK ev=some b→iK mv≠some b:=fun b hb' e9=>by
  have g1:=(hi.eo.blk hb').2
  have g2:=(hi.mo.blk e9).2
  rw[g1] at g2
  simp only[Option.some.injEq,Obj.cells.injEq] at g2
  exact absurd g2.2.1 (by decide)
 refine⟨T.get_upd_same _ _ _,?_,?_,hi.el,fun k x e h1 h2=>(hi0.erd k x e h1 h2).sub hD,hi0.kr.sub hD,hi0.tr.sub hD,?_,fun b hb'=>?_,hi.pc,fun r hr b hb'=>?_,fun b hb'=>hX4 b (hi.x0 b hb'),hX4 p hi.xp,fun b hb'=>?_,fun b hb'=>hX4 b (hi.xe b hb'),fun b o hb'=>?_,hf2.upd (Nat.le_refl _) (by omega),hi.frC⟩
 ·rw[aJ5]
  exact ho.keepK (ids:=[p]) ((Sub.refl _).keepL.upd (by simp)) fun id hid hm=>by simp at hm; subst hm; exact hpm hid
 ·exact hi.eo.keepK (ids:=p::i7 mv) hK fun id hid hm=>by
   rcases List.mem_cons.1 hm with rfl | hm
   ·exact hpe hid
   ·exact hem id hid (eV.1 hm)
 ·have t1:(Tb.entries.map (·.a)).take (k+1)=(Tb.entries.map (·.a)).take k++[e.a]:=by
   rw[List.take_succ_eq_append_getElem (by rw[List.length_map]; exact hlen),List.getElem_map,hget]
  have t2:(Tb.entries.map fun e=>aDy e.a).take (k+1)=(Tb.entries.map fun e=>aDy e.a).take k++[aDy e.a]:=by
   rw[List.take_succ_eq_append_getElem (by rw[List.length_map]; exact hlen),List.getElem_map,hget]
  rw[t1,t2]
  refine hmq.snoc hnq fun r hr b hb' hb9=>?_
  have g1:=(hb b hb9).1
  obtain⟨i9,hi9⟩:=List.getElem?_of_mem hr
  have g2:=hi0.xl b (hi0.mq.inX hi9 b hb')
  omega
 ·have hx:=hi0.nle
  rcases List.mem_append.1 hb' with hb' | hb'
  ·rcases List.mem_append.1 hb' with hb' | hb'
   ·have:=hi0.xl b hb'; omega
   ·have:=hb b hb'; omega
  ·simp at hb'; subst hb'; omega
 ·rcases List.mem_append.1 hr with hr | hr
  ·exact hi.ql r hr b hb'
  ·simp at hr; subst hr
   have:=(hb b hb').1
   omega
 ·have:=eV.1 hb'
  rw[hsb] at this
  cases this
  exact List.mem_append_right _ (by simp)
 ·have h9:=hi.sb b o hb'
  have hlt:=hi.frC.lt' hb'
  rw[T.get_upd_ne _ _ (by omega)]
  refine hg b o h9 (by omega) fun e9=>?_
  have:=(hi.mo.blk e9).1
  omega
theorem NwI.ent (hi0:NwI ro X0 hC nC p Tb most kv tv i k h nx X qs mv ev es) {n0:Nat}{rv:Value}{e:EntD} (he:Tb.entries[k]?=some e) (hs:Sub h h1) (hrv:cW h1 rv 1 dR (kK e.rules) n0) (hn0:nx≤l1) (hl0:l1 < n0)
  (ho:cW h2 ev2 260 cN (es++[vO++[rv]]) nC) (hsb:iK ev2=some n2) (hg:∀ b o,h1.get b=some o→b≠l1→iK ev≠some b→h2.get b=some o) (hn2:n0≤n2) (hf1:Fr h1 n2) (hf2:Fr h2 (n2+1)) :
  NwI ro X0 hC nC p Tb most kv tv i (k+1) (h2.upd p (some (.cells (scL kv tv ev2 mv most cX (kY Tb) 0).toArray aQ))) (n2+1) (X++[n2]) qs mv ev2 (es++[vO++[rv]]):=by
 have hpx:=hi0.nle
 have hgA:dM (p::i7 ev) h (h2.upd p (some (.cells (scL kv tv ev2 mv most cX (kY Tb) 0).toArray aQ))):=fun b o hb hn=>by
  have hlt:=hi0.frr.lt' hb
  rw[T.get_upd_ne _ _ fun e9=>hn (by rw[e9]; exact List.mem_cons_self ..)]
  exact hg b o (hs b o hb) (by omega) fun e9=>hn (List.mem_cons_of_mem _ (eV.2 e9))
 have hidX:∀ b∈p::i7 ev,b∈X:=fun b hb=>by
  rcases List.mem_cons.1 hb with rfl | hb
  ·exact hi0.xp
  ·exact hi0.xe b hb
 have hX3:∀ b∈X++[n2],b∈X∨h.get b=none:=fun b hb'=>by
  rcases List.mem_append.1 hb' with hb' | hb'
  ·exact .inl hb'
  ·simp at hb'; subst hb'; exact .inr (hi0.frr _ (by omega))
 have hX4:∀ b∈X,b∈X++[n2]:=fun b hb=>List.mem_append_left _ hb
 have hD:=hgA.del hidX hX3
 have hneE:=hi0.neE
 have hmq:=hi0.mq.keep hgA hidX (fun r hr b hb'=>by
  obtain⟨c,e9,g1,g2⟩:=hneE b hb'
  exact hi0.mq.neB g1 g2 r hr) hX3 hX4
 have hpm:iK mv≠some p:=hi0.mo.ne hi0.cell (by decide)
 have hpe:iK ev2≠some p:=by rw[hsb]; intro e9; cases e9; omega
 have hem:∀ b,iK mv=some b→iK ev≠some b:=fun b hb' e9=>by
  have g1:=(hi0.mo.blk hb').2
  have g2:=(hi0.eo.blk e9).2
  rw[g1] at g2
  simp only[Option.some.injEq,Obj.cells.injEq] at g2
  exact absurd g2.2.1 (by decide)
 have hel:=hi0.el
 have hrv2:Sl ro (del (h2.upd p (some (.cells (scL kv tv ev2 mv most cX (kY Tb) 0).toArray aQ))) (X++[n2])) rv 1 (kK e.rules):=by
  have h9:cW (h2.upd p (some (.cells (scL kv tv ev2 mv most cX (kY Tb) 0).toArray aQ))) rv 1 dR (kK e.rules) n0:=by
   rcases hrv with h9 | ⟨id,r1,r2,r3,r4⟩
   ·exact .inl h9
   ·refine .inr ⟨id,r1,r2,r3,?_⟩
    rw[T.get_upd_ne _ _ (by omega)]
    refine hg _ _ r4 (by omega) fun e9=>?_
    have:=hi0.xl _ (hi0.xe _ (eV.2 e9))
    omega
  refine (h9.del fun id hid hm=>?_).sl
  have g1:=(h9.blk hid).1
  rcases List.mem_append.1 hm with hm | hm
  ·have:=hi0.xl id hm; omega
  ·simp at hm; subst hm
   have g2:h1.get id=none:=hf1 _ (Nat.le_refl _)
   rcases hrv with ⟨r1,_⟩ | ⟨id2,r1,r2,r3,r4⟩
   ·rw[r1] at hid; cases hid
   ·rw[r2] at hid
    cases hid
    have g3:h1.get id2=none:=g2
    rw[r4] at g3; cases g3
 refine⟨T.get_upd_same _ _ _,?_,?_,by simp[hel],fun j x e9 hx1 hx2=>?_,hi0.kr.sub hD,hi0.tr.sub hD,hmq,fun b hb'=>?_,hi0.pc,hi0.ql,fun b hb'=>hX4 b (hi0.x0 b hb'),hX4 p hi0.xp,fun b hb'=>hX4 b (hi0.xm b hb'),fun b hb'=>?_,fun b o hb'=>?_,hf2.upd (Nat.le_refl _) (by omega),hi0.frC⟩
 ·exact hi0.mo.keepK hgA fun id hid hm=>by
   rcases List.mem_cons.1 hm with rfl | hm
   ·exact hpm hid
   ·exact hem id hid (eV.1 hm)
 ·exact ho.keepK (ids:=[p]) ((Sub.refl _).keepL.upd (by simp)) fun id hid hm=>by simp at hm; subst hm; exact hpe hid
 ·rcases Nat.lt_or_ge j es.length with hj | hj
  ·rw[List.getElem?_append_left hj] at hx1
   exact (hi0.erd j x e9 hx1 hx2).sub hD
  ·rw[List.getElem?_append_right hj] at hx1
   have hj0:j - es.length=0:=by
    rcases Nat.eq_zero_or_pos (j - es.length) with h0 | h0
    ·exact h0
    ·rw[List.getElem?_eq_none (by simp; omega)] at hx1; cases hx1
   rw[hj0] at hx1
   simp only[List.getElem?_cons_zero,Option.some.injEq] at hx1
   subst hx1
   rw[show j=k by omega,he] at hx2
   cases hx2
   refine⟨rv,?_,hrv2⟩
   rw[List.getElem?_append_right (by rw[rW]; omega),rW]; rfl
 ·rcases List.mem_append.1 hb' with hb' | hb'
  ·have:=hi0.xl b hb'; omega
  ·simp at hb'; subst hb'; omega
 ·have:=eV.1 hb'
  rw[hsb] at this
  cases this
  exact List.mem_append_right _ (by simp)
 ·have h9:=hi0.sb b o hb'
  have hlt:=hi0.frC.lt' hb'
  have hlt2:=hi0.frr.lt' h9
  rw[T.get_upd_ne _ _ (by omega)]
  refine hg b o (hs b o h9) (by omega) fun e9=>?_
  have:=(hi0.eo.blk e9).1
  omega
theorem NwI.fin (hi:NwI ro X0 hC nC p Tb most kv tv Tb.entries.length Tb.entries.length h nx X qs mv ev es) (hX0:∀ b∈X0,b < nC):ScX ro h (X0++(p::qs.flatMap mU)) p qs Tb most 0 (kY Tb)∧∀ b∈p::qs.flatMap mU,nC≤b∧b < nx:=by
 have hsub:∀ b∈X0++(p::qs.flatMap mU),b∈X:=fun b hb=>by
  rcases List.mem_append.1 hb with hb | hb
  ·exact hi.x0 b hb
  ·rcases List.mem_cons.1 hb with rfl | hb
   ·exact hi.xp
   ·obtain⟨q,hq,hb⟩:=List.mem_flatMap.1 hb
    obtain⟨j,hj⟩:=List.getElem?_of_mem hq
    exact hi.mq.inX hj b hb
 have hD:Sub (del h X) (del h (X0++(p::qs.flatMap mU))):=sB hsub
 have hne:∀ {v:Value} {z:Nat} {e:TypeId} {l:List (List Value)},cW h v z e l nC→e≠aQ→e≠bJ∧e≠bM∧e≠dR→∀ id,iK v=some id→id ∉ X0++(p::qs.flatMap mU):=fun {v z e l} ho he1 he2 id hid hm=>by
  obtain⟨g1,g2⟩:=ho.blk hid
  rcases List.mem_append.1 hm with hm | hm
  ·have:=hX0 id hm; omega
  ·rcases List.mem_cons.1 hm with rfl | hm
   ·exact ho.ne hi.cell (Ne.symm he1) hid
   ·obtain⟨q,hq,hm⟩:=List.mem_flatMap.1 hm
    exact hi.mq.neB g2 he2 q hq hm
 refine⟨⟨kv,tv,ev,mv,cX,hi.cell,hi.kr.sub hD,hi.tr.sub hD,⟨es,(hi.eo.del (hne hi.eo (by decide) ⟨by decide,by decide,by decide⟩)).sl,hi.el,fun j x e h1 h2=>(hi.erd j x e h1 h2).sub hD⟩,(hi.mo.del (hne hi.mo (by decide) ⟨by decide,by decide,by decide⟩)).sl,Sl.nil,?_,List.mem_append_right _ (List.mem_cons_self ..),hi.mq.neB hi.cell ⟨by decide,by decide,by decide⟩⟩,fun b hb=>⟨?_,hi.xl b (hsub b (List.mem_append_right _ hb))⟩⟩
 ·have hq:=hi.mq
  rw[List.take_of_length_le (by simp),List.take_of_length_le (by simp)] at hq
  exact hq.shrink hsub fun q hq9 b hb=>List.mem_append_right _ (List.mem_cons_of_mem _ (List.mem_flatMap.2 ⟨q,hq9,hb⟩))
 ·rcases List.mem_cons.1 hb with rfl | hb
  ·exact hi.pc
  ·obtain⟨q,hq,hb⟩:=List.mem_flatMap.1 hb
   exact hi.ql q hq b hb
end
end V
end Go.Proofs.YtcaccnneblghgaaGreat
namespace Go.Proofs.YtcaccnneblghgaaGreat
namespace V
attribute [local irreducible] aB ifP aR cT eQ exP cO
theorem aNE:∀ {l:List Int}{a m:Int},rz a m l=true→a < m→(l.length:Int)≤m - a - 1
 | [],a,m,_,h=>by simp; omega
 | x::r,a,m,h,hm=>by
  rw[aDK] at h
  simp only[Bool.and_eq_true,decide_eq_true_eq] at h
  have:=aNE h.2.2 h.2.1
  rw[List.length_cons]
  omega
theorem aFs {T:TabD} (h:fQ T=true):T.conds.length≤8∧T.kinds.length≤64∧T.to.length≤64∧T.entries.length≤16∧∀ e∈T.entries,e.rules.length≤64:=by
 unfold fQ at h
 simp only[Bool.and_eq_true,decide_eq_true_eq] at h
 obtain⟨h1,h2,_,h4,h5,h6,_,h8,h9⟩:=h
 refine⟨h2,h4,by omega,by omega,fun e he=>?_⟩
 have:=List.all_eq_true.1 h9 e he
 unfold lJ at this
 simp only[Bool.and_eq_true] at this
 have:=aNE this.1 (by omega)
 omega
theorem aKg (o1 o2:Option Addr) (l1 c1 l2 c2:Nat):fJ Tryz.prog dI [(1,.slice o1 l1 c1),(2,.slice o2 l2 c2)]=some (.agg #[cX,.slice o1 l1 c1,.slice o2 l2 c2,cX]):=by kernel_rfl
theorem cW.form {h:T Obj}{v:Value}{z:Nat}{e:TypeId}{l:List (List Value)}{lo:Nat} (ho:cW h v z e l lo):∃ o n c,v=.slice o n c:=by
 rcases ho with ⟨h1,_⟩ | ⟨id,_,h1,_⟩
 ·exact⟨_,_,_,h1⟩
 ·exact⟨_,_,_,h1⟩
theorem aE7 {h:T Obj}{id off z n:Nat}{v:Value}{l vs:List Value}{e:TypeId}{f:Nat × Nat} (hg:h.get id=some (.cells l.toArray e f)) (hc:v.cells=vs.toArray) (hn:vs.length=n) (hl:off+n≤l.length) (hv:vs.all cU=true) :
  bV n h (at_ id off z) v=some (h.upd id (some (.cells (over l off vs).toArray e f))):=by
 rw[cB,hc,hg,if_pos (by simpa using hn),bT (by simp; omega) (by simpa using hv)]
 rfl
theorem aDu {ro:Ro}{h:T Obj}{id off z n:Nat}{l:List Value}{e:TypeId}{f:Nat × Nat} (hg:h.get id=some (.cells l.toArray e f)) (hl:off+n≤l.length):loadA ro h n (at_ id off z)=some (.agg ((l.drop off).take n).toArray):=by
 rw[cD,hg]
 show (if off+n≤l.length then _ else _)=_
 rw[if_pos hl]
section
variable {ro:Ro}{h:T Obj}{nx:Nat}{K:KV}
set_option maxRecDepth 8000 in
set_option maxHeartbeats 1000000 in
theorem aAg {X0:List Nat}{x:List Value}{Tb:TabD}{most:Int} (hf:Fr h nx) (hd:aCi ro h x Tb) (hX0:∀ b∈X0,b < nx)
  (hK0:most < 1∨fQ Tb=false→∀ nx',nx≤nx'→K (.tuple #[.pointer none,.int .i64 1]) h nx')
  (hK1:1≤most→fQ Tb=true→∀ p qs h' nx',nx≤nx'→Fr h' nx'→Sub h h'→(∀ b∈p::qs.flatMap mU,nx≤b∧b < nx')→ScX ro h' (X0++(p::qs.flatMap mU)) p qs Tb most 0 (kY Tb)→K (.tuple #[ptr p,.int .i64 0]) h' nx'):aN Tryz.prog ro pA [.agg x.toArray,.int .i64 most] h nx K:=by
 obtain⟨cv,kv0,tv0,ev0,rfl,q1,q2,q3,q4,q5,q6,q7,q8⟩:=id hd
 apply aIf
 unfold aIe
 refine eJ hf (Nat.le_refl _) fun h1 hs1 hf1 g1 _=>?_
 have g1:h1.get nx=some (.cells [cv,kv0,tv0,ev0].toArray dI):=g1
 by_cases hm1:most < 1
 ·(repeat(first|refine zzB ?_|apply aD|apply aE|with_reducible first|apply aG|apply aF|apply aK|apply aH|apply aJ|apply aI|apply aL|apply aC))
  exact⟨h,hs1,hK0 (.inl hm1) _ (by omega)⟩
 ·have LA:=dF (ro:=ro) (z:=0) (n:=4) (l:=[cv,kv0,tv0,ev0]) g1 rfl
  (repeat(first|refine zzB ?_|apply aD|apply aE|with_reducible first|apply aG|apply aF|apply aK|apply aH|apply aJ|apply aI|apply aL|apply aC))
  refine aA LA ?_
  (repeat(first|refine zzB ?_|apply aD|apply aE|with_reducible first|apply aG|apply aF|apply aK|apply aH|apply aJ|apply aI|apply aL|apply aC))
  refine aHl (hf1.mono (by omega)) (hd.sub hs1) fun n1 hn1=>?_
  cases hr:fQ Tb with
  | false =>
   (repeat(first|refine zzB ?_|apply aD|apply aE|with_reducible first|apply aG|apply aF|apply aK|apply aH|apply aJ|apply aI|apply aL|apply aC))
   exact⟨h,hs1,hK0 (.inr hr) _ (by omega)⟩
  | true =>
   have hc256:∀ e∈Tb.entries,e.a.c.length=256:=fun e he=>by
    obtain⟨j,hj⟩:=List.getElem?_of_mem he
    obtain⟨hlt,rfl⟩:=List.getElem?_eq_some_iff.1 hj
    obtain⟨y,⟨ax,rv,_,hA,_⟩,_⟩:=q4.at hlt
    obtain⟨cv9,sv9,_,hc9,_⟩:=hA
    exact hc9
   have hT:=(aI7 hr hc256).1
   obtain⟨_,hl1,hl2,hl3,hl4⟩:=aFs hr
   (repeat(first|refine zzB ?_|apply aD|apply aE|with_reducible first|apply aG|apply aF|apply aK|apply aH|apply aJ|apply aI|apply aL|apply aC))
   refine aA aBd ?_
   refine aA (aIy _) ?_
   refine aGd (m:=nx+1) hf1 (by omega) fun h2 hs2 hf2 g2 _=>?_
   have g2:h2.get (n1+1+4)=some (.cells (scL cX cX cX cX most cX (kY Tb) 0).toArray aQ):=g2
   have g12:=hs2 _ _ g1
   have m1:[cv,kv0,tv0,ev0][1]?=some kv0:=rfl
   have m2:[cv,kv0,tv0,ev0][2]?=some tv0:=rfl
   have m3:[cv,kv0,tv0,ev0][3]?=some ev0:=rfl
   (repeat(first|refine zzB ?_|apply aD|apply aE|with_reducible first|apply aG|apply aF|apply aK|apply aH|apply aJ|apply aI|apply aL|apply aC))
   refine aA (aZ g12 m1) ?_
   refine aHV (q2.sub (hs1.trans hs2) fun _ _ h=>h) (by omega) (hf2.mono (by omega)) fun kv h3 n3 hn3 hf3 hs3 hkv=>?_
   have g13:=hs3 _ _ g12
   have l2:=aZ (ro:=ro) (z:=0) g13 m2
   (repeat(first|refine zzB ?_|apply aD|apply aE|with_reducible first|apply aG|apply aF|apply aK|apply aH|apply aJ|apply aI|apply aL|apply aC))
   refine aA l2 ⟨fT g12 g13,?_⟩
   refine tE (q3.sub ((hs1.trans hs2).trans hs3)) (by omega) hf3 fun tv h4 n4 hn4 hf4 hs4 htv=>?_
   obtain⟨ko,kn,kc,hkf⟩:=hkv.form
   obtain⟨to_,tn,tc,htf⟩:=htv.form
   have g24:=hs4 _ _ (hs3 _ _ g2)
   have g14:=hs4 _ _ g13
   refine aA (by rw[hkf,htf]; exact aKg _ _ _ _ _ _) ?_
   (repeat(first|refine aA (by simp (disch:=first|omega|exact nnN _|assumption) only [BB,B2,↓reduceIte,Nat.reduceLeDiff,Nat.reduceAdd,CC,bC]<;>rfl) ?_|apply aD|apply aE|with_reducible first|apply aG|apply aF|apply aK|apply aH|apply aJ|apply aI|apply aL|apply aC))
   refine aA (aE7 (vs:=[cX,kv,tv,cX]) g24 (by rw[hkf,htf]; rfl) rfl (by simp[scL]) (by simp only[List.all_cons,List.all_nil,hkv.ok,htv.ok,Bool.and_true]; rfl)) ?_
   have hov:over (scL cX cX cX cX most cX (kY Tb) 0) 0 [cX,kv,tv,cX]=scL kv tv cX cX most cX (kY Tb) 0:=rfl
   rw[hov]
   generalize hh5:h4.upd (n1+1+4) (some (.cells (scL kv tv cX cX most cX (kY Tb) 0).toArray aQ))=h5
   have g15:h5.get nx=some (.cells [cv,kv0,tv0,ev0].toArray dI):=by rw[← hh5,T.get_upd_ne _ _ (by omega)]; exact g14
   (repeat(first|refine zzB ?_|apply aD|apply aE|with_reducible first|apply aG|apply aF|apply aK|apply aH|apply aJ|apply aI|apply aL|apply aC))
   refine aA (aZ g15 m3) ?_
   have hs14:Sub h1 h4:=(hs2.trans hs3).trans hs4
   refine aA q4.len ?_
   have hkK:dM [n1+1+4] h4 h5:=by rw[← hh5]; exact (Sub.refl _).keepL.upd (by simp)
   have hkv5:=(hkv.keepS hs4).keepK hkK fun id hid hm=>by simp at hm; have:=(hkv.blk hid).1; omega
   have htv5:=htv.keepK hkK fun id hid hm=>by simp at hm; have:=(htv.blk hid).1; omega
   have hNI0:NwI ro X0 h1 (nx+1) (n1+1+4) Tb most kv tv 0 0 h5 n4 (X0++[n1+1+4]) [] cX cX []:=by
    refine⟨by rw[← hh5]; exact T.get_upd_same _ _ _,cW.nil,cW.nil,rfl,(fun k x e hx=>by simp at hx),?_,?_,MsX.nil,fun b hb=>?_,by omega,(fun q hq=>by cases hq),fun b hb=>List.mem_append_left _ hb,by simp,(fun b hb=>by cases hb),(fun b hb=>by cases hb),fun b o hb=>?_,?_,hf1⟩
    ·refine (hkv5.del fun id hid hm=>?_).sl
     have g:=(hkv.blk hid).1
     rcases List.mem_append.1 hm with hm | hm
     ·have:=hX0 id hm; omega
     ·simp at hm; omega
    ·refine (htv5.del fun id hid hm=>?_).sl
     have g:=(htv.blk hid).1
     rcases List.mem_append.1 hm with hm | hm
     ·have:=hX0 id hm; omega
     ·simp at hm; omega
    ·rcases List.mem_append.1 hb with hb | hb
     ·have:=hX0 b hb; omega
     ·simp at hb; omega
    ·have hlt:=hf1.lt' hb
     rw[← hh5,T.get_upd_ne _ _ (by omega)]
     exact hs14 b o hb
    ·rw[← hh5]; exact hf4.upd (Nat.le_refl _) (by omega)
   refine bE (fun j e h' nx'=>∃ (k:Nat) (X:List Nat) (qs:List MqD) (mv ev:Value) (es:List (List Value)),k+j=Tb.entries.length∧n4+4≤nx'∧e 6=ptr (n1+1+4)∧e 33=ev0∧e 34=.int .i64 Tb.entries.length∧e 35=.int .i64 k∧NwI ro X0 h1 (nx+1) (n1+1+4) Tb most kv tv k k h' nx' X qs mv ev es) ?_ (n:=Tb.entries.length) ⟨0,_,[],cX,cX,[],by omega,by omega,rfl,rfl,rfl,rfl,hNI0.subs (Sub.refl _) (hNI0.frr.mono (by omega)) (by omega)⟩
   generalize n1+1+4=p at *
   rintro j e h' nx' ⟨k,X,qs,mv,ev,es,hj,hnx,e6,e33,e34,e35,hi⟩ Q' hq hx
   have hfh:=hi.frr
   have hsh:=hi.sb
   unfold aCe
   rw[e6,e33,e34,e35]
   refine cV (fun hk=>?_) (fun hk=>?_)
   ·have hk:k < Tb.entries.length:=by omega
    have hev:=q4.sub hs1 (uP.sub hs1)
    have hix:=hev.ix .i64 hk
    obtain⟨y,hy1,hy2,hy3,hy4,hy5⟩:=hev.at hk
    have hy3:=aBs hsh hy3
    have hek:Tb.entries[k]?=some Tb.entries[k]:=List.getElem?_eq_getElem _
    have hemem:=List.getElem_mem hk
    generalize Tb.entries[k]=ee at hy1 hek hemem
    obtain⟨cv9,sv9,rv9,hye,c258,c259,htk,hA,hS,hSl,hR,hRl⟩:=hy1.cells
    (repeat(first|refine zzB ?_|apply aD|apply aE|with_reducible first|apply aG|apply aF|apply aK|apply aH|apply aJ|apply aI|apply aL|apply aC))
    refine aA hix (aA hy3 ?_)
    refine kA (x:=y) (n:=260) aHD (by show aKr.toArray.size=260; rw[List.size_toArray,aD9]) rfl hy2 hy1.okL hfh (by omega) fun h6 hs6 hf6 g6 _=>?_
    have LB:=aDu (ro:=ro) (z:=0) (off:=0) (n:=259) g6 (by omega)
    rw[List.drop_zero,htk] at LB
    (repeat(first|refine zzB ?_|apply aD|apply aE|with_reducible first|apply aG|apply aF|apply aK|apply aH|apply aJ|apply aI|apply aL|apply aC))
    refine aA LB ?_
    refine aJL (X0:=X) (hf6.mono (by omega)) (hA.sub (hsh.trans hs6)) (fun h9=>by rw[hT.ok ee hemem] at h9; cases h9) (fun b hb=>by have:=hi.xl b hb; omega) fun _ p2 ps X2 h7 n7 hn7 hf7 hs7 hX2 hX2e hMI=>?_
    subst hX2e
    refine aA (aGb _ _) (aA (aGc _ _) ?_)
    refine aAA rfl ?_
    (repeat(first|refine aA (by simp (disch:=first|omega|exact nnN _|assumption) only [BB,B2,↓reduceIte,Nat.reduceLeDiff,Nat.reduceAdd,CC,bC]<;>rfl) ?_|apply aD|apply aE|with_reducible first|apply aG|apply aF|apply aK|apply aH|apply aJ|apply aI|apply aL|apply aC))
    have hi6:=hi.subs hs6 (hf6.mono (show nx'+3+1≤nx'+8 by omega)) (by omega)
    have hi7:=hi6.subs hs7 hf7 (by omega)
    have m4:(scL kv tv ev mv most cX (kY Tb) 0)[4]?=some mv:=rfl
    refine aA (aZ hi7.cell m4) ?_
    obtain⟨i9,t1,t2,t3⟩:=aNN
    have hql:qs.length≤1000:=by have:=hi.mq.lq; simp at this; omega
    refine aAX (z:=1) (l:=sR qs) (y:=[ptr p2]) (aMb _ _) rfl hi7.mo aL9 t1 (by omega) (by omega) aN4 rfl rfl (by rw[aBw,t3]; unfold big; omega) (by rw[aBw]; unfold big; omega) (hf7.mono (by omega)) (by omega) (by omega) (fun e=>by have:=hf7.lt' (hi7.mo.blk e).2; omega) fun h8 ho8 hk8 hf8=>?_
    generalize hnv:Value.slice (some (own (n7+15) 1)) (sR qs++[[ptr p2]]).length (sR qs++[[ptr p2]]).length=mv2 at ho8
    have hsb:iK mv2=some (n7+15):=by rw[← hnv]; rfl
    have hi8:=hi6.mach (q:=(p2,ps)) (l1:=n7+13) hek hMI hs7 hf7 hX2 (by omega) ho8 hsb hk8 (by omega) (by omega) hf8
    have g8:=hk8 _ _ hi7.cell (by have:=hf7.lt' hi7.cell; omega) (hi7.mo.ne hi7.cell (by decide))
    dsimp only
    (repeat(first|refine aA (by simp (disch:=first|omega|exact nnN _|assumption) only [BB,B2,↓reduceIte,Nat.reduceLeDiff,Nat.reduceAdd,CC,bC]<;>rfl) ?_|apply aD|apply aE|with_reducible first|apply aG|apply aF|apply aK|apply aH|apply aJ|apply aI|apply aL|apply aC))
    refine aA (dJ g8 (by simp[scL]) ho8.ok (by rw[← hnv]; rfl)) ?_
    have hov2:(scL kv tv ev mv most cX (kY Tb) 0).set 4 mv2=scL kv tv ev mv2 most cX (kY Tb) 0:=rfl
    rw[hov2]
    generalize hh8:h8.upd p (some (.cells (scL kv tv ev mv2 most cX (kY Tb) 0).toArray aQ))=h9 at hi8
    have g69:h9.get (nx'+3)=some (.cells y.toArray cN):=by
     have hp6:=hi.xl _ hi.xp
     rw[← hh8,T.get_upd_ne _ _ (by omega)]
     refine hk8 _ _ (hs7 _ _ g6) (by omega) fun e9=>?_
     have:=hi.xl _ (hi.xm _ (eV.2 e9))
     omega
    have m3':(scL kv tv ev mv2 most cX (kY Tb) 0)[3]?=some ev:=rfl
    (repeat(first|refine aA (by simp (disch:=first|omega|exact nnN _|assumption) only [BB,B2,↓reduceIte,Nat.reduceLeDiff,Nat.reduceAdd,CC,bC]<;>rfl) ?_|apply aD|apply aE|with_reducible first|apply aG|apply aF|apply aK|apply aH|apply aJ|apply aI|apply aL|apply aC))
    refine aA (aZ hi8.cell m3') ?_
    (repeat(first|refine zzB ?_|apply aD|apply aE|with_reducible first|apply aG|apply aF|apply aK|apply aH|apply aJ|apply aI|apply aL|apply aC))
    refine aA (aZ g69 c259) ?_
    refine tE (hR.sub hi8.sb) (by have:=hl4 ee hemem; omega) (hi8.frr.mono (by omega)) fun rv h10 n10 hn10 hf10 hs10 hrv=>?_
    refine⟨fT hi8.cell (hs10 _ _ hi8.cell),?_⟩
    obtain⟨ro1,rn,rc,hrf⟩:=hrv.form
    refine aA (by rw[hrf]; exact aKf _ _ _) ?_
    have hi10:=hi8.subs hs10 hf10 (by omega)
    obtain⟨i10,u1,u2,u3⟩:=aOZ
    have hesl:es.length≤1000:=by have:=hi8.el; omega
    refine aAX (z:=260) (l:=es) (y:=vO++[rv]) (by rw[hrf]; exact aNt _ _ _ _) (by rw[List.length_append,rW]; rfl) hi10.eo aNV u1 (by omega) (by omega) aHD (by show aKr.toArray.size=260; rw[List.size_toArray,aD9]) (by rw[List.all_append]; simp[hrv.ok]; decide) (by rw[u3]; unfold big; omega) (by unfold big; omega) (hf10.mono (by omega)) (by omega) (by omega) (fun e=>by have:=hi8.xl _ (hi8.xe _ (eV.2 e)); omega) fun h11 ho11 hk11 hf11=>?_
    generalize hnv2:Value.slice (some (own n10 260)) (es++[vO++[rv]]).length (es++[vO++[rv]]).length=ev2 at ho11
    have hsb2:iK ev2=some n10:=by rw[← hnv2]; rfl
    have hi11:=(hi8.subs (Sub.refl _) (hi8.frr.mono (show n7+15+1≤n7+15+1+13 by omega)) (by omega)).ent (l1:=n7+15+1+13) hek hs10 hrv (Nat.le_refl _) (by omega) ho11 hsb2 hk11 (by omega) hf10 hf11
    have g11:=hk11 _ _ hi10.cell (by have:=hi8.frr.lt' hi8.cell; omega) (hi10.eo.ne hi10.cell (by decide))
    dsimp only
    (repeat(first|refine aA (by simp (disch:=first|omega|exact nnN _|assumption) only [BB,B2,↓reduceIte,Nat.reduceLeDiff,Nat.reduceAdd,CC,bC]<;>rfl) ?_|apply aD|apply aE|with_reducible first|apply aG|apply aF|apply aK|apply aH|apply aJ|apply aI|apply aL|apply aC))
    refine aA (dJ g11 (by simp[scL]) ho11.ok (by rw[← hnv2]; rfl)) ?_
    have hov3:(scL kv tv ev mv2 most cX (kY Tb) 0).set 3 ev2=scL kv tv ev2 mv2 most cX (kY Tb) 0:=rfl
    rw[hov3]
    (repeat(first|refine zzB ?_|apply aD|apply aE|with_reducible first|apply aG|apply aF|apply aK|apply aH|apply aJ|apply aI|apply aL|apply aC))
    exact hq (j - 1) _ _ _ _ (by omega) ⟨k+1,_,_,mv2,ev2,_,by omega,by omega,e6,e33,e34,rfl,hi11.subs (Sub.refl _) (hi11.frr.mono (by omega)) (by omega)⟩ (Sub.refl _)
   ·(repeat(first|refine zzB ?_|apply aD|apply aE|with_reducible first|apply aG|apply aF|apply aK|apply aH|apply aJ|apply aI|apply aL|apply aC))
    refine hx _ _ _ _ (fun e=>by cases e) (eD (cQ ?_))
    obtain rfl:k=Tb.entries.length:=by omega
    obtain⟨hfin,hbl⟩:=hi.fin fun b hb=>by have:=hX0 b hb; omega
    have hend:∀ (e':Env) n',e' 6=ptr p→nx'≤n'→tP ro K e' h' n':=by
     intro e' n' f6 hn'
     unfold tP
     rw[f6]
     exact⟨h',Sub.refl _,hK1 (by omega) hr p qs h' _ (by omega) (hfh.mono (by omega)) (hs1.trans hsh) (fun b hb=>by have:=hbl b hb; omega) hfin⟩
    exact hend _ _ e6 (by omega)
end
end V
end Go.Proofs.YtcaccnneblghgaaGreat
namespace Go.Proofs.YtcaccnneblghgaaGreat
namespace V
attribute [local irreducible] aB ifP aR cT eQ exP cO
theorem aLO:dS Tryz.prog 20 kH=some [1,1,1]:=by kernel_rfl
theorem aOx:aEl [1,1,1] .eql (.agg #[.int .i64 0,.int .i64 0,.int .i64 (-1)]) (.agg #[.int .i64 0,.int .i64 0,.int .i64 (-1)])=some (.bool true):=by kernel_rfl
theorem aOy {a b c:Int} (ha:a≠0):aEl [1,1,1] .eql (.agg #[.int .i64 a,.int .i64 b,.int .i64 c]) (.agg #[.int .i64 0,.int .i64 0,.int .i64 (-1)])=some (.bool false):=by
 simp[aEl,dD,gV,ha]
def ScV (ro:Ro) (h:T Obj) (X:List Nat) (p:Nat) (qs:List MqD) (T:TabD) (most er_:Int) (kv tv ev mv bv:Value) (s:ScD):Prop:=h.get p=some (.cells (scL kv tv ev mv most bv s er_).toArray aQ) ∧
 Sl ro (del h X) kv 1 (aAS T.kinds)∧Sl ro (del h X) tv 1 (kK T.to)∧SlR ro (del h X) ev 260 (pO ro (del h X)) T.entries∧Sl ro (del h X) mv 1 (sR qs)∧Sl ro (del h X) bv 1 (bU s.kept)∧MsX ro h X qs (T.entries.map (·.a)) s.ms∧p∈X∧∀ q∈qs,p ∉ mU q
section
variable {ro:Ro}{h h':T Obj}{nx:Nat}{X X':List Nat}{p:Nat}{qs:List MqD}{T:TabD}{most er_ er':Int}{kv tv ev mv bv:Value}{s s':ScD}
theorem ScV.x (hm:ScV ro h X p qs T most er_ kv tv ev mv bv s):ScX ro h X p qs T most er_ s:=⟨kv,tv,ev,mv,bv,hm⟩
theorem ScV.keep {ids:List Nat} (hm:ScV ro h X p qs T most er_ kv tv ev mv bv s) (hs:dM ids h h') (h1:∀ k∈ids,k∈X) (h2:∀ q∈qs,∀ k∈ids,k ∉ mU q) (h0:p ∉ ids) (h3:∀ k∈X',k∈X∨h.get k=none) (h4:∀ k∈X,k∈X'):ScV ro h' X' p qs T most er_ kv tv ev mv bv s:=by
 obtain⟨g1,g2,g3,g4,g5,g6,g7,g8,g9⟩:=hm
 have hD:Sub (del h X) (del h' X'):=hs.del h1 h3
 exact⟨hs _ _ g1 h0,g2.sub hD,g3.sub hD,g4.sub hD (pO.sub hD),g5.sub hD,g6.sub hD,g7.keep hs h1 h2 h3 h4,h4 p g8,g9⟩
theorem ScV.sub (hm:ScV ro h X p qs T most er_ kv tv ev mv bv s) (hs:Sub h h'):ScV ro h' X p qs T most er_ kv tv ev mv bv s:=hm.keep (ids:=[]) hs.keepL (fun k hk=>by cases hk) (fun q hq k hk=>by cases hk) (fun hk=>by cases hk) (fun k hk=>.inl hk) fun k hk=>hk
theorem ScV.upd (hm:ScV ro h X p qs T most er_ kv tv ev mv bv s) (hms:s'.ms=s.ms) (hb:s'.kept=s.kept):ScV ro (h.upd p (some (.cells (scL kv tv ev mv most bv s' er').toArray aQ))) X p qs T most er' kv tv ev mv bv s':=by
 obtain⟨g1,g2,g3,g4,g5,g6,g7,g8,g9⟩:=hm
 have hk:dM [p] h (h.upd p (some (.cells (scL kv tv ev mv most bv s' er').toArray aQ))):=((Sub.refl _).keepL).upd (by simp)
 have hX:∀ k∈[p],k∈X:=fun k hk=>by simp at hk; subst hk; exact g8
 have hD:Sub (del h X) (del (h.upd p (some (.cells (scL kv tv ev mv most bv s' er').toArray aQ))) X):=hk.del hX fun k hk=>.inl hk
 refine⟨V.T.get_upd_same _ _ _,g2.sub hD,g3.sub hD,g4.sub hD (pO.sub hD),g5.sub hD,by rw[hb]; exact g6.sub hD,?_,g8,g9⟩
 rw[hms]
 exact g7.keep hk hX (fun q hq k hk=>by simp at hk; subst hk; exact g9 q hq) (fun k hk=>.inl hk) fun k hk=>hk
theorem ScV.updB {bv':Value} (hm:ScV ro h X p qs T most er_ kv tv ev mv bv s) (hms:s'.ms=s.ms) (hb:Sl ro (del h X) bv' 1 (bU s'.kept)):ScV ro (h.upd p (some (.cells (scL kv tv ev mv most bv' s' er').toArray aQ))) X p qs T most er' kv tv ev mv bv' s':=by
 obtain⟨g1,g2,g3,g4,g5,g6,g7,g8,g9⟩:=hm
 have hk:dM [p] h (h.upd p (some (.cells (scL kv tv ev mv most bv' s' er').toArray aQ))):=((Sub.refl _).keepL).upd (by simp)
 have hX:∀ k∈[p],k∈X:=fun k hk=>by simp at hk; subst hk; exact g8
 have hD:Sub (del h X) (del (h.upd p (some (.cells (scL kv tv ev mv most bv' s' er').toArray aQ))) X):=hk.del hX fun k hk=>.inl hk
 refine⟨V.T.get_upd_same _ _ _,g2.sub hD,g3.sub hD,g4.sub hD (pO.sub hD),g5.sub hD,hb.sub hD,?_,g8,g9⟩
 rw[hms]
 exact g7.keep hk hX (fun q hq k hk=>by simp at hk; subst hk; exact g9 q hq) (fun k hk=>.inl hk) fun k hk=>hk
theorem ScV.step {i:Nat}{q:MqD}{d:AutoD}{m':MacD} (hm:ScV ro h X p qs T most er_ kv tv ev mv bv s) (hq:qs[i]?=some q) (hd:(T.entries.map (·.a))[i]?=some d) (hk:dM (q.1::j5 q.2) h h') (hn:MI ro h' X q.1 q.2 (er d) m'):ScV ro h' X p qs T most er_ kv tv ev mv bv { s with ms:=s.ms.set i m' }:=by
 obtain⟨g1,g2,g3,g4,g5,g6,g7,g8,g9⟩:=hm
 have hX:=g7.inX hq
 have hD:Sub (del h X) (del h' X):=hk.del hX fun k hk=>.inl hk
 exact⟨hk p _ g1 (g9 q (List.mem_of_getElem? hq)),g2.sub hD,g3.sub hD,g4.sub hD (pO.sub hD),g5.sub hD,g6.sub hD,g7.step hq hd hk hX hn,g8,g9⟩
theorem ScV.at (hm:ScV ro h X p qs T most er_ kv tv ev mv bv s) {i:Nat}{e:EntD}{m:MacD} (he:T.entries[i]?=some e) (hs:s.ms[i]?=some m):∃ q,qs[i]?=some q∧MI ro h X q.1 q.2 (er e.a) m∧(T.entries.map (·.a))[i]?=some e.a:=by
 obtain⟨g1,g2,g3,g4,g5,g6,g7,g8,g9⟩:=hm
 have l1:=g7.lq
 rw[List.length_map] at l1
 have hi:=(List.getElem?_eq_some_iff.1 he).1
 have e3:(T.entries.map (·.a))[i]?=some e.a:=by rw[List.getElem?_map,he]; rfl
 exact⟨_,List.getElem?_eq_getElem (by omega),g7.at_ i _ _ _ (List.getElem?_eq_getElem (by omega)) e3 hs,e3⟩
end
def eY (p:Nat) (qs:List MqD):List Nat:=p::qs.flatMap mU
theorem aGk {p:Nat}{qs:List MqD}{q:MqD} (hq:q∈qs):∀ k∈q.1::j5 q.2,k∈eY p qs:=fun k hk=>List.mem_cons_of_mem _ (List.mem_flatMap.2 ⟨q,hq,hk⟩)
theorem aGy:siz Tryz.prog bS=some 1:=by kernel_rfl
theorem aNH {l:List MacD}{i:Nat}{m:MacD} (h:l[i]?=some m):l.set i m=l:=by
 apply List.ext_getElem?
 intro j
 by_cases hj:i=j
 ·subst hj; rw[List.getElem?_set_self (List.getElem?_eq_some_iff.1 h).1,h]
 ·rw[List.getElem?_set_ne hj]
section
variable {ro:Ro}{h:T Obj}{nx:Nat}{K:KV}{X:List Nat}{p:Nat}{qs:List MqD}{T:TabD}{most er_:Int}{kv tv ev mv bv:Value}{s:ScD}
set_option maxRecDepth 8000 in
set_option maxHeartbeats 2000000 in
theorem aKF {K0:Nat}{q:MqD}{t0:TryD}{e0:Env} (hT:TabR T) (hI:ScI T s) (hv:ScV ro h X p qs T most er_ kv tv ev mv bv (cY s t0)) (hf:Fr h nx) (hq:qs[qU s]?=some q) (ht1:t0.took=s.took) (ht2:t0.steps=s.steps) (hlk:LkOk (s.steps+1) (qV T s) t0)
  (heq:zL (qV T s).a (s.kept.drop s.took) t0=o8 T s) (hsz:s.steps+s.kept.length≤90000) (f0:e0 0=ptr p) (f3:e0 3=ptr q.1)
  (hK:∀ h' nx',nx≤nx'→Fr h' nx'→dM (eY p qs) h h'→ScX ro h' X p qs T most er_ (d5 T s).2→K (.bool (d5 T s).1) h' nx'):jK ro K e0 h nx:=by
 obtain⟨he1,he2,m9,hm9,_⟩:=hI.at
 generalize hD:(qV T s).a=D at *
 have hok:fH D=true:=by rw[← hD]; exact hT.ok _ he2
 have hokE:=aKb hok
 have g1:=hv.1
 have g6:Sl ro (del h X) bv 1 (bU s.kept):=hv.2.2.2.2.2.1
 have hpX:p∈X:=hv.2.2.2.2.2.2.2.1
 have htk:=hI.ok.took
 unfold jK
 rw[f0]
 have l6:=aZ (ro:=ro) (z:=0) g1 (show (scL kv tv ev mv most bv (cY s t0) er_)[6]?=some bv from rfl)
 have l10:=aZ (ro:=ro) (z:=0) g1 (show (scL kv tv ev mv most bv (cY s t0) er_)[10]?=some (.int .i64 (t0.took:Int)) from rfl)
 rw[ht1] at l10
 obtain⟨rv,hrv1,hrv2⟩:=Sl.drop (P:=Tryz.prog) g6 lB aGy (n:=s.took) (by rw[dL]; exact htk) .i64
 have hdr:(bU s.kept).drop s.took=bU (s.kept.drop s.took):=by simp[bU]
 rw[hdr] at hrv2
 (repeat(first|refine aA (by simp (disch:=first|omega|exact nnN _|assumption) only [BB,B2,↓reduceIte,Nat.reduceLeDiff,Nat.reduceAdd,CC,bC,l6,l10]<;>rfl) ?_|apply aD|apply aE|with_reducible first|apply aG|apply aF|apply aK|apply aH|apply aJ|apply aI|apply aL|apply aC))
 refine aA hrv1 ?_
 have hrl:=(hrv2.sub (eF h X)).len
 rw[dL] at hrl
 refine aA hrl ?_
 have hrlen:(s.kept.drop s.took).length=s.kept.length - s.took:=List.length_drop
 have hrb:∀ x∈s.kept.drop s.took,x < 256:=fun x hx=>hI.kb x (List.mem_of_mem_drop hx)
 generalize s.kept.drop s.took=rest at *
 refine bE (fun j e h' nx'=>∃ (i:Nat) (t:TryD),i+j=rest.length∧nx≤nx'∧e 0=ptr p∧e 3=ptr q.1∧e 32=rv∧e 33=.int .i64 rest.length∧e 34=.int .i64 i∧dM (eY p qs) h h'∧Fr h' nx'∧ScV ro h' X p qs T most er_ kv tv ev mv bv (cY s t) ∧
   Sl ro (del h' X) rv 1 (bU rest)∧t.took=s.took+i∧t.steps=s.steps+i∧LkOk (s.steps+1) (qV T s) t∧zL D (rest.drop i) t=o8 T s) ?_ (n:=rest.length)
  ⟨0,t0,by omega,by omega,f0,f3,rfl,rfl,rfl,(Sub.refl _).keepL,hf.mono (by omega),hv,hrv2,by omega,by omega,hlk,by rw[List.drop_zero]; exact heq⟩
 rintro j e h' nx' ⟨i,t,hj,hnx,e00,e03,e32,e33,e34,hkp,hf',hv',hrv',htt,hts,hlk',hend⟩ Q' hc hx
 have g1':=hv'.1
 have hms:(cY s t).ms[qU s]?=some t.m:=by
  show (s.ms.set (qU s) t.m)[qU s]?=_
  rw[List.getElem?_set_self (List.getElem?_eq_some_iff.1 hm9).1]
 unfold p7
 rw[e00,e03,e32,e33,e34]
 refine cV (fun hk=>?_) (fun hk=>?_)
 ·have hk:i < rest.length:=by omega
  have hrvh:=hrv'.sub (eF h' X)
  have hix:=hrvh.ix .i64 (i:=i) (by rw[dL]; exact hk)
  have hld:=hrvh.load1 (rY hk)
  have hbb:=hrb _ (List.getElem_mem hk)
  have hdrp:rest.drop i=rest[i]::rest.drop (i+1):=List.drop_eq_getElem_cons hk
  rw[hdrp,aBh] at hend
  generalize rest[i]=b at hld hbb hend
  have l10:=aZ (ro:=ro) (z:=0) g1' (show (scL kv tv ev mv most bv (cY s t) er_)[10]?=some (.int .i64 (t.took:Int)) from rfl)
  have hlt:t.took < 90000∧t.steps < 90000:=by omega
  have hov1:(scL kv tv ev mv most bv (cY s t) er_).set 10 (.int .i64 ((t.took:Int)+1))=scL kv tv ev mv most bv (cY s { t with took:=t.took+1 }) er_:=rfl
  have hv1:=hv'.upd (s':=cY s { t with took:=t.took+1 }) (er':=er_) rfl rfl
  have hov2:(scL kv tv ev mv most bv (cY s { t with took:=t.took+1 }) er_).set 15 (.int .i64 ((t.steps:Int)+1))=scL kv tv ev mv most bv (cY s { t with took:=t.took+1,steps:=t.steps+1 }) er_:=rfl
  have hf1:Fr (h'.upd p (some (.cells (scL kv tv ev mv most bv (cY s { t with took:=t.took+1 }) er_).toArray aQ))) nx':=hf'.upd (Nat.le_refl _) (hf'.lt' g1')
  have hkp1:dM (eY p qs) h (h'.upd p (some (.cells (scL kv tv ev mv most bv (cY s { t with took:=t.took+1 }) er_).toArray aQ))):=hkp.upd (List.mem_cons_self ..)
  have hD1:Sub (del h' X) (del (h'.upd p (some (.cells (scL kv tv ev mv most bv (cY s { t with took:=t.took+1 }) er_).toArray aQ))) X):=dM.del (ids:=[p]) ((Sub.refl _).keepL.upd (by simp)) (fun k hk=>by simp at hk; subst hk; exact hpX) fun k hk=>.inl hk
  generalize hh1:h'.upd p (some (.cells (scL kv tv ev mv most bv (cY s { t with took:=t.took+1 }) er_).toArray aQ))=h1 at hv1 hf1 hkp1 hD1
  have l15:=aZ (ro:=ro) (z:=0) hv1.1 (show (scL kv tv ev mv most bv (cY s { t with took:=t.took+1 }) er_)[15]?=some (.int .i64 (t.steps:Int)) from rfl)
  have hv2:=hv1.upd (s':=cY s { t with took:=t.took+1,steps:=t.steps+1 }) (er':=er_) rfl rfl
  have hf2:Fr (h1.upd p (some (.cells (scL kv tv ev mv most bv (cY s { t with took:=t.took+1,steps:=t.steps+1 }) er_).toArray aQ))) nx':=hf1.upd (Nat.le_refl _) (hf'.lt' g1')
  have hkp2:dM (eY p qs) h (h1.upd p (some (.cells (scL kv tv ev mv most bv (cY s { t with took:=t.took+1,steps:=t.steps+1 }) er_).toArray aQ))):=hkp1.upd (List.mem_cons_self ..)
  have hD2:Sub (del h1 X) (del (h1.upd p (some (.cells (scL kv tv ev mv most bv (cY s { t with took:=t.took+1,steps:=t.steps+1 }) er_).toArray aQ))) X):=dM.del (ids:=[p]) ((Sub.refl _).keepL.upd (by simp)) (fun k hk=>by simp at hk; subst hk; exact hpX) fun k hk=>.inl hk
  (repeat(first|refine zzB ?_|apply aD|apply aE|with_reducible first|apply aG|apply aF|apply aK|apply aH|apply aJ|apply aI|apply aL|apply aC))
  refine aA hix (aA hld ?_)
  (repeat(first|refine aA (by simp (disch:=first|omega|exact nnN _|assumption) only [BB,B2,↓reduceIte,Nat.reduceLeDiff,Nat.reduceAdd,CC,bC,l10]<;>rfl) ?_|apply aD|apply aE|with_reducible first|apply aG|apply aF|apply aK|apply aH|apply aJ|apply aI|apply aL|apply aC))
  refine aA (dJ g1' (by simp[scL]) rfl rfl) ?_
  rw[hov1,hh1]
  (repeat(first|refine aA (by simp (disch:=first|omega|exact nnN _|assumption) only [BB,B2,↓reduceIte,Nat.reduceLeDiff,Nat.reduceAdd,CC,bC,l15]<;>rfl) ?_|apply aD|apply aE|with_reducible first|apply aG|apply aF|apply aK|apply aH|apply aJ|apply aI|apply aL|apply aC))
  refine aA (dJ hv1.1 (by simp[scL]) rfl rfl) ?_
  rw[hov2]
  generalize hh2:h1.upd p (some (.cells (scL kv tv ev mv most bv (cY s { t with took:=t.took+1,steps:=t.steps+1 }) er_).toArray aQ))=h2 at hv2 hf2 hkp2 hD2
  obtain⟨q2,hq2,hMI,hmap⟩:=hv2.at (m:=t.m) he1 hms
  rw[hq] at hq2
  cases hq2
  rw[hD] at hMI hmap
  have hst:=hlk'.st
  refine aHf hMI hokE (aIt (by rw[← hD]; exact hlk'.mok)) hbb (hf2.mono (by omega)) hlk'.w (by omega) (by omega) fun h3 n3 hn3 hf3 hk3 hM3=>?_
  rw[aP6]
  rw[aNJ] at hM3
  have hv3:ScV ro h3 X p qs T most er_ kv tv ev mv bv (cY s (tk0 D t b)):=by
   have h9:=hv2.step hq hmap hk3 hM3
   have h8:{ (cY s { t with took:=t.took+1,steps:=t.steps+1 }) with ms:=(cY s { t with took:=t.took+1,steps:=t.steps+1 }).ms.set (qU s) (mM D t.m b) }=cY s (tk0 D t b):=by
    unfold cY tk0
    simp only[List.set_set]
   rw[h8] at h9
   exact h9
  have hqX:=hv2.2.2.2.2.2.2.1.inX hq
  have hkp3:dM (eY p qs) h h3:=hkp2.trans (hk3.mono (aGk (List.mem_of_getElem? hq)))
  have hD3:Sub (del h2 X) (del h3 X):=hk3.del hqX fun k hk=>.inl hk
  have hrv3:=hrv'.sub ((hD1.trans hD2).trans hD3)
  have hlk0:=hlk'.tk0 hT he2 hbb
  have hlk1:=hlk'.tk1 hT he2 hbb
  rw[hD] at hlk0 hlk1
  cases hon:onM D t.m b with
  | false =>
   rw[hon] at hend
   have hend:(true,tk0 D t b)=o8 T s:=hend
   (repeat(first|refine zzB ?_|apply aD|apply aE|with_reducible first|apply aG|apply aF|apply aK|apply aH|apply aJ|apply aI|apply aL|apply aC))
   refine hx _ _ _ _ (fun e=>by cases e) (eS ?_)
   refine⟨h3,Sub.refl _,?_⟩
   have h9:=hK h3 (n3+2) (by omega) (hf3.mono (by omega)) hkp3
   have e1:(d5 T s).2=cY s (tk0 D t b):=by show cY s (o8 T s).2=_; rw[← hend]
   have e2:(d5 T s).1=true:=by show ((o8 T s).1 || s.closed)=true; rw[← hend]; rfl
   rw[e1,e2] at h9
   exact h9 hv3.x
  | true =>
   rw[hon,if_pos rfl] at hend
   (repeat(first|refine zzB ?_|apply aD|apply aE|with_reducible first|apply aG|apply aF|apply aK|apply aH|apply aJ|apply aI|apply aL|apply aC))
   have hM3':MI ro h3 X q.1 q.2 (er D) (tk0 D t b).m:=hM3
   have hmok3:MOk D (tk0 D t b).m:=by rw[← hD]; rw[← hD] at hlk0; exact hlk0.mok
   refine aHe hM3' hokE (aIt hmok3) (hf3.mono (by omega)) fun n4 hn4=>?_
   rw[aND]
   have hru:qP D (tk0 D t b).m=qP D (mM D t.m b):=rfl
   rw[hru]
   have hnext:∀ (e':Env) (h':V.T Obj) (n':Nat),e' 0=ptr p→e' 3=ptr q.1→e' 32=rv→e' 33=.int .i64 rest.length→e' 34=.int .i64 i→nx≤n'→dM (eY p qs) h h'→Fr h' n'→ScV ro h' X p qs T most er_ kv tv ev mv bv (cY s (tk1 D t b))→Sl ro (del h' X) rv 1 (bU rest)→jM ro Q' e' h' n':=by
    intro e' h' n' d0 d3 d32 d33 d34 dn dk df dv ds
    unfold jM
    rw[d34]
    (repeat(first|refine zzB ?_|apply aD|apply aE|with_reducible first|apply aG|apply aF|apply aK|apply aH|apply aJ|apply aI|apply aL|apply aC))
    exact hc (j - 1) _ _ _ _ (by omega) ⟨i+1,tk1 D t b,by omega,by omega,d0,d3,d32,d33,rfl,dk,df.mono (by omega),dv,ds,by rw[aIq]; omega,by rw[aFx]; omega,hlk1,hend⟩ (Sub.refl _)
   by_cases hr:qP D (mM D t.m b)=-1
   ·have e1:tk1 D t b=tk0 D t b:=by unfold tk1; rw[if_pos hr]
    refine aAA (by omega) ?_
    (repeat(first|refine zzB ?_|apply aD|apply aE|with_reducible first|apply aG|apply aF|apply aK|apply aH|apply aJ|apply aI|apply aL|apply aC))
    refine hnext _ _ _ e00 e03 e32 e33 e34 ?_ hkp3 ?_ (by rw[e1]; exact hv3) hrv3
    ·omega
    ·exact hf3.mono (by omega)
   ·have e1:tk1 D t b=⟨t.took+1,t.took+1,qP D (mM D t.m b),t.steps+1,mM D t.m b⟩:=by unfold tk1; rw[if_neg hr]
    refine aFf (by omega) ?_
    have l10b:=aZ (ro:=ro) (z:=0) hv3.1 (show (scL kv tv ev mv most bv (cY s (tk0 D t b)) er_)[10]?=some (.int .i64 ((t.took+1:Nat):Int)) from rfl)
    have hov4:(scL kv tv ev mv most bv (cY s (tk0 D t b)) er_).set 11 (.int .i64 ((t.took+1:Nat):Int))=scL kv tv ev mv most bv (cY s { tk0 D t b with held:=t.took+1 }) er_:=rfl
    have hv4:=hv3.upd (s':=cY s { tk0 D t b with held:=t.took+1 }) (er':=er_) rfl rfl
    have hf4:Fr (h3.upd p (some (.cells (scL kv tv ev mv most bv (cY s { tk0 D t b with held:=t.took+1 }) er_).toArray aQ))) n3:=hf3.upd (Nat.le_refl _) (hf3.lt' hv3.1)
    have hkp4:dM (eY p qs) h (h3.upd p (some (.cells (scL kv tv ev mv most bv (cY s { tk0 D t b with held:=t.took+1 }) er_).toArray aQ))):=hkp3.upd (List.mem_cons_self ..)
    have hD4:Sub (del h3 X) (del (h3.upd p (some (.cells (scL kv tv ev mv most bv (cY s { tk0 D t b with held:=t.took+1 }) er_).toArray aQ))) X):=dM.del (ids:=[p]) ((Sub.refl _).keepL.upd (by simp)) (fun k hk=>by simp at hk; subst hk; exact hpX) fun k hk=>.inl hk
    generalize hh4:h3.upd p (some (.cells (scL kv tv ev mv most bv (cY s { tk0 D t b with held:=t.took+1 }) er_).toArray aQ))=h4 at hv4 hf4 hkp4 hD4
    have hov5:(scL kv tv ev mv most bv (cY s { tk0 D t b with held:=t.took+1 }) er_).set 12 (.int .i64 (qP D (mM D t.m b)))=scL kv tv ev mv most bv (cY s (tk1 D t b)) er_:=by rw[e1]; rfl
    have hv5:=hv4.upd (s':=cY s (tk1 D t b)) (er':=er_) (by rw[e1]; rfl) (by rw[e1]; rfl)
    have hf5:Fr (h4.upd p (some (.cells (scL kv tv ev mv most bv (cY s (tk1 D t b)) er_).toArray aQ))) n3:=hf4.upd (Nat.le_refl _) (hf3.lt' hv3.1)
    have hkp5:dM (eY p qs) h (h4.upd p (some (.cells (scL kv tv ev mv most bv (cY s (tk1 D t b)) er_).toArray aQ))):=hkp4.upd (List.mem_cons_self ..)
    have hD5:Sub (del h4 X) (del (h4.upd p (some (.cells (scL kv tv ev mv most bv (cY s (tk1 D t b)) er_).toArray aQ))) X):=dM.del (ids:=[p]) ((Sub.refl _).keepL.upd (by simp)) (fun k hk=>by simp at hk; subst hk; exact hpX) fun k hk=>.inl hk
    (repeat(first|refine aA (by simp (disch:=first|omega|exact nnN _|assumption) only [BB,B2,↓reduceIte,Nat.reduceLeDiff,Nat.reduceAdd,CC,bC,l10b]<;>rfl) ?_|apply aD|apply aE|with_reducible first|apply aG|apply aF|apply aK|apply aH|apply aJ|apply aI|apply aL|apply aC))
    refine aA (dJ hv3.1 (by simp[scL]) rfl rfl) ?_
    rw[hov4,hh4]
    (repeat(first|refine aA (by simp (disch:=first|omega|exact nnN _|assumption) only [BB,B2,↓reduceIte,Nat.reduceLeDiff,Nat.reduceAdd,CC,bC]<;>rfl) ?_|apply aD|apply aE|with_reducible first|apply aG|apply aF|apply aK|apply aH|apply aJ|apply aI|apply aL|apply aC))
    refine aA (dJ hv4.1 (by simp[scL]) rfl rfl) ?_
    rw[hov5]
    refine hnext _ _ _ e00 e03 e32 e33 e34 ?_ hkp5 ?_ hv5 ((hrv3.sub hD4).sub hD5)
    ·omega
    ·exact hf5.mono (by omega)
 ·(repeat(first|refine zzB ?_|apply aD|apply aE|with_reducible first|apply aG|apply aF|apply aK|apply aH|apply aJ|apply aI|apply aL|apply aC))
  refine hx _ _ _ _ (fun e=>by cases e) (eD (cQ ?_))
  have hil:i=rest.length:=by omega
  rw[hil,List.drop_length] at hend
  have hend:(false,t)=o8 T s:=hend
  have hfin:∀ (e':Env) n',e' 0=ptr p→nx'≤n'→jL ro K e' h' n':=by
   intro e' n' d0 dn
   unfold jL
   rw[d0]
   have l14:=aZ (ro:=ro) (z:=0) g1' (show (scL kv tv ev mv most bv (cY s t) er_)[14]?=some (.bool s.closed) from rfl)
   (repeat(first|refine aA (by simp (disch:=first|omega|exact nnN _|assumption) only [BB,B2,↓reduceIte,Nat.reduceLeDiff,Nat.reduceAdd,CC,bC,l14]<;>rfl) ?_|apply aD|apply aE|with_reducible first|apply aG|apply aF|apply aK|apply aH|apply aJ|apply aI|apply aL|apply aC))
   refine⟨h',Sub.refl _,?_⟩
   have h9:=hK h' (n'+5) (by omega) (hf'.mono (by omega)) hkp
   have e1:(d5 T s).2=cY s t:=by show cY s (o8 T s).2=_; rw[← hend]
   have e2:(d5 T s).1=s.closed:=by show ((o8 T s).1 || s.closed)=_; rw[← hend]; rfl
   rw[e1,e2] at h9
   exact h9 hv'.x
  exact hfin _ _ e00 (by omega)
set_option maxRecDepth 8000 in
set_option maxHeartbeats 1000000 in
theorem aIg (hm:ScX ro h X p qs T most er_ s) (hT:TabR T) (hI:ScI T s) (hTl:T.entries.length≤1000) (hsz:s.steps+s.kept.length≤90000) (hf:Fr h nx)
  (hK:∀ h' nx',nx≤nx'→Fr h' nx'→dM (eY p qs) h h'→ScX ro h' X p qs T most er_ (d5 T s).2→K (.bool (d5 T s).1) h' nx'):aN Tryz.prog ro mR [ptr p] h nx K:=by
 obtain⟨kv,tv,ev,mv,bv,hv⟩:=id hm
 have hv:ScV ro h X p qs T most er_ kv tv ev mv bv s:=hv
 obtain⟨he1,he2,m,hm9,hm8⟩:=hI.at
 obtain⟨q,hq,hMI,hmap⟩:=hv.at he1 hm9
 have hc:=hI.c
 have hok:=hT.ok _ he2
 obtain⟨mk1,mk2,mk3⟩:=hI.ms _ _ _ he1 hm9
 have hC512:(er (qV T s).a).counts.length≤512:=(fW hok).2.1
 have g1:=hv.1
 apply yV
 unfold tT
 have l4:=aZ (ro:=ro) (z:=0) g1 (show (scL kv tv ev mv most bv s er_)[4]?=some mv from rfl)
 have hmv:Sl ro h mv 1 (sR qs):=hv.2.2.2.2.1.sub (eF h X)
 (repeat(first|refine aA (by simp (disch:=first|omega|exact nnN _|assumption) only [BB,B2,↓reduceIte,Nat.reduceLeDiff,Nat.reduceAdd,CC,bC]<;>rfl) ?_|apply aD|apply aE|with_reducible first|apply aG|apply aF|apply aK|apply aH|apply aJ|apply aI|apply aL|apply aC))
 refine aA l4 ?_
 refine aB3 hm (by omega) fun n1 hn1=>⟨fT g1 g1,?_⟩
 have hql:=(List.getElem?_eq_some_iff.1 hq).1
 have hqe:=(List.getElem?_eq_some_iff.1 hq).2
 refine aA (hmv.ix .i64 (by rw[aBw]; exact hql)) ?_
 have hld:=hmv.load1 (aLU hql)
 rw[hqe] at hld
 refine aA hld ?_
 have LA:=aDu (ro:=ro) (z:=0) (off:=10) (n:=3) g1 (by simp[scL])
 have hdt:((scL kv tv ev mv most bv s er_).drop 10).take 3=[.int .i64 (s.took:Int),.int .i64 (s.held:Int),.int .i64 s.rule]:=rfl
 rw[hdt] at LA
 (repeat(first|refine aA (by simp (disch:=first|omega|exact nnN _|assumption) only [BB,B2,↓reduceIte,Nat.reduceLeDiff,Nat.reduceAdd,CC,bC]<;>rfl) ?_|apply aD|apply aE|with_reducible first|apply aG|apply aF|apply aK|apply aH|apply aJ|apply aI|apply aL|apply aC))
 refine aA LA ?_
 refine aA aBd ?_
 refine aA aLO ?_
 by_cases ht:s.took=0
 ·have hh0:s.held=0:=by have:=hI.ok.held; omega
  have hr0:s.rule=-1:=by
   by_cases hr:s.rule=-1
   ·exact hr
   ·have:=hI.ok.some hr; omega
  rw[ht,hh0,hr0]
  refine aA aOx ?_
  (repeat(first|refine zzB ?_|apply aD|apply aE|with_reducible first|apply aG|apply aF|apply aK|apply aH|apply aJ|apply aI|apply aL|apply aC))
  refine aGQ hMI (aIt mk1) hC512 (hf.mono (by omega)) mk2 (by omega) fun h2 n2 hn2 hf2 hk2 hM2=>?_
  have hv2:=hv.step hq hmap hk2 hM2
  have hts:uN s=⟨s.took,s.held,s.rule,s.steps,aEX m⟩:=by unfold uN; rw[if_pos ht,hm8]
  refine aKF (K0:=0) (kv:=kv) (tv:=tv) (ev:=ev) (mv:=mv) (bv:=bv) (q:=q) (t0:=uN s) hT hI ?_ hf2 hq rfl rfl (hI.lk hT) rfl hsz rfl rfl fun h' n' h3 h4 h5 h6=>hK h' n' (by omega) h4 ((hk2.mono (aGk (List.mem_of_getElem? hq))).trans h5) h6
  rw[hts]
  exact hv2
 ·refine aA (aOy (by omega)) ?_
  (repeat(first|refine zzB ?_|apply aD|apply aE|with_reducible first|apply aG|apply aF|apply aK|apply aH|apply aJ|apply aI|apply aL|apply aC))
  have hts:uN s=⟨s.took,s.held,s.rule,s.steps,m⟩:=by unfold uN; rw[if_neg ht,hm8]
  refine aKF (K0:=0) (kv:=kv) (tv:=tv) (ev:=ev) (mv:=mv) (bv:=bv) (q:=q) (t0:=uN s) hT hI ?_ (hf.mono (by omega)) hq rfl rfl (hI.lk hT) rfl hsz rfl rfl fun h' n' h3 h4 h5 h6=>hK h' n' (by omega) h4 h5 h6
  rw[hts]
  have:cY s ⟨s.took,s.held,s.rule,s.steps,m⟩=s:=by
   unfold cY
   simp only[aNH hm9]
  rw[this]
  exact hv
end
end V
end Go.Proofs.YtcaccnneblghgaaGreat
namespace Go.Proofs.YtcaccnneblghgaaGreat
namespace V
attribute [local irreducible] qR aN aB
@[irreducible] def uJ (ro:Ro) (K:KV):Env→T Obj→Nat→Prop:=fun e h nx=>∃ h5,Sub h5 h∧K (Value.bool true) h5 (nx+1)
@[irreducible] def aAL (ro:Ro):PT:=fun e h nx Q=>aB (bH (e 0)) fun a'=>aB (aO .lss (e 5) a') fun b'=>aR b' (aB (cM 3 (e 0) (e 5)) fun c'=>aB (loadA ro h 3 c') fun d'=>aB (cM 3 (e 1) (e 5)) fun e'=>aB (loadA ro h 3 e') fun f'=>aB (dS Tryz.prog 20 bI) fun i'=>aB (aEl i' .neq d' f') fun g'=>aR g' (Q .ret (puts e [(11,(e 5)),(12,(e 0)),(13,a'),(14,b'),(17,(e 0)),(18,(e 5)),(19,c'),(20,d'),(21,(e 1)),(22,(e 5)),(23,e'),(24,f'),(25,g'),(4,(Value.bool false))]) h (nx+14)) (aB (aO .add (e 5) (Value.int IntKind.i64 1)) fun h'=>Q .normal (puts e [(11,(e 5)),(12,(e 0)),(13,a'),(14,b'),(17,(e 0)),(18,(e 5)),(19,c'),(20,d'),(21,(e 1)),(22,(e 5)),(23,e'),(24,f'),(25,g'),(15,(e 5)),(16,h'),(5,h')]) h (nx+16))) (Q (.exit 0) (puts e [(11,(e 5)),(12,(e 0)),(13,a'),(14,b')]) h (nx+4))
@[irreducible] def aEW (ro:Ro) (v0 v1:Value) (h:T Obj) (nx:Nat) (K:KV):Prop:=aB (bH v0) fun d'=>aB (bH v1) fun e'=>aB (aO .neq d' e') fun f'=>aR f' (∃ h4,Sub h4 h∧K (Value.bool false) h4 (nx+7)) (dT (aAL ro) (puts (gM [v0,v1]) [(4,(Value.bool false)),(6,v0),(7,d'),(8,v1),(9,e'),(10,f'),(5,(Value.int IntKind.i64 0))]) h (nx+7) fun h' a' b' c'=>exP h' (uJ ro K a' b' c') (fun i'=>cO (Nat.beq i' 0) (uJ ro K a' b' c') (False)) (∃ g',Sub g' b'∧K (a' 4) g' c'))
theorem aFN {ro:Ro}{v0 v1:Value}{h:T Obj}{nx:Nat}{K:KV} (hw:aEW ro v0 v1 h nx K):aN Tryz.prog ro rC [v0,v1] h nx K:=bA (P:=Tryz.prog) (fn:=Tryz.f17) (by kernel_rfl) (by kernel_rfl) (by kernel_rfl) (Eq.mpr (by kernel_rfl) hw)
end V
end Go.Proofs.YtcaccnneblghgaaGreat
namespace Go.Proofs.YtcaccnneblghgaaGreat
namespace V
attribute [local irreducible] aB ifP aR cT eQ exP cO
def oS (t:TokD):List Value:=[.int .i64 t.rule,.int .i64 (t.from_:Int),.int .i64 (t.to:Int)]
def lY (l:List TokD):List (List Value):=l.map oS
theorem vJ (l:List TokD):(lY l).length=l.length:=by simp[lY]
theorem aFy {l:List TokD}{i:Nat} (hi:i < l.length):(lY l)[i]?=some (oS l[i]):=by simp[lY,hi]
theorem aLN:dS Tryz.prog 20 bI=some [1,1,1]:=by kernel_rfl
theorem aOB (a b:TokD):aEl [1,1,1] .neq (.agg (oS a).toArray) (.agg (oS b).toArray)=some (.bool (!decide (a=b))):=by
 obtain⟨r,f,t⟩:=a
 obtain⟨r',f',t'⟩:=b
 unfold aEl oS
 by_cases h1:r=r'
 ·by_cases h2:f=f'
  ·by_cases h3:t=t'
   ·subst h1; subst h2; subst h3; simp[dD,gV]
   ·have:¬((t:Int)=(t':Int)):=by omega
    simp[dD,gV,h1,h2,h3,this]
  ·have:¬((f:Int)=(f':Int)):=by omega
   simp[dD,gV,h1,h2,this]
 ·simp[dD,gV,h1]
section
variable {ro:Ro}{h:T Obj}{nx:Nat}{K:KV}
set_option maxRecDepth 4000 in
theorem aBZ {v1 v2:Value}{l m:List TokD} (hl:l.length≤1000000) (hm:m.length≤1000000) (g1:Sl ro h v1 3 (lY l)) (g2:Sl ro h v2 3 (lY m)) (hK:∀ nx',nx≤nx'→K (.bool (decide (l=m))) h nx'):aN Tryz.prog ro rC [v1,v2] h nx K:=by
 have n1:=g1.len
 have n2:=g2.len
 rw[vJ] at n1 n2
 apply aFN
 unfold aEW
 refine aA n1 (aA n2 ?_)
 by_cases hlm:l.length=m.length
 ·refine aAA (by omega) ?_
  (repeat(first|refine zzB ?_|apply aD|apply aE|with_reducible first|apply aG|apply aF|apply aK|apply aH|apply aJ|apply aI|apply aL|apply aC))
  refine bE (fun j e h' nx'=>∃ k:Nat,k+j=l.length∧nx≤nx'∧e 0=v1∧e 1=v2∧e 5=.int .i64 k∧h'=h∧l.take k=m.take k) ?_ (n:=l.length) ⟨0,by omega,by omega,rfl,rfl,rfl,rfl,rfl⟩
  rintro j e h' nx' ⟨k,hkj,hnx,e0,e1,e5,rfl,hq⟩ Q' hc hx
  unfold aAL
  rw[e0,e1,e5]
  refine aA n1 ?_
  refine cV (fun hk=>?_) (fun hk=>?_)
  ·have hk:k < l.length:=by omega
   have i1:=g1.ix .i64 (i:=k) (by rw[vJ]; exact hk)
   have i2:=g2.ix .i64 (i:=k) (by rw[vJ]; omega)
   have a1:=g1.loadA (aFy hk)
   have a2:=g2.loadA (aFy (show k < m.length by omega))
   (repeat(first|refine zzB ?_|apply aD|apply aE|with_reducible first|apply aG|apply aF|apply aK|apply aH|apply aJ|apply aI|apply aL|apply aC))
   refine aA i1 (aA a1 (aA i2 (aA a2 (aA aLN (aA (aOB _ _) ?_)))))
   by_cases he:l[k]=m[k]'(by omega)
   ·rw[decide_eq_true he,Bool.not_true]
    (repeat(first|refine zzB ?_|apply aD|apply aE|with_reducible first|apply aG|apply aF|apply aK|apply aH|apply aJ|apply aI|apply aL|apply aC))
    refine hc (j - 1) _ _ _ _ (by omega) ⟨k+1,by omega,by omega,e0,e1,rfl,rfl,?_⟩ (Sub.refl _)
    rw[List.take_succ_eq_append_getElem hk,List.take_succ_eq_append_getElem (show k < m.length by omega),hq,he]
   ·rw[decide_eq_false he,Bool.not_false]
    (repeat(first|refine zzB ?_|apply aD|apply aE|with_reducible first|apply aG|apply aF|apply aK|apply aH|apply aJ|apply aI|apply aL|apply aC))
    refine hx _ _ _ _ (fun e=>by cases e) (eS ?_)
    have:decide (l=m)=false:=decide_eq_false fun e=>by subst e; exact he rfl
    rw[this] at hK
    exact⟨_,Sub.refl _,hK _ (by omega)⟩
  ·(repeat(first|refine zzB ?_|apply aD|apply aE|with_reducible first|apply aG|apply aF|apply aK|apply aH|apply aJ|apply aI|apply aL|apply aC))
   refine hx _ _ _ _ (fun e=>by cases e) (eD (cQ ?_))
   unfold uJ
   have:decide (l=m)=true:=decide_eq_true (by
    rw[List.take_of_length_le (by omega),List.take_of_length_le (by omega)] at hq
    exact hq)
   rw[this] at hK
   exact⟨_,Sub.refl _,hK _ (by omega)⟩
 ·refine aFf (by omega) ?_
  (repeat(first|refine zzB ?_|apply aD|apply aE|with_reducible first|apply aG|apply aF|apply aK|apply aH|apply aJ|apply aI|apply aL|apply aC))
  have:decide (l=m)=false:=decide_eq_false fun e=>hlm (by rw[e])
  rw[this] at hK
  exact⟨_,Sub.refl _,hK _ (by omega)⟩
end
end V
end Go.Proofs.YtcaccnneblghgaaGreat
namespace Go.Proofs.YtcaccnneblghgaaGreat
namespace V
attribute [local irreducible] aB ifP aR cT eQ exP cO
theorem aDM:zer Tryz.prog bI=some (.agg #[.int .i64 0,.int .i64 0,.int .i64 0]):=by kernel_rfl
theorem aKh (a b c:Int):fJ Tryz.prog bI [(0,.int .i64 a),(1,.int .i64 b),(2,.int .i64 c)]=some (.agg #[.int .i64 a,.int .i64 b,.int .i64 c]):=by kernel_rfl
section
variable {ro:Ro}{h h0 h':T Obj}{nx nx0:Nat}{K:KV}{X:List Nat}{p:Nat}{qs:List MqD}{T:TabD}{most er_ er':Int}{kv tv ev mv bv:Value}{s s':ScD}
theorem ScV.fin {bv':Value} (hm:ScV ro h0 X p qs T most er_ kv tv ev mv bv s) (hk:dM [p] h0 h') (hg:h'.get p=some (.cells (scL kv tv ev mv most bv' s' er').toArray aQ)) (hms:s'.ms=s.ms) (hb:Sl ro (del h0 X) bv' 1 (bU s'.kept)):ScV ro h' X p qs T most er' kv tv ev mv bv' s':=by
 obtain⟨g1,g2,g3,g4,g5,g6,g7,g8,g9⟩:=hm
 have hX:∀ k∈[p],k∈X:=fun k hk=>by simp at hk; subst hk; exact g8
 have hD:Sub (del h0 X) (del h' X):=hk.del hX fun k hk=>.inl hk
 refine⟨hg,g2.sub hD,g3.sub hD,g4.sub hD (pO.sub hD),g5.sub hD,hb.sub hD,?_,g8,g9⟩
 rw[hms]
 exact g7.keep hk hX (fun q hq k hk=>by simp at hk; subst hk; exact g9 q hq) (fun k hk=>.inl hk) fun k hk=>hk
set_option maxRecDepth 8000 in
set_option maxHeartbeats 2000000 in
theorem aMG {tb rb:Nat}{e0:Env} (hv:ScV ro h0 X p qs T most er_ kv tv ev mv bv s) (hT:TabR T) (hI:ScI T s) (hk:s.kept≠[]) (hsz:s.at_+s.kept.length≤90000) (hf:Fr h nx) (hf0:Fr h0 nx0) (hs:Sub h0 h) (htb:nx0≤tb) (hrb:nx0≤rb) (hne:rb≠tb)
  (gt:h.get tb=some (.cells (oS (qG T s)).toArray bI)) (gr:h.get rb=some (.cells [Value.int .i64 0,.int .i64 0,.int .i64 0].toArray bI)) (f0:e0 0=ptr p) (f2:e0 2=ptr rb) (f3:e0 3=ptr tb) (hn:nx0≤nx)
  (hK:∀ h' nx',nx≤nx'→Fr h' nx'→dM [p] h0 h'→ScX ro h' X p qs T most er_ (mN T s)→K (.agg (oS (qG T s)).toArray) h' nx'):jY ro K e0 h nx:=by
 obtain⟨hl1,hl2⟩:=aBM hI.ok hk
 have g10:=hv.1
 have g1:=hs _ _ g10
 have hplt:=hf0.lt' g10
 have hbv:Sl ro (del h0 X) bv 1 (bU s.kept):=hv.2.2.2.2.2.1
 have hpX:p∈X:=hv.2.2.2.2.2.2.2.1
 have hbvh:=(hbv.sub (eF h0 X)).sub hs
 unfold jY
 rw[f0,f3]
 have t0:=aZ (ro:=ro) (z:=0) gt (show (oS (qG T s))[0]?=some (.int .i64 (mK T s)) from rfl)
 have t1:=aZ (ro:=ro) (z:=0) gt (show (oS (qG T s))[1]?=some (.int .i64 (s.at_:Int)) from rfl)
 have t2:=aZ (ro:=ro) (z:=0) gt (show (oS (qG T s))[2]?=some (.int .i64 ((s.at_+fP s:Nat):Int)) from rfl)
 have l6:=aZ (ro:=ro) (z:=0) g1 (show (scL kv tv ev mv most bv s er_)[6]?=some bv from rfl)
 (repeat(first|refine zzB ?_|apply aD|apply aE|with_reducible first|apply aG|apply aF|apply aK|apply aH|apply aJ|apply aI|apply aL|apply aC))
 refine aA t2 ?_
 (repeat(first|refine zzB ?_|apply aD|apply aE|with_reducible first|apply aG|apply aF|apply aK|apply aH|apply aJ|apply aI|apply aL|apply aC))
 refine aA t1 ?_
 have hsub1:aO .sub (.int .i64 ((s.at_+fP s:Nat):Int)) (.int .i64 (s.at_:Int))=some (.int .i64 (fP s:Int)):=by
  rw[dX,show ((s.at_+fP s:Nat):Int) - (s.at_:Int)=(fP s:Int) by omega,fB (by omega) (by omega)]
 refine aA hsub1 ?_
 (repeat(first|refine aA (by simp (disch:=first|omega|exact nnN _|assumption) only [BB,B2,↓reduceIte,Nat.reduceLeDiff,Nat.reduceAdd,CC,bC,l6]<;>rfl) ?_|apply aD|apply aE|with_reducible first|apply aG|apply aF|apply aK|apply aH|apply aJ|apply aI|apply aL|apply aC))
 rw[show ((fP s:Nat):Int) - 1=((fP s - 1:Nat):Int) by omega]
 refine aA (hbvh.ix .i64 (by rw[dL]; omega)) ?_
 refine aA (hbvh.load1 (rY (show fP s - 1 < s.kept.length by omega))) ?_
 have hline:aO .eql (.int .u8 (s.kept[fP s - 1]:Nat)) (.int .u8 10)=some (.bool (decide (s.kept.getD (fP s - 1) 0=10))):=by
  rw[aT,List.getD_eq_getElem?_getD,List.getElem?_eq_getElem (show fP s - 1 < s.kept.length by omega)]
  have:(((s.kept[fP s - 1]:Nat):Int)=10) ↔ ((some s.kept[fP s - 1]).getD 0=10):=by
   show (((s.kept[fP s - 1]:Nat):Int)=10) ↔ (s.kept[fP s - 1]=10)
   omega
  simp only[this]
 refine aA hline ?_
 (repeat(first|refine aA (by simp (disch:=first|omega|exact nnN _|assumption) only [BB,B2,↓reduceIte,Nat.reduceLeDiff,Nat.reduceAdd,CC,bC]<;>rfl) ?_|apply aD|apply aE|with_reducible first|apply aG|apply aF|apply aK|apply aH|apply aJ|apply aI|apply aL|apply aC))
 generalize hL:decide (s.kept.getD (fP s - 1) 0=10)=L
 refine aA (dJ g1 (by simp[scL]) rfl rfl) ?_
 have hov1:(scL kv tv ev mv most bv s er_).set 8 (.bool L)=scL kv tv ev mv most bv { s with line:=L } er_:=rfl
 rw[hov1]
 generalize hh1:h.upd p (some (.cells (scL kv tv ev mv most bv { s with line:=L } er_).toArray aQ))=h1
 have g2:h1.get p=some (.cells (scL kv tv ev mv most bv { s with line:=L } er_).toArray aQ):=by rw[← hh1,V.T.get_upd_same]
 have gt1:h1.get tb=some (.cells (oS (qG T s)).toArray bI):=by rw[← hh1,V.T.get_upd_ne _ _ (by omega)]; exact gt
 have gr1:h1.get rb=some (.cells [Value.int .i64 0,.int .i64 0,.int .i64 0].toArray bI):=by rw[← hh1,V.T.get_upd_ne _ _ (by omega)]; exact gr
 have hk1:dM [p] h0 h1:=by rw[← hh1]; exact hs.keepL.upd (by simp)
 have hf1:Fr h1 nx:=by rw[← hh1]; exact hf.upd (Nat.le_refl _) (by omega)
 have l62:=aZ (ro:=ro) (z:=0) g2 (show (scL kv tv ev mv most bv { s with line:=L } er_)[6]?=some bv from rfl)
 (repeat(first|refine aA (by simp (disch:=first|omega|exact nnN _|assumption) only [BB,B2,↓reduceIte,Nat.reduceLeDiff,Nat.reduceAdd,CC,bC,l62]<;>rfl) ?_|apply aD|apply aE|with_reducible first|apply aG|apply aF|apply aK|apply aH|apply aJ|apply aI|apply aL|apply aC))
 obtain⟨rv,hrv1,hrv2⟩:=Sl.drop (P:=Tryz.prog) hbv lB aGy (n:=fP s) (by rw[dL]; exact hl2) .i64
 have hdr:(bU s.kept).drop (fP s)=bU (s.kept.drop (fP s)):=by simp[bU]
 rw[hdr] at hrv2
 refine aA hrv1 ?_
 have t21:=aZ (ro:=ro) (z:=0) gt1 (show (oS (qG T s))[2]?=some (.int .i64 ((s.at_+fP s:Nat):Int)) from rfl)
 (repeat(first|refine zzB ?_|apply aD|apply aE|with_reducible first|apply aG|apply aF|apply aK|apply aH|apply aJ|apply aI|apply aL|apply aC))
 refine aA t21 ?_
 have hrvf:∃ o n c,rv=.slice o n c:=by
  rcases hrv2 with ⟨h9,_⟩ | ⟨a,c,h9,_⟩
  ·exact⟨_,_,_,h9⟩
  ·exact⟨_,_,_,h9⟩
 (repeat(first|refine aA (by simp (disch:=first|omega|exact nnN _|assumption) only [BB,B2,↓reduceIte,Nat.reduceLeDiff,Nat.reduceAdd,CC,bC]<;>rfl) ?_|apply aD|apply aE|with_reducible first|apply aG|apply aF|apply aK|apply aH|apply aJ|apply aI|apply aL|apply aC))
 refine aA (dJ g2 (by simp[scL]) hrv2.ok (by obtain⟨o,n,c,h9⟩:=hrvf; rw[h9]; rfl)) ?_
 have hov2:(scL kv tv ev mv most bv { s with line:=L } er_).set 6 rv=scL kv tv ev mv most rv { s with line:=L,kept:=s.kept.drop (fP s) } er_:=rfl
 rw[hov2]
 generalize hh2:h1.upd p (some (.cells (scL kv tv ev mv most rv { s with line:=L,kept:=s.kept.drop (fP s) } er_).toArray aQ))=h2
 have g3:h2.get p=some (.cells (scL kv tv ev mv most rv { s with line:=L,kept:=s.kept.drop (fP s) } er_).toArray aQ):=by rw[← hh2,V.T.get_upd_same]
 have gt2:h2.get tb=some (.cells (oS (qG T s)).toArray bI):=by rw[← hh2,V.T.get_upd_ne _ _ (by omega)]; exact gt1
 have gr2:h2.get rb=some (.cells [Value.int .i64 0,.int .i64 0,.int .i64 0].toArray bI):=by rw[← hh2,V.T.get_upd_ne _ _ (by omega)]; exact gr1
 have hk2:dM [p] h0 h2:=by rw[← hh2]; exact hk1.upd (by simp)
 have hf2:Fr h2 nx:=by rw[← hh2]; exact hf1.upd (Nat.le_refl _) (by omega)
 refine⟨fT gt1 gt2,?_⟩
 (repeat(first|refine aA (by simp (disch:=first|omega|exact nnN _|assumption) only [BB,B2,↓reduceIte,Nat.reduceLeDiff,Nat.reduceAdd,CC,bC]<;>rfl) ?_|apply aD|apply aE|with_reducible first|apply aG|apply aF|apply aK|apply aH|apply aJ|apply aI|apply aL|apply aC))
 refine aA (dJ g3 (by simp[scL]) rfl rfl) ?_
 have hov3:(scL kv tv ev mv most rv { s with line:=L,kept:=s.kept.drop (fP s) } er_).set 7 (.int .i64 ((s.at_+fP s:Nat):Int))=scL kv tv ev mv most rv { s with line:=L,kept:=s.kept.drop (fP s),at_:=s.at_+fP s } er_:=rfl
 rw[hov3]
 generalize hh3:h2.upd p (some (.cells (scL kv tv ev mv most rv { s with line:=L,kept:=s.kept.drop (fP s),at_:=s.at_+fP s } er_).toArray aQ))=h3
 have g4:h3.get p=some (.cells (scL kv tv ev mv most rv { s with line:=L,kept:=s.kept.drop (fP s),at_:=s.at_+fP s } er_).toArray aQ):=by rw[← hh3,V.T.get_upd_same]
 have gt3:h3.get tb=some (.cells (oS (qG T s)).toArray bI):=by rw[← hh3,V.T.get_upd_ne _ _ (by omega)]; exact gt2
 have gr3:h3.get rb=some (.cells [Value.int .i64 0,.int .i64 0,.int .i64 0].toArray bI):=by rw[← hh3,V.T.get_upd_ne _ _ (by omega)]; exact gr2
 have hk3:dM [p] h0 h3:=by rw[← hh3]; exact hk2.upd (by simp)
 have hf3:Fr h3 nx:=by rw[← hh3]; exact hf2.upd (Nat.le_refl _) (by omega)
 refine aA aBd ?_
 (repeat(first|refine aA (by simp (disch:=first|omega|exact nnN _|assumption) only [BB,B2,↓reduceIte,Nat.reduceLeDiff,Nat.reduceAdd,CC,bC]<;>rfl) ?_|apply aD|apply aE|with_reducible first|apply aG|apply aF|apply aK|apply aH|apply aJ|apply aI|apply aL|apply aC))
 refine aA (aE7 (vs:=[.int .i64 0,.int .i64 0,.int .i64 (-1)]) g4 rfl rfl (by simp[scL]) rfl) ?_
 have hov4:over (scL kv tv ev mv most rv { s with line:=L,kept:=s.kept.drop (fP s),at_:=s.at_+fP s } er_) 10 [.int .i64 0,.int .i64 0,.int .i64 (-1)]=scL kv tv ev mv most rv { s with line:=L,kept:=s.kept.drop (fP s),at_:=s.at_+fP s,took:=0,held:=0,rule:=-1 } er_:=rfl
 rw[hov4]
 generalize hh4:h3.upd p (some (.cells (scL kv tv ev mv most rv { s with line:=L,kept:=s.kept.drop (fP s),at_:=s.at_+fP s,took:=0,held:=0,rule:=-1 } er_).toArray aQ))=h4
 have g5:h4.get p=some (.cells (scL kv tv ev mv most rv { s with line:=L,kept:=s.kept.drop (fP s),at_:=s.at_+fP s,took:=0,held:=0,rule:=-1 } er_).toArray aQ):=by rw[← hh4,V.T.get_upd_same]
 have gt4:h4.get tb=some (.cells (oS (qG T s)).toArray bI):=by rw[← hh4,V.T.get_upd_ne _ _ (by omega)]; exact gt3
 have gr4:h4.get rb=some (.cells [Value.int .i64 0,.int .i64 0,.int .i64 0].toArray bI):=by rw[← hh4,V.T.get_upd_ne _ _ (by omega)]; exact gr3
 have hk4:dM [p] h0 h4:=by rw[← hh4]; exact hk3.upd (by simp)
 have hf4:Fr h4 nx:=by rw[← hh4]; exact hf3.upd (Nat.le_refl _) (by omega)
 have hj2:∀ (e':Env) (h5:V.T Obj) (n':Nat),e' 2=ptr rb→e' 3=ptr tb→nx≤n'→Fr h5 n'→dM [p] h0 h5→h5.get tb=some (.cells (oS (qG T s)).toArray bI)→h5.get rb=some (.cells [Value.int .i64 0,.int .i64 0,.int .i64 0].toArray bI) →
   h5.get p=some (.cells (scL kv tv ev mv most rv (mN T s) er_).toArray aQ)→jZ ro K e' h5 n':=by
  intro e' h5 n' d2 d3 dn df dk dt dr dp
  unfold jZ
  rw[d2,d3]
  refine aA (dF dt rfl) ?_
  refine aA (lX (vs:=oS (qG T s)) dr rfl rfl rfl rfl) ?_
  refine aA (dF (by rw[V.T.get_upd_same]) rfl) ?_
  refine⟨_,Sub.refl _,hK _ _ (by omega) ((df.mono (by omega)).upd (Nat.le_refl _) (by have:=df.lt' dr; omega)) ?_ ?_⟩
  ·intro k o hko hnk
   have:=hf0.lt' hko
   rw[V.T.get_upd_ne _ _ (by omega)]
   exact dk k o hko hnk
  ·refine (ScV.fin hv (bv':=rv) (s':=mN T s) (er':=er_) ?_ ?_ rfl hrv2).x
   ·intro k o hko hnk
    have:=hf0.lt' hko
    rw[V.T.get_upd_ne _ _ (by omega)]
    exact dk k o hko hnk
   ·rw[V.T.get_upd_ne _ _ (by omega)]
    exact dp
 have t04:=aZ (ro:=ro) (z:=0) gt4 (show (oS (qG T s))[0]?=some (.int .i64 (mK T s)) from rfl)
 (repeat(first|refine zzB ?_|apply aD|apply aE|with_reducible first|apply aG|apply aF|apply aK|apply aH|apply aJ|apply aI|apply aL|apply aC))
 refine aA t04 ?_
 by_cases hr:mK T s=-1
 ·have hcut:mN T s={ s with line:=L,kept:=s.kept.drop (fP s),at_:=s.at_+fP s,took:=0,held:=0,rule:=-1 }:=by
   unfold mN aD3
   rw[hL,if_neg (by rw[hr]; simp)]
  refine aAA hr ?_
  (repeat(first|refine zzB ?_|apply aD|apply aE|with_reducible first|apply aG|apply aF|apply aK|apply aH|apply aJ|apply aI|apply aL|apply aC))
  refine hj2 _ _ _ f2 f3 ?_ ?_ hk4 gt4 gr4 (by rw[hcut]; exact g5)
  ·omega
  ·exact hf4.mono (by omega)
 ·obtain⟨he1,he2,m9,hm9,_⟩:=hI.at
  have hrng:0≤mK T s∧mK T s < T.kinds.length:=by
   have hsr:s.rule≠-1:=fun e=>hr (by unfold mK; rw[if_pos e])
   have h9:=hI.ru.resolve_left hsr
   unfold mK
   rw[if_neg hsr,List.getD_eq_getElem?_getD,List.getElem?_eq_getElem (show s.rule.toNat < (qV T s).rules.length by omega)]
   exact hT.rk _ he2 _ (List.getElem_mem _)
  have htl:(mK T s).toNat < T.to.length:=by rw[hT.to]; omega
  have htv:Sl ro h4 tv 1 (kK T.to):=hv.2.2.1.sub (hk4.delS fun k hk=>by simp at hk; subst hk; exact hpX)
  have hix:=Sl.ixI htv .i64 hrng.1 (by rw[eP]; omega)
  have hld:=htv.load1 (j9 htl)
  have htb9:=hT.tb _ (List.getElem_mem htl)
  have hcl:=hT.len
  have hgd:T.to.getD (mK T s).toNat 0=T.to[(mK T s).toNat]:=by rw[List.getD_eq_getElem?_getD,List.getElem?_eq_getElem htl]; rfl
  generalize T.to[(mK T s).toNat]=tv9 at hld htb9 hgd
  have l24:=aZ (ro:=ro) (z:=0) g5 (show (scL kv tv ev mv most rv { s with line:=L,kept:=s.kept.drop (fP s),at_:=s.at_+fP s,took:=0,held:=0,rule:=-1 } er_)[2]?=some tv from rfl)
  refine aFf hr ?_
  (repeat(first|refine aA (by simp (disch:=first|omega|exact nnN _|assumption) only [BB,B2,↓reduceIte,Nat.reduceLeDiff,Nat.reduceAdd,CC,bC,l24,t04]<;>rfl) ?_|apply aD|apply aE|with_reducible first|apply aG|apply aF|apply aK|apply aH|apply aJ|apply aI|apply aL|apply aC))
  refine aA hix ?_
  (repeat(first|refine zzB ?_|apply aD|apply aE|with_reducible first|apply aG|apply aF|apply aK|apply aH|apply aJ|apply aI|apply aL|apply aC))
  refine aA hld ?_
  (repeat(first|refine zzB ?_|apply aD|apply aE|with_reducible first|apply aG|apply aF|apply aK|apply aH|apply aJ|apply aI|apply aL|apply aC))
  by_cases htv0:0≤tv9
  ·refine aOp htv0 ?_
   (repeat(first|refine aA (by simp (disch:=first|omega|exact nnN _|assumption) only [BB,B2,↓reduceIte,Nat.reduceLeDiff,Nat.reduceAdd,CC,bC,l24,t04]<;>rfl) ?_|apply aD|apply aE|with_reducible first|apply aG|apply aF|apply aK|apply aH|apply aJ|apply aI|apply aL|apply aC))
   refine aA hix ?_
   (repeat(first|refine zzB ?_|apply aD|apply aE|with_reducible first|apply aG|apply aF|apply aK|apply aH|apply aJ|apply aI|apply aL|apply aC))
   refine aA hld ?_
   (repeat(first|refine aA (by simp (disch:=first|omega|exact nnN _|assumption) only [BB,B2,↓reduceIte,Nat.reduceLeDiff,Nat.reduceAdd,CC,bC]<;>rfl) ?_|apply aD|apply aE|with_reducible first|apply aG|apply aF|apply aK|apply aH|apply aJ|apply aI|apply aL|apply aC))
   have hcut:mN T s={ s with line:=L,kept:=s.kept.drop (fP s),at_:=s.at_+fP s,took:=0,held:=0,rule:=-1,cond:=tv9.toNat }:=by
    unfold mN aD3
    rw[hL,hgd,if_pos ⟨hr,htv0⟩]
   refine aA (dJ g5 (by simp[scL]) rfl rfl) ?_
   have hov5:(scL kv tv ev mv most rv { s with line:=L,kept:=s.kept.drop (fP s),at_:=s.at_+fP s,took:=0,held:=0,rule:=-1 } er_).set 9 (.int .i64 tv9)=scL kv tv ev mv most rv (mN T s) er_:=by
    rw[hcut]
    obtain⟨n9,rfl⟩:∃ n9:Nat,tv9=(n9:Int):=⟨tv9.toNat,by omega⟩
    rfl
   rw[hov5]
   refine hj2 _ _ _ f2 f3 ?_ ?_ ?_ ?_ ?_ ?_
   ·omega
   ·exact (hf4.mono (by omega)).upd (Nat.le_refl _) (by omega)
   ·exact hk4.upd (by simp)
   ·rw[V.T.get_upd_ne _ _ (by omega)]; exact gt4
   ·rw[V.T.get_upd_ne _ _ (by omega)]; exact gr4
   ·rw[V.T.get_upd_same]
  ·refine aOo (by omega) ?_
   (repeat(first|refine zzB ?_|apply aD|apply aE|with_reducible first|apply aG|apply aF|apply aK|apply aH|apply aJ|apply aI|apply aL|apply aC))
   have hcut:mN T s={ s with line:=L,kept:=s.kept.drop (fP s),at_:=s.at_+fP s,took:=0,held:=0,rule:=-1 }:=by
    unfold mN aD3
    rw[hL,hgd,if_neg (fun e=>htv0 e.2)]
   refine hj2 _ _ _ f2 f3 ?_ ?_ hk4 gt4 gr4 (by rw[hcut]; exact g5)
   ·omega
   ·exact hf4.mono (by omega)
set_option maxRecDepth 8000 in
set_option maxHeartbeats 2000000 in
theorem aJi (hm:ScX ro h X p qs T most er_ s) (hT:TabR T) (hI:ScI T s) (hTl:T.entries.length≤1000) (hk:s.kept≠[]) (hsz:s.at_+s.kept.length≤90000) (hf:Fr h nx)
  (hK:∀ h' nx',nx≤nx'→Fr h' nx'→dM [p] h h'→ScX ro h' X p qs T most er_ (mN T s)→K (.agg (oS (qG T s)).toArray) h' nx'):aN Tryz.prog ro nG [ptr p] h nx K:=by
 obtain⟨kv,tv,ev,mv,bv,hv⟩:=id hm
 have hv:ScV ro h X p qs T most er_ kv tv ev mv bv s:=hv
 obtain⟨he1,he2,m9,hm9,_⟩:=hI.at
 have g0:=hv.1
 have hpl:=hf.lt' g0
 have hc:=hI.c
 have hat:s.at_≤90000:=by omega
 have hkl:0 < s.kept.length:=List.length_pos_iff.2 hk
 apply zO
 unfold vE
 refine aA aDM ?_
 refine aGd (m:=nx) hf (Nat.le_refl _) fun h1 hs1 hf1 g1 _=>?_
 have g1:h1.get nx=some (.cells [Value.int .i64 0,.int .i64 0,.int .i64 0].toArray bI):=g1
 have g01:=hs1 _ _ g0
 have l7:=aZ (ro:=ro) (z:=0) g01 (show (scL kv tv ev mv most bv s er_)[7]?=some (.int .i64 (s.at_:Int)) from rfl)
 (repeat(first|refine aA (by simp (disch:=first|omega|exact nnN _|assumption) only [BB,B2,↓reduceIte,Nat.reduceLeDiff,Nat.reduceAdd,CC,bC,l7]<;>rfl) ?_|apply aD|apply aE|with_reducible first|apply aG|apply aF|apply aK|apply aH|apply aJ|apply aI|apply aL|apply aC))
 refine aA (aKh _ _ _) ?_
 refine kA (x:=[.int .i64 (-1),.int .i64 (s.at_:Int),.int .i64 ((s.at_:Int)+1)]) (n:=3) aDM rfl rfl rfl rfl hf1 (by omega) fun h2 hs2 hf2 g2 _=>?_
 have g02:=hs2 _ _ g01
 have g12:=hs2 _ _ g1
 have l12:=aZ (ro:=ro) (z:=0) g02 (show (scL kv tv ev mv most bv s er_)[12]?=some (.int .i64 s.rule) from rfl)
 (repeat(first|refine aA (by simp (disch:=first|omega|exact nnN _|assumption) only [BB,B2,↓reduceIte,Nat.reduceLeDiff,Nat.reduceAdd,CC,bC,l12]<;>rfl) ?_|apply aD|apply aE|with_reducible first|apply aG|apply aF|apply aK|apply aH|apply aJ|apply aI|apply aL|apply aC))
 by_cases hr:s.rule=-1
 ·refine aAA hr ?_
  (repeat(first|refine zzB ?_|apply aD|apply aE|with_reducible first|apply aG|apply aF|apply aK|apply aH|apply aJ|apply aI|apply aL|apply aC))
  have htok:oS (qG T s)=[.int .i64 (-1),.int .i64 (s.at_:Int),.int .i64 ((s.at_:Int)+1)]:=by
   unfold qG oS mK fP
   rw[if_pos hr,if_pos hr]; rfl
  refine aMG (kv:=kv) (tv:=tv) (ev:=ev) (mv:=mv) (bv:=bv) (tb:=nx+11) (rb:=nx) hv hT hI hk hsz ?_ hf (hs1.trans hs2) (by omega) (by omega) (by omega) (by rw[htok]; exact g2) g12 rfl rfl rfl (by omega) fun h' n' h3 h4 h5 h6=>hK h' n' (by omega) h4 h5 h6
  exact hf2.mono (by omega)
 ·refine aFf hr ?_
  have hru:=hI.ru.resolve_left hr
  have hev:=hv.2.2.2.1
  have hev2:SlR ro h2 ev 260 (pO ro h2) T.entries:=hev.sub ((eF h X).trans (hs1.trans hs2)) (pO.sub ((eF h X).trans (hs1.trans hs2)))
  have l3:=aZ (ro:=ro) (z:=0) g02 (show (scL kv tv ev mv most bv s er_)[3]?=some ev from rfl)
  (repeat(first|refine aA (by simp (disch:=first|omega|exact nnN _|assumption) only [BB,B2,↓reduceIte,Nat.reduceLeDiff,Nat.reduceAdd,CC,bC,l3]<;>rfl) ?_|apply aD|apply aE|with_reducible first|apply aG|apply aF|apply aK|apply aH|apply aJ|apply aI|apply aL|apply aC))
  have hm2:ScX ro h2 X p qs T most er_ s:=(hv.sub (hs1.trans hs2)).x
  refine aB3 hm2 (by omega) fun n1 hn1=>⟨fT g02 g02,?_⟩
  have hel:=(List.getElem?_eq_some_iff.1 he1).1
  have hee:=(List.getElem?_eq_some_iff.1 he1).2
  obtain⟨y,⟨rv,hy0,hrv⟩,hy2,hy3,hy4,hy5⟩:=hev2.at hel
  rw[hee] at hrv
  refine aA (hev2.ix .i64 hel) ?_
  refine aA (hy4 259) ?_
  refine aA (hy5 259 _ hy0) ?_
  have l11:=aZ (ro:=ro) (z:=0) g02 (show (scL kv tv ev mv most bv s er_)[11]?=some (.int .i64 (s.held:Int)) from rfl)
  have l72:=aZ (ro:=ro) (z:=0) g02 (show (scL kv tv ev mv most bv s er_)[7]?=some (.int .i64 (s.at_:Int)) from rfl)
  (repeat(first|refine aA (by simp (disch:=first|omega|exact nnN _|assumption) only [BB,B2,↓reduceIte,Nat.reduceLeDiff,Nat.reduceAdd,CC,bC,l12]<;>rfl) ?_|apply aD|apply aE|with_reducible first|apply aG|apply aF|apply aK|apply aH|apply aJ|apply aI|apply aL|apply aC))
  refine⟨fT g02 g02,?_⟩
  refine aA (Sl.ixI hrv .i64 hru.1 (by rw[eP]; exact hru.2)) ?_
  have hrl:s.rule.toNat < (qV T s).rules.length:=by omega
  refine aA (hrv.load1 (j9 hrl)) ?_
  (repeat(first|refine aA (by simp (disch:=first|omega|exact nnN _|assumption) only [BB,B2,↓reduceIte,Nat.reduceLeDiff,Nat.reduceAdd,CC,bC,l72]<;>rfl) ?_|apply aD|apply aE|with_reducible first|apply aG|apply aF|apply aK|apply aH|apply aJ|apply aI|apply aL|apply aC))
  refine⟨fT g02 g02,?_⟩
  (repeat(first|refine aA (by simp (disch:=first|omega|exact nnN _|assumption) only [BB,B2,↓reduceIte,Nat.reduceLeDiff,Nat.reduceAdd,CC,bC,l11]<;>rfl) ?_|apply aD|apply aE|with_reducible first|apply aG|apply aF|apply aK|apply aH|apply aJ|apply aI|apply aL|apply aC))
  refine⟨fT g02 g02,?_⟩
  have hhl:s.held≤s.kept.length:=Nat.le_trans hI.ok.held hI.ok.took
  have hadd:aO .add (.int .i64 (s.at_:Int)) (.int .i64 (s.held:Int))=some (.int .i64 ((s.at_+s.held:Nat):Int)):=by
   rw[dK,show (s.at_:Int)+(s.held:Int)=((s.at_+s.held:Nat):Int) by omega,fB (by omega) (by omega)]
  refine aA hadd ?_
  (repeat(first|refine zzB ?_|apply aD|apply aE|with_reducible first|apply aG|apply aF|apply aK|apply aH|apply aJ|apply aI|apply aL|apply aC))
  refine aA (dJ g2 (Nat.zero_lt_succ _) rfl rfl) ?_
  have hpne:p≠nx+11:=by omega
  have g03:(h2.upd (nx+11) (some (.cells (([Value.int .i64 (-1),.int .i64 (s.at_:Int),.int .i64 ((s.at_:Int)+1)]).set 0 (.int .i64 (qV T s).rules[s.rule.toNat])).toArray bI))).get p=some (.cells (scL kv tv ev mv most bv s er_).toArray aQ):=by
   rw[V.T.get_upd_ne _ _ hpne]; exact g02
  refine⟨fT g02 g03,fT g02 g03,?_⟩
  (repeat(first|refine zzB ?_|apply aD|apply aE|with_reducible first|apply aG|apply aF|apply aK|apply aH|apply aJ|apply aI|apply aL|apply aC))
  have htok:oS (qG T s)=over (([Value.int .i64 (-1),.int .i64 (s.at_:Int),.int .i64 ((s.at_:Int)+1)]).set 0 (.int .i64 (qV T s).rules[s.rule.toNat])) 2 [.int .i64 ((s.at_+s.held:Nat):Int)]:=by
   unfold qG oS mK fP
   rw[if_neg hr,if_neg hr,List.getD_eq_getElem?_getD,List.getElem?_eq_getElem hrl]; rfl
  rw[← htok]
  refine aMG (kv:=kv) (tv:=tv) (ev:=ev) (mv:=mv) (bv:=bv) (tb:=nx+11) (rb:=nx) hv hT hI hk hsz ?_ hf ?_ (by omega) (by omega) (by omega) (V.T.get_upd_same _ _ _) ?_ rfl rfl rfl (by omega) fun h' n' h3 h4 h5 h6=>hK h' n' (by omega) h4 h5 h6
  ·exact ((hf2.mono (by omega)).upd (Nat.le_refl _) (by omega)).upd (Nat.le_refl _) (by omega)
  ·intro k o hko
   have:=hf.lt' hko
   rw[V.T.get_upd_ne _ _ (by omega),V.T.get_upd_ne _ _ (by omega)]
   exact hs2 _ _ (hs1 _ _ hko)
  ·rw[V.T.get_upd_ne _ _ (by omega),V.T.get_upd_ne _ _ (by omega)]
   exact g12
end
end V
end Go.Proofs.YtcaccnneblghgaaGreat
namespace Go.Proofs.YtcaccnneblghgaaGreat
namespace V
attribute [local irreducible] aB ifP aR cT eQ exP cO
theorem aNu (id:Nat) (a b c:Int):bR Tryz.prog iJ id 1 [(0,.agg [Value.int .i64 a,.int .i64 b,.int .i64 c].toArray)]=some (.slice (some (own id 3)) 1 1,some (.cells [Value.int .i64 a,.int .i64 b,.int .i64 c].toArray bI)):=by kernel_rfl
theorem aNW:und Tryz.prog iJ=some (.slice bI):=by kernel_rfl
theorem aO0:∃ i,tin Tryz.prog bI=some i∧i.size=3∧i.bytes=24:=wW (by kernel_rfl)
section
variable {ro:Ro}{h h':T Obj}{nx:Nat}{K:KV}{X X':List Nat}{p:Nat}{qs:List MqD}{T:TabD}{most er_ er':Int}{s s':ScD}
theorem ScX.shrink (hm:ScX ro h X p qs T most er_ s) (hX:∀ k∈X',k∈X) (hp:∀ k∈eY p qs,k∈X'):ScX ro h X' p qs T most er_ s:=by
 obtain⟨kv,tv,ev,mv,bv,g1,g2,g3,g4,g5,g6,g7,g8,g9⟩:=hm
 have hD:Sub (del h X) (del h X'):=sB hX
 exact⟨kv,tv,ev,mv,bv,g1,g2.sub hD,g3.sub hD,g4.sub hD (pO.sub hD),g5.sub hD,g6.sub hD,g7.shrink hX fun q hq k hk=>hp k (aGk hq k hk),hp p (List.mem_cons_self ..),g9⟩
theorem ScX.keep {ids:List Nat} (hm:ScX ro h X p qs T most er_ s) (hs:dM ids h h') (h1:∀ k∈ids,k∈X) (h2:∀ k∈ids,k ∉ eY p qs) (h3:∀ k∈X',k∈X∨h.get k=none) (h4:∀ k∈X,k∈X'):ScX ro h' X' p qs T most er_ s:=by
 obtain⟨kv,tv,ev,mv,bv,hv⟩:=hm
 have hv:ScV ro h X p qs T most er_ kv tv ev mv bv s:=hv
 exact (hv.keep hs h1 (fun q hq k hk h9=>h2 k hk (aGk hq k h9)) (fun h9=>h2 p h9 (List.mem_cons_self ..)) h3 h4).x
theorem ScX.own (hm:ScX ro h X p qs T most er_ s):∀ k∈eY p qs,k∈X∧∃ o,h.get k=some o:=fun k hk=>by
 obtain⟨kv,tv,ev,mv,bv,g1,g2,g3,g4,g5,g6,g7,g8,g9⟩:=hm
 rcases List.mem_cons.1 hk with rfl | hk
 ·exact⟨g8,_,g1⟩
 ·obtain⟨q,hq,hk⟩:=List.mem_flatMap.1 hk
  obtain⟨i,hi⟩:=List.getElem?_of_mem hq
  have hl:=(List.getElem?_eq_some_iff.1 hi).1
  obtain⟨c,e,h9,_⟩:=(g7.at_ i q _ _ hi (List.getElem?_eq_getElem (by rw[← g7.lq]; exact hl)) (List.getElem?_eq_getElem (by rw[g7.lm,← g7.lq]; exact hl))).ty k hk
  exact⟨g7.inX hi k hk,_,h9⟩
theorem ScX.ownLt (hm:ScX ro h X p qs T most er_ s) (hf:Fr h nx):∀ k∈eY p qs,k < nx:=fun k hk=>by
 obtain⟨_,o,h9⟩:=hm.own k hk
 exact hf.lt' h9
theorem aJo (l:List TokD) (t:TokD):lY (l++[t])=lY l++[oS t]:=by simp[lY]
structure TkI (ro:Ro) (X:List Nat) (p:Nat) (qs:List MqD) (T:TabD) (most er_:Int) (h:V.T Obj) (nx:Nat) (s:ScD) (h':V.T Obj) (nx' m:Nat) (s':ScD) (acc:List TokD) (out:Value) (Y:List Nat):Prop where
 km:s'.kept.length≤m
 kp:dM (eY p qs) h h'
 fr':Fr h' nx'
 sc:ScX ro h' (X++Y) p qs T most er_ s'
 oo:cW h' out 3 bI (lY acc) nx
 ob:∀ b∈i7 out,b∈Y
 yn:∀ b∈Y,nx≤b
 ii:ScI T s'
 at':s'.at_+s'.kept.length=s.at_+s.kept.length
 eqT:iG T s.kept.length s=(acc++(iG T m s').1,(iG T m s').2)
 al:acc.length+s'.kept.length≤s.kept.length
 le:nx≤nx'
set_option maxRecDepth 8000 in
set_option maxHeartbeats 2000000 in
theorem aAR (hm:ScX ro h X p qs T most er_ s) (hT:TabR T) (hI:ScI T s) (hTl:T.entries.length≤1000) (hsz:s.at_+s.kept.length≤400) (hf:Fr h nx)
  (hK:∀ r h' nx',nx≤nx'→Fr h' nx'→dM (eY p qs) h h'→ScX ro h' X p qs T most er_ (iG T s.kept.length s).2→cW h' r 3 bI (lY (iG T s.kept.length s).1) nx→K r h' nx'):aN Tryz.prog ro iZ [ptr p] h nx K:=by
 have hown:=hm.ownLt hf
 apply wH
 unfold qQ
 refine bE (fun j e h' nx'=>∃ s' acc out Y,e 0=ptr p∧e 3=out∧TkI ro X p qs T most er_ h nx s h' nx' j s' acc out Y) ?_ (n:=s.kept.length)
  ⟨s,[],.slice none 0 0,[],rfl,rfl,Nat.le_refl _,(Sub.refl _).keepL,hf.mono (by omega),by rw[List.append_nil]; exact hm,cW.nil,(fun b hb=>by cases hb),(fun b hb=>by cases hb),hI,rfl,rfl,by simp,by omega⟩
 rintro j e h' nx' ⟨s',acc,out,Y,e0,e3,ti⟩ Q' hq hx
 obtain⟨km,kp,fr',sc,oo,ob,yn,ii,at',eqT,al,le⟩:=ti
 obtain⟨kv,tv,ev,mv,bv,hv⟩:=id sc
 have hv:ScV ro h' (X++Y) p qs T most er_ kv tv ev mv bv s':=hv
 have g1:=hv.1
 unfold oO
 rw[e0,e3]
 have l6:=aZ (ro:=ro) (z:=0) g1 (show (scL kv tv ev mv most bv s' er_)[6]?=some bv from rfl)
 have hbl:=(hv.2.2.2.2.2.1.sub (eF h' (X++Y))).len
 rw[dL] at hbl
 have hexit:∀ (e':Env) (h2:V.T Obj) (n':Nat) (s2:ScD),e' 3=out→nx≤n'→Fr h2 n'→dM (eY p qs) h h2→ScX ro h2 (X++Y) p qs T most er_ s2→cW h2 out 3 bI (lY acc) nx→iG T s.kept.length s=(acc,s2)→iE ro K e' h2 n':=by
  intro e' h2 n' s2 d3 dn df dk ds dout deq
  unfold iE
  rw[d3]
  refine⟨h2,Sub.refl _,hK out h2 _ (by omega) (df.mono (by omega)) dk ?_ ?_⟩
  ·rw[deq]
   exact ds.shrink (fun k hk=>List.mem_append_left _ hk) fun k hk=>(hm.own k hk).1
  ·rw[deq]; exact dout
 (repeat(first|refine aA (by simp (disch:=first|omega|exact nnN _|assumption) only [BB,B2,↓reduceIte,Nat.reduceLeDiff,Nat.reduceAdd,CC,bC,l6]<;>rfl) ?_|apply aD|apply aE|with_reducible first|apply aG|apply aF|apply aK|apply aH|apply aJ|apply aI|apply aL|apply aC))
 refine aA hbl ?_
 by_cases hk:s'.kept=[]
 ·refine aKN (by rw[hk]; simp) ?_
  (repeat(first|refine zzB ?_|apply aD|apply aE|with_reducible first|apply aG|apply aF|apply aK|apply aH|apply aJ|apply aI|apply aL|apply aC))
  refine hx _ _ _ _ (fun e=>by cases e) (eD (cQ ?_))
  have h9:iG T s.kept.length s=(acc,s'):=by rw[eqT,aB9 _ hk]; simp
  refine hexit _ _ _ s' ?_ ?_ ?_ kp sc oo h9
  ·exact e3
  ·omega
  ·exact fr'.mono (by omega)
 ·have hkl:0 < s'.kept.length:=List.length_pos_iff.2 hk
  have hst:=aNK ii
  rw[at'] at hst
  have hst2:(s.at_+s.kept.length)*(s.at_+s.kept.length+1)≤400*401:=Nat.mul_le_mul hsz (by omega)
  refine aKO (by omega) ?_
  (repeat(first|refine zzB ?_|apply aD|apply aE|with_reducible first|apply aG|apply aF|apply aK|apply aH|apply aJ|apply aI|apply aL|apply aC))
  refine aIg sc hT ii hTl (by omega) (fr'.mono (by omega)) fun h2 n2 hn2 hf2 hk2 hs2=>?_
  have hI2:=aJJ hT ii hk
  have hout2:cW h2 out 3 bI (lY acc) nx:=oo.keepK hk2 fun id hid hm9=>by
   have:=hown id hm9
   have:=(oo.blk hid).1
   omega
  obtain⟨m,rfl⟩:∃ m,j=m+1:=⟨j - 1,by omega⟩
  rw[tA,if_neg hk] at eqT
  cases hB:(d5 T s').1 with
  | false =>
   rw[hB] at eqT
   simp only[Bool.false_eq_true,if_false,List.append_nil] at eqT
   (repeat(first|refine zzB ?_|apply aD|apply aE|with_reducible first|apply aG|apply aF|apply aK|apply aH|apply aJ|apply aI|apply aL|apply aC))
   refine hx _ _ _ _ (fun e=>by cases e) (eD (cQ ?_))
   refine hexit _ _ _ _ ?_ ?_ ?_ (kp.trans hk2) hs2 hout2 eqT
   ·exact e3
   ·omega
   ·exact hf2.mono (by omega)
  | true =>
   rw[hB] at eqT
   simp only[if_true] at eqT
   have hkE:(d5 T s').2.kept=s'.kept:=rfl
   have hatE:(d5 T s').2.at_=s'.at_:=rfl
   (repeat(first|refine zzB ?_|apply aD|apply aE|with_reducible first|apply aG|apply aF|apply aK|apply aH|apply aJ|apply aI|apply aL|apply aC))
   refine aJi hs2 hT hI2 hTl (by rw[hkE]; exact hk) (by rw[hkE,hatE,at']; omega) (hf2.mono (by omega)) fun h3 n3 hn3 hf3 hk3 hs3=>?_
   obtain⟨hL1,hL2⟩:=aBM hI2.ok (by rw[hkE]; exact hk)
   rw[hkE] at hL2
   have hI3:=aMF hT hI2 (by rw[hkE]; exact hk)
   have hclen:(mN T (d5 T s').2).kept.length=s'.kept.length - fP (d5 T s').2:=by rw[aDD,hkE]
   have hcat:(mN T (d5 T s').2).at_=s'.at_+fP (d5 T s').2:=rfl
   have hrt:(qG T (d5 T s').2).rule=-1∨0≤(qG T (d5 T s').2).rule∧(qG T (d5 T s').2).rule < T.kinds.length:=by
    show mK T (d5 T s').2=-1∨0≤mK T (d5 T s').2∧mK T (d5 T s').2 < T.kinds.length
    obtain⟨he1,he2,_⟩:=hI2.at
    by_cases hsr:(d5 T s').2.rule=-1
    ·left; unfold mK; rw[if_pos hsr]
    ·right
     have h9:=hI2.ru.resolve_left hsr
     unfold mK
     rw[if_neg hsr,List.getD_eq_getElem?_getD,List.getElem?_eq_getElem (show (d5 T s').2.rule.toNat < (qV T (d5 T s').2).rules.length by omega)]
     exact hT.rk _ he2 _ (List.getElem_mem _)
   generalize qG T (d5 T s').2=t at *
   generalize mN T (d5 T s').2=sC at *
   refine kA (x:=oS t) (n:=3) aDM rfl rfl rfl rfl hf3 (Nat.le_refl _) fun h4 hs4 hf4 g4 _=>?_
   have hout4:cW h4 out 3 bI (lY acc) nx:=(hout2.keepK hk3 fun id hid hm9=>by
    simp at hm9
    subst hm9
    have:=hown id (List.mem_cons_self ..)
    have:=(oo.blk hid).1
    omega).keepS hs4
   have hkp4:dM (eY p qs) h h4:=((kp.trans hk2).trans (hk3.mono fun b hb=>by simp at hb; subst hb; exact List.mem_cons_self ..)).trans hs4.keepL
   have hs4x:ScX ro h4 (X++Y) p qs T most er_ sC:=hs3.keep (ids:=[]) hs4.keepL (fun k hk=>by cases hk) (fun k hk=>by cases hk) (fun k hk=>.inl hk) fun k hk=>hk
   have happ:∀ (n75:Nat) (F:Value→Value × Option Obj→Value × V.T Obj × Nat→Env),n3+1≤n75→(∀ x y z,F x y z 0=ptr p)→(∀ x y z,F x y z 3=z.1)→aCW T t=true →
     aB (loadA ro h4 3 (ptr n3)) fun t33=>aB (bR Tryz.prog iJ (n75+2) 1 [(0,t33)]) fun r79=>eQ h4 (n75+2) r79.2 fun h80=>aB (cC Tryz.prog ro h80 (n75+4) #[iJ,iJ] [out,r79.1]) fun r81=>Q' .normal (F t33 r79 r81) r81.2.1 (r81.2.2+1):=by
    intro n75 F hn75 f0 f3 hkT
    refine aA (dF g4 rfl) ?_
    obtain⟨i9,t1,t2,t3⟩:=aO0
    refine aAX (z:=3) (l:=lY acc) (y:=oS t) (aNu _ _ _ _) rfl hout4 aNW t1 (by omega) (by omega) aDM rfl rfl (by rw[vJ,t3]; unfold big; omega) (by rw[vJ]; unfold big; omega) (hf4.mono (by omega)) (by omega) (by omega) (fun e9=>by have:=hf4.lt' (hout4.blk e9).2; omega) fun h5 ho5 hk5 hf5=>?_
    generalize hnv:Value.slice (some (own (n75+4) 3)) (lY acc++[oS t]).length (lY acc++[oS t]).length=out2 at ho5
    have hsb:iK out2=some (n75+4):=by rw[← hnv]; rfl
    have hkk:dM (i7 out) h4 h5:=fun b o hb hn9=>hk5 b o hb (by have:=hf4.lt' hb; omega) fun e9=>hn9 (eV.2 e9)
    have hkO:∀ b∈i7 out,b ∉ eY p qs:=fun b hb h9=>by
     have:=hown b h9
     have:=yn b (ob b hb)
     omega
    show Q' .normal (F _ _ (out2,h5,n75+4+1)) h5 (n75+4+1+1)
    refine hq m _ _ _ _ (by omega) ⟨sC,acc++[t],out2,Y++[n75+4],f0 _ _ _,f3 _ _ _,by omega,fun b o hb hn9=>?_,hf5.mono (by omega),?_,by rw[aJo]; exact ho5,fun b hb=>?_,fun b hb=>?_,hI3,by rw[hclen,hcat]; omega,?_,by rw[List.length_append,hclen]; show acc.length+1+_≤_; omega,by omega⟩ (Sub.refl _)
    ·refine hkk b o (hkp4 b o hb hn9) fun h9=>?_
     have:=hf.lt' hb
     have:=yn b (ob b h9)
     omega
    ·refine hs4x.keep hkk (fun b hb=>List.mem_append_right _ (ob b hb)) hkO (fun b hb=>?_) fun b hb=>?_
     ·rcases List.mem_append.1 hb with hb | hb
      ·exact .inl (List.mem_append_left _ hb)
      ·rcases List.mem_append.1 hb with hb | hb
       ·exact .inl (List.mem_append_right _ hb)
       ·simp at hb; subst hb; exact .inr (hf4 _ (by omega))
     ·rw[← List.append_assoc]; exact List.mem_append_left _ hb
    ·have:=eV.1 hb
     rw[hsb] at this
     cases this
     exact List.mem_append_right _ (by simp)
    ·rcases List.mem_append.1 hb with hb | hb
     ·exact yn b hb
     ·simp at hb; omega
    ·rw[eqT]
     unfold aJW
     rw[if_pos hkT,List.append_assoc]
   have hnok:∀ (e':Env) (n':Nat),e' 0=ptr p→e' 3=out→n3+1≤n'→aCW T t=false→Q' .normal e' h4 n':=by
    intro e' n' f0 f3 hn' hkT
    refine hq m _ _ _ _ (by omega) ⟨sC,acc,out,Y,f0,f3,by omega,hkp4,hf4.mono hn',hs4x,hout4,ob,yn,hI3,by rw[hclen,hcat]; omega,?_,by rw[hclen]; omega,by omega⟩ (Sub.refl _)
    rw[eqT]
    unfold aJW
    rw[if_neg (by rw[hkT]; decide),List.nil_append]
   have t0:=aZ (ro:=ro) (z:=0) g4 (show (oS t)[0]?=some (.int .i64 t.rule) from rfl)
   (repeat(first|refine zzB ?_|apply aD|apply aE|with_reducible first|apply aG|apply aF|apply aK|apply aH|apply aJ|apply aI|apply aL|apply aC))
   refine aA t0 ?_
   by_cases hr:t.rule=-1
   ·have hkT:aCW T t=true:=by unfold aCW; rw[decide_eq_true hr]; rfl
    refine aKJ hr ?_
    (repeat(first|refine zzB ?_|apply aD|apply aE|with_reducible first|apply aG|apply aF|apply aK|apply aH|apply aJ|apply aI|apply aL|apply aC))
    refine happ _ _ ?_ ?_ ?_ hkT
    ·omega
    ·intro x y z; exact e0
    ·intro x y z; rfl
   ·have hrr:=hrt.resolve_left hr
    obtain⟨kv4,tv4,ev4,mv4,bv4,hv4⟩:=id hs4x
    have hv4:ScV ro h4 (X++Y) p qs T most er_ kv4 tv4 ev4 mv4 bv4 sC:=hv4
    have l1:=aZ (ro:=ro) (z:=0) hv4.1 (show (scL kv4 tv4 ev4 mv4 most bv4 sC er_)[1]?=some kv4 from rfl)
    have hkv:=hv4.2.1.sub (eF h4 (X++Y))
    have hix:=Sl.ixI hkv .i64 hrr.1 (by rw[zI]; exact hrr.2)
    have hkl9:t.rule.toNat < T.kinds.length:=by omega
    have hld:=hkv.load1 (aFw hkl9)
    have hgd:T.kinds.getD t.rule.toNat .empty=T.kinds[t.rule.toNat]:=by rw[List.getD_eq_getElem?_getD,List.getElem?_eq_getElem hkl9]; rfl
    have hkT:aCW T t=!decide (T.kinds[t.rule.toNat]=.empty):=by
     unfold aCW
     rw[decide_eq_false hr,hgd]
     generalize T.kinds[t.rule.toNat]=b9
     have:(b9.size≠0) ↔ ¬ (b9=.empty):=by
      constructor
      ·intro h9 e9; rw[e9] at h9; exact h9 rfl
      ·intro h9 e9
       apply h9
       obtain⟨⟨l9⟩⟩:=b9
       have:l9=[]:=List.length_eq_zero_iff.1 e9
       rw[this]; rfl
     by_cases h9:b9=.empty<;>simp[this,h9]
    generalize T.kinds[t.rule.toNat]=ks at hld hkT
    refine aKI hr ?_
    (repeat(first|refine aA (by simp (disch:=first|omega|exact nnN _|assumption) only [BB,B2,↓reduceIte,Nat.reduceLeDiff,Nat.reduceAdd,CC,bC,l1,t0]<;>rfl) ?_|apply aD|apply aE|with_reducible first|apply aG|apply aF|apply aK|apply aH|apply aJ|apply aI|apply aL|apply aC))
    refine aA hix ?_
    (repeat(first|refine zzB ?_|apply aD|apply aE|with_reducible first|apply aG|apply aF|apply aK|apply aH|apply aJ|apply aI|apply aL|apply aC))
    refine aA hld ?_
    (repeat(first|refine zzB ?_|apply aD|apply aE|with_reducible first|apply aG|apply aF|apply aK|apply aH|apply aJ|apply aI|apply aL|apply aC))
    refine aA (y6 ks .empty) ?_
    rw[← hkT]
    cases hkk:aCW T t with
    | true =>
     (repeat(first|refine zzB ?_|apply aD|apply aE|with_reducible first|apply aG|apply aF|apply aK|apply aH|apply aJ|apply aI|apply aL|apply aC))
     refine happ _ _ ?_ ?_ ?_ hkk
     ·omega
     ·intro x y z; exact e0
     ·intro x y z; rfl
    | false =>
     (repeat(first|refine zzB ?_|apply aD|apply aE|with_reducible first|apply aG|apply aF|apply aK|apply aH|apply aJ|apply aI|apply aL|apply aC))
     refine hnok _ _ ?_ ?_ ?_ hkk
     ·exact e0
     ·exact e3
     ·omega
end
end V
end Go.Proofs.YtcaccnneblghgaaGreat
namespace Go.Proofs.YtcaccnneblghgaaGreat
namespace V
attribute [local irreducible] aB ifP aR cT eQ exP cO
def u8L (l:List Nat):List Value:=l.map fun b:Nat=>Value.int .u8 (b:Int)
theorem wJ (l:List Nat):(u8L l).length=l.length:=by simp[u8L]
theorem aO4 (l m:List Nat):u8L (l++m)=u8L l++u8L m:=by simp[u8L]
theorem aDF:∀ l:List Nat,(bU l).flatten=u8L l
 | []=>rfl
 | x::r=>by
  have:=aDF r
  simp only[bU,List.map_cons,List.flatten_cons] at this ⊢
  rw[this]; rfl
theorem aNS (l:List Nat):(u8L l).all cU=true:=by simp[u8L,cU]
theorem aOi (n:Nat):aFR Tryz.prog bS n=some (List.replicate n (Value.int .u8 0)):=by
 cases n with
 | zero=>rfl
 | succ n =>
  obtain⟨i,h1,h2,h3⟩:=aCG
  have hz:∀ k,tB [Value.int .u8 0] k=List.replicate k (Value.int .u8 0):=fun k=>by
   induction k with
   | zero=>rfl
   | succ k ih=>rw[List.replicate_succ,← ih]; rfl
  simp only[aFR,aHF,aGy,Option.bind,cR]
  show some (tB [Value.int .u8 0] (n+1))=_
  rw[hz]
section
variable {ro:Ro}{h:T Obj}{nx:Nat}{K:KV}
theorem aLl {x:Value} (hx:Sl ro h x 1 (bU [])):cC Tryz.prog ro h nx #[a9,a9] [.slice none 0 0,x]=some (.slice none 0 0,h,nx):=by
 obtain⟨i,h1,h2,h3⟩:=aCG
 have hs:xF Tryz.prog ro h bS i.size i.bytes a9 x=some (0,[]):=by
  rcases hx with ⟨rfl,_⟩ | ⟨a,c,rfl,_,_,_,h9⟩
  ·simp only[xF,lB]
  ·have h9:cellsAt ro h a 0=some []:=by simpa [bU] using h9
   simp only[xF,lB,bU,List.map_nil,List.length_nil,Nat.zero_mul,h9,Option.bind]
 simp only[cC,List.getElem?_toArray,List.getElem?_cons_zero,List.getElem?_cons_succ,lB,h1,Option.bind,hs]
theorem aOw {x:Value}{id len cap:Nat}{C:List Value}{l:List Nat} (hg:h.get id=some (.cells C.toArray bS)) (hC:C.length=cap) (hx:Sl ro h x 1 (bU l)) (hle:len+l.length≤cap) :
  ∃ h',cC Tryz.prog ro h nx #[a9,a9] [.slice (some (own id 1)) len cap,x]=some (.slice (some (own id 1)) (len+l.length) cap,h',nx)∧h'.get id=some (.cells (over C len (u8L l)).toArray bS)∧∀ k,k≠id→h'.get k=h.get k:=by
 obtain⟨i,h1,h2,h3⟩:=aCG
 have hs:xF Tryz.prog ro h bS i.size i.bytes a9 x=some (l.length,u8L l):=by
  rcases hx with ⟨rfl,h9⟩ | ⟨a,c,rfl,_,_,_,h9⟩
  ·have:l=[]:=by
    cases l with
    | nil=>rfl
    | cons a r=>simp[bU] at h9
   subst this
   simp only[xF,lB]; rfl
  ·rw[aDF,dL] at h9
   simp only[xF,lB,dL,h2,h9,Option.bind]
 have hb1:Nat.ble (len+l.length) cap=true:=Nat.ble_eq_true_of_le hle
 cases l with
 | nil =>
  refine⟨h,?_,?_,fun k _=>rfl⟩
  ·rw[List.length_nil] at hb1 hs
   simp only[cC,List.getElem?_toArray,List.getElem?_cons_zero,List.getElem?_cons_succ,lB,h1,Option.bind,hs,hb1,List.length_nil]; rfl
  ·rw[hg]; simp[over,u8L]
 | cons a r =>
  refine⟨h.upd id (some (.cells (over C len (u8L (a::r))).toArray bS)),?_,T.get_upd_same _ _ _,fun k hk=>T.get_upd_ne _ _ hk⟩
  have hst:jN h (fwd (own id 1) (len*i.size)) (u8L (a::r))=some (h.upd id (some (.cells (over C len (u8L (a::r))).toArray bS))):=by
   unfold jN
   simp only[own,fwd,hg,aNS,h2,Nat.mul_one,Nat.zero_add]
   have:Nat.ble (len+(u8L (a::r)).length) C.toArray.size=true:=Nat.ble_eq_true_of_le (by rw[wJ,List.size_toArray]; omega)
   simp only[this]
  rw[List.length_cons] at hb1 hs
  simp only[cC,List.getElem?_toArray,List.getElem?_cons_zero,List.getElem?_cons_succ,lB,h1,Option.bind,hs,hb1,hst]
  simp only[own,h2,Nat.beq_refl,List.length_cons]
theorem aJv:eH Tryz.prog h .cap #[a9] [.slice none 0 0]=some (.int .i64 0):=by
 simp only[eH,List.getElem?_toArray,List.getElem?_cons_zero,Option.bind,lB]; rfl
theorem aOU:lT Tryz.prog a9 (.slice none 0 0) none (some (.int .i64 0)) none=some (.slice none 0 0):=by kernel_rfl
theorem aO5:und Tryz.prog dR=some (.int .i64):=by kernel_rfl
theorem aLk {n:Nat} (h0:0 < n) (hn:n≤1000000):cC Tryz.prog ro h nx #[a9,dR] [.slice none 0 0,.int .i64 (n:Int)]=some (.slice (some (own nx 1)) n n,h.upd nx (some (.cells (List.replicate n (Value.int .u8 0)).toArray bS)),nx+1):=by
 obtain⟨i,h1,h2,h3⟩:=aCG
 have hb1:Nat.ble (n*1) big=true:=Nat.ble_eq_true_of_le (by unfold big; omega)
 have hb2:Nat.ble (0+n) big=true:=Nat.ble_eq_true_of_le (by unfold big; omega)
 have hb3:Nat.ble ((0+n)*1) big=true:=Nat.ble_eq_true_of_le (by unfold big; omega)
 have hb4:Nat.ble (0+n) 0=false:=by
  cases hq:Nat.ble (0+n) 0 with
  | false=>rfl
  | true=>have:=Nat.le_of_ble_eq_true hq; omega
 have hs:xF Tryz.prog ro h bS 1 1 dR (.int .i64 (n:Int))=some (n,List.replicate n (Value.int .u8 0)):=by
  simp only[xF,aO5,decide_eq_true (show (0:Int)≤n by omega),decide_eq_true (show (n:Int)≤70368744177664 by omega),Int.toNat_natCast,hb1,aOi,Option.bind]
 have hok:(List.replicate n (Value.int .u8 0)).all cU=true:=by simp[cU]
 simp only[cC,List.getElem?_toArray,List.getElem?_cons_zero,List.getElem?_cons_succ,lB,h1,Option.bind,h2,h3,hs,hb4,aHF,hb3,hb2,cR,hok,aGf]
 simp
 rfl
set_option maxRecDepth 8000 in
theorem aNm {n:Nat}{e:Env} (f0:e 0=.slice none 0 0) (f1:e 1=.int .i64 (n:Int)) (hn:n≤1000000) (hf:Fr h nx) (hK0:n=0→∀ nx',nx≤nx'→K (.slice none 0 0) h nx') (hK1:0 < n→∀ id h' nx',nx≤id→id < nx'→Fr h' nx'→Sub h h'→h'.get id=some (.cells (List.replicate n (Value.int .u8 0)).toArray bS)→K (.slice (some (own id 1)) 0 n) h' nx'):jP ro K e h nx:=by
 unfold jP
 rw[f0,f1]
 have hj2:∀ (e':Env) (h':T Obj) (n':Nat) (v:Value),e' 0=v→K v h' (n'+2)→gT ro K e' h' n':=by
  intro e' h' n' v d0 dk
  unfold gT
  rw[d0]
  exact⟨h',Sub.refl _,dk⟩
 refine aA aJv ?_
 (repeat(first|refine zzB ?_|apply aD|apply aE|with_reducible first|apply aG|apply aF|apply aK|apply aH|apply aJ|apply aI|apply aL|apply aC))
 by_cases h0:n=0
 ·subst h0
  refine aKN (by omega) ?_
  (repeat(first|refine zzB ?_|apply aD|apply aE|with_reducible first|apply aG|apply aF|apply aK|apply aH|apply aJ|apply aI|apply aL|apply aC))
  refine hj2 _ _ _ (.slice none 0 0) f0 (hK0 rfl _ ?_)
  omega
 ·refine aKO (by omega) ?_
  (repeat(first|refine zzB ?_|apply aD|apply aE|with_reducible first|apply aG|apply aF|apply aK|apply aH|apply aJ|apply aI|apply aL|apply aC))
  refine aA aJv (aA aOU ?_)
  refine aA (aLk (by omega) hn) ?_
  dsimp only
  (repeat(first|refine zzB ?_|apply aD|apply aE|with_reducible first|apply aG|apply aF|apply aK|apply aH|apply aJ|apply aI|apply aL|apply aC))
  refine hj2 _ _ _ (.slice (some (own (nx+16) 1)) 0 n) (by kernel_rfl) (hK1 (by omega) _ _ _ ?_ ?_ ?_ (((Sub.refl h).new hf (by omega))) (T.get_upd_same _ _ _))
  ·omega
  ·omega
  ·exact (hf.mono (by omega)).upd (Nat.le_refl _) (by omega)
theorem aPG {n:Nat} (hn:n≤1000000) (hf:Fr h nx) (hK0:n=0→∀ nx',nx≤nx'→K (.slice none 0 0) h nx') (hK1:0 < n→∀ id h' nx',nx≤id→id < nx'→Fr h' nx'→Sub h h'→h'.get id=some (.cells (List.replicate n (Value.int .u8 0)).toArray bS)→K (.slice (some (own id 1)) 0 n) h' nx'):aN Tryz.prog ro j8 [.slice none 0 0,.int .i64 (n:Int)] h nx K:=by
 apply uK
 unfold o5
 (repeat(first|refine zzB ?_|apply aD|apply aE|with_reducible first|apply aG|apply aF|apply aK|apply aH|apply aJ|apply aI|apply aL|apply aC))
 exact aNm rfl rfl hn (hf.mono (by omega)) (fun h0 n' hn'=>hK0 h0 n' (by omega)) fun h0 id h' n' h1 h2 h3 h4 h5=>hK1 h0 id h' n' (by omega) h2 h3 h4 h5
def RB (ro:Ro) (h:V.T Obj) (x:List Value) (l:List Nat):Prop:=∃ w,x=[w]∧Sl ro h w 1 (bU l)
theorem RB.sub {h':V.T Obj} (hs:Sub h h'):∀ x l,RB ro h x l→RB ro h' x l:=fun x l ⟨w,h1,h2⟩=>⟨w,h1,h2.sub hs⟩
theorem aF7 {α:Type}{ls:List (List α)}{i:Nat} (hi:i < ls.length):(ls.take (i+1)).flatten=(ls.take i).flatten++ls[i]:=by
 rw[List.take_succ_eq_append_getElem hi,List.flatten_append]; simp
theorem aBB {α:Type}{ls:List (List α)} (i:Nat):(ls.take i).flatten.length≤ls.flatten.length:=by
 have h9:ls.flatten=(ls.take i).flatten++(ls.drop i).flatten:=by rw[← List.flatten_append,List.take_append_drop]
 rw[h9,List.length_append]; omega
theorem aJ1 (l m:List Nat) {k:Nat} (hk:m.length≤k):over (u8L l++List.replicate k (Value.int .u8 0)) l.length (u8L m)=u8L (l++m)++List.replicate (k - m.length) (Value.int .u8 0):=by
 unfold over
 rw[List.take_append_of_le_length (by rw[wJ]; exact Nat.le_refl _),List.take_of_length_le (by rw[wJ]; exact Nat.le_refl _),wJ,List.drop_append,wJ,List.drop_of_length_le (by rw[wJ]; omega),List.nil_append,Nat.add_sub_cancel_left,List.drop_replicate,aO4]
def aLb (h:V.T Obj) (nx N:Nat) (pre:List Nat) (w:Value) (h':V.T Obj):Prop:=Sub h h'∧((N=0∧w=.slice none 0 0)∨∃ id,nx≤id∧w=.slice (some (own id 1)) pre.length N∧h'.get id=some (.cells (u8L pre++List.replicate (N - pre.length) (Value.int .u8 0)).toArray bS))
set_option maxRecDepth 8000 in
theorem aLb.step {N n1:Nat}{pre l:List Nat}{w x:Value}{h':V.T Obj} (hc:aLb h nx N pre w h') (hf:Fr h nx) (hx:Sl ro h' x 1 (bU l)) (hle:pre.length+l.length≤N) {m:Nat} (hf':Fr h' m):∃ w2 h2,cC Tryz.prog ro h' n1 #[a9,a9] [w,x]=some (w2,h2,n1)∧aLb h nx N (pre++l) w2 h2∧Fr h2 m:=by
 obtain⟨hs,⟨h0,rfl⟩ | ⟨id,h1,rfl,h2⟩⟩:=hc
 ·have hl:l=[]:=List.length_eq_zero_iff.1 (by omega)
  subst hl
  exact⟨_,_,aLl hx,⟨hs,.inl ⟨h0,rfl⟩⟩,hf'⟩
 ·obtain⟨h3,g1,g2,g3⟩:=aOw (nx:=n1) h2 (cap:=N) (by rw[List.length_append,wJ,List.length_replicate]; omega) hx hle
  refine⟨_,_,g1,⟨fun k o hk=>?_,.inr ⟨id,h1,by rw[List.length_append],?_⟩⟩,fun k hk=>?_⟩
  ·have:=hf.lt' hk
   rw[g3 k (by omega)]
   exact hs k o hk
  ·rw[g2,aJ1 pre l (by omega),List.length_append,show N - pre.length - l.length=N - (pre.length+l.length) by omega]
  ·have:=hf'.lt' h2
   rw[g3 k (by omega)]
   exact hf' k hk
set_option maxRecDepth 8000 in
set_option maxHeartbeats 1000000 in
theorem aLx {v:Value}{ls:List (List Nat)} (hv:SlR ro h v 1 (RB ro h) ls) (hlen:ls.length≤1000) (hsum:ls.flatten.length≤100000) (hf:Fr h nx) (hK:∀ r h' nx',nx≤nx'→Fr h' nx'→Sub h h'→cW h' r 1 bS (bU ls.flatten) nx→K r h' nx'):aN Tryz.prog ro jA [v] h nx K:=by
 have hvl:=hv.len
 apply s6
 unfold nN
 refine aA hvl ?_
 refine bE (fun j e h' nx'=>∃ i:Nat,i+j=ls.length∧nx+5≤nx'∧h'=h∧e 0=v∧e 3=.int .i64 ((ls.take i).flatten.length:Nat)∧e 9=v∧e 10=.int .i64 ls.length∧e 11=.int .i64 i) ?_ (n:=ls.length) ⟨0,by omega,by omega,rfl,rfl,rfl,rfl,rfl,rfl⟩
 rintro j e h' nx' ⟨i,hj,hnx,rfl,e0,e3,e9,e10,e11⟩ Q' hq hx
 unfold lV
 rw[e3,e9,e10,e11]
 refine cV (fun hk=>?_) (fun hk=>?_)
 ·have hk:i < ls.length:=by omega
  obtain⟨w,⟨w',hw,hwl⟩,hld⟩:=hv.at1 hk
  cases hw
  have hle:=aBB (ls:=ls) (i+1)
  have hfs:=aF7 hk
  have hwn:=hwl.len
  rw[dL] at hwn
  rw[hfs,List.length_append] at hle
  (repeat(first|refine zzB ?_|apply aD|apply aE|with_reducible first|apply aG|apply aF|apply aK|apply aH|apply aJ|apply aI|apply aL|apply aC))
  refine aA (hv.ix .i64 hk) (aA hld (aA hwn ?_))
  have hadd:aO .add (.int .i64 (((ls.take i).flatten.length:Nat):Int)) (.int .i64 ((ls[i].length:Nat):Int))=some (.int .i64 (((ls.take (i+1)).flatten.length:Nat):Int)):=by
   rw[dK,hfs,List.length_append,show (((ls.take i).flatten.length:Nat):Int)+((ls[i].length:Nat):Int)=(((ls.take i).flatten.length+ls[i].length:Nat):Int) by omega,fB (by omega) (by omega)]
  refine aA hadd ?_
  (repeat(first|refine zzB ?_|apply aD|apply aE|with_reducible first|apply aG|apply aF|apply aK|apply aH|apply aJ|apply aI|apply aL|apply aC))
  have hj3:∀ (e':Env) n',e' 0=v→e' 3=.int .i64 ((ls.take (i+1)).flatten.length:Nat)→e' 9=v→e' 10=.int .i64 ls.length→e' 11=.int .i64 i→nx'≤n'→iU ro Q' e' h' n':=by
   intro e' n' d0 d3 d9 d10 d11 dn
   unfold iU
   rw[d11]
   (repeat(first|refine zzB ?_|apply aD|apply aE|with_reducible first|apply aG|apply aF|apply aK|apply aH|apply aJ|apply aI|apply aL|apply aC))
   exact hq (j - 1) _ _ _ _ (by omega) ⟨i+1,by omega,by omega,rfl,d0,d3,d9,d10,rfl⟩ (Sub.refl _)
  refine hj3 _ _ e0 rfl e9 e10 e11 ?_
  omega
 ·(repeat(first|refine zzB ?_|apply aD|apply aE|with_reducible first|apply aG|apply aF|apply aK|apply aH|apply aJ|apply aI|apply aL|apply aC))
  refine hx _ _ _ _ (fun e=>by cases e) (eD (cQ ?_))
  obtain rfl:i=ls.length:=by omega
  rw[List.take_length] at e3
  have hj1:∀ (e':Env) n',e' 0=v→e' 3=.int .i64 (ls.flatten.length:Nat)→nx'≤n'→gD ro K e' h' n':=by
   intro e' n' d0 d3 dn
   unfold gD
   rw[d0,d3]
   have hfin:∀ (w0:Value) (h1:V.T Obj) (n1:Nat) (e1:Env),e1 0=v→e1 6=w0→e1 25=v→e1 26=.int .i64 ls.length→e1 27=.int .i64 0→nx≤n1→Fr h1 n1→aLb h' nx ls.flatten.length [] w0 h1 →
     dT (iT ro) e1 h1 n1 fun x14 e11 h12 n13=>exP x14 (eE ro K e11 h12 n13) (fun i15=>cO (Nat.beq i15 2) (eE ro K e11 h12 n13) (False)) (∃ h16,Sub h16 h12∧K (e11 2) h16 n13):=by
    intro w0 h1 n1 e1 b0 b6 b25 b26 b27 bn bf bc
    refine bE (fun j e h2 n2=>∃ (i:Nat) (w:Value),i+j=ls.length∧nx≤n2∧Fr h2 n2∧e 6=w∧e 25=v∧e 26=.int .i64 ls.length∧e 27=.int .i64 i∧aLb h' nx ls.flatten.length (ls.take i).flatten w h2) ?_ (n:=ls.length) ⟨0,w0,by omega,bn,bf,b6,b25,b26,b27,bc⟩
    rintro j e h2 n2 ⟨i,w,hj,hn2,hf2,c6,c25,c26,c27,hcat⟩ Q' hq hx
    unfold iT
    rw[c6,c25,c26,c27]
    refine cV (fun hk=>?_) (fun hk=>?_)
    ·have hk:i < ls.length:=by omega
     have hv2:=hv.sub hcat.1 (RB.sub hcat.1)
     obtain⟨w9,⟨w',hw,hwl⟩,hld⟩:=hv2.at1 hk
     cases hw
     have hle:=aBB (ls:=ls) (i+1)
     have hfs:=aF7 hk
     rw[hfs,List.length_append] at hle
     obtain⟨w2,h3,p1,p2,p3⟩:=hcat.step (n1:=n2+7) hf hwl hle hf2
     rw[← hfs] at p2
     (repeat(first|refine zzB ?_|apply aD|apply aE|with_reducible first|apply aG|apply aF|apply aK|apply aH|apply aJ|apply aI|apply aL|apply aC))
     refine aA (hv2.ix .i64 hk) (aA hld (aA p1 ?_))
     (repeat(first|refine zzB ?_|apply aD|apply aE|with_reducible first|apply aG|apply aF|apply aK|apply aH|apply aJ|apply aI|apply aL|apply aC))
     dsimp only
     exact hq (j - 1) _ _ _ _ (by omega) ⟨i+1,w2,by omega,by omega,p3.mono (by omega),rfl,c25,c26,rfl,p2⟩ (Sub.refl _)
    ·(repeat(first|refine zzB ?_|apply aD|apply aE|with_reducible first|apply aG|apply aF|apply aK|apply aH|apply aJ|apply aI|apply aL|apply aC))
     refine hx _ _ _ _ (fun e=>by cases e) (eD (cQ ?_))
     obtain rfl:i=ls.length:=by omega
     rw[List.take_length] at hcat
     have hj2:∀ (e':Env) n',e' 6=w→n2≤n'→eE ro K e' h2 n':=by
      intro e' n' d6 dn
      unfold eE
      rw[d6]
      refine⟨h2,Sub.refl _,hK w h2 _ (by omega) (hf2.mono (by omega)) hcat.1 ?_⟩
      obtain⟨_,⟨q1,q2⟩ | ⟨id,q1,q2,q3⟩⟩:=hcat
      ·refine .inl ⟨q2,?_⟩
       rw[List.length_eq_zero_iff.1 q1]; rfl
      ·refine .inr ⟨id,q1,?_,(fun x hx=>by unfold bU at hx; obtain⟨b,_,rfl⟩:=List.mem_map.1 hx; rfl),?_⟩
       ·rw[q2,dL]
       ·rw[q3,aDF,Nat.sub_self]; simp
     refine hj2 _ _ c6 ?_
     omega
   refine aPG (n:=ls.flatten.length) (by omega) (hf.mono (by omega)) (fun h0 n1 hn1=>?_) fun h0 id h1 n1 hn1 hn2 hf1 hs1 hg1=>?_
   ·(repeat(first|refine zzB ?_|apply aD|apply aE|with_reducible first|apply aG|apply aF|apply aK|apply aH|apply aJ|apply aI|apply aL|apply aC))
    refine aA hvl ?_
    refine hfin _ _ _ _ d0 rfl rfl rfl rfl ?_ ?_ ⟨Sub.refl _,.inl ⟨h0,rfl⟩⟩
    ·omega
    ·exact hf.mono (by omega)
   ·(repeat(first|refine zzB ?_|apply aD|apply aE|with_reducible first|apply aG|apply aF|apply aK|apply aH|apply aJ|apply aI|apply aL|apply aC))
    refine aA hvl ?_
    refine hfin _ _ _ _ d0 rfl rfl rfl rfl ?_ ?_ ⟨hs1,.inr ⟨id,?_,rfl,?_⟩⟩
    ·omega
    ·exact hf1.mono (by omega)
    ·omega
    ·rw[hg1]; rfl
  refine hj1 _ _ e0 e3 ?_
  omega
end
end V
end Go.Proofs.YtcaccnneblghgaaGreat
namespace Go.Proofs.YtcaccnneblghgaaGreat
namespace V
attribute [local irreducible] aB ifP aR cT eQ exP cO
theorem aPW (id:Nat) (o1 o2:Option Addr) (l1 c1 l2 c2:Nat):bR Tryz.prog fN id 2 [(0,.slice o1 l1 c1),(1,.slice o2 l2 c2)]=some (.slice (some (own id 1)) 2 2,some (.cells [Value.slice o1 l1 c1,.slice o2 l2 c2].toArray a9)):=by kernel_rfl
theorem Sl.form {ro:Ro}{h:T Obj}{v:Value}{z:Nat}{l:List (List Value)} (hl:Sl ro h v z l):∃ o n c,v=.slice o n c:=by
 rcases hl with ⟨h1,_⟩ | ⟨a,c,h1,_⟩
 ·exact⟨_,_,_,h1⟩
 ·exact⟨_,_,_,h1⟩
def aAz (most:Int) (s':ScD):Int:=if most < (s'.kept.length:Int) then 180 else 0
section
variable {ro:Ro}{h h':T Obj}{nx:Nat}{K:KV}{X X':List Nat}{p:Nat}{qs:List MqD}{T:TabD}{most er_ er':Int}{s s':ScD}
theorem aHW (h:ScI T s):ScI T { s with closed:=true }:=⟨⟨h.ok.lt,h.ok.len,h.ok.took,h.ok.held,h.ok.none,h.ok.some⟩,h.c,h.ms,h.ru,h.kb,h.st⟩
set_option maxRecDepth 8000 in
set_option maxHeartbeats 1000000 in
theorem aB2 (hm:ScX ro h X p qs T most 0 s) (hT:TabR T) (hI:ScI T s) (hTl:T.entries.length≤1000) (hcl:s.closed=false) (hsz:s.at_+s.kept.length≤400) (hf:Fr h nx)
  (hK:∀ r h' nx',nx≤nx'→Fr h' nx'→dM (eY p qs) h h'→ScX ro h' X p qs T most 0 (aBf T s).2→cW h' r 3 bI (lY (aBf T s).1) nx→K (.tuple #[r,.int .i64 0]) h' nx'):aN Tryz.prog ro jH [ptr p] h nx K:=by
 have hr:aI5 0 s.closed=0:=by unfold aI5; rw[if_neg (by rw[hcl]; simp)]
 apply xB
 unfold s4
 refine yW hm fun n1 hn1=>?_
 refine aAA hr ?_
 obtain⟨kv,tv,ev,mv,bv,hv⟩:=id hm
 have hv:ScV ro h X p qs T most 0 kv tv ev mv bv s:=hv
 have g1:=hv.1
 (repeat(first|refine aA (by simp (disch:=first|omega|exact nnN _|assumption) only [BB,B2,↓reduceIte,Nat.reduceLeDiff,Nat.reduceAdd,CC,bC]<;>rfl) ?_|apply aD|apply aE|with_reducible first|apply aG|apply aF|apply aK|apply aH|apply aJ|apply aI|apply aL|apply aC))
 refine aA (dJ g1 (by simp[scL]) rfl rfl) ?_
 have hov:(scL kv tv ev mv most bv s 0).set 14 (.bool true)=scL kv tv ev mv most bv { s with closed:=true } 0:=rfl
 rw[hov]
 have hv1:=hv.upd (s':={ s with closed:=true }) (er':=0) rfl rfl
 have hk1:dM (eY p qs) h (h.upd p (some (.cells (scL kv tv ev mv most bv { s with closed:=true } 0).toArray aQ))):=(Sub.refl _).keepL.upd (List.mem_cons_self ..)
 refine aAR hv1.x hT (aHW hI) hTl hsz ((hf.mono (by omega)).upd (Nat.le_refl _) (by have:=hf.lt' g1; omega)) fun r h2 n2 hn2 hf2 hk2 hs2 ho2=>?_
 (repeat(first|refine zzB ?_|apply aD|apply aE|with_reducible first|apply aG|apply aF|apply aK|apply aH|apply aJ|apply aI|apply aL|apply aC))
 refine⟨h2,Sub.refl _,?_⟩
 exact hK r h2 _ (by omega) (hf2.mono (by omega)) (hk1.trans hk2) hs2 (ho2.mono (by omega))
set_option maxRecDepth 8000 in
set_option maxHeartbeats 1000000 in
theorem yR {bb:Value}{b:List Nat} (hm:ScX ro h X p qs T most 0 s) (hT:TabR T) (hI:ScI T s) (hTl:T.entries.length≤1000) (hcl:s.closed=false) (hX:∀ k∈X,k < nx) (hb:Sl ro h bb 1 (bU b)) (hb2:∀ x∈b,x < 256) (hsz:s.at_+s.kept.length+b.length≤400) (hf:Fr h nx)
  (hK:∀ r h' nx',nx≤nx'→Fr h' nx'→dM (eY p qs) h h'→ScX ro h' X p qs T most (aAz most (fV T s b).2) (fV T s b).2→cW h' r 3 bI (lY (fV T s b).1) nx→K (.tuple #[r,.int .i64 (aAz most (fV T s b).2)]) h' nx'):aN Tryz.prog ro iA [ptr p,bb] h nx K:=by
 have hr:aI5 0 s.closed=0:=by unfold aI5; rw[if_neg (by rw[hcl]; simp)]
 apply yT
 unfold tR
 refine yW hm fun n1 hn1=>?_
 refine aAA hr ?_
 obtain⟨kv,tv,ev,mv,bv,hv⟩:=id hm
 have hv:ScV ro h X p qs T most 0 kv tv ev mv bv s:=hv
 have g1:=hv.1
 have hpl:=hf.lt' g1
 have hbv:Sl ro h bv 1 (bU s.kept):=hv.2.2.2.2.2.1.sub (eF h X)
 have l6:=aZ (ro:=ro) (z:=0) g1 (show (scL kv tv ev mv most bv s 0)[6]?=some bv from rfl)
 (repeat(first|refine aA (by simp (disch:=first|omega|exact nnN _|assumption) only [BB,B2,↓reduceIte,Nat.reduceLeDiff,Nat.reduceAdd,CC,bC,l6]<;>rfl) ?_|apply aD|apply aE|with_reducible first|apply aG|apply aF|apply aK|apply aH|apply aJ|apply aI|apply aL|apply aC))
 obtain⟨o1,m1,c1,e1⟩:=hbv.form
 obtain⟨o2,m2,c2,e2⟩:=hb.form
 refine aA (by rw[e1,e2]; exact aPW _ _ _ _ _ _ _) (aE ?_)
 rw[← e1,← e2]
 generalize hh1:h.upd (n1+9) (some (.cells [bv,bb].toArray a9))=h1
 have hs1:Sub h h1:=by rw[← hh1]; exact (Sub.refl h).new hf (by omega)
 have hf1:Fr h1 (n1+11):=by rw[← hh1]; exact (hf.mono (by omega)).upd (Nat.le_refl _) (by omega)
 have hlist:SlR ro h1 (.slice (some (own (n1+9) 1)) 2 2) 1 (RB ro h1) [s.kept,b]:=by
  refine⟨[[bv],[bb]],Sl.own (l:=[[bv],[bb]]) (e:=a9) (f:=(0,0)) (by rw[← hh1,V.T.get_upd_same]; rfl) (by simp) (Nat.le_refl _),rfl,fun i x d hx hd=>?_⟩
  match i,hx,hd with
  | 0,hx,hd=>cases hx; cases hd; exact⟨bv,rfl,hbv.sub hs1⟩
  | 1,hx,hd=>cases hx; cases hd; exact⟨bb,rfl,hb.sub hs1⟩
  | i+2,hx,hd=>cases hx
 refine aLx hlist (by show 2≤1000; decide) (by simp; omega) hf1 fun r2 h2 n2 hn2 hf2 hs2 ho2=>?_
 have hfl:[s.kept,b].flatten=s.kept++b:=by simp
 rw[hfl] at ho2
 have hv2:=(hv.sub hs1).sub hs2
 (repeat(first|refine aA (by simp (disch:=first|omega|exact nnN _|assumption) only [BB,B2,↓reduceIte,Nat.reduceLeDiff,Nat.reduceAdd,CC,bC]<;>rfl) ?_|apply aD|apply aE|with_reducible first|apply aG|apply aF|apply aK|apply aH|apply aJ|apply aI|apply aL|apply aC))
 obtain⟨o3,m3,c3,e3⟩:=ho2.form
 refine aA (dJ hv2.1 (by simp[scL]) ho2.ok (by rw[e3]; rfl)) ?_
 have hov:(scL kv tv ev mv most bv s 0).set 6 r2=scL kv tv ev mv most r2 (uQ s b) 0:=rfl
 rw[hov]
 have hv3:=hv2.updB (s':=uQ s b) (bv':=r2) (er':=0) rfl (ho2.del fun id hid hm9=>by
  have:=hX id hm9
  have:=(ho2.blk hid).1
  omega).sl
 generalize hh3:h2.upd p (some (.cells (scL kv tv ev mv most r2 (uQ s b) 0).toArray aQ))=h3 at hv3
 have hk3:dM (eY p qs) h h3:=by rw[← hh3]; exact (hs1.trans hs2).keepL.upd (List.mem_cons_self ..)
 have hf3:Fr h3 n2:=by rw[← hh3]; exact hf2.upd (Nat.le_refl _) (by omega)
 have hlen9:(uQ s b).kept.length=s.kept.length+b.length:=List.length_append
 refine aAR hv3.x hT (aLg hI hb2) hTl (by rw[hlen9]; show s.at_+_≤400; omega) (hf3.mono (by omega)) fun r4 h4 n4 hn4 hf4 hk4 hs4 ho4=>?_
 rw[hlen9] at hs4 ho4
 have hs4:ScX ro h4 X p qs T most 0 (fV T s b).2:=hs4
 have ho4:cW h4 r4 3 bI (lY (fV T s b).1) (n2+5):=ho4
 have hI4:=aMQ hT hI hb2
 obtain⟨kv4,tv4,ev4,mv4,bv4,hv4⟩:=id hs4
 have hv4:ScV ro h4 X p qs T most 0 kv4 tv4 ev4 mv4 bv4 (fV T s b).2:=hv4
 have hbl:=(hv4.2.2.2.2.2.1.sub (eF h4 X)).len
 rw[dL] at hbl
 have l64:=aZ (ro:=ro) (z:=0) hv4.1 (show (scL kv4 tv4 ev4 mv4 most bv4 (fV T s b).2 0)[6]?=some bv4 from rfl)
 have l54:=aZ (ro:=ro) (z:=0) hv4.1 (show (scL kv4 tv4 ev4 mv4 most bv4 (fV T s b).2 0)[5]?=some (.int .i64 most) from rfl)
 have hj1:∀ (e':Env) (h5:V.T Obj) (n':Nat) (er':Int),e' 0=ptr p→e' 7=r4→er'=aAz most (fV T s b).2→n4≤n'→Fr h5 n'→dM (eY p qs) h h5→ScV ro h5 X p qs T most er' kv4 tv4 ev4 mv4 bv4 (fV T s b).2→cW h5 r4 3 bI (lY (fV T s b).1) (n2+5)→jJ ro K e' h5 n':=by
  intro e' h5 n' er' d0 d7 de dn df dk dv do_
  unfold jJ
  rw[d0,d7]
  have l13:=aZ (ro:=ro) (z:=0) dv.1 (show (scL kv4 tv4 ev4 mv4 most bv4 (fV T s b).2 er')[13]?=some (.int .i64 er') from rfl)
  (repeat(first|refine aA (by simp (disch:=first|omega|exact nnN _|assumption) only [BB,B2,↓reduceIte,Nat.reduceLeDiff,Nat.reduceAdd,CC,bC,l13]<;>rfl) ?_|apply aD|apply aE|with_reducible first|apply aG|apply aF|apply aK|apply aH|apply aJ|apply aI|apply aL|apply aC))
  rw[← de] at hK
  exact⟨h5,Sub.refl _,hK r4 h5 _ (by omega) (df.mono (by omega)) dk dv.x (do_.mono (by omega))⟩
 (repeat(first|refine aA (by simp (disch:=first|omega|exact nnN _|assumption) only [BB,B2,↓reduceIte,Nat.reduceLeDiff,Nat.reduceAdd,CC,bC,l64]<;>rfl) ?_|apply aD|apply aE|with_reducible first|apply aG|apply aF|apply aK|apply aH|apply aJ|apply aI|apply aL|apply aC))
 refine aA hbl ?_
 (repeat(first|refine aA (by simp (disch:=first|omega|exact nnN _|assumption) only [BB,B2,↓reduceIte,Nat.reduceLeDiff,Nat.reduceAdd,CC,bC,l54]<;>rfl) ?_|apply aD|apply aE|with_reducible first|apply aG|apply aF|apply aK|apply aH|apply aJ|apply aI|apply aL|apply aC))
 by_cases hmo:most < ((fV T s b).2.kept.length:Int)
 ·refine aKO hmo ?_
  (repeat(first|refine aA (by simp (disch:=first|omega|exact nnN _|assumption) only [BB,B2,↓reduceIte,Nat.reduceLeDiff,Nat.reduceAdd,CC,bC]<;>rfl) ?_|apply aD|apply aE|with_reducible first|apply aG|apply aF|apply aK|apply aH|apply aJ|apply aI|apply aL|apply aC))
  refine aA (dJ hv4.1 (by simp[scL]) rfl rfl) ?_
  have hov4:(scL kv4 tv4 ev4 mv4 most bv4 (fV T s b).2 0).set 13 (.int .i64 180)=scL kv4 tv4 ev4 mv4 most bv4 (fV T s b).2 180:=rfl
  rw[hov4]
  have hp4:=hf4.lt' hv4.1
  refine hj1 _ _ _ 180 rfl rfl (by unfold aAz; rw[if_pos hmo]) ?_ ?_ ((hk3.trans hk4).upd (List.mem_cons_self ..)) (hv4.upd rfl rfl) (ho4.keepK (ids:=[p]) ((Sub.refl _).keepL.upd (by simp)) fun id hid hm9=>by simp at hm9; subst hm9; have:=(ho4.blk hid).1; omega)
  ·omega
  ·exact (hf4.mono (by omega)).upd (Nat.le_refl _) (by omega)
 ·refine aKN (by omega) ?_
  (repeat(first|refine zzB ?_|apply aD|apply aE|with_reducible first|apply aG|apply aF|apply aK|apply aH|apply aJ|apply aI|apply aL|apply aC))
  refine hj1 _ _ _ 0 rfl rfl (by unfold aAz; rw[if_neg hmo]) ?_ ?_ (hk3.trans hk4) hv4 ho4
  ·omega
  ·exact hf4.mono (by omega)
end
end V
end Go.Proofs.YtcaccnneblghgaaGreat
namespace Go.Proofs.YtcaccnneblghgaaGreat
namespace V
attribute [local irreducible] aB ifP aR cT eQ exP cO
theorem aMk (h:T Obj) (a b:Int):eH Tryz.prog h .min #[dR,dR] [.int .i64 a,.int .i64 b]=some (.int .i64 (if b < a then b else a)):=by
 simp only[eH,aG6,aIF]
 by_cases hb:b < a<;>simp[hb]
theorem aOt {ro:Ro}{h:T Obj}{v:Value}{l:List Nat} (hv:SlR ro h v 1 RU8 l):Sl ro h v 1 (bU l)∧∀ x∈l,x < 256:=by
 obtain⟨cs,h1,h2,h3⟩:=hv
 have e:cs=bU l:=by
  apply List.ext_getElem?
  intro i
  rcases Nat.lt_or_ge i l.length with hi | hi
  ·have hx:cs[i]?=some (cs[i]'(by omega)):=List.getElem?_eq_getElem _
   have:=(h3 i _ _ hx (List.getElem?_eq_getElem hi)).1
   rw[hx,this,rY hi]
  ·rw[List.getElem?_eq_none (by omega),List.getElem?_eq_none (by rw[dL]; omega)]
 refine⟨by rw[← e]; exact h1,fun x hx=>?_⟩
 obtain⟨i,hi⟩:=List.getElem?_of_mem hx
 have hl:=(List.getElem?_eq_some_iff.1 hi).1
 exact (h3 i _ x (List.getElem?_eq_getElem (by omega)) hi).2
theorem dM.base {ids:List Nat}{h0 h h':T Obj}{n0:Nat} (hk:dM ids h h') (hs:Sub h0 h) (hf:Fr h0 n0) (hi:∀ k∈ids,n0≤k):Sub h0 h':=fun k o hk0=>hk k o (hs k o hk0) fun h9=>by
 have:=hf.lt' hk0
 have:=hi k h9
 omega
theorem aCi.right {ro:Ro}{h:T Obj}{x:List Value}{Tb:TabD} (hd:aCi ro h x Tb) (hr:fQ Tb=true):TabR Tb:=by
 obtain⟨cv,kv0,tv0,ev0,rfl,q1,q2,q3,q4,q5,q6,q7,q8⟩:=id hd
 refine (aI7 hr fun e he=>?_).1
 obtain⟨j,hj⟩:=List.getElem?_of_mem he
 obtain⟨hlt,rfl⟩:=List.getElem?_eq_some_iff.1 hj
 obtain⟨y,⟨ax,rv,_,hA,_⟩,_⟩:=q4.at hlt
 obtain⟨cv9,sv9,_,hc9,_⟩:=hA
 exact hc9
end V
end Go.Proofs.YtcaccnneblghgaaGreat
namespace Go.Proofs.YtcaccnneblghgaaGreat
namespace V
attribute [local irreducible] aB ifP aR cT eQ exP cO
def kZ (ls:List (List Nat)):List (List Nat):=(ls.take 12).map (·.take 20)
theorem aAc (ls:List (List Nat)):(kZ ls).length=min 12 ls.length:=by simp[kZ]
theorem aJ2 {ls:List (List Nat)}{i:Nat} (hi:i < ls.length) (h12:i < 12):(kZ ls)[i]?=some (ls[i].take 20):=by
 unfold kZ
 rw[List.getElem?_map,List.getElem?_take_of_lt h12,List.getElem?_eq_getElem hi]; rfl
theorem aIR {ls:List (List Nat)} (h:∀ b∈ls,∀ x∈b,x < 256):∀ b∈kZ ls,∀ x∈b,x < 256:=fun b hb x hx=>by
 unfold kZ at hb
 obtain⟨y,hy,rfl⟩:=List.mem_map.1 hb
 exact h y (List.mem_of_mem_take hy) x (List.mem_of_mem_take hx)
theorem aPU (id:Nat) (o1:Option Addr) (l1 c1:Nat):bR Tryz.prog fN id 1 [(0,.slice o1 l1 c1)]=some (.slice (some (own id 1)) 1 1,some (.cells [Value.slice o1 l1 c1].toArray a9)):=by kernel_rfl
theorem aPo:und Tryz.prog fN=some (.slice a9):=by kernel_rfl
theorem aPl:∃ i,tin Tryz.prog a9=some i∧i.size=1∧i.bytes=24:=wW (by kernel_rfl)
theorem aPs:zer Tryz.prog a9=some (.slice none 0 0):=by kernel_rfl
section
variable {ro:Ro}{h:T Obj}{nx:Nat}{K:KV}{X:List Nat}
set_option maxRecDepth 8000 in
set_option maxHeartbeats 1000000 in
theorem z8 {v:Value}{ls:List (List Nat)} (hv:SlR ro (del h X) v 1 (RB ro (del h X)) ls) (hl:ls.length≤kN) (hlb:∀ b∈ls,b.length≤kN) (hX:∀ k∈X,k < nx) (hf:Fr h nx)
  (hK:∀ r h' nx',nx≤nx'→Fr h' nx'→Sub h h'→SlR ro (del h' X) r 1 (RB ro (del h' X)) (kZ ls)→K r h' nx'):aN Tryz.prog ro pE [v] h nx K:=by
 have hvh:=hv.sub (eF h X) (RB.sub (eF h X))
 have hvl:=hvh.len
 have hl9:ls.length≤9223372036854775807:=hl
 apply aDr
 unfold aCX
 refine aA hvl ?_
 refine bE (fun j e h' nx'=>∃ (k:Nat) (out:Value) (cs:List (List Value)),k+j=ls.length∧nx+5≤nx'∧Sub h h'∧Fr h' nx'∧e 3=out∧e 6=v∧e 7=.int .i64 ls.length∧e 8=.int .i64 k∧cW h' out 1 a9 cs nx∧cs.length=min 12 k ∧
   ∀ (i:Nat) x d,cs[i]?=some x→(kZ ls)[i]?=some d→RB ro (del h X) x d) ?_ (n:=ls.length) ⟨0,.slice none 0 0,[],by omega,by omega,Sub.refl _,hf.mono (by omega),rfl,rfl,rfl,rfl,cW.nil,rfl,fun i x d hx=>by simp at hx⟩
 rintro j e h' nx' ⟨k,out,cs,hj,hnx,hs,hf',e3,e6,e7,e8,ho,hcl,hcs⟩ Q' hq hx
 unfold x5
 rw[e3,e6,e7,e8]
 refine cV (fun hk=>?_) (fun hk=>?_)
 ·have hk:k < ls.length:=by omega
  have hv2:=hvh.sub hs (RB.sub hs)
  obtain⟨w,⟨w',hw,hwl⟩,hld⟩:=hv2.at1 hk
  cases hw
  have hj2:∀ (e':Env) (h2:T Obj) (n':Nat) (out':Value) (cs':List (List Value)),e' 3=out'→e' 6=v→e' 7=.int .i64 ls.length→e' 8=.int .i64 k→nx'≤n'→Sub h h2→Fr h2 n'→cW h2 out' 1 a9 cs' nx→cs'.length=min 12 (k+1) →
    (∀ (i:Nat) x d,cs'[i]?=some x→(kZ ls)[i]?=some d→RB ro (del h X) x d)→oD ro Q' e' h2 n':=by
   intro e' h2 n' out' cs' d3 d6 d7 d8 dn ds df do_ dl dc
   unfold oD
   rw[d8]
   (repeat(first|refine zzB ?_|apply aD|apply aE|with_reducible first|apply aG|apply aF|apply aK|apply aH|apply aJ|apply aI|apply aL|apply aC))
   exact hq (j - 1) _ _ _ _ (by omega) ⟨k+1,out',cs',by omega,by omega,ds,df.mono (by omega),d3,d6,d7,rfl,do_,dl,dc⟩ (Sub.refl _)
  (repeat(first|refine zzB ?_|apply aD|apply aE|with_reducible first|apply aG|apply aF|apply aK|apply aH|apply aJ|apply aI|apply aL|apply aC))
  refine aA (hv2.ix .i64 hk) (aA hld ?_)
  by_cases h12:k < 12
  ·refine aOr (by omega) ?_
   (repeat(first|refine zzB ?_|apply aD|apply aE|with_reducible first|apply aG|apply aF|apply aK|apply aH|apply aJ|apply aI|apply aL|apply aC))
   obtain⟨w2,⟨w3,hw3,hwl3⟩,hld3⟩:=hv.at1 hk
   cases hw3
   have hww:w2=w:=by
    have h9:=aBr ((eF h X).trans hs) hld3
    rw[hld] at h9
    exact (Option.some.inj h9).symm
   subst hww
   have hlen:=hwl3.len
   rw[dL] at hlen
   have hbl9:ls[k].length≤9223372036854775807:=hlb _ (List.getElem_mem hk)
   refine aA hlen (aA (aMk _ _ _) ?_)
   have hmin:(if (20:Int) < (ls[k].length:Int) then (20:Int) else (ls[k].length:Int))=((min 20 ls[k].length:Nat):Int):=by split<;>omega
   rw[hmin]
   obtain⟨xv,hx1,hx2⟩:=Sl.take (P:=Tryz.prog) hwl3 lB aGy (by omega) (n:=min 20 ls[k].length) (by rw[dL]; omega) .i64
   have htk:(bU ls[k]).take (min 20 ls[k].length)=bU (ls[k].take 20):=by
    rw[List.take_eq_take_min (i:=20)]
    simp only[bU,List.map_take]
   rw[htk] at hx2
   refine aA hx1 ?_
   obtain⟨o1,m1,c1,e1⟩:=hx2.form
   obtain⟨i9,t1,t2,t3⟩:=aPl
   refine aAX (z:=1) (l:=cs) (y:=[xv]) (by rw[e1]; exact aPU _ _ _ _) rfl ho aPo t1 (by omega) (by omega) aPs rfl (by simp only[List.all_cons,List.all_nil,hx2.ok,Bool.and_true]) (by rw[t3]; unfold big; omega) (by unfold big; omega) (hf'.mono (by omega)) (by omega) (by omega) (fun e9=>by have:=hf'.lt' (ho.blk e9).2; omega) fun h5 ho5 hk5 hf5=>?_
   refine hj2 _ _ _ _ (cs++[[xv]]) rfl e6 e7 e8 ?_ ?_ ?_ ho5 ?_ ?_
   ·dsimp only; omega
   ·intro b o hb
    have hlt:=hf.lt' hb
    refine hk5 b o (hs b o hb) (by omega) fun e9=>?_
    have:=(ho.blk e9).1
    omega
   ·exact hf5.mono (by dsimp only; omega)
   ·rw[List.length_append,hcl]; show min 12 k+1=_; omega
   ·intro i x d hxi hdi
    rcases Nat.lt_or_ge i cs.length with hi | hi
    ·rw[List.getElem?_append_left hi] at hxi
     exact hcs i x d hxi hdi
    ·rw[List.getElem?_append_right hi] at hxi
     have hi0:i - cs.length=0:=by
      rcases Nat.eq_zero_or_pos (i - cs.length) with h0 | h0
      ·exact h0
      ·rw[List.getElem?_eq_none (by simp; omega)] at hxi; cases hxi
     rw[hi0] at hxi
     cases hxi
     rw[show i=k by omega,aJ2 hk h12] at hdi
     cases hdi
     exact⟨xv,rfl,hx2⟩
  ·refine aOq (by omega) ?_
   (repeat(first|refine zzB ?_|apply aD|apply aE|with_reducible first|apply aG|apply aF|apply aK|apply aH|apply aJ|apply aI|apply aL|apply aC))
   refine hj2 _ _ _ out cs e3 e6 e7 e8 ?_ hs ?_ ho ?_ hcs
   ·omega
   ·exact hf'.mono (by omega)
   ·omega
 ·(repeat(first|refine zzB ?_|apply aD|apply aE|with_reducible first|apply aG|apply aF|apply aK|apply aH|apply aJ|apply aI|apply aL|apply aC))
  refine hx _ _ _ _ (fun e=>by cases e) (eD (cQ ?_))
  obtain rfl:k=ls.length:=by omega
  have hfin:∀ (e':Env) n',e' 3=out→nx'≤n'→oC ro K e' h' n':=by
   intro e' n' d3 dn
   unfold oC
   rw[d3]
   have hD:Sub (del h X) (del h' X):=dM.del (ids:=[]) hs.keepL (fun k hk=>by cases hk) fun k hk=>.inl hk
   refine⟨h',Sub.refl _,hK out h' _ (by omega) (hf'.mono (by omega)) hs ⟨cs,(ho.del fun id hid hm=>?_).sl,by rw[hcl,aAc],fun i x d hx hd=>RB.sub hD x d (hcs i x d hx hd)⟩⟩
   have:=(ho.blk hid).1
   have:=hX id hm
   omega
  refine hfin _ _ e3 ?_
  omega
end
end V
end Go.Proofs.YtcaccnneblghgaaGreat
namespace Go.Proofs.YtcaccnneblghgaaGreat
namespace V
attribute [local irreducible] aB ifP aR cT eQ exP cO
def aGU (T:TabD):ScD→List (List Nat)→List TokD × ScD
 | s,[]=>([],s)
 | s,b::l=>((fV T s b).1++(aGU T (fV T s b).2 l).1,(aGU T (fV T s b).2 l).2)
section
variable {T:TabD}
theorem aAl (hT:TabR T):∀ (n:Nat) (s:ScD),ScI T s→(iG T n s).1.length+(iG T n s).2.kept.length≤s.kept.length
 | 0,s,h=>by show 0+s.kept.length≤_; omega
 | n+1,s,h=>by
  by_cases hk:s.kept=[]
  ·rw[aB9 _ hk]; show 0+s.kept.length≤_; omega
  ·have h1:=aJJ hT h hk
   rw[tA,if_neg hk]
   split
   ·have h2:=aAl hT n _ (aMF hT h1 (by rw[o9]; exact hk))
    obtain⟨l1,l2⟩:=aBM h1.ok (by rw[o9]; exact hk)
    rw[aDD,o9] at h2
    rw[o9] at l2
    have h3:(aJW T (qG T (d5 T s).2)).length≤1:=by unfold aJW; split<;>simp
    show (aJW T (qG T (d5 T s).2)++(iG T n (mN T (d5 T s).2)).1).length+(iG T n (mN T (d5 T s).2)).2.kept.length≤_
    rw[List.length_append]
    omega
   ·show 0+(d5 T s).2.kept.length≤_
    rw[o9]; omega
theorem aF6 (hT:TabR T) {s:ScD} (h:ScI T s) (hcl:s.closed=false) (b:List Nat) (hb:∀ x∈b,x < 256):ScI T (fV T s b).2∧(fV T s b).2.closed=false∧(fV T s b).2.at_+(fV T s b).2.kept.length=s.at_+s.kept.length+b.length∧(fV T s b).1.length+(fV T s b).2.kept.length≤s.kept.length+b.length:=by
 obtain⟨h1,h2,h3,h4,h5,h6⟩:=aNk hT.tok h.ok h.c hcl b
 have h7:=aAl hT (s.kept.length+b.length) (uQ s b) (aLg h hb)
 rw[aCz] at h7
 exact⟨aMQ hT h hb,h3,by omega,h7⟩
end
section
variable {ro:Ro}{h:T Obj}{nx:Nat}{K:KV}{X:List Nat}{p:Nat}{qs:List MqD}{T:TabD}{most:Int}{s:ScD}
structure AlI (ro:Ro) (X:List Nat) (p:Nat) (qs:List MqD) (T:TabD) (most:Int) (h:V.T Obj) (nx:Nat) (s:ScD) (pre:List (List Nat)) (h':V.T Obj) (nx':Nat) (out:Value) (Y:List Nat):Prop where
 kp:dM (eY p qs) h h'
 frr:Fr h' nx'
 sc:ScX ro h' (X++Y) p qs T most 0 (aGU T s pre).2
 oo:cW h' out 3 bI (lY (aGU T s pre).1) nx
 ob:∀ b∈i7 out,b∈Y
 yn:∀ b∈Y,nx≤b∧b≤nx'
 le:nx≤nx'
end
end V
end Go.Proofs.YtcaccnneblghgaaGreat
namespace Go.Proofs.YtcaccnneblghgaaGreat
namespace V
section
variable {T:TabD}
def aN5:Nat→List TokD→Prop
 | _,[]=>True
 | a,t::r=>a≤t.from_∧t.from_ < t.to∧aN5 t.to r
theorem aN5.mono {a b:Nat}:∀ {l:List TokD},aN5 b l→a≤b→aN5 a l
 | [],_,_=>trivial
 | t::r,h,hab=>⟨Nat.le_trans hab h.1,h.2⟩
end
end V
end Go.Proofs.YtcaccnneblghgaaGreat
namespace Go.Proofs.YtcaccnneblghgaaGreat
namespace V
abbrev b0:Value:=.int .u8 0
abbrev b1:Value:=.int .u8 1
abbrev j0:Value:=.int .i64 0
abbrev jm:Value:=.int .i64 (-1)
abbrev s0:Value:=.slice none 0 0
def kTf (o:Obj):T Obj:=.n .e (some o) .e
def kTl (x:T Obj):T Obj:=.n x none .e
def kTr (x:T Obj):T Obj:=.n .e none x
def kTb (x y:T Obj):T Obj:=.n x none y
def kTn (x:T Obj) (o:Obj) (y:T Obj):T Obj:=.n x (some o) y
set_option maxRecDepth 1000000
def kO0:Obj:=.cells ⟨[.slice (some ⟨1009,0,(some 1)⟩) 1 1,.bool false,.bool false,.string ⟨⟨[65]⟩⟩,jm,.int .i64 11,.slice (some ⟨1706,0,(some 9)⟩) 2 2]⟩ 90
def kO1:Obj:=.cells ⟨[j0]⟩ 3
def kO2:Obj:=.cells ⟨[.string ⟨⟨[115,116,97,114,116]⟩⟩]⟩ 9
def kO3:Obj:=.cells ⟨[.int .u8 2,.int .u64 0,.int .u64 8589934592,.int .u64 0,.int .u64 0,s0,j0,j0,.string ⟨⟨[]⟩⟩,.int .u8 5,.int .u64 0,.int .u64 0,.int .u64 0,.int .u64 0,.slice (some ⟨1688,0,(some 1)⟩) 1 1,.int .i64 1,jm,.string ⟨⟨[]⟩⟩]⟩ 86
def kV4:List Value:=[.string ⟨⟨[114,117,108,101,32,42,32,45,32,65,32,97,43]⟩⟩]
def kV5:Value:=.tuple ⟨[.agg ⟨[.slice (some ⟨8,0,(some 1)⟩) 1 1,s0,.slice (some ⟨1915,0,(some 7)⟩) 1 1]⟩,j0,j0]⟩
def sA:Cp where
 f:=aEy
 args:=kV4
 h:=.e
 nx:=2
 v:=kV5
 h':=kTb (kTb (kTr (kTr (kTr (kTr (kTr (kTl (kTr (kTr (kTf kO0))))))))) (kTl (kTl (kTr (kTr (kTr (kTr (kTr (kTf kO1))))))))) (kTb (kTl (kTn .e kO2 (kTr (kTl (kTl (kTr (kTl (kTr (kTf kO1))))))))) (kTl (kTr (kTl (kTr (kTl (kTr (kTl (kTr (kTf kO3))))))))))
 nx':=2425
theorem jC:rR Tryz.prog sA:=tF kO (l:=[]) kM (k:=200) fun ro=>by kernel_rfl
end V
end Go.Proofs.YtcaccnneblghgaaGreat
namespace Go.Proofs.YtcaccnneblghgaaGreat
namespace V
set_option maxRecDepth 1000000
def kO6:Obj:=.cells ⟨[.slice (some ⟨8,0,(some 1)⟩) 1 1,s0,.slice (some ⟨1915,0,(some 7)⟩) 1 1]⟩ 26
def kO7:Obj:=.cells ⟨[s0,s0,s0,s0]⟩ 34
def kV8:List Value:=[.agg ⟨[.slice (some ⟨8,0,(some 1)⟩) 1 1,s0,.slice (some ⟨1915,0,(some 7)⟩) 1 1]⟩]
def wP:Cp where
 f:=aEz
 args:=kV8
 h:=kTb (kTb (kTr (kTb (kTl (kTl (kTl (kTr (kTr (kTl (kTl (kTf kO6)))))))) (kTr (kTr (kTr (kTl (kTr (kTr (kTf kO0))))))))) (kTb (kTl (kTr (kTr (kTr (kTr (kTr (kTf kO1))))))) (kTr (kTr (kTr (kTr (kTl (kTr (kTl (kTl (kTf kO6))))))))))) (kTb (kTb (kTn .e kO2 (kTr (kTl (kTl (kTr (kTl (kTr (kTf kO1)))))))) (kTl (kTl (kTl (kTl (kTr (kTr (kTl (kTl (kTf kO7)))))))))) (kTl (kTr (kTl (kTr (kTl (kTr (kTl (kTr (kTf kO3))))))))))
 nx:=2441
 v:=.bool true
 h':=kTb (kTb (kTr (kTb (kTl (kTl (kTl (kTr (kTr (kTl (kTl (kTf kO6)))))))) (kTr (kTr (kTr (kTl (kTr (kTr (kTf kO0))))))))) (kTb (kTl (kTr (kTr (kTr (kTr (kTr (kTf kO1))))))) (kTr (kTr (kTr (kTr (kTl (kTr (kTl (kTl (kTf kO6))))))))))) (kTb (kTb (kTn .e kO2 (kTr (kTl (kTl (kTr (kTl (kTr (kTf kO1)))))))) (kTl (kTl (kTl (kTl (kTr (kTr (kTl (kTl (kTf kO7)))))))))) (kTl (kTr (kTl (kTr (kTl (kTr (kTl (kTr (kTf kO3))))))))))
 nx':=3274
theorem lH:rR Tryz.prog wP:=tF kO (l:=[sA]) (bF jC kM) (k:=200) fun ro=>by kernel_rfl
end V
end Go.Proofs.YtcaccnneblghgaaGreat
namespace Go.Proofs.YtcaccnneblghgaaGreat
namespace V
set_option maxRecDepth 1000000
def kO9:Obj:=.cells ⟨[.slice (some ⟨3287,0,(some 1)⟩) 1 1,s0,s0,s0]⟩ 34
def vY:Obj:=.cells ⟨[.int .u8 2,.int .u64 0,.int .u64 8589934592,.int .u64 0,.int .u64 0,s0,j0,j0,.string ⟨⟨[]⟩⟩,.int .u8 5,.int .u64 0,.int .u64 0,.int .u64 0,.int .u64 0,.slice (some ⟨4546,0,(some 1)⟩) 1 1,.int .i64 1,jm,.string ⟨⟨[]⟩⟩]⟩ 86
def aQb:List Value:=[.agg ⟨[.slice (some ⟨8,0,(some 1)⟩) 1 1,s0,.slice (some ⟨1915,0,(some 7)⟩) 1 1]⟩,j0]
def aQc:Value:=.tuple ⟨[.slice (some ⟨4581,0,(some 9)⟩) 2 2,j0]⟩
def xN:Cp where
 f:=aGZ
 args:=aQb
 h:=kTb (kTb (kTb (kTr (kTr (kTl (kTr (kTr (kTl (kTl (kTr (kTf kO2))))))))) (kTb (kTb (kTl (kTl (kTr (kTr (kTl (kTl (kTf kO6))))))) (kTl (kTr (kTr (kTl (kTl (kTr (kTl .e)))))))) (kTr (kTr (kTr (kTl (kTr (kTr (kTf kO0))))))))) (kTb (kTb (kTr (kTr (kTr (kTr (kTr (kTf kO1)))))) (kTr (kTl (kTr (kTr (kTl (kTl (kTr (kTf kO9))))))))) (kTr (kTr (kTr (kTr (kTl (kTr (kTl (kTl (kTf kO6))))))))))) (kTb (kTb (kTn .e kO2 (kTr (kTl (kTl (kTr (kTl (kTr (kTf kO1)))))))) (kTl (kTl (kTl (kTl (kTr (kTr (kTl (kTl (kTf kO7)))))))))) (kTl (kTr (kTl (kTr (kTl (kTr (kTl (kTr (kTf kO3))))))))))
 nx:=3301
 v:=aQc
 h':=kTb (kTb (kTb (kTr (kTr (kTl (kTr (kTr (kTl (kTl (kTr (kTf kO2))))))))) (kTb (kTl (kTl (kTl (kTr (kTr (kTl (kTl (kTf kO6)))))))) (kTr (kTr (kTr (kTl (kTr (kTr (kTf kO0))))))))) (kTb (kTb (kTr (kTr (kTr (kTr (kTr (kTf kO1)))))) (kTr (kTl (kTr (kTr (kTl (kTl (kTr (kTf kO9))))))))) (kTb (kTl (kTr (kTr (kTr (kTr (kTl (kTl (kTl (kTf vY))))))))) (kTr (kTr (kTr (kTl (kTr (kTl (kTl (kTf kO6))))))))))) (kTb (kTb (kTn .e kO2 (kTr (kTl (kTl (kTr (kTl (kTr (kTf kO1)))))))) (kTl (kTl (kTl (kTl (kTr (kTr (kTl (kTl (kTf kO7)))))))))) (kTl (kTb (kTl (kTl (kTr (kTr (kTr (kTl (kTl (kTl (kTf kO1))))))))) (kTl (kTr (kTl (kTr (kTl (kTr (kTf kO3))))))))))
 nx':=4609
theorem mV:rR Tryz.prog xN:=tF kO (l:=[sA,wP]) (bF jC (bF lH kM)) (k:=200) fun ro=>by kernel_rfl
end V
end Go.Proofs.YtcaccnneblghgaaGreat
namespace Go.Proofs.YtcaccnneblghgaaGreat
namespace V
set_option maxRecDepth 1000000
def x3:Obj:=.cells ⟨[.int .u8 2,.int .u64 0,.int .u64 8589934592,.int .u64 0,.int .u64 0,s0,j0,j0,.string ⟨⟨[]⟩⟩,.int .u8 2,.int .u64 0,.int .u64 8589934592,.int .u64 0,.int .u64 0,s0,j0,j0,.string ⟨⟨[]⟩⟩,.int .u8 5,.int .u64 0,.int .u64 0,.int .u64 0,.int .u64 0,.slice (some ⟨5182,0,(some 1)⟩) 1 1,j0,jm,.string ⟨⟨[]⟩⟩,.int .u8 3,.int .u64 0,.int .u64 0,.int .u64 0,.int .u64 0,.slice (some ⟨5215,0,(some 1)⟩) 2 2,j0,j0,.string ⟨⟨[]⟩⟩]⟩ 86
def x4:Obj:=.cells ⟨[j0,.int .i64 2]⟩ 3
def jO:Obj:=.cells ⟨[.int .i64 1]⟩ 3
def aQd:List Value:=[.slice (some ⟨4581,0,(some 9)⟩) 2 2,.int .i64 9]
def aQe:Value:=.tuple ⟨[.slice (some ⟨5247,0,(some 9)⟩) 4 4,j0]⟩
def zT:Cp where
 f:=aGY
 args:=aQd
 h:=kTb (kTb (kTb (kTr (kTr (kTl (kTr (kTr (kTl (kTl (kTr (kTf kO2))))))))) (kTb (kTl (kTl (kTl (kTr (kTr (kTl (kTl (kTf kO6)))))))) (kTr (kTr (kTr (kTl (kTr (kTr (kTf kO0))))))))) (kTb (kTb (kTr (kTr (kTr (kTr (kTr (kTf kO1)))))) (kTr (kTl (kTr (kTr (kTl (kTl (kTr (kTf kO9))))))))) (kTb (kTl (kTr (kTr (kTr (kTr (kTl (kTl (kTl (kTf vY))))))))) (kTr (kTr (kTr (kTl (kTr (kTl (kTl (kTf kO6))))))))))) (kTb (kTb (kTn .e kO2 (kTr (kTl (kTl (kTr (kTl (kTr (kTf kO1)))))))) (kTl (kTl (kTl (kTl (kTr (kTr (kTl (kTl (kTf kO7)))))))))) (kTl (kTb (kTl (kTl (kTr (kTr (kTr (kTl (kTl (kTl (kTf kO1))))))))) (kTl (kTr (kTl (kTr (kTl (kTr (kTf kO3))))))))))
 nx:=4617
 v:=aQe
 h':=kTb (kTb (kTb (kTb (kTl (kTb (kTl (kTr (kTl (kTl (kTr (kTl (kTf x3))))))) (kTr (kTl (kTl (kTl (kTr (kTl (kTf x4))))))))) (kTr (kTl (kTr (kTr (kTl (kTl (kTr (kTf kO2))))))))) (kTb (kTl (kTl (kTl (kTr (kTr (kTl (kTl (kTf kO6)))))))) (kTr (kTr (kTr (kTl (kTr (kTr (kTf kO0))))))))) (kTb (kTb (kTr (kTr (kTr (kTr (kTr (kTf kO1)))))) (kTr (kTl (kTr (kTr (kTl (kTl (kTr (kTf kO9))))))))) (kTb (kTl (kTr (kTr (kTr (kTr (kTl (kTl (kTl (kTf vY))))))))) (kTr (kTr (kTr (kTl (kTr (kTl (kTl (kTf kO6))))))))))) (kTb (kTb (kTn .e kO2 (kTr (kTl (kTl (kTr (kTl (kTr (kTf kO1)))))))) (kTl (kTl (kTl (kTl (kTr (kTr (kTl (kTl (kTf kO7)))))))))) (kTb (kTb (kTl (kTl (kTr (kTr (kTr (kTl (kTl (kTl (kTf kO1))))))))) (kTl (kTr (kTl (kTr (kTl (kTr (kTf kO3)))))))) (kTr (kTr (kTr (kTl (kTl (kTl (kTl (kTr (kTl (kTf jO))))))))))))
 nx':=5824
theorem nV:rR Tryz.prog zT:=tF kO (l:=[sA,wP,xN]) (bF jC (bF lH (bF mV kM))) (k:=200) fun ro=>by kernel_rfl
end V
end Go.Proofs.YtcaccnneblghgaaGreat
namespace Go.Proofs.YtcaccnneblghgaaGreat
namespace V
set_option maxRecDepth 1000000
def aQH (t:List Value):List Value:=b0::b0::b0::b0::b0::b0::b0::b0::b0::b0::b0::b0::b0::b0::b0::b0::b0::b0::b0::b0::b0::b0::b0::b0::b0::b0::b0::b0::b0::b0::b0::b0::b0::b0::b0::b0::b0::b0::b0::b0::b0::b0::b0::b0::b0::b0::b0::b0::b0::b0::b0::b0::b0::b0::b0::b0::b0::b0::b0::b0::b0::b0::b0::b0::b0::b0::b0::b0::b0::b0::b0::b0::b0::b0::b0::b0::b0::b0::b0::b0::b0::b0::b0::b0::b0::b0::b0::b0::b0::b0::b0::b0::b0::b0::b0::b0::b0::b0::b0::b0::b0::b0::b0::b0::b0::b0::b0::b0::b0::b0::b0::b0::b0::b0::b0::b0::b0::b0::b0::b0::b0::b0::b0::b0::b0::b0::b0::b0::b0::b0::b0::b0::b0::b0::b0::b0::b0::b0::b0::b0::b0::b0::b0::b0::b0::b0::b0::b0::b0::b0::b0::b0::b0::b0::b0::b0::b0::b0::b0::b0::b0::b0::b0::b0::b0::b0::b0::b0::b0::b0::b0::b0::b0::b0::b0::b0::b0::b0::b0::b0::b0::b0::b0::b0::b0::b0::b0::b0::b0::b0::b0::b0::b0::b0::b0::b0::b0::b0::b0::b0::b0::b0::b0::b0::b0::b0::b0::b0::b0::b0::b0::b0::b0::b0::b0::b0::b0::b0::b0::b0::b0::b0::b0::b0::b0::b0::b0::b0::b0::b0::b0::b0::b0::b0::b0::b0::b0::b0::b0::b0::b0::b0::b0::b0::b0::b0::b0::b0::b0::b0::b0::b0::b0::b0::b0::b0::t
def gK:Obj:=.cells ⟨[.slice (some ⟨5247,0,(some 9)⟩) 4 4]⟩ 79
def aHs:Obj:=.cells ⟨[.slice (some ⟨3287,0,(some 1)⟩) 1 1,.slice (some ⟨5849,0,(some 1)⟩) 1 1,.slice (some ⟨5862,0,(some 1)⟩) 1 1,s0]⟩ 34
def lC:Obj:=.cells ⟨[.string ⟨⟨[65]⟩⟩]⟩ 9
def aCr:Obj:=.cells ⟨(aQH [j0,s0,s0,s0])⟩ 65
def fS:Obj:=.cells ⟨[jm]⟩ 3
def aMZ:Obj:=.cells ⟨[.int .u64 0,.int .u64 8589934592,.int .u64 0,.int .u64 0,.int .i64 1,.int .i64 1,j0,.bool true,.slice (some ⟨7491,0,(some 1)⟩) 1 1,.int .u64 0,.int .u64 8589934592,.int .u64 0,.int .u64 0,.int .i64 1,.int .i64 1,j0,.bool true,.slice (some ⟨7219,0,(some 1)⟩) 1 1]⟩ 192
def aQf:Value:=.tuple ⟨[.agg ⟨[.slice (some ⟨7717,0,(some 1)⟩) 1 1,.slice (some ⟨6903,0,(some 9)⟩) 2 2]⟩,j0]⟩
def aJy:Cp where
 f:=aDm
 args:=[.slice (some ⟨5963,0,(some 1)⟩) 1 1]
 h:=kTb (kTb (kTb (kTb (kTl (kTb (kTl (kTr (kTl (kTl (kTr (kTl (kTf x3))))))) (kTr (kTl (kTl (kTl (kTr (kTl (kTf x4))))))))) (kTr (kTl (kTr (kTr (kTl (kTl (kTr (kTf kO2))))))))) (kTb (kTl (kTl (kTl (kTr (kTr (kTl (kTl (kTf kO6)))))))) (kTb (kTb (kTr (kTb (kTr (kTr (kTr (kTl (kTf gK))))) (kTl (kTr (kTr (kTl (kTf gK))))))) (kTl (kTl (kTr (kTr (kTr (kTl (kTf kO1)))))))) (kTr (kTr (kTl (kTr (kTr (kTf kO0))))))))) (kTb (kTb (kTr (kTr (kTr (kTr (kTr (kTf kO1)))))) (kTb (kTb (kTr (kTb (kTr (kTr (kTr (kTl (kTf gK))))) (kTl (kTr (kTr (kTl (kTf gK))))))) (kTl (kTl (kTr (kTr (kTr (kTl (kTf kO1)))))))) (kTb (kTr (kTr (kTl (kTb (kTr (kTf aHs)) (kTr (kTl (kTf lC))))))) (kTl (kTl (kTr (kTr (kTr (kTl (kTf aCr)))))))))) (kTb (kTb (kTr (kTr (kTr (kTr (kTl (kTl (kTl (kTf vY)))))))) (kTl (kTr (kTr (kTl (kTr (kTr (kTl (kTf lC))))))))) (kTr (kTr (kTr (kTb (kTr (kTl (kTl (kTf kO6)))) (kTl (kTr (kTr (kTl (kTf kO6)))))))))))) (kTb (kTb (kTn .e kO2 (kTr (kTl (kTl (kTr (kTl (kTr (kTf kO1)))))))) (kTl (kTl (kTl (kTl (kTr (kTr (kTl (kTl (kTf kO7)))))))))) (kTb (kTb (kTl (kTb (kTr (kTr (kTr (kTl (kTl (kTl (kTf kO1))))))) (kTr (kTr (kTl (kTr (kTr (kTl (kTf fS))))))))) (kTl (kTr (kTl (kTr (kTl (kTr (kTf kO3)))))))) (kTb (kTl (kTr (kTr (kTr (kTl (kTr (kTr (kTl (kTf fS))))))))) (kTr (kTr (kTl (kTl (kTl (kTl (kTr (kTl (kTf jO))))))))))))
 nx:=5974
 v:=aQf
 h':=kTb (kTb (kTb (kTb (kTl (kTb (kTl (kTr (kTl (kTl (kTr (kTl (kTf x3))))))) (kTr (kTl (kTl (kTl (kTr (kTl (kTf x4))))))))) (kTr (kTb (kTr (kTr (kTl (kTl (kTr (kTf kO2)))))) (kTr (kTr (kTl (kTr (kTl (kTr (kTf aMZ)))))))))) (kTb (kTb (kTl (kTb (kTr (kTr (kTl (kTl (kTf kO6))))) (kTl (kTr (kTl (kTr (kTr (kTf jO)))))))) (kTr (kTl (kTl (kTl (kTl (kTr (kTr (kTf jO))))))))) (kTb (kTb (kTr (kTb (kTr (kTr (kTr (kTl (kTf gK))))) (kTl (kTr (kTr (kTl (kTf gK))))))) (kTl (kTl (kTr (kTr (kTr (kTl (kTf kO1)))))))) (kTr (kTr (kTl (kTr (kTr (kTf kO0))))))))) (kTb (kTb (kTr (kTr (kTr (kTr (kTr (kTf kO1)))))) (kTb (kTb (kTr (kTb (kTr (kTr (kTr (kTl (kTf gK))))) (kTl (kTr (kTr (kTl (kTf gK))))))) (kTl (kTl (kTr (kTr (kTr (kTl (kTf kO1)))))))) (kTb (kTr (kTr (kTl (kTb (kTr (kTf aHs)) (kTr (kTl (kTf lC))))))) (kTl (kTl (kTr (kTr (kTr (kTl (kTf aCr)))))))))) (kTb (kTb (kTr (kTb (kTl (kTl (kTr (kTr (kTr (kTf kO1)))))) (kTr (kTr (kTl (kTl (kTl (kTf vY)))))))) (kTl (kTr (kTr (kTl (kTr (kTr (kTl (kTf lC))))))))) (kTr (kTr (kTr (kTb (kTr (kTl (kTl (kTf kO6)))) (kTl (kTr (kTr (kTl (kTf kO6)))))))))))) (kTb (kTb (kTn .e kO2 (kTr (kTl (kTl (kTr (kTl (kTr (kTf kO1)))))))) (kTl (kTl (kTl (kTl (kTr (kTr (kTl (kTl (kTf kO7)))))))))) (kTb (kTb (kTl (kTb (kTr (kTr (kTr (kTl (kTl (kTl (kTf kO1))))))) (kTr (kTr (kTl (kTr (kTr (kTl (kTf fS))))))))) (kTl (kTr (kTl (kTr (kTl (kTr (kTf kO3)))))))) (kTb (kTl (kTr (kTr (kTr (kTl (kTr (kTr (kTl (kTf fS))))))))) (kTr (kTr (kTl (kTl (kTl (kTl (kTr (kTl (kTf jO))))))))))))
 nx':=7804
theorem aD6:rR Tryz.prog aJy:=tF kO (l:=[sA,wP,xN,zT]) (bF jC (bF lH (bF mV (bF nV kM)))) (k:=200) fun ro=>by kernel_rfl
end V
end Go.Proofs.YtcaccnneblghgaaGreat
namespace Go.Proofs.YtcaccnneblghgaaGreat
namespace V
set_option maxRecDepth 1000000
def aBK (t:List Value):List Value:=b0::b0::b0::b0::b0::b0::b0::b0::b0::b0::b0::b0::b0::b0::b0::b0::b0::b0::b0::b0::b0::b0::b0::b0::b0::b0::b0::b0::b0::b0::b0::b0::b0::b0::b0::b0::b0::b0::b0::b0::b0::b0::b0::b0::b0::b0::b0::b0::b0::b0::b0::b0::b0::b0::b0::b0::b0::b0::b0::b0::b0::b0::b0::b0::b0::b0::b0::b0::b0::b0::b0::b0::b0::b0::b0::b0::b0::b0::b0::b0::b0::b0::b0::b0::b0::b0::b0::b0::b0::b0::b0::b0::b0::b0::b0::b0::b0::b1::b0::b0::b0::b0::b0::b0::b0::b0::b0::b0::b0::b0::b0::b0::b0::b0::b0::b0::b0::b0::b0::b0::b0::b0::b0::b0::b0::b0::b0::b0::b0::b0::b0::b0::b0::b0::b0::b0::b0::b0::b0::b0::b0::b0::b0::b0::b0::b0::b0::b0::b0::b0::b0::b0::b0::b0::b0::b0::b0::b0::b0::b0::b0::b0::b0::b0::b0::b0::b0::b0::b0::b0::b0::b0::b0::b0::b0::b0::b0::b0::b0::b0::b0::b0::b0::b0::b0::b0::b0::b0::b0::b0::b0::b0::b0::b0::b0::b0::b0::b0::b0::b0::b0::b0::b0::b0::b0::b0::b0::b0::b0::b0::b0::b0::b0::b0::b0::b0::b0::b0::b0::b0::b0::b0::b0::b0::b0::b0::b0::b0::b0::b0::b0::b0::b0::b0::b0::b0::b0::b0::b0::b0::b0::b0::b0::b0::b0::b0::b0::b0::b0::b0::b0::b0::b0::b0::b0::b0::t
def aNq:Obj:=.cells ⟨[.slice (some ⟨7717,0,(some 1)⟩) 1 1,.slice (some ⟨6903,0,(some 9)⟩) 2 2]⟩ 136
def aCs:Obj:=.cells ⟨[jm,s0,.int .i64 2,s0]⟩ 202
def aKy:Obj:=.cells ⟨[jm,s0,.int .i64 1,s0]⟩ 202
def aPI:Obj:=.cells ⟨[.slice (some ⟨42591,0,(some 2)⟩) 2 2]⟩ 200
def aPJ:Obj:=.cells ⟨[.slice (some ⟨40887,0,(some 2)⟩) 2 2]⟩ 200
def aPK:Obj:=.cells ⟨[s0,s0,.slice (some ⟨40384,0,(some 1)⟩) 1 1,.slice (some ⟨40909,0,(some 1)⟩) 1 1,.slice (some ⟨40670,0,(some 1)⟩) 1 1,s0,.slice (some ⟨41071,0,(some 1)⟩) 1 1,.slice (some ⟨41768,0,(some 1)⟩) 1 1,.slice (some ⟨41593,0,(some 1)⟩) 1 1,s0,.slice (some ⟨41930,0,(some 1)⟩) 1 1,.slice (some ⟨42613,0,(some 1)⟩) 1 1]⟩ 160
def aPL:Obj:=.cells ⟨[.slice (some ⟨41746,0,(some 2)⟩) 2 2]⟩ 200
def aQg:List Value:=[.agg ⟨[.slice (some ⟨7717,0,(some 1)⟩) 1 1,.slice (some ⟨6903,0,(some 9)⟩) 2 2]⟩]
def aQh:Value:=.tuple ⟨[.agg ⟨(aBK [.int .i64 2,s0,.slice (some ⟨41728,0,(some 4)⟩) 3 3])⟩,j0]⟩
def aLy:Cp where
 f:=aDn
 args:=aQg
 h:=kTb (kTb (kTb (kTb (kTl (kTb (kTl (kTr (kTl (kTb (kTr (kTl (kTf x3))) (kTr (kTr (kTf aNq))))))) (kTr (kTl (kTl (kTl (kTr (kTl (kTf x4))))))))) (kTr (kTb (kTr (kTr (kTl (kTl (kTr (kTf kO2)))))) (kTr (kTr (kTl (kTr (kTl (kTr (kTf aMZ)))))))))) (kTb (kTb (kTl (kTb (kTr (kTr (kTl (kTl (kTf kO6))))) (kTl (kTr (kTl (kTr (kTr (kTf jO)))))))) (kTr (kTl (kTl (kTl (kTl (kTr (kTr (kTf jO))))))))) (kTb (kTb (kTr (kTb (kTr (kTr (kTr (kTl (kTf gK))))) (kTl (kTr (kTr (kTl (kTf gK))))))) (kTl (kTl (kTr (kTr (kTr (kTl (kTf kO1)))))))) (kTr (kTr (kTl (kTr (kTr (kTf kO0))))))))) (kTb (kTb (kTr (kTr (kTr (kTr (kTr (kTf kO1)))))) (kTb (kTb (kTr (kTb (kTr (kTr (kTr (kTl (kTf gK))))) (kTl (kTr (kTr (kTl (kTf gK))))))) (kTl (kTl (kTr (kTr (kTr (kTl (kTf kO1)))))))) (kTb (kTr (kTr (kTl (kTb (kTr (kTf aHs)) (kTr (kTl (kTf lC))))))) (kTl (kTl (kTr (kTr (kTr (kTl (kTf aCr)))))))))) (kTb (kTb (kTr (kTb (kTl (kTl (kTr (kTr (kTr (kTf kO1)))))) (kTr (kTr (kTl (kTl (kTl (kTf vY)))))))) (kTl (kTr (kTr (kTl (kTr (kTr (kTl (kTf lC))))))))) (kTr (kTr (kTr (kTb (kTr (kTl (kTl (kTf kO6)))) (kTl (kTr (kTr (kTl (kTf kO6)))))))))))) (kTb (kTb (kTn .e kO2 (kTr (kTl (kTl (kTr (kTl (kTr (kTf kO1)))))))) (kTl (kTl (kTl (kTl (kTr (kTr (kTl (kTl (kTf kO7)))))))))) (kTb (kTb (kTl (kTb (kTr (kTr (kTr (kTl (kTl (kTl (kTf kO1))))))) (kTr (kTr (kTl (kTr (kTr (kTl (kTf fS))))))))) (kTl (kTr (kTl (kTr (kTl (kTr (kTf kO3)))))))) (kTb (kTl (kTr (kTr (kTr (kTl (kTr (kTr (kTl (kTf fS))))))))) (kTr (kTr (kTl (kTl (kTl (kTl (kTr (kTl (kTf jO))))))))))))
 nx:=7814
 v:=aQh
 h':=kTb (kTb (kTb (kTb (kTb (kTb (kTl (kTr (kTl (kTb (kTr (kTl (kTf x3))) (kTr (kTr (kTf aNq))))))) (kTr (kTl (kTl (kTb (kTr (kTl (kTf x4))) (kTr (kTl (kTl (kTr (kTl (kTf aCs))))))))))) (kTr (kTr (kTl (kTl (kTl (kTl (kTl (kTl (kTr (kTl (kTf kO1)))))))))))) (kTr (kTb (kTr (kTr (kTl (kTl (kTr (kTf kO2)))))) (kTb (kTr (kTr (kTr (kTr (kTr (kTr (kTl (kTl (kTf aKy))))))))) (kTr (kTl (kTr (kTl (kTr (kTf aMZ)))))))))) (kTb (kTb (kTl (kTb (kTr (kTr (kTl (kTl (kTf kO6))))) (kTl (kTr (kTl (kTr (kTr (kTf jO)))))))) (kTr (kTl (kTl (kTl (kTl (kTr (kTr (kTf jO))))))))) (kTb (kTb (kTr (kTb (kTr (kTr (kTr (kTl (kTf gK))))) (kTl (kTr (kTr (kTl (kTf gK))))))) (kTl (kTl (kTr (kTr (kTr (kTl (kTf kO1)))))))) (kTr (kTr (kTl (kTr (kTr (kTf kO0))))))))) (kTb (kTb (kTr (kTr (kTr (kTr (kTr (kTf kO1)))))) (kTb (kTb (kTr (kTb (kTr (kTr (kTr (kTl (kTf gK))))) (kTl (kTr (kTr (kTl (kTf gK))))))) (kTl (kTl (kTr (kTr (kTr (kTl (kTf kO1)))))))) (kTb (kTr (kTr (kTl (kTb (kTr (kTf aHs)) (kTr (kTl (kTf lC))))))) (kTb (kTl (kTr (kTr (kTr (kTl (kTf aCr)))))) (kTl (kTl (kTr (kTl (kTl (kTl (kTr (kTl (kTf jO))))))))))))) (kTb (kTb (kTr (kTb (kTl (kTl (kTr (kTr (kTr (kTf kO1)))))) (kTr (kTr (kTl (kTl (kTl (kTf vY)))))))) (kTb (kTr (kTr (kTl (kTr (kTr (kTl (kTf lC))))))) (kTr (kTl (kTl (kTr (kTr (kTl (kTl (kTr (kTl (kTf aPI)))))))))))) (kTb (kTl (kTr (kTr (kTr (kTr (kTr (kTr (kTr (kTl (kTl (kTf aPJ))))))))))) (kTr (kTr (kTb (kTr (kTl (kTl (kTf kO6)))) (kTl (kTr (kTr (kTl (kTf kO6)))))))))))) (kTb (kTb (kTn (kTl (kTl (kTb (kTl (kTr (kTr (kTl (kTl (kTl (kTr (kTl (kTf aPK))))))))) (kTr (kTr (kTl (kTr (kTr (kTr (kTl (kTl (kTf fS)))))))))))) kO2 (kTb (kTr (kTl (kTl (kTr (kTr (kTl (kTl (kTl (kTr (kTl (kTf aPL))))))))))) (kTl (kTl (kTr (kTl (kTr (kTf kO1)))))))) (kTl (kTl (kTl (kTl (kTr (kTr (kTl (kTl (kTf kO7)))))))))) (kTb (kTb (kTb (kTb (kTr (kTr (kTr (kTl (kTl (kTl (kTf kO1))))))) (kTr (kTr (kTl (kTr (kTr (kTl (kTf fS)))))))) (kTl (kTl (kTl (kTr (kTr (kTl (kTl (kTl (kTr (kTl (kTf aCs)))))))))))) (kTl (kTb (kTr (kTr (kTr (kTr (kTl (kTl (kTl (kTr (kTl (kTf kO1)))))))))) (kTl (kTr (kTl (kTr (kTf kO3)))))))) (kTb (kTl (kTr (kTr (kTr (kTl (kTr (kTr (kTl (kTf fS))))))))) (kTr (kTb (kTr (kTr (kTl (kTr (kTr (kTr (kTr (kTl (kTl (kTf kO1)))))))))) (kTl (kTl (kTl (kTl (kTr (kTl (kTf jO))))))))))))
 nx':=42658
theorem aH3:rR Tryz.prog aLy:=tF kO (l:=[sA,wP,xN,zT,aJy]) (bF jC (bF lH (bF mV (bF nV (bF aD6 kM))))) (k:=200) fun ro=>by kernel_rfl
end V
end Go.Proofs.YtcaccnneblghgaaGreat
namespace Go.Proofs.YtcaccnneblghgaaGreat
namespace V
set_option maxRecDepth 1000000
def aQE:Obj:=.cells ⟨(aBK [.int .i64 2,s0,.slice (some ⟨41728,0,(some 4)⟩) 3 3])⟩ 63
def u0:Obj:=.cells ⟨[]⟩ 149
def aBk:Obj:=.cells ⟨[jm,s0,.int .i64 1,.slice (some ⟨62911,0,(some 1)⟩) 0 0]⟩ 202
def aBl:Obj:=.cells ⟨[.slice (some ⟨62919,0,(some 2)⟩) 2 2]⟩ 200
def aBm:Obj:=.cells ⟨[.slice (some ⟨63066,0,(some 2)⟩) 2 2]⟩ 200
def aBn:Obj:=.cells ⟨[jm,s0,.int .i64 1,.slice (some ⟨63058,0,(some 1)⟩) 0 0]⟩ 202
def aBo:Obj:=.cells ⟨[.slice (some ⟨62947,0,(some 1)⟩) 0 0,.slice (some ⟨62951,0,(some 1)⟩) 0 0,.slice (some ⟨62965,0,(some 1)⟩) 1 1,.slice (some ⟨62935,0,(some 1)⟩) 1 1,.slice (some ⟨63112,0,(some 1)⟩) 1 1,.slice (some ⟨63098,0,(some 1)⟩) 0 0,.slice (some ⟨63113,0,(some 1)⟩) 1 1,.slice (some ⟨63082,0,(some 1)⟩) 1 1]⟩ 160
def aQi:List Value:=[.agg ⟨(aBK [.int .i64 2,s0,.slice (some ⟨41728,0,(some 4)⟩) 3 3])⟩]
def aQj:Value:=.tuple ⟨[.agg ⟨(aBK [.int .i64 2,.slice (some ⟨62815,0,(some 2)⟩) 0 0,.slice (some ⟨63322,0,(some 4)⟩) 2 2])⟩,j0]⟩
def aOk:Cp where
 f:=aDo
 args:=aQi
 h:=kTb (kTb (kTb (kTb (kTb (kTb (kTl (kTr (kTl (kTb (kTr (kTl (kTf x3))) (kTr (kTr (kTf aNq))))))) (kTr (kTl (kTl (kTb (kTr (kTl (kTf x4))) (kTr (kTl (kTl (kTr (kTl (kTf aCs))))))))))) (kTr (kTr (kTl (kTl (kTl (kTl (kTl (kTl (kTr (kTl (kTf kO1)))))))))))) (kTr (kTb (kTr (kTr (kTl (kTl (kTr (kTf kO2)))))) (kTb (kTr (kTr (kTr (kTr (kTr (kTr (kTl (kTl (kTf aKy))))))))) (kTr (kTl (kTr (kTl (kTr (kTf aMZ)))))))))) (kTb (kTb (kTl (kTb (kTr (kTr (kTl (kTl (kTf kO6))))) (kTl (kTr (kTl (kTr (kTr (kTf jO)))))))) (kTr (kTl (kTl (kTl (kTl (kTr (kTr (kTf jO))))))))) (kTb (kTb (kTr (kTb (kTr (kTr (kTr (kTl (kTf gK))))) (kTl (kTr (kTr (kTl (kTf gK))))))) (kTl (kTl (kTr (kTr (kTr (kTl (kTf kO1)))))))) (kTr (kTr (kTl (kTr (kTr (kTf kO0))))))))) (kTb (kTb (kTr (kTr (kTr (kTr (kTr (kTf kO1)))))) (kTb (kTb (kTr (kTb (kTr (kTr (kTr (kTl (kTf gK))))) (kTl (kTr (kTr (kTl (kTf gK))))))) (kTl (kTl (kTr (kTr (kTr (kTl (kTf kO1)))))))) (kTb (kTr (kTr (kTl (kTb (kTr (kTf aHs)) (kTr (kTl (kTf lC))))))) (kTb (kTl (kTr (kTr (kTr (kTl (kTf aCr)))))) (kTl (kTl (kTr (kTl (kTl (kTl (kTr (kTl (kTf jO))))))))))))) (kTb (kTb (kTr (kTb (kTb (kTl (kTr (kTr (kTr (kTf kO1))))) (kTl (kTr (kTr (kTl (kTl (kTr (kTl (kTf aQE))))))))) (kTr (kTr (kTl (kTl (kTl (kTf vY)))))))) (kTb (kTr (kTr (kTl (kTr (kTr (kTl (kTf lC))))))) (kTr (kTl (kTl (kTr (kTr (kTl (kTl (kTr (kTl (kTf aPI)))))))))))) (kTb (kTl (kTr (kTr (kTr (kTr (kTr (kTr (kTr (kTl (kTl (kTf aPJ))))))))))) (kTr (kTr (kTb (kTr (kTl (kTl (kTf kO6)))) (kTl (kTr (kTr (kTl (kTf kO6)))))))))))) (kTb (kTb (kTn (kTl (kTl (kTb (kTl (kTr (kTr (kTl (kTl (kTl (kTr (kTl (kTf aPK))))))))) (kTr (kTr (kTl (kTr (kTr (kTr (kTl (kTl (kTf fS)))))))))))) kO2 (kTb (kTr (kTl (kTl (kTr (kTr (kTl (kTl (kTl (kTr (kTl (kTf aPL))))))))))) (kTl (kTl (kTr (kTl (kTr (kTf kO1)))))))) (kTl (kTl (kTl (kTl (kTr (kTr (kTl (kTl (kTf kO7)))))))))) (kTb (kTb (kTb (kTb (kTr (kTr (kTr (kTl (kTl (kTl (kTf kO1))))))) (kTr (kTr (kTl (kTr (kTr (kTl (kTf fS)))))))) (kTl (kTl (kTl (kTr (kTr (kTl (kTl (kTl (kTr (kTl (kTf aCs)))))))))))) (kTl (kTb (kTr (kTr (kTr (kTr (kTl (kTl (kTl (kTr (kTl (kTf kO1)))))))))) (kTl (kTr (kTl (kTr (kTf kO3)))))))) (kTb (kTl (kTr (kTr (kTr (kTl (kTr (kTr (kTl (kTf fS))))))))) (kTr (kTb (kTr (kTr (kTl (kTr (kTr (kTr (kTr (kTl (kTl (kTf kO1)))))))))) (kTl (kTl (kTl (kTl (kTr (kTl (kTf jO))))))))))))
 nx:=42668
 v:=aQj
 h':=kTb (kTb (kTb (kTb (kTb (kTb (kTb (kTr (kTl (kTb (kTr (kTl (kTf x3))) (kTr (kTr (kTf aNq)))))) (kTr (kTr (kTl (kTr (kTl (kTr (kTr (kTr (kTf (.cells ⟨[]⟩ 5))))))))))) (kTr (kTl (kTb (kTb (kTr (kTl (kTf x4))) (kTr (kTl (kTl (kTr (kTl (kTf aCs))))))) (kTl (kTr (kTl (kTr (kTr (kTr (kTf u0))))))))))) (kTr (kTr (kTl (kTl (kTl (kTl (kTl (kTl (kTr (kTl (kTf kO1)))))))))))) (kTb (kTb (kTr (kTr (kTr (kTl (kTr (kTl (kTr (kTr (kTr (kTf aBk)))))))))) (kTr (kTr (kTr (kTl (kTr (kTl (kTr (kTr (kTr (kTf (.cells ⟨[]⟩ 3)))))))))))) (kTb (kTr (kTr (kTb (kTl (kTr (kTf kO2))) (kTl (kTr (kTl (kTr (kTr (kTr (kTf aBl)))))))))) (kTb (kTr (kTr (kTr (kTr (kTr (kTr (kTl (kTl (kTf aKy))))))))) (kTr (kTl (kTr (kTl (kTr (kTf aMZ)))))))))) (kTb (kTb (kTb (kTb (kTr (kTr (kTl (kTl (kTf kO6))))) (kTl (kTr (kTl (kTr (kTr (kTf jO))))))) (kTr (kTr (kTr (kTl (kTr (kTl (kTr (kTr (kTr (kTf (.cells ⟨[]⟩ 3)))))))))))) (kTr (kTl (kTl (kTl (kTl (kTr (kTr (kTf jO))))))))) (kTb (kTb (kTr (kTb (kTr (kTr (kTr (kTl (kTf gK))))) (kTl (kTr (kTr (kTl (kTf gK))))))) (kTl (kTl (kTr (kTr (kTr (kTl (kTf kO1)))))))) (kTr (kTr (kTl (kTr (kTr (kTf kO0))))))))) (kTb (kTb (kTr (kTr (kTr (kTr (kTr (kTf kO1)))))) (kTb (kTb (kTb (kTr (kTl (kTr (kTr (kTl (kTr (kTr (kTr (kTf kO1))))))))) (kTb (kTr (kTr (kTr (kTl (kTf gK))))) (kTl (kTr (kTr (kTl (kTf gK))))))) (kTl (kTl (kTr (kTr (kTr (kTl (kTf kO1)))))))) (kTb (kTr (kTr (kTl (kTb (kTr (kTf aHs)) (kTr (kTl (kTf lC))))))) (kTb (kTl (kTr (kTr (kTr (kTl (kTf aCr)))))) (kTl (kTl (kTr (kTl (kTl (kTl (kTr (kTl (kTf jO))))))))))))) (kTb (kTb (kTr (kTb (kTb (kTl (kTr (kTr (kTr (kTf kO1))))) (kTl (kTr (kTr (kTl (kTl (kTr (kTl (kTf aQE))))))))) (kTr (kTr (kTl (kTl (kTl (kTf vY)))))))) (kTb (kTr (kTr (kTl (kTr (kTr (kTl (kTf lC))))))) (kTr (kTb (kTl (kTr (kTr (kTl (kTl (kTr (kTl (kTf aPI)))))))) (kTr (kTl (kTr (kTl (kTr (kTr (kTr (kTf fS)))))))))))) (kTb (kTl (kTr (kTr (kTr (kTr (kTr (kTr (kTr (kTl (kTl (kTf aPJ))))))))))) (kTr (kTr (kTb (kTr (kTl (kTl (kTf kO6)))) (kTl (kTr (kTr (kTl (kTf kO6)))))))))))) (kTb (kTb (kTn (kTl (kTl (kTb (kTl (kTr (kTr (kTl (kTl (kTl (kTr (kTl (kTf aPK))))))))) (kTr (kTr (kTl (kTr (kTr (kTr (kTl (kTl (kTf fS)))))))))))) kO2 (kTb (kTb (kTl (kTr (kTl (kTr (kTr (kTl (kTr (kTr (kTr (kTf kO1)))))))))) (kTl (kTl (kTr (kTr (kTl (kTl (kTl (kTr (kTl (kTf aPL))))))))))) (kTl (kTl (kTr (kTl (kTr (kTf kO1)))))))) (kTl (kTl (kTl (kTl (kTr (kTr (kTl (kTl (kTf kO7)))))))))) (kTb (kTb (kTb (kTb (kTr (kTr (kTr (kTl (kTl (kTl (kTf kO1))))))) (kTr (kTr (kTl (kTr (kTr (kTl (kTf fS)))))))) (kTl (kTb (kTl (kTr (kTr (kTl (kTl (kTl (kTr (kTl (kTf aCs))))))))) (kTl (kTl (kTr (kTr (kTl (kTr (kTr (kTr (kTf (.cells ⟨[]⟩ 5))))))))))))) (kTb (kTb (kTr (kTr (kTr (kTr (kTl (kTl (kTl (kTr (kTl (kTf kO1)))))))))) (kTb (kTr (kTl (kTr (kTf kO3)))) (kTl (kTl (kTr (kTr (kTl (kTr (kTr (kTr (kTf aBm))))))))))) (kTb (kTr (kTl (kTb (kTr (kTr (kTl (kTr (kTr (kTr (kTf aBn))))))) (kTr (kTr (kTl (kTr (kTr (kTr (kTf aBo)))))))))) (kTr (kTl (kTl (kTr (kTr (kTl (kTr (kTr (kTr (kTf (.cells ⟨[]⟩ 3)))))))))))))) (kTb (kTl (kTr (kTr (kTr (kTl (kTr (kTr (kTl (kTf fS))))))))) (kTr (kTb (kTr (kTr (kTl (kTr (kTr (kTr (kTr (kTl (kTl (kTf kO1)))))))))) (kTl (kTl (kTl (kTl (kTr (kTl (kTf jO))))))))))))
 nx':=63333
theorem aLz:rR Tryz.prog aOk:=tF kO (l:=[sA,wP,xN,zT,aJy,aLy]) (bF jC (bF lH (bF mV (bF nV (bF aD6 (bF aH3 kM)))))) (k:=200) fun ro=>by kernel_rfl
end V
end Go.Proofs.YtcaccnneblghgaaGreat
namespace Go.Proofs.YtcaccnneblghgaaGreat
namespace V
set_option maxRecDepth 1000000
def aQk:List Value:=[.slice (some ⟨5931,0,(some 1)⟩) 1 1,.slice (some ⟨5835,0,(some 1)⟩) 1 1]
def aQl:Value:=.tuple ⟨[.agg ⟨(aBK [.int .i64 2,.slice (some ⟨62815,0,(some 2)⟩) 0 0,.slice (some ⟨63322,0,(some 4)⟩) 2 2,.slice (some ⟨5931,0,(some 1)⟩) 1 1])⟩,j0]⟩
def aF2:Cp where
 f:=zY
 args:=aQk
 h:=kTb (kTb (kTb (kTb (kTl (kTb (kTl (kTr (kTl (kTl (kTr (kTl (kTf x3))))))) (kTr (kTl (kTl (kTl (kTr (kTl (kTf x4))))))))) (kTr (kTl (kTr (kTr (kTl (kTl (kTr (kTf kO2))))))))) (kTb (kTl (kTl (kTl (kTr (kTr (kTl (kTl (kTf kO6)))))))) (kTb (kTb (kTr (kTr (kTl (kTr (kTr (kTl (kTf gK))))))) (kTl (kTl (kTr (kTr (kTr (kTl (kTf kO1)))))))) (kTr (kTr (kTl (kTr (kTr (kTf kO0))))))))) (kTb (kTb (kTr (kTr (kTr (kTr (kTr (kTf kO1)))))) (kTb (kTb (kTr (kTr (kTl (kTr (kTr (kTl (kTf gK))))))) (kTl (kTl (kTr (kTr (kTr (kTl (kTf kO1)))))))) (kTl (kTr (kTr (kTl (kTb (kTr (kTf aHs)) (kTr (kTl (kTf lC)))))))))) (kTb (kTb (kTr (kTr (kTr (kTr (kTl (kTl (kTl (kTf vY)))))))) (kTl (kTr (kTr (kTl (kTr (kTr (kTl (kTf lC))))))))) (kTr (kTr (kTr (kTb (kTr (kTl (kTl (kTf kO6)))) (kTl (kTr (kTr (kTl (kTf kO6)))))))))))) (kTb (kTb (kTn .e kO2 (kTr (kTl (kTl (kTr (kTl (kTr (kTf kO1)))))))) (kTl (kTl (kTl (kTl (kTr (kTr (kTl (kTl (kTf kO7)))))))))) (kTb (kTb (kTl (kTb (kTr (kTr (kTr (kTl (kTl (kTl (kTf kO1))))))) (kTr (kTr (kTl (kTr (kTr (kTl (kTf fS))))))))) (kTl (kTr (kTl (kTr (kTl (kTr (kTf kO3)))))))) (kTb (kTl (kTr (kTr (kTr (kTl (kTr (kTr (kTl (kTf fS))))))))) (kTr (kTr (kTl (kTl (kTl (kTl (kTr (kTl (kTf jO))))))))))))
 nx:=5945
 v:=aQl
 h':=kTb (kTb (kTb (kTb (kTl (kTb (kTb (kTr (kTl (kTl (kTr (kTl (kTf x3)))))) (kTr (kTr (kTl (kTr (kTl (kTr (kTr (kTr (kTf (.cells ⟨[]⟩ 5))))))))))) (kTr (kTl (kTb (kTl (kTr (kTl (kTf x4)))) (kTl (kTr (kTl (kTr (kTr (kTr (kTf u0)))))))))))) (kTb (kTb (kTr (kTr (kTr (kTl (kTr (kTl (kTr (kTr (kTr (kTf aBk)))))))))) (kTr (kTr (kTr (kTl (kTr (kTl (kTr (kTr (kTr (kTf (.cells ⟨[]⟩ 3)))))))))))) (kTl (kTr (kTr (kTb (kTl (kTr (kTf kO2))) (kTl (kTr (kTl (kTr (kTr (kTr (kTf aBl))))))))))))) (kTb (kTl (kTb (kTl (kTr (kTr (kTl (kTl (kTf kO6)))))) (kTr (kTr (kTr (kTl (kTr (kTl (kTr (kTr (kTr (kTf (.cells ⟨[]⟩ 3))))))))))))) (kTb (kTb (kTr (kTr (kTl (kTr (kTr (kTl (kTf gK))))))) (kTl (kTl (kTr (kTr (kTr (kTl (kTf kO1)))))))) (kTr (kTr (kTl (kTr (kTr (kTf kO0))))))))) (kTb (kTb (kTr (kTr (kTr (kTr (kTr (kTf kO1)))))) (kTb (kTb (kTb (kTr (kTl (kTr (kTr (kTl (kTr (kTr (kTr (kTf kO1))))))))) (kTr (kTl (kTr (kTr (kTl (kTf gK))))))) (kTl (kTl (kTr (kTr (kTr (kTl (kTf kO1)))))))) (kTl (kTr (kTr (kTl (kTb (kTr (kTf aHs)) (kTr (kTl (kTf lC)))))))))) (kTb (kTb (kTr (kTr (kTr (kTr (kTl (kTl (kTl (kTf vY)))))))) (kTb (kTr (kTr (kTl (kTr (kTr (kTl (kTf lC))))))) (kTr (kTr (kTr (kTl (kTr (kTl (kTr (kTr (kTr (kTf fS)))))))))))) (kTr (kTr (kTr (kTb (kTr (kTl (kTl (kTf kO6)))) (kTl (kTr (kTr (kTl (kTf kO6)))))))))))) (kTb (kTb (kTn .e kO2 (kTb (kTl (kTl (kTr (kTl (kTr (kTr (kTl (kTr (kTr (kTr (kTf kO1))))))))))) (kTl (kTl (kTr (kTl (kTr (kTf kO1)))))))) (kTl (kTl (kTl (kTl (kTr (kTr (kTl (kTl (kTf kO7)))))))))) (kTb (kTb (kTb (kTb (kTr (kTr (kTr (kTl (kTl (kTl (kTf kO1))))))) (kTr (kTr (kTl (kTr (kTr (kTl (kTf fS)))))))) (kTl (kTr (kTl (kTl (kTr (kTr (kTl (kTr (kTr (kTr (kTf (.cells ⟨[]⟩ 5))))))))))))) (kTb (kTr (kTb (kTr (kTl (kTr (kTf kO3)))) (kTl (kTl (kTr (kTr (kTl (kTr (kTr (kTr (kTf aBm))))))))))) (kTb (kTr (kTl (kTb (kTr (kTr (kTl (kTr (kTr (kTr (kTf aBn))))))) (kTr (kTr (kTl (kTr (kTr (kTr (kTf aBo)))))))))) (kTr (kTl (kTl (kTr (kTr (kTl (kTr (kTr (kTr (kTf (.cells ⟨[]⟩ 3)))))))))))))) (kTb (kTl (kTr (kTr (kTr (kTl (kTr (kTr (kTl (kTf fS))))))))) (kTr (kTr (kTl (kTl (kTl (kTl (kTr (kTl (kTf jO))))))))))))
 nx':=63345
theorem xO:rR Tryz.prog aF2:=tF kO (l:=[sA,wP,xN,zT,aJy,aLy,aOk]) (bF jC (bF lH (bF mV (bF nV (bF aD6 (bF aH3 (bF aLz kM))))))) (k:=200) fun ro=>by kernel_rfl
end V
end Go.Proofs.YtcaccnneblghgaaGreat
namespace Go.Proofs.YtcaccnneblghgaaGreat
namespace V
set_option maxRecDepth 1000000
def aHt:Obj:=.cells ⟨[.slice (some ⟨3287,0,(some 1)⟩) 1 1,.slice (some ⟨5849,0,(some 1)⟩) 1 1,.slice (some ⟨5862,0,(some 1)⟩) 1 1,.slice (some ⟨63358,0,(some 260)⟩) 1 1]⟩ 34
def rE:Obj:=.cells ⟨(aBK [.int .i64 2,.slice (some ⟨62815,0,(some 2)⟩) 0 0,.slice (some ⟨63322,0,(some 4)⟩) 2 2,.slice (some ⟨5931,0,(some 1)⟩) 1 1])⟩ 65
def aM0:Obj:=.cells ⟨[.int .u64 0,.int .u64 8589934592,.int .u64 0,.int .u64 0,.int .i64 1,.int .i64 1,j0,.bool true,.slice (some ⟨64976,0,(some 1)⟩) 1 1,.int .u64 0,.int .u64 8589934592,.int .u64 0,.int .u64 0,.int .i64 1,.int .i64 1,j0,.bool true,.slice (some ⟨64704,0,(some 1)⟩) 1 1]⟩ 192
def aQm:Value:=.tuple ⟨[.agg ⟨[.slice (some ⟨65202,0,(some 1)⟩) 1 1,.slice (some ⟨64388,0,(some 9)⟩) 2 2]⟩,j0]⟩
def aJz:Cp where
 f:=aDm
 args:=[.slice (some ⟨63448,0,(some 1)⟩) 1 1]
 h:=kTb (kTb (kTb (kTb (kTl (kTb (kTb (kTr (kTl (kTl (kTr (kTl (kTf x3)))))) (kTr (kTr (kTl (kTr (kTl (kTr (kTr (kTr (kTf (.cells ⟨[]⟩ 5))))))))))) (kTr (kTl (kTb (kTl (kTr (kTl (kTf x4)))) (kTl (kTr (kTl (kTr (kTr (kTr (kTf u0)))))))))))) (kTb (kTb (kTr (kTr (kTr (kTl (kTr (kTl (kTr (kTr (kTr (kTf aBk)))))))))) (kTr (kTr (kTr (kTl (kTr (kTl (kTr (kTr (kTr (kTf (.cells ⟨[]⟩ 3)))))))))))) (kTl (kTr (kTr (kTb (kTl (kTr (kTf kO2))) (kTl (kTr (kTl (kTr (kTr (kTr (kTf aBl))))))))))))) (kTb (kTl (kTb (kTl (kTr (kTr (kTl (kTl (kTf kO6)))))) (kTr (kTr (kTr (kTl (kTr (kTl (kTr (kTr (kTr (kTf (.cells ⟨[]⟩ 3))))))))))))) (kTb (kTb (kTr (kTr (kTl (kTr (kTr (kTl (kTf gK))))))) (kTl (kTl (kTr (kTr (kTr (kTl (kTf kO1)))))))) (kTr (kTr (kTl (kTr (kTr (kTf kO0))))))))) (kTb (kTb (kTr (kTb (kTl (kTr (kTr (kTr (kTr (kTl (kTr (kTr (kTr (kTf kO6)))))))))) (kTr (kTr (kTr (kTf kO1)))))) (kTb (kTb (kTb (kTr (kTl (kTr (kTr (kTl (kTr (kTr (kTr (kTf kO1))))))))) (kTr (kTl (kTr (kTr (kTl (kTf gK))))))) (kTl (kTl (kTr (kTr (kTr (kTl (kTf kO1)))))))) (kTl (kTr (kTr (kTl (kTb (kTr (kTf aHt)) (kTr (kTl (kTf lC)))))))))) (kTb (kTb (kTr (kTr (kTr (kTr (kTl (kTl (kTl (kTf vY)))))))) (kTb (kTr (kTr (kTl (kTr (kTr (kTl (kTf lC))))))) (kTr (kTr (kTr (kTl (kTr (kTl (kTr (kTr (kTr (kTf fS)))))))))))) (kTr (kTr (kTr (kTb (kTr (kTl (kTl (kTf kO6)))) (kTl (kTr (kTr (kTl (kTf kO6)))))))))))) (kTb (kTb (kTn .e kO2 (kTb (kTl (kTl (kTr (kTl (kTr (kTr (kTl (kTr (kTr (kTr (kTf kO1))))))))))) (kTb (kTb (kTr (kTl (kTr (kTf kO1)))) (kTr (kTr (kTr (kTr (kTl (kTr (kTr (kTr (kTf gK)))))))))) (kTl (kTr (kTr (kTr (kTr (kTl (kTr (kTr (kTr (kTf kO1))))))))))))) (kTb (kTb (kTl (kTl (kTr (kTr (kTl (kTl (kTf kO7))))))) (kTr (kTr (kTl (kTr (kTr (kTr (kTl (kTr (kTr (kTr (kTf rE)))))))))))) (kTr (kTr (kTr (kTl (kTr (kTr (kTr (kTl (kTr (kTr (kTr (kTf rE)))))))))))))) (kTb (kTb (kTb (kTb (kTr (kTr (kTr (kTl (kTl (kTl (kTf kO1))))))) (kTr (kTr (kTl (kTr (kTr (kTl (kTf fS)))))))) (kTl (kTr (kTl (kTl (kTr (kTr (kTl (kTr (kTr (kTr (kTf (.cells ⟨[]⟩ 5))))))))))))) (kTb (kTr (kTb (kTr (kTl (kTr (kTf kO3)))) (kTl (kTl (kTr (kTr (kTl (kTr (kTr (kTr (kTf aBm))))))))))) (kTb (kTr (kTl (kTb (kTr (kTr (kTl (kTr (kTr (kTr (kTf aBn))))))) (kTr (kTr (kTl (kTr (kTr (kTr (kTf aBo)))))))))) (kTr (kTl (kTl (kTr (kTr (kTl (kTr (kTr (kTr (kTf (.cells ⟨[]⟩ 3)))))))))))))) (kTb (kTb (kTb (kTr (kTr (kTr (kTr (kTr (kTl (kTr (kTr (kTr (kTf aCr)))))))))) (kTr (kTr (kTl (kTr (kTr (kTl (kTf fS)))))))) (kTb (kTr (kTr (kTr (kTr (kTr (kTl (kTr (kTr (kTr (kTf gK)))))))))) (kTl (kTr (kTr (kTr (kTr (kTl (kTr (kTr (kTr (kTf kO1)))))))))))) (kTr (kTr (kTb (kTl (kTl (kTl (kTr (kTl (kTf jO)))))) (kTl (kTr (kTr (kTr (kTl (kTr (kTr (kTr (kTf rE)))))))))))))))
 nx:=63459
 v:=aQm
 h':=kTb (kTb (kTb (kTb (kTl (kTb (kTb (kTr (kTl (kTl (kTr (kTl (kTf x3)))))) (kTr (kTr (kTl (kTr (kTl (kTr (kTr (kTr (kTf (.cells ⟨[]⟩ 5))))))))))) (kTr (kTl (kTb (kTl (kTr (kTl (kTf x4)))) (kTl (kTr (kTl (kTr (kTr (kTr (kTf u0)))))))))))) (kTb (kTb (kTr (kTr (kTr (kTl (kTr (kTl (kTr (kTr (kTr (kTf aBk)))))))))) (kTr (kTr (kTr (kTl (kTr (kTl (kTr (kTr (kTr (kTf (.cells ⟨[]⟩ 3)))))))))))) (kTl (kTr (kTr (kTb (kTl (kTr (kTf kO2))) (kTl (kTr (kTl (kTr (kTr (kTr (kTf aBl))))))))))))) (kTb (kTl (kTb (kTl (kTr (kTr (kTl (kTl (kTf kO6)))))) (kTr (kTr (kTr (kTl (kTr (kTl (kTr (kTr (kTr (kTf (.cells ⟨[]⟩ 3))))))))))))) (kTb (kTb (kTr (kTr (kTl (kTr (kTr (kTl (kTf gK))))))) (kTl (kTl (kTr (kTr (kTr (kTl (kTf kO1)))))))) (kTr (kTr (kTl (kTr (kTr (kTf kO0))))))))) (kTb (kTb (kTr (kTb (kTl (kTr (kTr (kTr (kTr (kTl (kTr (kTr (kTr (kTf kO6)))))))))) (kTr (kTr (kTr (kTf kO1)))))) (kTb (kTb (kTb (kTr (kTl (kTr (kTr (kTl (kTr (kTr (kTr (kTf kO1))))))))) (kTr (kTl (kTr (kTr (kTl (kTf gK))))))) (kTl (kTl (kTr (kTr (kTr (kTl (kTf kO1)))))))) (kTl (kTr (kTr (kTl (kTb (kTr (kTf aHt)) (kTr (kTl (kTf lC)))))))))) (kTb (kTb (kTr (kTr (kTr (kTr (kTl (kTl (kTl (kTf vY)))))))) (kTb (kTr (kTr (kTl (kTr (kTr (kTl (kTf lC))))))) (kTr (kTr (kTr (kTl (kTr (kTl (kTr (kTr (kTr (kTf fS)))))))))))) (kTr (kTr (kTr (kTb (kTr (kTl (kTl (kTf kO6)))) (kTl (kTr (kTr (kTl (kTf kO6)))))))))))) (kTb (kTb (kTn (kTb (kTl (kTr (kTr (kTl (kTl (kTr (kTr (kTr (kTr (kTr (kTf jO))))))))))) (kTl (kTr (kTr (kTr (kTl (kTr (kTr (kTr (kTr (kTr (kTf jO)))))))))))) kO2 (kTb (kTl (kTl (kTr (kTl (kTr (kTr (kTl (kTr (kTr (kTr (kTf kO1))))))))))) (kTb (kTb (kTr (kTl (kTr (kTf kO1)))) (kTr (kTr (kTr (kTr (kTl (kTr (kTr (kTr (kTf gK)))))))))) (kTl (kTr (kTr (kTr (kTr (kTl (kTr (kTr (kTr (kTf kO1))))))))))))) (kTb (kTb (kTl (kTl (kTr (kTr (kTb (kTl (kTf kO7)) (kTl (kTr (kTr (kTr (kTr (kTf aM0))))))))))) (kTr (kTr (kTl (kTr (kTr (kTr (kTl (kTr (kTr (kTr (kTf rE)))))))))))) (kTr (kTr (kTr (kTl (kTr (kTr (kTr (kTl (kTr (kTr (kTr (kTf rE)))))))))))))) (kTb (kTb (kTb (kTb (kTr (kTr (kTr (kTl (kTl (kTl (kTf kO1))))))) (kTr (kTr (kTl (kTr (kTr (kTl (kTf fS)))))))) (kTb (kTr (kTl (kTl (kTr (kTr (kTl (kTr (kTr (kTr (kTf (.cells ⟨[]⟩ 5))))))))))) (kTl (kTr (kTl (kTr (kTr (kTr (kTr (kTr (kTr (kTf kO1)))))))))))) (kTb (kTr (kTb (kTr (kTl (kTr (kTf kO3)))) (kTl (kTl (kTr (kTr (kTl (kTr (kTr (kTr (kTf aBm))))))))))) (kTb (kTr (kTl (kTb (kTr (kTr (kTl (kTr (kTr (kTr (kTf aBn))))))) (kTr (kTr (kTl (kTr (kTr (kTr (kTf aBo)))))))))) (kTr (kTl (kTl (kTr (kTr (kTl (kTr (kTr (kTr (kTf (.cells ⟨[]⟩ 3)))))))))))))) (kTb (kTb (kTb (kTr (kTr (kTr (kTr (kTr (kTl (kTr (kTr (kTr (kTf aCr)))))))))) (kTr (kTr (kTl (kTr (kTr (kTl (kTf fS)))))))) (kTb (kTr (kTr (kTr (kTr (kTr (kTl (kTr (kTr (kTr (kTf gK)))))))))) (kTl (kTr (kTr (kTr (kTr (kTl (kTr (kTr (kTr (kTf kO1)))))))))))) (kTr (kTr (kTb (kTl (kTl (kTl (kTr (kTl (kTf jO)))))) (kTl (kTr (kTr (kTr (kTl (kTr (kTr (kTr (kTf rE)))))))))))))))
 nx':=65289
theorem aD7:rR Tryz.prog aJz:=tF kO (l:=[sA,wP,xN,zT,aF2]) (bF jC (bF lH (bF mV (bF nV (bF xO kM))))) (k:=200) fun ro=>by kernel_rfl
end V
end Go.Proofs.YtcaccnneblghgaaGreat
namespace Go.Proofs.YtcaccnneblghgaaGreat
namespace V
set_option maxRecDepth 1000000
def aNr:Obj:=.cells ⟨[.slice (some ⟨65202,0,(some 1)⟩) 1 1,.slice (some ⟨64388,0,(some 9)⟩) 2 2]⟩ 136
def aPM:Obj:=.cells ⟨[.slice (some ⟨99231,0,(some 2)⟩) 2 2]⟩ 200
def aPN:Obj:=.cells ⟨[s0,s0,.slice (some ⟨97869,0,(some 1)⟩) 1 1,.slice (some ⟨98394,0,(some 1)⟩) 1 1,.slice (some ⟨98155,0,(some 1)⟩) 1 1,s0,.slice (some ⟨98556,0,(some 1)⟩) 1 1,.slice (some ⟨99253,0,(some 1)⟩) 1 1,.slice (some ⟨99078,0,(some 1)⟩) 1 1,s0,.slice (some ⟨99415,0,(some 1)⟩) 1 1,.slice (some ⟨100098,0,(some 1)⟩) 1 1]⟩ 160
def aPO:Obj:=.cells ⟨[.slice (some ⟨100076,0,(some 2)⟩) 2 2]⟩ 200
def aPP:Obj:=.cells ⟨[.slice (some ⟨98372,0,(some 2)⟩) 2 2]⟩ 200
def aQn:List Value:=[.agg ⟨[.slice (some ⟨65202,0,(some 1)⟩) 1 1,.slice (some ⟨64388,0,(some 9)⟩) 2 2]⟩]
def aQo:Value:=.tuple ⟨[.agg ⟨(aBK [.int .i64 2,s0,.slice (some ⟨99213,0,(some 4)⟩) 3 3])⟩,j0]⟩
def aMA:Cp where
 f:=aDn
 args:=aQn
 h:=kTb (kTb (kTb (kTb (kTl (kTb (kTb (kTr (kTl (kTl (kTr (kTl (kTf x3)))))) (kTr (kTr (kTl (kTr (kTl (kTr (kTr (kTr (kTf (.cells ⟨[]⟩ 5))))))))))) (kTr (kTl (kTb (kTl (kTr (kTl (kTf x4)))) (kTl (kTr (kTl (kTr (kTr (kTr (kTf u0)))))))))))) (kTb (kTb (kTr (kTr (kTr (kTl (kTr (kTl (kTr (kTr (kTr (kTf aBk)))))))))) (kTr (kTr (kTr (kTl (kTr (kTl (kTr (kTr (kTr (kTf (.cells ⟨[]⟩ 3)))))))))))) (kTl (kTr (kTr (kTb (kTl (kTr (kTf kO2))) (kTl (kTr (kTl (kTr (kTr (kTr (kTf aBl))))))))))))) (kTb (kTl (kTb (kTl (kTr (kTr (kTl (kTl (kTf kO6)))))) (kTr (kTr (kTr (kTl (kTr (kTl (kTr (kTr (kTr (kTf (.cells ⟨[]⟩ 3))))))))))))) (kTb (kTb (kTr (kTr (kTl (kTr (kTr (kTl (kTf gK))))))) (kTl (kTl (kTr (kTr (kTr (kTl (kTf kO1)))))))) (kTr (kTr (kTl (kTr (kTr (kTf kO0))))))))) (kTb (kTb (kTr (kTb (kTl (kTr (kTr (kTr (kTr (kTl (kTr (kTr (kTr (kTf kO6)))))))))) (kTr (kTr (kTr (kTf kO1)))))) (kTb (kTb (kTb (kTr (kTl (kTr (kTr (kTl (kTr (kTr (kTr (kTf kO1))))))))) (kTr (kTl (kTr (kTr (kTl (kTf gK))))))) (kTl (kTl (kTr (kTr (kTr (kTl (kTf kO1)))))))) (kTl (kTr (kTr (kTl (kTb (kTr (kTf aHt)) (kTr (kTl (kTf lC)))))))))) (kTb (kTb (kTr (kTr (kTr (kTr (kTl (kTl (kTl (kTf vY)))))))) (kTb (kTr (kTr (kTl (kTr (kTr (kTl (kTf lC))))))) (kTr (kTr (kTr (kTl (kTr (kTl (kTr (kTr (kTr (kTf fS)))))))))))) (kTr (kTr (kTr (kTb (kTr (kTl (kTl (kTf kO6)))) (kTl (kTr (kTr (kTl (kTf kO6)))))))))))) (kTb (kTb (kTn (kTb (kTl (kTr (kTr (kTl (kTl (kTr (kTr (kTr (kTr (kTr (kTf jO))))))))))) (kTl (kTr (kTr (kTr (kTl (kTr (kTr (kTr (kTr (kTr (kTf jO)))))))))))) kO2 (kTb (kTl (kTl (kTr (kTl (kTr (kTr (kTl (kTr (kTr (kTr (kTf kO1))))))))))) (kTb (kTb (kTr (kTl (kTr (kTf kO1)))) (kTr (kTr (kTr (kTr (kTl (kTr (kTr (kTr (kTf gK)))))))))) (kTl (kTr (kTr (kTr (kTr (kTl (kTr (kTr (kTr (kTf kO1))))))))))))) (kTb (kTb (kTl (kTl (kTr (kTr (kTb (kTl (kTf kO7)) (kTl (kTr (kTr (kTr (kTr (kTf aM0))))))))))) (kTr (kTr (kTl (kTr (kTr (kTr (kTl (kTr (kTr (kTr (kTf rE)))))))))))) (kTb (kTl (kTl (kTl (kTr (kTr (kTr (kTr (kTr (kTr (kTr (kTf aNr))))))))))) (kTr (kTr (kTl (kTr (kTr (kTr (kTl (kTr (kTr (kTr (kTf rE)))))))))))))) (kTb (kTb (kTb (kTb (kTr (kTr (kTr (kTl (kTl (kTl (kTf kO1))))))) (kTr (kTr (kTl (kTr (kTr (kTl (kTf fS)))))))) (kTb (kTr (kTl (kTl (kTr (kTr (kTl (kTr (kTr (kTr (kTf (.cells ⟨[]⟩ 5))))))))))) (kTl (kTr (kTl (kTr (kTr (kTr (kTr (kTr (kTr (kTf kO1)))))))))))) (kTb (kTr (kTb (kTr (kTl (kTr (kTf kO3)))) (kTl (kTl (kTr (kTr (kTl (kTr (kTr (kTr (kTf aBm))))))))))) (kTb (kTr (kTl (kTb (kTr (kTr (kTl (kTr (kTr (kTr (kTf aBn))))))) (kTr (kTr (kTl (kTr (kTr (kTr (kTf aBo)))))))))) (kTr (kTl (kTl (kTr (kTr (kTl (kTr (kTr (kTr (kTf (.cells ⟨[]⟩ 3)))))))))))))) (kTb (kTb (kTb (kTr (kTr (kTr (kTr (kTr (kTl (kTr (kTr (kTr (kTf aCr)))))))))) (kTr (kTr (kTl (kTr (kTr (kTl (kTf fS)))))))) (kTb (kTr (kTr (kTr (kTr (kTr (kTl (kTr (kTr (kTr (kTf gK)))))))))) (kTl (kTr (kTr (kTr (kTr (kTl (kTr (kTr (kTr (kTf kO1)))))))))))) (kTr (kTr (kTb (kTl (kTl (kTl (kTr (kTl (kTf jO)))))) (kTl (kTr (kTr (kTr (kTl (kTr (kTr (kTr (kTf rE)))))))))))))))
 nx:=65299
 v:=aQo
 h':=kTb (kTb (kTb (kTb (kTl (kTb (kTb (kTr (kTl (kTl (kTr (kTl (kTf x3)))))) (kTr (kTr (kTl (kTr (kTl (kTr (kTr (kTr (kTf (.cells ⟨[]⟩ 5))))))))))) (kTb (kTr (kTr (kTr (kTl (kTl (kTl (kTl (kTl (kTr (kTf aCs)))))))))) (kTl (kTb (kTl (kTr (kTl (kTf x4)))) (kTl (kTr (kTl (kTr (kTr (kTr (kTf u0)))))))))))) (kTb (kTb (kTr (kTr (kTr (kTl (kTr (kTl (kTr (kTr (kTr (kTf aBk)))))))))) (kTr (kTr (kTr (kTl (kTr (kTl (kTr (kTr (kTr (kTf (.cells ⟨[]⟩ 3)))))))))))) (kTl (kTr (kTb (kTl (kTl (kTr (kTl (kTl (kTl (kTl (kTr (kTf kO1))))))))) (kTb (kTl (kTr (kTf kO2))) (kTl (kTr (kTl (kTr (kTr (kTr (kTf aBl))))))))))))) (kTb (kTl (kTb (kTl (kTr (kTr (kTl (kTl (kTf kO6)))))) (kTr (kTr (kTr (kTl (kTr (kTl (kTr (kTr (kTr (kTf (.cells ⟨[]⟩ 3))))))))))))) (kTb (kTb (kTr (kTr (kTl (kTr (kTr (kTl (kTf gK))))))) (kTb (kTl (kTr (kTr (kTr (kTl (kTf kO1)))))) (kTl (kTr (kTr (kTr (kTr (kTr (kTr (kTr (kTl (kTf kO1)))))))))))) (kTr (kTr (kTl (kTr (kTr (kTf kO0))))))))) (kTb (kTb (kTr (kTb (kTl (kTr (kTr (kTr (kTr (kTl (kTr (kTr (kTr (kTf kO6)))))))))) (kTr (kTr (kTr (kTf kO1)))))) (kTb (kTb (kTb (kTr (kTl (kTr (kTr (kTl (kTr (kTr (kTr (kTf kO1))))))))) (kTr (kTl (kTr (kTr (kTl (kTf gK))))))) (kTl (kTl (kTr (kTr (kTr (kTl (kTf kO1)))))))) (kTl (kTr (kTr (kTl (kTb (kTr (kTf aHt)) (kTr (kTl (kTf lC)))))))))) (kTb (kTb (kTr (kTr (kTr (kTr (kTl (kTl (kTl (kTf vY)))))))) (kTb (kTr (kTr (kTl (kTr (kTr (kTl (kTf lC))))))) (kTb (kTr (kTr (kTr (kTl (kTl (kTl (kTl (kTl (kTr (kTf aPM)))))))))) (kTr (kTr (kTl (kTr (kTl (kTr (kTr (kTr (kTf fS)))))))))))) (kTb (kTl (kTb (kTr (kTr (kTr (kTl (kTl (kTl (kTl (kTl (kTr (kTf aPN)))))))))) (kTl (kTl (kTr (kTr (kTr (kTr (kTr (kTr (kTl (kTf fS)))))))))))) (kTr (kTr (kTb (kTr (kTl (kTl (kTf kO6)))) (kTl (kTr (kTr (kTl (kTf kO6)))))))))))) (kTb (kTb (kTn (kTb (kTl (kTr (kTr (kTl (kTl (kTr (kTr (kTr (kTr (kTr (kTf jO))))))))))) (kTl (kTr (kTr (kTr (kTl (kTr (kTr (kTr (kTr (kTr (kTf jO)))))))))))) kO2 (kTb (kTl (kTl (kTr (kTl (kTr (kTr (kTl (kTr (kTr (kTr (kTf kO1))))))))))) (kTb (kTb (kTr (kTl (kTr (kTf kO1)))) (kTr (kTr (kTr (kTr (kTl (kTr (kTr (kTr (kTf gK)))))))))) (kTl (kTr (kTr (kTr (kTr (kTl (kTr (kTr (kTr (kTf kO1))))))))))))) (kTb (kTb (kTl (kTb (kTr (kTr (kTb (kTl (kTf kO7)) (kTl (kTr (kTr (kTr (kTr (kTf aM0))))))))) (kTl (kTl (kTl (kTl (kTl (kTl (kTl (kTl (kTr (kTf aKy)))))))))))) (kTr (kTr (kTl (kTr (kTr (kTr (kTl (kTr (kTr (kTr (kTf rE)))))))))))) (kTb (kTb (kTl (kTl (kTr (kTr (kTr (kTr (kTr (kTr (kTr (kTf aNr)))))))))) (kTr (kTr (kTl (kTr (kTr (kTl (kTl (kTl (kTl (kTr (kTf aCs)))))))))))) (kTr (kTr (kTb (kTr (kTr (kTr (kTl (kTr (kTr (kTr (kTf rE)))))))) (kTl (kTl (kTl (kTl (kTl (kTl (kTl (kTr (kTf kO1))))))))))))))) (kTb (kTb (kTb (kTb (kTb (kTl (kTr (kTr (kTr (kTl (kTl (kTl (kTl (kTr (kTf aPO)))))))))) (kTr (kTr (kTl (kTl (kTl (kTf kO1))))))) (kTr (kTr (kTl (kTr (kTr (kTl (kTf fS)))))))) (kTb (kTr (kTl (kTl (kTr (kTr (kTl (kTr (kTr (kTr (kTf (.cells ⟨[]⟩ 5))))))))))) (kTl (kTr (kTl (kTr (kTr (kTr (kTr (kTr (kTr (kTf kO1)))))))))))) (kTb (kTr (kTb (kTr (kTl (kTr (kTf kO3)))) (kTl (kTl (kTr (kTr (kTl (kTr (kTr (kTr (kTf aBm))))))))))) (kTb (kTr (kTl (kTb (kTb (kTl (kTl (kTl (kTl (kTl (kTr (kTf aPP))))))) (kTr (kTl (kTr (kTr (kTr (kTf aBn))))))) (kTr (kTr (kTl (kTr (kTr (kTr (kTf aBo)))))))))) (kTr (kTl (kTl (kTr (kTr (kTl (kTr (kTr (kTr (kTf (.cells ⟨[]⟩ 3)))))))))))))) (kTb (kTb (kTb (kTb (kTl (kTr (kTr (kTl (kTl (kTl (kTl (kTl (kTr (kTf jO)))))))))) (kTr (kTr (kTr (kTr (kTl (kTr (kTr (kTr (kTf aCr)))))))))) (kTr (kTr (kTl (kTr (kTr (kTl (kTf fS)))))))) (kTb (kTr (kTr (kTr (kTr (kTr (kTl (kTr (kTr (kTr (kTf gK)))))))))) (kTl (kTr (kTr (kTr (kTr (kTl (kTr (kTr (kTr (kTf kO1)))))))))))) (kTr (kTr (kTb (kTl (kTl (kTl (kTr (kTl (kTf jO)))))) (kTl (kTr (kTr (kTr (kTl (kTr (kTr (kTr (kTf rE)))))))))))))))
 nx':=100143
theorem aH4:rR Tryz.prog aMA:=tF kO (l:=[sA,wP,xN,zT,aF2,aJz]) (bF jC (bF lH (bF mV (bF nV (bF xO (bF aD7 kM)))))) (k:=200) fun ro=>by kernel_rfl
end V
end Go.Proofs.YtcaccnneblghgaaGreat
namespace Go.Proofs.YtcaccnneblghgaaGreat
namespace V
set_option maxRecDepth 1000000
def aQF:Obj:=.cells ⟨(aBK [.int .i64 2,s0,.slice (some ⟨99213,0,(some 4)⟩) 3 3])⟩ 63
def aM1:Obj:=.cells ⟨[jm,s0,.int .i64 1,.slice (some ⟨120543,0,(some 1)⟩) 0 0]⟩ 202
def aM2:Obj:=.cells ⟨[.slice (some ⟨120432,0,(some 1)⟩) 0 0,.slice (some ⟨120436,0,(some 1)⟩) 0 0,.slice (some ⟨120450,0,(some 1)⟩) 1 1,.slice (some ⟨120420,0,(some 1)⟩) 1 1,.slice (some ⟨120597,0,(some 1)⟩) 1 1,.slice (some ⟨120583,0,(some 1)⟩) 0 0,.slice (some ⟨120598,0,(some 1)⟩) 1 1,.slice (some ⟨120567,0,(some 1)⟩) 1 1]⟩ 160
def aM3:Obj:=.cells ⟨[.slice (some ⟨120551,0,(some 2)⟩) 2 2]⟩ 200
def aM4:Obj:=.cells ⟨[.slice (some ⟨120404,0,(some 2)⟩) 2 2]⟩ 200
def aM5:Obj:=.cells ⟨[jm,s0,.int .i64 1,.slice (some ⟨120396,0,(some 1)⟩) 0 0]⟩ 202
def aQp:List Value:=[.agg ⟨(aBK [.int .i64 2,s0,.slice (some ⟨99213,0,(some 4)⟩) 3 3])⟩]
def aQq:Value:=.tuple ⟨[.agg ⟨(aBK [.int .i64 2,.slice (some ⟨120300,0,(some 2)⟩) 0 0,.slice (some ⟨120807,0,(some 4)⟩) 2 2])⟩,j0]⟩
def aOl:Cp where
 f:=aDo
 args:=aQp
 h:=kTb (kTb (kTb (kTb (kTl (kTb (kTb (kTr (kTl (kTl (kTr (kTl (kTf x3)))))) (kTr (kTr (kTl (kTr (kTl (kTr (kTr (kTr (kTf (.cells ⟨[]⟩ 5))))))))))) (kTb (kTr (kTr (kTr (kTl (kTl (kTl (kTl (kTl (kTr (kTf aCs)))))))))) (kTl (kTb (kTl (kTr (kTl (kTf x4)))) (kTl (kTr (kTl (kTr (kTr (kTr (kTf u0)))))))))))) (kTb (kTb (kTr (kTr (kTr (kTl (kTr (kTl (kTr (kTr (kTr (kTf aBk)))))))))) (kTr (kTr (kTr (kTl (kTr (kTl (kTr (kTr (kTr (kTf (.cells ⟨[]⟩ 3)))))))))))) (kTl (kTr (kTb (kTl (kTl (kTr (kTl (kTl (kTl (kTl (kTr (kTf kO1))))))))) (kTb (kTl (kTr (kTf kO2))) (kTl (kTr (kTl (kTr (kTr (kTr (kTf aBl))))))))))))) (kTb (kTl (kTb (kTl (kTr (kTr (kTl (kTl (kTf kO6)))))) (kTr (kTr (kTr (kTl (kTr (kTl (kTr (kTr (kTr (kTf (.cells ⟨[]⟩ 3))))))))))))) (kTb (kTb (kTr (kTr (kTl (kTr (kTr (kTl (kTf gK))))))) (kTb (kTl (kTr (kTr (kTr (kTl (kTf kO1)))))) (kTl (kTr (kTr (kTr (kTr (kTr (kTr (kTr (kTl (kTf kO1)))))))))))) (kTr (kTr (kTl (kTr (kTr (kTf kO0))))))))) (kTb (kTb (kTr (kTb (kTl (kTr (kTr (kTr (kTr (kTl (kTr (kTr (kTr (kTf kO6)))))))))) (kTr (kTr (kTr (kTf kO1)))))) (kTb (kTb (kTb (kTr (kTl (kTr (kTr (kTl (kTr (kTr (kTr (kTf kO1))))))))) (kTr (kTl (kTr (kTr (kTl (kTf gK))))))) (kTl (kTl (kTr (kTr (kTr (kTl (kTf kO1)))))))) (kTl (kTr (kTr (kTl (kTb (kTr (kTf aHt)) (kTr (kTl (kTf lC)))))))))) (kTb (kTb (kTr (kTr (kTr (kTr (kTl (kTl (kTl (kTf vY)))))))) (kTb (kTr (kTr (kTl (kTr (kTr (kTl (kTf lC))))))) (kTb (kTr (kTr (kTr (kTl (kTl (kTl (kTl (kTl (kTr (kTf aPM)))))))))) (kTr (kTr (kTl (kTr (kTl (kTr (kTr (kTr (kTf fS)))))))))))) (kTb (kTl (kTb (kTr (kTr (kTr (kTl (kTl (kTl (kTl (kTl (kTr (kTf aPN)))))))))) (kTl (kTl (kTr (kTr (kTr (kTr (kTr (kTr (kTl (kTf fS)))))))))))) (kTr (kTr (kTb (kTr (kTl (kTl (kTf kO6)))) (kTl (kTr (kTr (kTl (kTf kO6)))))))))))) (kTb (kTb (kTn (kTb (kTl (kTr (kTr (kTl (kTl (kTr (kTr (kTr (kTr (kTr (kTf jO))))))))))) (kTl (kTr (kTr (kTr (kTl (kTr (kTr (kTr (kTr (kTr (kTf jO)))))))))))) kO2 (kTb (kTl (kTl (kTr (kTl (kTr (kTr (kTl (kTr (kTr (kTr (kTf kO1))))))))))) (kTb (kTb (kTr (kTl (kTr (kTf kO1)))) (kTr (kTr (kTr (kTr (kTl (kTr (kTr (kTr (kTf gK)))))))))) (kTl (kTr (kTr (kTr (kTr (kTl (kTr (kTr (kTr (kTf kO1))))))))))))) (kTb (kTb (kTl (kTb (kTr (kTr (kTb (kTl (kTf kO7)) (kTl (kTr (kTr (kTr (kTr (kTf aM0))))))))) (kTl (kTl (kTl (kTl (kTl (kTl (kTl (kTl (kTr (kTf aKy)))))))))))) (kTr (kTr (kTl (kTr (kTr (kTr (kTl (kTr (kTr (kTr (kTf rE)))))))))))) (kTb (kTb (kTl (kTl (kTr (kTr (kTr (kTr (kTr (kTr (kTr (kTf aNr)))))))))) (kTr (kTr (kTl (kTr (kTr (kTl (kTl (kTl (kTl (kTr (kTf aCs)))))))))))) (kTr (kTr (kTb (kTr (kTr (kTr (kTl (kTr (kTr (kTr (kTf rE)))))))) (kTl (kTl (kTl (kTl (kTl (kTl (kTl (kTr (kTf kO1))))))))))))))) (kTb (kTb (kTb (kTb (kTb (kTl (kTr (kTr (kTr (kTl (kTl (kTl (kTl (kTr (kTf aPO)))))))))) (kTr (kTr (kTl (kTl (kTl (kTf kO1))))))) (kTr (kTr (kTl (kTr (kTr (kTl (kTf fS)))))))) (kTb (kTr (kTl (kTl (kTr (kTr (kTl (kTr (kTr (kTr (kTf (.cells ⟨[]⟩ 5))))))))))) (kTl (kTb (kTr (kTr (kTr (kTl (kTl (kTl (kTl (kTr (kTf aQF))))))))) (kTl (kTr (kTr (kTr (kTr (kTr (kTr (kTf kO1)))))))))))) (kTb (kTr (kTb (kTr (kTl (kTr (kTf kO3)))) (kTl (kTl (kTr (kTr (kTl (kTr (kTr (kTr (kTf aBm))))))))))) (kTb (kTr (kTl (kTb (kTb (kTl (kTl (kTl (kTl (kTl (kTr (kTf aPP))))))) (kTr (kTl (kTr (kTr (kTr (kTf aBn))))))) (kTr (kTr (kTl (kTr (kTr (kTr (kTf aBo)))))))))) (kTr (kTl (kTl (kTr (kTr (kTl (kTr (kTr (kTr (kTf (.cells ⟨[]⟩ 3)))))))))))))) (kTb (kTb (kTb (kTb (kTl (kTr (kTr (kTl (kTl (kTl (kTl (kTl (kTr (kTf jO)))))))))) (kTr (kTr (kTr (kTr (kTl (kTr (kTr (kTr (kTf aCr)))))))))) (kTr (kTr (kTl (kTr (kTr (kTl (kTf fS)))))))) (kTb (kTr (kTr (kTr (kTr (kTr (kTl (kTr (kTr (kTr (kTf gK)))))))))) (kTl (kTr (kTr (kTr (kTr (kTl (kTr (kTr (kTr (kTf kO1)))))))))))) (kTr (kTr (kTb (kTl (kTl (kTl (kTr (kTl (kTf jO)))))) (kTl (kTr (kTr (kTr (kTl (kTr (kTr (kTr (kTf rE)))))))))))))))
 nx:=100153
 v:=aQq
 h':=kTb (kTb (kTb (kTb (kTl (kTb (kTb (kTr (kTl (kTl (kTr (kTl (kTf x3)))))) (kTr (kTr (kTl (kTr (kTl (kTr (kTr (kTr (kTf (.cells ⟨[]⟩ 5))))))))))) (kTb (kTr (kTr (kTr (kTl (kTl (kTl (kTl (kTl (kTr (kTf aCs)))))))))) (kTb (kTb (kTl (kTr (kTl (kTf x4)))) (kTl (kTr (kTl (kTr (kTr (kTr (kTf u0)))))))) (kTl (kTr (kTr (kTl (kTr (kTl (kTr (kTr (kTf (.cells ⟨[]⟩ 5)))))))))))))) (kTb (kTb (kTb (kTl (kTr (kTr (kTr (kTl (kTr (kTl (kTr (kTr (kTf (.cells ⟨[]⟩ 3))))))))))) (kTr (kTr (kTl (kTr (kTl (kTr (kTr (kTr (kTf aBk)))))))))) (kTr (kTr (kTb (kTr (kTr (kTl (kTr (kTl (kTr (kTr (kTf aM1)))))))) (kTb (kTr (kTl (kTr (kTr (kTr (kTf (.cells ⟨[]⟩ 3))))))) (kTr (kTl (kTr (kTl (kTr (kTr (kTf aM2)))))))))))) (kTb (kTr (kTb (kTl (kTl (kTr (kTl (kTl (kTl (kTl (kTr (kTf kO1))))))))) (kTb (kTl (kTr (kTf kO2))) (kTl (kTr (kTl (kTr (kTr (kTr (kTf aBl)))))))))) (kTr (kTr (kTl (kTr (kTr (kTl (kTr (kTl (kTr (kTr (kTf aM3)))))))))))))) (kTb (kTl (kTb (kTl (kTr (kTr (kTl (kTl (kTf kO6)))))) (kTr (kTr (kTr (kTl (kTr (kTl (kTr (kTr (kTr (kTf (.cells ⟨[]⟩ 3))))))))))))) (kTb (kTb (kTr (kTr (kTl (kTr (kTr (kTl (kTf gK))))))) (kTb (kTl (kTr (kTr (kTr (kTl (kTf kO1)))))) (kTl (kTr (kTr (kTr (kTr (kTr (kTr (kTr (kTl (kTf kO1)))))))))))) (kTr (kTr (kTl (kTr (kTr (kTf kO0))))))))) (kTb (kTb (kTr (kTb (kTl (kTr (kTr (kTr (kTr (kTl (kTr (kTr (kTr (kTf kO6)))))))))) (kTr (kTr (kTr (kTf kO1)))))) (kTb (kTb (kTb (kTr (kTl (kTr (kTr (kTl (kTr (kTr (kTr (kTf kO1))))))))) (kTr (kTl (kTr (kTr (kTl (kTf gK))))))) (kTl (kTl (kTr (kTr (kTr (kTl (kTf kO1)))))))) (kTl (kTr (kTr (kTl (kTb (kTr (kTf aHt)) (kTr (kTl (kTf lC)))))))))) (kTb (kTb (kTr (kTr (kTr (kTr (kTl (kTl (kTl (kTf vY)))))))) (kTb (kTb (kTl (kTr (kTr (kTr (kTl (kTr (kTl (kTr (kTr (kTf kO1)))))))))) (kTr (kTl (kTr (kTr (kTl (kTf lC))))))) (kTb (kTr (kTr (kTr (kTl (kTl (kTl (kTl (kTl (kTr (kTf aPM)))))))))) (kTr (kTr (kTl (kTr (kTl (kTr (kTr (kTr (kTf fS)))))))))))) (kTb (kTl (kTb (kTr (kTr (kTr (kTl (kTl (kTl (kTl (kTl (kTr (kTf aPN)))))))))) (kTl (kTl (kTr (kTr (kTr (kTr (kTr (kTr (kTl (kTf fS)))))))))))) (kTr (kTr (kTb (kTr (kTl (kTl (kTf kO6)))) (kTl (kTr (kTr (kTl (kTf kO6)))))))))))) (kTb (kTb (kTn (kTb (kTl (kTr (kTr (kTl (kTl (kTr (kTr (kTr (kTr (kTr (kTf jO))))))))))) (kTb (kTr (kTr (kTr (kTl (kTr (kTr (kTr (kTr (kTr (kTf jO)))))))))) (kTr (kTl (kTl (kTr (kTr (kTl (kTr (kTl (kTr (kTr (kTf (.cells ⟨[]⟩ 3)))))))))))))) kO2 (kTb (kTl (kTl (kTr (kTl (kTr (kTr (kTl (kTr (kTr (kTr (kTf kO1))))))))))) (kTb (kTb (kTr (kTl (kTr (kTf kO1)))) (kTr (kTr (kTr (kTr (kTl (kTr (kTr (kTr (kTf gK)))))))))) (kTl (kTr (kTr (kTr (kTr (kTl (kTr (kTr (kTr (kTf kO1))))))))))))) (kTb (kTb (kTb (kTb (kTr (kTr (kTb (kTl (kTf kO7)) (kTl (kTr (kTr (kTr (kTr (kTf aM0))))))))) (kTl (kTl (kTl (kTl (kTl (kTl (kTl (kTl (kTr (kTf aKy))))))))))) (kTr (kTl (kTl (kTr (kTr (kTl (kTr (kTl (kTr (kTr (kTf aM4)))))))))))) (kTb (kTr (kTl (kTl (kTr (kTr (kTl (kTr (kTl (kTr (kTr (kTf aM5))))))))))) (kTr (kTl (kTb (kTr (kTr (kTl (kTr (kTl (kTr (kTr (kTf (.cells ⟨[]⟩ 3))))))))) (kTr (kTr (kTl (kTr (kTr (kTr (kTf rE)))))))))))) (kTb (kTb (kTb (kTl (kTr (kTr (kTr (kTr (kTr (kTr (kTr (kTf aNr))))))))) (kTl (kTl (kTr (kTr (kTl (kTr (kTl (kTr (kTr (kTf (.cells ⟨[]⟩ 5)))))))))))) (kTr (kTr (kTb (kTr (kTr (kTl (kTl (kTl (kTl (kTr (kTf aCs)))))))) (kTl (kTr (kTl (kTr (kTl (kTr (kTr (kTf u0)))))))))))) (kTr (kTr (kTb (kTr (kTr (kTr (kTl (kTr (kTr (kTr (kTf rE)))))))) (kTl (kTl (kTl (kTl (kTl (kTl (kTl (kTr (kTf kO1))))))))))))))) (kTb (kTb (kTb (kTb (kTb (kTb (kTr (kTr (kTr (kTl (kTl (kTl (kTl (kTr (kTf aPO))))))))) (kTl (kTr (kTr (kTl (kTr (kTl (kTr (kTr (kTf fS)))))))))) (kTr (kTr (kTl (kTl (kTl (kTf kO1))))))) (kTr (kTr (kTl (kTr (kTr (kTl (kTf fS)))))))) (kTb (kTr (kTl (kTl (kTr (kTr (kTl (kTr (kTr (kTr (kTf (.cells ⟨[]⟩ 5))))))))))) (kTl (kTb (kTr (kTr (kTr (kTl (kTl (kTl (kTl (kTr (kTf aQF))))))))) (kTl (kTr (kTr (kTr (kTr (kTr (kTr (kTf kO1)))))))))))) (kTb (kTr (kTb (kTr (kTl (kTr (kTf kO3)))) (kTl (kTl (kTr (kTr (kTl (kTr (kTr (kTr (kTf aBm))))))))))) (kTb (kTr (kTl (kTb (kTb (kTl (kTl (kTl (kTl (kTl (kTr (kTf aPP))))))) (kTr (kTl (kTr (kTr (kTr (kTf aBn))))))) (kTr (kTr (kTl (kTr (kTr (kTr (kTf aBo)))))))))) (kTr (kTl (kTl (kTr (kTr (kTl (kTr (kTr (kTr (kTf (.cells ⟨[]⟩ 3)))))))))))))) (kTb (kTb (kTb (kTb (kTl (kTr (kTr (kTl (kTl (kTl (kTl (kTl (kTr (kTf jO)))))))))) (kTr (kTr (kTr (kTr (kTl (kTr (kTr (kTr (kTf aCr)))))))))) (kTr (kTr (kTl (kTr (kTr (kTl (kTf fS)))))))) (kTb (kTb (kTl (kTr (kTr (kTr (kTl (kTr (kTl (kTr (kTr (kTf kO1)))))))))) (kTr (kTr (kTr (kTr (kTl (kTr (kTr (kTr (kTf gK)))))))))) (kTl (kTr (kTr (kTr (kTr (kTl (kTr (kTr (kTr (kTf kO1)))))))))))) (kTr (kTr (kTb (kTl (kTl (kTl (kTr (kTl (kTf jO)))))) (kTl (kTr (kTr (kTr (kTl (kTr (kTr (kTr (kTf rE)))))))))))))))
 nx':=120818
theorem aMB:rR Tryz.prog aOl:=tF kO (l:=[sA,wP,xN,zT,aF2,aJz,aMA]) (bF jC (bF lH (bF mV (bF nV (bF xO (bF aD7 (bF aH4 kM))))))) (k:=200) fun ro=>by kernel_rfl
end V
end Go.Proofs.YtcaccnneblghgaaGreat
namespace Go.Proofs.YtcaccnneblghgaaGreat
namespace V
set_option maxRecDepth 1000000
def aQr:List Value:=[.slice (some ⟨63416,0,(some 1)⟩) 1 1,.slice (some ⟨5835,0,(some 1)⟩) 1 1]
def aQs:Value:=.tuple ⟨[.agg ⟨(aBK [.int .i64 2,.slice (some ⟨120300,0,(some 2)⟩) 0 0,.slice (some ⟨120807,0,(some 4)⟩) 2 2,.slice (some ⟨63416,0,(some 1)⟩) 1 1])⟩,j0]⟩
def aOm:Cp where
 f:=zY
 args:=aQr
 h:=kTb (kTb (kTb (kTb (kTl (kTb (kTb (kTr (kTl (kTl (kTr (kTl (kTf x3)))))) (kTr (kTr (kTl (kTr (kTl (kTr (kTr (kTr (kTf (.cells ⟨[]⟩ 5))))))))))) (kTr (kTl (kTb (kTl (kTr (kTl (kTf x4)))) (kTl (kTr (kTl (kTr (kTr (kTr (kTf u0)))))))))))) (kTb (kTb (kTr (kTr (kTr (kTl (kTr (kTl (kTr (kTr (kTr (kTf aBk)))))))))) (kTr (kTr (kTr (kTl (kTr (kTl (kTr (kTr (kTr (kTf (.cells ⟨[]⟩ 3)))))))))))) (kTl (kTr (kTr (kTb (kTl (kTr (kTf kO2))) (kTl (kTr (kTl (kTr (kTr (kTr (kTf aBl))))))))))))) (kTb (kTl (kTb (kTl (kTr (kTr (kTl (kTl (kTf kO6)))))) (kTr (kTr (kTr (kTl (kTr (kTl (kTr (kTr (kTr (kTf (.cells ⟨[]⟩ 3))))))))))))) (kTb (kTb (kTr (kTr (kTl (kTr (kTr (kTl (kTf gK))))))) (kTl (kTl (kTr (kTr (kTr (kTl (kTf kO1)))))))) (kTr (kTr (kTl (kTr (kTr (kTf kO0))))))))) (kTb (kTb (kTr (kTb (kTl (kTr (kTr (kTr (kTr (kTl (kTr (kTr (kTr (kTf kO6)))))))))) (kTr (kTr (kTr (kTf kO1)))))) (kTb (kTb (kTb (kTr (kTl (kTr (kTr (kTl (kTr (kTr (kTr (kTf kO1))))))))) (kTr (kTl (kTr (kTr (kTl (kTf gK))))))) (kTl (kTl (kTr (kTr (kTr (kTl (kTf kO1)))))))) (kTl (kTr (kTr (kTl (kTb (kTr (kTf aHt)) (kTr (kTl (kTf lC)))))))))) (kTb (kTb (kTr (kTr (kTr (kTr (kTl (kTl (kTl (kTf vY)))))))) (kTb (kTr (kTr (kTl (kTr (kTr (kTl (kTf lC))))))) (kTr (kTr (kTr (kTl (kTr (kTl (kTr (kTr (kTr (kTf fS)))))))))))) (kTr (kTr (kTr (kTb (kTr (kTl (kTl (kTf kO6)))) (kTl (kTr (kTr (kTl (kTf kO6)))))))))))) (kTb (kTb (kTn .e kO2 (kTb (kTl (kTl (kTr (kTl (kTr (kTr (kTl (kTr (kTr (kTr (kTf kO1))))))))))) (kTb (kTl (kTr (kTl (kTr (kTf kO1))))) (kTl (kTr (kTr (kTr (kTr (kTl (kTr (kTr (kTr (kTf kO1))))))))))))) (kTb (kTb (kTl (kTl (kTr (kTr (kTl (kTl (kTf kO7))))))) (kTr (kTr (kTl (kTr (kTr (kTr (kTl (kTr (kTr (kTr (kTf rE)))))))))))) (kTr (kTr (kTr (kTl (kTr (kTr (kTr (kTl (kTr (kTr (kTr (kTf rE)))))))))))))) (kTb (kTb (kTb (kTb (kTr (kTr (kTr (kTl (kTl (kTl (kTf kO1))))))) (kTr (kTr (kTl (kTr (kTr (kTl (kTf fS)))))))) (kTl (kTr (kTl (kTl (kTr (kTr (kTl (kTr (kTr (kTr (kTf (.cells ⟨[]⟩ 5))))))))))))) (kTb (kTr (kTb (kTr (kTl (kTr (kTf kO3)))) (kTl (kTl (kTr (kTr (kTl (kTr (kTr (kTr (kTf aBm))))))))))) (kTb (kTr (kTl (kTb (kTr (kTr (kTl (kTr (kTr (kTr (kTf aBn))))))) (kTr (kTr (kTl (kTr (kTr (kTr (kTf aBo)))))))))) (kTr (kTl (kTl (kTr (kTr (kTl (kTr (kTr (kTr (kTf (.cells ⟨[]⟩ 3)))))))))))))) (kTb (kTb (kTr (kTr (kTr (kTl (kTr (kTr (kTl (kTf fS)))))))) (kTr (kTl (kTr (kTr (kTr (kTr (kTl (kTr (kTr (kTr (kTf kO1)))))))))))) (kTr (kTr (kTb (kTl (kTl (kTl (kTr (kTl (kTf jO)))))) (kTl (kTr (kTr (kTr (kTl (kTr (kTr (kTr (kTf rE)))))))))))))))
 nx:=63430
 v:=aQs
 h':=kTb (kTb (kTb (kTb (kTl (kTb (kTb (kTr (kTl (kTl (kTr (kTl (kTf x3)))))) (kTr (kTr (kTl (kTr (kTl (kTr (kTr (kTr (kTf (.cells ⟨[]⟩ 5))))))))))) (kTr (kTb (kTb (kTl (kTr (kTl (kTf x4)))) (kTl (kTr (kTl (kTr (kTr (kTr (kTf u0)))))))) (kTl (kTr (kTr (kTl (kTr (kTl (kTr (kTr (kTf (.cells ⟨[]⟩ 5)))))))))))))) (kTb (kTb (kTb (kTl (kTr (kTr (kTr (kTl (kTr (kTl (kTr (kTr (kTf (.cells ⟨[]⟩ 3))))))))))) (kTr (kTr (kTl (kTr (kTl (kTr (kTr (kTr (kTf aBk)))))))))) (kTr (kTr (kTb (kTr (kTr (kTl (kTr (kTl (kTr (kTr (kTf aM1)))))))) (kTb (kTr (kTl (kTr (kTr (kTr (kTf (.cells ⟨[]⟩ 3))))))) (kTr (kTl (kTr (kTl (kTr (kTr (kTf aM2)))))))))))) (kTb (kTr (kTr (kTb (kTl (kTr (kTf kO2))) (kTl (kTr (kTl (kTr (kTr (kTr (kTf aBl)))))))))) (kTr (kTr (kTl (kTr (kTr (kTl (kTr (kTl (kTr (kTr (kTf aM3)))))))))))))) (kTb (kTl (kTb (kTl (kTr (kTr (kTl (kTl (kTf kO6)))))) (kTr (kTr (kTr (kTl (kTr (kTl (kTr (kTr (kTr (kTf (.cells ⟨[]⟩ 3))))))))))))) (kTb (kTb (kTr (kTr (kTl (kTr (kTr (kTl (kTf gK))))))) (kTl (kTl (kTr (kTr (kTr (kTl (kTf kO1)))))))) (kTr (kTr (kTl (kTr (kTr (kTf kO0))))))))) (kTb (kTb (kTr (kTb (kTl (kTr (kTr (kTr (kTr (kTl (kTr (kTr (kTr (kTf kO6)))))))))) (kTr (kTr (kTr (kTf kO1)))))) (kTb (kTb (kTb (kTr (kTl (kTr (kTr (kTl (kTr (kTr (kTr (kTf kO1))))))))) (kTr (kTl (kTr (kTr (kTl (kTf gK))))))) (kTl (kTl (kTr (kTr (kTr (kTl (kTf kO1)))))))) (kTl (kTr (kTr (kTl (kTb (kTr (kTf aHt)) (kTr (kTl (kTf lC)))))))))) (kTb (kTb (kTr (kTr (kTr (kTr (kTl (kTl (kTl (kTf vY)))))))) (kTb (kTb (kTl (kTr (kTr (kTr (kTl (kTr (kTl (kTr (kTr (kTf kO1)))))))))) (kTr (kTl (kTr (kTr (kTl (kTf lC))))))) (kTr (kTr (kTr (kTl (kTr (kTl (kTr (kTr (kTr (kTf fS)))))))))))) (kTr (kTr (kTr (kTb (kTr (kTl (kTl (kTf kO6)))) (kTl (kTr (kTr (kTl (kTf kO6)))))))))))) (kTb (kTb (kTn (kTr (kTr (kTr (kTl (kTl (kTr (kTr (kTl (kTr (kTl (kTr (kTr (kTf (.cells ⟨[]⟩ 3)))))))))))))) kO2 (kTb (kTl (kTl (kTr (kTl (kTr (kTr (kTl (kTr (kTr (kTr (kTf kO1))))))))))) (kTb (kTl (kTr (kTl (kTr (kTf kO1))))) (kTl (kTr (kTr (kTr (kTr (kTl (kTr (kTr (kTr (kTf kO1))))))))))))) (kTb (kTb (kTb (kTl (kTr (kTr (kTl (kTl (kTf kO7)))))) (kTr (kTl (kTl (kTr (kTr (kTl (kTr (kTl (kTr (kTr (kTf aM4)))))))))))) (kTb (kTr (kTl (kTl (kTr (kTr (kTl (kTr (kTl (kTr (kTr (kTf aM5))))))))))) (kTr (kTl (kTb (kTr (kTr (kTl (kTr (kTl (kTr (kTr (kTf (.cells ⟨[]⟩ 3))))))))) (kTr (kTr (kTl (kTr (kTr (kTr (kTf rE)))))))))))) (kTb (kTb (kTr (kTl (kTl (kTr (kTr (kTl (kTr (kTl (kTr (kTr (kTf (.cells ⟨[]⟩ 5)))))))))))) (kTr (kTr (kTr (kTl (kTr (kTl (kTr (kTl (kTr (kTr (kTf u0)))))))))))) (kTr (kTr (kTl (kTr (kTr (kTr (kTl (kTr (kTr (kTr (kTf rE)))))))))))))) (kTb (kTb (kTb (kTb (kTb (kTr (kTl (kTr (kTr (kTl (kTr (kTl (kTr (kTr (kTf fS)))))))))) (kTr (kTr (kTl (kTl (kTl (kTf kO1))))))) (kTr (kTr (kTl (kTr (kTr (kTl (kTf fS)))))))) (kTl (kTr (kTl (kTl (kTr (kTr (kTl (kTr (kTr (kTr (kTf (.cells ⟨[]⟩ 5))))))))))))) (kTb (kTr (kTb (kTr (kTl (kTr (kTf kO3)))) (kTl (kTl (kTr (kTr (kTl (kTr (kTr (kTr (kTf aBm))))))))))) (kTb (kTr (kTl (kTb (kTr (kTr (kTl (kTr (kTr (kTr (kTf aBn))))))) (kTr (kTr (kTl (kTr (kTr (kTr (kTf aBo)))))))))) (kTr (kTl (kTl (kTr (kTr (kTl (kTr (kTr (kTr (kTf (.cells ⟨[]⟩ 3)))))))))))))) (kTb (kTb (kTr (kTr (kTr (kTl (kTr (kTr (kTl (kTf fS)))))))) (kTb (kTl (kTl (kTr (kTr (kTr (kTl (kTr (kTl (kTr (kTr (kTf kO1))))))))))) (kTl (kTr (kTr (kTr (kTr (kTl (kTr (kTr (kTr (kTf kO1)))))))))))) (kTr (kTr (kTb (kTl (kTl (kTl (kTr (kTl (kTf jO)))))) (kTl (kTr (kTr (kTr (kTl (kTr (kTr (kTr (kTf rE)))))))))))))))
 nx':=120830
theorem aMC:rR Tryz.prog aOm:=tF kO (l:=[sA,wP,xN,zT,aF2,aJz,aMA,aOl]) (bF jC (bF lH (bF mV (bF nV (bF xO (bF aD7 (bF aH4 (bF aMB kM)))))))) (k:=200) fun ro=>by kernel_rfl
end V
end Go.Proofs.YtcaccnneblghgaaGreat
namespace Go.Proofs.YtcaccnneblghgaaGreat
namespace V
set_option maxRecDepth 1000000
def aPQ:Obj:=.cells ⟨(aBK [.int .i64 2,.slice (some ⟨62815,0,(some 2)⟩) 0 0,.slice (some ⟨63322,0,(some 4)⟩) 2 2,.slice (some ⟨5931,0,(some 1)⟩) 1 1,b0,b0,b0,b0,b0,b0,b0,b0,b0,b0,b0,b0,b0,b0,b0,b0,b0,b0,b0,b0,b0,b0,b0,b0,b0,b0,b0,b0,b0,b0,b0,b0,b0,b0,b0,b0,b0,b0,b0,b0,b0,b0,b0,b0,b0,b0,b0,b0,b0,b0,b0,b0,b0,b0,b0,b0,b0,b0,b0,b0,b0,b0,b0,b0,b0,b0,b0,b0,b0,b0,b0,b0,b0,b0,b0,b0,b0,b0,b0,b0,b0,b0,b0,b0,b0,b0,b0,b0,b0,b0,b0,b0,b0,b0,b0,b0,b0,b1,b0,b0,b0,b0,b0,b0,b0,b0,b0,b0,b0,b0,b0,b0,b0,b0,b0,b0,b0,b0,b0,b0,b0,b0,b0,b0,b0,b0,b0,b0,b0,b0,b0,b0,b0,b0,b0,b0,b0,b0,b0,b0,b0,b0,b0,b0,b0,b0,b0,b0,b0,b0,b0,b0,b0,b0,b0,b0,b0,b0,b0,b0,b0,b0,b0,b0,b0,b0,b0,b0,b0,b0,b0,b0,b0,b0,b0,b0,b0,b0,b0,b0,b0,b0,b0,b0,b0,b0,b0,b0,b0,b0,b0,b0,b0,b0,b0,b0,b0,b0,b0,b0,b0,b0,b0,b0,b0,b0,b0,b0,b0,b0,b0,b0,b0,b0,b0,b0,b0,b0,b0,b0,b0,b0,b0,b0,b0,b0,b0,b0,b0,b0,b0,b0,b0,b0,b0,b0,b0,b0,b0,b0,b0,b0,b0,b0,b0,b0,b0,b0,b0,b0,b0,b0,b0,b0,b0,b0,.int .i64 2,.slice (some ⟨120300,0,(some 2)⟩) 0 0,.slice (some ⟨120807,0,(some 4)⟩) 2 2,.slice (some ⟨63416,0,(some 1)⟩) 1 1])⟩ 65
def aQt:List Value:=[.agg ⟨[.slice (some ⟨8,0,(some 1)⟩) 1 1,s0,.slice (some ⟨1915,0,(some 7)⟩) 1 1]⟩,.int .i64 9]
def aQu:Value:=.tuple ⟨[.agg ⟨[.slice (some ⟨3287,0,(some 1)⟩) 1 1,.slice (some ⟨5849,0,(some 1)⟩) 1 1,.slice (some ⟨5862,0,(some 1)⟩) 1 1,.slice (some ⟨120843,0,(some 260)⟩) 2 2]⟩,j0,j0]⟩
def aMD:Cp where
 f:=aCo
 args:=aQt
 h:=kTb (kTb (kTr (kTr (kTr (kTr (kTr (kTl (kTr (kTr (kTf kO0))))))))) (kTb (kTl (kTr (kTr (kTr (kTr (kTr (kTf kO1))))))) (kTr (kTr (kTr (kTr (kTl (kTr (kTl (kTl (kTf kO6))))))))))) (kTb (kTl (kTn .e kO2 (kTr (kTl (kTl (kTr (kTl (kTr (kTf kO1))))))))) (kTl (kTr (kTl (kTr (kTl (kTr (kTl (kTr (kTf kO3))))))))))
 nx:=2435
 v:=aQu
 h':=kTb (kTb (kTb (kTb (kTl (kTb (kTr (kTr (kTr (kTl (kTr (kTl (kTr (kTr (kTr (kTf (.cells ⟨[]⟩ 5))))))))))) (kTr (kTb (kTr (kTl (kTr (kTl (kTr (kTr (kTr (kTf u0)))))))) (kTl (kTr (kTr (kTl (kTr (kTl (kTr (kTr (kTf (.cells ⟨[]⟩ 5)))))))))))))) (kTb (kTb (kTb (kTl (kTr (kTr (kTr (kTl (kTr (kTl (kTr (kTr (kTf (.cells ⟨[]⟩ 3))))))))))) (kTr (kTr (kTl (kTr (kTl (kTr (kTr (kTr (kTf aBk)))))))))) (kTr (kTr (kTb (kTr (kTr (kTl (kTr (kTl (kTr (kTr (kTf aM1)))))))) (kTb (kTr (kTl (kTr (kTr (kTr (kTf (.cells ⟨[]⟩ 3))))))) (kTr (kTl (kTr (kTl (kTr (kTr (kTf aM2)))))))))))) (kTb (kTr (kTr (kTb (kTl (kTr (kTf kO2))) (kTl (kTr (kTl (kTr (kTr (kTr (kTf aBl)))))))))) (kTr (kTr (kTl (kTr (kTr (kTl (kTr (kTl (kTr (kTr (kTf aM3)))))))))))))) (kTb (kTl (kTr (kTr (kTr (kTr (kTl (kTr (kTl (kTr (kTr (kTr (kTf (.cells ⟨[]⟩ 3))))))))))))) (kTb (kTb (kTl (kTl (kTl (kTl (kTl (kTr (kTr (kTl (kTr (kTr (kTf aPQ))))))))))) (kTl (kTl (kTr (kTr (kTr (kTl (kTf kO1)))))))) (kTr (kTr (kTl (kTr (kTr (kTf kO0))))))))) (kTb (kTb (kTr (kTr (kTr (kTr (kTr (kTf kO1)))))) (kTb (kTl (kTl (kTr (kTl (kTr (kTr (kTl (kTr (kTr (kTr (kTf kO1))))))))))) (kTl (kTr (kTr (kTl (kTr (kTr (kTl (kTf lC)))))))))) (kTb (kTr (kTb (kTl (kTl (kTr (kTr (kTr (kTl (kTr (kTl (kTr (kTr (kTf kO1))))))))))) (kTr (kTr (kTr (kTl (kTr (kTl (kTr (kTr (kTr (kTf fS)))))))))))) (kTr (kTr (kTr (kTl (kTr (kTl (kTl (kTf kO6))))))))))) (kTb (kTb (kTn (kTr (kTr (kTr (kTl (kTl (kTr (kTr (kTl (kTr (kTl (kTr (kTr (kTf (.cells ⟨[]⟩ 3)))))))))))))) kO2 (kTb (kTl (kTl (kTr (kTl (kTr (kTr (kTl (kTr (kTr (kTr (kTf kO1))))))))))) (kTb (kTl (kTr (kTl (kTr (kTf kO1))))) (kTl (kTr (kTr (kTr (kTr (kTl (kTr (kTr (kTr (kTf kO1))))))))))))) (kTb (kTb (kTr (kTr (kTl (kTl (kTr (kTr (kTl (kTr (kTl (kTr (kTr (kTf aM4)))))))))))) (kTb (kTr (kTl (kTl (kTr (kTr (kTl (kTr (kTl (kTr (kTr (kTf aM5))))))))))) (kTr (kTl (kTl (kTr (kTr (kTl (kTr (kTl (kTr (kTr (kTf (.cells ⟨[]⟩ 3)))))))))))))) (kTl (kTb (kTr (kTl (kTl (kTr (kTr (kTl (kTr (kTl (kTr (kTr (kTf (.cells ⟨[]⟩ 5)))))))))))) (kTr (kTr (kTr (kTl (kTr (kTl (kTr (kTl (kTr (kTr (kTf u0))))))))))))))) (kTb (kTb (kTb (kTl (kTl (kTr (kTl (kTr (kTr (kTl (kTr (kTl (kTr (kTr (kTf fS)))))))))))) (kTl (kTr (kTl (kTl (kTr (kTr (kTl (kTr (kTr (kTr (kTf (.cells ⟨[]⟩ 5))))))))))))) (kTb (kTr (kTb (kTr (kTl (kTr (kTf kO3)))) (kTl (kTl (kTr (kTr (kTl (kTr (kTr (kTr (kTf aBm))))))))))) (kTb (kTr (kTl (kTb (kTr (kTr (kTl (kTr (kTr (kTr (kTf aBn))))))) (kTr (kTr (kTl (kTr (kTr (kTr (kTf aBo)))))))))) (kTr (kTl (kTl (kTr (kTr (kTl (kTr (kTr (kTr (kTf (.cells ⟨[]⟩ 3)))))))))))))) (kTl (kTb (kTr (kTr (kTr (kTl (kTr (kTr (kTl (kTf fS)))))))) (kTl (kTl (kTl (kTr (kTr (kTr (kTl (kTr (kTl (kTr (kTr (kTf kO1))))))))))))))))
 nx':=120859
theorem aH5:rR Tryz.prog aMD:=tF kO (l:=[sA,wP,xN,zT,aF2,aOm]) (bF jC (bF lH (bF mV (bF nV (bF xO (bF aMC kM)))))) (k:=200) fun ro=>by kernel_rfl
end V
end Go.Proofs.YtcaccnneblghgaaGreat
namespace Go.Proofs.YtcaccnneblghgaaGreat
namespace V
set_option maxRecDepth 1000000
def aQG:Obj:=.cells ⟨[.slice (some ⟨3287,0,(some 1)⟩) 1 1,.slice (some ⟨5849,0,(some 1)⟩) 1 1,.slice (some ⟨5862,0,(some 1)⟩) 1 1,.slice (some ⟨120843,0,(some 260)⟩) 2 2]⟩ 34
def aQW:Obj:=.cells ⟨[.slice (some ⟨139622,0,(some 2)⟩) 2 2]⟩ 200
def aQX:Obj:=.cells ⟨[.slice (some ⟨134894,0,(some 2)⟩) 2 2]⟩ 200
def aQY:Obj:=.cells ⟨(aBK [.int .i64 2,.slice (some ⟨139451,0,(some 2)⟩) 0 0,.slice (some ⟨139690,0,(some 4)⟩) 2 2,j0,s0,j0])⟩ 148
def aQZ:Obj:=.cells ⟨(aBK [.int .i64 2,.slice (some ⟨134723,0,(some 2)⟩) 0 0,.slice (some ⟨134962,0,(some 4)⟩) 2 2,j0,s0,j0])⟩ 148
def aQ0:Obj:=.cells ⟨[.slice (some ⟨134776,0,(some 2)⟩) 2 2]⟩ 200
def aQ1:Obj:=.cells ⟨[.slice (some ⟨139504,0,(some 2)⟩) 2 2]⟩ 200
def aQ2:Obj:=.cells ⟨[jm,s0,.int .i64 1,.slice (some ⟨139546,0,(some 1)⟩) 0 0]⟩ 202
def aQ3:Obj:=.cells ⟨(aQH [j0,s0,s0,.slice (some ⟨135022,0,(some 1)⟩) 1 1,b0,b0,b0,b0,b0,b0,b0,b0,b0,b0,b0,b0,b0,b0,b0,b0,b0,b0,b0,b0,b0,b0,b0,b0,b0,b0,b0,b0,b0,b0,b0,b0,b0,b0,b0,b0,b0,b0,b0,b0,b0,b0,b0,b0,b0,b0,b0,b0,b0,b0,b0,b0,b0,b0,b0,b0,b0,b0,b0,b0,b0,b0,b0,b0,b0,b0,b0,b0,b0,b0,b0,b0,b0,b0,b0,b0,b0,b0,b0,b0,b0,b0,b0,b0,b0,b0,b0,b0,b0,b0,b0,b0,b0,b0,b0,b0,b0,b0,b0,b0,b0,b0,b0,b0,b0,b0,b0,b0,b0,b0,b0,b0,b0,b0,b0,b0,b0,b0,b0,b0,b0,b0,b0,b0,b0,b0,b0,b0,b0,b0,b0,b0,b0,b0,b0,b0,b0,b0,b0,b0,b0,b0,b0,b0,b0,b0,b0,b0,b0,b0,b0,b0,b0,b0,b0,b0,b0,b0,b0,b0,b0,b0,b0,b0,b0,b0,b0,b0,b0,b0,b0,b0,b0,b0,b0,b0,b0,b0,b0,b0,b0,b0,b0,b0,b0,b0,b0,b0,b0,b0,b0,b0,b0,b0,b0,b0,b0,b0,b0,b0,b0,b0,b0,b0,b0,b0,b0,b0,b0,b0,b0,b0,b0,b0,b0,b0,b0,b0,b0,b0,b0,b0,b0,b0,b0,b0,b0,b0,b0,b0,b0,b0,b0,b0,b0,b0,b0,b0,b0,b0,b0,b0,b0,b0,b0,b0,b0,b0,b0,b0,b0,b0,b0,b0,b0,b0,j0,s0,s0,.slice (some ⟨139750,0,(some 1)⟩) 1 1])⟩ 65
def aQ4:Obj:=.cells ⟨[jm,s0,.int .i64 1,.slice (some ⟨134818,0,(some 1)⟩) 0 0]⟩ 202
def aQ5:Obj:=.cells ⟨[.pointer (some ⟨134971,0,(some 0)⟩),.pointer (some ⟨139699,0,(some 0)⟩)]⟩ 101
def aQ6:Obj:=.cells ⟨[s0,.slice (some ⟨134748,0,(some 1)⟩) 0 0,.slice (some ⟨134758,0,(some 1)⟩) 1 1,.slice (some ⟨134833,0,(some 1)⟩) 1 1,s0,.slice (some ⟨134866,0,(some 1)⟩) 0 0,.slice (some ⟨134876,0,(some 1)⟩) 1 1,.slice (some ⟨134951,0,(some 1)⟩) 1 1]⟩ 160
def aQ7:Obj:=.cells ⟨[s0,.slice (some ⟨139476,0,(some 1)⟩) 0 0,.slice (some ⟨139486,0,(some 1)⟩) 1 1,.slice (some ⟨139561,0,(some 1)⟩) 1 1,s0,.slice (some ⟨139594,0,(some 1)⟩) 0 0,.slice (some ⟨139604,0,(some 1)⟩) 1 1,.slice (some ⟨139679,0,(some 1)⟩) 1 1]⟩ 160
def aQ8:Obj:=.cells ⟨[s0,.slice (some ⟨130285,0,(some 1)⟩) 1 1,.slice (some ⟨130293,0,(some 1)⟩) 1 1,.slice (some ⟨139752,0,(some 260)⟩) 2 2,.slice (some ⟨139724,0,(some 1)⟩) 2 2,.int .i64 9,s0,j0,.bool true,j0,j0,j0,jm,j0,.bool false,j0]⟩ 98
def aQ9:Obj:=.cells ⟨[jm,s0,.int .i64 1,.slice (some ⟨139664,0,(some 1)⟩) 0 0]⟩ 202
def aQa:Obj:=.cells ⟨[jm,s0,.int .i64 1,.slice (some ⟨134936,0,(some 1)⟩) 0 0]⟩ 202
def aQv:List Value:=[.agg ⟨[.slice (some ⟨3287,0,(some 1)⟩) 1 1,.slice (some ⟨5849,0,(some 1)⟩) 1 1,.slice (some ⟨5862,0,(some 1)⟩) 1 1,.slice (some ⟨120843,0,(some 260)⟩) 2 2]⟩,.int .i64 9]
def aQw:Value:=.tuple ⟨[.pointer (some ⟨130266,0,(some 0)⟩),j0]⟩
def aOn:Cp where
 f:=pA
 args:=aQv
 h:=kTb (kTb (kTb (kTb (kTl (kTb (kTr (kTr (kTr (kTl (kTr (kTl (kTr (kTr (kTr (kTf (.cells ⟨[]⟩ 5))))))))))) (kTb (kTl (kTl (kTl (kTl (kTr (kTr (kTl (kTr (kTr (kTf aQG)))))))))) (kTb (kTr (kTl (kTr (kTl (kTr (kTr (kTr (kTf u0)))))))) (kTl (kTr (kTr (kTl (kTr (kTl (kTr (kTr (kTf (.cells ⟨[]⟩ 5)))))))))))))) (kTb (kTb (kTb (kTl (kTr (kTr (kTr (kTl (kTr (kTl (kTr (kTr (kTf (.cells ⟨[]⟩ 3))))))))))) (kTr (kTr (kTl (kTr (kTl (kTr (kTr (kTr (kTf aBk)))))))))) (kTr (kTr (kTb (kTr (kTr (kTl (kTr (kTl (kTr (kTr (kTf aM1)))))))) (kTb (kTr (kTl (kTr (kTr (kTr (kTf (.cells ⟨[]⟩ 3))))))) (kTr (kTl (kTr (kTl (kTr (kTr (kTf aM2)))))))))))) (kTb (kTr (kTr (kTb (kTl (kTr (kTf kO2))) (kTl (kTr (kTl (kTr (kTr (kTr (kTf aBl)))))))))) (kTr (kTr (kTl (kTr (kTr (kTl (kTr (kTl (kTr (kTr (kTf aM3)))))))))))))) (kTb (kTl (kTr (kTr (kTr (kTr (kTl (kTr (kTl (kTr (kTr (kTr (kTf (.cells ⟨[]⟩ 3))))))))))))) (kTb (kTb (kTl (kTl (kTl (kTl (kTl (kTr (kTr (kTl (kTr (kTr (kTf aPQ))))))))))) (kTl (kTl (kTr (kTr (kTr (kTl (kTf kO1)))))))) (kTr (kTr (kTl (kTr (kTr (kTf kO0))))))))) (kTb (kTb (kTr (kTr (kTr (kTr (kTr (kTf kO1)))))) (kTb (kTl (kTl (kTr (kTl (kTr (kTr (kTl (kTr (kTr (kTr (kTf kO1))))))))))) (kTl (kTr (kTr (kTl (kTr (kTr (kTl (kTf lC)))))))))) (kTb (kTr (kTb (kTl (kTl (kTr (kTr (kTr (kTl (kTr (kTl (kTr (kTr (kTf kO1))))))))))) (kTr (kTr (kTr (kTl (kTr (kTl (kTr (kTr (kTr (kTf fS)))))))))))) (kTr (kTr (kTr (kTl (kTr (kTl (kTl (kTf kO6))))))))))) (kTb (kTb (kTn (kTr (kTr (kTr (kTl (kTl (kTr (kTr (kTl (kTr (kTl (kTr (kTr (kTf (.cells ⟨[]⟩ 3)))))))))))))) kO2 (kTb (kTl (kTl (kTr (kTl (kTr (kTr (kTl (kTr (kTr (kTr (kTf kO1))))))))))) (kTb (kTl (kTr (kTl (kTr (kTf kO1))))) (kTl (kTr (kTr (kTr (kTr (kTl (kTr (kTr (kTr (kTf kO1))))))))))))) (kTb (kTb (kTr (kTr (kTl (kTl (kTr (kTr (kTl (kTr (kTl (kTr (kTr (kTf aM4)))))))))))) (kTb (kTr (kTl (kTl (kTr (kTr (kTl (kTr (kTl (kTr (kTr (kTf aM5))))))))))) (kTr (kTl (kTl (kTr (kTr (kTl (kTr (kTl (kTr (kTr (kTf (.cells ⟨[]⟩ 3)))))))))))))) (kTl (kTb (kTr (kTl (kTl (kTr (kTr (kTl (kTr (kTl (kTr (kTr (kTf (.cells ⟨[]⟩ 5)))))))))))) (kTr (kTr (kTr (kTl (kTr (kTl (kTr (kTl (kTr (kTr (kTf u0))))))))))))))) (kTb (kTb (kTb (kTl (kTl (kTr (kTl (kTr (kTr (kTl (kTr (kTl (kTr (kTr (kTf fS)))))))))))) (kTl (kTr (kTl (kTl (kTr (kTr (kTl (kTr (kTr (kTr (kTf (.cells ⟨[]⟩ 5))))))))))))) (kTb (kTr (kTb (kTr (kTl (kTr (kTf kO3)))) (kTl (kTl (kTr (kTr (kTl (kTr (kTr (kTr (kTf aBm))))))))))) (kTb (kTr (kTl (kTb (kTr (kTr (kTl (kTr (kTr (kTr (kTf aBn))))))) (kTr (kTr (kTl (kTr (kTr (kTr (kTf aBo)))))))))) (kTr (kTl (kTl (kTr (kTr (kTl (kTr (kTr (kTr (kTf (.cells ⟨[]⟩ 3)))))))))))))) (kTl (kTb (kTr (kTr (kTr (kTl (kTr (kTr (kTl (kTf fS)))))))) (kTl (kTl (kTl (kTr (kTr (kTr (kTl (kTr (kTl (kTr (kTr (kTf kO1))))))))))))))))
 nx:=120869
 v:=aQw
 h':=kTb (kTb (kTb (kTb (kTl (kTb (kTr (kTr (kTr (kTl (kTr (kTl (kTr (kTr (kTr (kTf (.cells ⟨[]⟩ 5))))))))))) (kTb (kTb (kTl (kTl (kTl (kTr (kTr (kTl (kTr (kTr (kTf aQG))))))))) (kTr (kTl (kTl (kTl (kTl (kTr (kTl (kTl (kTl (kTf aQW))))))))))) (kTb (kTr (kTl (kTr (kTl (kTr (kTr (kTr (kTf u0)))))))) (kTl (kTr (kTr (kTl (kTr (kTl (kTr (kTr (kTf (.cells ⟨[]⟩ 5)))))))))))))) (kTb (kTb (kTb (kTl (kTr (kTr (kTr (kTl (kTr (kTl (kTr (kTr (kTf (.cells ⟨[]⟩ 3))))))))))) (kTr (kTr (kTl (kTr (kTl (kTr (kTr (kTr (kTf aBk)))))))))) (kTb (kTl (kTr (kTr (kTr (kTr (kTl (kTl (kTl (kTl (kTl (kTf aQX))))))))))) (kTr (kTb (kTr (kTr (kTl (kTr (kTl (kTr (kTr (kTf aM1)))))))) (kTb (kTr (kTl (kTr (kTr (kTr (kTf (.cells ⟨[]⟩ 3))))))) (kTr (kTl (kTr (kTl (kTr (kTr (kTf aM2)))))))))))) (kTb (kTr (kTr (kTb (kTl (kTr (kTf kO2))) (kTl (kTr (kTl (kTr (kTr (kTr (kTf aBl)))))))))) (kTr (kTr (kTl (kTr (kTr (kTl (kTr (kTl (kTr (kTr (kTf aM3)))))))))))))) (kTb (kTb (kTb (kTr (kTl (kTl (kTr (kTr (kTr (kTl (kTl (kTl (kTl (kTl (kTf u0)))))))))))) (kTr (kTr (kTr (kTl (kTr (kTl (kTr (kTr (kTr (kTf (.cells ⟨[]⟩ 3)))))))))))) (kTr (kTl (kTr (kTr (kTl (kTl (kTl (kTl (kTr (kTl (kTl (kTl (kTf aQY)))))))))))))) (kTb (kTb (kTl (kTl (kTl (kTl (kTl (kTr (kTr (kTl (kTr (kTr (kTf aPQ))))))))))) (kTl (kTl (kTr (kTr (kTr (kTl (kTf kO1)))))))) (kTr (kTb (kTb (kTr (kTr (kTr (kTr (kTl (kTl (kTl (kTl (kTl (kTf aQZ)))))))))) (kTl (kTl (kTl (kTl (kTl (kTr (kTl (kTl (kTl (kTf u0))))))))))) (kTl (kTr (kTr (kTf kO0))))))))) (kTb (kTb (kTr (kTr (kTb (kTr (kTl (kTr (kTr (kTr (kTl (kTl (kTl (kTl (kTl (kTf aQ0))))))))))) (kTr (kTr (kTf kO1)))))) (kTb (kTb (kTl (kTr (kTl (kTr (kTr (kTl (kTr (kTr (kTr (kTf kO1)))))))))) (kTl (kTl (kTr (kTl (kTl (kTl (kTl (kTr (kTl (kTl (kTl (kTf aQ1))))))))))))) (kTl (kTr (kTr (kTl (kTr (kTr (kTl (kTf lC)))))))))) (kTb (kTr (kTb (kTl (kTl (kTr (kTr (kTr (kTl (kTr (kTl (kTr (kTr (kTf kO1))))))))))) (kTr (kTr (kTb (kTl (kTr (kTr (kTr (kTr (kTr (kTr (kTf fS)))))))) (kTl (kTr (kTl (kTr (kTr (kTr (kTf fS)))))))))))) (kTb (kTr (kTr (kTr (kTl (kTl (kTr (kTr (kTr (kTr (kTr (kTr (kTf lC)))))))))))) (kTr (kTr (kTl (kTr (kTl (kTl (kTf kO6))))))))))) (kTb (kTb (kTn (kTr (kTb (kTl (kTr (kTr (kTl (kTl (kTl (kTl (kTr (kTl (kTl (kTl (kTf (.cells ⟨[]⟩ 5))))))))))))) (kTr (kTb (kTl (kTr (kTr (kTl (kTr (kTl (kTr (kTr (kTf (.cells ⟨[]⟩ 3)))))))))) (kTl (kTl (kTl (kTl (kTl (kTr (kTl (kTl (kTl (kTf aQ2)))))))))))))) kO2 (kTb (kTb (kTl (kTr (kTl (kTr (kTr (kTl (kTr (kTr (kTr (kTf kO1)))))))))) (kTr (kTr (kTr (kTl (kTl (kTl (kTl (kTr (kTl (kTl (kTl (kTf aQ3))))))))))))) (kTb (kTl (kTb (kTr (kTr (kTr (kTr (kTl (kTl (kTl (kTl (kTl (kTf (.cells ⟨[]⟩ 5))))))))))) (kTl (kTr (kTf kO1))))) (kTb (kTr (kTr (kTr (kTr (kTl (kTr (kTr (kTr (kTf kO1))))))))) (kTl (kTl (kTr (kTr (kTr (kTl (kTl (kTl (kTl (kTl (kTf aQ4))))))))))))))) (kTb (kTb (kTr (kTr (kTl (kTl (kTr (kTr (kTl (kTr (kTl (kTr (kTr (kTf aM4)))))))))))) (kTb (kTr (kTb (kTb (kTr (kTr (kTl (kTr (kTl (kTr (kTr (kTf aM5)))))))) (kTl (kTl (kTl (kTl (kTr (kTl (kTl (kTl (kTf kO1)))))))))) (kTl (kTl (kTl (kTl (kTl (kTr (kTl (kTl (kTl (kTf (.cells ⟨[]⟩ 3))))))))))))) (kTr (kTl (kTl (kTr (kTr (kTl (kTr (kTl (kTr (kTr (kTf (.cells ⟨[]⟩ 3)))))))))))))) (kTb (kTb (kTr (kTb (kTl (kTr (kTr (kTl (kTr (kTl (kTr (kTr (kTf (.cells ⟨[]⟩ 5)))))))))) (kTr (kTl (kTl (kTl (kTl (kTr (kTl (kTl (kTl (kTf aQ5)))))))))))) (kTr (kTr (kTr (kTl (kTr (kTl (kTr (kTl (kTr (kTr (kTf u0)))))))))))) (kTl (kTr (kTb (kTl (kTr (kTr (kTr (kTl (kTl (kTl (kTl (kTl (kTf (.cells ⟨[]⟩ 3))))))))))) (kTl (kTr (kTr (kTr (kTl (kTl (kTl (kTl (kTl (kTf kO1)))))))))))))))) (kTb (kTb (kTb (kTb (kTl (kTr (kTl (kTr (kTr (kTl (kTr (kTl (kTr (kTr (kTf fS))))))))))) (kTl (kTr (kTl (kTr (kTr (kTr (kTl (kTl (kTl (kTl (kTl (kTf (.cells ⟨[]⟩ 5)))))))))))))) (kTb (kTr (kTb (kTl (kTr (kTr (kTl (kTr (kTr (kTr (kTf (.cells ⟨[]⟩ 5))))))))) (kTl (kTr (kTr (kTr (kTl (kTl (kTl (kTl (kTl (kTf (.cells ⟨[]⟩ 3))))))))))))) (kTl (kTl (kTr (kTr (kTr (kTr (kTl (kTl (kTl (kTl (kTl (kTf aQ6)))))))))))))) (kTb (kTb (kTr (kTl (kTr (kTl (kTl (kTl (kTl (kTr (kTl (kTl (kTl (kTf (.cells ⟨[]⟩ 3))))))))))))) (kTb (kTr (kTb (kTr (kTf kO3)) (kTl (kTl (kTl (kTl (kTr (kTl (kTl (kTl (kTf aQ7))))))))))) (kTl (kTl (kTr (kTr (kTl (kTr (kTr (kTr (kTf aBm))))))))))) (kTb (kTb (kTl (kTr (kTl (kTl (kTl (kTl (kTr (kTl (kTl (kTl (kTf (.cells ⟨[]⟩ 5)))))))))))) (kTb (kTb (kTr (kTr (kTl (kTr (kTr (kTr (kTf aBn))))))) (kTr (kTr (kTl (kTr (kTr (kTr (kTf aBo)))))))) (kTl (kTl (kTr (kTr (kTr (kTr (kTr (kTr (kTf aQ8))))))))))) (kTr (kTl (kTl (kTr (kTr (kTl (kTr (kTr (kTr (kTf (.cells ⟨[]⟩ 3)))))))))))))) (kTb (kTb (kTr (kTr (kTb (kTb (kTr (kTr (kTr (kTl (kTl (kTl (kTl (kTl (kTf fS))))))))) (kTl (kTl (kTl (kTl (kTr (kTl (kTl (kTl (kTf aQ9)))))))))) (kTb (kTr (kTr (kTl (kTf fS)))) (kTl (kTl (kTl (kTl (kTr (kTl (kTl (kTl (kTf kO1))))))))))))) (kTl (kTl (kTl (kTr (kTr (kTr (kTl (kTr (kTl (kTr (kTr (kTf kO1))))))))))))) (kTb (kTr (kTr (kTb (kTr (kTr (kTr (kTr (kTl (kTl (kTl (kTl (kTl (kTf kO1)))))))))) (kTl (kTr (kTr (kTr (kTl (kTl (kTl (kTl (kTl (kTf aQa))))))))))))) (kTl (kTr (kTr (kTl (kTl (kTl (kTl (kTl (kTr (kTl (kTl (kTl (kTf fS)))))))))))))))))
 nx':=139759
theorem aME:rR Tryz.prog aOn:=tF kO (l:=[sA,aMD]) (bF jC (bF aH5 kM)) (k:=200) fun ro=>by kernel_rfl
end V
end Go.Proofs.YtcaccnneblghgaaGreat
namespace Go.Proofs.YtcaccnneblghgaaGreat
namespace V
set_option maxRecDepth 1000000 in
theorem aL0:Orc Tryz.prog t6 (.bool true):=aOK okZ okN okM kO (l:=[sA,aMD,aOn]) (bF jC (bF aH5 (bF aME kM))) (k:=200) rfl (by kernel_rfl) fun ro=>by kernel_rfl
theorem aOS {ro:Ro}{h:T Obj}{nx:Nat}{K:KV} (hK:K (.bool true) h nx):aN Tryz.prog ro t6 [] h nx K:=aKk aL0 hK
end V
end Go.Proofs.YtcaccnneblghgaaGreat
namespace Go.Proofs.YtcaccnneblghgaaGreat
namespace V
attribute [local irreducible] qR aN aB
end V
end Go.Proofs.YtcaccnneblghgaaGreat
namespace Go.Proofs.YtcaccnneblghgaaGreat
namespace V
attribute [local irreducible] aB ifP aR cT eQ exP cO
theorem aMh (h:T Obj) (a b:Int):eH Tryz.prog h .max #[dR,dR] [.int .i64 a,.int .i64 b]=some (.int .i64 (if a < b then b else a)):=by
 simp only[eH,aG6,aIF]
 by_cases hb:a < b<;>simp[hb]
theorem aKW {ro:Ro}{h:T Obj}{v:Value}{ls:List (List Nat)} (hv:SlR ro h v 1 (aHI ro h) ls):SlR ro h v 1 (RB ro h) ls∧(∀ b∈ls,b.length≤kN)∧∀ b∈ls,∀ x∈b,x < 256:=by
 refine⟨hv.imp fun x d ⟨w,h1,h2,h3⟩=>⟨w,h1,(aOt h2).1⟩,fun b hb=>?_,fun b hb=>?_⟩
 ·obtain⟨i,hi⟩:=List.getElem?_of_mem hb
  obtain⟨hl,rfl⟩:=List.getElem?_eq_some_iff.1 hi
  obtain⟨w,⟨w',_,_,h3⟩,_⟩:=hv.at1 hl
  exact h3
 ·obtain⟨i,hi⟩:=List.getElem?_of_mem hb
  obtain⟨hl,rfl⟩:=List.getElem?_eq_some_iff.1 hi
  obtain⟨w,⟨w',_,h2,_⟩,_⟩:=hv.at1 hl
  exact (aOt h2).2
section
variable {T:TabD}
end
section
variable {ro:Ro}{h:T Obj}{nx:Nat}{K:KV}
end
end V
end Go.Proofs.YtcaccnneblghgaaGreat
namespace Go.Proofs.YtcaccnneblghgaaGreat
namespace V
attribute [local irreducible] qR aN aB
@[irreducible] def mB (ro:Ro) (K:KV):Env→T Obj→Nat→Prop:=fun e h nx=>aN Tryz.prog ro jH [(e 8)] h (nx+2) fun a' j' k'=>aB (nth 0 a') fun l'=>aB (nth 1 a') fun z'=>aN Tryz.prog ro jH [(e 10)] j' (k'+7) fun b' c' d'=>aB (nth 0 b') fun m'=>aB (nth 1 b') fun A'=>ifP (e 7) true c' (d'+7) (fun n'=>n' l' c' (d'+8)) fun o' e' f'=>ifP (e 7) true e' f' (fun p'=>p' m' e' (f'+1)) fun q' g' h'=>ifP (e 7) true g' h' (fun r'=>aN Tryz.prog ro rC [o',q'] g' (h'+1) fun s' t' u'=>r' s' t' u') fun v' w' x'=>aB (bO (e 7) v' (Value.bool false)) fun y'=>∃ i',Sub i' w'∧K y' i' (x'+2)
@[irreducible] def mC (ro:Ro) (Q:KE):Env→T Obj→Nat→Prop:=fun e h nx=>aB (aO .add (e 84) (Value.int IntKind.i64 1)) fun a'=>Q .normal (puts e [(154,a'),(84,a')]) h (nx+2)
@[irreducible] def mF (ro:Ro) (Q:KE):Env→T Obj→Nat→Prop:=fun e h nx=>aN Tryz.prog ro rC [(e 19),(e 21)] h (nx+3) fun c' o' p'=>aB (unV .not c') fun a'=>ifP a' false o' (p'+2) (fun K'=>K' (e 8) o' (p'+3)) fun d' q' r'=>ifP a' false q' r' (fun L'=>aN Tryz.prog ro jX [d'] q' (r'+1) fun M' N' O'=>L' M' N' O') fun e' s' t'=>ifP a' false s' t' (fun P'=>P' (e 10) s' (t'+1)) fun f' u' v'=>ifP a' false u' v' (fun Q'=>aN Tryz.prog ro jX [f'] u' (v'+1) fun R' S' T'=>Q' R' S' T') fun g' w' x'=>ifP a' false w' x' (fun U'=>aB (aO .neq e' g') fun V'=>U' V' w' (x'+1)) fun h' y' z'=>aB (bO a' (Value.bool true) h') fun b'=>ifP b' false y' (z'+2) (fun W'=>W' (e 8) y' (z'+3)) fun i' A' B'=>ifP b' false A' B' (fun X'=>aN Tryz.prog ro jW [i'] A' (B'+1) fun Y' Z' aa'=>X' Y' Z' aa') fun j' C' D'=>ifP b' false C' D' (fun ab'=>ab' (e 10) C' (D'+1)) fun k' E' F'=>ifP b' false E' F' (fun ac'=>aN Tryz.prog ro jW [k'] E' (F'+1) fun ad' ae' af'=>ac' ad' ae' af') fun l' G' H'=>ifP b' false G' H' (fun ag'=>aB (aO .neq j' l') fun ah'=>ag' ah' G' (H'+1)) fun m' I' J'=>aB (bO b' (Value.bool true) m') fun n'=>aR n' (Q .ret (puts e [(136,(e 19)),(137,(e 21)),(138,c'),(139,a'),(140,a'),(141,d'),(142,e'),(143,f'),(144,g'),(145,h'),(146,b'),(147,b'),(148,i'),(149,j'),(150,k'),(151,l'),(152,m'),(153,n'),(6,(Value.bool false))]) I' (J'+2)) (mC ro Q (puts e [(136,(e 19)),(137,(e 21)),(138,c'),(139,a'),(140,a'),(141,d'),(142,e'),(143,f'),(144,g'),(145,h'),(146,b'),(147,b'),(148,i'),(149,j'),(150,k'),(151,l'),(152,m'),(153,n')]) I' (J'+1))
@[irreducible] def vA (ro:Ro):PT:=fun e h nx Q=>aB (aO .lss (e 126) (e 125)) fun a'=>aR a' (aB (cM 1 (e 17) (e 126)) fun b'=>aB (load1 ro h b') fun c'=>aB (aO .xor c' (Value.int IntKind.u8 85)) fun d'=>aB (cM 1 (e 17) (e 126)) fun e'=>aB (bV 1 h e' d') fun g'=>aB (aO .add (e 126) (Value.int IntKind.i64 1)) fun f'=>Q .normal (puts e [(127,a'),(128,(e 126)),(23,(e 126)),(129,(e 17)),(130,(e 126)),(131,b'),(132,c'),(133,d'),(134,e'),(135,f'),(126,f')]) g' (nx+12)) (Q (.exit 2) (puts e [(127,a')]) h (nx+1))
@[irreducible] def mE (ro:Ro) (Q:KE):Env→T Obj→Nat→Prop:=fun e h nx=>aN Tryz.prog ro iA [(e 8),(e 17)] h (nx+3) fun d' n' o'=>aB (nth 0 d') fun j'=>aB (nth 1 d') fun k'=>aN Tryz.prog ro iA [(e 12),(e 18)] n' (o'+8) fun p' q' g'=>aB (bR Tryz.prog a9 (g'+1) 0 []) fun h'=>eQ q' (g'+1) h'.2 fun r'=>aB (cC Tryz.prog ro r' (g'+4) #[a9,a9] [h'.1,(e 17)]) fun e'=>aN Tryz.prog ro iA [(e 10),e'.1] e'.2.1 (e'.2.2+1) fun f' s' t'=>aB (nth 0 f') fun l'=>aB (nth 1 f') fun m'=>aB (bH (e 17)) fun u'=>dT (vA ro) (puts e [(108,(e 8)),(109,(e 17)),(110,d'),(107,d'),(111,j'),(112,k'),(19,j'),(20,k'),(113,(e 12)),(114,(e 18)),(115,p'),(117,(e 10)),(118,h'.1),(119,(e 17)),(120,e'.1),(121,f'),(116,f'),(122,l'),(123,m'),(21,l'),(22,m'),(124,(e 17)),(125,u'),(126,(Value.int IntKind.i64 0))]) s' (t'+8) fun v' a' b' c'=>exP v' (mF ro Q a' b' c') (fun i'=>cO (Nat.beq i' 2) (mF ro Q a' b' c') (cO (Nat.beq i' 1) (mC ro Q a' b' c') (Q (.exit i') a' b' c'))) (Q .ret a' b' c')
@[irreducible] def mD (ro:Ro) (Q:KE):Env→T Obj→Nat→Prop:=fun e h nx=>aB (bH (e 15)) fun b'=>aB (aO .lss (e 16) b') fun c'=>aR c' (aB (cM 1 (e 15) (e 16)) fun d'=>aB (load1 ro h d') fun e'=>aB (cC Tryz.prog ro h (nx+10) #[a9,a9] [(e 18),e']) fun a'=>mE ro Q (puts e [(97,(e 16)),(98,(e 15)),(99,b'),(100,c'),(101,(e 18)),(102,(e 15)),(103,(e 16)),(104,d'),(105,e'),(106,a'.1),(18,a'.1)]) a'.2.1 (a'.2.2+1)) (mE ro Q (puts e [(97,(e 16)),(98,(e 15)),(99,b'),(100,c')]) h (nx+4))
@[irreducible] def u7 (ro:Ro):PT:=fun e h nx Q=>aB (aO .lss (e 84) (e 83)) fun a'=>aR a' (aB (bH (e 14)) fun c'=>aB (aO .lss (e 84) c') fun d'=>aR d' (aB (cM 1 (e 14) (e 84)) fun e'=>aB (load1 ro h e') fun f'=>aB (cC Tryz.prog ro h (nx+15) #[a9,a9] [(Value.slice none 0 0),f']) fun b'=>mD ro Q (puts e [(85,a'),(86,(e 84)),(16,(e 84)),(17,(Value.slice none 0 0)),(18,(Value.slice none 0 0)),(87,(e 84)),(88,(e 14)),(89,c'),(90,d'),(91,(Value.slice none 0 0)),(92,(e 14)),(93,(e 84)),(94,e'),(95,f'),(96,b'.1),(17,b'.1)]) b'.2.1 (b'.2.2+1)) (mD ro Q (puts e [(85,a'),(86,(e 84)),(16,(e 84)),(17,(Value.slice none 0 0)),(18,(Value.slice none 0 0)),(87,(e 84)),(88,(e 14)),(89,c'),(90,d')]) h (nx+9))) (Q (.exit 0) (puts e [(85,a')]) h (nx+1))
@[irreducible] def zZ (ro:Ro) (v0 v1 v2:Value) (h:T Obj) (nx:Nat) (K:KV):Prop:=cT h nx (.cells (Value.cells v0) dI) fun h1=>aN Tryz.prog ro t6 [] h1 (nx+3) fun m' h3 n4=>aB (loadA ro h3 4 (ptr nx)) fun w'=>aN Tryz.prog ro xX [w'] h3 (n4+3) fun x' h7 n8=>aB (unV .not x') fun a'=>ifP a' false h7 (n8+2) (fun az'=>aB (loadA ro h7 4 (ptr nx)) fun aA'=>az' aA' h7 (n8+3)) fun y' z' A'=>ifP a' false z' A' (fun aB'=>aN Tryz.prog ro uE [y'] z' (A'+1) fun aC' aD' aE'=>aB' aC' aD' aE') fun B' C' D'=>ifP a' false C' D' (fun aF'=>aB (unV .not B') fun aG'=>aF' aG' C' (D'+1)) fun E' n' F'=>aB (bO a' (Value.bool true) E') fun G'=>aR G' (∃ H',Sub H' n'∧K m' H' (F'+3)) (aB (loadA ro n' 4 (ptr nx)) fun I'=>aN Tryz.prog ro pA [I',(Value.int IntKind.i64 1000)] n' (F'+3) fun g' J' aH'=>aB (nth 0 g') fun h'=>aB (nth 1 g') fun o'=>aB (loadA ro J' 4 (ptr nx)) fun K'=>aN Tryz.prog ro pA [K',(Value.int IntKind.i64 1000)] J' (aH'+7) fun i' L' aI'=>aB (nth 0 i') fun p'=>aB (nth 1 i') fun q'=>aB (loadA ro L' 4 (ptr nx)) fun M'=>aN Tryz.prog ro pA [M',(Value.int IntKind.i64 1000)] L' (aI'+7) fun j' N' O'=>aB (nth 0 j') fun r'=>aB (nth 1 j') fun s'=>aB (yA .eql h' (Value.pointer none)) fun b'=>ifP b' false N' (O'+8) (fun aJ'=>aJ' p' N' (O'+9)) fun P' Q' R'=>ifP b' false Q' R' (fun aK'=>aB (yA .eql P' (Value.pointer none)) fun aL'=>aK' aL' Q' (R'+1)) fun S' T' U'=>aB (bO b' (Value.bool true) S') fun c'=>ifP c' false T' (U'+2) (fun aM'=>aM' r' T' (U'+3)) fun V' W' X'=>ifP c' false W' X' (fun aN'=>aB (yA .eql V' (Value.pointer none)) fun aO'=>aN' aO' W' (X'+1)) fun Y' Z' aa'=>aB (bO c' (Value.bool true) Y') fun d'=>ifP d' false Z' (aa'+2) (fun aP'=>aP' o' Z' (aa'+3)) fun ab' ac' ad'=>ifP d' false ac' ad' (fun aQ'=>aB (aO .neq ab' (Value.int IntKind.i64 0)) fun aR'=>aQ' aR' ac' (ad'+1)) fun ae' af' ag'=>aB (bO d' (Value.bool true) ae') fun e'=>ifP e' false af' (ag'+2) (fun aS'=>aS' q' af' (ag'+3)) fun ah' ai' aj'=>ifP e' false ai' aj' (fun aT'=>aB (aO .neq ah' (Value.int IntKind.i64 0)) fun aU'=>aT' aU' ai' (aj'+1)) fun ak' al' am'=>aB (bO e' (Value.bool true) ak') fun f'=>ifP f' false al' (am'+2) (fun aV'=>aV' s' al' (am'+3)) fun an' ao' ap'=>ifP f' false ao' ap' (fun aW'=>aB (aO .neq an' (Value.int IntKind.i64 0)) fun aX'=>aW' aX' ao' (ap'+1)) fun aq' ar' as'=>aB (bO f' (Value.bool true) aq') fun at'=>aR at' (∃ au',Sub au' ar'∧K (Value.bool false) au' (as'+2)) (aN Tryz.prog ro pE [v1] ar' (as'+3) fun k' aY' aZ'=>aN Tryz.prog ro pE [v2] aY' (aZ'+2) fun l' av' a0'=>aB (bH k') fun aw'=>aB (bH l') fun ax'=>aB (eH Tryz.prog av' .max #[dR,dR] [aw',ax']) fun a1'=>dT (u7 ro) (puts (gM [v0,v1,v2]) [(3,(ptr nx)),(6,(Value.bool false)),(28,m'),(7,m'),(29,w'),(30,x'),(31,a'),(32,a'),(33,y'),(34,B'),(35,E'),(36,G'),(39,I'),(40,g'),(38,g'),(41,h'),(42,o'),(8,h'),(9,o'),(44,K'),(45,i'),(43,i'),(46,p'),(47,q'),(10,p'),(11,q'),(49,M'),(50,j'),(48,j'),(51,r'),(52,s'),(12,r'),(13,s'),(53,h'),(54,b'),(55,b'),(56,P'),(57,S'),(58,c'),(59,c'),(60,V'),(61,Y'),(62,d'),(63,d'),(64,ab'),(65,ae'),(66,e'),(67,e'),(68,ah'),(69,ak'),(70,f'),(71,f'),(72,an'),(73,aq'),(74,at'),(75,v1),(76,k'),(77,v2),(78,l'),(14,k'),(15,l'),(79,k'),(80,aw'),(81,l'),(82,ax'),(83,a1'),(84,(Value.int IntKind.i64 0))]) av' (a0'+8) fun a2' t' u' v'=>exP a2' (mB ro K t' u' v') (fun a3'=>cO (Nat.beq a3' 0) (mB ro K t' u' v') (False)) (∃ ay',Sub ay' u'∧K (t' 6) ay' v')))
theorem aBp {ro:Ro}{v0 v1 v2:Value}{h:T Obj}{nx:Nat}{K:KV} (hw:zZ ro v0 v1 v2 h nx K):aN Tryz.prog ro wQ [v0,v1,v2] h nx K:=bA (P:=Tryz.prog) (fn:=Tryz.f5) (by kernel_rfl) (by kernel_rfl) (by kernel_rfl) (Eq.mpr (by kernel_rfl) hw)
end V
end Go.Proofs.YtcaccnneblghgaaGreat