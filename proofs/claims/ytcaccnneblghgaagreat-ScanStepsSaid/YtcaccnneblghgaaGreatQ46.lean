/- Texts laid one behind the other: SV, SW, YA, S1, S3, S4, S5, GT, S2, S6, S7, S8, S9, T0, T2, T3, TD, K1, K2, K3, K4, K5, K6, K7, K8, K9, KA, KB, KC, KD, KE, SS, G2, T4, TE, TW, G5.
   No condition. -/
import Derived.KernelRfl
import Derived.Test.YtcaccnneblghgaaGreatQ45
set_option linter.unusedVariables false
set_option linter.unusedSimpArgs false
namespace Go.Proofs.YtcaccnneblghgaaGreat
namespace V
attribute [local irreducible] aB ifP aR cS eQ exP cN
theorem sB:zG={ data:=#[115,116,97,114,116] }:=by decide
theorem rX:(ByteArray.empty:ByteArray)={ data:=#[] }:=rfl
theorem aEI (seen:List ByteArray) (s:ByteArray) (r:List ByteArray):xE seen (s::r)=(j9 s&&!(seen.any fun t=>decide (s=t))&&xE (seen++[s]) r):=rfl
section
variable {ro:Ro}{h:T Obj}{nx:Nat}{K:KV}
set_option maxRecDepth 8000 in
theorem aFE {x y:List Value}{T:TabD}{e:EntD}{i1:Nat} (hf:Fr h nx) (g1:h.get i1=some (.cells x.toArray dF)) (hd:aCq ro h x T) (hk:T.kinds.length≤1000000) (he:sG ro h y e)
  (hK:∀ nx',nx≤nx'→K (.bool (!lL T.kinds.length e)) h nx'):aN Tryz.prog ro uO [.agg y.toArray,ptr i1] h nx K:=by
 obtain⟨cv,kv,tv,ev,rfl,q1,q2,q3,q4,q5,q6,q7,q8⟩:=id hd
 apply aDq
 unfold aC4
 refine eF hf (Nat.le_refl _) fun h1 hs1 hf1 g2 _=>?_
 have g2:h1.get nx=some (.cells y.toArray cA):=g2
 have m1:[cv,kv,tv,ev][1]?=some kv:=rfl
 have g1':=hs1 _ _ g1
 have klen:=(q2.sub hs1 fun _ _ h=>h).len
 refine aA (dI (ro:=ro) (z:=0) (n:=260) (l:=y) g2 he.len) ?_
 (repeat(first|refine zzB ?_|apply aD|apply aE|with_reducible first|apply aG|apply aF|apply aK|apply aH|apply aJ|apply aI|apply aL|apply aC))
 refine aA (aZ g1' m1) (aA klen ?_)
 refine aJX hk (hf1.mono (by omega)) (he.sub hs1 |> fun z=>z) fun n2 hn2=>?_
 cases hb:lL T.kinds.length e with
 | true =>
  rw[hb] at hK
  (repeat(first|refine zzB ?_|apply aD|apply aE|with_reducible first|apply aG|apply aF|apply aK|apply aH|apply aJ|apply aI|apply aL|apply aC))
  exact⟨h,hs1,hK _ (by omega)⟩
 | false =>
  rw[hb] at hK
  (repeat(first|refine zzB ?_|apply aD|apply aE|with_reducible first|apply aG|apply aF|apply aK|apply aH|apply aJ|apply aI|apply aL|apply aC))
  exact⟨h,hs1,hK _ (by omega)⟩
set_option maxRecDepth 16000 in
set_option maxHeartbeats 4000000 in
theorem aHp {x:List Value}{T:TabD} (hf:Fr h nx) (hd:aCq ro h x T) (hK:∀ nx',nx≤nx'→K (.bool (fX T)) h nx'):aN Tryz.prog ro yD [.agg x.toArray] h nx K:=by
 obtain⟨cv,kv,tv,ev,rfl,q1,q2,q3,q4,q5,q6,q7,q8⟩:=id hd
 have q5:T.conds.length≤9223372036854775807:=q5
 have q6:T.kinds.length≤9223372036854775807:=q6
 have q7:T.to.length≤9223372036854775807:=q7
 have q8:T.entries.length≤9223372036854775807:=q8
 apply aG4
 unfold aFh
 refine eF hf (Nat.le_refl _) fun h1 hs1 hf1 g1 _=>?_
 have g1:h1.get nx=some (.cells [cv,kv,tv,ev].toArray dF):=g1
 have l0:=aZ (ro:=ro) (z:=0) g1 (show [cv,kv,tv,ev][0]?=some cv from rfl)
 have l1:=aZ (ro:=ro) (z:=0) g1 (show [cv,kv,tv,ev][1]?=some kv from rfl)
 have l2:=aZ (ro:=ro) (z:=0) g1 (show [cv,kv,tv,ev][2]?=some tv from rfl)
 have l3:=aZ (ro:=ro) (z:=0) g1 (show [cv,kv,tv,ev][3]?=some ev from rfl)
 have q1':=q1.sub hs1 fun _ _ h=>h
 have q2':=q2.sub hs1 fun _ _ h=>h
 have q3':=q3.sub hs1
 have q4':=q4.sub hs1 (sG.sub hs1)
 have hd1:=hd.sub hs1
 have clen:=q1'.len
 have klen:=q2'.len
 have tlen:=q3'.len
 rw[eP] at tlen
 have elen:=q4'.len
 have hno:fX T=false→∀ n',nx≤n'→∃ h9,Sub h9 h1∧K (.bool false) h9 n':=fun hz n' hn=>⟨h,hs1,by rw[← hz]; exact hK _ hn⟩
 by_cases c1:1≤T.conds.length
 case neg =>
  (repeat(first|refine aA (by simp (disch:=first|omega|exact nnN _|assumption) only [BB,B2,↓reduceIte,Nat.reduceLeDiff,Nat.reduceAdd,CC,l0,clen]<;>rfl) ?_|apply aD|apply aE|with_reducible first|apply aG|apply aF|apply aK|apply aH|apply aJ|apply aI|apply aL|apply aC))
  exact hno (by unfold fX; rw[decide_eq_false c1]; rfl) _ (by omega)
 by_cases c2:T.conds.length≤8
 case neg =>
  (repeat(first|refine aA (by simp (disch:=first|omega|exact nnN _|assumption) only [BB,B2,↓reduceIte,Nat.reduceLeDiff,Nat.reduceAdd,CC,l0,clen]<;>rfl) ?_|apply aD|apply aE|with_reducible first|apply aG|apply aF|apply aK|apply aH|apply aJ|apply aI|apply aL|apply aC))
  exact hno (by unfold fX; rw[decide_eq_true c1,decide_eq_false c2]; rfl) _ (by omega)
 have hix0:=q1'.ix .i64 (i:=0) (by omega)
 have hz0:((0:Nat):Int)=0:=rfl
 rw[hz0] at hix0
 obtain⟨hld0,_⟩:=zZ.load q1' (i:=0) (by omega)
 have hsb:=zI T.conds[0] zG
 have hhd:T.conds.head?=some T.conds[0]:=by rw[List.head?_eq_getElem?,List.getElem?_eq_getElem (by omega)]
 rw[sB] at hsb
 by_cases c3:T.conds[0]=zG
 case neg =>
  have c3':=c3
  rw[sB] at c3'
  rw[decide_eq_false c3',Bool.not_false] at hsb
  (repeat(first|refine aA (by simp (disch:=first|omega|exact nnN _|assumption) only [BB,B2,↓reduceIte,Nat.reduceLeDiff,Nat.reduceAdd,CC,l0,clen,hix0,hld0,hsb]<;>rfl) ?_|apply aD|apply aE|with_reducible first|apply aG|apply aF|apply aK|apply aH|apply aJ|apply aI|apply aL|apply aC))
  exact hno (by unfold fX; rw[decide_eq_true c1,decide_eq_true c2,hhd,decide_eq_false (fun e=>c3 (Option.some.inj e))]; rfl) _ (by omega)
 have c3':=c3
 rw[sB] at c3'
 rw[decide_eq_true c3',Bool.not_true] at hsb
 have hr3:decide (T.conds.head?=some zG)=true:=decide_eq_true (by rw[hhd,c3])
 by_cases c4:T.kinds.length≤64
 case neg =>
  (repeat(first|refine aA (by simp (disch:=first|omega|exact nnN _|assumption) only [BB,B2,↓reduceIte,Nat.reduceLeDiff,Nat.reduceAdd,CC,l0,l1,clen,klen,hix0,hld0,hsb]<;>rfl) ?_|apply aD|apply aE|with_reducible first|apply aG|apply aF|apply aK|apply aH|apply aJ|apply aI|apply aL|apply aC))
  exact hno (by unfold fX; rw[decide_eq_true c1,decide_eq_true c2,hr3,decide_eq_false c4]; rfl) _ (by omega)
 by_cases c5:T.to.length=T.kinds.length
 case neg =>
  (repeat(first|refine aA (by simp (disch:=first|omega|exact nnN _|assumption) only [BB,B2,↓reduceIte,Nat.reduceLeDiff,Nat.reduceAdd,CC,l0,l1,l2,clen,klen,tlen,hix0,hld0,hsb]<;>rfl) ?_|apply aD|apply aE|with_reducible first|apply aG|apply aF|apply aK|apply aH|apply aJ|apply aI|apply aL|apply aC))
  exact hno (by unfold fX; rw[decide_eq_true c1,decide_eq_true c2,hr3,decide_eq_true c4,decide_eq_false c5]; rfl) _ (by omega)
 by_cases c6:T.entries.length=2*T.conds.length
 case neg =>
  (repeat(first|refine aA (by simp (disch:=first|omega|exact nnN _|assumption) only [BB,B2,↓reduceIte,Nat.reduceLeDiff,Nat.reduceAdd,CC,l0,l1,l2,l3,clen,klen,tlen,elen,hix0,hld0,hsb]<;>rfl) ?_|apply aD|apply aE|with_reducible first|apply aG|apply aF|apply aK|apply aH|apply aJ|apply aI|apply aL|apply aC))
  exact hno (by unfold fX; rw[decide_eq_true c1,decide_eq_true c2,hr3,decide_eq_true c4,decide_eq_true c5,decide_eq_false c6]; rfl) _ (by omega)
 have hrt:fX T=(xE [] T.conds&&((List.zip T.kinds T.to).all (fun x=>jS T.conds.length x.1 x.2)&&T.entries.all (lL T.kinds.length))):=by
  unfold fX
  rw[decide_eq_true c1,decide_eq_true c2,hr3,decide_eq_true c4,decide_eq_true c5,decide_eq_true c6]; rfl
 (repeat(first|refine aA (by simp (disch:=first|omega|exact nnN _|assumption) only [BB,B2,↓reduceIte,Nat.reduceLeDiff,Nat.reduceAdd,CC,l0,l1,l2,l3,clen,klen,tlen,elen,hix0,hld0,hsb]<;>rfl) ?_|apply aD|apply aE|with_reducible first|apply aG|apply aF|apply aK|apply aH|apply aJ|apply aI|apply aL|apply aC))
 refine a9 (fun j e h' nx'=>∃ (k:Nat),k+j=T.conds.length∧nx+1≤nx'∧h'=h1∧e 1=ptr nx∧e 50=cv∧e 51=.int .i64 T.conds.length∧e 52=.int .i64 k∧xE [] T.conds=xE (T.conds.take k) (T.conds.drop k)) ?_ (n:=T.conds.length)
  ⟨0,by omega,by omega,rfl,rfl,rfl,rfl,rfl,rfl⟩
 rintro j e h' nx' ⟨k,hj,hnx,rfl,e1,e50,e51,e52,hr⟩ Q' hq hx
 unfold aBR
 rw[e1,e50,e51,e52]
 refine dC (fun hk=>?_) (fun hk=>?_)
 ·have hk:k < T.conds.length:=by omega
  have hix:=q1'.ix .i64 hk
  obtain⟨hld,hsz⟩:=zZ.load q1' hk
  rw[bW hk,aEI] at hr
  have htk:T.conds.take (k+1)=T.conds.take k++[T.conds[k]]:=List.take_succ_eq_append_getElem hk
  have hfi:=aC3 (q:=fun t=>decide (T.conds[k]=t)) (l:=T.conds) (k:=0) (i:=k) (by omega) (List.getElem?_eq_getElem hk) (decide_eq_true rfl)
  rw[← htk] at hr
  generalize T.conds[k]=s at hr hld hsz hfi
  have hsz:s.size≤9223372036854775807:=hsz
  (repeat(first|refine aA (by simp (disch:=first|omega|exact nnN _|assumption) only [BB,B2,↓reduceIte,Nat.reduceLeDiff,Nat.reduceAdd,CC,hix,hld]<;>rfl) ?_|apply aD|apply aE|with_reducible first|apply aG|apply aF|apply aK|apply aH|apply aJ|apply aI|apply aL|apply aC))
  refine aA5 hsz fun n2 hn2=>?_
  cases hnm:j9 s with
  | false =>
   rw[hnm] at hr
   (repeat(first|refine zzB ?_|apply aD|apply aE|with_reducible first|apply aG|apply aF|apply aK|apply aH|apply aJ|apply aI|apply aL|apply aC))
   refine hx _ _ _ _ (fun e=>by cases e) (eW ?_)
   exact hno (by rw[hrt,hr]; rfl) _ (by omega)
  | true =>
   rw[hnm,Bool.true_and] at hr
   (repeat(first|refine aA (by simp (disch:=first|omega|exact nnN _|assumption) only [BB,B2,↓reduceIte,Nat.reduceLeDiff,Nat.reduceAdd,CC,l0]<;>rfl) ?_|apply aD|apply aE|with_reducible first|apply aG|apply aF|apply aK|apply aH|apply aJ|apply aI|apply aL|apply aC))
   refine aE9 (by omega) q1' fun n3 hn3=>?_
   generalize pD (fun t=>decide (s=t)) 0 T.conds=fi at hfi
   cases hct:(T.conds.take k).any (fun t=>decide (s=t)) with
   | true =>
    rw[hct,Bool.not_true] at hfi hr
    have hfi:=of_decide_eq_false hfi
    (repeat(first|refine zzB ?_|apply aD|apply aE|with_reducible first|apply aG|apply aF|apply aK|apply aH|apply aJ|apply aI|apply aL|apply aC))
    refine hx _ _ _ _ (fun e=>by cases e) (eW ?_)
    exact hno (by rw[hrt,hr]; rfl) _ (by omega)
   | false =>
    rw[hct,Bool.not_false] at hfi hr
    have hfi:=of_decide_eq_true hfi
    (repeat(first|refine zzB ?_|apply aD|apply aE|with_reducible first|apply aG|apply aF|apply aK|apply aH|apply aJ|apply aI|apply aL|apply aC))
    exact hq (j - 1) _ _ _ _ (by omega) ⟨k+1,by omega,by omega,rfl,e1,e50,e51,rfl,hr⟩ (Sub.refl _)
 ·have hr1:xE [] T.conds=true:=by rw[hr,List.drop_of_length_le (by omega)]; rfl
  rw[hr1,Bool.true_and] at hrt
  (repeat(first|refine zzB ?_|apply aD|apply aE|with_reducible first|apply aG|apply aF|apply aK|apply aH|apply aJ|apply aI|apply aL|apply aC))
  refine hx _ _ _ _ (fun e=>by cases e) (eA (cR ?_))
  have hj1:∀ (ev1:Env) n',nx+1≤n'→ev1 1=ptr nx→rH ro K ev1 h' n':=by
   intro ev1 n' hn f1
   unfold rH
   rw[f1]
   (repeat(first|refine aA (by simp (disch:=first|omega|exact nnN _|assumption) only [BB,B2,↓reduceIte,Nat.reduceLeDiff,Nat.reduceAdd,CC,l1,klen]<;>rfl) ?_|apply aD|apply aE|with_reducible first|apply aG|apply aF|apply aK|apply aH|apply aJ|apply aI|apply aL|apply aC))
   refine a9 (fun j e h2 nx2=>∃ (k:Nat),k+j=T.kinds.length∧nx+1≤nx2∧h2=h'∧e 1=ptr nx∧e 70=kv∧e 71=.int .i64 T.kinds.length∧e 72=.int .i64 k∧(List.zip T.kinds T.to).all (fun x=>jS T.conds.length x.1 x.2)=((List.zip T.kinds T.to).drop k).all (fun x=>jS T.conds.length x.1 x.2)) ?_ (n:=T.kinds.length)
    ⟨0,by omega,by omega,rfl,f1,rfl,rfl,rfl,rfl⟩
   rintro j2 e2 h2 nx2 ⟨k2,hj2,hnx2,rfl,f1,f70,f71,f72,hr2⟩ Q2 hq2 hx2
   unfold aBQ
   rw[f1,f70,f71,f72]
   refine dC (fun hk2=>?_) (fun hk2=>?_)
   ·have hk2:k2 < T.kinds.length:=by omega
    have hkt:k2 < T.to.length:=by omega
    have hix:=q2'.ix .i64 hk2
    obtain⟨hld,hsz⟩:=zZ.load q2' hk2
    have tix:=q3'.ix .i64 (i:=k2) (by rw[eP]; exact hkt)
    have tld:=q3'.load1 (j7 (l:=T.to) (i:=k2) hkt)
    have hzl:k2 < (List.zip T.kinds T.to).length:=by rw[List.length_zip]; omega
    rw[bW hzl,List.all_cons,List.getElem_zip] at hr2
    generalize T.kinds[k2]=s at hr2 hld hsz
    generalize T.to[k2]=t at hr2 tld
    have hsz:s.size≤9223372036854775807:=hsz
    have hse:=zI s .empty
    rw[rX] at hse
    have hbad:jS T.conds.length s t=false→∀ n',nx≤n'→∃ h9,Sub h9 h2∧K (.bool false) h9 n':=fun hz n' hn=>hno (by rw[hrt,hr2,hz]; rfl) n' hn
    have hgo:jS T.conds.length s t=true→∀ (e9:Env) n9,nx+1≤n9→e9 1=ptr nx→e9 70=kv→e9 71=.int .i64 T.kinds.length→e9 72=.int .i64 ((k2:Int)+1)→Q2 .normal e9 h2 n9:=by
     intro hz e9 n9 hn9 u1 u70 u71 u72
     rw[hz,Bool.true_and] at hr2
     exact hq2 (j2 - 1) _ _ _ _ (by omega) ⟨k2+1,by omega,by omega,rfl,u1,u70,u71,u72,hr2⟩ (Sub.refl _)
    by_cases hs0:s=.empty
    ·have hs0':=hs0
     rw[rX] at hs0'
     rw[decide_eq_true hs0',Bool.not_true] at hse
     (repeat(first|refine aA (by simp (disch:=first|omega|exact nnN _|assumption) only [BB,B2,↓reduceIte,Nat.reduceLeDiff,Nat.reduceAdd,CC,hix,hld,hse]<;>rfl) ?_|apply aD|apply aE|with_reducible first|apply aG|apply aF|apply aK|apply aH|apply aJ|apply aI|apply aL|apply aC))
     by_cases d1:t < -1
     ·(repeat(first|refine aA (by simp (disch:=first|omega|exact nnN _|assumption) only [BB,B2,↓reduceIte,Nat.reduceLeDiff,Nat.reduceAdd,CC,l2,tix,tld]<;>rfl) ?_|apply aD|apply aE|with_reducible first|apply aG|apply aF|apply aK|apply aH|apply aJ|apply aI|apply aL|apply aC))
      refine hx2 _ _ _ _ (fun e=>by cases e) (eW ?_)
      exact hbad (by unfold jS; rw[decide_eq_false (show ¬-1≤t by omega)]; simp) _ (by omega)
     ·by_cases d2:(T.conds.length:Int)≤t
      ·(repeat(first|refine aA (by simp (disch:=first|omega|exact nnN _|assumption) only [BB,B2,↓reduceIte,Nat.reduceLeDiff,Nat.reduceAdd,CC,l2,tix,tld,l0,clen]<;>rfl) ?_|apply aD|apply aE|with_reducible first|apply aG|apply aF|apply aK|apply aH|apply aJ|apply aI|apply aL|apply aC))
       refine hx2 _ _ _ _ (fun e=>by cases e) (eW ?_)
       exact hbad (by unfold jS; rw[decide_eq_false (show ¬t < (T.conds.length:Int) by omega)]; simp) _ (by omega)
      ·(repeat(first|refine aA (by simp (disch:=first|omega|exact nnN _|assumption) only [BB,B2,↓reduceIte,Nat.reduceLeDiff,Nat.reduceAdd,CC,l2,tix,tld,l0,clen]<;>rfl) ?_|apply aD|apply aE|with_reducible first|apply aG|apply aF|apply aK|apply aH|apply aJ|apply aI|apply aL|apply aC))
       exact hgo (by unfold jS; rw[decide_eq_true hs0,decide_eq_true (show -1≤t by omega),decide_eq_true (show t < (T.conds.length:Int) by omega)]; simp) _ _ (by omega) f1 f70 f71 rfl
    ·have hs0':=hs0
     rw[rX] at hs0'
     rw[decide_eq_false hs0',Bool.not_false] at hse
     (repeat(first|refine aA (by simp (disch:=first|omega|exact nnN _|assumption) only [BB,B2,↓reduceIte,Nat.reduceLeDiff,Nat.reduceAdd,CC,hix,hld,hse]<;>rfl) ?_|apply aD|apply aE|with_reducible first|apply aG|apply aF|apply aK|apply aH|apply aJ|apply aI|apply aL|apply aC))
     refine aA5 hsz fun n2 hn2=>?_
     cases hnm:j9 s with
     | false =>
      (repeat(first|refine zzB ?_|apply aD|apply aE|with_reducible first|apply aG|apply aF|apply aK|apply aH|apply aJ|apply aI|apply aL|apply aC))
      refine hx2 _ _ _ _ (fun e=>by cases e) (eW ?_)
      exact hbad (by unfold jS; rw[decide_eq_false hs0,hnm]; rfl) _ (by omega)
     | true =>
      (repeat(first|refine zzB ?_|apply aD|apply aE|with_reducible first|apply aG|apply aF|apply aK|apply aH|apply aJ|apply aI|apply aL|apply aC))
      by_cases d1:t < -1
      ·(repeat(first|refine aA (by simp (disch:=first|omega|exact nnN _|assumption) only [BB,B2,↓reduceIte,Nat.reduceLeDiff,Nat.reduceAdd,CC,l2,tix,tld]<;>rfl) ?_|apply aD|apply aE|with_reducible first|apply aG|apply aF|apply aK|apply aH|apply aJ|apply aI|apply aL|apply aC))
       refine hx2 _ _ _ _ (fun e=>by cases e) (eW ?_)
       exact hbad (by unfold jS; rw[decide_eq_false (show ¬-1≤t by omega)]; simp) _ (by omega)
      ·by_cases d2:(T.conds.length:Int)≤t
       ·(repeat(first|refine aA (by simp (disch:=first|omega|exact nnN _|assumption) only [BB,B2,↓reduceIte,Nat.reduceLeDiff,Nat.reduceAdd,CC,l2,tix,tld,l0,clen]<;>rfl) ?_|apply aD|apply aE|with_reducible first|apply aG|apply aF|apply aK|apply aH|apply aJ|apply aI|apply aL|apply aC))
        refine hx2 _ _ _ _ (fun e=>by cases e) (eW ?_)
        exact hbad (by unfold jS; rw[decide_eq_false (show ¬t < (T.conds.length:Int) by omega)]; simp) _ (by omega)
       ·(repeat(first|refine aA (by simp (disch:=first|omega|exact nnN _|assumption) only [BB,B2,↓reduceIte,Nat.reduceLeDiff,Nat.reduceAdd,CC,l2,tix,tld,l0,clen]<;>rfl) ?_|apply aD|apply aE|with_reducible first|apply aG|apply aF|apply aK|apply aH|apply aJ|apply aI|apply aL|apply aC))
        exact hgo (by unfold jS; rw[hnm,decide_eq_true (show -1≤t by omega),decide_eq_true (show t < (T.conds.length:Int) by omega)]; simp) _ _ (by omega) f1 f70 f71 rfl
   ·have hall:(List.zip T.kinds T.to).all (fun x=>jS T.conds.length x.1 x.2)=true:=by rw[hr2,List.drop_of_length_le (by rw[List.length_zip]; omega)]; rfl
    rw[hall,Bool.true_and] at hrt
    (repeat(first|refine zzB ?_|apply aD|apply aE|with_reducible first|apply aG|apply aF|apply aK|apply aH|apply aJ|apply aI|apply aL|apply aC))
    refine hx2 _ _ _ _ (fun e=>by cases e) (eA (cR ?_))
    have hj2:∀ (ev2:Env) n',nx+1≤n'→ev2 1=ptr nx→rI ro K ev2 h2 n':=by
     intro ev2 n' hn f1
     unfold rI
     rw[f1]
     (repeat(first|refine zzB ?_|apply aD|apply aE|with_reducible first|apply aG|apply aF|apply aK|apply aH|apply aJ|apply aI|apply aL|apply aC))
     refine aA l3 ?_
     refine x6 (q:=fun e=>!lL T.kinds.length e) (by omega) q4' (fun i hi y n9 K9 hy hn9 hk9=>?_) fun n9 hn9=>?_
     ·exact aFE (hf1.mono (by omega)) g1 hd1 (by omega) hy hk9
     ·have ha:=aGK (lL T.kinds.length) T.entries
      rw[hrt,← ha] at hK
      (repeat(first|refine zzB ?_|apply aD|apply aE|with_reducible first|apply aG|apply aF|apply aK|apply aH|apply aJ|apply aI|apply aL|apply aC))
      exact⟨h,hs1,hK _ (by omega)⟩
    exact hj2 _ _ (by omega) f1
  exact hj1 _ _ (by omega) e1
end
end V
end Go.Proofs.YtcaccnneblghgaaGreat
namespace Go.Proofs.YtcaccnneblghgaaGreat
namespace V
attribute [local irreducible] aB ifP aR cS eQ exP cN
section
variable {ro:Ro}{h:T Obj}{nx:Nat}{K:KV}
set_option maxRecDepth 16000 in
set_option maxHeartbeats 4000000 in
theorem aFU {x:List Value}{T:TabD} (hf:Fr h nx) (hd:aCq ro h x T) (hK:∀ nx',nx≤nx'→K (.bool (fX T)) h nx'):aN Tryz.prog ro uW [.agg x.toArray] h nx K:=by
 obtain⟨cv,kv,tv,ev,rfl,q1,q2,q3,q4,q5,q6,q7,q8⟩:=id hd
 have q5:T.conds.length≤9223372036854775807:=q5
 have q6:T.kinds.length≤9223372036854775807:=q6
 have q7:T.to.length≤9223372036854775807:=q7
 have q8:T.entries.length≤9223372036854775807:=q8
 apply aE1
 unfold aCl
 refine eF hf (Nat.le_refl _) fun h1 hs1 hf1 g1 _=>?_
 have g1:h1.get nx=some (.cells [cv,kv,tv,ev].toArray dF):=g1
 have l0:=aZ (ro:=ro) (z:=0) g1 (show [cv,kv,tv,ev][0]?=some cv from rfl)
 have l1:=aZ (ro:=ro) (z:=0) g1 (show [cv,kv,tv,ev][1]?=some kv from rfl)
 have l2:=aZ (ro:=ro) (z:=0) g1 (show [cv,kv,tv,ev][2]?=some tv from rfl)
 have l3:=aZ (ro:=ro) (z:=0) g1 (show [cv,kv,tv,ev][3]?=some ev from rfl)
 have q1':=q1.sub hs1 fun _ _ h=>h
 have q2':=q2.sub hs1 fun _ _ h=>h
 have q3':=q3.sub hs1
 have q4':=q4.sub hs1 (sG.sub hs1)
 have hd1:=hd.sub hs1
 have clen:=q1'.len
 have klen:=q2'.len
 have tlen:=q3'.len
 rw[eP] at tlen
 have elen:=q4'.len
 have hno:fX T=false→∀ n',nx≤n'→∃ h9,Sub h9 h1∧K (.bool false) h9 n':=fun hz n' hn=>⟨h,hs1,by rw[← hz]; exact hK _ hn⟩
 by_cases c1:1≤T.conds.length
 case neg =>
  (repeat(first|refine aA (by simp (disch:=first|omega|exact nnN _|assumption) only [BB,B2,↓reduceIte,Nat.reduceLeDiff,Nat.reduceAdd,CC,l0,clen]<;>rfl) ?_|apply aD|apply aE|with_reducible first|apply aG|apply aF|apply aK|apply aH|apply aJ|apply aI|apply aL|apply aC))
  exact hno (by unfold fX; rw[decide_eq_false c1]; rfl) _ (by omega)
 by_cases c2:T.conds.length≤8
 case neg =>
  (repeat(first|refine aA (by simp (disch:=first|omega|exact nnN _|assumption) only [BB,B2,↓reduceIte,Nat.reduceLeDiff,Nat.reduceAdd,CC,l0,clen]<;>rfl) ?_|apply aD|apply aE|with_reducible first|apply aG|apply aF|apply aK|apply aH|apply aJ|apply aI|apply aL|apply aC))
  exact hno (by unfold fX; rw[decide_eq_true c1,decide_eq_false c2]; rfl) _ (by omega)
 have hix0:=q1'.ix .i64 (i:=0) (by omega)
 have hz0:((0:Nat):Int)=0:=rfl
 rw[hz0] at hix0
 obtain⟨hld0,_⟩:=zZ.load q1' (i:=0) (by omega)
 have hsb:=zI T.conds[0] zG
 have hhd:T.conds.head?=some T.conds[0]:=by rw[List.head?_eq_getElem?,List.getElem?_eq_getElem (by omega)]
 rw[sB] at hsb
 by_cases c3:T.conds[0]=zG
 case neg =>
  have c3':=c3
  rw[sB] at c3'
  rw[decide_eq_false c3',Bool.not_false] at hsb
  (repeat(first|refine aA (by simp (disch:=first|omega|exact nnN _|assumption) only [BB,B2,↓reduceIte,Nat.reduceLeDiff,Nat.reduceAdd,CC,l0,clen,hix0,hld0,hsb]<;>rfl) ?_|apply aD|apply aE|with_reducible first|apply aG|apply aF|apply aK|apply aH|apply aJ|apply aI|apply aL|apply aC))
  exact hno (by unfold fX; rw[decide_eq_true c1,decide_eq_true c2,hhd,decide_eq_false (fun e=>c3 (Option.some.inj e))]; rfl) _ (by omega)
 have c3':=c3
 rw[sB] at c3'
 rw[decide_eq_true c3',Bool.not_true] at hsb
 have hr3:decide (T.conds.head?=some zG)=true:=decide_eq_true (by rw[hhd,c3])
 by_cases c4:T.kinds.length≤64
 case neg =>
  (repeat(first|refine aA (by simp (disch:=first|omega|exact nnN _|assumption) only [BB,B2,↓reduceIte,Nat.reduceLeDiff,Nat.reduceAdd,CC,l0,l1,clen,klen,hix0,hld0,hsb]<;>rfl) ?_|apply aD|apply aE|with_reducible first|apply aG|apply aF|apply aK|apply aH|apply aJ|apply aI|apply aL|apply aC))
  exact hno (by unfold fX; rw[decide_eq_true c1,decide_eq_true c2,hr3,decide_eq_false c4]; rfl) _ (by omega)
 by_cases c5:T.to.length=T.kinds.length
 case neg =>
  (repeat(first|refine aA (by simp (disch:=first|omega|exact nnN _|assumption) only [BB,B2,↓reduceIte,Nat.reduceLeDiff,Nat.reduceAdd,CC,l0,l1,l2,clen,klen,tlen,hix0,hld0,hsb]<;>rfl) ?_|apply aD|apply aE|with_reducible first|apply aG|apply aF|apply aK|apply aH|apply aJ|apply aI|apply aL|apply aC))
  exact hno (by unfold fX; rw[decide_eq_true c1,decide_eq_true c2,hr3,decide_eq_true c4,decide_eq_false c5]; rfl) _ (by omega)
 by_cases c6:T.entries.length=2*T.conds.length
 case neg =>
  (repeat(first|refine aA (by simp (disch:=first|omega|exact nnN _|assumption) only [BB,B2,↓reduceIte,Nat.reduceLeDiff,Nat.reduceAdd,CC,l0,l1,l2,l3,clen,klen,tlen,elen,hix0,hld0,hsb]<;>rfl) ?_|apply aD|apply aE|with_reducible first|apply aG|apply aF|apply aK|apply aH|apply aJ|apply aI|apply aL|apply aC))
  exact hno (by unfold fX; rw[decide_eq_true c1,decide_eq_true c2,hr3,decide_eq_true c4,decide_eq_true c5,decide_eq_false c6]; rfl) _ (by omega)
 have hrt:fX T=(xE [] T.conds&&((List.zip T.kinds T.to).all (fun x=>jS T.conds.length x.1 x.2)&&T.entries.all (lL T.kinds.length))):=by
  unfold fX
  rw[decide_eq_true c1,decide_eq_true c2,hr3,decide_eq_true c4,decide_eq_true c5,decide_eq_true c6]; rfl
 (repeat(first|refine aA (by simp (disch:=first|omega|exact nnN _|assumption) only [BB,B2,↓reduceIte,Nat.reduceLeDiff,Nat.reduceAdd,CC,l0,l1,l2,l3,clen,klen,tlen,elen,hix0,hld0,hsb]<;>rfl) ?_|apply aD|apply aE|with_reducible first|apply aG|apply aF|apply aK|apply aH|apply aJ|apply aI|apply aL|apply aC))
 refine a9 (fun j e h' nx'=>∃ (k:Nat),k+j=T.conds.length∧nx+1≤nx'∧h'=h1∧e 1=ptr nx∧e 3=.int .i64 k∧xE [] T.conds=xE (T.conds.take k) (T.conds.drop k)) ?_ (n:=T.conds.length)
  ⟨0,by omega,by omega,rfl,rfl,rfl,rfl⟩
 rintro j e h' nx' ⟨k,hj,hnx,rfl,e1,e3,hr⟩ Q' hq hx
 unfold y6
 rw[e1,e3]
 (repeat(first|refine aA (by simp (disch:=first|omega|exact nnN _|assumption) only [BB,B2,↓reduceIte,Nat.reduceLeDiff,Nat.reduceAdd,CC,l0,clen]<;>rfl) ?_|apply aD|apply aE|with_reducible first|apply aG|apply aF|apply aK|apply aH|apply aJ|apply aI|apply aL|apply aC))
 refine dC (fun hk=>?_) (fun hk=>?_)
 ·have hk:k < T.conds.length:=by omega
  have hix:=q1'.ix .i64 hk
  obtain⟨hld,hsz⟩:=zZ.load q1' hk
  rw[bW hk,aEI] at hr
  have htk:T.conds.take (k+1)=T.conds.take k++[T.conds[k]]:=List.take_succ_eq_append_getElem hk
  rw[← htk] at hr
  generalize hsk:T.conds[k]=s at hr hld hsz
  have hsz:s.size≤9223372036854775807:=hsz
  (repeat(first|refine aA (by simp (disch:=first|omega|exact nnN _|assumption) only [BB,B2,↓reduceIte,Nat.reduceLeDiff,Nat.reduceAdd,CC,l0,hix,hld]<;>rfl) ?_|apply aD|apply aE|with_reducible first|apply aG|apply aF|apply aK|apply aH|apply aJ|apply aI|apply aL|apply aC))
  refine aB9 hsz fun n2 hn2=>?_
  cases hnm:j9 s with
  | false =>
   rw[hnm] at hr
   (repeat(first|refine zzB ?_|apply aD|apply aE|with_reducible first|apply aG|apply aF|apply aK|apply aH|apply aJ|apply aI|apply aL|apply aC))
   refine hx _ _ _ _ (fun e=>by cases e) (eW ?_)
   exact hno (by rw[hrt,hr]; rfl) _ (by omega)
  | true =>
   rw[hnm,Bool.true_and] at hr
   (repeat(first|refine zzB ?_|apply aD|apply aE|with_reducible first|apply aG|apply aF|apply aK|apply aH|apply aJ|apply aI|apply aL|apply aC))
   generalize hBq:(T.conds.take k).any (fun t=>decide (s=t))=Bq at hr
   refine a9 (fun j3 e9 h3 nx3=>∃ (m:Nat),m+j3=k∧nx+1≤nx3∧h3=h'∧e9 1=ptr nx∧e9 3=.int .i64 k∧e9 4=.int .i64 m∧((T.conds.take k).drop m).any (fun t=>decide (s=t))=Bq) ?_ (n:=k)
    ⟨0,by omega,by omega,rfl,e1,e3,rfl,hBq⟩
   rintro j3 e9 h3 nx3 ⟨m,hj3,hnx3,rfl,f1,f3,f4,hr3⟩ Q3 hq3 hx3
   unfold y7
   rw[f1,f3,f4]
   refine dC (fun hm=>?_) (fun hm=>?_)
   ·have hm:m < k:=by omega
    have hmc:m < T.conds.length:=by omega
    have hixm:=q1'.ix .i64 hmc
    obtain⟨hldm,_⟩:=zZ.load q1' hmc
    have hmt:m < (T.conds.take k).length:=by rw[List.length_take]; omega
    rw[bW hmt,List.any_cons,List.getElem_take] at hr3
    generalize T.conds[m]=t at hr3 hldm
    have hse:=aIv t s
    by_cases hts:s=t
    ·rw[decide_eq_true hts,Bool.true_or] at hr3
     rw[decide_eq_true hts.symm] at hse
     (repeat(first|refine aA (by simp (disch:=first|omega|exact nnN _|assumption) only [BB,B2,↓reduceIte,Nat.reduceLeDiff,Nat.reduceAdd,CC,l0,hix,hld,hixm,hldm,hse]<;>rfl) ?_|apply aD|apply aE|with_reducible first|apply aG|apply aF|apply aK|apply aH|apply aJ|apply aI|apply aL|apply aC))
     refine hx3 _ _ _ _ (fun e=>by cases e) (eW ?_)
     refine hx _ _ _ _ (fun e=>by cases e) (eW ?_)
     exact hno (by rw[hrt,hr,← hr3]; rfl) _ (by omega)
    ·rw[decide_eq_false hts,Bool.false_or] at hr3
     rw[decide_eq_false (fun e=>hts e.symm)] at hse
     (repeat(first|refine aA (by simp (disch:=first|omega|exact nnN _|assumption) only [BB,B2,↓reduceIte,Nat.reduceLeDiff,Nat.reduceAdd,CC,l0,hix,hld,hixm,hldm,hse]<;>rfl) ?_|apply aD|apply aE|with_reducible first|apply aG|apply aF|apply aK|apply aH|apply aJ|apply aI|apply aL|apply aC))
     exact hq3 (j3 - 1) _ _ _ _ (by omega) ⟨m+1,by omega,by omega,rfl,f1,f3,rfl,hr3⟩ (Sub.refl _)
   ·have hb:Bq=false:=by rw[← hr3,List.drop_of_length_le (by rw[List.length_take]; omega)]; rfl
    rw[hb,Bool.not_false,Bool.true_and] at hr
    (repeat(first|refine zzB ?_|apply aD|apply aE|with_reducible first|apply aG|apply aF|apply aK|apply aH|apply aJ|apply aI|apply aL|apply aC))
    refine hx3 _ _ _ _ (fun e=>by cases e) (eA (cR ?_))
    have hj4:∀ (e9:Env) n9,nx+1≤n9→e9 1=ptr nx→e9 3=.int .i64 k→lU ro Q' e9 h3 n9:=by
     intro e9 n9 hn9 f1 f3
     unfold lU
     rw[f3]
     (repeat(first|refine zzB ?_|apply aD|apply aE|with_reducible first|apply aG|apply aF|apply aK|apply aH|apply aJ|apply aI|apply aL|apply aC))
     exact hq (j - 1) _ _ _ _ (by omega) ⟨k+1,by omega,by omega,rfl,f1,rfl,hr⟩ (Sub.refl _)
    exact hj4 _ _ (by omega) f1 f3
 ·have hr1:xE [] T.conds=true:=by rw[hr,List.drop_of_length_le (by omega)]; rfl
  rw[hr1,Bool.true_and] at hrt
  (repeat(first|refine zzB ?_|apply aD|apply aE|with_reducible first|apply aG|apply aF|apply aK|apply aH|apply aJ|apply aI|apply aL|apply aC))
  refine hx _ _ _ _ (fun e=>by cases e) (eA (cR ?_))
  have hj1:∀ (ev1:Env) n',nx+1≤n'→ev1 1=ptr nx→oR ro K ev1 h' n':=by
   intro ev1 n' hn f1
   unfold oR
   refine a9 (fun j e h2 nx2=>∃ (k:Nat),k+j=T.kinds.length∧nx+1≤nx2∧h2=h'∧e 1=ptr nx∧e 5=.int .i64 k∧(List.zip T.kinds T.to).all (fun x=>jS T.conds.length x.1 x.2)=((List.zip T.kinds T.to).drop k).all (fun x=>jS T.conds.length x.1 x.2)) ?_ (n:=T.kinds.length)
    ⟨0,by omega,by omega,rfl,f1,rfl,rfl⟩
   rintro j2 e2 h2 nx2 ⟨k2,hj2,hnx2,rfl,f1,f5,hr2⟩ Q2 hq2 hx2
   unfold y0
   rw[f1,f5]
   (repeat(first|refine aA (by simp (disch:=first|omega|exact nnN _|assumption) only [BB,B2,↓reduceIte,Nat.reduceLeDiff,Nat.reduceAdd,CC,l1,klen]<;>rfl) ?_|apply aD|apply aE|with_reducible first|apply aG|apply aF|apply aK|apply aH|apply aJ|apply aI|apply aL|apply aC))
   refine dC (fun hk2=>?_) (fun hk2=>?_)
   ·have hk2:k2 < T.kinds.length:=by omega
    have hkt:k2 < T.to.length:=by omega
    have hix:=q2'.ix .i64 hk2
    obtain⟨hld,hsz⟩:=zZ.load q2' hk2
    have tix:=q3'.ix .i64 (i:=k2) (by rw[eP]; exact hkt)
    have tld:=q3'.load1 (j7 (l:=T.to) (i:=k2) hkt)
    have hzl:k2 < (List.zip T.kinds T.to).length:=by rw[List.length_zip]; omega
    rw[bW hzl,List.all_cons,List.getElem_zip] at hr2
    generalize T.kinds[k2]=s at hr2 hld hsz
    generalize T.to[k2]=t at hr2 tld
    have hsz:s.size≤9223372036854775807:=hsz
    have hse:=zI s .empty
    rw[rX] at hse
    have hbad:jS T.conds.length s t=false→∀ n',nx≤n'→∃ h9,Sub h9 h2∧K (.bool false) h9 n':=fun hz n' hn=>hno (by rw[hrt,hr2,hz]; rfl) n' hn
    have hgo:jS T.conds.length s t=true→∀ (e9:Env) n9,nx+1≤n9→e9 1=ptr nx→e9 5=.int .i64 ((k2:Int)+1)→Q2 .normal e9 h2 n9:=by
     intro hz e9 n9 hn9 u1 u72
     rw[hz,Bool.true_and] at hr2
     exact hq2 (j2 - 1) _ _ _ _ (by omega) ⟨k2+1,by omega,by omega,rfl,u1,u72,hr2⟩ (Sub.refl _)
    by_cases hs0:s=.empty
    ·have hs0':=hs0
     rw[rX] at hs0'
     rw[decide_eq_true hs0',Bool.not_true] at hse
     (repeat(first|refine aA (by simp (disch:=first|omega|exact nnN _|assumption) only [BB,B2,↓reduceIte,Nat.reduceLeDiff,Nat.reduceAdd,CC,l1,hix,hld,hse]<;>rfl) ?_|apply aD|apply aE|with_reducible first|apply aG|apply aF|apply aK|apply aH|apply aJ|apply aI|apply aL|apply aC))
     by_cases d1:t < -1
     ·(repeat(first|refine aA (by simp (disch:=first|omega|exact nnN _|assumption) only [BB,B2,↓reduceIte,Nat.reduceLeDiff,Nat.reduceAdd,CC,l2,tix,tld]<;>rfl) ?_|apply aD|apply aE|with_reducible first|apply aG|apply aF|apply aK|apply aH|apply aJ|apply aI|apply aL|apply aC))
      refine hx2 _ _ _ _ (fun e=>by cases e) (eW ?_)
      exact hbad (by unfold jS; rw[decide_eq_false (show ¬-1≤t by omega)]; simp) _ (by omega)
     ·by_cases d2:(T.conds.length:Int)≤t
      ·(repeat(first|refine aA (by simp (disch:=first|omega|exact nnN _|assumption) only [BB,B2,↓reduceIte,Nat.reduceLeDiff,Nat.reduceAdd,CC,l2,tix,tld,l0,clen]<;>rfl) ?_|apply aD|apply aE|with_reducible first|apply aG|apply aF|apply aK|apply aH|apply aJ|apply aI|apply aL|apply aC))
       refine hx2 _ _ _ _ (fun e=>by cases e) (eW ?_)
       exact hbad (by unfold jS; rw[decide_eq_false (show ¬t < (T.conds.length:Int) by omega)]; simp) _ (by omega)
      ·(repeat(first|refine aA (by simp (disch:=first|omega|exact nnN _|assumption) only [BB,B2,↓reduceIte,Nat.reduceLeDiff,Nat.reduceAdd,CC,l2,tix,tld,l0,clen]<;>rfl) ?_|apply aD|apply aE|with_reducible first|apply aG|apply aF|apply aK|apply aH|apply aJ|apply aI|apply aL|apply aC))
       exact hgo (by unfold jS; rw[decide_eq_true hs0,decide_eq_true (show -1≤t by omega),decide_eq_true (show t < (T.conds.length:Int) by omega)]; simp) _ _ (by omega) f1 rfl
    ·have hs0':=hs0
     rw[rX] at hs0'
     rw[decide_eq_false hs0',Bool.not_false] at hse
     (repeat(first|refine aA (by simp (disch:=first|omega|exact nnN _|assumption) only [BB,B2,↓reduceIte,Nat.reduceLeDiff,Nat.reduceAdd,CC,l1,hix,hld,hse]<;>rfl) ?_|apply aD|apply aE|with_reducible first|apply aG|apply aF|apply aK|apply aH|apply aJ|apply aI|apply aL|apply aC))
     refine aB9 hsz fun n2 hn2=>?_
     cases hnm:j9 s with
     | false =>
      (repeat(first|refine zzB ?_|apply aD|apply aE|with_reducible first|apply aG|apply aF|apply aK|apply aH|apply aJ|apply aI|apply aL|apply aC))
      refine hx2 _ _ _ _ (fun e=>by cases e) (eW ?_)
      exact hbad (by unfold jS; rw[decide_eq_false hs0,hnm]; rfl) _ (by omega)
     | true =>
      (repeat(first|refine zzB ?_|apply aD|apply aE|with_reducible first|apply aG|apply aF|apply aK|apply aH|apply aJ|apply aI|apply aL|apply aC))
      by_cases d1:t < -1
      ·(repeat(first|refine aA (by simp (disch:=first|omega|exact nnN _|assumption) only [BB,B2,↓reduceIte,Nat.reduceLeDiff,Nat.reduceAdd,CC,l2,tix,tld]<;>rfl) ?_|apply aD|apply aE|with_reducible first|apply aG|apply aF|apply aK|apply aH|apply aJ|apply aI|apply aL|apply aC))
       refine hx2 _ _ _ _ (fun e=>by cases e) (eW ?_)
       exact hbad (by unfold jS; rw[decide_eq_false (show ¬-1≤t by omega)]; simp) _ (by omega)
      ·by_cases d2:(T.conds.length:Int)≤t
       ·(repeat(first|refine aA (by simp (disch:=first|omega|exact nnN _|assumption) only [BB,B2,↓reduceIte,Nat.reduceLeDiff,Nat.reduceAdd,CC,l2,tix,tld,l0,clen]<;>rfl) ?_|apply aD|apply aE|with_reducible first|apply aG|apply aF|apply aK|apply aH|apply aJ|apply aI|apply aL|apply aC))
        refine hx2 _ _ _ _ (fun e=>by cases e) (eW ?_)
        exact hbad (by unfold jS; rw[decide_eq_false (show ¬t < (T.conds.length:Int) by omega)]; simp) _ (by omega)
       ·(repeat(first|refine aA (by simp (disch:=first|omega|exact nnN _|assumption) only [BB,B2,↓reduceIte,Nat.reduceLeDiff,Nat.reduceAdd,CC,l2,tix,tld,l0,clen]<;>rfl) ?_|apply aD|apply aE|with_reducible first|apply aG|apply aF|apply aK|apply aH|apply aJ|apply aI|apply aL|apply aC))
        exact hgo (by unfold jS; rw[hnm,decide_eq_true (show -1≤t by omega),decide_eq_true (show t < (T.conds.length:Int) by omega)]; simp) _ _ (by omega) f1 rfl
   ·have hall:(List.zip T.kinds T.to).all (fun x=>jS T.conds.length x.1 x.2)=true:=by rw[hr2,List.drop_of_length_le (by rw[List.length_zip]; omega)]; rfl
    rw[hall,Bool.true_and] at hrt
    (repeat(first|refine zzB ?_|apply aD|apply aE|with_reducible first|apply aG|apply aF|apply aK|apply aH|apply aJ|apply aI|apply aL|apply aC))
    refine hx2 _ _ _ _ (fun e=>by cases e) (eA (cR ?_))
    have hj2:∀ (ev2:Env) n',nx+1≤n'→ev2 1=ptr nx→oS ro K ev2 h2 n':=by
     intro ev2 n' hn f1
     unfold oS
     refine a9 (fun j e h4 nx4=>∃ (k:Nat),k+j=T.entries.length∧nx+1≤nx4∧h4=h2∧e 1=ptr nx∧e 6=.int .i64 k∧T.entries.all (lL T.kinds.length)=(T.entries.drop k).all (lL T.kinds.length)) ?_ (n:=T.entries.length)
      ⟨0,by omega,by omega,rfl,f1,rfl,rfl⟩
     rintro j4 e4 h4 nx4 ⟨k4,hj4,hnx4,rfl,f1,f6,hr4⟩ Q4 hq4 hx4
     unfold yZ
     rw[f1,f6]
     (repeat(first|refine zzB ?_|apply aD|apply aE|with_reducible first|apply aG|apply aF|apply aK|apply aH|apply aJ|apply aI|apply aL|apply aC))
     refine aA l3 (aA elen ?_)
     refine dC (fun hk4=>?_) (fun hk4=>?_)
     ·have hk4:k4 < T.entries.length:=by omega
      have eix:=q4'.ix .i64 hk4
      obtain⟨y,hy1,hy2,hy3,hy4,hy5⟩:=q4'.at hk4
      rw[bW hk4,List.all_cons] at hr4
      generalize T.entries[k4]=ee at hr4 hy1
      (repeat(first|refine aA (by simp (disch:=first|omega|exact nnN _|assumption) only [BB,B2,↓reduceIte,Nat.reduceLeDiff,Nat.reduceAdd,CC,l3,eix,hy3,l1,klen]<;>rfl) ?_|apply aD|apply aE|with_reducible first|apply aG|apply aF|apply aK|apply aH|apply aJ|apply aI|apply aL|apply aC))
      refine aGw (by omega) (hf1.mono (by omega)) hy1 fun n5 hn5=>?_
      cases hft:lL T.kinds.length ee with
      | false =>
       rw[hft] at hr4
       (repeat(first|refine zzB ?_|apply aD|apply aE|with_reducible first|apply aG|apply aF|apply aK|apply aH|apply aJ|apply aI|apply aL|apply aC))
       refine hx4 _ _ _ _ (fun e=>by cases e) (eW ?_)
       exact hno (by rw[hrt,hr4]; rfl) _ (by omega)
      | true =>
       rw[hft,Bool.true_and] at hr4
       (repeat(first|refine zzB ?_|apply aD|apply aE|with_reducible first|apply aG|apply aF|apply aK|apply aH|apply aJ|apply aI|apply aL|apply aC))
       exact hq4 (j4 - 1) _ _ _ _ (by omega) ⟨k4+1,by omega,by omega,rfl,f1,rfl,hr4⟩ (Sub.refl _)
     ·have hb:fX T=true:=by rw[hrt,hr4,List.drop_of_length_le (by omega)]; rfl
      (repeat(first|refine zzB ?_|apply aD|apply aE|with_reducible first|apply aG|apply aF|apply aK|apply aH|apply aJ|apply aI|apply aL|apply aC))
      refine hx4 _ _ _ _ (fun e=>by cases e) (eA (cR ?_))
      have hj3:∀ (e9:Env) n9,nx≤n9→oT ro K e9 h4 n9:=by
       intro e9 n9 hn9
       unfold oT
       refine⟨h,hs1,?_⟩
       rw[← hb]; exact hK _ (by omega)
      exact hj3 _ _ (by omega)
    exact hj2 _ _ (by omega) f1
  exact hj1 _ _ (by omega) e1
end
end V
end Go.Proofs.YtcaccnneblghgaaGreat
namespace Go.Proofs.YtcaccnneblghgaaGreat
namespace V
attribute [local irreducible] aB ifP aR cS eQ exP cN
def NI (RR:RgP) (tm tp te:TypeId) (hC:T Obj) (nC p:Nat) (c:List Nat) (many:Int) (cv sv:Value) (C:List (Int × Int)) (k:Nat) (h:T Obj) (nx:Nat) (ps:List (Nat × Nat)) (rv:Value):Prop :=
 h.get p=some (.cells (eB c many cv sv 0 rv 0).toArray tm)∧dU h rv 1 te (mY ps) nC∧ps.length=k∧RsX RR h ps (C.take k) (List.replicate k noR)∧Dst ps∧(∀ q∈jY ps,nC≤q)∧Sub hC h∧Fr h nx∧Fr hC nC∧nC≤p∧nC≤nx
section
variable {RR:RgP}{tm tp ta te:TypeId}{ro:Ro}{hC h h':T Obj}{nC p nx n1 n2 k:Nat}{c:List Nat}{many:Int}{cv sv rv:Value}{C:List (Int × Int)}{ps:List (Nat × Nat)}
theorem NI.mono {n':Nat} (hi:NI RR tm tp te hC nC p c many cv sv C k h nx ps rv) (hn:nx≤n'):NI RR tm tp te hC nC p c many cv sv C k h n' ps rv:=by
 obtain⟨g1,g2,g3,g4,g5,g6,g7,g8,g9,g10,g11⟩:=hi
 exact⟨g1,g2,g3,g4,g5,g6,g7,g8.mono hn,g9,g10,by omega⟩
theorem NI.sub {n':Nat} (hk:RgOk RR tp ta) (hi:NI RR tm tp te hC nC p c many cv sv C k h nx ps rv) (hs:Sub h h') (hf:Fr h' n') (hn:nx≤n'):NI RR tm tp te hC nC p c many cv sv C k h' n' ps rv:=by
 obtain⟨g1,g2,g3,g4,g5,g6,g7,g8,g9,g10,g11⟩:=hi
 exact⟨hs _ _ g1,g2.keepS hs,g3,g4.sub hk hs,g5,g6,g7.trans hs,hf,g9,g10,by omega⟩
theorem NI.step {q:Nat × Nat}{cc:Int × Int}{rv2:Value}{lo:Nat} (hk:RgOk RR tp ta) (e1:tp≠te) (e2:ta≠te) (e3:tm≠tp) (e4:tm≠ta) (e5:tm≠te) (hi:NI RR tm tp te hC nC p c many cv sv C k h nx ps rv) (hcl:c.length=256) (hc:C[k]?=some cc) (hR:RR h q.1 q.2 cc.2.toNat [] 0) (hq1:∀ r∈ps,r.1 < q.1∧r.2 < q.2) (hq2:nC≤q.1∧nC≤q.2) (hn1:n1≠p∧(∀ r∈ps++[q],r.1≠n1∧r.2≠n1)∧nC≤n1)
  (ho:dU h' rv2 1 te (mY ps++[[ptr q.1]]) nC) (hsb:i3 rv2=some n2) (hn2:nx≤n2) (hg:∀ k o,h.get k=some o→k≠n1→i3 rv≠some k→h'.get k=some o) (hf:Fr h' (n2+1)) :
  NI RR tm tp te hC nC p c many cv sv C (k+1) (h'.upd p (some (.cells (eB c many cv sv 0 rv2 0).toArray tm))) (n2+1) (ps++[q]) rv2:=by
 obtain⟨g1,g2,g3,g4,g5,g6,g7,g8,g9,g10,g11⟩:=hi
 have hp:=g8.lt' g1
 have hr:=g4.snoc hR (r:=noR)
 have hgk:∀ {k:Nat} {cs:Array Value} {e:TypeId},h.get k=some (.cells cs e)→e≠te→k≠n1→h'.get k=some (.cells cs e):=fun hk9 he hne=>hg _ _ hk9 hne (g2.ne hk9 he)
 have hgp:h'.get p=some (.cells (eB c many cv sv 0 rv 0).toArray tm):=hgk g1 e5 (Ne.symm hn1.1)
 have hty:=hr.ty hk
 refine⟨T.get_upd_same _ _ _,?_,by simp[g3],?_,g5.snoc fun r hr=>?_,fun k hk=>?_,fun k o hk=>?_,hf.upd (Nat.le_refl _) (by omega),g9,g10,by omega⟩
 ·rw[aJh]
  exact ho.keepK (ids:=[p]) (fun k o hk hn=>by rw[T.get_upd_ne _ _ (by simpa using hn)]; exact hk) fun id hid hm=>by rw[hsb] at hid; cases hid; simp at hm; omega
 ·rw[List.take_succ_eq_append_getElem (List.getElem?_eq_some_iff.1 hc).1,(List.getElem?_eq_some_iff.1 hc).2,List.replicate_succ']
  refine hr.keep hk fun r hr9=>?_
  obtain⟨⟨c1,t1⟩,c2,t2⟩:=hty r hr9
  rw[T.get_upd_ne _ _ (fun e=>by rw[e,g1] at t1; simp only[Option.some.injEq,Obj.cells.injEq] at t1; exact e3 t1.2.1),T.get_upd_ne _ _ (fun e=>by rw[e,g1] at t2; simp only[Option.some.injEq,Obj.cells.injEq] at t2; exact e4 t2.2.1),hgk t1 e1 (hn1.2.1 r hr9).1,hgk t2 e2 (hn1.2.1 r hr9).2,t1,t2]
  exact⟨rfl,rfl⟩
 ·have:=hq1 r hr; omega
 ·obtain⟨r,hr,h9⟩:=iO.1 hk
  rcases List.mem_append.1 hr with hr | hr
  ·exact g6 k (iO.2 ⟨r,hr,h9⟩)
  ·simp at hr; subst hr; omega
 ·have hlt:=g9.lt' hk
  have h9:=g7 k o hk
  rw[T.get_upd_ne _ _ (by omega)]
  refine hg k o h9 (by have:=hn1.2.2; omega) fun e=>?_
  have:=(g2.blk e).1
  omega
theorem NI.fin {d:AutoD} (hk:RgOk RR tp ta) (e1:tp≠te) (e2:ta≠te) (e5:tm≠te) {X0:List Nat} (hX0:∀ k∈X0,k < nC) (hi:NI RR tm tp te hC nC p d.c d.many cv sv d.counts d.counts.length h nx ps rv) (hA:qZ ro (del hC X0) (d4 d.c d.many cv sv) d):MX RR tm ro h (X0++(p::jY ps)) p ps d (aCF d):=by
 obtain⟨g1,g2,g3,g4,g5,g6,g7,g8,g9,g10,g11⟩:=hi
 have hX:∀ k∈p::jY ps,nC≤k:=fun k hk=>by
  rcases List.mem_cons.1 hk with rfl | hk
  ·exact g10
  ·exact g6 k hk
 have hrs:(aCF d).rs=List.replicate d.counts.length noR:=List.map_const' ..
 rw[List.take_length] at g4
 have hsub:Sub (del hC X0) (del h (X0++(p::jY ps))):=fun k o hk=>by
  rw[jU] at hk
  split at hk
  ·cases hk
  ·rename_i hn
   have:=g9.lt' hk
   exact j5 (g7 k o hk) fun hm=>by
    rcases List.mem_append.1 hm with hm | hm
    ·exact hn hm
    ·have:=hX k hm; omega
 refine⟨cv,sv,rv,g1,hA.sub hsub,(g2.del fun id hid hm=>?_).sl,by rw[hrs]; exact g4,g5,List.mem_append.2 (.inr (List.mem_cons_self ..)),fun k hk=>List.mem_append.2 (.inr (List.mem_cons_of_mem _ hk))⟩
 rcases List.mem_append.1 hm with hm | hm
 ·have:=hX0 id hm; have:=(g2.blk hid).1; omega
 rcases List.mem_cons.1 hm with rfl | hm
 ·exact g2.ne g1 e5 hid
 ·obtain⟨r,hr,h9⟩:=iO.1 hm
  obtain⟨⟨c1,t1⟩,c2,t2⟩:=g4.ty hk r hr
  rcases h9 with rfl | rfl
  ·exact g2.ne t1 e1 hid
  ·exact g2.ne t2 e2 hid
end
section
variable {ro:Ro}{h:T Obj}{nx:Nat}{K:KV}{x:List Value}{d:AutoD}
theorem aJN (ha:fA d=true) {k:Nat} (hk:k < d.counts.length):1≤(d.counts[k]).2.toNat∧(d.counts[k]).2.toNat≤4096∧((d.counts[k]).2.toNat:Int)=(d.counts[k]).2:=by
 have:=(eR ha).2.2.2.2.1 _ (List.getElem_mem hk)
 omega
set_option maxRecDepth 8000 in
set_option maxHeartbeats 1000000 in
theorem aJV {X0:List Nat} (hf:Fr h nx) (hd:qZ ro h x d) (hK0:fA d=false→∀ nx',nx≤nx'→K (.tuple #[.pointer none,.int .i64 1]) h nx')
  (hX0:∀ k∈X0,k < nx)
  (hK1:fA d=true→∀ p ps X h' nx',nx≤nx'→Fr h' nx'→Sub h h'→(∀ k∈X,nx≤k∧k < nx')→X=p::jY ps→MI ro h' (X0++X) p ps (er d) (aCF d)→K (.tuple #[ptr p,.int .i64 0]) h' nx'):aN Tryz.prog ro aAg [.agg x.toArray] h nx K:=by
 obtain⟨cv,sv,hxe,hc,hclt,hcv,hS,hb1,hb2⟩:=id hd
 have m7:=kI (n:=d.many) (cv:=cv) (sv:=sv) hc
 apply aHg
 unfold aHf
 refine eF hf (Nat.le_refl _) fun h1 hs1 hf1 g1 _=>?_
 have g1:h1.get nx=some (.cells x.toArray bH):=g1
 have hxl:x.length=259:=by rw[hxe]; exact cQ hc
 have LA:=dI (ro:=ro) (z:=0) (n:=259) (l:=x) g1 hxl
 refine aA LA ?_
 refine aBB (hf1.mono (by omega)) (hd.sub hs1) fun n1 hn1=>?_
 cases hok:fA d with
 | false =>
  (repeat(first|refine zzB ?_|apply aD|apply aE|with_reducible first|apply aG|apply aF|apply aK|apply aH|apply aJ|apply aI|apply aL|apply aC))
  exact⟨h,hs1,hK0 hok _ (by omega)⟩
 | true =>
  have hfit:=aPw hok hc
  have hC512:=(eR hok).2.1
  (repeat(first|refine zzB ?_|apply aD|apply aE|with_reducible first|apply aG|apply aF|apply aK|apply aH|apply aJ|apply aI|apply aL|apply aC))
  refine aA LA ?_
  refine aFD (X0:=X0) (hf1.mono (by omega)) (fun k hk=>by have:=hX0 k hk; omega) (hd.sub hs1) hfit fun cv2 sv2 hC nC hnC hfC hsC hAC=>?_
  refine aA (aJG hc) (aGi hfC (by omega) fun h2 hs2 hf2 g2 _=>?_)
  have g2:h2.get (nC+1)=some (.cells (eB d.c d.many cv2 sv2 0 dD 0).toArray bF):=g2
  have g12:=hs2 _ _ (hsC _ _ g1)
  have hcv2:=hcv.sub ((hs1.trans hsC).trans hs2) fun _ _ h=>h
  (repeat(first|refine zzB ?_|apply aD|apply aE|with_reducible first|apply aG|apply aF|apply aK|apply aH|apply aJ|apply aI|apply aL|apply aC))
  refine aA (aZ g12 (by rw[hxe]; exact m7)) ?_
  refine aA hcv2.len ?_
  have hNI0:NI RI bF bL kZ hC nC (nC+1) d.c d.many cv2 sv2 d.counts 0 h2 (nC+2) [] dD:=⟨g2,dU.nil,rfl,⟨rfl,rfl,fun i p c r hp=>by simp at hp⟩,Dst.nil,(fun q hq=>by simp[jY] at hq),hs2,hf2,hfC,by omega,by omega⟩
  refine a9 (fun j e h' nx'=>∃ (k:Nat) (ps:List (Nat × Nat)) (rv:Value),k+j=d.counts.length∧nC+2≤nx'∧e 4=ptr (nC+1)∧e 17=cv∧e 18=.int .i64 d.counts.length∧e 19=.int .i64 k∧NI RI bF bL kZ hC nC (nC+1) d.c d.many cv2 sv2 d.counts k h' nx' ps rv) ?_ (n:=d.counts.length) ⟨0,[],dD,by omega,by omega,rfl,rfl,rfl,rfl,hNI0.mono (by omega)⟩
  rintro j e h' nx' ⟨k,ps,rv,hj,hnx,e4,e17,e18,e19,hi⟩ Q' hq hx
  have hfh:=hi.2.2.2.2.2.2.2.1
  have hsh:=hi.2.2.2.2.2.2.1
  unfold aCZ
  rw[e4,e17,e18,e19]
  refine dC (fun hk=>?_) (fun hk=>?_)
  ·have hk:k < d.counts.length:=by omega
   obtain⟨b1,b2,b3⟩:=aJN hok hk
   have hcvh:=hcv.sub ((hs1.trans hsC).trans hsh) fun _ _ h=>h
   have hix:=hcvh.ix .i64 hk
   obtain⟨y,hy1,hy2,hy3,hy4,hy5⟩:=hcvh.at hk
   have hck:d.counts[k]?=some d.counts[k]:=List.getElem?_eq_getElem _
   generalize d.counts[k]=cc at b1 b2 b3 hy1 hck
   obtain rfl:y=[.int .i64 cc.1,.int .i64 cc.2]:=hy1
   (repeat(first|refine zzB ?_|apply aD|apply aE|with_reducible first|apply aG|apply aF|apply aK|apply aH|apply aJ|apply aI|apply aL|apply aC))
   refine aA hix (aA hy3 ?_)
   refine jH (x:=[.int .i64 cc.1,.int .i64 cc.2]) aHI rfl rfl rfl rfl hfh (by omega) fun h3 hs3 hf3 g3 _=>?_
   (repeat(first|refine aA (by simp (disch:=first|omega|exact nnN _|assumption) only [BB,B2,↓reduceIte,Nat.reduceLeDiff,Nat.reduceAdd,CC,g3]<;>rfl) ?_|apply aD|apply aE|with_reducible first|apply aG|apply aF|apply aK|apply aH|apply aJ|apply aI|apply aL|apply aC))
   rw[← b3]
   refine aJq (hf3.mono (by omega)) b1 b2 fun p' a' h4 n4 hp' ha' hn4 hs4 hf4 hR4=>?_
   refine aA (aPs _ _) (aA (aPt _ _) ?_)
   have hi4:=hi.sub (n':=n4) jR (hs3.trans hs4) hf4 (by omega)
   have m0:=sA (n:=d.many) (cv:=cv2) (sv:=sv2) (cur:=0) (rv:=rv) (steps:=0) hc
   refine aB1 rfl ?_
   (repeat(first|refine aA (by simp (disch:=first|omega|exact nnN _|assumption) only [BB,B2,↓reduceIte,Nat.reduceLeDiff,Nat.reduceAdd,CC,a8]<;>rfl) ?_|apply aD|apply aE|with_reducible first|apply aG|apply aF|apply aK|apply aH|apply aJ|apply aI|apply aL|apply aC))
   refine aA (aZ hi4.1 m0) ?_
   obtain⟨i,t1,t2,t3⟩:=aQK
   have hplen:ps.length≤1000000:=by have:=hi.2.2.1; omega
   refine aA9 (z:=1) (l:=mY ps) (y:=[ptr p']) (aPi _ _) rfl hi4.2.1 aOw t1 (by omega) (by omega) aQT rfl rfl (by rw[mF,t3]; unfold big; omega) (by rw[mF]; unfold big; omega) (hf4.mono (by omega)) (by omega) (by omega) (fun e=>by have:=hf4.lt' (hi4.2.1.blk e).2; omega) fun h5 ho5 hk5 hf5=>?_
   generalize hnv:Value.slice (some (own (n4+15) 1)) (mY ps++[[ptr p']]).length (mY ps++[[ptr p']]).length=rv2 at ho5
   have hsb:i3 rv2=some (n4+15):=by rw[← hnv]; rfl
   have g5:=hk5 _ _ hi4.1 (by have:=hf4.lt' hi4.1; omega) (hi4.2.1.ne hi4.1 (by decide))
   have hlt4:=hi.2.2.2.1.lt jR hfh
   have hfin:=hi4.step (h':=h5) (q:=(p',a')) (cc:=cc) (rv2:=rv2) (n1:=n4+13) (n2:=n4+15) (lo:=nC) jR (by decide) (by decide) (by decide) (by decide) (by decide) hc hck hR4 (fun r hr=>by have:=hlt4 r hr; show r.1 < p'∧r.2 < a'; omega) (by show nC≤p'∧nC≤a'; omega) ⟨by have:=hf4.lt' hi4.1; omega,fun r hr=>by
    rcases List.mem_append.1 hr with hr | hr
    ·have:=hlt4 r hr; omega
    ·simp at hr; subst hr; have:=jR.p hR4; have:=jR.a hR4; obtain⟨c1,t8⟩:=jR.p hR4; obtain⟨c2,t9⟩:=jR.a hR4; have:=hf4.lt' t8; have:=hf4.lt' t9; show p'≠_∧a'≠_; omega,by omega⟩ ho5 hsb (by omega) hk5 hf5
   dsimp only
   (repeat(first|refine aA (by simp (disch:=first|omega|exact nnN _|assumption) only [BB,B2,↓reduceIte,Nat.reduceLeDiff,Nat.reduceAdd,CC,a8]<;>rfl) ?_|apply aD|apply aE|with_reducible first|apply aG|apply aF|apply aK|apply aH|apply aJ|apply aI|apply aL|apply aC))
   refine aA (dG g5 (by rw[vO hc]; omega) ho5.ok (by rw[← hnv]; rfl)) ?_
   rw[aGc hc]
   (repeat(first|refine zzB ?_|apply aD|apply aE|with_reducible first|apply aG|apply aF|apply aK|apply aH|apply aJ|apply aI|apply aL|apply aC))
   exact hq (j - 1) _ _ _ _ (by omega) ⟨k+1,ps++[(p',a')],rv2,by omega,by omega,e4,e17,e18,rfl,hfin.mono (by omega)⟩ (Sub.refl _)
  ·(repeat(first|refine zzB ?_|apply aD|apply aE|with_reducible first|apply aG|apply aF|apply aK|apply aH|apply aJ|apply aI|apply aL|apply aC))
   refine hx _ _ _ _ (fun e=>by cases e) (eA (cR ?_))
   obtain rfl:k=d.counts.length:=by omega
   have hMX:=NI.fin (ro:=ro) (d:=er d) (X0:=X0) jR (by decide) (by decide) (by decide) (fun k hk=>by have:=hX0 k hk; omega) hi hAC
   have hend:∀ (e':Env) n',e' 4=ptr (nC+1)→nx'≤n'→t6 ro K e' h' n':=by
    intro e' n' f4 hn'
    unfold t6
    rw[f4]
    refine⟨h',Sub.refl _,hK1 hok _ ps _ h' _ (by omega) (hfh.mono (by omega)) ((hs1.trans hsC).trans hsh) (fun k hk=>?_) rfl hMX⟩
    have hlt9:=hMX.lt jR hfh
    rcases List.mem_cons.1 hk with rfl | hk
    ·have:=hlt9.1; omega
    ·have:=hi.2.2.2.2.2.1 k hk; have:=hlt9.2 k hk; omega
   exact hend _ _ e4 (by omega)
end
end V
end Go.Proofs.YtcaccnneblghgaaGreat
namespace Go.Proofs.YtcaccnneblghgaaGreat
namespace V
attribute [local irreducible] aB ifP aR cS eQ exP cN
theorem aMw (id:Nat):bQ Tryz.prog jQ id 0 []=some (.slice (some (own id 1)) 0 0,some (.cells #[] o8)):=by kernel_rfl
theorem aNj:und Tryz.prog jQ=some (.slice o8):=by kernel_rfl
theorem aOr:∃ i,tin Tryz.prog o8=some i∧i.size=1∧i.bytes=16:=xH (by kernel_rfl)
theorem aPG:zer Tryz.prog o8=some (.string .empty):=by kernel_rfl
theorem aLv:und Tryz.prog iT=some (.slice iI):=by kernel_rfl
theorem aNa:∃ i,tin Tryz.prog iI=some i∧i.size=1∧i.bytes=8:=xH (by kernel_rfl)
theorem aNp:zer Tryz.prog iI=some (.pointer none):=by kernel_rfl
theorem aMx (id p:Nat):bQ Tryz.prog iT id 1 [(0,ptr p)]=some (.slice (some (own id 1)) 1 1,some (.cells [ptr p].toArray iI)):=by kernel_rfl
theorem aNg:und Tryz.prog iF=some (.slice cA):=by kernel_rfl
theorem aOo:∃ i,tin Tryz.prog cA=some i∧i.size=260∧i.bytes=336:=xH (by kernel_rfl)
theorem aLC (o:Option Addr) (l c:Nat):fF Tryz.prog cA [(1,.slice o l c)]=some (.agg (v7++[Value.slice o l c]).toArray):=by kernel_rfl
theorem aOR (id:Nat) (o:Option Addr) (l c:Nat):bQ Tryz.prog iF id 1 [(0,.agg (v7++[Value.slice o l c]).toArray)]=some (.slice (some (own id 260)) 1 1,some (.cells (v7++[Value.slice o l c]).toArray cA)):=by kernel_rfl
theorem aBn:fF Tryz.prog kF [(2,.int .i64 (-1))]=some (.agg #[.int .i64 0,.int .i64 0,.int .i64 (-1)]):=by kernel_rfl
theorem aJH (m:Int):fF Tryz.prog aQ [(2,.int .i64 m),(5,.bool true),(7,.agg #[.int .i64 0,.int .i64 0,.int .i64 (-1)])]=some (.agg #[dD,dD,dD,dD,dD,.int .i64 m,dD,.int .i64 0,.bool true,.int .i64 0,.int .i64 0,.int .i64 0,.int .i64 (-1),.int .i64 0,.bool false,.int .i64 0]):=by kernel_rfl
theorem MX.shrink {RR:RgP}{ty:TypeId}{ro:Ro}{h:T Obj}{X X':List Nat}{p:Nat}{ps:List (Nat × Nat)}{d:AutoD}{m:MacD} (hm:MX RR ty ro h X p ps d m) (hX:∀ k∈X',k∈X) (hp:∀ k∈p::jY ps,k∈X'):MX RR ty ro h X' p ps d m:=by
 obtain⟨cv,sv,rv,g1,g2,g3,g4,g5,g6,g7⟩:=hm
 have hD:Sub (del h X) (del h X'):=fun k o hk=>by
  rw[jU] at hk
  split at hk
  ·cases hk
  ·rename_i hn
   exact j5 hk fun e=>hn (hX k e)
 exact⟨cv,sv,rv,g1,g2.sub hD,g3.sub hD,g4,g5,hp p (List.mem_cons_self ..),fun k hk=>hp k (List.mem_cons_of_mem _ hk)⟩
theorem MsX.shrink {ro:Ro}{h:T Obj}{X X':List Nat}{qs:List MqD}{ds:List AutoD}{ms:List MacD} (hm:MsX ro h X qs ds ms) (hX:∀ k∈X',k∈X) (hp:∀ q∈qs,∀ k∈mW q,k∈X'):MsX ro h X' qs ds ms :=
 ⟨hm.lq,hm.lm,fun i q d m h1 h2 h3=>(hm.at_ i q d m h1 h2 h3).shrink hX (hp q (List.mem_of_getElem? h1)),hm.dis⟩
section
variable {ro:Ro}{h:T Obj}{nx:Nat}{K:KV}
theorem aHZ {v:Value}{l:List ByteArray} (hv:SlR ro h v 1 zZ l) (hl:l.length≤1000000) (hf:Fr h nx) (hK:∀ r h' n',nx≤n'→Fr h' n'→Sub h h'→dU h' r 1 o8 (aA4 l) nx→K r h' n'):aN Tryz.prog ro hG [v] h nx K:=by
 apply qJ
 unfold lX
 obtain⟨i,g1,g2,g3⟩:=aOr
 obtain⟨cs,h1,h2,h3⟩:=hv
 have hcs:cs=aA4 l:=by
  apply List.ext_getElem?
  intro k
  rcases Nat.lt_or_ge k l.length with hk | hk
  ·have e1:cs[k]?=some (cs[k]'(by omega)):=List.getElem?_eq_getElem _
   have e2:l[k]?=some l[k]:=List.getElem?_eq_getElem _
   have:=(h3 k _ _ e1 e2).1
   rw[e1,this,aGE hk]
  ·rw[List.getElem?_eq_none (by omega),List.getElem?_eq_none (by rw[zX]; omega)]
 subst hcs
 exact sN h1 aMw aNj g1 (by omega) (by omega) aPG rfl (by simp[aA4,cT]) (by rw[zX,g3]; unfold big; omega) (by rw[zX]; unfold big; omega) hf hK
end
end V
end Go.Proofs.YtcaccnneblghgaaGreat
namespace Go.Proofs.YtcaccnneblghgaaGreat
namespace V
attribute [local irreducible] aB ifP aR cS eQ exP cN
theorem MX.ty {ro:Ro}{h:T Obj}{X:List Nat}{p:Nat}{ps:List (Nat × Nat)}{d:AutoD}{m:MacD} (hm:MI ro h X p ps d m):∀ k∈p::jY ps,∃ c e,h.get k=some (.cells c e)∧(e=bF∨e=bL∨e=dR):=fun k hk=>by
 obtain⟨cv,sv,rv,g1,g2,g3,g4,g5,g6,g7⟩:=hm
 rcases List.mem_cons.1 hk with rfl | hk
 ·exact⟨_,_,g1,.inl rfl⟩
 ·obtain⟨q,hq,h9⟩:=iO.1 hk
  obtain⟨⟨c1,t1⟩,c2,t2⟩:=g4.ty jR q hq
  rcases h9 with rfl | rfl
  ·exact⟨_,_,t1,.inr (.inl rfl)⟩
  ·exact⟨_,_,t2,.inr (.inr rfl)⟩
theorem MX.neB {ro:Ro}{h:T Obj}{X:List Nat}{p:Nat}{ps:List (Nat × Nat)}{d:AutoD}{m:MacD} (hm:MI ro h X p ps d m) {k:Nat}{c:Array Value}{e:TypeId} (hk:h.get k=some (.cells c e)) (he:e≠bF∧e≠bL∧e≠dR):k ∉ p::jY ps:=fun h9=>by
 obtain⟨c2,e2,g1,g2⟩:=hm.ty k h9
 rw[hk] at g1
 simp only[Option.some.injEq,Obj.cells.injEq] at g1
 rcases g2 with g2 | g2 | g2
 ·exact he.1 (g1.2.1.trans g2)
 ·exact he.2.1 (g1.2.1.trans g2)
 ·exact he.2.2 (g1.2.1.trans g2)
theorem MsX.neB {ro:Ro}{h:T Obj}{X:List Nat}{qs:List MqD}{ds:List AutoD}{ms:List MacD} (hm:MsX ro h X qs ds ms) {k:Nat}{c:Array Value}{e:TypeId} (hk:h.get k=some (.cells c e)) (he:e≠bF∧e≠bL∧e≠dR):∀ q∈qs,k ∉ mW q:=fun q hq=>by
 obtain⟨i,hi⟩:=List.getElem?_of_mem hq
 have hl:=(List.getElem?_eq_some_iff.1 hi).1
 exact (hm.at_ i q _ _ hi (List.getElem?_eq_getElem (by rw[← hm.lq]; exact hl)) (List.getElem?_eq_getElem (by rw[hm.lm,← hm.lq]; exact hl))).neB hk he
structure NwI (ro:Ro) (X0:List Nat) (hC:T Obj) (nC p:Nat) (Tb:TabD) (most:Int) (kv tv:Value) (i j:Nat) (h:T Obj) (nx:Nat) (X:List Nat) (qs:List MqD) (mv ev:Value) (es:List (List Value)):Prop where
 cell:h.get p=some (.cells (scL kv tv ev mv most dD (nM Tb) 0).toArray aQ)
 mo:dU h mv 1 iI (rB qs) nC
 eo:dU h ev 260 cA es nC
 el:es.length=j
 erd:∀ (k:Nat) x e,es[k]?=some x→Tb.entries[k]?=some e→pY ro (del h X) x e
 kr:Sl ro (del h X) kv 1 (aA4 Tb.kinds)
 tr:Sl ro (del h X) tv 1 (kJ Tb.to)
 mq:MsX ro h X qs ((Tb.entries.map (·.a)).take i) ((Tb.entries.map fun e=>aCF e.a).take i)
 xl:∀ b∈X,b < nx
 pc:nC≤p
 ql:∀ q∈qs,∀ b∈mW q,nC≤b
 x0:∀ b∈X0,b∈X
 xp:p∈X
 xm:∀ b∈lA mv,b∈X
 xe:∀ b∈lA ev,b∈X
 sb:Sub hC h
 frr:Fr h nx
 frC:Fr hC nC
section
variable {ro:Ro}{hC h h' h1 h2:T Obj}{nC p nx n1 n2 l1 i j k:Nat}{Tb:TabD}{most:Int}{kv tv mv ev mv2 ev2:Value}{X0 X:List Nat}{qs:List MqD}{es:List (List Value)}
theorem NwI.nle (hi:NwI ro X0 hC nC p Tb most kv tv i j h nx X qs mv ev es):nC≤p∧p < nx:=⟨hi.pc,hi.xl p hi.xp⟩
theorem NwI.subs (hi:NwI ro X0 hC nC p Tb most kv tv i j h nx X qs mv ev es) (hs:Sub h h') (hf:Fr h' n1) (hn:nx≤n1):NwI ro X0 hC nC p Tb most kv tv i j h' n1 X qs mv ev es:=by
 have hD:Sub (del h X) (del h' X):=dT.del (ids:=[]) hs.keepL (fun k hk=>by cases hk) fun k hk=>.inl hk
 exact⟨hs _ _ hi.cell,hi.mo.keepS hs,hi.eo.keepS hs,hi.el,fun k x e h1 h2=>(hi.erd k x e h1 h2).sub hD,hi.kr.sub hD,hi.tr.sub hD,hi.mq.subX hs,fun b hb=>by have:=hi.xl b hb; omega,hi.pc,hi.ql,hi.x0,hi.xp,hi.xm,hi.xe,hi.sb.trans hs,hf,hi.frC⟩
theorem NwI.neM (hi:NwI ro X0 hC nC p Tb most kv tv i j h nx X qs mv ev es):∀ b∈p::lA mv,(∃ c e,h.get b=some (.cells c e)∧e≠bF∧e≠bL∧e≠dR):=fun b hb=>by
 rcases List.mem_cons.1 hb with rfl | hb
 ·exact⟨_,_,hi.cell,by decide,by decide,by decide⟩
 ·exact⟨_,_,(hi.mo.blk (fE.1 hb)).2,by decide,by decide,by decide⟩
theorem NwI.neE (hi:NwI ro X0 hC nC p Tb most kv tv i j h nx X qs mv ev es):∀ b∈p::lA ev,(∃ c e,h.get b=some (.cells c e)∧e≠bF∧e≠bL∧e≠dR):=fun b hb=>by
 rcases List.mem_cons.1 hb with rfl | hb
 ·exact⟨_,_,hi.cell,by decide,by decide,by decide⟩
 ·exact⟨_,_,(hi.eo.blk (fE.1 hb)).2,by decide,by decide,by decide⟩
theorem aJi (qs:List MqD) (q:MqD):rB (qs++[q])=rB qs++[[ptr q.1]]:=by simp[rB]
theorem NwI.mach (hi0:NwI ro X0 hC nC p Tb most kv tv k j h nx X qs mv ev es) {q:MqD}{e:EntD} (he:Tb.entries[k]?=some e) (hn:MI ro h1 (X++mW q) q.1 q.2 (er e.a) (aCF e.a)) (hs:Sub h h1) (hf1:Fr h1 n1) (hb:∀ b∈mW q,nx≤b∧b < n1) (hnx:nx≤n1)
  (ho:dU h2 mv2 1 iI (rB qs++[[ptr q.1]]) nC) (hsb:i3 mv2=some n2) (hg:∀ b o,h1.get b=some o→b≠l1→i3 mv≠some b→h2.get b=some o) (hl1:n1≤l1) (hn2:n1≤n2) (hf2:Fr h2 (n2+1)) :
  NwI ro X0 hC nC p Tb most kv tv (k+1) j (h2.upd p (some (.cells (scL kv tv ev mv2 most dD (nM Tb) 0).toArray aQ))) (n2+1) (X++mW q++[n2]) (qs++[q]) mv2 ev es:=by
 have hpx:=hi0.nle
 have hi:=hi0.subs hs hf1 hnx
 have hkk:dT (lA mv) h1 h2:=fun b o hb hn=>hg b o hb (by have:=hf1.lt' hb; omega) fun e=>hn (fE.2 e)
 have hK:dT (p::lA mv) h1 (h2.upd p (some (.cells (scL kv tv ev mv2 most dD (nM Tb) 0).toArray aQ))):=(hkk.mono fun b hb=>List.mem_cons_of_mem _ hb).upd (List.mem_cons_self ..)
 have hidX:∀ b∈p::lA mv,b∈X:=fun b hb=>by
  rcases List.mem_cons.1 hb with rfl | hb
  ·exact hi.xp
  ·exact hi.xm b hb
 have hX2:∀ b∈X++mW q++[n2],b∈X++mW q∨h1.get b=none:=fun b hb=>by
  rcases List.mem_append.1 hb with hb | hb
  ·exact .inl hb
  ·simp at hb; subst hb; exact .inr (hf1 _ (by omega))
 have hX3:∀ b∈X++mW q++[n2],b∈X∨h.get b=none:=fun b hb'=>by
  rcases List.mem_append.1 hb' with hb' | hb'
  ·rcases List.mem_append.1 hb' with hb' | hb'
   ·exact .inl hb'
   ·exact .inr (hi0.frr _ (hb b hb').1)
  ·simp at hb'; subst hb'; exact .inr (hi0.frr _ (by omega))
 have hX4:∀ b∈X,b∈X++mW q++[n2]:=fun b hb=>List.mem_append_left _ (List.mem_append_left _ hb)
 have hgA:=hs.keepL (ids:=p::lA mv) |>.trans hK
 have hD:Sub (del h X) (del (h2.upd p (some (.cells (scL kv tv ev mv2 most dD (nM Tb) 0).toArray aQ))) (X++mW q++[n2])):=hgA.del hidX hX3
 have hneM:=hi.neM
 have hdis:∀ b∈p::lA mv,∀ r∈qs,b ∉ mW r:=fun b hb' r hr=>by
  obtain⟨c,e9,g1,g2⟩:=hneM b hb'
  exact hi.mq.neB g1 g2 r hr
 have hdq:∀ b∈p::lA mv,b ∉ mW q:=fun b hb'=>by
  obtain⟨c,e9,g1,g2⟩:=hneM b hb'
  exact hn.neB g1 g2
 have hmq:=hi0.mq.keep hgA hidX (fun r hr b hb'=>hdis b hb' r hr) hX3 hX4
 have hnq:=hn.keep (X':=X++mW q++[n2]) jR hK (fun b hb'=>List.mem_append_left _ (hidX b hb')) (fun b hb'=>by
  have:=hdq b hb'
  exact⟨fun e=>this (by rw[e]; exact List.mem_cons_self ..),fun e=>this (List.mem_cons_of_mem _ e)⟩) hX2 fun b hb'=>List.mem_append_left _ hb'
 have hlen:k < Tb.entries.length:=(List.getElem?_eq_some_iff.1 he).1
 have hget:=(List.getElem?_eq_some_iff.1 he).2
 have hpe:i3 ev≠some p:=hi.eo.ne hi.cell (by decide)
 have hpm:i3 mv2≠some p:=by rw[hsb]; intro e9; cases e9; omega
 have hem:∀ b,i3 ev=some b→i3 mv≠some b:=fun b hb' e9=>by
  have g1:=(hi.eo.blk hb').2
  have g2:=(hi.mo.blk e9).2
  rw[g1] at g2
  simp only[Option.some.injEq,Obj.cells.injEq] at g2
  exact absurd g2.2.1 (by decide)
 refine⟨T.get_upd_same _ _ _,?_,?_,hi.el,fun k x e h1 h2=>(hi0.erd k x e h1 h2).sub hD,hi0.kr.sub hD,hi0.tr.sub hD,?_,fun b hb'=>?_,hi.pc,fun r hr b hb'=>?_,fun b hb'=>hX4 b (hi.x0 b hb'),hX4 p hi.xp,fun b hb'=>?_,fun b hb'=>hX4 b (hi.xe b hb'),fun b o hb'=>?_,hf2.upd (Nat.le_refl _) (by omega),hi.frC⟩
 ·rw[aJi]
  exact ho.keepK (ids:=[p]) ((Sub.refl _).keepL.upd (by simp)) fun id hid hm=>by simp at hm; subst hm; exact hpm hid
 ·exact hi.eo.keepK (ids:=p::lA mv) hK fun id hid hm=>by
   rcases List.mem_cons.1 hm with rfl | hm
   ·exact hpe hid
   ·exact hem id hid (fE.1 hm)
 ·have t1:(Tb.entries.map (·.a)).take (k+1)=(Tb.entries.map (·.a)).take k++[e.a]:=by
   rw[List.take_succ_eq_append_getElem (by rw[List.length_map]; exact hlen),List.getElem_map,hget]
  have t2:(Tb.entries.map fun e=>aCF e.a).take (k+1)=(Tb.entries.map fun e=>aCF e.a).take k++[aCF e.a]:=by
   rw[List.take_succ_eq_append_getElem (by rw[List.length_map]; exact hlen),List.getElem_map,hget]
  rw[t1,t2]
  refine hmq.snoc hnq fun r hr b hb' hb9=>?_
  have g1:=(hb b hb9).1
  obtain⟨i9,hi9⟩:=List.getElem?_of_mem hr
  have g2:=hi0.xl b (hi0.mq.inX hi9 b hb')
  omega
 ·have hx:=hi0.nle
  rcases List.mem_append.1 hb' with hb' | hb'
  ·rcases List.mem_append.1 hb' with hb' | hb'
   ·have:=hi0.xl b hb'; omega
   ·have:=hb b hb'; omega
  ·simp at hb'; subst hb'; omega
 ·rcases List.mem_append.1 hr with hr | hr
  ·exact hi.ql r hr b hb'
  ·simp at hr; subst hr
   have:=(hb b hb').1
   omega
 ·have:=fE.1 hb'
  rw[hsb] at this
  cases this
  exact List.mem_append_right _ (by simp)
 ·have h9:=hi.sb b o hb'
  have hlt:=hi.frC.lt' hb'
  rw[T.get_upd_ne _ _ (by omega)]
  refine hg b o h9 (by omega) fun e9=>?_
  have:=(hi.mo.blk e9).1
  omega
theorem NwI.ent (hi0:NwI ro X0 hC nC p Tb most kv tv i k h nx X qs mv ev es) {n0:Nat}{rv:Value}{e:EntD} (he:Tb.entries[k]?=some e) (hs:Sub h h1) (hrv:dU h1 rv 1 dR (kJ e.rules) n0) (hn0:nx≤l1) (hl0:l1 < n0)
  (ho:dU h2 ev2 260 cA (es++[v7++[rv]]) nC) (hsb:i3 ev2=some n2) (hg:∀ b o,h1.get b=some o→b≠l1→i3 ev≠some b→h2.get b=some o) (hn2:n0≤n2) (hf1:Fr h1 n2) (hf2:Fr h2 (n2+1)) :
  NwI ro X0 hC nC p Tb most kv tv i (k+1) (h2.upd p (some (.cells (scL kv tv ev2 mv most dD (nM Tb) 0).toArray aQ))) (n2+1) (X++[n2]) qs mv ev2 (es++[v7++[rv]]):=by
 have hpx:=hi0.nle
 have hgA:dT (p::lA ev) h (h2.upd p (some (.cells (scL kv tv ev2 mv most dD (nM Tb) 0).toArray aQ))):=fun b o hb hn=>by
  have hlt:=hi0.frr.lt' hb
  rw[T.get_upd_ne _ _ fun e9=>hn (by rw[e9]; exact List.mem_cons_self ..)]
  exact hg b o (hs b o hb) (by omega) fun e9=>hn (List.mem_cons_of_mem _ (fE.2 e9))
 have hidX:∀ b∈p::lA ev,b∈X:=fun b hb=>by
  rcases List.mem_cons.1 hb with rfl | hb
  ·exact hi0.xp
  ·exact hi0.xe b hb
 have hX3:∀ b∈X++[n2],b∈X∨h.get b=none:=fun b hb'=>by
  rcases List.mem_append.1 hb' with hb' | hb'
  ·exact .inl hb'
  ·simp at hb'; subst hb'; exact .inr (hi0.frr _ (by omega))
 have hX4:∀ b∈X,b∈X++[n2]:=fun b hb=>List.mem_append_left _ hb
 have hD:=hgA.del hidX hX3
 have hneE:=hi0.neE
 have hmq:=hi0.mq.keep hgA hidX (fun r hr b hb'=>by
  obtain⟨c,e9,g1,g2⟩:=hneE b hb'
  exact hi0.mq.neB g1 g2 r hr) hX3 hX4
 have hpm:i3 mv≠some p:=hi0.mo.ne hi0.cell (by decide)
 have hpe:i3 ev2≠some p:=by rw[hsb]; intro e9; cases e9; omega
 have hem:∀ b,i3 mv=some b→i3 ev≠some b:=fun b hb' e9=>by
  have g1:=(hi0.mo.blk hb').2
  have g2:=(hi0.eo.blk e9).2
  rw[g1] at g2
  simp only[Option.some.injEq,Obj.cells.injEq] at g2
  exact absurd g2.2.1 (by decide)
 have hel:=hi0.el
 have hrv2:Sl ro (del (h2.upd p (some (.cells (scL kv tv ev2 mv most dD (nM Tb) 0).toArray aQ))) (X++[n2])) rv 1 (kJ e.rules):=by
  have h9:dU (h2.upd p (some (.cells (scL kv tv ev2 mv most dD (nM Tb) 0).toArray aQ))) rv 1 dR (kJ e.rules) n0:=by
   rcases hrv with h9 | ⟨id,r1,r2,r3,r4⟩
   ·exact .inl h9
   ·refine .inr ⟨id,r1,r2,r3,?_⟩
    rw[T.get_upd_ne _ _ (by omega)]
    refine hg _ _ r4 (by omega) fun e9=>?_
    have:=hi0.xl _ (hi0.xe _ (fE.2 e9))
    omega
  refine (h9.del fun id hid hm=>?_).sl
  have g1:=(h9.blk hid).1
  rcases List.mem_append.1 hm with hm | hm
  ·have:=hi0.xl id hm; omega
  ·simp at hm; subst hm
   have g2:h1.get id=none:=hf1 _ (Nat.le_refl _)
   rcases hrv with ⟨r1,_⟩ | ⟨id2,r1,r2,r3,r4⟩
   ·rw[r1] at hid; cases hid
   ·rw[r2] at hid
    cases hid
    have g3:h1.get id2=none:=g2
    rw[r4] at g3; cases g3
 refine⟨T.get_upd_same _ _ _,?_,?_,by simp[hel],fun j x e9 hx1 hx2=>?_,hi0.kr.sub hD,hi0.tr.sub hD,hmq,fun b hb'=>?_,hi0.pc,hi0.ql,fun b hb'=>hX4 b (hi0.x0 b hb'),hX4 p hi0.xp,fun b hb'=>hX4 b (hi0.xm b hb'),fun b hb'=>?_,fun b o hb'=>?_,hf2.upd (Nat.le_refl _) (by omega),hi0.frC⟩
 ·exact hi0.mo.keepK hgA fun id hid hm=>by
   rcases List.mem_cons.1 hm with rfl | hm
   ·exact hpm hid
   ·exact hem id hid (fE.1 hm)
 ·exact ho.keepK (ids:=[p]) ((Sub.refl _).keepL.upd (by simp)) fun id hid hm=>by simp at hm; subst hm; exact hpe hid
 ·rcases Nat.lt_or_ge j es.length with hj | hj
  ·rw[List.getElem?_append_left hj] at hx1
   exact (hi0.erd j x e9 hx1 hx2).sub hD
  ·rw[List.getElem?_append_right hj] at hx1
   have hj0:j - es.length=0:=by
    rcases Nat.eq_zero_or_pos (j - es.length) with h0 | h0
    ·exact h0
    ·rw[List.getElem?_eq_none (by simp; omega)] at hx1; cases hx1
   rw[hj0] at hx1
   simp only[List.getElem?_cons_zero,Option.some.injEq] at hx1
   subst hx1
   rw[show j=k by omega,he] at hx2
   cases hx2
   refine⟨rv,?_,hrv2⟩
   rw[List.getElem?_append_right (by rw[sK]; omega),sK]; rfl
 ·rcases List.mem_append.1 hb' with hb' | hb'
  ·have:=hi0.xl b hb'; omega
  ·simp at hb'; subst hb'; omega
 ·have:=fE.1 hb'
  rw[hsb] at this
  cases this
  exact List.mem_append_right _ (by simp)
 ·have h9:=hi0.sb b o hb'
  have hlt:=hi0.frC.lt' hb'
  have hlt2:=hi0.frr.lt' h9
  rw[T.get_upd_ne _ _ (by omega)]
  refine hg b o (hs b o h9) (by omega) fun e9=>?_
  have:=(hi0.eo.blk e9).1
  omega
theorem NwI.fin (hi:NwI ro X0 hC nC p Tb most kv tv Tb.entries.length Tb.entries.length h nx X qs mv ev es) (hX0:∀ b∈X0,b < nC):ScX ro h (X0++(p::qs.flatMap mW)) p qs Tb most 0 (nM Tb)∧∀ b∈p::qs.flatMap mW,nC≤b∧b < nx:=by
 have hsub:∀ b∈X0++(p::qs.flatMap mW),b∈X:=fun b hb=>by
  rcases List.mem_append.1 hb with hb | hb
  ·exact hi.x0 b hb
  ·rcases List.mem_cons.1 hb with rfl | hb
   ·exact hi.xp
   ·obtain⟨q,hq,hb⟩:=List.mem_flatMap.1 hb
    obtain⟨j,hj⟩:=List.getElem?_of_mem hq
    exact hi.mq.inX hj b hb
 have hD:Sub (del h X) (del h (X0++(p::qs.flatMap mW))):=sP hsub
 have hne:∀ {v:Value} {z:Nat} {e:TypeId} {l:List (List Value)},dU h v z e l nC→e≠aQ→e≠bF∧e≠bL∧e≠dR→∀ id,i3 v=some id→id ∉ X0++(p::qs.flatMap mW):=fun {v z e l} ho he1 he2 id hid hm=>by
  obtain⟨g1,g2⟩:=ho.blk hid
  rcases List.mem_append.1 hm with hm | hm
  ·have:=hX0 id hm; omega
  ·rcases List.mem_cons.1 hm with rfl | hm
   ·exact ho.ne hi.cell (Ne.symm he1) hid
   ·obtain⟨q,hq,hm⟩:=List.mem_flatMap.1 hm
    exact hi.mq.neB g2 he2 q hq hm
 refine⟨⟨kv,tv,ev,mv,dD,hi.cell,hi.kr.sub hD,hi.tr.sub hD,⟨es,(hi.eo.del (hne hi.eo (by decide) ⟨by decide,by decide,by decide⟩)).sl,hi.el,fun j x e h1 h2=>(hi.erd j x e h1 h2).sub hD⟩,(hi.mo.del (hne hi.mo (by decide) ⟨by decide,by decide,by decide⟩)).sl,Sl.nil,?_,List.mem_append_right _ (List.mem_cons_self ..),hi.mq.neB hi.cell ⟨by decide,by decide,by decide⟩⟩,fun b hb=>⟨?_,hi.xl b (hsub b (List.mem_append_right _ hb))⟩⟩
 ·have hq:=hi.mq
  rw[List.take_of_length_le (by simp),List.take_of_length_le (by simp)] at hq
  exact hq.shrink hsub fun q hq9 b hb=>List.mem_append_right _ (List.mem_cons_of_mem _ (List.mem_flatMap.2 ⟨q,hq9,hb⟩))
 ·rcases List.mem_cons.1 hb with rfl | hb
  ·exact hi.pc
  ·obtain⟨q,hq,hb⟩:=List.mem_flatMap.1 hb
   exact hi.ql q hq b hb
end
end V
end Go.Proofs.YtcaccnneblghgaaGreat
namespace Go.Proofs.YtcaccnneblghgaaGreat
namespace V
attribute [local irreducible] aB ifP aR cS eQ exP cN
theorem aN1:∀ {l:List Int}{a m:Int},rz a m l=true→a < m→(l.length:Int)≤m - a - 1
 | [],a,m,_,h=>by simp; omega
 | x::r,a,m,h,hm=>by
  rw[aDS] at h
  simp only[Bool.and_eq_true,decide_eq_true_eq] at h
  have:=aN1 h.2.2 h.2.1
  rw[List.length_cons]
  omega
theorem aGB {T:TabD} (h:fX T=true):T.conds.length≤8∧T.kinds.length≤64∧T.to.length≤64∧T.entries.length≤16∧∀ e∈T.entries,e.rules.length≤64:=by
 unfold fX at h
 simp only[Bool.and_eq_true,decide_eq_true_eq] at h
 obtain⟨h1,h2,_,h4,h5,h6,_,h8,h9⟩:=h
 refine⟨h2,h4,by omega,by omega,fun e he=>?_⟩
 have:=List.all_eq_true.1 h9 e he
 unfold lL at this
 simp only[Bool.and_eq_true] at this
 have:=aN1 this.1 (by omega)
 omega
theorem aLD (o1 o2:Option Addr) (l1 c1 l2 c2:Nat):fF Tryz.prog dF [(1,.slice o1 l1 c1),(2,.slice o2 l2 c2)]=some (.agg #[dD,.slice o1 l1 c1,.slice o2 l2 c2,dD]):=by kernel_rfl
theorem dU.form {h:T Obj}{v:Value}{z:Nat}{e:TypeId}{l:List (List Value)}{lo:Nat} (ho:dU h v z e l lo):∃ o n c,v=.slice o n c:=by
 rcases ho with ⟨h1,_⟩ | ⟨id,_,h1,_⟩
 ·exact⟨_,_,_,h1⟩
 ·exact⟨_,_,_,h1⟩
theorem aEd {h:T Obj}{id off z n:Nat}{v:Value}{l vs:List Value}{e:TypeId}{f:Nat × Nat} (hg:h.get id=some (.cells l.toArray e f)) (hc:v.cells=vs.toArray) (hn:vs.length=n) (hl:off+n≤l.length) (hv:vs.all cT=true) :
  bV n h (at_ id off z) v=some (h.upd id (some (.cells (over l off vs).toArray e f))):=by
 rw[bX,hc,hg,if_pos (by simpa using hn),bP (by simp; omega) (by simpa using hv)]
 rfl
theorem aEB {ro:Ro}{h:T Obj}{id off z n:Nat}{l:List Value}{e:TypeId}{f:Nat × Nat} (hg:h.get id=some (.cells l.toArray e f)) (hl:off+n≤l.length):loadA ro h n (at_ id off z)=some (.agg ((l.drop off).take n).toArray):=by
 rw[bZ,hg]
 show (if off+n≤l.length then _ else _)=_
 rw[if_pos hl]
section
variable {ro:Ro}{h:T Obj}{nx:Nat}{K:KV}
set_option maxRecDepth 8000 in
set_option maxHeartbeats 1000000 in
theorem aJw {X0:List Nat}{x:List Value}{Tb:TabD}{most:Int} (hf:Fr h nx) (hd:aCq ro h x Tb) (hX0:∀ b∈X0,b < nx)
  (hK0:most < 1∨fX Tb=false→∀ nx',nx≤nx'→K (.tuple #[.pointer none,.int .i64 1]) h nx')
  (hK1:1≤most→fX Tb=true→∀ p qs h' nx',nx≤nx'→Fr h' nx'→Sub h h'→(∀ b∈p::qs.flatMap mW,nx≤b∧b < nx')→ScX ro h' (X0++(p::qs.flatMap mW)) p qs Tb most 0 (nM Tb)→K (.tuple #[ptr p,.int .i64 0]) h' nx'):aN Tryz.prog ro wK [.agg x.toArray,.int .i64 most] h nx K:=by
 obtain⟨cv,kv0,tv0,ev0,rfl,q1,q2,q3,q4,q5,q6,q7,q8⟩:=id hd
 apply aIj
 unfold aIi
 refine eF hf (Nat.le_refl _) fun h1 hs1 hf1 g1 _=>?_
 have g1:h1.get nx=some (.cells [cv,kv0,tv0,ev0].toArray dF):=g1
 by_cases hm1:most < 1
 ·(repeat(first|refine zzB ?_|apply aD|apply aE|with_reducible first|apply aG|apply aF|apply aK|apply aH|apply aJ|apply aI|apply aL|apply aC))
  exact⟨h,hs1,hK0 (.inl hm1) _ (by omega)⟩
 ·have LA:=dI (ro:=ro) (z:=0) (n:=4) (l:=[cv,kv0,tv0,ev0]) g1 rfl
  (repeat(first|refine zzB ?_|apply aD|apply aE|with_reducible first|apply aG|apply aF|apply aK|apply aH|apply aJ|apply aI|apply aL|apply aC))
  refine aA LA ?_
  (repeat(first|refine zzB ?_|apply aD|apply aE|with_reducible first|apply aG|apply aF|apply aK|apply aH|apply aJ|apply aI|apply aL|apply aC))
  refine aHp (hf1.mono (by omega)) (hd.sub hs1) fun n1 hn1=>?_
  cases hr:fX Tb with
  | false =>
   (repeat(first|refine zzB ?_|apply aD|apply aE|with_reducible first|apply aG|apply aF|apply aK|apply aH|apply aJ|apply aI|apply aL|apply aC))
   exact⟨h,hs1,hK0 (.inr hr) _ (by omega)⟩
  | true =>
   have hc256:∀ e∈Tb.entries,e.a.c.length=256:=fun e he=>by
    obtain⟨j,hj⟩:=List.getElem?_of_mem he
    obtain⟨hlt,rfl⟩:=List.getElem?_eq_some_iff.1 hj
    obtain⟨y,⟨ax,rv,_,hA,_⟩,_⟩:=q4.at hlt
    obtain⟨cv9,sv9,_,hc9,_⟩:=hA
    exact hc9
   have hT:=(aI8 hr hc256).1
   obtain⟨_,hl1,hl2,hl3,hl4⟩:=aGB hr
   (repeat(first|refine zzB ?_|apply aD|apply aE|with_reducible first|apply aG|apply aF|apply aK|apply aH|apply aJ|apply aI|apply aL|apply aC))
   refine aA aBn ?_
   refine aA (aJH _) ?_
   refine aGi (m:=nx+1) hf1 (by omega) fun h2 hs2 hf2 g2 _=>?_
   have g2:h2.get (n1+1+4)=some (.cells (scL dD dD dD dD most dD (nM Tb) 0).toArray aQ):=g2
   have g12:=hs2 _ _ g1
   have m1:[cv,kv0,tv0,ev0][1]?=some kv0:=rfl
   have m2:[cv,kv0,tv0,ev0][2]?=some tv0:=rfl
   have m3:[cv,kv0,tv0,ev0][3]?=some ev0:=rfl
   (repeat(first|refine zzB ?_|apply aD|apply aE|with_reducible first|apply aG|apply aF|apply aK|apply aH|apply aJ|apply aI|apply aL|apply aC))
   refine aA (aZ g12 m1) ?_
   refine aHZ (q2.sub (hs1.trans hs2) fun _ _ h=>h) (by omega) (hf2.mono (by omega)) fun kv h3 n3 hn3 hf3 hs3 hkv=>?_
   have g13:=hs3 _ _ g12
   have l2:=aZ (ro:=ro) (z:=0) g13 m2
   (repeat(first|refine zzB ?_|apply aD|apply aE|with_reducible first|apply aG|apply aF|apply aK|apply aH|apply aJ|apply aI|apply aL|apply aC))
   refine aA l2 ⟨fS g12 g13,?_⟩
   refine tU (q3.sub ((hs1.trans hs2).trans hs3)) (by omega) hf3 fun tv h4 n4 hn4 hf4 hs4 htv=>?_
   obtain⟨ko,kn,kc,hkf⟩:=hkv.form
   obtain⟨to_,tn,tc,htf⟩:=htv.form
   have g24:=hs4 _ _ (hs3 _ _ g2)
   have g14:=hs4 _ _ g13
   refine aA (by rw[hkf,htf]; exact aLD _ _ _ _ _ _) ?_
   (repeat(first|refine aA (by simp (disch:=first|omega|exact nnN _|assumption) only [BB,B2,↓reduceIte,Nat.reduceLeDiff,Nat.reduceAdd,CC,a8]<;>rfl) ?_|apply aD|apply aE|with_reducible first|apply aG|apply aF|apply aK|apply aH|apply aJ|apply aI|apply aL|apply aC))
   refine aA (aEd (vs:=[dD,kv,tv,dD]) g24 (by rw[hkf,htf]; rfl) rfl (by simp[scL]) (by simp only[List.all_cons,List.all_nil,hkv.ok,htv.ok,Bool.and_true]; rfl)) ?_
   have hov:over (scL dD dD dD dD most dD (nM Tb) 0) 0 [dD,kv,tv,dD]=scL kv tv dD dD most dD (nM Tb) 0:=rfl
   rw[hov]
   generalize hh5:h4.upd (n1+1+4) (some (.cells (scL kv tv dD dD most dD (nM Tb) 0).toArray aQ))=h5
   have g15:h5.get nx=some (.cells [cv,kv0,tv0,ev0].toArray dF):=by rw[← hh5,T.get_upd_ne _ _ (by omega)]; exact g14
   (repeat(first|refine zzB ?_|apply aD|apply aE|with_reducible first|apply aG|apply aF|apply aK|apply aH|apply aJ|apply aI|apply aL|apply aC))
   refine aA (aZ g15 m3) ?_
   have hs14:Sub h1 h4:=(hs2.trans hs3).trans hs4
   refine aA q4.len ?_
   have hkK:dT [n1+1+4] h4 h5:=by rw[← hh5]; exact (Sub.refl _).keepL.upd (by simp)
   have hkv5:=(hkv.keepS hs4).keepK hkK fun id hid hm=>by simp at hm; have:=(hkv.blk hid).1; omega
   have htv5:=htv.keepK hkK fun id hid hm=>by simp at hm; have:=(htv.blk hid).1; omega
   have hNI0:NwI ro X0 h1 (nx+1) (n1+1+4) Tb most kv tv 0 0 h5 n4 (X0++[n1+1+4]) [] dD dD []:=by
    refine⟨by rw[← hh5]; exact T.get_upd_same _ _ _,dU.nil,dU.nil,rfl,(fun k x e hx=>by simp at hx),?_,?_,MsX.nil,fun b hb=>?_,by omega,(fun q hq=>by cases hq),fun b hb=>List.mem_append_left _ hb,by simp,(fun b hb=>by cases hb),(fun b hb=>by cases hb),fun b o hb=>?_,?_,hf1⟩
    ·refine (hkv5.del fun id hid hm=>?_).sl
     have g:=(hkv.blk hid).1
     rcases List.mem_append.1 hm with hm | hm
     ·have:=hX0 id hm; omega
     ·simp at hm; omega
    ·refine (htv5.del fun id hid hm=>?_).sl
     have g:=(htv.blk hid).1
     rcases List.mem_append.1 hm with hm | hm
     ·have:=hX0 id hm; omega
     ·simp at hm; omega
    ·rcases List.mem_append.1 hb with hb | hb
     ·have:=hX0 b hb; omega
     ·simp at hb; omega
    ·have hlt:=hf1.lt' hb
     rw[← hh5,T.get_upd_ne _ _ (by omega)]
     exact hs14 b o hb
    ·rw[← hh5]; exact hf4.upd (Nat.le_refl _) (by omega)
   refine a9 (fun j e h' nx'=>∃ (k:Nat) (X:List Nat) (qs:List MqD) (mv ev:Value) (es:List (List Value)),k+j=Tb.entries.length∧n4+4≤nx'∧e 6=ptr (n1+1+4)∧e 33=ev0∧e 34=.int .i64 Tb.entries.length∧e 35=.int .i64 k∧NwI ro X0 h1 (nx+1) (n1+1+4) Tb most kv tv k k h' nx' X qs mv ev es) ?_ (n:=Tb.entries.length) ⟨0,_,[],dD,dD,[],by omega,by omega,rfl,rfl,rfl,rfl,hNI0.subs (Sub.refl _) (hNI0.frr.mono (by omega)) (by omega)⟩
   generalize n1+1+4=p at *
   rintro j e h' nx' ⟨k,X,qs,mv,ev,es,hj,hnx,e6,e33,e34,e35,hi⟩ Q' hq hx
   have hfh:=hi.frr
   have hsh:=hi.sb
   unfold aCm
   rw[e6,e33,e34,e35]
   refine dC (fun hk=>?_) (fun hk=>?_)
   ·have hk:k < Tb.entries.length:=by omega
    have hev:=q4.sub hs1 (sG.sub hs1)
    have hix:=hev.ix .i64 hk
    obtain⟨y,hy1,hy2,hy3,hy4,hy5⟩:=hev.at hk
    have hy3:=aCB hsh hy3
    have hek:Tb.entries[k]?=some Tb.entries[k]:=List.getElem?_eq_getElem _
    have hemem:=List.getElem_mem hk
    generalize Tb.entries[k]=ee at hy1 hek hemem
    obtain⟨cv9,sv9,rv9,hye,c258,c259,htk,hA,hS,hSl,hR,hRl⟩:=hy1.cells
    (repeat(first|refine zzB ?_|apply aD|apply aE|with_reducible first|apply aG|apply aF|apply aK|apply aH|apply aJ|apply aI|apply aL|apply aC))
    refine aA hix (aA hy3 ?_)
    refine jH (x:=y) (n:=260) aDU (by show aJT.toArray.size=260; rw[List.size_toArray,aBI]) rfl hy2 hy1.okL hfh (by omega) fun h6 hs6 hf6 g6 _=>?_
    have LB:=aEB (ro:=ro) (z:=0) (off:=0) (n:=259) g6 (by omega)
    rw[List.drop_zero,htk] at LB
    (repeat(first|refine zzB ?_|apply aD|apply aE|with_reducible first|apply aG|apply aF|apply aK|apply aH|apply aJ|apply aI|apply aL|apply aC))
    refine aA LB ?_
    refine aJV (X0:=X) (hf6.mono (by omega)) (hA.sub (hsh.trans hs6)) (fun h9=>by rw[hT.ok ee hemem] at h9; cases h9) (fun b hb=>by have:=hi.xl b hb; omega) fun _ p2 ps X2 h7 n7 hn7 hf7 hs7 hX2 hX2e hMI=>?_
    subst hX2e
    refine aA (aPs _ _) (aA (aPt _ _) ?_)
    refine aB1 rfl ?_
    (repeat(first|refine aA (by simp (disch:=first|omega|exact nnN _|assumption) only [BB,B2,↓reduceIte,Nat.reduceLeDiff,Nat.reduceAdd,CC,a8]<;>rfl) ?_|apply aD|apply aE|with_reducible first|apply aG|apply aF|apply aK|apply aH|apply aJ|apply aI|apply aL|apply aC))
    have hi6:=hi.subs hs6 (hf6.mono (show nx'+3+1≤nx'+8 by omega)) (by omega)
    have hi7:=hi6.subs hs7 hf7 (by omega)
    have m4:(scL kv tv ev mv most dD (nM Tb) 0)[4]?=some mv:=rfl
    refine aA (aZ hi7.cell m4) ?_
    obtain⟨i9,t1,t2,t3⟩:=aNa
    have hql:qs.length≤1000:=by have:=hi.mq.lq; simp at this; omega
    refine aA9 (z:=1) (l:=rB qs) (y:=[ptr p2]) (aMx _ _) rfl hi7.mo aLv t1 (by omega) (by omega) aNp rfl rfl (by rw[vQ,t3]; unfold big; omega) (by rw[vQ]; unfold big; omega) (hf7.mono (by omega)) (by omega) (by omega) (fun e=>by have:=hf7.lt' (hi7.mo.blk e).2; omega) fun h8 ho8 hk8 hf8=>?_
    generalize hnv:Value.slice (some (own (n7+15) 1)) (rB qs++[[ptr p2]]).length (rB qs++[[ptr p2]]).length=mv2 at ho8
    have hsb:i3 mv2=some (n7+15):=by rw[← hnv]; rfl
    have hi8:=hi6.mach (q:=(p2,ps)) (l1:=n7+13) hek hMI hs7 hf7 hX2 (by omega) ho8 hsb hk8 (by omega) (by omega) hf8
    have g8:=hk8 _ _ hi7.cell (by have:=hf7.lt' hi7.cell; omega) (hi7.mo.ne hi7.cell (by decide))
    dsimp only
    (repeat(first|refine aA (by simp (disch:=first|omega|exact nnN _|assumption) only [BB,B2,↓reduceIte,Nat.reduceLeDiff,Nat.reduceAdd,CC,a8]<;>rfl) ?_|apply aD|apply aE|with_reducible first|apply aG|apply aF|apply aK|apply aH|apply aJ|apply aI|apply aL|apply aC))
    refine aA (dG g8 (by simp[scL]) ho8.ok (by rw[← hnv]; rfl)) ?_
    have hov2:(scL kv tv ev mv most dD (nM Tb) 0).set 4 mv2=scL kv tv ev mv2 most dD (nM Tb) 0:=rfl
    rw[hov2]
    generalize hh8:h8.upd p (some (.cells (scL kv tv ev mv2 most dD (nM Tb) 0).toArray aQ))=h9 at hi8
    have g69:h9.get (nx'+3)=some (.cells y.toArray cA):=by
     have hp6:=hi.xl _ hi.xp
     rw[← hh8,T.get_upd_ne _ _ (by omega)]
     refine hk8 _ _ (hs7 _ _ g6) (by omega) fun e9=>?_
     have:=hi.xl _ (hi.xm _ (fE.2 e9))
     omega
    have m3':(scL kv tv ev mv2 most dD (nM Tb) 0)[3]?=some ev:=rfl
    (repeat(first|refine aA (by simp (disch:=first|omega|exact nnN _|assumption) only [BB,B2,↓reduceIte,Nat.reduceLeDiff,Nat.reduceAdd,CC,a8]<;>rfl) ?_|apply aD|apply aE|with_reducible first|apply aG|apply aF|apply aK|apply aH|apply aJ|apply aI|apply aL|apply aC))
    refine aA (aZ hi8.cell m3') ?_
    (repeat(first|refine zzB ?_|apply aD|apply aE|with_reducible first|apply aG|apply aF|apply aK|apply aH|apply aJ|apply aI|apply aL|apply aC))
    refine aA (aZ g69 c259) ?_
    refine tU (hR.sub hi8.sb) (by have:=hl4 ee hemem; omega) (hi8.frr.mono (by omega)) fun rv h10 n10 hn10 hf10 hs10 hrv=>?_
    refine⟨fS hi8.cell (hs10 _ _ hi8.cell),?_⟩
    obtain⟨ro1,rn,rc,hrf⟩:=hrv.form
    refine aA (by rw[hrf]; exact aLC _ _ _) ?_
    have hi10:=hi8.subs hs10 hf10 (by omega)
    obtain⟨i10,u1,u2,u3⟩:=aOo
    have hesl:es.length≤1000:=by have:=hi8.el; omega
    refine aA9 (z:=260) (l:=es) (y:=v7++[rv]) (by rw[hrf]; exact aOR _ _ _ _) (by rw[List.length_append,sK]; rfl) hi10.eo aNg u1 (by omega) (by omega) aDU (by show aJT.toArray.size=260; rw[List.size_toArray,aBI]) (by rw[List.all_append]; simp[hrv.ok]; decide) (by rw[u3]; unfold big; omega) (by unfold big; omega) (hf10.mono (by omega)) (by omega) (by omega) (fun e=>by have:=hi8.xl _ (hi8.xe _ (fE.2 e)); omega) fun h11 ho11 hk11 hf11=>?_
    generalize hnv2:Value.slice (some (own n10 260)) (es++[v7++[rv]]).length (es++[v7++[rv]]).length=ev2 at ho11
    have hsb2:i3 ev2=some n10:=by rw[← hnv2]; rfl
    have hi11:=(hi8.subs (Sub.refl _) (hi8.frr.mono (show n7+15+1≤n7+15+1+13 by omega)) (by omega)).ent (l1:=n7+15+1+13) hek hs10 hrv (Nat.le_refl _) (by omega) ho11 hsb2 hk11 (by omega) hf10 hf11
    have g11:=hk11 _ _ hi10.cell (by have:=hi8.frr.lt' hi8.cell; omega) (hi10.eo.ne hi10.cell (by decide))
    dsimp only
    (repeat(first|refine aA (by simp (disch:=first|omega|exact nnN _|assumption) only [BB,B2,↓reduceIte,Nat.reduceLeDiff,Nat.reduceAdd,CC,a8]<;>rfl) ?_|apply aD|apply aE|with_reducible first|apply aG|apply aF|apply aK|apply aH|apply aJ|apply aI|apply aL|apply aC))
    refine aA (dG g11 (by simp[scL]) ho11.ok (by rw[← hnv2]; rfl)) ?_
    have hov3:(scL kv tv ev mv2 most dD (nM Tb) 0).set 3 ev2=scL kv tv ev2 mv2 most dD (nM Tb) 0:=rfl
    rw[hov3]
    (repeat(first|refine zzB ?_|apply aD|apply aE|with_reducible first|apply aG|apply aF|apply aK|apply aH|apply aJ|apply aI|apply aL|apply aC))
    exact hq (j - 1) _ _ _ _ (by omega) ⟨k+1,_,_,mv2,ev2,_,by omega,by omega,e6,e33,e34,rfl,hi11.subs (Sub.refl _) (hi11.frr.mono (by omega)) (by omega)⟩ (Sub.refl _)
   ·(repeat(first|refine zzB ?_|apply aD|apply aE|with_reducible first|apply aG|apply aF|apply aK|apply aH|apply aJ|apply aI|apply aL|apply aC))
    refine hx _ _ _ _ (fun e=>by cases e) (eA (cR ?_))
    obtain rfl:k=Tb.entries.length:=by omega
    obtain⟨hfin,hbl⟩:=hi.fin fun b hb=>by have:=hX0 b hb; omega
    have hend:∀ (e':Env) n',e' 6=ptr p→nx'≤n'→uE ro K e' h' n':=by
     intro e' n' f6 hn'
     unfold uE
     rw[f6]
     exact⟨h',Sub.refl _,hK1 (by omega) hr p qs h' _ (by omega) (hfh.mono (by omega)) (hs1.trans hsh) (fun b hb=>by have:=hbl b hb; omega) hfin⟩
    exact hend _ _ e6 (by omega)
end
end V
end Go.Proofs.YtcaccnneblghgaaGreat
namespace Go.Proofs.YtcaccnneblghgaaGreat
namespace V
attribute [local irreducible] aB ifP aR cS eQ exP cN
theorem aL9:dY Tryz.prog 20 kF=some [1,1,1]:=by kernel_rfl
theorem aPX:aJB [1,1,1] .eql (.agg #[.int .i64 0,.int .i64 0,.int .i64 (-1)]) (.agg #[.int .i64 0,.int .i64 0,.int .i64 (-1)])=some (.bool true):=by kernel_rfl
theorem aPY {a b c:Int} (ha:a≠0):aJB [1,1,1] .eql (.agg #[.int .i64 a,.int .i64 b,.int .i64 c]) (.agg #[.int .i64 0,.int .i64 0,.int .i64 (-1)])=some (.bool false):=by
 simp[aJB,dS,i6,ha]
def ScV (ro:Ro) (h:T Obj) (X:List Nat) (p:Nat) (qs:List MqD) (T:TabD) (most er_:Int) (kv tv ev mv bv:Value) (s:ScD):Prop:=h.get p=some (.cells (scL kv tv ev mv most bv s er_).toArray aQ) ∧
 Sl ro (del h X) kv 1 (aA4 T.kinds)∧Sl ro (del h X) tv 1 (kJ T.to)∧SlR ro (del h X) ev 260 (pY ro (del h X)) T.entries∧Sl ro (del h X) mv 1 (rB qs)∧Sl ro (del h X) bv 1 (bY s.kept)∧MsX ro h X qs (T.entries.map (·.a)) s.ms∧p∈X∧∀ q∈qs,p ∉ mW q
section
variable {ro:Ro}{h h':T Obj}{nx:Nat}{X X':List Nat}{p:Nat}{qs:List MqD}{T:TabD}{most er_ er':Int}{kv tv ev mv bv:Value}{s s':ScD}
theorem ScV.x (hm:ScV ro h X p qs T most er_ kv tv ev mv bv s):ScX ro h X p qs T most er_ s:=⟨kv,tv,ev,mv,bv,hm⟩
theorem ScV.keep {ids:List Nat} (hm:ScV ro h X p qs T most er_ kv tv ev mv bv s) (hs:dT ids h h') (h1:∀ k∈ids,k∈X) (h2:∀ q∈qs,∀ k∈ids,k ∉ mW q) (h0:p ∉ ids) (h3:∀ k∈X',k∈X∨h.get k=none) (h4:∀ k∈X,k∈X'):ScV ro h' X' p qs T most er_ kv tv ev mv bv s:=by
 obtain⟨g1,g2,g3,g4,g5,g6,g7,g8,g9⟩:=hm
 have hD:Sub (del h X) (del h' X'):=hs.del h1 h3
 exact⟨hs _ _ g1 h0,g2.sub hD,g3.sub hD,g4.sub hD (pY.sub hD),g5.sub hD,g6.sub hD,g7.keep hs h1 h2 h3 h4,h4 p g8,g9⟩
theorem ScV.sub (hm:ScV ro h X p qs T most er_ kv tv ev mv bv s) (hs:Sub h h'):ScV ro h' X p qs T most er_ kv tv ev mv bv s:=hm.keep (ids:=[]) hs.keepL (fun k hk=>by cases hk) (fun q hq k hk=>by cases hk) (fun hk=>by cases hk) (fun k hk=>.inl hk) fun k hk=>hk
theorem ScV.upd (hm:ScV ro h X p qs T most er_ kv tv ev mv bv s) (hms:s'.ms=s.ms) (hb:s'.kept=s.kept):ScV ro (h.upd p (some (.cells (scL kv tv ev mv most bv s' er').toArray aQ))) X p qs T most er' kv tv ev mv bv s':=by
 obtain⟨g1,g2,g3,g4,g5,g6,g7,g8,g9⟩:=hm
 have hk:dT [p] h (h.upd p (some (.cells (scL kv tv ev mv most bv s' er').toArray aQ))):=((Sub.refl _).keepL).upd (by simp)
 have hX:∀ k∈[p],k∈X:=fun k hk=>by simp at hk; subst hk; exact g8
 have hD:Sub (del h X) (del (h.upd p (some (.cells (scL kv tv ev mv most bv s' er').toArray aQ))) X):=hk.del hX fun k hk=>.inl hk
 refine⟨V.T.get_upd_same _ _ _,g2.sub hD,g3.sub hD,g4.sub hD (pY.sub hD),g5.sub hD,by rw[hb]; exact g6.sub hD,?_,g8,g9⟩
 rw[hms]
 exact g7.keep hk hX (fun q hq k hk=>by simp at hk; subst hk; exact g9 q hq) (fun k hk=>.inl hk) fun k hk=>hk
theorem ScV.updB {bv':Value} (hm:ScV ro h X p qs T most er_ kv tv ev mv bv s) (hms:s'.ms=s.ms) (hb:Sl ro (del h X) bv' 1 (bY s'.kept)):ScV ro (h.upd p (some (.cells (scL kv tv ev mv most bv' s' er').toArray aQ))) X p qs T most er' kv tv ev mv bv' s':=by
 obtain⟨g1,g2,g3,g4,g5,g6,g7,g8,g9⟩:=hm
 have hk:dT [p] h (h.upd p (some (.cells (scL kv tv ev mv most bv' s' er').toArray aQ))):=((Sub.refl _).keepL).upd (by simp)
 have hX:∀ k∈[p],k∈X:=fun k hk=>by simp at hk; subst hk; exact g8
 have hD:Sub (del h X) (del (h.upd p (some (.cells (scL kv tv ev mv most bv' s' er').toArray aQ))) X):=hk.del hX fun k hk=>.inl hk
 refine⟨V.T.get_upd_same _ _ _,g2.sub hD,g3.sub hD,g4.sub hD (pY.sub hD),g5.sub hD,hb.sub hD,?_,g8,g9⟩
 rw[hms]
 exact g7.keep hk hX (fun q hq k hk=>by simp at hk; subst hk; exact g9 q hq) (fun k hk=>.inl hk) fun k hk=>hk
theorem ScV.step {i:Nat}{q:MqD}{d:AutoD}{m':MacD} (hm:ScV ro h X p qs T most er_ kv tv ev mv bv s) (hq:qs[i]?=some q) (hd:(T.entries.map (·.a))[i]?=some d) (hk:dT (q.1::jY q.2) h h') (hn:MI ro h' X q.1 q.2 (er d) m'):ScV ro h' X p qs T most er_ kv tv ev mv bv { s with ms:=s.ms.set i m' }:=by
 obtain⟨g1,g2,g3,g4,g5,g6,g7,g8,g9⟩:=hm
 have hX:=g7.inX hq
 have hD:Sub (del h X) (del h' X):=hk.del hX fun k hk=>.inl hk
 exact⟨hk p _ g1 (g9 q (List.mem_of_getElem? hq)),g2.sub hD,g3.sub hD,g4.sub hD (pY.sub hD),g5.sub hD,g6.sub hD,g7.step hq hd hk hX hn,g8,g9⟩
theorem ScV.at (hm:ScV ro h X p qs T most er_ kv tv ev mv bv s) {i:Nat}{e:EntD}{m:MacD} (he:T.entries[i]?=some e) (hs:s.ms[i]?=some m):∃ q,qs[i]?=some q∧MI ro h X q.1 q.2 (er e.a) m∧(T.entries.map (·.a))[i]?=some e.a:=by
 obtain⟨g1,g2,g3,g4,g5,g6,g7,g8,g9⟩:=hm
 have l1:=g7.lq
 rw[List.length_map] at l1
 have hi:=(List.getElem?_eq_some_iff.1 he).1
 have e3:(T.entries.map (·.a))[i]?=some e.a:=by rw[List.getElem?_map,he]; rfl
 exact⟨_,List.getElem?_eq_getElem (by omega),g7.at_ i _ _ _ (List.getElem?_eq_getElem (by omega)) e3 hs,e3⟩
end
def mT (p:Nat) (qs:List MqD):List Nat:=p::qs.flatMap mW
theorem aGo {p:Nat}{qs:List MqD}{q:MqD} (hq:q∈qs):∀ k∈q.1::jY q.2,k∈mT p qs:=fun k hk=>List.mem_cons_of_mem _ (List.mem_flatMap.2 ⟨q,hq,hk⟩)
theorem aHC:siz Tryz.prog cB=some 1:=by kernel_rfl
theorem aN4 {l:List MacD}{i:Nat}{m:MacD} (h:l[i]?=some m):l.set i m=l:=by
 apply List.ext_getElem?
 intro j
 by_cases hj:i=j
 ·subst hj; rw[List.getElem?_set_self (List.getElem?_eq_some_iff.1 h).1,h]
 ·rw[List.getElem?_set_ne hj]
section
variable {ro:Ro}{h:T Obj}{nx:Nat}{K:KV}{X:List Nat}{p:Nat}{qs:List MqD}{T:TabD}{most er_:Int}{kv tv ev mv bv:Value}{s:ScD}
set_option maxRecDepth 8000 in
set_option maxHeartbeats 2000000 in
theorem aKZ {K0:Nat}{q:MqD}{t0:TryD}{e0:Env} (hT:TabR T) (hI:ScI T s) (hv:ScV ro h X p qs T most er_ kv tv ev mv bv (dE s t0)) (hf:Fr h nx) (hq:qs[qR s]?=some q) (ht1:t0.took=s.took) (ht2:t0.steps=s.steps) (hlk:LkOk (s.steps+1) (qS T s) t0)
  (heq:xJ (qS T s).a (s.kept.drop s.took) t0=kN T s) (hsz:s.steps+s.kept.length≤90000) (f0:e0 0=ptr p) (f3:e0 3=ptr q.1)
  (hK:∀ h' nx',nx≤nx'→Fr h' nx'→dT (mT p qs) h h'→ScX ro h' X p qs T most er_ (dX T s).2→K (.bool (dX T s).1) h' nx'):jK ro K e0 h nx:=by
 obtain⟨he1,he2,m9,hm9,_⟩:=hI.at
 generalize hD:(qS T s).a=D at *
 have hok:fA D=true:=by rw[← hD]; exact hT.ok _ he2
 have hokE:=aKz hok
 have g1:=hv.1
 have g6:Sl ro (del h X) bv 1 (bY s.kept):=hv.2.2.2.2.2.1
 have hpX:p∈X:=hv.2.2.2.2.2.2.2.1
 have htk:=hI.ok.took
 unfold jK
 rw[f0]
 have l6:=aZ (ro:=ro) (z:=0) g1 (show (scL kv tv ev mv most bv (dE s t0) er_)[6]?=some bv from rfl)
 have l10:=aZ (ro:=ro) (z:=0) g1 (show (scL kv tv ev mv most bv (dE s t0) er_)[10]?=some (.int .i64 (t0.took:Int)) from rfl)
 rw[ht1] at l10
 obtain⟨rv,hrv1,hrv2⟩:=Sl.drop (P:=Tryz.prog) g6 mI aHC (n:=s.took) (by rw[dV]; exact htk) .i64
 have hdr:(bY s.kept).drop s.took=bY (s.kept.drop s.took):=by simp[bY]
 rw[hdr] at hrv2
 (repeat(first|refine aA (by simp (disch:=first|omega|exact nnN _|assumption) only [BB,B2,↓reduceIte,Nat.reduceLeDiff,Nat.reduceAdd,CC,a8,l6,l10]<;>rfl) ?_|apply aD|apply aE|with_reducible first|apply aG|apply aF|apply aK|apply aH|apply aJ|apply aI|apply aL|apply aC))
 refine aA hrv1 ?_
 have hrl:=(hrv2.sub (eX h X)).len
 rw[dV] at hrl
 refine aA hrl ?_
 have hrlen:(s.kept.drop s.took).length=s.kept.length - s.took:=List.length_drop
 have hrb:∀ x∈s.kept.drop s.took,x < 256:=fun x hx=>hI.kb x (List.mem_of_mem_drop hx)
 generalize s.kept.drop s.took=rest at *
 refine a9 (fun j e h' nx'=>∃ (i:Nat) (t:TryD),i+j=rest.length∧nx≤nx'∧e 0=ptr p∧e 3=ptr q.1∧e 32=rv∧e 33=.int .i64 rest.length∧e 34=.int .i64 i∧dT (mT p qs) h h'∧Fr h' nx'∧ScV ro h' X p qs T most er_ kv tv ev mv bv (dE s t) ∧
   Sl ro (del h' X) rv 1 (bY rest)∧t.took=s.took+i∧t.steps=s.steps+i∧LkOk (s.steps+1) (qS T s) t∧xJ D (rest.drop i) t=kN T s) ?_ (n:=rest.length)
  ⟨0,t0,by omega,by omega,f0,f3,rfl,rfl,rfl,(Sub.refl _).keepL,hf.mono (by omega),hv,hrv2,by omega,by omega,hlk,by rw[List.drop_zero]; exact heq⟩
 rintro j e h' nx' ⟨i,t,hj,hnx,e00,e03,e32,e33,e34,hkp,hf',hv',hrv',htt,hts,hlk',hend⟩ Q' hc hx
 have g1':=hv'.1
 have hms:(dE s t).ms[qR s]?=some t.m:=by
  show (s.ms.set (qR s) t.m)[qR s]?=_
  rw[List.getElem?_set_self (List.getElem?_eq_some_iff.1 hm9).1]
 unfold qG
 rw[e00,e03,e32,e33,e34]
 refine dC (fun hk=>?_) (fun hk=>?_)
 ·have hk:i < rest.length:=by omega
  have hrvh:=hrv'.sub (eX h' X)
  have hix:=hrvh.ix .i64 (i:=i) (by rw[dV]; exact hk)
  have hld:=hrvh.load1 (sM hk)
  have hbb:=hrb _ (List.getElem_mem hk)
  have hdrp:rest.drop i=rest[i]::rest.drop (i+1):=List.drop_eq_getElem_cons hk
  rw[hdrp,zP] at hend
  generalize rest[i]=b at hld hbb hend
  have l10:=aZ (ro:=ro) (z:=0) g1' (show (scL kv tv ev mv most bv (dE s t) er_)[10]?=some (.int .i64 (t.took:Int)) from rfl)
  have hlt:t.took < 90000∧t.steps < 90000:=by omega
  have hov1:(scL kv tv ev mv most bv (dE s t) er_).set 10 (.int .i64 ((t.took:Int)+1))=scL kv tv ev mv most bv (dE s { t with took:=t.took+1 }) er_:=rfl
  have hv1:=hv'.upd (s':=dE s { t with took:=t.took+1 }) (er':=er_) rfl rfl
  have hov2:(scL kv tv ev mv most bv (dE s { t with took:=t.took+1 }) er_).set 15 (.int .i64 ((t.steps:Int)+1))=scL kv tv ev mv most bv (dE s { t with took:=t.took+1,steps:=t.steps+1 }) er_:=rfl
  have hf1:Fr (h'.upd p (some (.cells (scL kv tv ev mv most bv (dE s { t with took:=t.took+1 }) er_).toArray aQ))) nx':=hf'.upd (Nat.le_refl _) (hf'.lt' g1')
  have hkp1:dT (mT p qs) h (h'.upd p (some (.cells (scL kv tv ev mv most bv (dE s { t with took:=t.took+1 }) er_).toArray aQ))):=hkp.upd (List.mem_cons_self ..)
  have hD1:Sub (del h' X) (del (h'.upd p (some (.cells (scL kv tv ev mv most bv (dE s { t with took:=t.took+1 }) er_).toArray aQ))) X):=dT.del (ids:=[p]) ((Sub.refl _).keepL.upd (by simp)) (fun k hk=>by simp at hk; subst hk; exact hpX) fun k hk=>.inl hk
  generalize hh1:h'.upd p (some (.cells (scL kv tv ev mv most bv (dE s { t with took:=t.took+1 }) er_).toArray aQ))=h1 at hv1 hf1 hkp1 hD1
  have l15:=aZ (ro:=ro) (z:=0) hv1.1 (show (scL kv tv ev mv most bv (dE s { t with took:=t.took+1 }) er_)[15]?=some (.int .i64 (t.steps:Int)) from rfl)
  have hv2:=hv1.upd (s':=dE s { t with took:=t.took+1,steps:=t.steps+1 }) (er':=er_) rfl rfl
  have hf2:Fr (h1.upd p (some (.cells (scL kv tv ev mv most bv (dE s { t with took:=t.took+1,steps:=t.steps+1 }) er_).toArray aQ))) nx':=hf1.upd (Nat.le_refl _) (hf'.lt' g1')
  have hkp2:dT (mT p qs) h (h1.upd p (some (.cells (scL kv tv ev mv most bv (dE s { t with took:=t.took+1,steps:=t.steps+1 }) er_).toArray aQ))):=hkp1.upd (List.mem_cons_self ..)
  have hD2:Sub (del h1 X) (del (h1.upd p (some (.cells (scL kv tv ev mv most bv (dE s { t with took:=t.took+1,steps:=t.steps+1 }) er_).toArray aQ))) X):=dT.del (ids:=[p]) ((Sub.refl _).keepL.upd (by simp)) (fun k hk=>by simp at hk; subst hk; exact hpX) fun k hk=>.inl hk
  (repeat(first|refine zzB ?_|apply aD|apply aE|with_reducible first|apply aG|apply aF|apply aK|apply aH|apply aJ|apply aI|apply aL|apply aC))
  refine aA hix (aA hld ?_)
  (repeat(first|refine aA (by simp (disch:=first|omega|exact nnN _|assumption) only [BB,B2,↓reduceIte,Nat.reduceLeDiff,Nat.reduceAdd,CC,a8,l10]<;>rfl) ?_|apply aD|apply aE|with_reducible first|apply aG|apply aF|apply aK|apply aH|apply aJ|apply aI|apply aL|apply aC))
  refine aA (dG g1' (by simp[scL]) rfl rfl) ?_
  rw[hov1,hh1]
  (repeat(first|refine aA (by simp (disch:=first|omega|exact nnN _|assumption) only [BB,B2,↓reduceIte,Nat.reduceLeDiff,Nat.reduceAdd,CC,a8,l15]<;>rfl) ?_|apply aD|apply aE|with_reducible first|apply aG|apply aF|apply aK|apply aH|apply aJ|apply aI|apply aL|apply aC))
  refine aA (dG hv1.1 (by simp[scL]) rfl rfl) ?_
  rw[hov2]
  generalize hh2:h1.upd p (some (.cells (scL kv tv ev mv most bv (dE s { t with took:=t.took+1,steps:=t.steps+1 }) er_).toArray aQ))=h2 at hv2 hf2 hkp2 hD2
  obtain⟨q2,hq2,hMI,hmap⟩:=hv2.at (m:=t.m) he1 hms
  rw[hq] at hq2
  cases hq2
  rw[hD] at hMI hmap
  have hst:=hlk'.st
  refine aHi hMI hokE (aGI (by rw[← hD]; exact hlk'.mok)) hbb (hf2.mono (by omega)) hlk'.w (by omega) (by omega) fun h3 n3 hn3 hf3 hk3 hM3=>?_
  rw[aPx]
  rw[aN6] at hM3
  have hv3:ScV ro h3 X p qs T most er_ kv tv ev mv bv (dE s (tk0 D t b)):=by
   have h9:=hv2.step hq hmap hk3 hM3
   have h8:{ (dE s { t with took:=t.took+1,steps:=t.steps+1 }) with ms:=(dE s { t with took:=t.took+1,steps:=t.steps+1 }).ms.set (qR s) (i4 D t.m b) }=dE s (tk0 D t b):=by
    unfold dE tk0
    simp only[List.set_set]
   rw[h8] at h9
   exact h9
  have hqX:=hv2.2.2.2.2.2.2.1.inX hq
  have hkp3:dT (mT p qs) h h3:=hkp2.trans (hk3.mono (aGo (List.mem_of_getElem? hq)))
  have hD3:Sub (del h2 X) (del h3 X):=hk3.del hqX fun k hk=>.inl hk
  have hrv3:=hrv'.sub ((hD1.trans hD2).trans hD3)
  have hlk0:=hlk'.tk0 hT he2 hbb
  have hlk1:=hlk'.tk1 hT he2 hbb
  rw[hD] at hlk0 hlk1
  cases hon:onM D t.m b with
  | false =>
   rw[hon] at hend
   have hend:(true,tk0 D t b)=kN T s:=hend
   (repeat(first|refine zzB ?_|apply aD|apply aE|with_reducible first|apply aG|apply aF|apply aK|apply aH|apply aJ|apply aI|apply aL|apply aC))
   refine hx _ _ _ _ (fun e=>by cases e) (eW ?_)
   refine⟨h3,Sub.refl _,?_⟩
   have h9:=hK h3 (n3+2) (by omega) (hf3.mono (by omega)) hkp3
   have e1:(dX T s).2=dE s (tk0 D t b):=by show dE s (kN T s).2=_; rw[← hend]
   have e2:(dX T s).1=true:=by show ((kN T s).1 || s.closed)=true; rw[← hend]; rfl
   rw[e1,e2] at h9
   exact h9 hv3.x
  | true =>
   rw[hon,if_pos rfl] at hend
   (repeat(first|refine zzB ?_|apply aD|apply aE|with_reducible first|apply aG|apply aF|apply aK|apply aH|apply aJ|apply aI|apply aL|apply aC))
   have hM3':MI ro h3 X q.1 q.2 (er D) (tk0 D t b).m:=hM3
   have hmok3:MOk D (tk0 D t b).m:=by rw[← hD]; rw[← hD] at hlk0; exact hlk0.mok
   refine aHh hM3' hokE (aGI hmok3) (hf3.mono (by omega)) fun n4 hn4=>?_
   rw[aN0]
   have hru:rC D (tk0 D t b).m=rC D (i4 D t.m b):=rfl
   rw[hru]
   have hnext:∀ (e':Env) (h':V.T Obj) (n':Nat),e' 0=ptr p→e' 3=ptr q.1→e' 32=rv→e' 33=.int .i64 rest.length→e' 34=.int .i64 i→nx≤n'→dT (mT p qs) h h'→Fr h' n'→ScV ro h' X p qs T most er_ kv tv ev mv bv (dE s (tk1 D t b))→Sl ro (del h' X) rv 1 (bY rest)→jM ro Q' e' h' n':=by
    intro e' h' n' d0 d3 d32 d33 d34 dn dk df dv ds
    unfold jM
    rw[d34]
    (repeat(first|refine zzB ?_|apply aD|apply aE|with_reducible first|apply aG|apply aF|apply aK|apply aH|apply aJ|apply aI|apply aL|apply aC))
    exact hc (j - 1) _ _ _ _ (by omega) ⟨i+1,tk1 D t b,by omega,by omega,d0,d3,d32,d33,rfl,dk,df.mono (by omega),dv,ds,by rw[aIy]; omega,by rw[aCQ]; omega,hlk1,hend⟩ (Sub.refl _)
   by_cases hr:rC D (i4 D t.m b)=-1
   ·have e1:tk1 D t b=tk0 D t b:=by unfold tk1; rw[if_pos hr]
    refine aB1 (by omega) ?_
    (repeat(first|refine zzB ?_|apply aD|apply aE|with_reducible first|apply aG|apply aF|apply aK|apply aH|apply aJ|apply aI|apply aL|apply aC))
    refine hnext _ _ _ e00 e03 e32 e33 e34 ?_ hkp3 ?_ (by rw[e1]; exact hv3) hrv3
    ·omega
    ·exact hf3.mono (by omega)
   ·have e1:tk1 D t b=⟨t.took+1,t.took+1,rC D (i4 D t.m b),t.steps+1,i4 D t.m b⟩:=by unfold tk1; rw[if_neg hr]
    refine aEG (by omega) ?_
    have l10b:=aZ (ro:=ro) (z:=0) hv3.1 (show (scL kv tv ev mv most bv (dE s (tk0 D t b)) er_)[10]?=some (.int .i64 ((t.took+1:Nat):Int)) from rfl)
    have hov4:(scL kv tv ev mv most bv (dE s (tk0 D t b)) er_).set 11 (.int .i64 ((t.took+1:Nat):Int))=scL kv tv ev mv most bv (dE s { tk0 D t b with held:=t.took+1 }) er_:=rfl
    have hv4:=hv3.upd (s':=dE s { tk0 D t b with held:=t.took+1 }) (er':=er_) rfl rfl
    have hf4:Fr (h3.upd p (some (.cells (scL kv tv ev mv most bv (dE s { tk0 D t b with held:=t.took+1 }) er_).toArray aQ))) n3:=hf3.upd (Nat.le_refl _) (hf3.lt' hv3.1)
    have hkp4:dT (mT p qs) h (h3.upd p (some (.cells (scL kv tv ev mv most bv (dE s { tk0 D t b with held:=t.took+1 }) er_).toArray aQ))):=hkp3.upd (List.mem_cons_self ..)
    have hD4:Sub (del h3 X) (del (h3.upd p (some (.cells (scL kv tv ev mv most bv (dE s { tk0 D t b with held:=t.took+1 }) er_).toArray aQ))) X):=dT.del (ids:=[p]) ((Sub.refl _).keepL.upd (by simp)) (fun k hk=>by simp at hk; subst hk; exact hpX) fun k hk=>.inl hk
    generalize hh4:h3.upd p (some (.cells (scL kv tv ev mv most bv (dE s { tk0 D t b with held:=t.took+1 }) er_).toArray aQ))=h4 at hv4 hf4 hkp4 hD4
    have hov5:(scL kv tv ev mv most bv (dE s { tk0 D t b with held:=t.took+1 }) er_).set 12 (.int .i64 (rC D (i4 D t.m b)))=scL kv tv ev mv most bv (dE s (tk1 D t b)) er_:=by rw[e1]; rfl
    have hv5:=hv4.upd (s':=dE s (tk1 D t b)) (er':=er_) (by rw[e1]; rfl) (by rw[e1]; rfl)
    have hf5:Fr (h4.upd p (some (.cells (scL kv tv ev mv most bv (dE s (tk1 D t b)) er_).toArray aQ))) n3:=hf4.upd (Nat.le_refl _) (hf3.lt' hv3.1)
    have hkp5:dT (mT p qs) h (h4.upd p (some (.cells (scL kv tv ev mv most bv (dE s (tk1 D t b)) er_).toArray aQ))):=hkp4.upd (List.mem_cons_self ..)
    have hD5:Sub (del h4 X) (del (h4.upd p (some (.cells (scL kv tv ev mv most bv (dE s (tk1 D t b)) er_).toArray aQ))) X):=dT.del (ids:=[p]) ((Sub.refl _).keepL.upd (by simp)) (fun k hk=>by simp at hk; subst hk; exact hpX) fun k hk=>.inl hk
    (repeat(first|refine aA (by simp (disch:=first|omega|exact nnN _|assumption) only [BB,B2,↓reduceIte,Nat.reduceLeDiff,Nat.reduceAdd,CC,a8,l10b]<;>rfl) ?_|apply aD|apply aE|with_reducible first|apply aG|apply aF|apply aK|apply aH|apply aJ|apply aI|apply aL|apply aC))
    refine aA (dG hv3.1 (by simp[scL]) rfl rfl) ?_
    rw[hov4,hh4]
    (repeat(first|refine aA (by simp (disch:=first|omega|exact nnN _|assumption) only [BB,B2,↓reduceIte,Nat.reduceLeDiff,Nat.reduceAdd,CC,a8]<;>rfl) ?_|apply aD|apply aE|with_reducible first|apply aG|apply aF|apply aK|apply aH|apply aJ|apply aI|apply aL|apply aC))
    refine aA (dG hv4.1 (by simp[scL]) rfl rfl) ?_
    rw[hov5]
    refine hnext _ _ _ e00 e03 e32 e33 e34 ?_ hkp5 ?_ hv5 ((hrv3.sub hD4).sub hD5)
    ·omega
    ·exact hf5.mono (by omega)
 ·(repeat(first|refine zzB ?_|apply aD|apply aE|with_reducible first|apply aG|apply aF|apply aK|apply aH|apply aJ|apply aI|apply aL|apply aC))
  refine hx _ _ _ _ (fun e=>by cases e) (eA (cR ?_))
  have hil:i=rest.length:=by omega
  rw[hil,List.drop_length] at hend
  have hend:(false,t)=kN T s:=hend
  have hfin:∀ (e':Env) n',e' 0=ptr p→nx'≤n'→jL ro K e' h' n':=by
   intro e' n' d0 dn
   unfold jL
   rw[d0]
   have l14:=aZ (ro:=ro) (z:=0) g1' (show (scL kv tv ev mv most bv (dE s t) er_)[14]?=some (.bool s.closed) from rfl)
   (repeat(first|refine aA (by simp (disch:=first|omega|exact nnN _|assumption) only [BB,B2,↓reduceIte,Nat.reduceLeDiff,Nat.reduceAdd,CC,a8,l14]<;>rfl) ?_|apply aD|apply aE|with_reducible first|apply aG|apply aF|apply aK|apply aH|apply aJ|apply aI|apply aL|apply aC))
   refine⟨h',Sub.refl _,?_⟩
   have h9:=hK h' (n'+5) (by omega) (hf'.mono (by omega)) hkp
   have e1:(dX T s).2=dE s t:=by show dE s (kN T s).2=_; rw[← hend]
   have e2:(dX T s).1=s.closed:=by show ((kN T s).1 || s.closed)=_; rw[← hend]; rfl
   rw[e1,e2] at h9
   exact h9 hv'.x
  exact hfin _ _ e00 (by omega)
set_option maxRecDepth 8000 in
set_option maxHeartbeats 1000000 in
theorem aIl (hm:ScX ro h X p qs T most er_ s) (hT:TabR T) (hI:ScI T s) (hTl:T.entries.length≤1000) (hsz:s.steps+s.kept.length≤90000) (hf:Fr h nx)
  (hK:∀ h' nx',nx≤nx'→Fr h' nx'→dT (mT p qs) h h'→ScX ro h' X p qs T most er_ (dX T s).2→K (.bool (dX T s).1) h' nx'):aN Tryz.prog ro mS [ptr p] h nx K:=by
 obtain⟨kv,tv,ev,mv,bv,hv⟩:=id hm
 have hv:ScV ro h X p qs T most er_ kv tv ev mv bv s:=hv
 obtain⟨he1,he2,m,hm9,hm8⟩:=hI.at
 obtain⟨q,hq,hMI,hmap⟩:=hv.at he1 hm9
 have hc:=hI.c
 have hok:=hT.ok _ he2
 obtain⟨mk1,mk2,mk3⟩:=hI.ms _ _ _ he1 hm9
 have hC512:(er (qS T s).a).counts.length≤512:=(eR hok).2.1
 have g1:=hv.1
 apply zD
 unfold uH
 have l4:=aZ (ro:=ro) (z:=0) g1 (show (scL kv tv ev mv most bv s er_)[4]?=some mv from rfl)
 have hmv:Sl ro h mv 1 (rB qs):=hv.2.2.2.2.1.sub (eX h X)
 (repeat(first|refine aA (by simp (disch:=first|omega|exact nnN _|assumption) only [BB,B2,↓reduceIte,Nat.reduceLeDiff,Nat.reduceAdd,CC,a8]<;>rfl) ?_|apply aD|apply aE|with_reducible first|apply aG|apply aF|apply aK|apply aH|apply aJ|apply aI|apply aL|apply aC))
 refine aA l4 ?_
 refine aBe hm (by omega) fun n1 hn1=>⟨fS g1 g1,?_⟩
 have hql:=(List.getElem?_eq_some_iff.1 hq).1
 have hqe:=(List.getElem?_eq_some_iff.1 hq).2
 refine aA (hmv.ix .i64 (by rw[vQ]; exact hql)) ?_
 have hld:=hmv.load1 (aFv hql)
 rw[hqe] at hld
 refine aA hld ?_
 have LA:=aEB (ro:=ro) (z:=0) (off:=10) (n:=3) g1 (by simp[scL])
 have hdt:((scL kv tv ev mv most bv s er_).drop 10).take 3=[.int .i64 (s.took:Int),.int .i64 (s.held:Int),.int .i64 s.rule]:=rfl
 rw[hdt] at LA
 (repeat(first|refine aA (by simp (disch:=first|omega|exact nnN _|assumption) only [BB,B2,↓reduceIte,Nat.reduceLeDiff,Nat.reduceAdd,CC,a8]<;>rfl) ?_|apply aD|apply aE|with_reducible first|apply aG|apply aF|apply aK|apply aH|apply aJ|apply aI|apply aL|apply aC))
 refine aA LA ?_
 refine aA aBn ?_
 refine aA aL9 ?_
 by_cases ht:s.took=0
 ·have hh0:s.held=0:=by have:=hI.ok.held; omega
  have hr0:s.rule=-1:=by
   by_cases hr:s.rule=-1
   ·exact hr
   ·have:=hI.ok.some hr; omega
  rw[ht,hh0,hr0]
  refine aA aPX ?_
  (repeat(first|refine zzB ?_|apply aD|apply aE|with_reducible first|apply aG|apply aF|apply aK|apply aH|apply aJ|apply aI|apply aL|apply aC))
  refine aGY hMI (aGI mk1) hC512 (hf.mono (by omega)) mk2 (by omega) fun h2 n2 hn2 hf2 hk2 hM2=>?_
  have hv2:=hv.step hq hmap hk2 hM2
  have hts:o9 s=⟨s.took,s.held,s.rule,s.steps,aAq m⟩:=by unfold o9; rw[if_pos ht,hm8]
  refine aKZ (K0:=0) (kv:=kv) (tv:=tv) (ev:=ev) (mv:=mv) (bv:=bv) (q:=q) (t0:=o9 s) hT hI ?_ hf2 hq rfl rfl (hI.lk hT) rfl hsz rfl rfl fun h' n' h3 h4 h5 h6=>hK h' n' (by omega) h4 ((hk2.mono (aGo (List.mem_of_getElem? hq))).trans h5) h6
  rw[hts]
  exact hv2
 ·refine aA (aPY (by omega)) ?_
  (repeat(first|refine zzB ?_|apply aD|apply aE|with_reducible first|apply aG|apply aF|apply aK|apply aH|apply aJ|apply aI|apply aL|apply aC))
  have hts:o9 s=⟨s.took,s.held,s.rule,s.steps,m⟩:=by unfold o9; rw[if_neg ht,hm8]
  refine aKZ (K0:=0) (kv:=kv) (tv:=tv) (ev:=ev) (mv:=mv) (bv:=bv) (q:=q) (t0:=o9 s) hT hI ?_ (hf.mono (by omega)) hq rfl rfl (hI.lk hT) rfl hsz rfl rfl fun h' n' h3 h4 h5 h6=>hK h' n' (by omega) h4 h5 h6
  rw[hts]
  have:dE s ⟨s.took,s.held,s.rule,s.steps,m⟩=s:=by
   unfold dE
   simp only[aN4 hm9]
  rw[this]
  exact hv
end
end V
end Go.Proofs.YtcaccnneblghgaaGreat
namespace Go.Proofs.YtcaccnneblghgaaGreat
namespace V
attribute [local irreducible] rE aN aB
end V
end Go.Proofs.YtcaccnneblghgaaGreat
namespace Go.Proofs.YtcaccnneblghgaaGreat
namespace V
attribute [local irreducible] aB ifP aR cS eQ exP cN
def qX (t:TokD):List Value:=[.int .i64 t.rule,.int .i64 (t.from_:Int),.int .i64 (t.to:Int)]
def pI (l:List TokD):List (List Value):=l.map qX
theorem aGG (l:List TokD):(pI l).length=l.length:=by simp[pI]
section
variable {ro:Ro}{h:T Obj}{nx:Nat}{K:KV}
end
end V
end Go.Proofs.YtcaccnneblghgaaGreat
namespace Go.Proofs.YtcaccnneblghgaaGreat
namespace V
attribute [local irreducible] aB ifP aR cS eQ exP cN
theorem aDV:zer Tryz.prog bJ=some (.agg #[.int .i64 0,.int .i64 0,.int .i64 0]):=by kernel_rfl
theorem aLE (a b c:Int):fF Tryz.prog bJ [(0,.int .i64 a),(1,.int .i64 b),(2,.int .i64 c)]=some (.agg #[.int .i64 a,.int .i64 b,.int .i64 c]):=by kernel_rfl
section
variable {ro:Ro}{h h0 h':T Obj}{nx nx0:Nat}{K:KV}{X:List Nat}{p:Nat}{qs:List MqD}{T:TabD}{most er_ er':Int}{kv tv ev mv bv:Value}{s s':ScD}
theorem ScV.fin {bv':Value} (hm:ScV ro h0 X p qs T most er_ kv tv ev mv bv s) (hk:dT [p] h0 h') (hg:h'.get p=some (.cells (scL kv tv ev mv most bv' s' er').toArray aQ)) (hms:s'.ms=s.ms) (hb:Sl ro (del h0 X) bv' 1 (bY s'.kept)):ScV ro h' X p qs T most er' kv tv ev mv bv' s':=by
 obtain⟨g1,g2,g3,g4,g5,g6,g7,g8,g9⟩:=hm
 have hX:∀ k∈[p],k∈X:=fun k hk=>by simp at hk; subst hk; exact g8
 have hD:Sub (del h0 X) (del h' X):=hk.del hX fun k hk=>.inl hk
 refine⟨hg,g2.sub hD,g3.sub hD,g4.sub hD (pY.sub hD),g5.sub hD,hb.sub hD,?_,g8,g9⟩
 rw[hms]
 exact g7.keep hk hX (fun q hq k hk=>by simp at hk; subst hk; exact g9 q hq) (fun k hk=>.inl hk) fun k hk=>hk
set_option maxRecDepth 8000 in
set_option maxHeartbeats 2000000 in
theorem aM1 {tb rb:Nat}{e0:Env} (hv:ScV ro h0 X p qs T most er_ kv tv ev mv bv s) (hT:TabR T) (hI:ScI T s) (hk:s.kept≠[]) (hsz:s.at_+s.kept.length≤90000) (hf:Fr h nx) (hf0:Fr h0 nx0) (hs:Sub h0 h) (htb:nx0≤tb) (hrb:nx0≤rb) (hne:rb≠tb)
  (gt:h.get tb=some (.cells (qX (qP T s)).toArray bJ)) (gr:h.get rb=some (.cells [Value.int .i64 0,.int .i64 0,.int .i64 0].toArray bJ)) (f0:e0 0=ptr p) (f2:e0 2=ptr rb) (f3:e0 3=ptr tb) (hn:nx0≤nx)
  (hK:∀ h' nx',nx≤nx'→Fr h' nx'→dT [p] h0 h'→ScX ro h' X p qs T most er_ (mL T s)→K (.agg (qX (qP T s)).toArray) h' nx'):jW ro K e0 h nx:=by
 obtain⟨hl1,hl2⟩:=aBY hI.ok hk
 have g10:=hv.1
 have g1:=hs _ _ g10
 have hplt:=hf0.lt' g10
 have hbv:Sl ro (del h0 X) bv 1 (bY s.kept):=hv.2.2.2.2.2.1
 have hpX:p∈X:=hv.2.2.2.2.2.2.2.1
 have hbvh:=(hbv.sub (eX h0 X)).sub hs
 unfold jW
 rw[f0,f3]
 have t0:=aZ (ro:=ro) (z:=0) gt (show (qX (qP T s))[0]?=some (.int .i64 (mJ T s)) from rfl)
 have t1:=aZ (ro:=ro) (z:=0) gt (show (qX (qP T s))[1]?=some (.int .i64 (s.at_:Int)) from rfl)
 have t2:=aZ (ro:=ro) (z:=0) gt (show (qX (qP T s))[2]?=some (.int .i64 ((s.at_+fL s:Nat):Int)) from rfl)
 have l6:=aZ (ro:=ro) (z:=0) g1 (show (scL kv tv ev mv most bv s er_)[6]?=some bv from rfl)
 (repeat(first|refine zzB ?_|apply aD|apply aE|with_reducible first|apply aG|apply aF|apply aK|apply aH|apply aJ|apply aI|apply aL|apply aC))
 refine aA t2 ?_
 (repeat(first|refine zzB ?_|apply aD|apply aE|with_reducible first|apply aG|apply aF|apply aK|apply aH|apply aJ|apply aI|apply aL|apply aC))
 refine aA t1 ?_
 have hsub1:aO .sub (.int .i64 ((s.at_+fL s:Nat):Int)) (.int .i64 (s.at_:Int))=some (.int .i64 (fL s:Int)):=by
  rw[dO,show ((s.at_+fL s:Nat):Int) - (s.at_:Int)=(fL s:Int) by omega,dW (by omega) (by omega)]
 refine aA hsub1 ?_
 (repeat(first|refine aA (by simp (disch:=first|omega|exact nnN _|assumption) only [BB,B2,↓reduceIte,Nat.reduceLeDiff,Nat.reduceAdd,CC,a8,l6]<;>rfl) ?_|apply aD|apply aE|with_reducible first|apply aG|apply aF|apply aK|apply aH|apply aJ|apply aI|apply aL|apply aC))
 rw[show ((fL s:Nat):Int) - 1=((fL s - 1:Nat):Int) by omega]
 refine aA (hbvh.ix .i64 (by rw[dV]; omega)) ?_
 refine aA (hbvh.load1 (sM (show fL s - 1 < s.kept.length by omega))) ?_
 have hline:aO .eql (.int .u8 (s.kept[fL s - 1]:Nat)) (.int .u8 10)=some (.bool (decide (s.kept.getD (fL s - 1) 0=10))):=by
  rw[aT,List.getD_eq_getElem?_getD,List.getElem?_eq_getElem (show fL s - 1 < s.kept.length by omega)]
  have:(((s.kept[fL s - 1]:Nat):Int)=10) ↔ ((some s.kept[fL s - 1]).getD 0=10):=by
   show (((s.kept[fL s - 1]:Nat):Int)=10) ↔ (s.kept[fL s - 1]=10)
   omega
  simp only[this]
 refine aA hline ?_
 (repeat(first|refine aA (by simp (disch:=first|omega|exact nnN _|assumption) only [BB,B2,↓reduceIte,Nat.reduceLeDiff,Nat.reduceAdd,CC,a8]<;>rfl) ?_|apply aD|apply aE|with_reducible first|apply aG|apply aF|apply aK|apply aH|apply aJ|apply aI|apply aL|apply aC))
 generalize hL:decide (s.kept.getD (fL s - 1) 0=10)=L
 refine aA (dG g1 (by simp[scL]) rfl rfl) ?_
 have hov1:(scL kv tv ev mv most bv s er_).set 8 (.bool L)=scL kv tv ev mv most bv { s with line:=L } er_:=rfl
 rw[hov1]
 generalize hh1:h.upd p (some (.cells (scL kv tv ev mv most bv { s with line:=L } er_).toArray aQ))=h1
 have g2:h1.get p=some (.cells (scL kv tv ev mv most bv { s with line:=L } er_).toArray aQ):=by rw[← hh1,V.T.get_upd_same]
 have gt1:h1.get tb=some (.cells (qX (qP T s)).toArray bJ):=by rw[← hh1,V.T.get_upd_ne _ _ (by omega)]; exact gt
 have gr1:h1.get rb=some (.cells [Value.int .i64 0,.int .i64 0,.int .i64 0].toArray bJ):=by rw[← hh1,V.T.get_upd_ne _ _ (by omega)]; exact gr
 have hk1:dT [p] h0 h1:=by rw[← hh1]; exact hs.keepL.upd (by simp)
 have hf1:Fr h1 nx:=by rw[← hh1]; exact hf.upd (Nat.le_refl _) (by omega)
 have l62:=aZ (ro:=ro) (z:=0) g2 (show (scL kv tv ev mv most bv { s with line:=L } er_)[6]?=some bv from rfl)
 (repeat(first|refine aA (by simp (disch:=first|omega|exact nnN _|assumption) only [BB,B2,↓reduceIte,Nat.reduceLeDiff,Nat.reduceAdd,CC,a8,l62]<;>rfl) ?_|apply aD|apply aE|with_reducible first|apply aG|apply aF|apply aK|apply aH|apply aJ|apply aI|apply aL|apply aC))
 obtain⟨rv,hrv1,hrv2⟩:=Sl.drop (P:=Tryz.prog) hbv mI aHC (n:=fL s) (by rw[dV]; exact hl2) .i64
 have hdr:(bY s.kept).drop (fL s)=bY (s.kept.drop (fL s)):=by simp[bY]
 rw[hdr] at hrv2
 refine aA hrv1 ?_
 have t21:=aZ (ro:=ro) (z:=0) gt1 (show (qX (qP T s))[2]?=some (.int .i64 ((s.at_+fL s:Nat):Int)) from rfl)
 (repeat(first|refine zzB ?_|apply aD|apply aE|with_reducible first|apply aG|apply aF|apply aK|apply aH|apply aJ|apply aI|apply aL|apply aC))
 refine aA t21 ?_
 have hrvf:∃ o n c,rv=.slice o n c:=by
  rcases hrv2 with ⟨h9,_⟩ | ⟨a,c,h9,_⟩
  ·exact⟨_,_,_,h9⟩
  ·exact⟨_,_,_,h9⟩
 (repeat(first|refine aA (by simp (disch:=first|omega|exact nnN _|assumption) only [BB,B2,↓reduceIte,Nat.reduceLeDiff,Nat.reduceAdd,CC,a8]<;>rfl) ?_|apply aD|apply aE|with_reducible first|apply aG|apply aF|apply aK|apply aH|apply aJ|apply aI|apply aL|apply aC))
 refine aA (dG g2 (by simp[scL]) hrv2.ok (by obtain⟨o,n,c,h9⟩:=hrvf; rw[h9]; rfl)) ?_
 have hov2:(scL kv tv ev mv most bv { s with line:=L } er_).set 6 rv=scL kv tv ev mv most rv { s with line:=L,kept:=s.kept.drop (fL s) } er_:=rfl
 rw[hov2]
 generalize hh2:h1.upd p (some (.cells (scL kv tv ev mv most rv { s with line:=L,kept:=s.kept.drop (fL s) } er_).toArray aQ))=h2
 have g3:h2.get p=some (.cells (scL kv tv ev mv most rv { s with line:=L,kept:=s.kept.drop (fL s) } er_).toArray aQ):=by rw[← hh2,V.T.get_upd_same]
 have gt2:h2.get tb=some (.cells (qX (qP T s)).toArray bJ):=by rw[← hh2,V.T.get_upd_ne _ _ (by omega)]; exact gt1
 have gr2:h2.get rb=some (.cells [Value.int .i64 0,.int .i64 0,.int .i64 0].toArray bJ):=by rw[← hh2,V.T.get_upd_ne _ _ (by omega)]; exact gr1
 have hk2:dT [p] h0 h2:=by rw[← hh2]; exact hk1.upd (by simp)
 have hf2:Fr h2 nx:=by rw[← hh2]; exact hf1.upd (Nat.le_refl _) (by omega)
 refine⟨fS gt1 gt2,?_⟩
 (repeat(first|refine aA (by simp (disch:=first|omega|exact nnN _|assumption) only [BB,B2,↓reduceIte,Nat.reduceLeDiff,Nat.reduceAdd,CC,a8]<;>rfl) ?_|apply aD|apply aE|with_reducible first|apply aG|apply aF|apply aK|apply aH|apply aJ|apply aI|apply aL|apply aC))
 refine aA (dG g3 (by simp[scL]) rfl rfl) ?_
 have hov3:(scL kv tv ev mv most rv { s with line:=L,kept:=s.kept.drop (fL s) } er_).set 7 (.int .i64 ((s.at_+fL s:Nat):Int))=scL kv tv ev mv most rv { s with line:=L,kept:=s.kept.drop (fL s),at_:=s.at_+fL s } er_:=rfl
 rw[hov3]
 generalize hh3:h2.upd p (some (.cells (scL kv tv ev mv most rv { s with line:=L,kept:=s.kept.drop (fL s),at_:=s.at_+fL s } er_).toArray aQ))=h3
 have g4:h3.get p=some (.cells (scL kv tv ev mv most rv { s with line:=L,kept:=s.kept.drop (fL s),at_:=s.at_+fL s } er_).toArray aQ):=by rw[← hh3,V.T.get_upd_same]
 have gt3:h3.get tb=some (.cells (qX (qP T s)).toArray bJ):=by rw[← hh3,V.T.get_upd_ne _ _ (by omega)]; exact gt2
 have gr3:h3.get rb=some (.cells [Value.int .i64 0,.int .i64 0,.int .i64 0].toArray bJ):=by rw[← hh3,V.T.get_upd_ne _ _ (by omega)]; exact gr2
 have hk3:dT [p] h0 h3:=by rw[← hh3]; exact hk2.upd (by simp)
 have hf3:Fr h3 nx:=by rw[← hh3]; exact hf2.upd (Nat.le_refl _) (by omega)
 refine aA aBn ?_
 (repeat(first|refine aA (by simp (disch:=first|omega|exact nnN _|assumption) only [BB,B2,↓reduceIte,Nat.reduceLeDiff,Nat.reduceAdd,CC,a8]<;>rfl) ?_|apply aD|apply aE|with_reducible first|apply aG|apply aF|apply aK|apply aH|apply aJ|apply aI|apply aL|apply aC))
 refine aA (aEd (vs:=[.int .i64 0,.int .i64 0,.int .i64 (-1)]) g4 rfl rfl (by simp[scL]) rfl) ?_
 have hov4:over (scL kv tv ev mv most rv { s with line:=L,kept:=s.kept.drop (fL s),at_:=s.at_+fL s } er_) 10 [.int .i64 0,.int .i64 0,.int .i64 (-1)]=scL kv tv ev mv most rv { s with line:=L,kept:=s.kept.drop (fL s),at_:=s.at_+fL s,took:=0,held:=0,rule:=-1 } er_:=rfl
 rw[hov4]
 generalize hh4:h3.upd p (some (.cells (scL kv tv ev mv most rv { s with line:=L,kept:=s.kept.drop (fL s),at_:=s.at_+fL s,took:=0,held:=0,rule:=-1 } er_).toArray aQ))=h4
 have g5:h4.get p=some (.cells (scL kv tv ev mv most rv { s with line:=L,kept:=s.kept.drop (fL s),at_:=s.at_+fL s,took:=0,held:=0,rule:=-1 } er_).toArray aQ):=by rw[← hh4,V.T.get_upd_same]
 have gt4:h4.get tb=some (.cells (qX (qP T s)).toArray bJ):=by rw[← hh4,V.T.get_upd_ne _ _ (by omega)]; exact gt3
 have gr4:h4.get rb=some (.cells [Value.int .i64 0,.int .i64 0,.int .i64 0].toArray bJ):=by rw[← hh4,V.T.get_upd_ne _ _ (by omega)]; exact gr3
 have hk4:dT [p] h0 h4:=by rw[← hh4]; exact hk3.upd (by simp)
 have hf4:Fr h4 nx:=by rw[← hh4]; exact hf3.upd (Nat.le_refl _) (by omega)
 have hj2:∀ (e':Env) (h5:V.T Obj) (n':Nat),e' 2=ptr rb→e' 3=ptr tb→nx≤n'→Fr h5 n'→dT [p] h0 h5→h5.get tb=some (.cells (qX (qP T s)).toArray bJ)→h5.get rb=some (.cells [Value.int .i64 0,.int .i64 0,.int .i64 0].toArray bJ) →
   h5.get p=some (.cells (scL kv tv ev mv most rv (mL T s) er_).toArray aQ)→jX ro K e' h5 n':=by
  intro e' h5 n' d2 d3 dn df dk dt dr dp
  unfold jX
  rw[d2,d3]
  refine aA (dI dt rfl) ?_
  refine aA (l5 (vs:=qX (qP T s)) dr rfl rfl rfl rfl) ?_
  refine aA (dI (by rw[V.T.get_upd_same]) rfl) ?_
  refine⟨_,Sub.refl _,hK _ _ (by omega) ((df.mono (by omega)).upd (Nat.le_refl _) (by have:=df.lt' dr; omega)) ?_ ?_⟩
  ·intro k o hko hnk
   have:=hf0.lt' hko
   rw[V.T.get_upd_ne _ _ (by omega)]
   exact dk k o hko hnk
  ·refine (ScV.fin hv (bv':=rv) (s':=mL T s) (er':=er_) ?_ ?_ rfl hrv2).x
   ·intro k o hko hnk
    have:=hf0.lt' hko
    rw[V.T.get_upd_ne _ _ (by omega)]
    exact dk k o hko hnk
   ·rw[V.T.get_upd_ne _ _ (by omega)]
    exact dp
 have t04:=aZ (ro:=ro) (z:=0) gt4 (show (qX (qP T s))[0]?=some (.int .i64 (mJ T s)) from rfl)
 (repeat(first|refine zzB ?_|apply aD|apply aE|with_reducible first|apply aG|apply aF|apply aK|apply aH|apply aJ|apply aI|apply aL|apply aC))
 refine aA t04 ?_
 by_cases hr:mJ T s=-1
 ·have hcut:mL T s={ s with line:=L,kept:=s.kept.drop (fL s),at_:=s.at_+fL s,took:=0,held:=0,rule:=-1 }:=by
   unfold mL aDb
   rw[hL,if_neg (by rw[hr]; simp)]
  refine aB1 hr ?_
  (repeat(first|refine zzB ?_|apply aD|apply aE|with_reducible first|apply aG|apply aF|apply aK|apply aH|apply aJ|apply aI|apply aL|apply aC))
  refine hj2 _ _ _ f2 f3 ?_ ?_ hk4 gt4 gr4 (by rw[hcut]; exact g5)
  ·omega
  ·exact hf4.mono (by omega)
 ·obtain⟨he1,he2,m9,hm9,_⟩:=hI.at
  have hrng:0≤mJ T s∧mJ T s < T.kinds.length:=by
   have hsr:s.rule≠-1:=fun e=>hr (by unfold mJ; rw[if_pos e])
   have h9:=hI.ru.resolve_left hsr
   unfold mJ
   rw[if_neg hsr,List.getD_eq_getElem?_getD,List.getElem?_eq_getElem (show s.rule.toNat < (qS T s).rules.length by omega)]
   exact hT.rk _ he2 _ (List.getElem_mem _)
  have htl:(mJ T s).toNat < T.to.length:=by rw[hT.to]; omega
  have htv:Sl ro h4 tv 1 (kJ T.to):=hv.2.2.1.sub (hk4.delS fun k hk=>by simp at hk; subst hk; exact hpX)
  have hix:=Sl.ixI htv .i64 hrng.1 (by rw[eP]; omega)
  have hld:=htv.load1 (j7 htl)
  have htb9:=hT.tb _ (List.getElem_mem htl)
  have hcl:=hT.len
  have hgd:T.to.getD (mJ T s).toNat 0=T.to[(mJ T s).toNat]:=by rw[List.getD_eq_getElem?_getD,List.getElem?_eq_getElem htl]; rfl
  generalize T.to[(mJ T s).toNat]=tv9 at hld htb9 hgd
  have l24:=aZ (ro:=ro) (z:=0) g5 (show (scL kv tv ev mv most rv { s with line:=L,kept:=s.kept.drop (fL s),at_:=s.at_+fL s,took:=0,held:=0,rule:=-1 } er_)[2]?=some tv from rfl)
  refine aEG hr ?_
  (repeat(first|refine aA (by simp (disch:=first|omega|exact nnN _|assumption) only [BB,B2,↓reduceIte,Nat.reduceLeDiff,Nat.reduceAdd,CC,a8,l24,t04]<;>rfl) ?_|apply aD|apply aE|with_reducible first|apply aG|apply aF|apply aK|apply aH|apply aJ|apply aI|apply aL|apply aC))
  refine aA hix ?_
  (repeat(first|refine zzB ?_|apply aD|apply aE|with_reducible first|apply aG|apply aF|apply aK|apply aH|apply aJ|apply aI|apply aL|apply aC))
  refine aA hld ?_
  (repeat(first|refine zzB ?_|apply aD|apply aE|with_reducible first|apply aG|apply aF|apply aK|apply aH|apply aJ|apply aI|apply aL|apply aC))
  by_cases htv0:0≤tv9
  ·refine aPP htv0 ?_
   (repeat(first|refine aA (by simp (disch:=first|omega|exact nnN _|assumption) only [BB,B2,↓reduceIte,Nat.reduceLeDiff,Nat.reduceAdd,CC,a8,l24,t04]<;>rfl) ?_|apply aD|apply aE|with_reducible first|apply aG|apply aF|apply aK|apply aH|apply aJ|apply aI|apply aL|apply aC))
   refine aA hix ?_
   (repeat(first|refine zzB ?_|apply aD|apply aE|with_reducible first|apply aG|apply aF|apply aK|apply aH|apply aJ|apply aI|apply aL|apply aC))
   refine aA hld ?_
   (repeat(first|refine aA (by simp (disch:=first|omega|exact nnN _|assumption) only [BB,B2,↓reduceIte,Nat.reduceLeDiff,Nat.reduceAdd,CC,a8]<;>rfl) ?_|apply aD|apply aE|with_reducible first|apply aG|apply aF|apply aK|apply aH|apply aJ|apply aI|apply aL|apply aC))
   have hcut:mL T s={ s with line:=L,kept:=s.kept.drop (fL s),at_:=s.at_+fL s,took:=0,held:=0,rule:=-1,cond:=tv9.toNat }:=by
    unfold mL aDb
    rw[hL,hgd,if_pos ⟨hr,htv0⟩]
   refine aA (dG g5 (by simp[scL]) rfl rfl) ?_
   have hov5:(scL kv tv ev mv most rv { s with line:=L,kept:=s.kept.drop (fL s),at_:=s.at_+fL s,took:=0,held:=0,rule:=-1 } er_).set 9 (.int .i64 tv9)=scL kv tv ev mv most rv (mL T s) er_:=by
    rw[hcut]
    obtain⟨n9,rfl⟩:∃ n9:Nat,tv9=(n9:Int):=⟨tv9.toNat,by omega⟩
    rfl
   rw[hov5]
   refine hj2 _ _ _ f2 f3 ?_ ?_ ?_ ?_ ?_ ?_
   ·omega
   ·exact (hf4.mono (by omega)).upd (Nat.le_refl _) (by omega)
   ·exact hk4.upd (by simp)
   ·rw[V.T.get_upd_ne _ _ (by omega)]; exact gt4
   ·rw[V.T.get_upd_ne _ _ (by omega)]; exact gr4
   ·rw[V.T.get_upd_same]
  ·refine aPO (by omega) ?_
   (repeat(first|refine zzB ?_|apply aD|apply aE|with_reducible first|apply aG|apply aF|apply aK|apply aH|apply aJ|apply aI|apply aL|apply aC))
   have hcut:mL T s={ s with line:=L,kept:=s.kept.drop (fL s),at_:=s.at_+fL s,took:=0,held:=0,rule:=-1 }:=by
    unfold mL aDb
    rw[hL,hgd,if_neg (fun e=>htv0 e.2)]
   refine hj2 _ _ _ f2 f3 ?_ ?_ hk4 gt4 gr4 (by rw[hcut]; exact g5)
   ·omega
   ·exact hf4.mono (by omega)
set_option maxRecDepth 8000 in
set_option maxHeartbeats 2000000 in
theorem aJx (hm:ScX ro h X p qs T most er_ s) (hT:TabR T) (hI:ScI T s) (hTl:T.entries.length≤1000) (hk:s.kept≠[]) (hsz:s.at_+s.kept.length≤90000) (hf:Fr h nx)
  (hK:∀ h' nx',nx≤nx'→Fr h' nx'→dT [p] h h'→ScX ro h' X p qs T most er_ (mL T s)→K (.agg (qX (qP T s)).toArray) h' nx'):aN Tryz.prog ro nK [ptr p] h nx K:=by
 obtain⟨kv,tv,ev,mv,bv,hv⟩:=id hm
 have hv:ScV ro h X p qs T most er_ kv tv ev mv bv s:=hv
 obtain⟨he1,he2,m9,hm9,_⟩:=hI.at
 have g0:=hv.1
 have hpl:=hf.lt' g0
 have hc:=hI.c
 have hat:s.at_≤90000:=by omega
 have hkl:0 < s.kept.length:=List.length_pos_iff.2 hk
 apply aAB
 unfold vR
 refine aA aDV ?_
 refine aGi (m:=nx) hf (Nat.le_refl _) fun h1 hs1 hf1 g1 _=>?_
 have g1:h1.get nx=some (.cells [Value.int .i64 0,.int .i64 0,.int .i64 0].toArray bJ):=g1
 have g01:=hs1 _ _ g0
 have l7:=aZ (ro:=ro) (z:=0) g01 (show (scL kv tv ev mv most bv s er_)[7]?=some (.int .i64 (s.at_:Int)) from rfl)
 (repeat(first|refine aA (by simp (disch:=first|omega|exact nnN _|assumption) only [BB,B2,↓reduceIte,Nat.reduceLeDiff,Nat.reduceAdd,CC,a8,l7]<;>rfl) ?_|apply aD|apply aE|with_reducible first|apply aG|apply aF|apply aK|apply aH|apply aJ|apply aI|apply aL|apply aC))
 refine aA (aLE _ _ _) ?_
 refine jH (x:=[.int .i64 (-1),.int .i64 (s.at_:Int),.int .i64 ((s.at_:Int)+1)]) (n:=3) aDV rfl rfl rfl rfl hf1 (by omega) fun h2 hs2 hf2 g2 _=>?_
 have g02:=hs2 _ _ g01
 have g12:=hs2 _ _ g1
 have l12:=aZ (ro:=ro) (z:=0) g02 (show (scL kv tv ev mv most bv s er_)[12]?=some (.int .i64 s.rule) from rfl)
 (repeat(first|refine aA (by simp (disch:=first|omega|exact nnN _|assumption) only [BB,B2,↓reduceIte,Nat.reduceLeDiff,Nat.reduceAdd,CC,a8,l12]<;>rfl) ?_|apply aD|apply aE|with_reducible first|apply aG|apply aF|apply aK|apply aH|apply aJ|apply aI|apply aL|apply aC))
 by_cases hr:s.rule=-1
 ·refine aB1 hr ?_
  (repeat(first|refine zzB ?_|apply aD|apply aE|with_reducible first|apply aG|apply aF|apply aK|apply aH|apply aJ|apply aI|apply aL|apply aC))
  have htok:qX (qP T s)=[.int .i64 (-1),.int .i64 (s.at_:Int),.int .i64 ((s.at_:Int)+1)]:=by
   unfold qP qX mJ fL
   rw[if_pos hr,if_pos hr]; rfl
  refine aM1 (kv:=kv) (tv:=tv) (ev:=ev) (mv:=mv) (bv:=bv) (tb:=nx+11) (rb:=nx) hv hT hI hk hsz ?_ hf (hs1.trans hs2) (by omega) (by omega) (by omega) (by rw[htok]; exact g2) g12 rfl rfl rfl (by omega) fun h' n' h3 h4 h5 h6=>hK h' n' (by omega) h4 h5 h6
  exact hf2.mono (by omega)
 ·refine aEG hr ?_
  have hru:=hI.ru.resolve_left hr
  have hev:=hv.2.2.2.1
  have hev2:SlR ro h2 ev 260 (pY ro h2) T.entries:=hev.sub ((eX h X).trans (hs1.trans hs2)) (pY.sub ((eX h X).trans (hs1.trans hs2)))
  have l3:=aZ (ro:=ro) (z:=0) g02 (show (scL kv tv ev mv most bv s er_)[3]?=some ev from rfl)
  (repeat(first|refine aA (by simp (disch:=first|omega|exact nnN _|assumption) only [BB,B2,↓reduceIte,Nat.reduceLeDiff,Nat.reduceAdd,CC,a8,l3]<;>rfl) ?_|apply aD|apply aE|with_reducible first|apply aG|apply aF|apply aK|apply aH|apply aJ|apply aI|apply aL|apply aC))
  have hm2:ScX ro h2 X p qs T most er_ s:=(hv.sub (hs1.trans hs2)).x
  refine aBe hm2 (by omega) fun n1 hn1=>⟨fS g02 g02,?_⟩
  have hel:=(List.getElem?_eq_some_iff.1 he1).1
  have hee:=(List.getElem?_eq_some_iff.1 he1).2
  obtain⟨y,⟨rv,hy0,hrv⟩,hy2,hy3,hy4,hy5⟩:=hev2.at hel
  rw[hee] at hrv
  refine aA (hev2.ix .i64 hel) ?_
  refine aA (hy4 259) ?_
  refine aA (hy5 259 _ hy0) ?_
  have l11:=aZ (ro:=ro) (z:=0) g02 (show (scL kv tv ev mv most bv s er_)[11]?=some (.int .i64 (s.held:Int)) from rfl)
  have l72:=aZ (ro:=ro) (z:=0) g02 (show (scL kv tv ev mv most bv s er_)[7]?=some (.int .i64 (s.at_:Int)) from rfl)
  (repeat(first|refine aA (by simp (disch:=first|omega|exact nnN _|assumption) only [BB,B2,↓reduceIte,Nat.reduceLeDiff,Nat.reduceAdd,CC,a8,l12]<;>rfl) ?_|apply aD|apply aE|with_reducible first|apply aG|apply aF|apply aK|apply aH|apply aJ|apply aI|apply aL|apply aC))
  refine⟨fS g02 g02,?_⟩
  refine aA (Sl.ixI hrv .i64 hru.1 (by rw[eP]; exact hru.2)) ?_
  have hrl:s.rule.toNat < (qS T s).rules.length:=by omega
  refine aA (hrv.load1 (j7 hrl)) ?_
  (repeat(first|refine aA (by simp (disch:=first|omega|exact nnN _|assumption) only [BB,B2,↓reduceIte,Nat.reduceLeDiff,Nat.reduceAdd,CC,a8,l72]<;>rfl) ?_|apply aD|apply aE|with_reducible first|apply aG|apply aF|apply aK|apply aH|apply aJ|apply aI|apply aL|apply aC))
  refine⟨fS g02 g02,?_⟩
  (repeat(first|refine aA (by simp (disch:=first|omega|exact nnN _|assumption) only [BB,B2,↓reduceIte,Nat.reduceLeDiff,Nat.reduceAdd,CC,a8,l11]<;>rfl) ?_|apply aD|apply aE|with_reducible first|apply aG|apply aF|apply aK|apply aH|apply aJ|apply aI|apply aL|apply aC))
  refine⟨fS g02 g02,?_⟩
  have hhl:s.held≤s.kept.length:=Nat.le_trans hI.ok.held hI.ok.took
  have hadd:aO .add (.int .i64 (s.at_:Int)) (.int .i64 (s.held:Int))=some (.int .i64 ((s.at_+s.held:Nat):Int)):=by
   rw[cK,show (s.at_:Int)+(s.held:Int)=((s.at_+s.held:Nat):Int) by omega,dW (by omega) (by omega)]
  refine aA hadd ?_
  (repeat(first|refine zzB ?_|apply aD|apply aE|with_reducible first|apply aG|apply aF|apply aK|apply aH|apply aJ|apply aI|apply aL|apply aC))
  refine aA (dG g2 (Nat.zero_lt_succ _) rfl rfl) ?_
  have hpne:p≠nx+11:=by omega
  have g03:(h2.upd (nx+11) (some (.cells (([Value.int .i64 (-1),.int .i64 (s.at_:Int),.int .i64 ((s.at_:Int)+1)]).set 0 (.int .i64 (qS T s).rules[s.rule.toNat])).toArray bJ))).get p=some (.cells (scL kv tv ev mv most bv s er_).toArray aQ):=by
   rw[V.T.get_upd_ne _ _ hpne]; exact g02
  refine⟨fS g02 g03,fS g02 g03,?_⟩
  (repeat(first|refine zzB ?_|apply aD|apply aE|with_reducible first|apply aG|apply aF|apply aK|apply aH|apply aJ|apply aI|apply aL|apply aC))
  have htok:qX (qP T s)=over (([Value.int .i64 (-1),.int .i64 (s.at_:Int),.int .i64 ((s.at_:Int)+1)]).set 0 (.int .i64 (qS T s).rules[s.rule.toNat])) 2 [.int .i64 ((s.at_+s.held:Nat):Int)]:=by
   unfold qP qX mJ fL
   rw[if_neg hr,if_neg hr,List.getD_eq_getElem?_getD,List.getElem?_eq_getElem hrl]; rfl
  rw[← htok]
  refine aM1 (kv:=kv) (tv:=tv) (ev:=ev) (mv:=mv) (bv:=bv) (tb:=nx+11) (rb:=nx) hv hT hI hk hsz ?_ hf ?_ (by omega) (by omega) (by omega) (V.T.get_upd_same _ _ _) ?_ rfl rfl rfl (by omega) fun h' n' h3 h4 h5 h6=>hK h' n' (by omega) h4 h5 h6
  ·exact ((hf2.mono (by omega)).upd (Nat.le_refl _) (by omega)).upd (Nat.le_refl _) (by omega)
  ·intro k o hko
   have:=hf.lt' hko
   rw[V.T.get_upd_ne _ _ (by omega),V.T.get_upd_ne _ _ (by omega)]
   exact hs2 _ _ (hs1 _ _ hko)
  ·rw[V.T.get_upd_ne _ _ (by omega),V.T.get_upd_ne _ _ (by omega)]
   exact g12
end
end V
end Go.Proofs.YtcaccnneblghgaaGreat
namespace Go.Proofs.YtcaccnneblghgaaGreat
namespace V
attribute [local irreducible] aB ifP aR cS eQ exP cN
theorem aOS (id:Nat) (a b c:Int):bQ Tryz.prog iH id 1 [(0,.agg [Value.int .i64 a,.int .i64 b,.int .i64 c].toArray)]=some (.slice (some (own id 3)) 1 1,some (.cells [Value.int .i64 a,.int .i64 b,.int .i64 c].toArray bJ)):=by kernel_rfl
theorem aNh:und Tryz.prog iH=some (.slice bJ):=by kernel_rfl
theorem aOp:∃ i,tin Tryz.prog bJ=some i∧i.size=3∧i.bytes=24:=xH (by kernel_rfl)
section
variable {ro:Ro}{h h':T Obj}{nx:Nat}{K:KV}{X X':List Nat}{p:Nat}{qs:List MqD}{T:TabD}{most er_ er':Int}{s s':ScD}
theorem ScX.shrink (hm:ScX ro h X p qs T most er_ s) (hX:∀ k∈X',k∈X) (hp:∀ k∈mT p qs,k∈X'):ScX ro h X' p qs T most er_ s:=by
 obtain⟨kv,tv,ev,mv,bv,g1,g2,g3,g4,g5,g6,g7,g8,g9⟩:=hm
 have hD:Sub (del h X) (del h X'):=sP hX
 exact⟨kv,tv,ev,mv,bv,g1,g2.sub hD,g3.sub hD,g4.sub hD (pY.sub hD),g5.sub hD,g6.sub hD,g7.shrink hX fun q hq k hk=>hp k (aGo hq k hk),hp p (List.mem_cons_self ..),g9⟩
theorem ScX.keep {ids:List Nat} (hm:ScX ro h X p qs T most er_ s) (hs:dT ids h h') (h1:∀ k∈ids,k∈X) (h2:∀ k∈ids,k ∉ mT p qs) (h3:∀ k∈X',k∈X∨h.get k=none) (h4:∀ k∈X,k∈X'):ScX ro h' X' p qs T most er_ s:=by
 obtain⟨kv,tv,ev,mv,bv,hv⟩:=hm
 have hv:ScV ro h X p qs T most er_ kv tv ev mv bv s:=hv
 exact (hv.keep hs h1 (fun q hq k hk h9=>h2 k hk (aGo hq k h9)) (fun h9=>h2 p h9 (List.mem_cons_self ..)) h3 h4).x
theorem ScX.own (hm:ScX ro h X p qs T most er_ s):∀ k∈mT p qs,k∈X∧∃ o,h.get k=some o:=fun k hk=>by
 obtain⟨kv,tv,ev,mv,bv,g1,g2,g3,g4,g5,g6,g7,g8,g9⟩:=hm
 rcases List.mem_cons.1 hk with rfl | hk
 ·exact⟨g8,_,g1⟩
 ·obtain⟨q,hq,hk⟩:=List.mem_flatMap.1 hk
  obtain⟨i,hi⟩:=List.getElem?_of_mem hq
  have hl:=(List.getElem?_eq_some_iff.1 hi).1
  obtain⟨c,e,h9,_⟩:=(g7.at_ i q _ _ hi (List.getElem?_eq_getElem (by rw[← g7.lq]; exact hl)) (List.getElem?_eq_getElem (by rw[g7.lm,← g7.lq]; exact hl))).ty k hk
  exact⟨g7.inX hi k hk,_,h9⟩
theorem ScX.ownLt (hm:ScX ro h X p qs T most er_ s) (hf:Fr h nx):∀ k∈mT p qs,k < nx:=fun k hk=>by
 obtain⟨_,o,h9⟩:=hm.own k hk
 exact hf.lt' h9
theorem aKE (l:List TokD) (t:TokD):pI (l++[t])=pI l++[qX t]:=by simp[pI]
structure TkI (ro:Ro) (X:List Nat) (p:Nat) (qs:List MqD) (T:TabD) (most er_:Int) (h:V.T Obj) (nx:Nat) (s:ScD) (h':V.T Obj) (nx' m:Nat) (s':ScD) (acc:List TokD) (out:Value) (Y:List Nat):Prop where
 km:s'.kept.length≤m
 kp:dT (mT p qs) h h'
 fr':Fr h' nx'
 sc:ScX ro h' (X++Y) p qs T most er_ s'
 oo:dU h' out 3 bJ (pI acc) nx
 ob:∀ b∈lA out,b∈Y
 yn:∀ b∈Y,nx≤b
 ii:ScI T s'
 at':s'.at_+s'.kept.length=s.at_+s.kept.length
 eqT:iB T s.kept.length s=(acc++(iB T m s').1,(iB T m s').2)
 al:acc.length+s'.kept.length≤s.kept.length
 le:nx≤nx'
set_option maxRecDepth 8000 in
set_option maxHeartbeats 2000000 in
theorem aA3 (hm:ScX ro h X p qs T most er_ s) (hT:TabR T) (hI:ScI T s) (hTl:T.entries.length≤1000) (hsz:s.at_+s.kept.length≤400) (hf:Fr h nx)
  (hK:∀ r h' nx',nx≤nx'→Fr h' nx'→dT (mT p qs) h h'→ScX ro h' X p qs T most er_ (iB T s.kept.length s).2→dU h' r 3 bJ (pI (iB T s.kept.length s).1) nx→K r h' nx'):aN Tryz.prog ro iW [ptr p] h nx K:=by
 have hown:=hm.ownLt hf
 apply wW
 unfold rD
 refine a9 (fun j e h' nx'=>∃ s' acc out Y,e 0=ptr p∧e 3=out∧TkI ro X p qs T most er_ h nx s h' nx' j s' acc out Y) ?_ (n:=s.kept.length)
  ⟨s,[],.slice none 0 0,[],rfl,rfl,Nat.le_refl _,(Sub.refl _).keepL,hf.mono (by omega),by rw[List.append_nil]; exact hm,dU.nil,(fun b hb=>by cases hb),(fun b hb=>by cases hb),hI,rfl,rfl,by simp,by omega⟩
 rintro j e h' nx' ⟨s',acc,out,Y,e0,e3,ti⟩ Q' hq hx
 obtain⟨km,kp,fr',sc,oo,ob,yn,ii,at',eqT,al,le⟩:=ti
 obtain⟨kv,tv,ev,mv,bv,hv⟩:=id sc
 have hv:ScV ro h' (X++Y) p qs T most er_ kv tv ev mv bv s':=hv
 have g1:=hv.1
 unfold oX
 rw[e0,e3]
 have l6:=aZ (ro:=ro) (z:=0) g1 (show (scL kv tv ev mv most bv s' er_)[6]?=some bv from rfl)
 have hbl:=(hv.2.2.2.2.2.1.sub (eX h' (X++Y))).len
 rw[dV] at hbl
 have hexit:∀ (e':Env) (h2:V.T Obj) (n':Nat) (s2:ScD),e' 3=out→nx≤n'→Fr h2 n'→dT (mT p qs) h h2→ScX ro h2 (X++Y) p qs T most er_ s2→dU h2 out 3 bJ (pI acc) nx→iB T s.kept.length s=(acc,s2)→iD ro K e' h2 n':=by
  intro e' h2 n' s2 d3 dn df dk ds dout deq
  unfold iD
  rw[d3]
  refine⟨h2,Sub.refl _,hK out h2 _ (by omega) (df.mono (by omega)) dk ?_ ?_⟩
  ·rw[deq]
   exact ds.shrink (fun k hk=>List.mem_append_left _ hk) fun k hk=>(hm.own k hk).1
  ·rw[deq]; exact dout
 (repeat(first|refine aA (by simp (disch:=first|omega|exact nnN _|assumption) only [BB,B2,↓reduceIte,Nat.reduceLeDiff,Nat.reduceAdd,CC,a8,l6]<;>rfl) ?_|apply aD|apply aE|with_reducible first|apply aG|apply aF|apply aK|apply aH|apply aJ|apply aI|apply aL|apply aC))
 refine aA hbl ?_
 by_cases hk:s'.kept=[]
 ·refine aK8 (by rw[hk]; simp) ?_
  (repeat(first|refine zzB ?_|apply aD|apply aE|with_reducible first|apply aG|apply aF|apply aK|apply aH|apply aJ|apply aI|apply aL|apply aC))
  refine hx _ _ _ _ (fun e=>by cases e) (eA (cR ?_))
  have h9:iB T s.kept.length s=(acc,s'):=by rw[eqT,zK _ hk]; simp
  refine hexit _ _ _ s' ?_ ?_ ?_ kp sc oo h9
  ·exact e3
  ·omega
  ·exact fr'.mono (by omega)
 ·have hkl:0 < s'.kept.length:=List.length_pos_iff.2 hk
  have hst:=aEc ii
  rw[at'] at hst
  have hst2:(s.at_+s.kept.length)*(s.at_+s.kept.length+1)≤400*401:=Nat.mul_le_mul hsz (by omega)
  refine aK9 (by omega) ?_
  (repeat(first|refine zzB ?_|apply aD|apply aE|with_reducible first|apply aG|apply aF|apply aK|apply aH|apply aJ|apply aI|apply aL|apply aC))
  refine aIl sc hT ii hTl (by omega) (fr'.mono (by omega)) fun h2 n2 hn2 hf2 hk2 hs2=>?_
  have hI2:=aGV hT ii hk
  have hout2:dU h2 out 3 bJ (pI acc) nx:=oo.keepK hk2 fun id hid hm9=>by
   have:=hown id hm9
   have:=(oo.blk hid).1
   omega
  obtain⟨m,rfl⟩:∃ m,j=m+1:=⟨j - 1,by omega⟩
  rw[pO,if_neg hk] at eqT
  cases hB:(dX T s').1 with
  | false =>
   rw[hB] at eqT
   simp only[Bool.false_eq_true,if_false,List.append_nil] at eqT
   (repeat(first|refine zzB ?_|apply aD|apply aE|with_reducible first|apply aG|apply aF|apply aK|apply aH|apply aJ|apply aI|apply aL|apply aC))
   refine hx _ _ _ _ (fun e=>by cases e) (eA (cR ?_))
   refine hexit _ _ _ _ ?_ ?_ ?_ (kp.trans hk2) hs2 hout2 eqT
   ·exact e3
   ·omega
   ·exact hf2.mono (by omega)
  | true =>
   rw[hB] at eqT
   simp only[if_true] at eqT
   have hkE:(dX T s').2.kept=s'.kept:=rfl
   have hatE:(dX T s').2.at_=s'.at_:=rfl
   (repeat(first|refine zzB ?_|apply aD|apply aE|with_reducible first|apply aG|apply aF|apply aK|apply aH|apply aJ|apply aI|apply aL|apply aC))
   refine aJx hs2 hT hI2 hTl (by rw[hkE]; exact hk) (by rw[hkE,hatE,at']; omega) (hf2.mono (by omega)) fun h3 n3 hn3 hf3 hk3 hs3=>?_
   obtain⟨hL1,hL2⟩:=aBY hI2.ok (by rw[hkE]; exact hk)
   rw[hkE] at hL2
   have hI3:=aKT hT hI2 (by rw[hkE]; exact hk)
   have hclen:(mL T (dX T s').2).kept.length=s'.kept.length - fL (dX T s').2:=by rw[aDL,hkE]
   have hcat:(mL T (dX T s').2).at_=s'.at_+fL (dX T s').2:=rfl
   have hrt:(qP T (dX T s').2).rule=-1∨0≤(qP T (dX T s').2).rule∧(qP T (dX T s').2).rule < T.kinds.length:=by
    show mJ T (dX T s').2=-1∨0≤mJ T (dX T s').2∧mJ T (dX T s').2 < T.kinds.length
    obtain⟨he1,he2,_⟩:=hI2.at
    by_cases hsr:(dX T s').2.rule=-1
    ·left; unfold mJ; rw[if_pos hsr]
    ·right
     have h9:=hI2.ru.resolve_left hsr
     unfold mJ
     rw[if_neg hsr,List.getD_eq_getElem?_getD,List.getElem?_eq_getElem (show (dX T s').2.rule.toNat < (qS T (dX T s').2).rules.length by omega)]
     exact hT.rk _ he2 _ (List.getElem_mem _)
   generalize qP T (dX T s').2=t at *
   generalize mL T (dX T s').2=sC at *
   refine jH (x:=qX t) (n:=3) aDV rfl rfl rfl rfl hf3 (Nat.le_refl _) fun h4 hs4 hf4 g4 _=>?_
   have hout4:dU h4 out 3 bJ (pI acc) nx:=(hout2.keepK hk3 fun id hid hm9=>by
    simp at hm9
    subst hm9
    have:=hown id (List.mem_cons_self ..)
    have:=(oo.blk hid).1
    omega).keepS hs4
   have hkp4:dT (mT p qs) h h4:=((kp.trans hk2).trans (hk3.mono fun b hb=>by simp at hb; subst hb; exact List.mem_cons_self ..)).trans hs4.keepL
   have hs4x:ScX ro h4 (X++Y) p qs T most er_ sC:=hs3.keep (ids:=[]) hs4.keepL (fun k hk=>by cases hk) (fun k hk=>by cases hk) (fun k hk=>.inl hk) fun k hk=>hk
   have happ:∀ (n75:Nat) (F:Value→Value × Option Obj→Value × V.T Obj × Nat→Env),n3+1≤n75→(∀ x y z,F x y z 0=ptr p)→(∀ x y z,F x y z 3=z.1)→aC6 T t=true →
     aB (loadA ro h4 3 (ptr n3)) fun t33=>aB (bQ Tryz.prog iH (n75+2) 1 [(0,t33)]) fun r79=>eQ h4 (n75+2) r79.2 fun h80=>aB (cM Tryz.prog ro h80 (n75+4) #[iH,iH] [out,r79.1]) fun r81=>Q' .normal (F t33 r79 r81) r81.2.1 (r81.2.2+1):=by
    intro n75 F hn75 f0 f3 hkT
    refine aA (dI g4 rfl) ?_
    obtain⟨i9,t1,t2,t3⟩:=aOp
    refine aA9 (z:=3) (l:=pI acc) (y:=qX t) (aOS _ _ _ _) rfl hout4 aNh t1 (by omega) (by omega) aDV rfl rfl (by rw[aGG,t3]; unfold big; omega) (by rw[aGG]; unfold big; omega) (hf4.mono (by omega)) (by omega) (by omega) (fun e9=>by have:=hf4.lt' (hout4.blk e9).2; omega) fun h5 ho5 hk5 hf5=>?_
    generalize hnv:Value.slice (some (own (n75+4) 3)) (pI acc++[qX t]).length (pI acc++[qX t]).length=out2 at ho5
    have hsb:i3 out2=some (n75+4):=by rw[← hnv]; rfl
    have hkk:dT (lA out) h4 h5:=fun b o hb hn9=>hk5 b o hb (by have:=hf4.lt' hb; omega) fun e9=>hn9 (fE.2 e9)
    have hkO:∀ b∈lA out,b ∉ mT p qs:=fun b hb h9=>by
     have:=hown b h9
     have:=yn b (ob b hb)
     omega
    show Q' .normal (F _ _ (out2,h5,n75+4+1)) h5 (n75+4+1+1)
    refine hq m _ _ _ _ (by omega) ⟨sC,acc++[t],out2,Y++[n75+4],f0 _ _ _,f3 _ _ _,by omega,fun b o hb hn9=>?_,hf5.mono (by omega),?_,by rw[aKE]; exact ho5,fun b hb=>?_,fun b hb=>?_,hI3,by rw[hclen,hcat]; omega,?_,by rw[List.length_append,hclen]; show acc.length+1+_≤_; omega,by omega⟩ (Sub.refl _)
    ·refine hkk b o (hkp4 b o hb hn9) fun h9=>?_
     have:=hf.lt' hb
     have:=yn b (ob b h9)
     omega
    ·refine hs4x.keep hkk (fun b hb=>List.mem_append_right _ (ob b hb)) hkO (fun b hb=>?_) fun b hb=>?_
     ·rcases List.mem_append.1 hb with hb | hb
      ·exact .inl (List.mem_append_left _ hb)
      ·rcases List.mem_append.1 hb with hb | hb
       ·exact .inl (List.mem_append_right _ hb)
       ·simp at hb; subst hb; exact .inr (hf4 _ (by omega))
     ·rw[← List.append_assoc]; exact List.mem_append_left _ hb
    ·have:=fE.1 hb
     rw[hsb] at this
     cases this
     exact List.mem_append_right _ (by simp)
    ·rcases List.mem_append.1 hb with hb | hb
     ·exact yn b hb
     ·simp at hb; omega
    ·rw[eqT]
     unfold aJ7
     rw[if_pos hkT,List.append_assoc]
   have hnok:∀ (e':Env) (n':Nat),e' 0=ptr p→e' 3=out→n3+1≤n'→aC6 T t=false→Q' .normal e' h4 n':=by
    intro e' n' f0 f3 hn' hkT
    refine hq m _ _ _ _ (by omega) ⟨sC,acc,out,Y,f0,f3,by omega,hkp4,hf4.mono hn',hs4x,hout4,ob,yn,hI3,by rw[hclen,hcat]; omega,?_,by rw[hclen]; omega,by omega⟩ (Sub.refl _)
    rw[eqT]
    unfold aJ7
    rw[if_neg (by rw[hkT]; decide),List.nil_append]
   have t0:=aZ (ro:=ro) (z:=0) g4 (show (qX t)[0]?=some (.int .i64 t.rule) from rfl)
   (repeat(first|refine zzB ?_|apply aD|apply aE|with_reducible first|apply aG|apply aF|apply aK|apply aH|apply aJ|apply aI|apply aL|apply aC))
   refine aA t0 ?_
   by_cases hr:t.rule=-1
   ·have hkT:aC6 T t=true:=by unfold aC6; rw[decide_eq_true hr]; rfl
    refine aK3 hr ?_
    (repeat(first|refine zzB ?_|apply aD|apply aE|with_reducible first|apply aG|apply aF|apply aK|apply aH|apply aJ|apply aI|apply aL|apply aC))
    refine happ _ _ ?_ ?_ ?_ hkT
    ·omega
    ·intro x y z; exact e0
    ·intro x y z; rfl
   ·have hrr:=hrt.resolve_left hr
    obtain⟨kv4,tv4,ev4,mv4,bv4,hv4⟩:=id hs4x
    have hv4:ScV ro h4 (X++Y) p qs T most er_ kv4 tv4 ev4 mv4 bv4 sC:=hv4
    have l1:=aZ (ro:=ro) (z:=0) hv4.1 (show (scL kv4 tv4 ev4 mv4 most bv4 sC er_)[1]?=some kv4 from rfl)
    have hkv:=hv4.2.1.sub (eX h4 (X++Y))
    have hix:=Sl.ixI hkv .i64 hrr.1 (by rw[zX]; exact hrr.2)
    have hkl9:t.rule.toNat < T.kinds.length:=by omega
    have hld:=hkv.load1 (aGE hkl9)
    have hgd:T.kinds.getD t.rule.toNat .empty=T.kinds[t.rule.toNat]:=by rw[List.getD_eq_getElem?_getD,List.getElem?_eq_getElem hkl9]; rfl
    have hkT:aC6 T t=!decide (T.kinds[t.rule.toNat]=.empty):=by
     unfold aC6
     rw[decide_eq_false hr,hgd]
     generalize T.kinds[t.rule.toNat]=b9
     have:(b9.size≠0) ↔ ¬ (b9=.empty):=by
      constructor
      ·intro h9 e9; rw[e9] at h9; exact h9 rfl
      ·intro h9 e9
       apply h9
       obtain⟨⟨l9⟩⟩:=b9
       have:l9=[]:=List.length_eq_zero_iff.1 e9
       rw[this]; rfl
     by_cases h9:b9=.empty<;>simp[this,h9]
    generalize T.kinds[t.rule.toNat]=ks at hld hkT
    refine aK2 hr ?_
    (repeat(first|refine aA (by simp (disch:=first|omega|exact nnN _|assumption) only [BB,B2,↓reduceIte,Nat.reduceLeDiff,Nat.reduceAdd,CC,a8,l1,t0]<;>rfl) ?_|apply aD|apply aE|with_reducible first|apply aG|apply aF|apply aK|apply aH|apply aJ|apply aI|apply aL|apply aC))
    refine aA hix ?_
    (repeat(first|refine zzB ?_|apply aD|apply aE|with_reducible first|apply aG|apply aF|apply aK|apply aH|apply aJ|apply aI|apply aL|apply aC))
    refine aA hld ?_
    (repeat(first|refine zzB ?_|apply aD|apply aE|with_reducible first|apply aG|apply aF|apply aK|apply aH|apply aJ|apply aI|apply aL|apply aC))
    refine aA (zI ks .empty) ?_
    rw[← hkT]
    cases hkk:aC6 T t with
    | true =>
     (repeat(first|refine zzB ?_|apply aD|apply aE|with_reducible first|apply aG|apply aF|apply aK|apply aH|apply aJ|apply aI|apply aL|apply aC))
     refine happ _ _ ?_ ?_ ?_ hkk
     ·omega
     ·intro x y z; exact e0
     ·intro x y z; rfl
    | false =>
     (repeat(first|refine zzB ?_|apply aD|apply aE|with_reducible first|apply aG|apply aF|apply aK|apply aH|apply aJ|apply aI|apply aL|apply aC))
     refine hnok _ _ ?_ ?_ ?_ hkk
     ·exact e0
     ·exact e3
     ·omega
end
end V
end Go.Proofs.YtcaccnneblghgaaGreat
namespace Go.Proofs.YtcaccnneblghgaaGreat
namespace V
attribute [local irreducible] aB ifP aR cS eQ exP cN
def u8L (l:List Nat):List Value:=l.map fun b:Nat=>Value.int .u8 (b:Int)
theorem wY (l:List Nat):(u8L l).length=l.length:=by simp[u8L]
theorem aOt (l m:List Nat):u8L (l++m)=u8L l++u8L m:=by simp[u8L]
theorem aG3:∀ l:List Nat,(bY l).flatten=u8L l
 | []=>rfl
 | x::r=>by
  have:=aG3 r
  simp only[bY,List.map_cons,List.flatten_cons] at this ⊢
  rw[this]; rfl
theorem aQO (l:List Nat):(u8L l).all cT=true:=by simp[u8L,cT]
theorem aPI (n:Nat):aFZ Tryz.prog cB n=some (List.replicate n (Value.int .u8 0)):=by
 cases n with
 | zero=>rfl
 | succ n =>
  obtain⟨i,h1,h2,h3⟩:=aEm
  have hz:∀ k,tQ [Value.int .u8 0] k=List.replicate k (Value.int .u8 0):=fun k=>by
   induction k with
   | zero=>rfl
   | succ k ih=>rw[List.replicate_succ,← ih]; rfl
  simp only[aFZ,aKI,aHC,Option.bind,cP]
  show some (tQ [Value.int .u8 0] (n+1))=_
  rw[hz]
section
variable {ro:Ro}{h:T Obj}{nx:Nat}{K:KV}
theorem aMH {x:Value} (hx:Sl ro h x 1 (bY [])):cM Tryz.prog ro h nx #[bC,bC] [.slice none 0 0,x]=some (.slice none 0 0,h,nx):=by
 obtain⟨i,h1,h2,h3⟩:=aEm
 have hs:xS Tryz.prog ro h cB i.size i.bytes bC x=some (0,[]):=by
  rcases hx with ⟨rfl,_⟩ | ⟨a,c,rfl,_,_,_,h9⟩
  ·simp only[xS,mI]
  ·have h9:cellsAt ro h a 0=some []:=by simpa [bY] using h9
   simp only[xS,mI,bY,List.map_nil,List.length_nil,Nat.zero_mul,h9,Option.bind]
 simp only[cM,List.getElem?_toArray,List.getElem?_cons_zero,List.getElem?_cons_succ,mI,h1,Option.bind,hs]
theorem aPW {x:Value}{id len cap:Nat}{C:List Value}{l:List Nat} (hg:h.get id=some (.cells C.toArray cB)) (hC:C.length=cap) (hx:Sl ro h x 1 (bY l)) (hle:len+l.length≤cap) :
  ∃ h',cM Tryz.prog ro h nx #[bC,bC] [.slice (some (own id 1)) len cap,x]=some (.slice (some (own id 1)) (len+l.length) cap,h',nx)∧h'.get id=some (.cells (over C len (u8L l)).toArray cB)∧∀ k,k≠id→h'.get k=h.get k:=by
 obtain⟨i,h1,h2,h3⟩:=aEm
 have hs:xS Tryz.prog ro h cB i.size i.bytes bC x=some (l.length,u8L l):=by
  rcases hx with ⟨rfl,h9⟩ | ⟨a,c,rfl,_,_,_,h9⟩
  ·have:l=[]:=by
    cases l with
    | nil=>rfl
    | cons a r=>simp[bY] at h9
   subst this
   simp only[xS,mI]; rfl
  ·rw[aG3,dV] at h9
   simp only[xS,mI,dV,h2,h9,Option.bind]
 have hb1:Nat.ble (len+l.length) cap=true:=Nat.ble_eq_true_of_le hle
 cases l with
 | nil =>
  refine⟨h,?_,?_,fun k _=>rfl⟩
  ·rw[List.length_nil] at hb1 hs
   simp only[cM,List.getElem?_toArray,List.getElem?_cons_zero,List.getElem?_cons_succ,mI,h1,Option.bind,hs,hb1,List.length_nil]; rfl
  ·rw[hg]; simp[over,u8L]
 | cons a r =>
  refine⟨h.upd id (some (.cells (over C len (u8L (a::r))).toArray cB)),?_,T.get_upd_same _ _ _,fun k hk=>T.get_upd_ne _ _ hk⟩
  have hst:jN h (fwd (own id 1) (len*i.size)) (u8L (a::r))=some (h.upd id (some (.cells (over C len (u8L (a::r))).toArray cB))):=by
   unfold jN
   simp only[own,fwd,hg,aQO,h2,Nat.mul_one,Nat.zero_add]
   have:Nat.ble (len+(u8L (a::r)).length) C.toArray.size=true:=Nat.ble_eq_true_of_le (by rw[wY,List.size_toArray]; omega)
   simp only[this]
  rw[List.length_cons] at hb1 hs
  simp only[cM,List.getElem?_toArray,List.getElem?_cons_zero,List.getElem?_cons_succ,mI,h1,Option.bind,hs,hb1,hst]
  simp only[own,h2,Nat.beq_refl,List.length_cons]
theorem aKO:eE Tryz.prog h .cap #[bC] [.slice none 0 0]=some (.int .i64 0):=by
 simp only[eE,List.getElem?_toArray,List.getElem?_cons_zero,Option.bind,mI]; rfl
theorem aOj:lW Tryz.prog bC (.slice none 0 0) none (some (.int .i64 0)) none=some (.slice none 0 0):=by kernel_rfl
theorem aOu:und Tryz.prog dR=some (.int .i64):=by kernel_rfl
theorem aMG {n:Nat} (h0:0 < n) (hn:n≤1000000):cM Tryz.prog ro h nx #[bC,dR] [.slice none 0 0,.int .i64 (n:Int)]=some (.slice (some (own nx 1)) n n,h.upd nx (some (.cells (List.replicate n (Value.int .u8 0)).toArray cB)),nx+1):=by
 obtain⟨i,h1,h2,h3⟩:=aEm
 have hb1:Nat.ble (n*1) big=true:=Nat.ble_eq_true_of_le (by unfold big; omega)
 have hb2:Nat.ble (0+n) big=true:=Nat.ble_eq_true_of_le (by unfold big; omega)
 have hb3:Nat.ble ((0+n)*1) big=true:=Nat.ble_eq_true_of_le (by unfold big; omega)
 have hb4:Nat.ble (0+n) 0=false:=by
  cases hq:Nat.ble (0+n) 0 with
  | false=>rfl
  | true=>have:=Nat.le_of_ble_eq_true hq; omega
 have hs:xS Tryz.prog ro h cB 1 1 dR (.int .i64 (n:Int))=some (n,List.replicate n (Value.int .u8 0)):=by
  simp only[xS,aOu,decide_eq_true (show (0:Int)≤n by omega),decide_eq_true (show (n:Int)≤70368744177664 by omega),Int.toNat_natCast,hb1,aPI,Option.bind]
 have hok:(List.replicate n (Value.int .u8 0)).all cT=true:=by simp[cT]
 simp only[cM,List.getElem?_toArray,List.getElem?_cons_zero,List.getElem?_cons_succ,mI,h1,Option.bind,h2,h3,hs,hb4,aKI,hb3,hb2,cP,hok,aGk]
 simp
 rfl
set_option maxRecDepth 8000 in
theorem aOI {n:Nat}{e:Env} (f0:e 0=.slice none 0 0) (f1:e 1=.int .i64 (n:Int)) (hn:n≤1000000) (hf:Fr h nx) (hK0:n=0→∀ nx',nx≤nx'→K (.slice none 0 0) h nx') (hK1:0 < n→∀ id h' nx',nx≤id→id < nx'→Fr h' nx'→Sub h h'→h'.get id=some (.cells (List.replicate n (Value.int .u8 0)).toArray cB)→K (.slice (some (own id 1)) 0 n) h' nx'):jP ro K e h nx:=by
 unfold jP
 rw[f0,f1]
 have hj2:∀ (e':Env) (h':T Obj) (n':Nat) (v:Value),e' 0=v→K v h' (n'+2)→gQ ro K e' h' n':=by
  intro e' h' n' v d0 dk
  unfold gQ
  rw[d0]
  exact⟨h',Sub.refl _,dk⟩
 refine aA aKO ?_
 (repeat(first|refine zzB ?_|apply aD|apply aE|with_reducible first|apply aG|apply aF|apply aK|apply aH|apply aJ|apply aI|apply aL|apply aC))
 by_cases h0:n=0
 ·subst h0
  refine aK8 (by omega) ?_
  (repeat(first|refine zzB ?_|apply aD|apply aE|with_reducible first|apply aG|apply aF|apply aK|apply aH|apply aJ|apply aI|apply aL|apply aC))
  refine hj2 _ _ _ (.slice none 0 0) f0 (hK0 rfl _ ?_)
  omega
 ·refine aK9 (by omega) ?_
  (repeat(first|refine zzB ?_|apply aD|apply aE|with_reducible first|apply aG|apply aF|apply aK|apply aH|apply aJ|apply aI|apply aL|apply aC))
  refine aA aKO (aA aOj ?_)
  refine aA (aMG (by omega) hn) ?_
  dsimp only
  (repeat(first|refine zzB ?_|apply aD|apply aE|with_reducible first|apply aG|apply aF|apply aK|apply aH|apply aJ|apply aI|apply aL|apply aC))
  refine hj2 _ _ _ (.slice (some (own (nx+16) 1)) 0 n) (by kernel_rfl) (hK1 (by omega) _ _ _ ?_ ?_ ?_ (((Sub.refl h).new hf (by omega))) (T.get_upd_same _ _ _))
  ·omega
  ·omega
  ·exact (hf.mono (by omega)).upd (Nat.le_refl _) (by omega)
theorem aP6 {n:Nat} (hn:n≤1000000) (hf:Fr h nx) (hK0:n=0→∀ nx',nx≤nx'→K (.slice none 0 0) h nx') (hK1:0 < n→∀ id h' nx',nx≤id→id < nx'→Fr h' nx'→Sub h h'→h'.get id=some (.cells (List.replicate n (Value.int .u8 0)).toArray cB)→K (.slice (some (own id 1)) 0 n) h' nx'):aN Tryz.prog ro j6 [.slice none 0 0,.int .i64 (n:Int)] h nx K:=by
 apply u7
 unfold pG
 (repeat(first|refine zzB ?_|apply aD|apply aE|with_reducible first|apply aG|apply aF|apply aK|apply aH|apply aJ|apply aI|apply aL|apply aC))
 exact aOI rfl rfl hn (hf.mono (by omega)) (fun h0 n' hn'=>hK0 h0 n' (by omega)) fun h0 id h' n' h1 h2 h3 h4 h5=>hK1 h0 id h' n' (by omega) h2 h3 h4 h5
def RB (ro:Ro) (h:V.T Obj) (x:List Value) (l:List Nat):Prop:=∃ w,x=[w]∧Sl ro h w 1 (bY l)
theorem RB.sub {h':V.T Obj} (hs:Sub h h'):∀ x l,RB ro h x l→RB ro h' x l:=fun x l ⟨w,h1,h2⟩=>⟨w,h1,h2.sub hs⟩
theorem aBr {α:Type}{ls:List (List α)}{i:Nat} (hi:i < ls.length):(ls.take (i+1)).flatten=(ls.take i).flatten++ls[i]:=by
 rw[List.take_succ_eq_append_getElem hi,List.flatten_append]; simp
theorem wD {α:Type}{ls:List (List α)} (i:Nat):(ls.take i).flatten.length≤ls.flatten.length:=by
 have h9:ls.flatten=(ls.take i).flatten++(ls.drop i).flatten:=by rw[← List.flatten_append,List.take_append_drop]
 rw[h9,List.length_append]; omega
theorem aJd (l m:List Nat) {k:Nat} (hk:m.length≤k):over (u8L l++List.replicate k (Value.int .u8 0)) l.length (u8L m)=u8L (l++m)++List.replicate (k - m.length) (Value.int .u8 0):=by
 unfold over
 rw[List.take_append_of_le_length (by rw[wY]; exact Nat.le_refl _),List.take_of_length_le (by rw[wY]; exact Nat.le_refl _),wY,List.drop_append,wY,List.drop_of_length_le (by rw[wY]; omega),List.nil_append,Nat.add_sub_cancel_left,List.drop_replicate,aOt]
def aLy (h:V.T Obj) (nx N:Nat) (pre:List Nat) (w:Value) (h':V.T Obj):Prop:=Sub h h'∧((N=0∧w=.slice none 0 0)∨∃ id,nx≤id∧w=.slice (some (own id 1)) pre.length N∧h'.get id=some (.cells (u8L pre++List.replicate (N - pre.length) (Value.int .u8 0)).toArray cB))
set_option maxRecDepth 8000 in
theorem aLy.step {N n1:Nat}{pre l:List Nat}{w x:Value}{h':V.T Obj} (hc:aLy h nx N pre w h') (hf:Fr h nx) (hx:Sl ro h' x 1 (bY l)) (hle:pre.length+l.length≤N) {m:Nat} (hf':Fr h' m):∃ w2 h2,cM Tryz.prog ro h' n1 #[bC,bC] [w,x]=some (w2,h2,n1)∧aLy h nx N (pre++l) w2 h2∧Fr h2 m:=by
 obtain⟨hs,⟨h0,rfl⟩ | ⟨id,h1,rfl,h2⟩⟩:=hc
 ·have hl:l=[]:=List.length_eq_zero_iff.1 (by omega)
  subst hl
  exact⟨_,_,aMH hx,⟨hs,.inl ⟨h0,rfl⟩⟩,hf'⟩
 ·obtain⟨h3,g1,g2,g3⟩:=aPW (nx:=n1) h2 (cap:=N) (by rw[List.length_append,wY,List.length_replicate]; omega) hx hle
  refine⟨_,_,g1,⟨fun k o hk=>?_,.inr ⟨id,h1,by rw[List.length_append],?_⟩⟩,fun k hk=>?_⟩
  ·have:=hf.lt' hk
   rw[g3 k (by omega)]
   exact hs k o hk
  ·rw[g2,aJd pre l (by omega),List.length_append,show N - pre.length - l.length=N - (pre.length+l.length) by omega]
  ·have:=hf'.lt' h2
   rw[g3 k (by omega)]
   exact hf' k hk
set_option maxRecDepth 8000 in
set_option maxHeartbeats 1000000 in
theorem aMT {v:Value}{ls:List (List Nat)} (hv:SlR ro h v 1 (RB ro h) ls) (hlen:ls.length≤1000) (hsum:ls.flatten.length≤100000) (hf:Fr h nx) (hK:∀ r h' nx',nx≤nx'→Fr h' nx'→Sub h h'→dU h' r 1 cB (bY ls.flatten) nx→K r h' nx'):aN Tryz.prog ro i7 [v] h nx K:=by
 have hvl:=hv.len
 apply tM
 unfold nV
 refine aA hvl ?_
 refine a9 (fun j e h' nx'=>∃ i:Nat,i+j=ls.length∧nx+5≤nx'∧h'=h∧e 0=v∧e 3=.int .i64 ((ls.take i).flatten.length:Nat)∧e 9=v∧e 10=.int .i64 ls.length∧e 11=.int .i64 i) ?_ (n:=ls.length) ⟨0,by omega,by omega,rfl,rfl,rfl,rfl,rfl,rfl⟩
 rintro j e h' nx' ⟨i,hj,hnx,rfl,e0,e3,e9,e10,e11⟩ Q' hq hx
 unfold lY
 rw[e3,e9,e10,e11]
 refine dC (fun hk=>?_) (fun hk=>?_)
 ·have hk:i < ls.length:=by omega
  obtain⟨w,⟨w',hw,hwl⟩,hld⟩:=hv.at1 hk
  cases hw
  have hle:=wD (ls:=ls) (i+1)
  have hfs:=aBr hk
  have hwn:=hwl.len
  rw[dV] at hwn
  rw[hfs,List.length_append] at hle
  (repeat(first|refine zzB ?_|apply aD|apply aE|with_reducible first|apply aG|apply aF|apply aK|apply aH|apply aJ|apply aI|apply aL|apply aC))
  refine aA (hv.ix .i64 hk) (aA hld (aA hwn ?_))
  have hadd:aO .add (.int .i64 (((ls.take i).flatten.length:Nat):Int)) (.int .i64 ((ls[i].length:Nat):Int))=some (.int .i64 (((ls.take (i+1)).flatten.length:Nat):Int)):=by
   rw[cK,hfs,List.length_append,show (((ls.take i).flatten.length:Nat):Int)+((ls[i].length:Nat):Int)=(((ls.take i).flatten.length+ls[i].length:Nat):Int) by omega,dW (by omega) (by omega)]
  refine aA hadd ?_
  (repeat(first|refine zzB ?_|apply aD|apply aE|with_reducible first|apply aG|apply aF|apply aK|apply aH|apply aJ|apply aI|apply aL|apply aC))
  have hj3:∀ (e':Env) n',e' 0=v→e' 3=.int .i64 ((ls.take (i+1)).flatten.length:Nat)→e' 9=v→e' 10=.int .i64 ls.length→e' 11=.int .i64 i→nx'≤n'→iQ ro Q' e' h' n':=by
   intro e' n' d0 d3 d9 d10 d11 dn
   unfold iQ
   rw[d11]
   (repeat(first|refine zzB ?_|apply aD|apply aE|with_reducible first|apply aG|apply aF|apply aK|apply aH|apply aJ|apply aI|apply aL|apply aC))
   exact hq (j - 1) _ _ _ _ (by omega) ⟨i+1,by omega,by omega,rfl,d0,d3,d9,d10,rfl⟩ (Sub.refl _)
  refine hj3 _ _ e0 rfl e9 e10 e11 ?_
  omega
 ·(repeat(first|refine zzB ?_|apply aD|apply aE|with_reducible first|apply aG|apply aF|apply aK|apply aH|apply aJ|apply aI|apply aL|apply aC))
  refine hx _ _ _ _ (fun e=>by cases e) (eA (cR ?_))
  obtain rfl:i=ls.length:=by omega
  rw[List.take_length] at e3
  have hj1:∀ (e':Env) n',e' 0=v→e' 3=.int .i64 (ls.flatten.length:Nat)→nx'≤n'→gA ro K e' h' n':=by
   intro e' n' d0 d3 dn
   unfold gA
   rw[d0,d3]
   have hfin:∀ (w0:Value) (h1:V.T Obj) (n1:Nat) (e1:Env),e1 0=v→e1 6=w0→e1 25=v→e1 26=.int .i64 ls.length→e1 27=.int .i64 0→nx≤n1→Fr h1 n1→aLy h' nx ls.flatten.length [] w0 h1 →
     dQ (iP ro) e1 h1 n1 fun x14 e11 h12 n13=>exP x14 (eC ro K e11 h12 n13) (fun i15=>cN (Nat.beq i15 2) (eC ro K e11 h12 n13) (False)) (∃ h16,Sub h16 h12∧K (e11 2) h16 n13):=by
    intro w0 h1 n1 e1 b0 b6 b25 b26 b27 bn bf bc
    refine a9 (fun j e h2 n2=>∃ (i:Nat) (w:Value),i+j=ls.length∧nx≤n2∧Fr h2 n2∧e 6=w∧e 25=v∧e 26=.int .i64 ls.length∧e 27=.int .i64 i∧aLy h' nx ls.flatten.length (ls.take i).flatten w h2) ?_ (n:=ls.length) ⟨0,w0,by omega,bn,bf,b6,b25,b26,b27,bc⟩
    rintro j e h2 n2 ⟨i,w,hj,hn2,hf2,c6,c25,c26,c27,hcat⟩ Q' hq hx
    unfold iP
    rw[c6,c25,c26,c27]
    refine dC (fun hk=>?_) (fun hk=>?_)
    ·have hk:i < ls.length:=by omega
     have hv2:=hv.sub hcat.1 (RB.sub hcat.1)
     obtain⟨w9,⟨w',hw,hwl⟩,hld⟩:=hv2.at1 hk
     cases hw
     have hle:=wD (ls:=ls) (i+1)
     have hfs:=aBr hk
     rw[hfs,List.length_append] at hle
     obtain⟨w2,h3,p1,p2,p3⟩:=hcat.step (n1:=n2+7) hf hwl hle hf2
     rw[← hfs] at p2
     (repeat(first|refine zzB ?_|apply aD|apply aE|with_reducible first|apply aG|apply aF|apply aK|apply aH|apply aJ|apply aI|apply aL|apply aC))
     refine aA (hv2.ix .i64 hk) (aA hld (aA p1 ?_))
     (repeat(first|refine zzB ?_|apply aD|apply aE|with_reducible first|apply aG|apply aF|apply aK|apply aH|apply aJ|apply aI|apply aL|apply aC))
     dsimp only
     exact hq (j - 1) _ _ _ _ (by omega) ⟨i+1,w2,by omega,by omega,p3.mono (by omega),rfl,c25,c26,rfl,p2⟩ (Sub.refl _)
    ·(repeat(first|refine zzB ?_|apply aD|apply aE|with_reducible first|apply aG|apply aF|apply aK|apply aH|apply aJ|apply aI|apply aL|apply aC))
     refine hx _ _ _ _ (fun e=>by cases e) (eA (cR ?_))
     obtain rfl:i=ls.length:=by omega
     rw[List.take_length] at hcat
     have hj2:∀ (e':Env) n',e' 6=w→n2≤n'→eC ro K e' h2 n':=by
      intro e' n' d6 dn
      unfold eC
      rw[d6]
      refine⟨h2,Sub.refl _,hK w h2 _ (by omega) (hf2.mono (by omega)) hcat.1 ?_⟩
      obtain⟨_,⟨q1,q2⟩ | ⟨id,q1,q2,q3⟩⟩:=hcat
      ·refine .inl ⟨q2,?_⟩
       rw[List.length_eq_zero_iff.1 q1]; rfl
      ·refine .inr ⟨id,q1,?_,(fun x hx=>by unfold bY at hx; obtain⟨b,_,rfl⟩:=List.mem_map.1 hx; rfl),?_⟩
       ·rw[q2,dV]
       ·rw[q3,aG3,Nat.sub_self]; simp
     refine hj2 _ _ c6 ?_
     omega
   refine aP6 (n:=ls.flatten.length) (by omega) (hf.mono (by omega)) (fun h0 n1 hn1=>?_) fun h0 id h1 n1 hn1 hn2 hf1 hs1 hg1=>?_
   ·(repeat(first|refine zzB ?_|apply aD|apply aE|with_reducible first|apply aG|apply aF|apply aK|apply aH|apply aJ|apply aI|apply aL|apply aC))
    refine aA hvl ?_
    refine hfin _ _ _ _ d0 rfl rfl rfl rfl ?_ ?_ ⟨Sub.refl _,.inl ⟨h0,rfl⟩⟩
    ·omega
    ·exact hf.mono (by omega)
   ·(repeat(first|refine zzB ?_|apply aD|apply aE|with_reducible first|apply aG|apply aF|apply aK|apply aH|apply aJ|apply aI|apply aL|apply aC))
    refine aA hvl ?_
    refine hfin _ _ _ _ d0 rfl rfl rfl rfl ?_ ?_ ⟨hs1,.inr ⟨id,?_,rfl,?_⟩⟩
    ·omega
    ·exact hf1.mono (by omega)
    ·omega
    ·rw[hg1]; rfl
  refine hj1 _ _ e0 e3 ?_
  omega
end
end V
end Go.Proofs.YtcaccnneblghgaaGreat
namespace Go.Proofs.YtcaccnneblghgaaGreat
namespace V
attribute [local irreducible] aB ifP aR cS eQ exP cN
theorem aPl (id:Nat) (o1 o2:Option Addr) (l1 c1 l2 c2:Nat):bQ Tryz.prog gE id 2 [(0,.slice o1 l1 c1),(1,.slice o2 l2 c2)]=some (.slice (some (own id 1)) 2 2,some (.cells [Value.slice o1 l1 c1,.slice o2 l2 c2].toArray bC)):=by kernel_rfl
theorem Sl.form {ro:Ro}{h:T Obj}{v:Value}{z:Nat}{l:List (List Value)} (hl:Sl ro h v z l):∃ o n c,v=.slice o n c:=by
 rcases hl with ⟨h1,_⟩ | ⟨a,c,h1,_⟩
 ·exact⟨_,_,_,h1⟩
 ·exact⟨_,_,_,h1⟩
def aFf (most:Int) (s':ScD):Int:=if most < (s'.kept.length:Int) then 180 else 0
section
variable {ro:Ro}{h h':T Obj}{nx:Nat}{K:KV}{X X':List Nat}{p:Nat}{qs:List MqD}{T:TabD}{most er_ er':Int}{s s':ScD}
theorem aMP (h:ScI T s):ScI T { s with closed:=true }:=⟨⟨h.ok.lt,h.ok.len,h.ok.took,h.ok.held,h.ok.none,h.ok.some⟩,h.c,h.ms,h.ru,h.kb,h.st⟩
theorem aMc {b:Value} (hm:ScX ro h X p qs T most er_ s) (hr:aAA er_ s.closed≠0) (hK:∀ nx',nx≤nx'→K (.tuple #[.slice none 0 0,.int .i64 (aAA er_ s.closed)]) h nx'):aN Tryz.prog ro hY [ptr p,b] h nx K:=by
 apply qE
 unfold oW
 refine oY hm fun n1 hn1=>?_
 refine aEG hr ?_
 (repeat(first|refine zzB ?_|apply aD|apply aE|with_reducible first|apply aG|apply aF|apply aK|apply aH|apply aJ|apply aI|apply aL|apply aC))
 exact⟨h,Sub.refl _,hK _ (by omega)⟩
theorem aLJ (hm:ScX ro h X p qs T most er_ s) (hr:aAA er_ s.closed≠0) (hK:∀ nx',nx≤nx'→K (.tuple #[.slice none 0 0,.int .i64 (aAA er_ s.closed)]) h nx'):aN Tryz.prog ro gV [ptr p] h nx K:=by
 apply pF
 unfold nP
 refine oY hm fun n1 hn1=>?_
 refine aEG hr ?_
 (repeat(first|refine zzB ?_|apply aD|apply aE|with_reducible first|apply aG|apply aF|apply aK|apply aH|apply aJ|apply aI|apply aL|apply aC))
 exact⟨h,Sub.refl _,hK _ (by omega)⟩
set_option maxRecDepth 8000 in
set_option maxHeartbeats 1000000 in
theorem aHB (hm:ScX ro h X p qs T most 0 s) (hT:TabR T) (hI:ScI T s) (hTl:T.entries.length≤1000) (hcl:s.closed=false) (hsz:s.at_+s.kept.length≤400) (hf:Fr h nx)
  (hK:∀ r h' nx',nx≤nx'→Fr h' nx'→dT (mT p qs) h h'→ScX ro h' X p qs T most 0 (v8 T s).2→dU h' r 3 bJ (pI (v8 T s).1) nx→K (.tuple #[r,.int .i64 0]) h' nx'):aN Tryz.prog ro gV [ptr p] h nx K:=by
 have hr:aAA 0 s.closed=0:=by unfold aAA; rw[if_neg (by rw[hcl]; simp)]
 apply pF
 unfold nP
 refine oY hm fun n1 hn1=>?_
 refine aB1 hr ?_
 obtain⟨kv,tv,ev,mv,bv,hv⟩:=id hm
 have hv:ScV ro h X p qs T most 0 kv tv ev mv bv s:=hv
 have g1:=hv.1
 (repeat(first|refine aA (by simp (disch:=first|omega|exact nnN _|assumption) only [BB,B2,↓reduceIte,Nat.reduceLeDiff,Nat.reduceAdd,CC,a8]<;>rfl) ?_|apply aD|apply aE|with_reducible first|apply aG|apply aF|apply aK|apply aH|apply aJ|apply aI|apply aL|apply aC))
 refine aA (dG g1 (by simp[scL]) rfl rfl) ?_
 have hov:(scL kv tv ev mv most bv s 0).set 14 (.bool true)=scL kv tv ev mv most bv { s with closed:=true } 0:=rfl
 rw[hov]
 have hv1:=hv.upd (s':={ s with closed:=true }) (er':=0) rfl rfl
 have hk1:dT (mT p qs) h (h.upd p (some (.cells (scL kv tv ev mv most bv { s with closed:=true } 0).toArray aQ))):=(Sub.refl _).keepL.upd (List.mem_cons_self ..)
 refine aA3 hv1.x hT (aMP hI) hTl hsz ((hf.mono (by omega)).upd (Nat.le_refl _) (by have:=hf.lt' g1; omega)) fun r h2 n2 hn2 hf2 hk2 hs2 ho2=>?_
 (repeat(first|refine zzB ?_|apply aD|apply aE|with_reducible first|apply aG|apply aF|apply aK|apply aH|apply aJ|apply aI|apply aL|apply aC))
 refine⟨h2,Sub.refl _,?_⟩
 exact hK r h2 _ (by omega) (hf2.mono (by omega)) (hk1.trans hk2) hs2 (ho2.mono (by omega))
set_option maxRecDepth 8000 in
set_option maxHeartbeats 1000000 in
theorem aIg {bb:Value}{b:List Nat} (hm:ScX ro h X p qs T most 0 s) (hT:TabR T) (hI:ScI T s) (hTl:T.entries.length≤1000) (hcl:s.closed=false) (hX:∀ k∈X,k < nx) (hb:Sl ro h bb 1 (bY b)) (hb2:∀ x∈b,x < 256) (hsz:s.at_+s.kept.length+b.length≤400) (hf:Fr h nx)
  (hK:∀ r h' nx',nx≤nx'→Fr h' nx'→dT (mT p qs) h h'→ScX ro h' X p qs T most (aFf most (gY T s b).2) (gY T s b).2→dU h' r 3 bJ (pI (gY T s b).1) nx→K (.tuple #[r,.int .i64 (aFf most (gY T s b).2)]) h' nx'):aN Tryz.prog ro hY [ptr p,bb] h nx K:=by
 have hr:aAA 0 s.closed=0:=by unfold aAA; rw[if_neg (by rw[hcl]; simp)]
 apply qE
 unfold oW
 refine oY hm fun n1 hn1=>?_
 refine aB1 hr ?_
 obtain⟨kv,tv,ev,mv,bv,hv⟩:=id hm
 have hv:ScV ro h X p qs T most 0 kv tv ev mv bv s:=hv
 have g1:=hv.1
 have hpl:=hf.lt' g1
 have hbv:Sl ro h bv 1 (bY s.kept):=hv.2.2.2.2.2.1.sub (eX h X)
 have l6:=aZ (ro:=ro) (z:=0) g1 (show (scL kv tv ev mv most bv s 0)[6]?=some bv from rfl)
 (repeat(first|refine aA (by simp (disch:=first|omega|exact nnN _|assumption) only [BB,B2,↓reduceIte,Nat.reduceLeDiff,Nat.reduceAdd,CC,a8,l6]<;>rfl) ?_|apply aD|apply aE|with_reducible first|apply aG|apply aF|apply aK|apply aH|apply aJ|apply aI|apply aL|apply aC))
 obtain⟨o1,m1,c1,e1⟩:=hbv.form
 obtain⟨o2,m2,c2,e2⟩:=hb.form
 refine aA (by rw[e1,e2]; exact aPl _ _ _ _ _ _ _) (aE ?_)
 rw[← e1,← e2]
 generalize hh1:h.upd (n1+9) (some (.cells [bv,bb].toArray bC))=h1
 have hs1:Sub h h1:=by rw[← hh1]; exact (Sub.refl h).new hf (by omega)
 have hf1:Fr h1 (n1+11):=by rw[← hh1]; exact (hf.mono (by omega)).upd (Nat.le_refl _) (by omega)
 have hlist:SlR ro h1 (.slice (some (own (n1+9) 1)) 2 2) 1 (RB ro h1) [s.kept,b]:=by
  refine⟨[[bv],[bb]],Sl.own (l:=[[bv],[bb]]) (e:=bC) (f:=(0,0)) (by rw[← hh1,V.T.get_upd_same]; rfl) (by simp) (Nat.le_refl _),rfl,fun i x d hx hd=>?_⟩
  match i,hx,hd with
  | 0,hx,hd=>cases hx; cases hd; exact⟨bv,rfl,hbv.sub hs1⟩
  | 1,hx,hd=>cases hx; cases hd; exact⟨bb,rfl,hb.sub hs1⟩
  | i+2,hx,hd=>cases hx
 refine aMT hlist (by show 2≤1000; decide) (by simp; omega) hf1 fun r2 h2 n2 hn2 hf2 hs2 ho2=>?_
 have hfl:[s.kept,b].flatten=s.kept++b:=by simp
 rw[hfl] at ho2
 have hv2:=(hv.sub hs1).sub hs2
 (repeat(first|refine aA (by simp (disch:=first|omega|exact nnN _|assumption) only [BB,B2,↓reduceIte,Nat.reduceLeDiff,Nat.reduceAdd,CC,a8]<;>rfl) ?_|apply aD|apply aE|with_reducible first|apply aG|apply aF|apply aK|apply aH|apply aJ|apply aI|apply aL|apply aC))
 obtain⟨o3,m3,c3,e3⟩:=ho2.form
 refine aA (dG hv2.1 (by simp[scL]) ho2.ok (by rw[e3]; rfl)) ?_
 have hov:(scL kv tv ev mv most bv s 0).set 6 r2=scL kv tv ev mv most r2 (vD s b) 0:=rfl
 rw[hov]
 have hv3:=hv2.updB (s':=vD s b) (bv':=r2) (er':=0) rfl (ho2.del fun id hid hm9=>by
  have:=hX id hm9
  have:=(ho2.blk hid).1
  omega).sl
 generalize hh3:h2.upd p (some (.cells (scL kv tv ev mv most r2 (vD s b) 0).toArray aQ))=h3 at hv3
 have hk3:dT (mT p qs) h h3:=by rw[← hh3]; exact (hs1.trans hs2).keepL.upd (List.mem_cons_self ..)
 have hf3:Fr h3 n2:=by rw[← hh3]; exact hf2.upd (Nat.le_refl _) (by omega)
 have hlen9:(vD s b).kept.length=s.kept.length+b.length:=List.length_append
 refine aA3 hv3.x hT (aKM hI hb2) hTl (by rw[hlen9]; show s.at_+_≤400; omega) (hf3.mono (by omega)) fun r4 h4 n4 hn4 hf4 hk4 hs4 ho4=>?_
 rw[hlen9] at hs4 ho4
 have hs4:ScX ro h4 X p qs T most 0 (gY T s b).2:=hs4
 have ho4:dU h4 r4 3 bJ (pI (gY T s b).1) (n2+5):=ho4
 have hI4:=aMb hT hI hb2
 obtain⟨kv4,tv4,ev4,mv4,bv4,hv4⟩:=id hs4
 have hv4:ScV ro h4 X p qs T most 0 kv4 tv4 ev4 mv4 bv4 (gY T s b).2:=hv4
 have hbl:=(hv4.2.2.2.2.2.1.sub (eX h4 X)).len
 rw[dV] at hbl
 have l64:=aZ (ro:=ro) (z:=0) hv4.1 (show (scL kv4 tv4 ev4 mv4 most bv4 (gY T s b).2 0)[6]?=some bv4 from rfl)
 have l54:=aZ (ro:=ro) (z:=0) hv4.1 (show (scL kv4 tv4 ev4 mv4 most bv4 (gY T s b).2 0)[5]?=some (.int .i64 most) from rfl)
 have hj1:∀ (e':Env) (h5:V.T Obj) (n':Nat) (er':Int),e' 0=ptr p→e' 7=r4→er'=aFf most (gY T s b).2→n4≤n'→Fr h5 n'→dT (mT p qs) h h5→ScV ro h5 X p qs T most er' kv4 tv4 ev4 mv4 bv4 (gY T s b).2→dU h5 r4 3 bJ (pI (gY T s b).1) (n2+5)→jI ro K e' h5 n':=by
  intro e' h5 n' er' d0 d7 de dn df dk dv do_
  unfold jI
  rw[d0,d7]
  have l13:=aZ (ro:=ro) (z:=0) dv.1 (show (scL kv4 tv4 ev4 mv4 most bv4 (gY T s b).2 er')[13]?=some (.int .i64 er') from rfl)
  (repeat(first|refine aA (by simp (disch:=first|omega|exact nnN _|assumption) only [BB,B2,↓reduceIte,Nat.reduceLeDiff,Nat.reduceAdd,CC,a8,l13]<;>rfl) ?_|apply aD|apply aE|with_reducible first|apply aG|apply aF|apply aK|apply aH|apply aJ|apply aI|apply aL|apply aC))
  rw[← de] at hK
  exact⟨h5,Sub.refl _,hK r4 h5 _ (by omega) (df.mono (by omega)) dk dv.x (do_.mono (by omega))⟩
 (repeat(first|refine aA (by simp (disch:=first|omega|exact nnN _|assumption) only [BB,B2,↓reduceIte,Nat.reduceLeDiff,Nat.reduceAdd,CC,a8,l64]<;>rfl) ?_|apply aD|apply aE|with_reducible first|apply aG|apply aF|apply aK|apply aH|apply aJ|apply aI|apply aL|apply aC))
 refine aA hbl ?_
 (repeat(first|refine aA (by simp (disch:=first|omega|exact nnN _|assumption) only [BB,B2,↓reduceIte,Nat.reduceLeDiff,Nat.reduceAdd,CC,a8,l54]<;>rfl) ?_|apply aD|apply aE|with_reducible first|apply aG|apply aF|apply aK|apply aH|apply aJ|apply aI|apply aL|apply aC))
 by_cases hmo:most < ((gY T s b).2.kept.length:Int)
 ·refine aK9 hmo ?_
  (repeat(first|refine aA (by simp (disch:=first|omega|exact nnN _|assumption) only [BB,B2,↓reduceIte,Nat.reduceLeDiff,Nat.reduceAdd,CC,a8]<;>rfl) ?_|apply aD|apply aE|with_reducible first|apply aG|apply aF|apply aK|apply aH|apply aJ|apply aI|apply aL|apply aC))
  refine aA (dG hv4.1 (by simp[scL]) rfl rfl) ?_
  have hov4:(scL kv4 tv4 ev4 mv4 most bv4 (gY T s b).2 0).set 13 (.int .i64 180)=scL kv4 tv4 ev4 mv4 most bv4 (gY T s b).2 180:=rfl
  rw[hov4]
  have hp4:=hf4.lt' hv4.1
  refine hj1 _ _ _ 180 rfl rfl (by unfold aFf; rw[if_pos hmo]) ?_ ?_ ((hk3.trans hk4).upd (List.mem_cons_self ..)) (hv4.upd rfl rfl) (ho4.keepK (ids:=[p]) ((Sub.refl _).keepL.upd (by simp)) fun id hid hm9=>by simp at hm9; subst hm9; have:=(ho4.blk hid).1; omega)
  ·omega
  ·exact (hf4.mono (by omega)).upd (Nat.le_refl _) (by omega)
 ·refine aK8 (by omega) ?_
  (repeat(first|refine zzB ?_|apply aD|apply aE|with_reducible first|apply aG|apply aF|apply aK|apply aH|apply aJ|apply aI|apply aL|apply aC))
  refine hj1 _ _ _ 0 rfl rfl (by unfold aFf; rw[if_neg hmo]) ?_ ?_ (hk3.trans hk4) hv4 ho4
  ·omega
  ·exact hf4.mono (by omega)
end
end V
end Go.Proofs.YtcaccnneblghgaaGreat
namespace Go.Proofs.YtcaccnneblghgaaGreat
namespace V
attribute [local irreducible] aB ifP aR cS eQ exP cN
theorem aNG (h:T Obj) (a b:Int):eE Tryz.prog h .min #[dR,dR] [.int .i64 a,.int .i64 b]=some (.int .i64 (if b < a then b else a)):=by
 simp only[eE,aGe,aII]
 by_cases hb:b < a<;>simp[hb]
theorem aPT {ro:Ro}{h:T Obj}{v:Value}{l:List Nat} (hv:SlR ro h v 1 RU8 l):Sl ro h v 1 (bY l)∧∀ x∈l,x < 256:=by
 obtain⟨cs,h1,h2,h3⟩:=hv
 have e:cs=bY l:=by
  apply List.ext_getElem?
  intro i
  rcases Nat.lt_or_ge i l.length with hi | hi
  ·have hx:cs[i]?=some (cs[i]'(by omega)):=List.getElem?_eq_getElem _
   have:=(h3 i _ _ hx (List.getElem?_eq_getElem hi)).1
   rw[hx,this,sM hi]
  ·rw[List.getElem?_eq_none (by omega),List.getElem?_eq_none (by rw[dV]; omega)]
 refine⟨by rw[← e]; exact h1,fun x hx=>?_⟩
 obtain⟨i,hi⟩:=List.getElem?_of_mem hx
 have hl:=(List.getElem?_eq_some_iff.1 hi).1
 exact (h3 i _ x (List.getElem?_eq_getElem (by omega)) hi).2
theorem dT.base {ids:List Nat}{h0 h h':T Obj}{n0:Nat} (hk:dT ids h h') (hs:Sub h0 h) (hf:Fr h0 n0) (hi:∀ k∈ids,n0≤k):Sub h0 h':=fun k o hk0=>hk k o (hs k o hk0) fun h9=>by
 have:=hf.lt' hk0
 have:=hi k h9
 omega
theorem aCq.right {ro:Ro}{h:T Obj}{x:List Value}{Tb:TabD} (hd:aCq ro h x Tb) (hr:fX Tb=true):TabR Tb:=by
 obtain⟨cv,kv0,tv0,ev0,rfl,q1,q2,q3,q4,q5,q6,q7,q8⟩:=id hd
 refine (aI8 hr fun e he=>?_).1
 obtain⟨j,hj⟩:=List.getElem?_of_mem he
 obtain⟨hlt,rfl⟩:=List.getElem?_eq_some_iff.1 hj
 obtain⟨y,⟨ax,rv,_,hA,_⟩,_⟩:=q4.at hlt
 obtain⟨cv9,sv9,_,hc9,_⟩:=hA
 exact hc9
end V
end Go.Proofs.YtcaccnneblghgaaGreat
namespace Go.Proofs.YtcaccnneblghgaaGreat
namespace V
attribute [local irreducible] aB ifP aR cS eQ exP cN
def nN (ls:List (List Nat)):List (List Nat):=(ls.take 12).map (·.take 20)
theorem aAp (ls:List (List Nat)):(nN ls).length=min 12 ls.length:=by simp[nN]
theorem aJe {ls:List (List Nat)}{i:Nat} (hi:i < ls.length) (h12:i < 12):(nN ls)[i]?=some (ls[i].take 20):=by
 unfold nN
 rw[List.getElem?_map,List.getElem?_take_of_lt h12,List.getElem?_eq_getElem hi]; rfl
theorem aK6:∀ {l:List (List Nat)}{n:Nat},(∀ x∈l,x.length≤n)→l.flatten.length≤l.length*n
 | [],n,_=>by simp
 | x::l,n,h=>by
  rw[List.flatten_cons,List.length_append,List.length_cons,Nat.succ_mul]
  have:=h x (by simp)
  have:=aK6 (l:=l) (n:=n) fun y hy=>h y (by simp[hy])
  omega
theorem aJf (ls:List (List Nat)):(nN ls).flatten.length≤240:=by
 have h1:=aK6 (l:=nN ls) (n:=20) fun x hx=>by
  unfold nN at hx
  obtain⟨y,_,rfl⟩:=List.mem_map.1 hx
  exact List.length_take_le ..
 have h2:=aAp ls
 have:(nN ls).length*20≤12*20:=Nat.mul_le_mul_right _ (by omega)
 omega
theorem aNS {ls:List (List Nat)} (h:∀ b∈ls,∀ x∈b,x < 256):∀ b∈nN ls,∀ x∈b,x < 256:=fun b hb x hx=>by
 unfold nN at hb
 obtain⟨y,hy,rfl⟩:=List.mem_map.1 hb
 exact h y (List.mem_of_mem_take hy) x (List.mem_of_mem_take hx)
theorem aPj (id:Nat) (o1:Option Addr) (l1 c1:Nat):bQ Tryz.prog gE id 1 [(0,.slice o1 l1 c1)]=some (.slice (some (own id 1)) 1 1,some (.cells [Value.slice o1 l1 c1].toArray bC)):=by kernel_rfl
theorem aQP:und Tryz.prog gE=some (.slice bC):=by kernel_rfl
theorem aQL:∃ i,tin Tryz.prog bC=some i∧i.size=1∧i.bytes=24:=xH (by kernel_rfl)
theorem aQU:zer Tryz.prog bC=some (.slice none 0 0):=by kernel_rfl
section
variable {ro:Ro}{h:T Obj}{nx:Nat}{K:KV}{X:List Nat}
set_option maxRecDepth 8000 in
set_option maxHeartbeats 1000000 in
theorem aFI {v:Value}{ls:List (List Nat)} (hv:SlR ro (del h X) v 1 (RB ro (del h X)) ls) (hl:ls.length≤kW) (hlb:∀ b∈ls,b.length≤kW) (hX:∀ k∈X,k < nx) (hf:Fr h nx)
  (hK:∀ r h' nx',nx≤nx'→Fr h' nx'→Sub h h'→SlR ro (del h' X) r 1 (RB ro (del h' X)) (nN ls)→K r h' nx'):aN Tryz.prog ro uP [v] h nx K:=by
 have hvh:=hv.sub (eX h X) (RB.sub (eX h X))
 have hvl:=hvh.len
 have hl9:ls.length≤9223372036854775807:=hl
 apply aDy
 unfold aC7
 refine aA hvl ?_
 refine a9 (fun j e h' nx'=>∃ (k:Nat) (out:Value) (cs:List (List Value)),k+j=ls.length∧nx+5≤nx'∧Sub h h'∧Fr h' nx'∧e 3=out∧e 6=v∧e 7=.int .i64 ls.length∧e 8=.int .i64 k∧dU h' out 1 bC cs nx∧cs.length=min 12 k ∧
   ∀ (i:Nat) x d,cs[i]?=some x→(nN ls)[i]?=some d→RB ro (del h X) x d) ?_ (n:=ls.length) ⟨0,.slice none 0 0,[],by omega,by omega,Sub.refl _,hf.mono (by omega),rfl,rfl,rfl,rfl,dU.nil,rfl,fun i x d hx=>by simp at hx⟩
 rintro j e h' nx' ⟨k,out,cs,hj,hnx,hs,hf',e3,e6,e7,e8,ho,hcl,hcs⟩ Q' hq hx
 unfold yJ
 rw[e3,e6,e7,e8]
 refine dC (fun hk=>?_) (fun hk=>?_)
 ·have hk:k < ls.length:=by omega
  have hv2:=hvh.sub hs (RB.sub hs)
  obtain⟨w,⟨w',hw,hwl⟩,hld⟩:=hv2.at1 hk
  cases hw
  have hj2:∀ (e':Env) (h2:T Obj) (n':Nat) (out':Value) (cs':List (List Value)),e' 3=out'→e' 6=v→e' 7=.int .i64 ls.length→e' 8=.int .i64 k→nx'≤n'→Sub h h2→Fr h2 n'→dU h2 out' 1 bC cs' nx→cs'.length=min 12 (k+1) →
    (∀ (i:Nat) x d,cs'[i]?=some x→(nN ls)[i]?=some d→RB ro (del h X) x d)→oL ro Q' e' h2 n':=by
   intro e' h2 n' out' cs' d3 d6 d7 d8 dn ds df do_ dl dc
   unfold oL
   rw[d8]
   (repeat(first|refine zzB ?_|apply aD|apply aE|with_reducible first|apply aG|apply aF|apply aK|apply aH|apply aJ|apply aI|apply aL|apply aC))
   exact hq (j - 1) _ _ _ _ (by omega) ⟨k+1,out',cs',by omega,by omega,ds,df.mono (by omega),d3,d6,d7,rfl,do_,dl,dc⟩ (Sub.refl _)
  (repeat(first|refine zzB ?_|apply aD|apply aE|with_reducible first|apply aG|apply aF|apply aK|apply aH|apply aJ|apply aI|apply aL|apply aC))
  refine aA (hv2.ix .i64 hk) (aA hld ?_)
  by_cases h12:k < 12
  ·refine aPR (by omega) ?_
   (repeat(first|refine zzB ?_|apply aD|apply aE|with_reducible first|apply aG|apply aF|apply aK|apply aH|apply aJ|apply aI|apply aL|apply aC))
   obtain⟨w2,⟨w3,hw3,hwl3⟩,hld3⟩:=hv.at1 hk
   cases hw3
   have hww:w2=w:=by
    have h9:=aCA ((eX h X).trans hs) hld3
    rw[hld] at h9
    exact (Option.some.inj h9).symm
   subst hww
   have hlen:=hwl3.len
   rw[dV] at hlen
   have hbl9:ls[k].length≤9223372036854775807:=hlb _ (List.getElem_mem hk)
   refine aA hlen (aA (aNG _ _ _) ?_)
   have hmin:(if (20:Int) < (ls[k].length:Int) then (20:Int) else (ls[k].length:Int))=((min 20 ls[k].length:Nat):Int):=by split<;>omega
   rw[hmin]
   obtain⟨xv,hx1,hx2⟩:=Sl.take (P:=Tryz.prog) hwl3 mI aHC (by omega) (n:=min 20 ls[k].length) (by rw[dV]; omega) .i64
   have htk:(bY ls[k]).take (min 20 ls[k].length)=bY (ls[k].take 20):=by
    rw[List.take_eq_take_min (i:=20)]
    simp only[bY,List.map_take]
   rw[htk] at hx2
   refine aA hx1 ?_
   obtain⟨o1,m1,c1,e1⟩:=hx2.form
   obtain⟨i9,t1,t2,t3⟩:=aQL
   refine aA9 (z:=1) (l:=cs) (y:=[xv]) (by rw[e1]; exact aPj _ _ _ _) rfl ho aQP t1 (by omega) (by omega) aQU rfl (by simp only[List.all_cons,List.all_nil,hx2.ok,Bool.and_true]) (by rw[t3]; unfold big; omega) (by unfold big; omega) (hf'.mono (by omega)) (by omega) (by omega) (fun e9=>by have:=hf'.lt' (ho.blk e9).2; omega) fun h5 ho5 hk5 hf5=>?_
   refine hj2 _ _ _ _ (cs++[[xv]]) rfl e6 e7 e8 ?_ ?_ ?_ ho5 ?_ ?_
   ·dsimp only; omega
   ·intro b o hb
    have hlt:=hf.lt' hb
    refine hk5 b o (hs b o hb) (by omega) fun e9=>?_
    have:=(ho.blk e9).1
    omega
   ·exact hf5.mono (by dsimp only; omega)
   ·rw[List.length_append,hcl]; show min 12 k+1=_; omega
   ·intro i x d hxi hdi
    rcases Nat.lt_or_ge i cs.length with hi | hi
    ·rw[List.getElem?_append_left hi] at hxi
     exact hcs i x d hxi hdi
    ·rw[List.getElem?_append_right hi] at hxi
     have hi0:i - cs.length=0:=by
      rcases Nat.eq_zero_or_pos (i - cs.length) with h0 | h0
      ·exact h0
      ·rw[List.getElem?_eq_none (by simp; omega)] at hxi; cases hxi
     rw[hi0] at hxi
     cases hxi
     rw[show i=k by omega,aJe hk h12] at hdi
     cases hdi
     exact⟨xv,rfl,hx2⟩
  ·refine aPQ (by omega) ?_
   (repeat(first|refine zzB ?_|apply aD|apply aE|with_reducible first|apply aG|apply aF|apply aK|apply aH|apply aJ|apply aI|apply aL|apply aC))
   refine hj2 _ _ _ out cs e3 e6 e7 e8 ?_ hs ?_ ho ?_ hcs
   ·omega
   ·exact hf'.mono (by omega)
   ·omega
 ·(repeat(first|refine zzB ?_|apply aD|apply aE|with_reducible first|apply aG|apply aF|apply aK|apply aH|apply aJ|apply aI|apply aL|apply aC))
  refine hx _ _ _ _ (fun e=>by cases e) (eA (cR ?_))
  obtain rfl:k=ls.length:=by omega
  have hfin:∀ (e':Env) n',e' 3=out→nx'≤n'→oK ro K e' h' n':=by
   intro e' n' d3 dn
   unfold oK
   rw[d3]
   have hD:Sub (del h X) (del h' X):=dT.del (ids:=[]) hs.keepL (fun k hk=>by cases hk) fun k hk=>.inl hk
   refine⟨h',Sub.refl _,hK out h' _ (by omega) (hf'.mono (by omega)) hs ⟨cs,(ho.del fun id hid hm=>?_).sl,by rw[hcl,aAp],fun i x d hx hd=>RB.sub hD x d (hcs i x d hx hd)⟩⟩
   have:=(ho.blk hid).1
   have:=hX id hm
   omega
  refine hfin _ _ e3 ?_
  omega
end
end V
end Go.Proofs.YtcaccnneblghgaaGreat
namespace Go.Proofs.YtcaccnneblghgaaGreat
namespace V
attribute [local irreducible] aB ifP aR cS eQ exP cN
def aG2 (T:TabD):ScD→List (List Nat)→List TokD × ScD
 | s,[]=>([],s)
 | s,b::l=>((gY T s b).1++(aG2 T (gY T s b).2 l).1,(aG2 T (gY T s b).2 l).2)
section
variable {T:TabD}
theorem aEo (hT:TabR T):∀ (n:Nat) (s:ScD),ScI T s→(iB T n s).1.length+(iB T n s).2.kept.length≤s.kept.length
 | 0,s,h=>by show 0+s.kept.length≤_; omega
 | n+1,s,h=>by
  by_cases hk:s.kept=[]
  ·rw[zK _ hk]; show 0+s.kept.length≤_; omega
  ·have h1:=aGV hT h hk
   rw[pO,if_neg hk]
   split
   ·have h2:=aEo hT n _ (aKT hT h1 (by rw[pK]; exact hk))
    obtain⟨l1,l2⟩:=aBY h1.ok (by rw[pK]; exact hk)
    rw[aDL,pK] at h2
    rw[pK] at l2
    have h3:(aJ7 T (qP T (dX T s).2)).length≤1:=by unfold aJ7; split<;>simp
    show (aJ7 T (qP T (dX T s).2)++(iB T n (mL T (dX T s).2)).1).length+(iB T n (mL T (dX T s).2)).2.kept.length≤_
    rw[List.length_append]
    omega
   ·show 0+(dX T s).2.kept.length≤_
    rw[pK]; omega
theorem aLT (hT:TabR T) {s:ScD} (h:ScI T s) (hcl:s.closed=false) (b:List Nat) (hb:∀ x∈b,x < 256):ScI T (gY T s b).2∧(gY T s b).2.closed=false∧(gY T s b).2.at_+(gY T s b).2.kept.length=s.at_+s.kept.length+b.length∧(gY T s b).1.length+(gY T s b).2.kept.length≤s.kept.length+b.length:=by
 obtain⟨h1,h2,h3,h4,h5,h6⟩:=aOG hT.tok h.ok h.c hcl b
 have h7:=aEo hT (s.kept.length+b.length) (vD s b) (aKM h hb)
 rw[aDH] at h7
 exact⟨aMb hT h hb,h3,by omega,h7⟩
end
section
variable {ro:Ro}{h:T Obj}{nx:Nat}{K:KV}{X:List Nat}{p:Nat}{qs:List MqD}{T:TabD}{most:Int}{s:ScD}
structure AlI (ro:Ro) (X:List Nat) (p:Nat) (qs:List MqD) (T:TabD) (most:Int) (h:V.T Obj) (nx:Nat) (s:ScD) (pre:List (List Nat)) (h':V.T Obj) (nx':Nat) (out:Value) (Y:List Nat):Prop where
 kp:dT (mT p qs) h h'
 frr:Fr h' nx'
 sc:ScX ro h' (X++Y) p qs T most 0 (aG2 T s pre).2
 oo:dU h' out 3 bJ (pI (aG2 T s pre).1) nx
 ob:∀ b∈lA out,b∈Y
 yn:∀ b∈Y,nx≤b∧b≤nx'
 le:nx≤nx'
end
end V
end Go.Proofs.YtcaccnneblghgaaGreat
namespace Go.Proofs.YtcaccnneblghgaaGreat
namespace V
section
variable {T:TabD}
def aNq:Nat→List TokD→Prop
 | _,[]=>True
 | a,t::r=>a≤t.from_∧t.from_ < t.to∧aNq t.to r
theorem aNq.mono {a b:Nat}:∀ {l:List TokD},aNq b l→a≤b→aNq a l
 | [],_,_=>trivial
 | t::r,h,hab=>⟨Nat.le_trans hab h.1,h.2⟩
end
end V
end Go.Proofs.YtcaccnneblghgaaGreat
namespace Go.Proofs.YtcaccnneblghgaaGreat
namespace V
abbrev b0:Value:=.int .u8 0
abbrev b1:Value:=.int .u8 1
abbrev j0:Value:=.int .i64 0
abbrev jm:Value:=.int .i64 (-1)
abbrev s0:Value:=.slice none 0 0
def kTf (o:Obj):T Obj:=.n .e (some o) .e
def kTl (x:T Obj):T Obj:=.n x none .e
def kTr (x:T Obj):T Obj:=.n .e none x
def kTb (x y:T Obj):T Obj:=.n x none y
def kTn (x:T Obj) (o:Obj) (y:T Obj):T Obj:=.n x (some o) y
set_option maxRecDepth 1000000
def kO0:Obj:=.cells ⟨[.slice (some ⟨1009,0,(some 1)⟩) 1 1,.bool false,.bool false,.string ⟨⟨[65]⟩⟩,jm,.int .i64 11,.slice (some ⟨1706,0,(some 9)⟩) 2 2]⟩ 90
def kO1:Obj:=.cells ⟨[j0]⟩ 3
def kO2:Obj:=.cells ⟨[.string ⟨⟨[115,116,97,114,116]⟩⟩]⟩ 9
def kO3:Obj:=.cells ⟨[.int .u8 2,.int .u64 0,.int .u64 8589934592,.int .u64 0,.int .u64 0,s0,j0,j0,.string ⟨⟨[]⟩⟩,.int .u8 5,.int .u64 0,.int .u64 0,.int .u64 0,.int .u64 0,.slice (some ⟨1688,0,(some 1)⟩) 1 1,.int .i64 1,jm,.string ⟨⟨[]⟩⟩]⟩ 86
def kV4:List Value:=[.string ⟨⟨[114,117,108,101,32,42,32,45,32,65,32,97,43]⟩⟩]
def kV5:Value:=.tuple ⟨[.agg ⟨[.slice (some ⟨8,0,(some 1)⟩) 1 1,s0,.slice (some ⟨1915,0,(some 7)⟩) 1 1]⟩,j0,j0]⟩
def sO:Cp where
 f:=aFG
 args:=kV4
 h:=.e
 nx:=2
 v:=kV5
 h':=kTb (kTb (kTr (kTr (kTr (kTr (kTr (kTl (kTr (kTr (kTf kO0))))))))) (kTl (kTl (kTr (kTr (kTr (kTr (kTr (kTf kO1))))))))) (kTb (kTl (kTn .e kO2 (kTr (kTl (kTl (kTr (kTl (kTr (kTf kO1))))))))) (kTl (kTr (kTl (kTr (kTl (kTr (kTl (kTr (kTf kO3))))))))))
 nx':=2425
theorem jA:sE Tryz.prog sO:=tV kQ (l:=[]) kM (k:=200) fun ro=>by kernel_rfl
end V
end Go.Proofs.YtcaccnneblghgaaGreat
namespace Go.Proofs.YtcaccnneblghgaaGreat
namespace V
set_option maxRecDepth 1000000
def kO6:Obj:=.cells ⟨[.slice (some ⟨8,0,(some 1)⟩) 1 1,s0,.slice (some ⟨1915,0,(some 7)⟩) 1 1]⟩ 26
def kO7:Obj:=.cells ⟨[s0,s0,s0,s0]⟩ 34
def kV8:List Value:=[.agg ⟨[.slice (some ⟨8,0,(some 1)⟩) 1 1,s0,.slice (some ⟨1915,0,(some 7)⟩) 1 1]⟩]
def w8:Cp where
 f:=aFH
 args:=kV8
 h:=kTb (kTb (kTr (kTb (kTl (kTl (kTl (kTr (kTr (kTl (kTl (kTf kO6)))))))) (kTr (kTr (kTr (kTl (kTr (kTr (kTf kO0))))))))) (kTb (kTl (kTr (kTr (kTr (kTr (kTr (kTf kO1))))))) (kTr (kTr (kTr (kTr (kTl (kTr (kTl (kTl (kTf kO6))))))))))) (kTb (kTb (kTn .e kO2 (kTr (kTl (kTl (kTr (kTl (kTr (kTf kO1)))))))) (kTl (kTl (kTl (kTl (kTr (kTr (kTl (kTl (kTf kO7)))))))))) (kTl (kTr (kTl (kTr (kTl (kTr (kTl (kTr (kTf kO3))))))))))
 nx:=2441
 v:=.bool true
 h':=kTb (kTb (kTr (kTb (kTl (kTl (kTl (kTr (kTr (kTl (kTl (kTf kO6)))))))) (kTr (kTr (kTr (kTl (kTr (kTr (kTf kO0))))))))) (kTb (kTl (kTr (kTr (kTr (kTr (kTr (kTf kO1))))))) (kTr (kTr (kTr (kTr (kTl (kTr (kTl (kTl (kTf kO6))))))))))) (kTb (kTb (kTn .e kO2 (kTr (kTl (kTl (kTr (kTl (kTr (kTf kO1)))))))) (kTl (kTl (kTl (kTl (kTr (kTr (kTl (kTl (kTf kO7)))))))))) (kTl (kTr (kTl (kTr (kTl (kTr (kTl (kTr (kTf kO3))))))))))
 nx':=3274
theorem lI:sE Tryz.prog w8:=tV kQ (l:=[sO]) (bD jA kM) (k:=200) fun ro=>by kernel_rfl
end V
end Go.Proofs.YtcaccnneblghgaaGreat
namespace Go.Proofs.YtcaccnneblghgaaGreat
namespace V
set_option maxRecDepth 1000000
def kO9:Obj:=.cells ⟨[.slice (some ⟨3287,0,(some 1)⟩) 1 1,s0,s0,s0]⟩ 34
def wL:Obj:=.cells ⟨[.int .u8 2,.int .u64 0,.int .u64 8589934592,.int .u64 0,.int .u64 0,s0,j0,j0,.string ⟨⟨[]⟩⟩,.int .u8 5,.int .u64 0,.int .u64 0,.int .u64 0,.int .u64 0,.slice (some ⟨4546,0,(some 1)⟩) 1 1,.int .i64 1,jm,.string ⟨⟨[]⟩⟩]⟩ 86
def aRE:List Value:=[.agg ⟨[.slice (some ⟨8,0,(some 1)⟩) 1 1,s0,.slice (some ⟨1915,0,(some 7)⟩) 1 1]⟩,j0]
def aRF:Value:=.tuple ⟨[.slice (some ⟨4581,0,(some 9)⟩) 2 2,j0]⟩
def x3:Cp where
 f:=aG7
 args:=aRE
 h:=kTb (kTb (kTb (kTr (kTr (kTl (kTr (kTr (kTl (kTl (kTr (kTf kO2))))))))) (kTb (kTb (kTl (kTl (kTr (kTr (kTl (kTl (kTf kO6))))))) (kTl (kTr (kTr (kTl (kTl (kTr (kTl .e)))))))) (kTr (kTr (kTr (kTl (kTr (kTr (kTf kO0))))))))) (kTb (kTb (kTr (kTr (kTr (kTr (kTr (kTf kO1)))))) (kTr (kTl (kTr (kTr (kTl (kTl (kTr (kTf kO9))))))))) (kTr (kTr (kTr (kTr (kTl (kTr (kTl (kTl (kTf kO6))))))))))) (kTb (kTb (kTn .e kO2 (kTr (kTl (kTl (kTr (kTl (kTr (kTf kO1)))))))) (kTl (kTl (kTl (kTl (kTr (kTr (kTl (kTl (kTf kO7)))))))))) (kTl (kTr (kTl (kTr (kTl (kTr (kTl (kTr (kTf kO3))))))))))
 nx:=3301
 v:=aRF
 h':=kTb (kTb (kTb (kTr (kTr (kTl (kTr (kTr (kTl (kTl (kTr (kTf kO2))))))))) (kTb (kTl (kTl (kTl (kTr (kTr (kTl (kTl (kTf kO6)))))))) (kTr (kTr (kTr (kTl (kTr (kTr (kTf kO0))))))))) (kTb (kTb (kTr (kTr (kTr (kTr (kTr (kTf kO1)))))) (kTr (kTl (kTr (kTr (kTl (kTl (kTr (kTf kO9))))))))) (kTb (kTl (kTr (kTr (kTr (kTr (kTl (kTl (kTl (kTf wL))))))))) (kTr (kTr (kTr (kTl (kTr (kTl (kTl (kTf kO6))))))))))) (kTb (kTb (kTn .e kO2 (kTr (kTl (kTl (kTr (kTl (kTr (kTf kO1)))))))) (kTl (kTl (kTl (kTl (kTr (kTr (kTl (kTl (kTf kO7)))))))))) (kTl (kTb (kTl (kTl (kTr (kTr (kTr (kTl (kTl (kTl (kTf kO1))))))))) (kTl (kTr (kTl (kTr (kTl (kTr (kTf kO3))))))))))
 nx':=4609
theorem mX:sE Tryz.prog x3:=tV kQ (l:=[sO,w8]) (bD jA (bD lI kM)) (k:=200) fun ro=>by kernel_rfl
end V
end Go.Proofs.YtcaccnneblghgaaGreat
namespace Go.Proofs.YtcaccnneblghgaaGreat
namespace V
set_option maxRecDepth 1000000
def yH:Obj:=.cells ⟨[.int .u8 2,.int .u64 0,.int .u64 8589934592,.int .u64 0,.int .u64 0,s0,j0,j0,.string ⟨⟨[]⟩⟩,.int .u8 2,.int .u64 0,.int .u64 8589934592,.int .u64 0,.int .u64 0,s0,j0,j0,.string ⟨⟨[]⟩⟩,.int .u8 5,.int .u64 0,.int .u64 0,.int .u64 0,.int .u64 0,.slice (some ⟨5182,0,(some 1)⟩) 1 1,j0,jm,.string ⟨⟨[]⟩⟩,.int .u8 3,.int .u64 0,.int .u64 0,.int .u64 0,.int .u64 0,.slice (some ⟨5215,0,(some 1)⟩) 2 2,j0,j0,.string ⟨⟨[]⟩⟩]⟩ 86
def yI:Obj:=.cells ⟨[j0,.int .i64 2]⟩ 3
def jO:Obj:=.cells ⟨[.int .i64 1]⟩ 3
def aRG:List Value:=[.slice (some ⟨4581,0,(some 9)⟩) 2 2,.int .i64 9]
def aRH:Value:=.tuple ⟨[.slice (some ⟨5247,0,(some 9)⟩) 4 4,j0]⟩
def aAH:Cp where
 f:=aG6
 args:=aRG
 h:=kTb (kTb (kTb (kTr (kTr (kTl (kTr (kTr (kTl (kTl (kTr (kTf kO2))))))))) (kTb (kTl (kTl (kTl (kTr (kTr (kTl (kTl (kTf kO6)))))))) (kTr (kTr (kTr (kTl (kTr (kTr (kTf kO0))))))))) (kTb (kTb (kTr (kTr (kTr (kTr (kTr (kTf kO1)))))) (kTr (kTl (kTr (kTr (kTl (kTl (kTr (kTf kO9))))))))) (kTb (kTl (kTr (kTr (kTr (kTr (kTl (kTl (kTl (kTf wL))))))))) (kTr (kTr (kTr (kTl (kTr (kTl (kTl (kTf kO6))))))))))) (kTb (kTb (kTn .e kO2 (kTr (kTl (kTl (kTr (kTl (kTr (kTf kO1)))))))) (kTl (kTl (kTl (kTl (kTr (kTr (kTl (kTl (kTf kO7)))))))))) (kTl (kTb (kTl (kTl (kTr (kTr (kTr (kTl (kTl (kTl (kTf kO1))))))))) (kTl (kTr (kTl (kTr (kTl (kTr (kTf kO3))))))))))
 nx:=4617
 v:=aRH
 h':=kTb (kTb (kTb (kTb (kTl (kTb (kTl (kTr (kTl (kTl (kTr (kTl (kTf yH))))))) (kTr (kTl (kTl (kTl (kTr (kTl (kTf yI))))))))) (kTr (kTl (kTr (kTr (kTl (kTl (kTr (kTf kO2))))))))) (kTb (kTl (kTl (kTl (kTr (kTr (kTl (kTl (kTf kO6)))))))) (kTr (kTr (kTr (kTl (kTr (kTr (kTf kO0))))))))) (kTb (kTb (kTr (kTr (kTr (kTr (kTr (kTf kO1)))))) (kTr (kTl (kTr (kTr (kTl (kTl (kTr (kTf kO9))))))))) (kTb (kTl (kTr (kTr (kTr (kTr (kTl (kTl (kTl (kTf wL))))))))) (kTr (kTr (kTr (kTl (kTr (kTl (kTl (kTf kO6))))))))))) (kTb (kTb (kTn .e kO2 (kTr (kTl (kTl (kTr (kTl (kTr (kTf kO1)))))))) (kTl (kTl (kTl (kTl (kTr (kTr (kTl (kTl (kTf kO7)))))))))) (kTb (kTb (kTl (kTl (kTr (kTr (kTr (kTl (kTl (kTl (kTf kO1))))))))) (kTl (kTr (kTl (kTr (kTl (kTr (kTf kO3)))))))) (kTr (kTr (kTr (kTl (kTl (kTl (kTl (kTr (kTl (kTf jO))))))))))))
 nx':=5824
theorem oD:sE Tryz.prog aAH:=tV kQ (l:=[sO,w8,x3]) (bD jA (bD lI (bD mX kM))) (k:=200) fun ro=>by kernel_rfl
end V
end Go.Proofs.YtcaccnneblghgaaGreat
namespace Go.Proofs.YtcaccnneblghgaaGreat
namespace V
set_option maxRecDepth 1000000
def aQ9 (t:List Value):List Value:=b0::b0::b0::b0::b0::b0::b0::b0::b0::b0::b0::b0::b0::b0::b0::b0::b0::b0::b0::b0::b0::b0::b0::b0::b0::b0::b0::b0::b0::b0::b0::b0::b0::b0::b0::b0::b0::b0::b0::b0::b0::b0::b0::b0::b0::b0::b0::b0::b0::b0::b0::b0::b0::b0::b0::b0::b0::b0::b0::b0::b0::b0::b0::b0::b0::b0::b0::b0::b0::b0::b0::b0::b0::b0::b0::b0::b0::b0::b0::b0::b0::b0::b0::b0::b0::b0::b0::b0::b0::b0::b0::b0::b0::b0::b0::b0::b0::b0::b0::b0::b0::b0::b0::b0::b0::b0::b0::b0::b0::b0::b0::b0::b0::b0::b0::b0::b0::b0::b0::b0::b0::b0::b0::b0::b0::b0::b0::b0::b0::b0::b0::b0::b0::b0::b0::b0::b0::b0::b0::b0::b0::b0::b0::b0::b0::b0::b0::b0::b0::b0::b0::b0::b0::b0::b0::b0::b0::b0::b0::b0::b0::b0::b0::b0::b0::b0::b0::b0::b0::b0::b0::b0::b0::b0::b0::b0::b0::b0::b0::b0::b0::b0::b0::b0::b0::b0::b0::b0::b0::b0::b0::b0::b0::b0::b0::b0::b0::b0::b0::b0::b0::b0::b0::b0::b0::b0::b0::b0::b0::b0::b0::b0::b0::b0::b0::b0::b0::b0::b0::b0::b0::b0::b0::b0::b0::b0::b0::b0::b0::b0::b0::b0::b0::b0::b0::b0::b0::b0::b0::b0::b0::b0::b0::b0::b0::b0::b0::b0::b0::b0::b0::b0::b0::b0::b0::b0::t
def gI:Obj:=.cells ⟨[.slice (some ⟨5247,0,(some 9)⟩) 4 4]⟩ 79
def aHv:Obj:=.cells ⟨[.slice (some ⟨3287,0,(some 1)⟩) 1 1,.slice (some ⟨5849,0,(some 1)⟩) 1 1,.slice (some ⟨5862,0,(some 1)⟩) 1 1,s0]⟩ 34
def lE:Obj:=.cells ⟨[.string ⟨⟨[65]⟩⟩]⟩ 9
def aCz:Obj:=.cells ⟨(aQ9 [j0,s0,s0,s0])⟩ 65
def fR:Obj:=.cells ⟨[jm]⟩ 3
def aMl:Obj:=.cells ⟨[.int .u64 0,.int .u64 8589934592,.int .u64 0,.int .u64 0,.int .i64 1,.int .i64 1,j0,.bool true,.slice (some ⟨7491,0,(some 1)⟩) 1 1,.int .u64 0,.int .u64 8589934592,.int .u64 0,.int .u64 0,.int .i64 1,.int .i64 1,j0,.bool true,.slice (some ⟨7219,0,(some 1)⟩) 1 1]⟩ 192
def aRI:Value:=.tuple ⟨[.agg ⟨[.slice (some ⟨7717,0,(some 1)⟩) 1 1,.slice (some ⟨6903,0,(some 9)⟩) 2 2]⟩,j0]⟩
def aKR:Cp where
 f:=aDt
 args:=[.slice (some ⟨5963,0,(some 1)⟩) 1 1]
 h:=kTb (kTb (kTb (kTb (kTl (kTb (kTl (kTr (kTl (kTl (kTr (kTl (kTf yH))))))) (kTr (kTl (kTl (kTl (kTr (kTl (kTf yI))))))))) (kTr (kTl (kTr (kTr (kTl (kTl (kTr (kTf kO2))))))))) (kTb (kTl (kTl (kTl (kTr (kTr (kTl (kTl (kTf kO6)))))))) (kTb (kTb (kTr (kTb (kTr (kTr (kTr (kTl (kTf gI))))) (kTl (kTr (kTr (kTl (kTf gI))))))) (kTl (kTl (kTr (kTr (kTr (kTl (kTf kO1)))))))) (kTr (kTr (kTl (kTr (kTr (kTf kO0))))))))) (kTb (kTb (kTr (kTr (kTr (kTr (kTr (kTf kO1)))))) (kTb (kTb (kTr (kTb (kTr (kTr (kTr (kTl (kTf gI))))) (kTl (kTr (kTr (kTl (kTf gI))))))) (kTl (kTl (kTr (kTr (kTr (kTl (kTf kO1)))))))) (kTb (kTr (kTr (kTl (kTb (kTr (kTf aHv)) (kTr (kTl (kTf lE))))))) (kTl (kTl (kTr (kTr (kTr (kTl (kTf aCz)))))))))) (kTb (kTb (kTr (kTr (kTr (kTr (kTl (kTl (kTl (kTf wL)))))))) (kTl (kTr (kTr (kTl (kTr (kTr (kTl (kTf lE))))))))) (kTr (kTr (kTr (kTb (kTr (kTl (kTl (kTf kO6)))) (kTl (kTr (kTr (kTl (kTf kO6)))))))))))) (kTb (kTb (kTn .e kO2 (kTr (kTl (kTl (kTr (kTl (kTr (kTf kO1)))))))) (kTl (kTl (kTl (kTl (kTr (kTr (kTl (kTl (kTf kO7)))))))))) (kTb (kTb (kTl (kTb (kTr (kTr (kTr (kTl (kTl (kTl (kTf kO1))))))) (kTr (kTr (kTl (kTr (kTr (kTl (kTf fR))))))))) (kTl (kTr (kTl (kTr (kTl (kTr (kTf kO3)))))))) (kTb (kTl (kTr (kTr (kTr (kTl (kTr (kTr (kTl (kTf fR))))))))) (kTr (kTr (kTl (kTl (kTl (kTl (kTr (kTl (kTf jO))))))))))))
 nx:=5974
 v:=aRI
 h':=kTb (kTb (kTb (kTb (kTl (kTb (kTl (kTr (kTl (kTl (kTr (kTl (kTf yH))))))) (kTr (kTl (kTl (kTl (kTr (kTl (kTf yI))))))))) (kTr (kTb (kTr (kTr (kTl (kTl (kTr (kTf kO2)))))) (kTr (kTr (kTl (kTr (kTl (kTr (kTf aMl)))))))))) (kTb (kTb (kTl (kTb (kTr (kTr (kTl (kTl (kTf kO6))))) (kTl (kTr (kTl (kTr (kTr (kTf jO)))))))) (kTr (kTl (kTl (kTl (kTl (kTr (kTr (kTf jO))))))))) (kTb (kTb (kTr (kTb (kTr (kTr (kTr (kTl (kTf gI))))) (kTl (kTr (kTr (kTl (kTf gI))))))) (kTl (kTl (kTr (kTr (kTr (kTl (kTf kO1)))))))) (kTr (kTr (kTl (kTr (kTr (kTf kO0))))))))) (kTb (kTb (kTr (kTr (kTr (kTr (kTr (kTf kO1)))))) (kTb (kTb (kTr (kTb (kTr (kTr (kTr (kTl (kTf gI))))) (kTl (kTr (kTr (kTl (kTf gI))))))) (kTl (kTl (kTr (kTr (kTr (kTl (kTf kO1)))))))) (kTb (kTr (kTr (kTl (kTb (kTr (kTf aHv)) (kTr (kTl (kTf lE))))))) (kTl (kTl (kTr (kTr (kTr (kTl (kTf aCz)))))))))) (kTb (kTb (kTr (kTb (kTl (kTl (kTr (kTr (kTr (kTf kO1)))))) (kTr (kTr (kTl (kTl (kTl (kTf wL)))))))) (kTl (kTr (kTr (kTl (kTr (kTr (kTl (kTf lE))))))))) (kTr (kTr (kTr (kTb (kTr (kTl (kTl (kTf kO6)))) (kTl (kTr (kTr (kTl (kTf kO6)))))))))))) (kTb (kTb (kTn .e kO2 (kTr (kTl (kTl (kTr (kTl (kTr (kTf kO1)))))))) (kTl (kTl (kTl (kTl (kTr (kTr (kTl (kTl (kTf kO7)))))))))) (kTb (kTb (kTl (kTb (kTr (kTr (kTr (kTl (kTl (kTl (kTf kO1))))))) (kTr (kTr (kTl (kTr (kTr (kTl (kTf fR))))))))) (kTl (kTr (kTl (kTr (kTl (kTr (kTf kO3)))))))) (kTb (kTl (kTr (kTr (kTr (kTl (kTr (kTr (kTl (kTf fR))))))))) (kTr (kTr (kTl (kTl (kTl (kTl (kTr (kTl (kTf jO))))))))))))
 nx':=7804
theorem aDe:sE Tryz.prog aKR:=tV kQ (l:=[sO,w8,x3,aAH]) (bD jA (bD lI (bD mX (bD oD kM)))) (k:=200) fun ro=>by kernel_rfl
end V
end Go.Proofs.YtcaccnneblghgaaGreat
namespace Go.Proofs.YtcaccnneblghgaaGreat
namespace V
set_option maxRecDepth 1000000
def aBV (t:List Value):List Value:=b0::b0::b0::b0::b0::b0::b0::b0::b0::b0::b0::b0::b0::b0::b0::b0::b0::b0::b0::b0::b0::b0::b0::b0::b0::b0::b0::b0::b0::b0::b0::b0::b0::b0::b0::b0::b0::b0::b0::b0::b0::b0::b0::b0::b0::b0::b0::b0::b0::b0::b0::b0::b0::b0::b0::b0::b0::b0::b0::b0::b0::b0::b0::b0::b0::b0::b0::b0::b0::b0::b0::b0::b0::b0::b0::b0::b0::b0::b0::b0::b0::b0::b0::b0::b0::b0::b0::b0::b0::b0::b0::b0::b0::b0::b0::b0::b0::b1::b0::b0::b0::b0::b0::b0::b0::b0::b0::b0::b0::b0::b0::b0::b0::b0::b0::b0::b0::b0::b0::b0::b0::b0::b0::b0::b0::b0::b0::b0::b0::b0::b0::b0::b0::b0::b0::b0::b0::b0::b0::b0::b0::b0::b0::b0::b0::b0::b0::b0::b0::b0::b0::b0::b0::b0::b0::b0::b0::b0::b0::b0::b0::b0::b0::b0::b0::b0::b0::b0::b0::b0::b0::b0::b0::b0::b0::b0::b0::b0::b0::b0::b0::b0::b0::b0::b0::b0::b0::b0::b0::b0::b0::b0::b0::b0::b0::b0::b0::b0::b0::b0::b0::b0::b0::b0::b0::b0::b0::b0::b0::b0::b0::b0::b0::b0::b0::b0::b0::b0::b0::b0::b0::b0::b0::b0::b0::b0::b0::b0::b0::b0::b0::b0::b0::b0::b0::b0::b0::b0::b0::b0::b0::b0::b0::b0::b0::b0::b0::b0::b0::b0::b0::b0::b0::b0::b0::b0::t
def aON:Obj:=.cells ⟨[.slice (some ⟨7717,0,(some 1)⟩) 1 1,.slice (some ⟨6903,0,(some 9)⟩) 2 2]⟩ 136
def aDA:Obj:=.cells ⟨[jm,s0,.int .i64 2,s0]⟩ 202
def aLW:Obj:=.cells ⟨[jm,s0,.int .i64 1,s0]⟩ 202
def aP7:Obj:=.cells ⟨[.slice (some ⟨42591,0,(some 2)⟩) 2 2]⟩ 200
def aP8:Obj:=.cells ⟨[.slice (some ⟨40887,0,(some 2)⟩) 2 2]⟩ 200
def aP9:Obj:=.cells ⟨[s0,s0,.slice (some ⟨40384,0,(some 1)⟩) 1 1,.slice (some ⟨40909,0,(some 1)⟩) 1 1,.slice (some ⟨40670,0,(some 1)⟩) 1 1,s0,.slice (some ⟨41071,0,(some 1)⟩) 1 1,.slice (some ⟨41768,0,(some 1)⟩) 1 1,.slice (some ⟨41593,0,(some 1)⟩) 1 1,s0,.slice (some ⟨41930,0,(some 1)⟩) 1 1,.slice (some ⟨42613,0,(some 1)⟩) 1 1]⟩ 160
def aPa:Obj:=.cells ⟨[.slice (some ⟨41746,0,(some 2)⟩) 2 2]⟩ 200
def aRJ:List Value:=[.agg ⟨[.slice (some ⟨7717,0,(some 1)⟩) 1 1,.slice (some ⟨6903,0,(some 9)⟩) 2 2]⟩]
def aRK:Value:=.tuple ⟨[.agg ⟨(aBV [.int .i64 2,s0,.slice (some ⟨41728,0,(some 4)⟩) 3 3])⟩,j0]⟩
def aMU:Cp where
 f:=aDu
 args:=aRJ
 h:=kTb (kTb (kTb (kTb (kTl (kTb (kTl (kTr (kTl (kTb (kTr (kTl (kTf yH))) (kTr (kTr (kTf aON))))))) (kTr (kTl (kTl (kTl (kTr (kTl (kTf yI))))))))) (kTr (kTb (kTr (kTr (kTl (kTl (kTr (kTf kO2)))))) (kTr (kTr (kTl (kTr (kTl (kTr (kTf aMl)))))))))) (kTb (kTb (kTl (kTb (kTr (kTr (kTl (kTl (kTf kO6))))) (kTl (kTr (kTl (kTr (kTr (kTf jO)))))))) (kTr (kTl (kTl (kTl (kTl (kTr (kTr (kTf jO))))))))) (kTb (kTb (kTr (kTb (kTr (kTr (kTr (kTl (kTf gI))))) (kTl (kTr (kTr (kTl (kTf gI))))))) (kTl (kTl (kTr (kTr (kTr (kTl (kTf kO1)))))))) (kTr (kTr (kTl (kTr (kTr (kTf kO0))))))))) (kTb (kTb (kTr (kTr (kTr (kTr (kTr (kTf kO1)))))) (kTb (kTb (kTr (kTb (kTr (kTr (kTr (kTl (kTf gI))))) (kTl (kTr (kTr (kTl (kTf gI))))))) (kTl (kTl (kTr (kTr (kTr (kTl (kTf kO1)))))))) (kTb (kTr (kTr (kTl (kTb (kTr (kTf aHv)) (kTr (kTl (kTf lE))))))) (kTl (kTl (kTr (kTr (kTr (kTl (kTf aCz)))))))))) (kTb (kTb (kTr (kTb (kTl (kTl (kTr (kTr (kTr (kTf kO1)))))) (kTr (kTr (kTl (kTl (kTl (kTf wL)))))))) (kTl (kTr (kTr (kTl (kTr (kTr (kTl (kTf lE))))))))) (kTr (kTr (kTr (kTb (kTr (kTl (kTl (kTf kO6)))) (kTl (kTr (kTr (kTl (kTf kO6)))))))))))) (kTb (kTb (kTn .e kO2 (kTr (kTl (kTl (kTr (kTl (kTr (kTf kO1)))))))) (kTl (kTl (kTl (kTl (kTr (kTr (kTl (kTl (kTf kO7)))))))))) (kTb (kTb (kTl (kTb (kTr (kTr (kTr (kTl (kTl (kTl (kTf kO1))))))) (kTr (kTr (kTl (kTr (kTr (kTl (kTf fR))))))))) (kTl (kTr (kTl (kTr (kTl (kTr (kTf kO3)))))))) (kTb (kTl (kTr (kTr (kTr (kTl (kTr (kTr (kTl (kTf fR))))))))) (kTr (kTr (kTl (kTl (kTl (kTl (kTr (kTl (kTf jO))))))))))))
 nx:=7814
 v:=aRK
 h':=kTb (kTb (kTb (kTb (kTb (kTb (kTl (kTr (kTl (kTb (kTr (kTl (kTf yH))) (kTr (kTr (kTf aON))))))) (kTr (kTl (kTl (kTb (kTr (kTl (kTf yI))) (kTr (kTl (kTl (kTr (kTl (kTf aDA))))))))))) (kTr (kTr (kTl (kTl (kTl (kTl (kTl (kTl (kTr (kTl (kTf kO1)))))))))))) (kTr (kTb (kTr (kTr (kTl (kTl (kTr (kTf kO2)))))) (kTb (kTr (kTr (kTr (kTr (kTr (kTr (kTl (kTl (kTf aLW))))))))) (kTr (kTl (kTr (kTl (kTr (kTf aMl)))))))))) (kTb (kTb (kTl (kTb (kTr (kTr (kTl (kTl (kTf kO6))))) (kTl (kTr (kTl (kTr (kTr (kTf jO)))))))) (kTr (kTl (kTl (kTl (kTl (kTr (kTr (kTf jO))))))))) (kTb (kTb (kTr (kTb (kTr (kTr (kTr (kTl (kTf gI))))) (kTl (kTr (kTr (kTl (kTf gI))))))) (kTl (kTl (kTr (kTr (kTr (kTl (kTf kO1)))))))) (kTr (kTr (kTl (kTr (kTr (kTf kO0))))))))) (kTb (kTb (kTr (kTr (kTr (kTr (kTr (kTf kO1)))))) (kTb (kTb (kTr (kTb (kTr (kTr (kTr (kTl (kTf gI))))) (kTl (kTr (kTr (kTl (kTf gI))))))) (kTl (kTl (kTr (kTr (kTr (kTl (kTf kO1)))))))) (kTb (kTr (kTr (kTl (kTb (kTr (kTf aHv)) (kTr (kTl (kTf lE))))))) (kTb (kTl (kTr (kTr (kTr (kTl (kTf aCz)))))) (kTl (kTl (kTr (kTl (kTl (kTl (kTr (kTl (kTf jO))))))))))))) (kTb (kTb (kTr (kTb (kTl (kTl (kTr (kTr (kTr (kTf kO1)))))) (kTr (kTr (kTl (kTl (kTl (kTf wL)))))))) (kTb (kTr (kTr (kTl (kTr (kTr (kTl (kTf lE))))))) (kTr (kTl (kTl (kTr (kTr (kTl (kTl (kTr (kTl (kTf aP7)))))))))))) (kTb (kTl (kTr (kTr (kTr (kTr (kTr (kTr (kTr (kTl (kTl (kTf aP8))))))))))) (kTr (kTr (kTb (kTr (kTl (kTl (kTf kO6)))) (kTl (kTr (kTr (kTl (kTf kO6)))))))))))) (kTb (kTb (kTn (kTl (kTl (kTb (kTl (kTr (kTr (kTl (kTl (kTl (kTr (kTl (kTf aP9))))))))) (kTr (kTr (kTl (kTr (kTr (kTr (kTl (kTl (kTf fR)))))))))))) kO2 (kTb (kTr (kTl (kTl (kTr (kTr (kTl (kTl (kTl (kTr (kTl (kTf aPa))))))))))) (kTl (kTl (kTr (kTl (kTr (kTf kO1)))))))) (kTl (kTl (kTl (kTl (kTr (kTr (kTl (kTl (kTf kO7)))))))))) (kTb (kTb (kTb (kTb (kTr (kTr (kTr (kTl (kTl (kTl (kTf kO1))))))) (kTr (kTr (kTl (kTr (kTr (kTl (kTf fR)))))))) (kTl (kTl (kTl (kTr (kTr (kTl (kTl (kTl (kTr (kTl (kTf aDA)))))))))))) (kTl (kTb (kTr (kTr (kTr (kTr (kTl (kTl (kTl (kTr (kTl (kTf kO1)))))))))) (kTl (kTr (kTl (kTr (kTf kO3)))))))) (kTb (kTl (kTr (kTr (kTr (kTl (kTr (kTr (kTl (kTf fR))))))))) (kTr (kTb (kTr (kTr (kTl (kTr (kTr (kTr (kTr (kTl (kTl (kTf kO1)))))))))) (kTl (kTl (kTl (kTl (kTr (kTl (kTf jO))))))))))))
 nx':=42658
theorem aH6:sE Tryz.prog aMU:=tV kQ (l:=[sO,w8,x3,aAH,aKR]) (bD jA (bD lI (bD mX (bD oD (bD aDe kM))))) (k:=200) fun ro=>by kernel_rfl
end V
end Go.Proofs.YtcaccnneblghgaaGreat
namespace Go.Proofs.YtcaccnneblghgaaGreat
namespace V
set_option maxRecDepth 1000000
def aQ6:Obj:=.cells ⟨(aBV [.int .i64 2,s0,.slice (some ⟨41728,0,(some 4)⟩) 3 3])⟩ 63
def vN:Obj:=.cells ⟨[]⟩ 149
def aBu:Obj:=.cells ⟨[jm,s0,.int .i64 1,.slice (some ⟨62911,0,(some 1)⟩) 0 0]⟩ 202
def aBv:Obj:=.cells ⟨[.slice (some ⟨62919,0,(some 2)⟩) 2 2]⟩ 200
def aBw:Obj:=.cells ⟨[.slice (some ⟨63066,0,(some 2)⟩) 2 2]⟩ 200
def aBx:Obj:=.cells ⟨[jm,s0,.int .i64 1,.slice (some ⟨63058,0,(some 1)⟩) 0 0]⟩ 202
def aBy:Obj:=.cells ⟨[.slice (some ⟨62947,0,(some 1)⟩) 0 0,.slice (some ⟨62951,0,(some 1)⟩) 0 0,.slice (some ⟨62965,0,(some 1)⟩) 1 1,.slice (some ⟨62935,0,(some 1)⟩) 1 1,.slice (some ⟨63112,0,(some 1)⟩) 1 1,.slice (some ⟨63098,0,(some 1)⟩) 0 0,.slice (some ⟨63113,0,(some 1)⟩) 1 1,.slice (some ⟨63082,0,(some 1)⟩) 1 1]⟩ 160
def aRL:List Value:=[.agg ⟨(aBV [.int .i64 2,s0,.slice (some ⟨41728,0,(some 4)⟩) 3 3])⟩]
def aRM:Value:=.tuple ⟨[.agg ⟨(aBV [.int .i64 2,.slice (some ⟨62815,0,(some 2)⟩) 0 0,.slice (some ⟨63322,0,(some 4)⟩) 2 2])⟩,j0]⟩
def aPK:Cp where
 f:=aDv
 args:=aRL
 h:=kTb (kTb (kTb (kTb (kTb (kTb (kTl (kTr (kTl (kTb (kTr (kTl (kTf yH))) (kTr (kTr (kTf aON))))))) (kTr (kTl (kTl (kTb (kTr (kTl (kTf yI))) (kTr (kTl (kTl (kTr (kTl (kTf aDA))))))))))) (kTr (kTr (kTl (kTl (kTl (kTl (kTl (kTl (kTr (kTl (kTf kO1)))))))))))) (kTr (kTb (kTr (kTr (kTl (kTl (kTr (kTf kO2)))))) (kTb (kTr (kTr (kTr (kTr (kTr (kTr (kTl (kTl (kTf aLW))))))))) (kTr (kTl (kTr (kTl (kTr (kTf aMl)))))))))) (kTb (kTb (kTl (kTb (kTr (kTr (kTl (kTl (kTf kO6))))) (kTl (kTr (kTl (kTr (kTr (kTf jO)))))))) (kTr (kTl (kTl (kTl (kTl (kTr (kTr (kTf jO))))))))) (kTb (kTb (kTr (kTb (kTr (kTr (kTr (kTl (kTf gI))))) (kTl (kTr (kTr (kTl (kTf gI))))))) (kTl (kTl (kTr (kTr (kTr (kTl (kTf kO1)))))))) (kTr (kTr (kTl (kTr (kTr (kTf kO0))))))))) (kTb (kTb (kTr (kTr (kTr (kTr (kTr (kTf kO1)))))) (kTb (kTb (kTr (kTb (kTr (kTr (kTr (kTl (kTf gI))))) (kTl (kTr (kTr (kTl (kTf gI))))))) (kTl (kTl (kTr (kTr (kTr (kTl (kTf kO1)))))))) (kTb (kTr (kTr (kTl (kTb (kTr (kTf aHv)) (kTr (kTl (kTf lE))))))) (kTb (kTl (kTr (kTr (kTr (kTl (kTf aCz)))))) (kTl (kTl (kTr (kTl (kTl (kTl (kTr (kTl (kTf jO))))))))))))) (kTb (kTb (kTr (kTb (kTb (kTl (kTr (kTr (kTr (kTf kO1))))) (kTl (kTr (kTr (kTl (kTl (kTr (kTl (kTf aQ6))))))))) (kTr (kTr (kTl (kTl (kTl (kTf wL)))))))) (kTb (kTr (kTr (kTl (kTr (kTr (kTl (kTf lE))))))) (kTr (kTl (kTl (kTr (kTr (kTl (kTl (kTr (kTl (kTf aP7)))))))))))) (kTb (kTl (kTr (kTr (kTr (kTr (kTr (kTr (kTr (kTl (kTl (kTf aP8))))))))))) (kTr (kTr (kTb (kTr (kTl (kTl (kTf kO6)))) (kTl (kTr (kTr (kTl (kTf kO6)))))))))))) (kTb (kTb (kTn (kTl (kTl (kTb (kTl (kTr (kTr (kTl (kTl (kTl (kTr (kTl (kTf aP9))))))))) (kTr (kTr (kTl (kTr (kTr (kTr (kTl (kTl (kTf fR)))))))))))) kO2 (kTb (kTr (kTl (kTl (kTr (kTr (kTl (kTl (kTl (kTr (kTl (kTf aPa))))))))))) (kTl (kTl (kTr (kTl (kTr (kTf kO1)))))))) (kTl (kTl (kTl (kTl (kTr (kTr (kTl (kTl (kTf kO7)))))))))) (kTb (kTb (kTb (kTb (kTr (kTr (kTr (kTl (kTl (kTl (kTf kO1))))))) (kTr (kTr (kTl (kTr (kTr (kTl (kTf fR)))))))) (kTl (kTl (kTl (kTr (kTr (kTl (kTl (kTl (kTr (kTl (kTf aDA)))))))))))) (kTl (kTb (kTr (kTr (kTr (kTr (kTl (kTl (kTl (kTr (kTl (kTf kO1)))))))))) (kTl (kTr (kTl (kTr (kTf kO3)))))))) (kTb (kTl (kTr (kTr (kTr (kTl (kTr (kTr (kTl (kTf fR))))))))) (kTr (kTb (kTr (kTr (kTl (kTr (kTr (kTr (kTr (kTl (kTl (kTf kO1)))))))))) (kTl (kTl (kTl (kTl (kTr (kTl (kTf jO))))))))))))
 nx:=42668
 v:=aRM
 h':=kTb (kTb (kTb (kTb (kTb (kTb (kTb (kTr (kTl (kTb (kTr (kTl (kTf yH))) (kTr (kTr (kTf aON)))))) (kTr (kTr (kTl (kTr (kTl (kTr (kTr (kTr (kTf (.cells ⟨[]⟩ 5))))))))))) (kTr (kTl (kTb (kTb (kTr (kTl (kTf yI))) (kTr (kTl (kTl (kTr (kTl (kTf aDA))))))) (kTl (kTr (kTl (kTr (kTr (kTr (kTf vN))))))))))) (kTr (kTr (kTl (kTl (kTl (kTl (kTl (kTl (kTr (kTl (kTf kO1)))))))))))) (kTb (kTb (kTr (kTr (kTr (kTl (kTr (kTl (kTr (kTr (kTr (kTf aBu)))))))))) (kTr (kTr (kTr (kTl (kTr (kTl (kTr (kTr (kTr (kTf (.cells ⟨[]⟩ 3)))))))))))) (kTb (kTr (kTr (kTb (kTl (kTr (kTf kO2))) (kTl (kTr (kTl (kTr (kTr (kTr (kTf aBv)))))))))) (kTb (kTr (kTr (kTr (kTr (kTr (kTr (kTl (kTl (kTf aLW))))))))) (kTr (kTl (kTr (kTl (kTr (kTf aMl)))))))))) (kTb (kTb (kTb (kTb (kTr (kTr (kTl (kTl (kTf kO6))))) (kTl (kTr (kTl (kTr (kTr (kTf jO))))))) (kTr (kTr (kTr (kTl (kTr (kTl (kTr (kTr (kTr (kTf (.cells ⟨[]⟩ 3)))))))))))) (kTr (kTl (kTl (kTl (kTl (kTr (kTr (kTf jO))))))))) (kTb (kTb (kTr (kTb (kTr (kTr (kTr (kTl (kTf gI))))) (kTl (kTr (kTr (kTl (kTf gI))))))) (kTl (kTl (kTr (kTr (kTr (kTl (kTf kO1)))))))) (kTr (kTr (kTl (kTr (kTr (kTf kO0))))))))) (kTb (kTb (kTr (kTr (kTr (kTr (kTr (kTf kO1)))))) (kTb (kTb (kTb (kTr (kTl (kTr (kTr (kTl (kTr (kTr (kTr (kTf kO1))))))))) (kTb (kTr (kTr (kTr (kTl (kTf gI))))) (kTl (kTr (kTr (kTl (kTf gI))))))) (kTl (kTl (kTr (kTr (kTr (kTl (kTf kO1)))))))) (kTb (kTr (kTr (kTl (kTb (kTr (kTf aHv)) (kTr (kTl (kTf lE))))))) (kTb (kTl (kTr (kTr (kTr (kTl (kTf aCz)))))) (kTl (kTl (kTr (kTl (kTl (kTl (kTr (kTl (kTf jO))))))))))))) (kTb (kTb (kTr (kTb (kTb (kTl (kTr (kTr (kTr (kTf kO1))))) (kTl (kTr (kTr (kTl (kTl (kTr (kTl (kTf aQ6))))))))) (kTr (kTr (kTl (kTl (kTl (kTf wL)))))))) (kTb (kTr (kTr (kTl (kTr (kTr (kTl (kTf lE))))))) (kTr (kTb (kTl (kTr (kTr (kTl (kTl (kTr (kTl (kTf aP7)))))))) (kTr (kTl (kTr (kTl (kTr (kTr (kTr (kTf fR)))))))))))) (kTb (kTl (kTr (kTr (kTr (kTr (kTr (kTr (kTr (kTl (kTl (kTf aP8))))))))))) (kTr (kTr (kTb (kTr (kTl (kTl (kTf kO6)))) (kTl (kTr (kTr (kTl (kTf kO6)))))))))))) (kTb (kTb (kTn (kTl (kTl (kTb (kTl (kTr (kTr (kTl (kTl (kTl (kTr (kTl (kTf aP9))))))))) (kTr (kTr (kTl (kTr (kTr (kTr (kTl (kTl (kTf fR)))))))))))) kO2 (kTb (kTb (kTl (kTr (kTl (kTr (kTr (kTl (kTr (kTr (kTr (kTf kO1)))))))))) (kTl (kTl (kTr (kTr (kTl (kTl (kTl (kTr (kTl (kTf aPa))))))))))) (kTl (kTl (kTr (kTl (kTr (kTf kO1)))))))) (kTl (kTl (kTl (kTl (kTr (kTr (kTl (kTl (kTf kO7)))))))))) (kTb (kTb (kTb (kTb (kTr (kTr (kTr (kTl (kTl (kTl (kTf kO1))))))) (kTr (kTr (kTl (kTr (kTr (kTl (kTf fR)))))))) (kTl (kTb (kTl (kTr (kTr (kTl (kTl (kTl (kTr (kTl (kTf aDA))))))))) (kTl (kTl (kTr (kTr (kTl (kTr (kTr (kTr (kTf (.cells ⟨[]⟩ 5))))))))))))) (kTb (kTb (kTr (kTr (kTr (kTr (kTl (kTl (kTl (kTr (kTl (kTf kO1)))))))))) (kTb (kTr (kTl (kTr (kTf kO3)))) (kTl (kTl (kTr (kTr (kTl (kTr (kTr (kTr (kTf aBw))))))))))) (kTb (kTr (kTl (kTb (kTr (kTr (kTl (kTr (kTr (kTr (kTf aBx))))))) (kTr (kTr (kTl (kTr (kTr (kTr (kTf aBy)))))))))) (kTr (kTl (kTl (kTr (kTr (kTl (kTr (kTr (kTr (kTf (.cells ⟨[]⟩ 3)))))))))))))) (kTb (kTl (kTr (kTr (kTr (kTl (kTr (kTr (kTl (kTf fR))))))))) (kTr (kTb (kTr (kTr (kTl (kTr (kTr (kTr (kTr (kTl (kTl (kTf kO1)))))))))) (kTl (kTl (kTl (kTl (kTr (kTl (kTf jO))))))))))))
 nx':=63333
theorem aMV:sE Tryz.prog aPK:=tV kQ (l:=[sO,w8,x3,aAH,aKR,aMU]) (bD jA (bD lI (bD mX (bD oD (bD aDe (bD aH6 kM)))))) (k:=200) fun ro=>by kernel_rfl
end V
end Go.Proofs.YtcaccnneblghgaaGreat
namespace Go.Proofs.YtcaccnneblghgaaGreat
namespace V
set_option maxRecDepth 1000000
def aRN:List Value:=[.slice (some ⟨5931,0,(some 1)⟩) 1 1,.slice (some ⟨5835,0,(some 1)⟩) 1 1]
def aRO:Value:=.tuple ⟨[.agg ⟨(aBV [.int .i64 2,.slice (some ⟨62815,0,(some 2)⟩) 0 0,.slice (some ⟨63322,0,(some 4)⟩) 2 2,.slice (some ⟨5931,0,(some 1)⟩) 1 1])⟩,j0]⟩
def aFa:Cp where
 f:=aAM
 args:=aRN
 h:=kTb (kTb (kTb (kTb (kTl (kTb (kTl (kTr (kTl (kTl (kTr (kTl (kTf yH))))))) (kTr (kTl (kTl (kTl (kTr (kTl (kTf yI))))))))) (kTr (kTl (kTr (kTr (kTl (kTl (kTr (kTf kO2))))))))) (kTb (kTl (kTl (kTl (kTr (kTr (kTl (kTl (kTf kO6)))))))) (kTb (kTb (kTr (kTr (kTl (kTr (kTr (kTl (kTf gI))))))) (kTl (kTl (kTr (kTr (kTr (kTl (kTf kO1)))))))) (kTr (kTr (kTl (kTr (kTr (kTf kO0))))))))) (kTb (kTb (kTr (kTr (kTr (kTr (kTr (kTf kO1)))))) (kTb (kTb (kTr (kTr (kTl (kTr (kTr (kTl (kTf gI))))))) (kTl (kTl (kTr (kTr (kTr (kTl (kTf kO1)))))))) (kTl (kTr (kTr (kTl (kTb (kTr (kTf aHv)) (kTr (kTl (kTf lE)))))))))) (kTb (kTb (kTr (kTr (kTr (kTr (kTl (kTl (kTl (kTf wL)))))))) (kTl (kTr (kTr (kTl (kTr (kTr (kTl (kTf lE))))))))) (kTr (kTr (kTr (kTb (kTr (kTl (kTl (kTf kO6)))) (kTl (kTr (kTr (kTl (kTf kO6)))))))))))) (kTb (kTb (kTn .e kO2 (kTr (kTl (kTl (kTr (kTl (kTr (kTf kO1)))))))) (kTl (kTl (kTl (kTl (kTr (kTr (kTl (kTl (kTf kO7)))))))))) (kTb (kTb (kTl (kTb (kTr (kTr (kTr (kTl (kTl (kTl (kTf kO1))))))) (kTr (kTr (kTl (kTr (kTr (kTl (kTf fR))))))))) (kTl (kTr (kTl (kTr (kTl (kTr (kTf kO3)))))))) (kTb (kTl (kTr (kTr (kTr (kTl (kTr (kTr (kTl (kTf fR))))))))) (kTr (kTr (kTl (kTl (kTl (kTl (kTr (kTl (kTf jO))))))))))))
 nx:=5945
 v:=aRO
 h':=kTb (kTb (kTb (kTb (kTl (kTb (kTb (kTr (kTl (kTl (kTr (kTl (kTf yH)))))) (kTr (kTr (kTl (kTr (kTl (kTr (kTr (kTr (kTf (.cells ⟨[]⟩ 5))))))))))) (kTr (kTl (kTb (kTl (kTr (kTl (kTf yI)))) (kTl (kTr (kTl (kTr (kTr (kTr (kTf vN)))))))))))) (kTb (kTb (kTr (kTr (kTr (kTl (kTr (kTl (kTr (kTr (kTr (kTf aBu)))))))))) (kTr (kTr (kTr (kTl (kTr (kTl (kTr (kTr (kTr (kTf (.cells ⟨[]⟩ 3)))))))))))) (kTl (kTr (kTr (kTb (kTl (kTr (kTf kO2))) (kTl (kTr (kTl (kTr (kTr (kTr (kTf aBv))))))))))))) (kTb (kTl (kTb (kTl (kTr (kTr (kTl (kTl (kTf kO6)))))) (kTr (kTr (kTr (kTl (kTr (kTl (kTr (kTr (kTr (kTf (.cells ⟨[]⟩ 3))))))))))))) (kTb (kTb (kTr (kTr (kTl (kTr (kTr (kTl (kTf gI))))))) (kTl (kTl (kTr (kTr (kTr (kTl (kTf kO1)))))))) (kTr (kTr (kTl (kTr (kTr (kTf kO0))))))))) (kTb (kTb (kTr (kTr (kTr (kTr (kTr (kTf kO1)))))) (kTb (kTb (kTb (kTr (kTl (kTr (kTr (kTl (kTr (kTr (kTr (kTf kO1))))))))) (kTr (kTl (kTr (kTr (kTl (kTf gI))))))) (kTl (kTl (kTr (kTr (kTr (kTl (kTf kO1)))))))) (kTl (kTr (kTr (kTl (kTb (kTr (kTf aHv)) (kTr (kTl (kTf lE)))))))))) (kTb (kTb (kTr (kTr (kTr (kTr (kTl (kTl (kTl (kTf wL)))))))) (kTb (kTr (kTr (kTl (kTr (kTr (kTl (kTf lE))))))) (kTr (kTr (kTr (kTl (kTr (kTl (kTr (kTr (kTr (kTf fR)))))))))))) (kTr (kTr (kTr (kTb (kTr (kTl (kTl (kTf kO6)))) (kTl (kTr (kTr (kTl (kTf kO6)))))))))))) (kTb (kTb (kTn .e kO2 (kTb (kTl (kTl (kTr (kTl (kTr (kTr (kTl (kTr (kTr (kTr (kTf kO1))))))))))) (kTl (kTl (kTr (kTl (kTr (kTf kO1)))))))) (kTl (kTl (kTl (kTl (kTr (kTr (kTl (kTl (kTf kO7)))))))))) (kTb (kTb (kTb (kTb (kTr (kTr (kTr (kTl (kTl (kTl (kTf kO1))))))) (kTr (kTr (kTl (kTr (kTr (kTl (kTf fR)))))))) (kTl (kTr (kTl (kTl (kTr (kTr (kTl (kTr (kTr (kTr (kTf (.cells ⟨[]⟩ 5))))))))))))) (kTb (kTr (kTb (kTr (kTl (kTr (kTf kO3)))) (kTl (kTl (kTr (kTr (kTl (kTr (kTr (kTr (kTf aBw))))))))))) (kTb (kTr (kTl (kTb (kTr (kTr (kTl (kTr (kTr (kTr (kTf aBx))))))) (kTr (kTr (kTl (kTr (kTr (kTr (kTf aBy)))))))))) (kTr (kTl (kTl (kTr (kTr (kTl (kTr (kTr (kTr (kTf (.cells ⟨[]⟩ 3)))))))))))))) (kTb (kTl (kTr (kTr (kTr (kTl (kTr (kTr (kTl (kTf fR))))))))) (kTr (kTr (kTl (kTl (kTl (kTl (kTr (kTl (kTf jO))))))))))))
 nx':=63345
theorem x4:sE Tryz.prog aFa:=tV kQ (l:=[sO,w8,x3,aAH,aKR,aMU,aPK]) (bD jA (bD lI (bD mX (bD oD (bD aDe (bD aH6 (bD aMV kM))))))) (k:=200) fun ro=>by kernel_rfl
end V
end Go.Proofs.YtcaccnneblghgaaGreat
namespace Go.Proofs.YtcaccnneblghgaaGreat
namespace V
set_option maxRecDepth 1000000
def aHw:Obj:=.cells ⟨[.slice (some ⟨3287,0,(some 1)⟩) 1 1,.slice (some ⟨5849,0,(some 1)⟩) 1 1,.slice (some ⟨5862,0,(some 1)⟩) 1 1,.slice (some ⟨63358,0,(some 260)⟩) 1 1]⟩ 34
def rN:Obj:=.cells ⟨(aBV [.int .i64 2,.slice (some ⟨62815,0,(some 2)⟩) 0 0,.slice (some ⟨63322,0,(some 4)⟩) 2 2,.slice (some ⟨5931,0,(some 1)⟩) 1 1])⟩ 65
def aMm:Obj:=.cells ⟨[.int .u64 0,.int .u64 8589934592,.int .u64 0,.int .u64 0,.int .i64 1,.int .i64 1,j0,.bool true,.slice (some ⟨64976,0,(some 1)⟩) 1 1,.int .u64 0,.int .u64 8589934592,.int .u64 0,.int .u64 0,.int .i64 1,.int .i64 1,j0,.bool true,.slice (some ⟨64704,0,(some 1)⟩) 1 1]⟩ 192
def aRP:Value:=.tuple ⟨[.agg ⟨[.slice (some ⟨65202,0,(some 1)⟩) 1 1,.slice (some ⟨64388,0,(some 9)⟩) 2 2]⟩,j0]⟩
def aKS:Cp where
 f:=aDt
 args:=[.slice (some ⟨63448,0,(some 1)⟩) 1 1]
 h:=kTb (kTb (kTb (kTb (kTl (kTb (kTb (kTr (kTl (kTl (kTr (kTl (kTf yH)))))) (kTr (kTr (kTl (kTr (kTl (kTr (kTr (kTr (kTf (.cells ⟨[]⟩ 5))))))))))) (kTr (kTl (kTb (kTl (kTr (kTl (kTf yI)))) (kTl (kTr (kTl (kTr (kTr (kTr (kTf vN)))))))))))) (kTb (kTb (kTr (kTr (kTr (kTl (kTr (kTl (kTr (kTr (kTr (kTf aBu)))))))))) (kTr (kTr (kTr (kTl (kTr (kTl (kTr (kTr (kTr (kTf (.cells ⟨[]⟩ 3)))))))))))) (kTl (kTr (kTr (kTb (kTl (kTr (kTf kO2))) (kTl (kTr (kTl (kTr (kTr (kTr (kTf aBv))))))))))))) (kTb (kTl (kTb (kTl (kTr (kTr (kTl (kTl (kTf kO6)))))) (kTr (kTr (kTr (kTl (kTr (kTl (kTr (kTr (kTr (kTf (.cells ⟨[]⟩ 3))))))))))))) (kTb (kTb (kTr (kTr (kTl (kTr (kTr (kTl (kTf gI))))))) (kTl (kTl (kTr (kTr (kTr (kTl (kTf kO1)))))))) (kTr (kTr (kTl (kTr (kTr (kTf kO0))))))))) (kTb (kTb (kTr (kTb (kTl (kTr (kTr (kTr (kTr (kTl (kTr (kTr (kTr (kTf kO6)))))))))) (kTr (kTr (kTr (kTf kO1)))))) (kTb (kTb (kTb (kTr (kTl (kTr (kTr (kTl (kTr (kTr (kTr (kTf kO1))))))))) (kTr (kTl (kTr (kTr (kTl (kTf gI))))))) (kTl (kTl (kTr (kTr (kTr (kTl (kTf kO1)))))))) (kTl (kTr (kTr (kTl (kTb (kTr (kTf aHw)) (kTr (kTl (kTf lE)))))))))) (kTb (kTb (kTr (kTr (kTr (kTr (kTl (kTl (kTl (kTf wL)))))))) (kTb (kTr (kTr (kTl (kTr (kTr (kTl (kTf lE))))))) (kTr (kTr (kTr (kTl (kTr (kTl (kTr (kTr (kTr (kTf fR)))))))))))) (kTr (kTr (kTr (kTb (kTr (kTl (kTl (kTf kO6)))) (kTl (kTr (kTr (kTl (kTf kO6)))))))))))) (kTb (kTb (kTn .e kO2 (kTb (kTl (kTl (kTr (kTl (kTr (kTr (kTl (kTr (kTr (kTr (kTf kO1))))))))))) (kTb (kTb (kTr (kTl (kTr (kTf kO1)))) (kTr (kTr (kTr (kTr (kTl (kTr (kTr (kTr (kTf gI)))))))))) (kTl (kTr (kTr (kTr (kTr (kTl (kTr (kTr (kTr (kTf kO1))))))))))))) (kTb (kTb (kTl (kTl (kTr (kTr (kTl (kTl (kTf kO7))))))) (kTr (kTr (kTl (kTr (kTr (kTr (kTl (kTr (kTr (kTr (kTf rN)))))))))))) (kTr (kTr (kTr (kTl (kTr (kTr (kTr (kTl (kTr (kTr (kTr (kTf rN)))))))))))))) (kTb (kTb (kTb (kTb (kTr (kTr (kTr (kTl (kTl (kTl (kTf kO1))))))) (kTr (kTr (kTl (kTr (kTr (kTl (kTf fR)))))))) (kTl (kTr (kTl (kTl (kTr (kTr (kTl (kTr (kTr (kTr (kTf (.cells ⟨[]⟩ 5))))))))))))) (kTb (kTr (kTb (kTr (kTl (kTr (kTf kO3)))) (kTl (kTl (kTr (kTr (kTl (kTr (kTr (kTr (kTf aBw))))))))))) (kTb (kTr (kTl (kTb (kTr (kTr (kTl (kTr (kTr (kTr (kTf aBx))))))) (kTr (kTr (kTl (kTr (kTr (kTr (kTf aBy)))))))))) (kTr (kTl (kTl (kTr (kTr (kTl (kTr (kTr (kTr (kTf (.cells ⟨[]⟩ 3)))))))))))))) (kTb (kTb (kTb (kTr (kTr (kTr (kTr (kTr (kTl (kTr (kTr (kTr (kTf aCz)))))))))) (kTr (kTr (kTl (kTr (kTr (kTl (kTf fR)))))))) (kTb (kTr (kTr (kTr (kTr (kTr (kTl (kTr (kTr (kTr (kTf gI)))))))))) (kTl (kTr (kTr (kTr (kTr (kTl (kTr (kTr (kTr (kTf kO1)))))))))))) (kTr (kTr (kTb (kTl (kTl (kTl (kTr (kTl (kTf jO)))))) (kTl (kTr (kTr (kTr (kTl (kTr (kTr (kTr (kTf rN)))))))))))))))
 nx:=63459
 v:=aRP
 h':=kTb (kTb (kTb (kTb (kTl (kTb (kTb (kTr (kTl (kTl (kTr (kTl (kTf yH)))))) (kTr (kTr (kTl (kTr (kTl (kTr (kTr (kTr (kTf (.cells ⟨[]⟩ 5))))))))))) (kTr (kTl (kTb (kTl (kTr (kTl (kTf yI)))) (kTl (kTr (kTl (kTr (kTr (kTr (kTf vN)))))))))))) (kTb (kTb (kTr (kTr (kTr (kTl (kTr (kTl (kTr (kTr (kTr (kTf aBu)))))))))) (kTr (kTr (kTr (kTl (kTr (kTl (kTr (kTr (kTr (kTf (.cells ⟨[]⟩ 3)))))))))))) (kTl (kTr (kTr (kTb (kTl (kTr (kTf kO2))) (kTl (kTr (kTl (kTr (kTr (kTr (kTf aBv))))))))))))) (kTb (kTl (kTb (kTl (kTr (kTr (kTl (kTl (kTf kO6)))))) (kTr (kTr (kTr (kTl (kTr (kTl (kTr (kTr (kTr (kTf (.cells ⟨[]⟩ 3))))))))))))) (kTb (kTb (kTr (kTr (kTl (kTr (kTr (kTl (kTf gI))))))) (kTl (kTl (kTr (kTr (kTr (kTl (kTf kO1)))))))) (kTr (kTr (kTl (kTr (kTr (kTf kO0))))))))) (kTb (kTb (kTr (kTb (kTl (kTr (kTr (kTr (kTr (kTl (kTr (kTr (kTr (kTf kO6)))))))))) (kTr (kTr (kTr (kTf kO1)))))) (kTb (kTb (kTb (kTr (kTl (kTr (kTr (kTl (kTr (kTr (kTr (kTf kO1))))))))) (kTr (kTl (kTr (kTr (kTl (kTf gI))))))) (kTl (kTl (kTr (kTr (kTr (kTl (kTf kO1)))))))) (kTl (kTr (kTr (kTl (kTb (kTr (kTf aHw)) (kTr (kTl (kTf lE)))))))))) (kTb (kTb (kTr (kTr (kTr (kTr (kTl (kTl (kTl (kTf wL)))))))) (kTb (kTr (kTr (kTl (kTr (kTr (kTl (kTf lE))))))) (kTr (kTr (kTr (kTl (kTr (kTl (kTr (kTr (kTr (kTf fR)))))))))))) (kTr (kTr (kTr (kTb (kTr (kTl (kTl (kTf kO6)))) (kTl (kTr (kTr (kTl (kTf kO6)))))))))))) (kTb (kTb (kTn (kTb (kTl (kTr (kTr (kTl (kTl (kTr (kTr (kTr (kTr (kTr (kTf jO))))))))))) (kTl (kTr (kTr (kTr (kTl (kTr (kTr (kTr (kTr (kTr (kTf jO)))))))))))) kO2 (kTb (kTl (kTl (kTr (kTl (kTr (kTr (kTl (kTr (kTr (kTr (kTf kO1))))))))))) (kTb (kTb (kTr (kTl (kTr (kTf kO1)))) (kTr (kTr (kTr (kTr (kTl (kTr (kTr (kTr (kTf gI)))))))))) (kTl (kTr (kTr (kTr (kTr (kTl (kTr (kTr (kTr (kTf kO1))))))))))))) (kTb (kTb (kTl (kTl (kTr (kTr (kTb (kTl (kTf kO7)) (kTl (kTr (kTr (kTr (kTr (kTf aMm))))))))))) (kTr (kTr (kTl (kTr (kTr (kTr (kTl (kTr (kTr (kTr (kTf rN)))))))))))) (kTr (kTr (kTr (kTl (kTr (kTr (kTr (kTl (kTr (kTr (kTr (kTf rN)))))))))))))) (kTb (kTb (kTb (kTb (kTr (kTr (kTr (kTl (kTl (kTl (kTf kO1))))))) (kTr (kTr (kTl (kTr (kTr (kTl (kTf fR)))))))) (kTb (kTr (kTl (kTl (kTr (kTr (kTl (kTr (kTr (kTr (kTf (.cells ⟨[]⟩ 5))))))))))) (kTl (kTr (kTl (kTr (kTr (kTr (kTr (kTr (kTr (kTf kO1)))))))))))) (kTb (kTr (kTb (kTr (kTl (kTr (kTf kO3)))) (kTl (kTl (kTr (kTr (kTl (kTr (kTr (kTr (kTf aBw))))))))))) (kTb (kTr (kTl (kTb (kTr (kTr (kTl (kTr (kTr (kTr (kTf aBx))))))) (kTr (kTr (kTl (kTr (kTr (kTr (kTf aBy)))))))))) (kTr (kTl (kTl (kTr (kTr (kTl (kTr (kTr (kTr (kTf (.cells ⟨[]⟩ 3)))))))))))))) (kTb (kTb (kTb (kTr (kTr (kTr (kTr (kTr (kTl (kTr (kTr (kTr (kTf aCz)))))))))) (kTr (kTr (kTl (kTr (kTr (kTl (kTf fR)))))))) (kTb (kTr (kTr (kTr (kTr (kTr (kTl (kTr (kTr (kTr (kTf gI)))))))))) (kTl (kTr (kTr (kTr (kTr (kTl (kTr (kTr (kTr (kTf kO1)))))))))))) (kTr (kTr (kTb (kTl (kTl (kTl (kTr (kTl (kTf jO)))))) (kTl (kTr (kTr (kTr (kTl (kTr (kTr (kTr (kTf rN)))))))))))))))
 nx':=65289
theorem aDf:sE Tryz.prog aKS:=tV kQ (l:=[sO,w8,x3,aAH,aFa]) (bD jA (bD lI (bD mX (bD oD (bD x4 kM))))) (k:=200) fun ro=>by kernel_rfl
end V
end Go.Proofs.YtcaccnneblghgaaGreat
namespace Go.Proofs.YtcaccnneblghgaaGreat
namespace V
set_option maxRecDepth 1000000
def aOO:Obj:=.cells ⟨[.slice (some ⟨65202,0,(some 1)⟩) 1 1,.slice (some ⟨64388,0,(some 9)⟩) 2 2]⟩ 136
def aPb:Obj:=.cells ⟨[.slice (some ⟨99231,0,(some 2)⟩) 2 2]⟩ 200
def aPc:Obj:=.cells ⟨[s0,s0,.slice (some ⟨97869,0,(some 1)⟩) 1 1,.slice (some ⟨98394,0,(some 1)⟩) 1 1,.slice (some ⟨98155,0,(some 1)⟩) 1 1,s0,.slice (some ⟨98556,0,(some 1)⟩) 1 1,.slice (some ⟨99253,0,(some 1)⟩) 1 1,.slice (some ⟨99078,0,(some 1)⟩) 1 1,s0,.slice (some ⟨99415,0,(some 1)⟩) 1 1,.slice (some ⟨100098,0,(some 1)⟩) 1 1]⟩ 160
def aPd:Obj:=.cells ⟨[.slice (some ⟨100076,0,(some 2)⟩) 2 2]⟩ 200
def aPe:Obj:=.cells ⟨[.slice (some ⟨98372,0,(some 2)⟩) 2 2]⟩ 200
def aRQ:List Value:=[.agg ⟨[.slice (some ⟨65202,0,(some 1)⟩) 1 1,.slice (some ⟨64388,0,(some 9)⟩) 2 2]⟩]
def aRR:Value:=.tuple ⟨[.agg ⟨(aBV [.int .i64 2,s0,.slice (some ⟨99213,0,(some 4)⟩) 3 3])⟩,j0]⟩
def aMW:Cp where
 f:=aDu
 args:=aRQ
 h:=kTb (kTb (kTb (kTb (kTl (kTb (kTb (kTr (kTl (kTl (kTr (kTl (kTf yH)))))) (kTr (kTr (kTl (kTr (kTl (kTr (kTr (kTr (kTf (.cells ⟨[]⟩ 5))))))))))) (kTr (kTl (kTb (kTl (kTr (kTl (kTf yI)))) (kTl (kTr (kTl (kTr (kTr (kTr (kTf vN)))))))))))) (kTb (kTb (kTr (kTr (kTr (kTl (kTr (kTl (kTr (kTr (kTr (kTf aBu)))))))))) (kTr (kTr (kTr (kTl (kTr (kTl (kTr (kTr (kTr (kTf (.cells ⟨[]⟩ 3)))))))))))) (kTl (kTr (kTr (kTb (kTl (kTr (kTf kO2))) (kTl (kTr (kTl (kTr (kTr (kTr (kTf aBv))))))))))))) (kTb (kTl (kTb (kTl (kTr (kTr (kTl (kTl (kTf kO6)))))) (kTr (kTr (kTr (kTl (kTr (kTl (kTr (kTr (kTr (kTf (.cells ⟨[]⟩ 3))))))))))))) (kTb (kTb (kTr (kTr (kTl (kTr (kTr (kTl (kTf gI))))))) (kTl (kTl (kTr (kTr (kTr (kTl (kTf kO1)))))))) (kTr (kTr (kTl (kTr (kTr (kTf kO0))))))))) (kTb (kTb (kTr (kTb (kTl (kTr (kTr (kTr (kTr (kTl (kTr (kTr (kTr (kTf kO6)))))))))) (kTr (kTr (kTr (kTf kO1)))))) (kTb (kTb (kTb (kTr (kTl (kTr (kTr (kTl (kTr (kTr (kTr (kTf kO1))))))))) (kTr (kTl (kTr (kTr (kTl (kTf gI))))))) (kTl (kTl (kTr (kTr (kTr (kTl (kTf kO1)))))))) (kTl (kTr (kTr (kTl (kTb (kTr (kTf aHw)) (kTr (kTl (kTf lE)))))))))) (kTb (kTb (kTr (kTr (kTr (kTr (kTl (kTl (kTl (kTf wL)))))))) (kTb (kTr (kTr (kTl (kTr (kTr (kTl (kTf lE))))))) (kTr (kTr (kTr (kTl (kTr (kTl (kTr (kTr (kTr (kTf fR)))))))))))) (kTr (kTr (kTr (kTb (kTr (kTl (kTl (kTf kO6)))) (kTl (kTr (kTr (kTl (kTf kO6)))))))))))) (kTb (kTb (kTn (kTb (kTl (kTr (kTr (kTl (kTl (kTr (kTr (kTr (kTr (kTr (kTf jO))))))))))) (kTl (kTr (kTr (kTr (kTl (kTr (kTr (kTr (kTr (kTr (kTf jO)))))))))))) kO2 (kTb (kTl (kTl (kTr (kTl (kTr (kTr (kTl (kTr (kTr (kTr (kTf kO1))))))))))) (kTb (kTb (kTr (kTl (kTr (kTf kO1)))) (kTr (kTr (kTr (kTr (kTl (kTr (kTr (kTr (kTf gI)))))))))) (kTl (kTr (kTr (kTr (kTr (kTl (kTr (kTr (kTr (kTf kO1))))))))))))) (kTb (kTb (kTl (kTl (kTr (kTr (kTb (kTl (kTf kO7)) (kTl (kTr (kTr (kTr (kTr (kTf aMm))))))))))) (kTr (kTr (kTl (kTr (kTr (kTr (kTl (kTr (kTr (kTr (kTf rN)))))))))))) (kTb (kTl (kTl (kTl (kTr (kTr (kTr (kTr (kTr (kTr (kTr (kTf aOO))))))))))) (kTr (kTr (kTl (kTr (kTr (kTr (kTl (kTr (kTr (kTr (kTf rN)))))))))))))) (kTb (kTb (kTb (kTb (kTr (kTr (kTr (kTl (kTl (kTl (kTf kO1))))))) (kTr (kTr (kTl (kTr (kTr (kTl (kTf fR)))))))) (kTb (kTr (kTl (kTl (kTr (kTr (kTl (kTr (kTr (kTr (kTf (.cells ⟨[]⟩ 5))))))))))) (kTl (kTr (kTl (kTr (kTr (kTr (kTr (kTr (kTr (kTf kO1)))))))))))) (kTb (kTr (kTb (kTr (kTl (kTr (kTf kO3)))) (kTl (kTl (kTr (kTr (kTl (kTr (kTr (kTr (kTf aBw))))))))))) (kTb (kTr (kTl (kTb (kTr (kTr (kTl (kTr (kTr (kTr (kTf aBx))))))) (kTr (kTr (kTl (kTr (kTr (kTr (kTf aBy)))))))))) (kTr (kTl (kTl (kTr (kTr (kTl (kTr (kTr (kTr (kTf (.cells ⟨[]⟩ 3)))))))))))))) (kTb (kTb (kTb (kTr (kTr (kTr (kTr (kTr (kTl (kTr (kTr (kTr (kTf aCz)))))))))) (kTr (kTr (kTl (kTr (kTr (kTl (kTf fR)))))))) (kTb (kTr (kTr (kTr (kTr (kTr (kTl (kTr (kTr (kTr (kTf gI)))))))))) (kTl (kTr (kTr (kTr (kTr (kTl (kTr (kTr (kTr (kTf kO1)))))))))))) (kTr (kTr (kTb (kTl (kTl (kTl (kTr (kTl (kTf jO)))))) (kTl (kTr (kTr (kTr (kTl (kTr (kTr (kTr (kTf rN)))))))))))))))
 nx:=65299
 v:=aRR
 h':=kTb (kTb (kTb (kTb (kTl (kTb (kTb (kTr (kTl (kTl (kTr (kTl (kTf yH)))))) (kTr (kTr (kTl (kTr (kTl (kTr (kTr (kTr (kTf (.cells ⟨[]⟩ 5))))))))))) (kTb (kTr (kTr (kTr (kTl (kTl (kTl (kTl (kTl (kTr (kTf aDA)))))))))) (kTl (kTb (kTl (kTr (kTl (kTf yI)))) (kTl (kTr (kTl (kTr (kTr (kTr (kTf vN)))))))))))) (kTb (kTb (kTr (kTr (kTr (kTl (kTr (kTl (kTr (kTr (kTr (kTf aBu)))))))))) (kTr (kTr (kTr (kTl (kTr (kTl (kTr (kTr (kTr (kTf (.cells ⟨[]⟩ 3)))))))))))) (kTl (kTr (kTb (kTl (kTl (kTr (kTl (kTl (kTl (kTl (kTr (kTf kO1))))))))) (kTb (kTl (kTr (kTf kO2))) (kTl (kTr (kTl (kTr (kTr (kTr (kTf aBv))))))))))))) (kTb (kTl (kTb (kTl (kTr (kTr (kTl (kTl (kTf kO6)))))) (kTr (kTr (kTr (kTl (kTr (kTl (kTr (kTr (kTr (kTf (.cells ⟨[]⟩ 3))))))))))))) (kTb (kTb (kTr (kTr (kTl (kTr (kTr (kTl (kTf gI))))))) (kTb (kTl (kTr (kTr (kTr (kTl (kTf kO1)))))) (kTl (kTr (kTr (kTr (kTr (kTr (kTr (kTr (kTl (kTf kO1)))))))))))) (kTr (kTr (kTl (kTr (kTr (kTf kO0))))))))) (kTb (kTb (kTr (kTb (kTl (kTr (kTr (kTr (kTr (kTl (kTr (kTr (kTr (kTf kO6)))))))))) (kTr (kTr (kTr (kTf kO1)))))) (kTb (kTb (kTb (kTr (kTl (kTr (kTr (kTl (kTr (kTr (kTr (kTf kO1))))))))) (kTr (kTl (kTr (kTr (kTl (kTf gI))))))) (kTl (kTl (kTr (kTr (kTr (kTl (kTf kO1)))))))) (kTl (kTr (kTr (kTl (kTb (kTr (kTf aHw)) (kTr (kTl (kTf lE)))))))))) (kTb (kTb (kTr (kTr (kTr (kTr (kTl (kTl (kTl (kTf wL)))))))) (kTb (kTr (kTr (kTl (kTr (kTr (kTl (kTf lE))))))) (kTb (kTr (kTr (kTr (kTl (kTl (kTl (kTl (kTl (kTr (kTf aPb)))))))))) (kTr (kTr (kTl (kTr (kTl (kTr (kTr (kTr (kTf fR)))))))))))) (kTb (kTl (kTb (kTr (kTr (kTr (kTl (kTl (kTl (kTl (kTl (kTr (kTf aPc)))))))))) (kTl (kTl (kTr (kTr (kTr (kTr (kTr (kTr (kTl (kTf fR)))))))))))) (kTr (kTr (kTb (kTr (kTl (kTl (kTf kO6)))) (kTl (kTr (kTr (kTl (kTf kO6)))))))))))) (kTb (kTb (kTn (kTb (kTl (kTr (kTr (kTl (kTl (kTr (kTr (kTr (kTr (kTr (kTf jO))))))))))) (kTl (kTr (kTr (kTr (kTl (kTr (kTr (kTr (kTr (kTr (kTf jO)))))))))))) kO2 (kTb (kTl (kTl (kTr (kTl (kTr (kTr (kTl (kTr (kTr (kTr (kTf kO1))))))))))) (kTb (kTb (kTr (kTl (kTr (kTf kO1)))) (kTr (kTr (kTr (kTr (kTl (kTr (kTr (kTr (kTf gI)))))))))) (kTl (kTr (kTr (kTr (kTr (kTl (kTr (kTr (kTr (kTf kO1))))))))))))) (kTb (kTb (kTl (kTb (kTr (kTr (kTb (kTl (kTf kO7)) (kTl (kTr (kTr (kTr (kTr (kTf aMm))))))))) (kTl (kTl (kTl (kTl (kTl (kTl (kTl (kTl (kTr (kTf aLW)))))))))))) (kTr (kTr (kTl (kTr (kTr (kTr (kTl (kTr (kTr (kTr (kTf rN)))))))))))) (kTb (kTb (kTl (kTl (kTr (kTr (kTr (kTr (kTr (kTr (kTr (kTf aOO)))))))))) (kTr (kTr (kTl (kTr (kTr (kTl (kTl (kTl (kTl (kTr (kTf aDA)))))))))))) (kTr (kTr (kTb (kTr (kTr (kTr (kTl (kTr (kTr (kTr (kTf rN)))))))) (kTl (kTl (kTl (kTl (kTl (kTl (kTl (kTr (kTf kO1))))))))))))))) (kTb (kTb (kTb (kTb (kTb (kTl (kTr (kTr (kTr (kTl (kTl (kTl (kTl (kTr (kTf aPd)))))))))) (kTr (kTr (kTl (kTl (kTl (kTf kO1))))))) (kTr (kTr (kTl (kTr (kTr (kTl (kTf fR)))))))) (kTb (kTr (kTl (kTl (kTr (kTr (kTl (kTr (kTr (kTr (kTf (.cells ⟨[]⟩ 5))))))))))) (kTl (kTr (kTl (kTr (kTr (kTr (kTr (kTr (kTr (kTf kO1)))))))))))) (kTb (kTr (kTb (kTr (kTl (kTr (kTf kO3)))) (kTl (kTl (kTr (kTr (kTl (kTr (kTr (kTr (kTf aBw))))))))))) (kTb (kTr (kTl (kTb (kTb (kTl (kTl (kTl (kTl (kTl (kTr (kTf aPe))))))) (kTr (kTl (kTr (kTr (kTr (kTf aBx))))))) (kTr (kTr (kTl (kTr (kTr (kTr (kTf aBy)))))))))) (kTr (kTl (kTl (kTr (kTr (kTl (kTr (kTr (kTr (kTf (.cells ⟨[]⟩ 3)))))))))))))) (kTb (kTb (kTb (kTb (kTl (kTr (kTr (kTl (kTl (kTl (kTl (kTl (kTr (kTf jO)))))))))) (kTr (kTr (kTr (kTr (kTl (kTr (kTr (kTr (kTf aCz)))))))))) (kTr (kTr (kTl (kTr (kTr (kTl (kTf fR)))))))) (kTb (kTr (kTr (kTr (kTr (kTr (kTl (kTr (kTr (kTr (kTf gI)))))))))) (kTl (kTr (kTr (kTr (kTr (kTl (kTr (kTr (kTr (kTf kO1)))))))))))) (kTr (kTr (kTb (kTl (kTl (kTl (kTr (kTl (kTf jO)))))) (kTl (kTr (kTr (kTr (kTl (kTr (kTr (kTr (kTf rN)))))))))))))))
 nx':=100143
theorem aH7:sE Tryz.prog aMW:=tV kQ (l:=[sO,w8,x3,aAH,aFa,aKS]) (bD jA (bD lI (bD mX (bD oD (bD x4 (bD aDf kM)))))) (k:=200) fun ro=>by kernel_rfl
end V
end Go.Proofs.YtcaccnneblghgaaGreat
namespace Go.Proofs.YtcaccnneblghgaaGreat
namespace V
set_option maxRecDepth 1000000
def aQ7:Obj:=.cells ⟨(aBV [.int .i64 2,s0,.slice (some ⟨99213,0,(some 4)⟩) 3 3])⟩ 63
def aMn:Obj:=.cells ⟨[jm,s0,.int .i64 1,.slice (some ⟨120543,0,(some 1)⟩) 0 0]⟩ 202
def aMo:Obj:=.cells ⟨[.slice (some ⟨120432,0,(some 1)⟩) 0 0,.slice (some ⟨120436,0,(some 1)⟩) 0 0,.slice (some ⟨120450,0,(some 1)⟩) 1 1,.slice (some ⟨120420,0,(some 1)⟩) 1 1,.slice (some ⟨120597,0,(some 1)⟩) 1 1,.slice (some ⟨120583,0,(some 1)⟩) 0 0,.slice (some ⟨120598,0,(some 1)⟩) 1 1,.slice (some ⟨120567,0,(some 1)⟩) 1 1]⟩ 160
def aMp:Obj:=.cells ⟨[.slice (some ⟨120551,0,(some 2)⟩) 2 2]⟩ 200
def aMq:Obj:=.cells ⟨[.slice (some ⟨120404,0,(some 2)⟩) 2 2]⟩ 200
def aMr:Obj:=.cells ⟨[jm,s0,.int .i64 1,.slice (some ⟨120396,0,(some 1)⟩) 0 0]⟩ 202
def aRS:List Value:=[.agg ⟨(aBV [.int .i64 2,s0,.slice (some ⟨99213,0,(some 4)⟩) 3 3])⟩]
def aRT:Value:=.tuple ⟨[.agg ⟨(aBV [.int .i64 2,.slice (some ⟨120300,0,(some 2)⟩) 0 0,.slice (some ⟨120807,0,(some 4)⟩) 2 2])⟩,j0]⟩
def aPL:Cp where
 f:=aDv
 args:=aRS
 h:=kTb (kTb (kTb (kTb (kTl (kTb (kTb (kTr (kTl (kTl (kTr (kTl (kTf yH)))))) (kTr (kTr (kTl (kTr (kTl (kTr (kTr (kTr (kTf (.cells ⟨[]⟩ 5))))))))))) (kTb (kTr (kTr (kTr (kTl (kTl (kTl (kTl (kTl (kTr (kTf aDA)))))))))) (kTl (kTb (kTl (kTr (kTl (kTf yI)))) (kTl (kTr (kTl (kTr (kTr (kTr (kTf vN)))))))))))) (kTb (kTb (kTr (kTr (kTr (kTl (kTr (kTl (kTr (kTr (kTr (kTf aBu)))))))))) (kTr (kTr (kTr (kTl (kTr (kTl (kTr (kTr (kTr (kTf (.cells ⟨[]⟩ 3)))))))))))) (kTl (kTr (kTb (kTl (kTl (kTr (kTl (kTl (kTl (kTl (kTr (kTf kO1))))))))) (kTb (kTl (kTr (kTf kO2))) (kTl (kTr (kTl (kTr (kTr (kTr (kTf aBv))))))))))))) (kTb (kTl (kTb (kTl (kTr (kTr (kTl (kTl (kTf kO6)))))) (kTr (kTr (kTr (kTl (kTr (kTl (kTr (kTr (kTr (kTf (.cells ⟨[]⟩ 3))))))))))))) (kTb (kTb (kTr (kTr (kTl (kTr (kTr (kTl (kTf gI))))))) (kTb (kTl (kTr (kTr (kTr (kTl (kTf kO1)))))) (kTl (kTr (kTr (kTr (kTr (kTr (kTr (kTr (kTl (kTf kO1)))))))))))) (kTr (kTr (kTl (kTr (kTr (kTf kO0))))))))) (kTb (kTb (kTr (kTb (kTl (kTr (kTr (kTr (kTr (kTl (kTr (kTr (kTr (kTf kO6)))))))))) (kTr (kTr (kTr (kTf kO1)))))) (kTb (kTb (kTb (kTr (kTl (kTr (kTr (kTl (kTr (kTr (kTr (kTf kO1))))))))) (kTr (kTl (kTr (kTr (kTl (kTf gI))))))) (kTl (kTl (kTr (kTr (kTr (kTl (kTf kO1)))))))) (kTl (kTr (kTr (kTl (kTb (kTr (kTf aHw)) (kTr (kTl (kTf lE)))))))))) (kTb (kTb (kTr (kTr (kTr (kTr (kTl (kTl (kTl (kTf wL)))))))) (kTb (kTr (kTr (kTl (kTr (kTr (kTl (kTf lE))))))) (kTb (kTr (kTr (kTr (kTl (kTl (kTl (kTl (kTl (kTr (kTf aPb)))))))))) (kTr (kTr (kTl (kTr (kTl (kTr (kTr (kTr (kTf fR)))))))))))) (kTb (kTl (kTb (kTr (kTr (kTr (kTl (kTl (kTl (kTl (kTl (kTr (kTf aPc)))))))))) (kTl (kTl (kTr (kTr (kTr (kTr (kTr (kTr (kTl (kTf fR)))))))))))) (kTr (kTr (kTb (kTr (kTl (kTl (kTf kO6)))) (kTl (kTr (kTr (kTl (kTf kO6)))))))))))) (kTb (kTb (kTn (kTb (kTl (kTr (kTr (kTl (kTl (kTr (kTr (kTr (kTr (kTr (kTf jO))))))))))) (kTl (kTr (kTr (kTr (kTl (kTr (kTr (kTr (kTr (kTr (kTf jO)))))))))))) kO2 (kTb (kTl (kTl (kTr (kTl (kTr (kTr (kTl (kTr (kTr (kTr (kTf kO1))))))))))) (kTb (kTb (kTr (kTl (kTr (kTf kO1)))) (kTr (kTr (kTr (kTr (kTl (kTr (kTr (kTr (kTf gI)))))))))) (kTl (kTr (kTr (kTr (kTr (kTl (kTr (kTr (kTr (kTf kO1))))))))))))) (kTb (kTb (kTl (kTb (kTr (kTr (kTb (kTl (kTf kO7)) (kTl (kTr (kTr (kTr (kTr (kTf aMm))))))))) (kTl (kTl (kTl (kTl (kTl (kTl (kTl (kTl (kTr (kTf aLW)))))))))))) (kTr (kTr (kTl (kTr (kTr (kTr (kTl (kTr (kTr (kTr (kTf rN)))))))))))) (kTb (kTb (kTl (kTl (kTr (kTr (kTr (kTr (kTr (kTr (kTr (kTf aOO)))))))))) (kTr (kTr (kTl (kTr (kTr (kTl (kTl (kTl (kTl (kTr (kTf aDA)))))))))))) (kTr (kTr (kTb (kTr (kTr (kTr (kTl (kTr (kTr (kTr (kTf rN)))))))) (kTl (kTl (kTl (kTl (kTl (kTl (kTl (kTr (kTf kO1))))))))))))))) (kTb (kTb (kTb (kTb (kTb (kTl (kTr (kTr (kTr (kTl (kTl (kTl (kTl (kTr (kTf aPd)))))))))) (kTr (kTr (kTl (kTl (kTl (kTf kO1))))))) (kTr (kTr (kTl (kTr (kTr (kTl (kTf fR)))))))) (kTb (kTr (kTl (kTl (kTr (kTr (kTl (kTr (kTr (kTr (kTf (.cells ⟨[]⟩ 5))))))))))) (kTl (kTb (kTr (kTr (kTr (kTl (kTl (kTl (kTl (kTr (kTf aQ7))))))))) (kTl (kTr (kTr (kTr (kTr (kTr (kTr (kTf kO1)))))))))))) (kTb (kTr (kTb (kTr (kTl (kTr (kTf kO3)))) (kTl (kTl (kTr (kTr (kTl (kTr (kTr (kTr (kTf aBw))))))))))) (kTb (kTr (kTl (kTb (kTb (kTl (kTl (kTl (kTl (kTl (kTr (kTf aPe))))))) (kTr (kTl (kTr (kTr (kTr (kTf aBx))))))) (kTr (kTr (kTl (kTr (kTr (kTr (kTf aBy)))))))))) (kTr (kTl (kTl (kTr (kTr (kTl (kTr (kTr (kTr (kTf (.cells ⟨[]⟩ 3)))))))))))))) (kTb (kTb (kTb (kTb (kTl (kTr (kTr (kTl (kTl (kTl (kTl (kTl (kTr (kTf jO)))))))))) (kTr (kTr (kTr (kTr (kTl (kTr (kTr (kTr (kTf aCz)))))))))) (kTr (kTr (kTl (kTr (kTr (kTl (kTf fR)))))))) (kTb (kTr (kTr (kTr (kTr (kTr (kTl (kTr (kTr (kTr (kTf gI)))))))))) (kTl (kTr (kTr (kTr (kTr (kTl (kTr (kTr (kTr (kTf kO1)))))))))))) (kTr (kTr (kTb (kTl (kTl (kTl (kTr (kTl (kTf jO)))))) (kTl (kTr (kTr (kTr (kTl (kTr (kTr (kTr (kTf rN)))))))))))))))
 nx:=100153
 v:=aRT
 h':=kTb (kTb (kTb (kTb (kTl (kTb (kTb (kTr (kTl (kTl (kTr (kTl (kTf yH)))))) (kTr (kTr (kTl (kTr (kTl (kTr (kTr (kTr (kTf (.cells ⟨[]⟩ 5))))))))))) (kTb (kTr (kTr (kTr (kTl (kTl (kTl (kTl (kTl (kTr (kTf aDA)))))))))) (kTb (kTb (kTl (kTr (kTl (kTf yI)))) (kTl (kTr (kTl (kTr (kTr (kTr (kTf vN)))))))) (kTl (kTr (kTr (kTl (kTr (kTl (kTr (kTr (kTf (.cells ⟨[]⟩ 5)))))))))))))) (kTb (kTb (kTb (kTl (kTr (kTr (kTr (kTl (kTr (kTl (kTr (kTr (kTf (.cells ⟨[]⟩ 3))))))))))) (kTr (kTr (kTl (kTr (kTl (kTr (kTr (kTr (kTf aBu)))))))))) (kTr (kTr (kTb (kTr (kTr (kTl (kTr (kTl (kTr (kTr (kTf aMn)))))))) (kTb (kTr (kTl (kTr (kTr (kTr (kTf (.cells ⟨[]⟩ 3))))))) (kTr (kTl (kTr (kTl (kTr (kTr (kTf aMo)))))))))))) (kTb (kTr (kTb (kTl (kTl (kTr (kTl (kTl (kTl (kTl (kTr (kTf kO1))))))))) (kTb (kTl (kTr (kTf kO2))) (kTl (kTr (kTl (kTr (kTr (kTr (kTf aBv)))))))))) (kTr (kTr (kTl (kTr (kTr (kTl (kTr (kTl (kTr (kTr (kTf aMp)))))))))))))) (kTb (kTl (kTb (kTl (kTr (kTr (kTl (kTl (kTf kO6)))))) (kTr (kTr (kTr (kTl (kTr (kTl (kTr (kTr (kTr (kTf (.cells ⟨[]⟩ 3))))))))))))) (kTb (kTb (kTr (kTr (kTl (kTr (kTr (kTl (kTf gI))))))) (kTb (kTl (kTr (kTr (kTr (kTl (kTf kO1)))))) (kTl (kTr (kTr (kTr (kTr (kTr (kTr (kTr (kTl (kTf kO1)))))))))))) (kTr (kTr (kTl (kTr (kTr (kTf kO0))))))))) (kTb (kTb (kTr (kTb (kTl (kTr (kTr (kTr (kTr (kTl (kTr (kTr (kTr (kTf kO6)))))))))) (kTr (kTr (kTr (kTf kO1)))))) (kTb (kTb (kTb (kTr (kTl (kTr (kTr (kTl (kTr (kTr (kTr (kTf kO1))))))))) (kTr (kTl (kTr (kTr (kTl (kTf gI))))))) (kTl (kTl (kTr (kTr (kTr (kTl (kTf kO1)))))))) (kTl (kTr (kTr (kTl (kTb (kTr (kTf aHw)) (kTr (kTl (kTf lE)))))))))) (kTb (kTb (kTr (kTr (kTr (kTr (kTl (kTl (kTl (kTf wL)))))))) (kTb (kTb (kTl (kTr (kTr (kTr (kTl (kTr (kTl (kTr (kTr (kTf kO1)))))))))) (kTr (kTl (kTr (kTr (kTl (kTf lE))))))) (kTb (kTr (kTr (kTr (kTl (kTl (kTl (kTl (kTl (kTr (kTf aPb)))))))))) (kTr (kTr (kTl (kTr (kTl (kTr (kTr (kTr (kTf fR)))))))))))) (kTb (kTl (kTb (kTr (kTr (kTr (kTl (kTl (kTl (kTl (kTl (kTr (kTf aPc)))))))))) (kTl (kTl (kTr (kTr (kTr (kTr (kTr (kTr (kTl (kTf fR)))))))))))) (kTr (kTr (kTb (kTr (kTl (kTl (kTf kO6)))) (kTl (kTr (kTr (kTl (kTf kO6)))))))))))) (kTb (kTb (kTn (kTb (kTl (kTr (kTr (kTl (kTl (kTr (kTr (kTr (kTr (kTr (kTf jO))))))))))) (kTb (kTr (kTr (kTr (kTl (kTr (kTr (kTr (kTr (kTr (kTf jO)))))))))) (kTr (kTl (kTl (kTr (kTr (kTl (kTr (kTl (kTr (kTr (kTf (.cells ⟨[]⟩ 3)))))))))))))) kO2 (kTb (kTl (kTl (kTr (kTl (kTr (kTr (kTl (kTr (kTr (kTr (kTf kO1))))))))))) (kTb (kTb (kTr (kTl (kTr (kTf kO1)))) (kTr (kTr (kTr (kTr (kTl (kTr (kTr (kTr (kTf gI)))))))))) (kTl (kTr (kTr (kTr (kTr (kTl (kTr (kTr (kTr (kTf kO1))))))))))))) (kTb (kTb (kTb (kTb (kTr (kTr (kTb (kTl (kTf kO7)) (kTl (kTr (kTr (kTr (kTr (kTf aMm))))))))) (kTl (kTl (kTl (kTl (kTl (kTl (kTl (kTl (kTr (kTf aLW))))))))))) (kTr (kTl (kTl (kTr (kTr (kTl (kTr (kTl (kTr (kTr (kTf aMq)))))))))))) (kTb (kTr (kTl (kTl (kTr (kTr (kTl (kTr (kTl (kTr (kTr (kTf aMr))))))))))) (kTr (kTl (kTb (kTr (kTr (kTl (kTr (kTl (kTr (kTr (kTf (.cells ⟨[]⟩ 3))))))))) (kTr (kTr (kTl (kTr (kTr (kTr (kTf rN)))))))))))) (kTb (kTb (kTb (kTl (kTr (kTr (kTr (kTr (kTr (kTr (kTr (kTf aOO))))))))) (kTl (kTl (kTr (kTr (kTl (kTr (kTl (kTr (kTr (kTf (.cells ⟨[]⟩ 5)))))))))))) (kTr (kTr (kTb (kTr (kTr (kTl (kTl (kTl (kTl (kTr (kTf aDA)))))))) (kTl (kTr (kTl (kTr (kTl (kTr (kTr (kTf vN)))))))))))) (kTr (kTr (kTb (kTr (kTr (kTr (kTl (kTr (kTr (kTr (kTf rN)))))))) (kTl (kTl (kTl (kTl (kTl (kTl (kTl (kTr (kTf kO1))))))))))))))) (kTb (kTb (kTb (kTb (kTb (kTb (kTr (kTr (kTr (kTl (kTl (kTl (kTl (kTr (kTf aPd))))))))) (kTl (kTr (kTr (kTl (kTr (kTl (kTr (kTr (kTf fR)))))))))) (kTr (kTr (kTl (kTl (kTl (kTf kO1))))))) (kTr (kTr (kTl (kTr (kTr (kTl (kTf fR)))))))) (kTb (kTr (kTl (kTl (kTr (kTr (kTl (kTr (kTr (kTr (kTf (.cells ⟨[]⟩ 5))))))))))) (kTl (kTb (kTr (kTr (kTr (kTl (kTl (kTl (kTl (kTr (kTf aQ7))))))))) (kTl (kTr (kTr (kTr (kTr (kTr (kTr (kTf kO1)))))))))))) (kTb (kTr (kTb (kTr (kTl (kTr (kTf kO3)))) (kTl (kTl (kTr (kTr (kTl (kTr (kTr (kTr (kTf aBw))))))))))) (kTb (kTr (kTl (kTb (kTb (kTl (kTl (kTl (kTl (kTl (kTr (kTf aPe))))))) (kTr (kTl (kTr (kTr (kTr (kTf aBx))))))) (kTr (kTr (kTl (kTr (kTr (kTr (kTf aBy)))))))))) (kTr (kTl (kTl (kTr (kTr (kTl (kTr (kTr (kTr (kTf (.cells ⟨[]⟩ 3)))))))))))))) (kTb (kTb (kTb (kTb (kTl (kTr (kTr (kTl (kTl (kTl (kTl (kTl (kTr (kTf jO)))))))))) (kTr (kTr (kTr (kTr (kTl (kTr (kTr (kTr (kTf aCz)))))))))) (kTr (kTr (kTl (kTr (kTr (kTl (kTf fR)))))))) (kTb (kTb (kTl (kTr (kTr (kTr (kTl (kTr (kTl (kTr (kTr (kTf kO1)))))))))) (kTr (kTr (kTr (kTr (kTl (kTr (kTr (kTr (kTf gI)))))))))) (kTl (kTr (kTr (kTr (kTr (kTl (kTr (kTr (kTr (kTf kO1)))))))))))) (kTr (kTr (kTb (kTl (kTl (kTl (kTr (kTl (kTf jO)))))) (kTl (kTr (kTr (kTr (kTl (kTr (kTr (kTr (kTf rN)))))))))))))))
 nx':=120818
theorem aMX:sE Tryz.prog aPL:=tV kQ (l:=[sO,w8,x3,aAH,aFa,aKS,aMW]) (bD jA (bD lI (bD mX (bD oD (bD x4 (bD aDf (bD aH7 kM))))))) (k:=200) fun ro=>by kernel_rfl
end V
end Go.Proofs.YtcaccnneblghgaaGreat
namespace Go.Proofs.YtcaccnneblghgaaGreat
namespace V
set_option maxRecDepth 1000000
def aRU:List Value:=[.slice (some ⟨63416,0,(some 1)⟩) 1 1,.slice (some ⟨5835,0,(some 1)⟩) 1 1]
def aRV:Value:=.tuple ⟨[.agg ⟨(aBV [.int .i64 2,.slice (some ⟨120300,0,(some 2)⟩) 0 0,.slice (some ⟨120807,0,(some 4)⟩) 2 2,.slice (some ⟨63416,0,(some 1)⟩) 1 1])⟩,j0]⟩
def aPM:Cp where
 f:=aAM
 args:=aRU
 h:=kTb (kTb (kTb (kTb (kTl (kTb (kTb (kTr (kTl (kTl (kTr (kTl (kTf yH)))))) (kTr (kTr (kTl (kTr (kTl (kTr (kTr (kTr (kTf (.cells ⟨[]⟩ 5))))))))))) (kTr (kTl (kTb (kTl (kTr (kTl (kTf yI)))) (kTl (kTr (kTl (kTr (kTr (kTr (kTf vN)))))))))))) (kTb (kTb (kTr (kTr (kTr (kTl (kTr (kTl (kTr (kTr (kTr (kTf aBu)))))))))) (kTr (kTr (kTr (kTl (kTr (kTl (kTr (kTr (kTr (kTf (.cells ⟨[]⟩ 3)))))))))))) (kTl (kTr (kTr (kTb (kTl (kTr (kTf kO2))) (kTl (kTr (kTl (kTr (kTr (kTr (kTf aBv))))))))))))) (kTb (kTl (kTb (kTl (kTr (kTr (kTl (kTl (kTf kO6)))))) (kTr (kTr (kTr (kTl (kTr (kTl (kTr (kTr (kTr (kTf (.cells ⟨[]⟩ 3))))))))))))) (kTb (kTb (kTr (kTr (kTl (kTr (kTr (kTl (kTf gI))))))) (kTl (kTl (kTr (kTr (kTr (kTl (kTf kO1)))))))) (kTr (kTr (kTl (kTr (kTr (kTf kO0))))))))) (kTb (kTb (kTr (kTb (kTl (kTr (kTr (kTr (kTr (kTl (kTr (kTr (kTr (kTf kO6)))))))))) (kTr (kTr (kTr (kTf kO1)))))) (kTb (kTb (kTb (kTr (kTl (kTr (kTr (kTl (kTr (kTr (kTr (kTf kO1))))))))) (kTr (kTl (kTr (kTr (kTl (kTf gI))))))) (kTl (kTl (kTr (kTr (kTr (kTl (kTf kO1)))))))) (kTl (kTr (kTr (kTl (kTb (kTr (kTf aHw)) (kTr (kTl (kTf lE)))))))))) (kTb (kTb (kTr (kTr (kTr (kTr (kTl (kTl (kTl (kTf wL)))))))) (kTb (kTr (kTr (kTl (kTr (kTr (kTl (kTf lE))))))) (kTr (kTr (kTr (kTl (kTr (kTl (kTr (kTr (kTr (kTf fR)))))))))))) (kTr (kTr (kTr (kTb (kTr (kTl (kTl (kTf kO6)))) (kTl (kTr (kTr (kTl (kTf kO6)))))))))))) (kTb (kTb (kTn .e kO2 (kTb (kTl (kTl (kTr (kTl (kTr (kTr (kTl (kTr (kTr (kTr (kTf kO1))))))))))) (kTb (kTl (kTr (kTl (kTr (kTf kO1))))) (kTl (kTr (kTr (kTr (kTr (kTl (kTr (kTr (kTr (kTf kO1))))))))))))) (kTb (kTb (kTl (kTl (kTr (kTr (kTl (kTl (kTf kO7))))))) (kTr (kTr (kTl (kTr (kTr (kTr (kTl (kTr (kTr (kTr (kTf rN)))))))))))) (kTr (kTr (kTr (kTl (kTr (kTr (kTr (kTl (kTr (kTr (kTr (kTf rN)))))))))))))) (kTb (kTb (kTb (kTb (kTr (kTr (kTr (kTl (kTl (kTl (kTf kO1))))))) (kTr (kTr (kTl (kTr (kTr (kTl (kTf fR)))))))) (kTl (kTr (kTl (kTl (kTr (kTr (kTl (kTr (kTr (kTr (kTf (.cells ⟨[]⟩ 5))))))))))))) (kTb (kTr (kTb (kTr (kTl (kTr (kTf kO3)))) (kTl (kTl (kTr (kTr (kTl (kTr (kTr (kTr (kTf aBw))))))))))) (kTb (kTr (kTl (kTb (kTr (kTr (kTl (kTr (kTr (kTr (kTf aBx))))))) (kTr (kTr (kTl (kTr (kTr (kTr (kTf aBy)))))))))) (kTr (kTl (kTl (kTr (kTr (kTl (kTr (kTr (kTr (kTf (.cells ⟨[]⟩ 3)))))))))))))) (kTb (kTb (kTr (kTr (kTr (kTl (kTr (kTr (kTl (kTf fR)))))))) (kTr (kTl (kTr (kTr (kTr (kTr (kTl (kTr (kTr (kTr (kTf kO1)))))))))))) (kTr (kTr (kTb (kTl (kTl (kTl (kTr (kTl (kTf jO)))))) (kTl (kTr (kTr (kTr (kTl (kTr (kTr (kTr (kTf rN)))))))))))))))
 nx:=63430
 v:=aRV
 h':=kTb (kTb (kTb (kTb (kTl (kTb (kTb (kTr (kTl (kTl (kTr (kTl (kTf yH)))))) (kTr (kTr (kTl (kTr (kTl (kTr (kTr (kTr (kTf (.cells ⟨[]⟩ 5))))))))))) (kTr (kTb (kTb (kTl (kTr (kTl (kTf yI)))) (kTl (kTr (kTl (kTr (kTr (kTr (kTf vN)))))))) (kTl (kTr (kTr (kTl (kTr (kTl (kTr (kTr (kTf (.cells ⟨[]⟩ 5)))))))))))))) (kTb (kTb (kTb (kTl (kTr (kTr (kTr (kTl (kTr (kTl (kTr (kTr (kTf (.cells ⟨[]⟩ 3))))))))))) (kTr (kTr (kTl (kTr (kTl (kTr (kTr (kTr (kTf aBu)))))))))) (kTr (kTr (kTb (kTr (kTr (kTl (kTr (kTl (kTr (kTr (kTf aMn)))))))) (kTb (kTr (kTl (kTr (kTr (kTr (kTf (.cells ⟨[]⟩ 3))))))) (kTr (kTl (kTr (kTl (kTr (kTr (kTf aMo)))))))))))) (kTb (kTr (kTr (kTb (kTl (kTr (kTf kO2))) (kTl (kTr (kTl (kTr (kTr (kTr (kTf aBv)))))))))) (kTr (kTr (kTl (kTr (kTr (kTl (kTr (kTl (kTr (kTr (kTf aMp)))))))))))))) (kTb (kTl (kTb (kTl (kTr (kTr (kTl (kTl (kTf kO6)))))) (kTr (kTr (kTr (kTl (kTr (kTl (kTr (kTr (kTr (kTf (.cells ⟨[]⟩ 3))))))))))))) (kTb (kTb (kTr (kTr (kTl (kTr (kTr (kTl (kTf gI))))))) (kTl (kTl (kTr (kTr (kTr (kTl (kTf kO1)))))))) (kTr (kTr (kTl (kTr (kTr (kTf kO0))))))))) (kTb (kTb (kTr (kTb (kTl (kTr (kTr (kTr (kTr (kTl (kTr (kTr (kTr (kTf kO6)))))))))) (kTr (kTr (kTr (kTf kO1)))))) (kTb (kTb (kTb (kTr (kTl (kTr (kTr (kTl (kTr (kTr (kTr (kTf kO1))))))))) (kTr (kTl (kTr (kTr (kTl (kTf gI))))))) (kTl (kTl (kTr (kTr (kTr (kTl (kTf kO1)))))))) (kTl (kTr (kTr (kTl (kTb (kTr (kTf aHw)) (kTr (kTl (kTf lE)))))))))) (kTb (kTb (kTr (kTr (kTr (kTr (kTl (kTl (kTl (kTf wL)))))))) (kTb (kTb (kTl (kTr (kTr (kTr (kTl (kTr (kTl (kTr (kTr (kTf kO1)))))))))) (kTr (kTl (kTr (kTr (kTl (kTf lE))))))) (kTr (kTr (kTr (kTl (kTr (kTl (kTr (kTr (kTr (kTf fR)))))))))))) (kTr (kTr (kTr (kTb (kTr (kTl (kTl (kTf kO6)))) (kTl (kTr (kTr (kTl (kTf kO6)))))))))))) (kTb (kTb (kTn (kTr (kTr (kTr (kTl (kTl (kTr (kTr (kTl (kTr (kTl (kTr (kTr (kTf (.cells ⟨[]⟩ 3)))))))))))))) kO2 (kTb (kTl (kTl (kTr (kTl (kTr (kTr (kTl (kTr (kTr (kTr (kTf kO1))))))))))) (kTb (kTl (kTr (kTl (kTr (kTf kO1))))) (kTl (kTr (kTr (kTr (kTr (kTl (kTr (kTr (kTr (kTf kO1))))))))))))) (kTb (kTb (kTb (kTl (kTr (kTr (kTl (kTl (kTf kO7)))))) (kTr (kTl (kTl (kTr (kTr (kTl (kTr (kTl (kTr (kTr (kTf aMq)))))))))))) (kTb (kTr (kTl (kTl (kTr (kTr (kTl (kTr (kTl (kTr (kTr (kTf aMr))))))))))) (kTr (kTl (kTb (kTr (kTr (kTl (kTr (kTl (kTr (kTr (kTf (.cells ⟨[]⟩ 3))))))))) (kTr (kTr (kTl (kTr (kTr (kTr (kTf rN)))))))))))) (kTb (kTb (kTr (kTl (kTl (kTr (kTr (kTl (kTr (kTl (kTr (kTr (kTf (.cells ⟨[]⟩ 5)))))))))))) (kTr (kTr (kTr (kTl (kTr (kTl (kTr (kTl (kTr (kTr (kTf vN)))))))))))) (kTr (kTr (kTl (kTr (kTr (kTr (kTl (kTr (kTr (kTr (kTf rN)))))))))))))) (kTb (kTb (kTb (kTb (kTb (kTr (kTl (kTr (kTr (kTl (kTr (kTl (kTr (kTr (kTf fR)))))))))) (kTr (kTr (kTl (kTl (kTl (kTf kO1))))))) (kTr (kTr (kTl (kTr (kTr (kTl (kTf fR)))))))) (kTl (kTr (kTl (kTl (kTr (kTr (kTl (kTr (kTr (kTr (kTf (.cells ⟨[]⟩ 5))))))))))))) (kTb (kTr (kTb (kTr (kTl (kTr (kTf kO3)))) (kTl (kTl (kTr (kTr (kTl (kTr (kTr (kTr (kTf aBw))))))))))) (kTb (kTr (kTl (kTb (kTr (kTr (kTl (kTr (kTr (kTr (kTf aBx))))))) (kTr (kTr (kTl (kTr (kTr (kTr (kTf aBy)))))))))) (kTr (kTl (kTl (kTr (kTr (kTl (kTr (kTr (kTr (kTf (.cells ⟨[]⟩ 3)))))))))))))) (kTb (kTb (kTr (kTr (kTr (kTl (kTr (kTr (kTl (kTf fR)))))))) (kTb (kTl (kTl (kTr (kTr (kTr (kTl (kTr (kTl (kTr (kTr (kTf kO1))))))))))) (kTl (kTr (kTr (kTr (kTr (kTl (kTr (kTr (kTr (kTf kO1)))))))))))) (kTr (kTr (kTb (kTl (kTl (kTl (kTr (kTl (kTf jO)))))) (kTl (kTr (kTr (kTr (kTl (kTr (kTr (kTr (kTf rN)))))))))))))))
 nx':=120830
theorem aMY:sE Tryz.prog aPM:=tV kQ (l:=[sO,w8,x3,aAH,aFa,aKS,aMW,aPL]) (bD jA (bD lI (bD mX (bD oD (bD x4 (bD aDf (bD aH7 (bD aMX kM)))))))) (k:=200) fun ro=>by kernel_rfl
end V
end Go.Proofs.YtcaccnneblghgaaGreat
namespace Go.Proofs.YtcaccnneblghgaaGreat
namespace V
set_option maxRecDepth 1000000
def aPf:Obj:=.cells ⟨(aBV [.int .i64 2,.slice (some ⟨62815,0,(some 2)⟩) 0 0,.slice (some ⟨63322,0,(some 4)⟩) 2 2,.slice (some ⟨5931,0,(some 1)⟩) 1 1,b0,b0,b0,b0,b0,b0,b0,b0,b0,b0,b0,b0,b0,b0,b0,b0,b0,b0,b0,b0,b0,b0,b0,b0,b0,b0,b0,b0,b0,b0,b0,b0,b0,b0,b0,b0,b0,b0,b0,b0,b0,b0,b0,b0,b0,b0,b0,b0,b0,b0,b0,b0,b0,b0,b0,b0,b0,b0,b0,b0,b0,b0,b0,b0,b0,b0,b0,b0,b0,b0,b0,b0,b0,b0,b0,b0,b0,b0,b0,b0,b0,b0,b0,b0,b0,b0,b0,b0,b0,b0,b0,b0,b0,b0,b0,b0,b0,b1,b0,b0,b0,b0,b0,b0,b0,b0,b0,b0,b0,b0,b0,b0,b0,b0,b0,b0,b0,b0,b0,b0,b0,b0,b0,b0,b0,b0,b0,b0,b0,b0,b0,b0,b0,b0,b0,b0,b0,b0,b0,b0,b0,b0,b0,b0,b0,b0,b0,b0,b0,b0,b0,b0,b0,b0,b0,b0,b0,b0,b0,b0,b0,b0,b0,b0,b0,b0,b0,b0,b0,b0,b0,b0,b0,b0,b0,b0,b0,b0,b0,b0,b0,b0,b0,b0,b0,b0,b0,b0,b0,b0,b0,b0,b0,b0,b0,b0,b0,b0,b0,b0,b0,b0,b0,b0,b0,b0,b0,b0,b0,b0,b0,b0,b0,b0,b0,b0,b0,b0,b0,b0,b0,b0,b0,b0,b0,b0,b0,b0,b0,b0,b0,b0,b0,b0,b0,b0,b0,b0,b0,b0,b0,b0,b0,b0,b0,b0,b0,b0,b0,b0,b0,b0,b0,b0,b0,b0,.int .i64 2,.slice (some ⟨120300,0,(some 2)⟩) 0 0,.slice (some ⟨120807,0,(some 4)⟩) 2 2,.slice (some ⟨63416,0,(some 1)⟩) 1 1])⟩ 65
def aRW:List Value:=[.agg ⟨[.slice (some ⟨8,0,(some 1)⟩) 1 1,s0,.slice (some ⟨1915,0,(some 7)⟩) 1 1]⟩,.int .i64 9]
def aRX:Value:=.tuple ⟨[.agg ⟨[.slice (some ⟨3287,0,(some 1)⟩) 1 1,.slice (some ⟨5849,0,(some 1)⟩) 1 1,.slice (some ⟨5862,0,(some 1)⟩) 1 1,.slice (some ⟨120843,0,(some 260)⟩) 2 2]⟩,j0,j0]⟩
def aMZ:Cp where
 f:=aCw
 args:=aRW
 h:=kTb (kTb (kTr (kTr (kTr (kTr (kTr (kTl (kTr (kTr (kTf kO0))))))))) (kTb (kTl (kTr (kTr (kTr (kTr (kTr (kTf kO1))))))) (kTr (kTr (kTr (kTr (kTl (kTr (kTl (kTl (kTf kO6))))))))))) (kTb (kTl (kTn .e kO2 (kTr (kTl (kTl (kTr (kTl (kTr (kTf kO1))))))))) (kTl (kTr (kTl (kTr (kTl (kTr (kTl (kTr (kTf kO3))))))))))
 nx:=2435
 v:=aRX
 h':=kTb (kTb (kTb (kTb (kTl (kTb (kTr (kTr (kTr (kTl (kTr (kTl (kTr (kTr (kTr (kTf (.cells ⟨[]⟩ 5))))))))))) (kTr (kTb (kTr (kTl (kTr (kTl (kTr (kTr (kTr (kTf vN)))))))) (kTl (kTr (kTr (kTl (kTr (kTl (kTr (kTr (kTf (.cells ⟨[]⟩ 5)))))))))))))) (kTb (kTb (kTb (kTl (kTr (kTr (kTr (kTl (kTr (kTl (kTr (kTr (kTf (.cells ⟨[]⟩ 3))))))))))) (kTr (kTr (kTl (kTr (kTl (kTr (kTr (kTr (kTf aBu)))))))))) (kTr (kTr (kTb (kTr (kTr (kTl (kTr (kTl (kTr (kTr (kTf aMn)))))))) (kTb (kTr (kTl (kTr (kTr (kTr (kTf (.cells ⟨[]⟩ 3))))))) (kTr (kTl (kTr (kTl (kTr (kTr (kTf aMo)))))))))))) (kTb (kTr (kTr (kTb (kTl (kTr (kTf kO2))) (kTl (kTr (kTl (kTr (kTr (kTr (kTf aBv)))))))))) (kTr (kTr (kTl (kTr (kTr (kTl (kTr (kTl (kTr (kTr (kTf aMp)))))))))))))) (kTb (kTl (kTr (kTr (kTr (kTr (kTl (kTr (kTl (kTr (kTr (kTr (kTf (.cells ⟨[]⟩ 3))))))))))))) (kTb (kTb (kTl (kTl (kTl (kTl (kTl (kTr (kTr (kTl (kTr (kTr (kTf aPf))))))))))) (kTl (kTl (kTr (kTr (kTr (kTl (kTf kO1)))))))) (kTr (kTr (kTl (kTr (kTr (kTf kO0))))))))) (kTb (kTb (kTr (kTr (kTr (kTr (kTr (kTf kO1)))))) (kTb (kTl (kTl (kTr (kTl (kTr (kTr (kTl (kTr (kTr (kTr (kTf kO1))))))))))) (kTl (kTr (kTr (kTl (kTr (kTr (kTl (kTf lE)))))))))) (kTb (kTr (kTb (kTl (kTl (kTr (kTr (kTr (kTl (kTr (kTl (kTr (kTr (kTf kO1))))))))))) (kTr (kTr (kTr (kTl (kTr (kTl (kTr (kTr (kTr (kTf fR)))))))))))) (kTr (kTr (kTr (kTl (kTr (kTl (kTl (kTf kO6))))))))))) (kTb (kTb (kTn (kTr (kTr (kTr (kTl (kTl (kTr (kTr (kTl (kTr (kTl (kTr (kTr (kTf (.cells ⟨[]⟩ 3)))))))))))))) kO2 (kTb (kTl (kTl (kTr (kTl (kTr (kTr (kTl (kTr (kTr (kTr (kTf kO1))))))))))) (kTb (kTl (kTr (kTl (kTr (kTf kO1))))) (kTl (kTr (kTr (kTr (kTr (kTl (kTr (kTr (kTr (kTf kO1))))))))))))) (kTb (kTb (kTr (kTr (kTl (kTl (kTr (kTr (kTl (kTr (kTl (kTr (kTr (kTf aMq)))))))))))) (kTb (kTr (kTl (kTl (kTr (kTr (kTl (kTr (kTl (kTr (kTr (kTf aMr))))))))))) (kTr (kTl (kTl (kTr (kTr (kTl (kTr (kTl (kTr (kTr (kTf (.cells ⟨[]⟩ 3)))))))))))))) (kTl (kTb (kTr (kTl (kTl (kTr (kTr (kTl (kTr (kTl (kTr (kTr (kTf (.cells ⟨[]⟩ 5)))))))))))) (kTr (kTr (kTr (kTl (kTr (kTl (kTr (kTl (kTr (kTr (kTf vN))))))))))))))) (kTb (kTb (kTb (kTl (kTl (kTr (kTl (kTr (kTr (kTl (kTr (kTl (kTr (kTr (kTf fR)))))))))))) (kTl (kTr (kTl (kTl (kTr (kTr (kTl (kTr (kTr (kTr (kTf (.cells ⟨[]⟩ 5))))))))))))) (kTb (kTr (kTb (kTr (kTl (kTr (kTf kO3)))) (kTl (kTl (kTr (kTr (kTl (kTr (kTr (kTr (kTf aBw))))))))))) (kTb (kTr (kTl (kTb (kTr (kTr (kTl (kTr (kTr (kTr (kTf aBx))))))) (kTr (kTr (kTl (kTr (kTr (kTr (kTf aBy)))))))))) (kTr (kTl (kTl (kTr (kTr (kTl (kTr (kTr (kTr (kTf (.cells ⟨[]⟩ 3)))))))))))))) (kTl (kTb (kTr (kTr (kTr (kTl (kTr (kTr (kTl (kTf fR)))))))) (kTl (kTl (kTl (kTr (kTr (kTr (kTl (kTr (kTl (kTr (kTr (kTf kO1))))))))))))))))
 nx':=120859
theorem aH8:sE Tryz.prog aMZ:=tV kQ (l:=[sO,w8,x3,aAH,aFa,aPM]) (bD jA (bD lI (bD mX (bD oD (bD x4 (bD aMY kM)))))) (k:=200) fun ro=>by kernel_rfl
end V
end Go.Proofs.YtcaccnneblghgaaGreat
namespace Go.Proofs.YtcaccnneblghgaaGreat
namespace V
set_option maxRecDepth 1000000
def aQ8:Obj:=.cells ⟨[.slice (some ⟨3287,0,(some 1)⟩) 1 1,.slice (some ⟨5849,0,(some 1)⟩) 1 1,.slice (some ⟨5862,0,(some 1)⟩) 1 1,.slice (some ⟨120843,0,(some 260)⟩) 2 2]⟩ 34
def aQp:Obj:=.cells ⟨[.slice (some ⟨139622,0,(some 2)⟩) 2 2]⟩ 200
def aQq:Obj:=.cells ⟨[.slice (some ⟨134894,0,(some 2)⟩) 2 2]⟩ 200
def aQr:Obj:=.cells ⟨(aBV [.int .i64 2,.slice (some ⟨139451,0,(some 2)⟩) 0 0,.slice (some ⟨139690,0,(some 4)⟩) 2 2,j0,s0,j0])⟩ 148
def aQs:Obj:=.cells ⟨(aBV [.int .i64 2,.slice (some ⟨134723,0,(some 2)⟩) 0 0,.slice (some ⟨134962,0,(some 4)⟩) 2 2,j0,s0,j0])⟩ 148
def aQt:Obj:=.cells ⟨[.slice (some ⟨134776,0,(some 2)⟩) 2 2]⟩ 200
def aQu:Obj:=.cells ⟨[.slice (some ⟨139504,0,(some 2)⟩) 2 2]⟩ 200
def aQv:Obj:=.cells ⟨[jm,s0,.int .i64 1,.slice (some ⟨139546,0,(some 1)⟩) 0 0]⟩ 202
def aQw:Obj:=.cells ⟨(aQ9 [j0,s0,s0,.slice (some ⟨135022,0,(some 1)⟩) 1 1,b0,b0,b0,b0,b0,b0,b0,b0,b0,b0,b0,b0,b0,b0,b0,b0,b0,b0,b0,b0,b0,b0,b0,b0,b0,b0,b0,b0,b0,b0,b0,b0,b0,b0,b0,b0,b0,b0,b0,b0,b0,b0,b0,b0,b0,b0,b0,b0,b0,b0,b0,b0,b0,b0,b0,b0,b0,b0,b0,b0,b0,b0,b0,b0,b0,b0,b0,b0,b0,b0,b0,b0,b0,b0,b0,b0,b0,b0,b0,b0,b0,b0,b0,b0,b0,b0,b0,b0,b0,b0,b0,b0,b0,b0,b0,b0,b0,b0,b0,b0,b0,b0,b0,b0,b0,b0,b0,b0,b0,b0,b0,b0,b0,b0,b0,b0,b0,b0,b0,b0,b0,b0,b0,b0,b0,b0,b0,b0,b0,b0,b0,b0,b0,b0,b0,b0,b0,b0,b0,b0,b0,b0,b0,b0,b0,b0,b0,b0,b0,b0,b0,b0,b0,b0,b0,b0,b0,b0,b0,b0,b0,b0,b0,b0,b0,b0,b0,b0,b0,b0,b0,b0,b0,b0,b0,b0,b0,b0,b0,b0,b0,b0,b0,b0,b0,b0,b0,b0,b0,b0,b0,b0,b0,b0,b0,b0,b0,b0,b0,b0,b0,b0,b0,b0,b0,b0,b0,b0,b0,b0,b0,b0,b0,b0,b0,b0,b0,b0,b0,b0,b0,b0,b0,b0,b0,b0,b0,b0,b0,b0,b0,b0,b0,b0,b0,b0,b0,b0,b0,b0,b0,b0,b0,b0,b0,b0,b0,b0,b0,b0,b0,b0,b0,b0,b0,b0,j0,s0,s0,.slice (some ⟨139750,0,(some 1)⟩) 1 1])⟩ 65
def aQx:Obj:=.cells ⟨[jm,s0,.int .i64 1,.slice (some ⟨134818,0,(some 1)⟩) 0 0]⟩ 202
def aQy:Obj:=.cells ⟨[.pointer (some ⟨134971,0,(some 0)⟩),.pointer (some ⟨139699,0,(some 0)⟩)]⟩ 101
def aQz:Obj:=.cells ⟨[s0,.slice (some ⟨134748,0,(some 1)⟩) 0 0,.slice (some ⟨134758,0,(some 1)⟩) 1 1,.slice (some ⟨134833,0,(some 1)⟩) 1 1,s0,.slice (some ⟨134866,0,(some 1)⟩) 0 0,.slice (some ⟨134876,0,(some 1)⟩) 1 1,.slice (some ⟨134951,0,(some 1)⟩) 1 1]⟩ 160
def aRA:Obj:=.cells ⟨[s0,.slice (some ⟨139476,0,(some 1)⟩) 0 0,.slice (some ⟨139486,0,(some 1)⟩) 1 1,.slice (some ⟨139561,0,(some 1)⟩) 1 1,s0,.slice (some ⟨139594,0,(some 1)⟩) 0 0,.slice (some ⟨139604,0,(some 1)⟩) 1 1,.slice (some ⟨139679,0,(some 1)⟩) 1 1]⟩ 160
def aRB:Obj:=.cells ⟨[s0,.slice (some ⟨130285,0,(some 1)⟩) 1 1,.slice (some ⟨130293,0,(some 1)⟩) 1 1,.slice (some ⟨139752,0,(some 260)⟩) 2 2,.slice (some ⟨139724,0,(some 1)⟩) 2 2,.int .i64 9,s0,j0,.bool true,j0,j0,j0,jm,j0,.bool false,j0]⟩ 98
def aRC:Obj:=.cells ⟨[jm,s0,.int .i64 1,.slice (some ⟨139664,0,(some 1)⟩) 0 0]⟩ 202
def aRD:Obj:=.cells ⟨[jm,s0,.int .i64 1,.slice (some ⟨134936,0,(some 1)⟩) 0 0]⟩ 202
def aRY:List Value:=[.agg ⟨[.slice (some ⟨3287,0,(some 1)⟩) 1 1,.slice (some ⟨5849,0,(some 1)⟩) 1 1,.slice (some ⟨5862,0,(some 1)⟩) 1 1,.slice (some ⟨120843,0,(some 260)⟩) 2 2]⟩,.int .i64 9]
def aRZ:Value:=.tuple ⟨[.pointer (some ⟨130266,0,(some 0)⟩),j0]⟩
def aPN:Cp where
 f:=wK
 args:=aRY
 h:=kTb (kTb (kTb (kTb (kTl (kTb (kTr (kTr (kTr (kTl (kTr (kTl (kTr (kTr (kTr (kTf (.cells ⟨[]⟩ 5))))))))))) (kTb (kTl (kTl (kTl (kTl (kTr (kTr (kTl (kTr (kTr (kTf aQ8)))))))))) (kTb (kTr (kTl (kTr (kTl (kTr (kTr (kTr (kTf vN)))))))) (kTl (kTr (kTr (kTl (kTr (kTl (kTr (kTr (kTf (.cells ⟨[]⟩ 5)))))))))))))) (kTb (kTb (kTb (kTl (kTr (kTr (kTr (kTl (kTr (kTl (kTr (kTr (kTf (.cells ⟨[]⟩ 3))))))))))) (kTr (kTr (kTl (kTr (kTl (kTr (kTr (kTr (kTf aBu)))))))))) (kTr (kTr (kTb (kTr (kTr (kTl (kTr (kTl (kTr (kTr (kTf aMn)))))))) (kTb (kTr (kTl (kTr (kTr (kTr (kTf (.cells ⟨[]⟩ 3))))))) (kTr (kTl (kTr (kTl (kTr (kTr (kTf aMo)))))))))))) (kTb (kTr (kTr (kTb (kTl (kTr (kTf kO2))) (kTl (kTr (kTl (kTr (kTr (kTr (kTf aBv)))))))))) (kTr (kTr (kTl (kTr (kTr (kTl (kTr (kTl (kTr (kTr (kTf aMp)))))))))))))) (kTb (kTl (kTr (kTr (kTr (kTr (kTl (kTr (kTl (kTr (kTr (kTr (kTf (.cells ⟨[]⟩ 3))))))))))))) (kTb (kTb (kTl (kTl (kTl (kTl (kTl (kTr (kTr (kTl (kTr (kTr (kTf aPf))))))))))) (kTl (kTl (kTr (kTr (kTr (kTl (kTf kO1)))))))) (kTr (kTr (kTl (kTr (kTr (kTf kO0))))))))) (kTb (kTb (kTr (kTr (kTr (kTr (kTr (kTf kO1)))))) (kTb (kTl (kTl (kTr (kTl (kTr (kTr (kTl (kTr (kTr (kTr (kTf kO1))))))))))) (kTl (kTr (kTr (kTl (kTr (kTr (kTl (kTf lE)))))))))) (kTb (kTr (kTb (kTl (kTl (kTr (kTr (kTr (kTl (kTr (kTl (kTr (kTr (kTf kO1))))))))))) (kTr (kTr (kTr (kTl (kTr (kTl (kTr (kTr (kTr (kTf fR)))))))))))) (kTr (kTr (kTr (kTl (kTr (kTl (kTl (kTf kO6))))))))))) (kTb (kTb (kTn (kTr (kTr (kTr (kTl (kTl (kTr (kTr (kTl (kTr (kTl (kTr (kTr (kTf (.cells ⟨[]⟩ 3)))))))))))))) kO2 (kTb (kTl (kTl (kTr (kTl (kTr (kTr (kTl (kTr (kTr (kTr (kTf kO1))))))))))) (kTb (kTl (kTr (kTl (kTr (kTf kO1))))) (kTl (kTr (kTr (kTr (kTr (kTl (kTr (kTr (kTr (kTf kO1))))))))))))) (kTb (kTb (kTr (kTr (kTl (kTl (kTr (kTr (kTl (kTr (kTl (kTr (kTr (kTf aMq)))))))))))) (kTb (kTr (kTl (kTl (kTr (kTr (kTl (kTr (kTl (kTr (kTr (kTf aMr))))))))))) (kTr (kTl (kTl (kTr (kTr (kTl (kTr (kTl (kTr (kTr (kTf (.cells ⟨[]⟩ 3)))))))))))))) (kTl (kTb (kTr (kTl (kTl (kTr (kTr (kTl (kTr (kTl (kTr (kTr (kTf (.cells ⟨[]⟩ 5)))))))))))) (kTr (kTr (kTr (kTl (kTr (kTl (kTr (kTl (kTr (kTr (kTf vN))))))))))))))) (kTb (kTb (kTb (kTl (kTl (kTr (kTl (kTr (kTr (kTl (kTr (kTl (kTr (kTr (kTf fR)))))))))))) (kTl (kTr (kTl (kTl (kTr (kTr (kTl (kTr (kTr (kTr (kTf (.cells ⟨[]⟩ 5))))))))))))) (kTb (kTr (kTb (kTr (kTl (kTr (kTf kO3)))) (kTl (kTl (kTr (kTr (kTl (kTr (kTr (kTr (kTf aBw))))))))))) (kTb (kTr (kTl (kTb (kTr (kTr (kTl (kTr (kTr (kTr (kTf aBx))))))) (kTr (kTr (kTl (kTr (kTr (kTr (kTf aBy)))))))))) (kTr (kTl (kTl (kTr (kTr (kTl (kTr (kTr (kTr (kTf (.cells ⟨[]⟩ 3)))))))))))))) (kTl (kTb (kTr (kTr (kTr (kTl (kTr (kTr (kTl (kTf fR)))))))) (kTl (kTl (kTl (kTr (kTr (kTr (kTl (kTr (kTl (kTr (kTr (kTf kO1))))))))))))))))
 nx:=120869
 v:=aRZ
 h':=kTb (kTb (kTb (kTb (kTl (kTb (kTr (kTr (kTr (kTl (kTr (kTl (kTr (kTr (kTr (kTf (.cells ⟨[]⟩ 5))))))))))) (kTb (kTb (kTl (kTl (kTl (kTr (kTr (kTl (kTr (kTr (kTf aQ8))))))))) (kTr (kTl (kTl (kTl (kTl (kTr (kTl (kTl (kTl (kTf aQp))))))))))) (kTb (kTr (kTl (kTr (kTl (kTr (kTr (kTr (kTf vN)))))))) (kTl (kTr (kTr (kTl (kTr (kTl (kTr (kTr (kTf (.cells ⟨[]⟩ 5)))))))))))))) (kTb (kTb (kTb (kTl (kTr (kTr (kTr (kTl (kTr (kTl (kTr (kTr (kTf (.cells ⟨[]⟩ 3))))))))))) (kTr (kTr (kTl (kTr (kTl (kTr (kTr (kTr (kTf aBu)))))))))) (kTb (kTl (kTr (kTr (kTr (kTr (kTl (kTl (kTl (kTl (kTl (kTf aQq))))))))))) (kTr (kTb (kTr (kTr (kTl (kTr (kTl (kTr (kTr (kTf aMn)))))))) (kTb (kTr (kTl (kTr (kTr (kTr (kTf (.cells ⟨[]⟩ 3))))))) (kTr (kTl (kTr (kTl (kTr (kTr (kTf aMo)))))))))))) (kTb (kTr (kTr (kTb (kTl (kTr (kTf kO2))) (kTl (kTr (kTl (kTr (kTr (kTr (kTf aBv)))))))))) (kTr (kTr (kTl (kTr (kTr (kTl (kTr (kTl (kTr (kTr (kTf aMp)))))))))))))) (kTb (kTb (kTb (kTr (kTl (kTl (kTr (kTr (kTr (kTl (kTl (kTl (kTl (kTl (kTf vN)))))))))))) (kTr (kTr (kTr (kTl (kTr (kTl (kTr (kTr (kTr (kTf (.cells ⟨[]⟩ 3)))))))))))) (kTr (kTl (kTr (kTr (kTl (kTl (kTl (kTl (kTr (kTl (kTl (kTl (kTf aQr)))))))))))))) (kTb (kTb (kTl (kTl (kTl (kTl (kTl (kTr (kTr (kTl (kTr (kTr (kTf aPf))))))))))) (kTl (kTl (kTr (kTr (kTr (kTl (kTf kO1)))))))) (kTr (kTb (kTb (kTr (kTr (kTr (kTr (kTl (kTl (kTl (kTl (kTl (kTf aQs)))))))))) (kTl (kTl (kTl (kTl (kTl (kTr (kTl (kTl (kTl (kTf vN))))))))))) (kTl (kTr (kTr (kTf kO0))))))))) (kTb (kTb (kTr (kTr (kTb (kTr (kTl (kTr (kTr (kTr (kTl (kTl (kTl (kTl (kTl (kTf aQt))))))))))) (kTr (kTr (kTf kO1)))))) (kTb (kTb (kTl (kTr (kTl (kTr (kTr (kTl (kTr (kTr (kTr (kTf kO1)))))))))) (kTl (kTl (kTr (kTl (kTl (kTl (kTl (kTr (kTl (kTl (kTl (kTf aQu))))))))))))) (kTl (kTr (kTr (kTl (kTr (kTr (kTl (kTf lE)))))))))) (kTb (kTr (kTb (kTl (kTl (kTr (kTr (kTr (kTl (kTr (kTl (kTr (kTr (kTf kO1))))))))))) (kTr (kTr (kTb (kTl (kTr (kTr (kTr (kTr (kTr (kTr (kTf fR)))))))) (kTl (kTr (kTl (kTr (kTr (kTr (kTf fR)))))))))))) (kTb (kTr (kTr (kTr (kTl (kTl (kTr (kTr (kTr (kTr (kTr (kTr (kTf lE)))))))))))) (kTr (kTr (kTl (kTr (kTl (kTl (kTf kO6))))))))))) (kTb (kTb (kTn (kTr (kTb (kTl (kTr (kTr (kTl (kTl (kTl (kTl (kTr (kTl (kTl (kTl (kTf (.cells ⟨[]⟩ 5))))))))))))) (kTr (kTb (kTl (kTr (kTr (kTl (kTr (kTl (kTr (kTr (kTf (.cells ⟨[]⟩ 3)))))))))) (kTl (kTl (kTl (kTl (kTl (kTr (kTl (kTl (kTl (kTf aQv)))))))))))))) kO2 (kTb (kTb (kTl (kTr (kTl (kTr (kTr (kTl (kTr (kTr (kTr (kTf kO1)))))))))) (kTr (kTr (kTr (kTl (kTl (kTl (kTl (kTr (kTl (kTl (kTl (kTf aQw))))))))))))) (kTb (kTl (kTb (kTr (kTr (kTr (kTr (kTl (kTl (kTl (kTl (kTl (kTf (.cells ⟨[]⟩ 5))))))))))) (kTl (kTr (kTf kO1))))) (kTb (kTr (kTr (kTr (kTr (kTl (kTr (kTr (kTr (kTf kO1))))))))) (kTl (kTl (kTr (kTr (kTr (kTl (kTl (kTl (kTl (kTl (kTf aQx))))))))))))))) (kTb (kTb (kTr (kTr (kTl (kTl (kTr (kTr (kTl (kTr (kTl (kTr (kTr (kTf aMq)))))))))))) (kTb (kTr (kTb (kTb (kTr (kTr (kTl (kTr (kTl (kTr (kTr (kTf aMr)))))))) (kTl (kTl (kTl (kTl (kTr (kTl (kTl (kTl (kTf kO1)))))))))) (kTl (kTl (kTl (kTl (kTl (kTr (kTl (kTl (kTl (kTf (.cells ⟨[]⟩ 3))))))))))))) (kTr (kTl (kTl (kTr (kTr (kTl (kTr (kTl (kTr (kTr (kTf (.cells ⟨[]⟩ 3)))))))))))))) (kTb (kTb (kTr (kTb (kTl (kTr (kTr (kTl (kTr (kTl (kTr (kTr (kTf (.cells ⟨[]⟩ 5)))))))))) (kTr (kTl (kTl (kTl (kTl (kTr (kTl (kTl (kTl (kTf aQy)))))))))))) (kTr (kTr (kTr (kTl (kTr (kTl (kTr (kTl (kTr (kTr (kTf vN)))))))))))) (kTl (kTr (kTb (kTl (kTr (kTr (kTr (kTl (kTl (kTl (kTl (kTl (kTf (.cells ⟨[]⟩ 3))))))))))) (kTl (kTr (kTr (kTr (kTl (kTl (kTl (kTl (kTl (kTf kO1)))))))))))))))) (kTb (kTb (kTb (kTb (kTl (kTr (kTl (kTr (kTr (kTl (kTr (kTl (kTr (kTr (kTf fR))))))))))) (kTl (kTr (kTl (kTr (kTr (kTr (kTl (kTl (kTl (kTl (kTl (kTf (.cells ⟨[]⟩ 5)))))))))))))) (kTb (kTr (kTb (kTl (kTr (kTr (kTl (kTr (kTr (kTr (kTf (.cells ⟨[]⟩ 5))))))))) (kTl (kTr (kTr (kTr (kTl (kTl (kTl (kTl (kTl (kTf (.cells ⟨[]⟩ 3))))))))))))) (kTl (kTl (kTr (kTr (kTr (kTr (kTl (kTl (kTl (kTl (kTl (kTf aQz)))))))))))))) (kTb (kTb (kTr (kTl (kTr (kTl (kTl (kTl (kTl (kTr (kTl (kTl (kTl (kTf (.cells ⟨[]⟩ 3))))))))))))) (kTb (kTr (kTb (kTr (kTf kO3)) (kTl (kTl (kTl (kTl (kTr (kTl (kTl (kTl (kTf aRA))))))))))) (kTl (kTl (kTr (kTr (kTl (kTr (kTr (kTr (kTf aBw))))))))))) (kTb (kTb (kTl (kTr (kTl (kTl (kTl (kTl (kTr (kTl (kTl (kTl (kTf (.cells ⟨[]⟩ 5)))))))))))) (kTb (kTb (kTr (kTr (kTl (kTr (kTr (kTr (kTf aBx))))))) (kTr (kTr (kTl (kTr (kTr (kTr (kTf aBy)))))))) (kTl (kTl (kTr (kTr (kTr (kTr (kTr (kTr (kTf aRB))))))))))) (kTr (kTl (kTl (kTr (kTr (kTl (kTr (kTr (kTr (kTf (.cells ⟨[]⟩ 3)))))))))))))) (kTb (kTb (kTr (kTr (kTb (kTb (kTr (kTr (kTr (kTl (kTl (kTl (kTl (kTl (kTf fR))))))))) (kTl (kTl (kTl (kTl (kTr (kTl (kTl (kTl (kTf aRC)))))))))) (kTb (kTr (kTr (kTl (kTf fR)))) (kTl (kTl (kTl (kTl (kTr (kTl (kTl (kTl (kTf kO1))))))))))))) (kTl (kTl (kTl (kTr (kTr (kTr (kTl (kTr (kTl (kTr (kTr (kTf kO1))))))))))))) (kTb (kTr (kTr (kTb (kTr (kTr (kTr (kTr (kTl (kTl (kTl (kTl (kTl (kTf kO1)))))))))) (kTl (kTr (kTr (kTr (kTl (kTl (kTl (kTl (kTl (kTf aRD))))))))))))) (kTl (kTr (kTr (kTl (kTl (kTl (kTl (kTl (kTr (kTl (kTl (kTl (kTf fR)))))))))))))))))
 nx':=139759
theorem aM0:sE Tryz.prog aPN:=tV kQ (l:=[sO,aMZ]) (bD jA (bD aH8 kM)) (k:=200) fun ro=>by kernel_rfl
end V
end Go.Proofs.YtcaccnneblghgaaGreat
namespace Go.Proofs.YtcaccnneblghgaaGreat
namespace V
set_option maxRecDepth 1000000 in
theorem aLl:Orc Tryz.prog uQ (.bool true):=aO7 okZ okN okM kQ (l:=[sO,aMZ,aPN]) (bD jA (bD aH8 (bD aM0 kM))) (k:=200) rfl (by kernel_rfl) fun ro=>by kernel_rfl
theorem aOh {ro:Ro}{h:T Obj}{nx:Nat}{K:KV} (hK:K (.bool true) h nx):aN Tryz.prog ro uQ [] h nx K:=aLH aLl hK
end V
end Go.Proofs.YtcaccnneblghgaaGreat
namespace Go.Proofs.YtcaccnneblghgaaGreat
namespace V
attribute [local irreducible] rE aN aB
end V
end Go.Proofs.YtcaccnneblghgaaGreat
namespace Go.Proofs.YtcaccnneblghgaaGreat
namespace V
attribute [local irreducible] aB ifP aR cS eQ exP cN
theorem aND (h:T Obj) (a b:Int):eE Tryz.prog h .max #[dR,dR] [.int .i64 a,.int .i64 b]=some (.int .i64 (if a < b then b else a)):=by
 simp only[eE,aGe,aII]
 by_cases hb:a < b<;>simp[hb]
theorem aO8 {ro:Ro}{h:T Obj}{v:Value}{ls:List (List Nat)} (hv:SlR ro h v 1 (aKK ro h) ls):SlR ro h v 1 (RB ro h) ls∧(∀ b∈ls,b.length≤kW)∧∀ b∈ls,∀ x∈b,x < 256:=by
 refine⟨hv.imp fun x d ⟨w,h1,h2,h3⟩=>⟨w,h1,(aPT h2).1⟩,fun b hb=>?_,fun b hb=>?_⟩
 ·obtain⟨i,hi⟩:=List.getElem?_of_mem hb
  obtain⟨hl,rfl⟩:=List.getElem?_eq_some_iff.1 hi
  obtain⟨w,⟨w',_,_,h3⟩,_⟩:=hv.at1 hl
  exact h3
 ·obtain⟨i,hi⟩:=List.getElem?_of_mem hb
  obtain⟨hl,rfl⟩:=List.getElem?_eq_some_iff.1 hi
  obtain⟨w,⟨w',_,h2,_⟩,_⟩:=hv.at1 hl
  exact (aPT h2).2
section
variable {T:TabD}
end
section
variable {ro:Ro}{h:T Obj}{nx:Nat}{K:KV}
end
end V
end Go.Proofs.YtcaccnneblghgaaGreat
namespace Go.Proofs.YtcaccnneblghgaaGreat
namespace V
def tR (rs:List RgD):Nat:=(rs.map (·.2)).sum
theorem aKs:∀ {rs:List RgD}{i:Nat}{x r:RgD},rs[i]?=some r→tR (rs.set i x)+r.2=tR rs+x.2
 | [],i,x,r,h=>by simp at h
 | y::l,0,x,r,h=>by
  simp at h; subst h
  show (x.2+tR l)+y.2=(y.2+tR l)+x.2
  omega
 | y::l,i+1,x,r,h=>by
  have:=aKs (rs:=l) (i:=i) (x:=x) (r:=r) (by simpa using h)
  show (y.2+tR (l.set i x))+r.2=(y.2+tR l)+x.2
  omega
theorem aIx {rs:List RgD}{c:Int}{f:RgD→RgD}{k:Nat} (hf:∀ r,r.2≤(f r).2∧(f r).2≤r.2+k):tR rs≤tR (rs.set c.toNat (f (m5 rs c)))∧tR (rs.set c.toNat (f (m5 rs c)))≤tR rs+k:=by
 cases h:rs[c.toNat]? with
 | none =>
  have hl:=List.getElem?_eq_none_iff.1 h
  rw[List.set_eq_of_length_le hl]
  omega
 | some r =>
  have hr:m5 rs c=r:=by unfold m5; rw[List.getD_eq_getElem?_getD,h]; rfl
  rw[hr]
  have h1:=aKs (x:=f r) h
  have h2:=hf r
  omega
theorem aEh {nx:List Int}:∀ {S:List Int}{rs:List RgD},tR rs≤tR (pB nx S rs)∧tR (pB nx S rs)≤tR rs+S.length
 | [],rs=>⟨Nat.le_refl _,Nat.le_refl _⟩
 | c::r,rs=>by
  unfold pB
  rw[List.length_cons]
  split
  ·have:=aEh (nx:=nx) (S:=r) (rs:=rs); omega
  ·have h1:=aIx (rs:=rs) (c:=c) (f:=aBp) (k:=1) fun r=>⟨Nat.le_succ _,Nat.le_refl _⟩
   have:=aEh (nx:=nx) (S:=r) (rs:=rs.set c.toNat (aBp (m5 rs c))); omega
theorem aKr {C:List (Int × Int)}:∀ {R:List Int}{os:List Nat}{rs:List RgD},tR rs≤tR (rP C R os rs)∧tR (rP C R os rs)≤tR rs+2*R.length
 | [],_,rs=>by unfold rP; exact⟨Nat.le_refl _,Nat.le_add_right _ _⟩
 | _::_,[],rs=>by unfold rP; exact⟨Nat.le_refl _,Nat.le_add_right _ _⟩
 | c::r,o::os,rs=>by
  unfold rP
  rw[List.length_cons]
  have h1:=aIx (rs:=rs) (c:=c) (f:=aDD (nR C c).2.toNat o) (k:=2) fun r=>⟨by
   unfold aDD
   repeat' split
   all_goals (simp[aOa,aBp,aOK]<;>omega),aJn _ _ _⟩
  have:=aKr (C:=C) (R:=r) (os:=os) (rs:=rs.set c.toNat (aDD (nR C c).2.toNat o (m5 rs c))); omega
theorem aLx {d:AutoD}{m:MacD}{b:Nat} (ha:fA d=true) (ho:MOk d m) (hcl:d.c.length=256) (hb:b < 256):(m.cur=-1→fO (i4 d m b)=fO m)∧(m.cur≠-1→fO m+1≤fO (i4 d m b)∧fO (i4 d m b)≤fO m+13):=by
 refine⟨fun hc=>by unfold i4; rw[if_pos hc],fun hc=>?_⟩
 have h1:=(aEb ha ho hc).r3
 have h2:=aDR (S:=[]) ha (aDQ ha ho hc hcl hb).2
 unfold i4
 rw[if_neg hc]
 have h3:=aEh (nx:=lD d (j8 d m b).to) (S:=(fN d m).r) (rs:=m.rs)
 have h4:=aKr (C:=d.counts) (R:=lD d (j8 d m b).to) (os:=(j8 d m b).ops) (rs:=pB (lD d (j8 d m b).to) (fN d m).r m.rs)
 show m.steps+tR m.rs+1≤(m.steps+1+(fN d m).r.length)+tR (rP d.counts (lD d (j8 d m b).to) (j8 d m b).ops (pB (lD d (j8 d m b).to) (fN d m).r m.rs))∧(m.steps+1+(fN d m).r.length)+tR (rP d.counts (lD d (j8 d m b).to) (j8 d m b).ops (pB (lD d (j8 d m b).to) (fN d m).r m.rs))≤m.steps+tR m.rs+13
 omega
theorem aPC {m:MacD}{B:Nat} (h:WLe B m.rs) (hl:m.rs.length≤512):fO m≤m.steps+B*512:=by
 have h1:=aKD (l:=m.rs.map (·.2)) (B:=B) fun x hx=>by
  obtain⟨r,hr,rfl⟩:=List.mem_map.1 hx
  exact h r hr
 rw[List.length_map] at h1
 have:=Nat.mul_le_mul_left B hl
 unfold fO
 omega
section
variable {T:TabD}
def wkS (s:ScD):Nat:=(s.ms.map fO).sum
def kK (T:TabD):Nat:=T.entries.foldr (fun e n=>max e.a.counts.length n) 0
theorem aKd:∀ {l:List EntD}{e:EntD},e∈l→e.a.counts.length≤l.foldr (fun e n=>max e.a.counts.length n) 0
 | x::l,e,h=>by
  rw[List.foldr_cons]
  rcases List.mem_cons.1 h with rfl | h
  ·exact Nat.le_max_left _ _
  ·exact Nat.le_trans (aKd h) (Nat.le_max_right _ _)
theorem aIw {α:Type}{f:α→Nat}:∀ {l:List α}{i:Nat}{x y:α},l[i]?=some y→((l.set i x).map f).sum+f y=(l.map f).sum+f x
 | [],i,x,y,h=>by simp at h
 | a::l,0,x,y,h=>by simp at h; subst h; simp; omega
 | a::l,i+1,x,y,h=>by
  have:=aIw (f:=f) (l:=l) (i:=i) (x:=x) (y:=y) (by simpa using h)
  simp only[List.set_cons_succ,List.map_cons,List.sum_cons]; omega
theorem aLh (m:MacD):fO (aAq m)≤fO m+m.rs.length:=by
 have key:∀ rs:List RgD,((rs.map m6).map (·.2)).sum≤(rs.map (·.2)).sum+rs.length:=by
  intro rs
  induction rs with
  | nil=>exact Nat.le_refl _
  | cons r rs ih =>
   have h1:(m6 r).2≤r.2+1:=by unfold m6 aBp; split<;>simp
   simp only[List.map_cons,List.sum_cons,List.length_cons]; omega
 have:=key m.rs
 unfold fO
 show m.steps+((m.rs.map m6).map (·.2)).sum≤_
 omega
theorem aFc (hT:TabR T) {K:Nat}{e:EntD} (he:e∈T.entries):∀ (l:List Nat) (t:TryD),(∀ b∈l,b < 256)→LkOk K e t→fO (xJ e.a l t).2.m+13*t.steps≤fO t.m+13*(xJ e.a l t).2.steps
 | [],t,_,_=>Nat.le_refl _
 | b::r,t,hl,h=>by
  have hb:=hl b (by simp)
  have h1:=aLx (b:=b) (hT.ok e he) h.mok (hT.c256 e he) hb
  have h2:fO (i4 e.a t.m b)≤fO t.m+13:=by
   by_cases hc:t.m.cur=-1
   ·have:=h1.1 hc; omega
   ·have:=h1.2 hc; omega
  rw[zP]
  split
  ·have:=aFc hT he r _ (fun x hx=>hl x (by simp[hx])) (h.tk1 hT he hb)
   rw[aCQ,aQk] at this
   omega
  ·show fO (i4 e.a t.m b)+13*t.steps≤fO t.m+13*(t.steps+1)
   omega
def aHM (T:TabD) (s:ScD):Prop:=wkS s≤(13+kK T)*s.steps
theorem aKu (hT:TabR T) {s:ScD} (h:ScI T s) (hk:s.kept≠[]) (hw:aHM T s):aHM T (dX T s).2:=by
 obtain⟨h1,h2,m,h3,h4⟩:=h.at
 have hend:=aFc hT h2 (s.kept.drop s.took) (o9 s) (fun b hb=>h.kb b (List.mem_of_mem_drop hb)) (h.lk hT)
 obtain⟨_,e2,_,_,e5,e6⟩:=rY (qS T s).a (s.kept.drop s.took) (o9 s) h.ok.tr
 have e5:(kN T s).2.steps+s.took=s.steps+(kN T s).2.took:=e5
 have e2:s.took≤(kN T s).2.took:=e2
 have hsum:=aIw (f:=fO) (x:=(kN T s).2.m) h3
 have hend:fO (kN T s).2.m+13*s.steps≤fO (o9 s).m+13*(kN T s).2.steps:=hend
 unfold aHM at hw ⊢
 show ((s.ms.set (qR s) (kN T s).2.m).map fO).sum≤(13+kK T)*(kN T s).2.steps
 have hw:(s.ms.map fO).sum≤(13+kK T)*s.steps:=hw
 rw[Nat.add_mul] at hw ⊢
 by_cases h0:s.took=0
 ·have em:(o9 s).m=aAq m:=by unfold o9; rw[if_pos h0,h4]
  have hr:=aLh m
  have hml:=(h.ms _ _ _ h1 h3).1.2
  have hmo:=aKd h2
  have hne:s.kept.drop s.took≠[]:=by rw[h0,List.drop_zero]; exact hk
  have e6:s.took < (kN T s).2.took:=e6 hne
  have hmm:m.rs.length≤kK T:=by rw[hml]; exact hmo
  rw[em] at hend
  obtain⟨k,hkk⟩:∃ k,(kN T s).2.steps=s.steps+1+k:=⟨(kN T s).2.steps - s.steps - 1,by omega⟩
  rw[hkk] at hend ⊢
  have:kK T*(s.steps+1+k)=kK T*s.steps+kK T+kK T*k:=by rw[Nat.mul_add,Nat.mul_add,Nat.mul_one]
  omega
 ·have em:(o9 s).m=m:=by unfold o9; rw[if_neg h0]; exact h4
  rw[em] at hend
  have:kK T*s.steps≤kK T*(kN T s).2.steps:=Nat.mul_le_mul_left _ (by omega)
  omega
theorem aKv (hT:TabR T):∀ (n:Nat) (s:ScD),ScI T s→aHM T s→aHM T (iB T n s).2
 | 0,s,h,hw=>hw
 | n+1,s,h,hw=>by
  by_cases hk:s.kept=[]
  ·rw[zK _ hk]; exact hw
  ·have h1:=aGV hT h hk
   rw[pO,if_neg hk]
   split
   ·exact aKv hT n _ (aKT hT h1 hk) (aKu hT h hk hw)
   ·exact aKu hT h hk hw
theorem aKq:∀ C:List (Int × Int),((C.map fun _=>noR).map (·.2)).sum=0
 | []=>rfl
 | c::C=>by simp only[List.map_cons,List.sum_cons,aKq C]; rfl
theorem aQR:aHM T (nM T):=by
 unfold aHM
 have:wkS (nM T)=0:=by
  show ((T.entries.map fun e=>aCF e.a).map fO).sum=0
  generalize T.entries=l
  induction l with
  | nil=>rfl
  | cons e l ih =>
   have h0:fO (aCF e.a)=0:=by
    show 0+((e.a.counts.map fun _=>noR).map (·.2)).sum=0
    rw[aKq]
   simp only[List.map_cons,List.sum_cons,h0]
   omega
 rw[this]; exact Nat.zero_le _
end
end V
end Go.Proofs.YtcaccnneblghgaaGreat
namespace Go.Proofs.YtcaccnneblghgaaGreat
namespace V
attribute [local irreducible] aB ifP aR cS eQ exP cN
theorem aLq {l:List MacD}{i:Nat} (hi:i < l.length):((l.take (i+1)).map fO).sum=((l.take i).map fO).sum+fO l[i]:=by
 rw[List.take_succ_eq_append_getElem hi,List.map_append,List.sum_append]; simp
section
variable {ro:Ro}{h:T Obj}{nx:Nat}{K:KV}{X:List Nat}{p:Nat}{qs:List MqD}{T:TabD}{most er_:Int}{s:ScD}
theorem aGF {B:Nat}:∀ {l:List MacD},(∀ m∈l,fO m≤B)→(l.map fO).sum≤l.length*B
 | [],_=>by simp
 | m::l,h=>by
  have h1:=h m (by simp)
  have h2:=aGF (l:=l) fun x hx=>h x (by simp[hx])
  rw[List.map_cons,List.sum_cons,List.length_cons,Nat.succ_mul]
  omega
set_option maxRecDepth 8000 in
set_option maxHeartbeats 1000000 in
theorem aIk (hm:ScX ro h X p qs T most er_ s) (hT:TabR T) (hI:ScI T s) (hTl:T.entries.length≤1000) (hsz:s.steps≤90000) (hK:∀ nx',nx≤nx'→K (.int .i64 (wkS s:Nat)) h nx'):aN Tryz.prog ro mR [ptr p] h nx K:=by
 obtain⟨kv,tv,ev,mv,bv,hv⟩:=id hm
 have hv:ScV ro h X p qs T most er_ kv tv ev mv bv s:=hv
 have g1:=hv.1
 have hml:=hI.ok.len
 have hmv:Sl ro h mv 1 (rB qs):=hv.2.2.2.2.1.sub (eX h X)
 have hql:qs.length=T.entries.length:=by have:=hv.2.2.2.2.2.2.1.lq; rw[List.length_map] at this; exact this
 have hwb:∀ m∈s.ms,fO m≤1000000000:=fun m hm9=>by
  obtain⟨i,hi⟩:=List.getElem?_of_mem hm9
  have hil:=(List.getElem?_eq_some_iff.1 hi).1
  have he:T.entries[i]?=some T.entries[i]:=List.getElem?_eq_getElem (by omega)
  obtain⟨m1,m2,m3⟩:=hI.ms i _ m he hi
  have hC:=(eR (hT.ok _ (List.getElem_mem (show i < T.entries.length by omega)))).2.1
  have:=aPC m2 (by rw[m1.2]; exact hC)
  have:10*s.steps*512≤10*90000*512:=Nat.mul_le_mul_right _ (by omega)
  omega
 have hsum:∀ i,((s.ms.take i).map fO).sum≤1000000000000:=fun i=>by
  have h1:=aGF (B:=1000000000) (l:=s.ms.take i) fun m hm9=>hwb m (List.mem_of_mem_take hm9)
  have h2:(s.ms.take i).length≤1000:=by rw[List.length_take]; omega
  have:(s.ms.take i).length*1000000000≤1000*1000000000:=Nat.mul_le_mul_right _ h2
  omega
 apply zC
 unfold uG
 have l4:=aZ (ro:=ro) (z:=0) g1 (show (scL kv tv ev mv most bv s er_)[4]?=some mv from rfl)
 (repeat(first|refine aA (by simp (disch:=first|omega|exact nnN _|assumption) only [BB,B2,↓reduceIte,Nat.reduceLeDiff,Nat.reduceAdd,CC,aJ5,a8,l4]<;>rfl) ?_|apply aD|apply aE|with_reducible first|apply aG|apply aF|apply aK|apply aH|apply aJ|apply aI|apply aL|apply aC))
 have hlen:=hmv.len
 rw[vQ,hql] at hlen
 refine aA hlen ?_
 refine a9 (fun j e h' nx'=>∃ i:Nat,i+j=T.entries.length∧nx≤nx'∧h'=h∧e 3=.int .i64 (((s.ms.take i).map fO).sum:Nat)∧e 11=mv∧e 12=.int .i64 T.entries.length∧e 13=.int .i64 i) ?_ (n:=T.entries.length) ⟨0,by omega,by omega,rfl,rfl,rfl,rfl,rfl⟩
 rintro j e h' nx' ⟨i,hj,hnx,rfl,e3,e11,e12,e13⟩ Q' hq hx
 unfold qF
 rw[e3,e11,e12,e13]
 refine dC (fun hk=>?_) (fun hk=>?_)
 ·have hk:i < T.entries.length:=by omega
  have hek:T.entries[i]?=some T.entries[i]:=List.getElem?_eq_getElem hk
  have hmi:i < s.ms.length:=by omega
  have hmk:s.ms[i]?=some s.ms[i]:=List.getElem?_eq_getElem hmi
  obtain⟨q,hq9,hMI,_⟩:=hv.at hek hmk
  obtain⟨m1,m2,m3⟩:=hI.ms i _ _ hek hmk
  have hC:(er T.entries[i].a).counts.length≤512:=(eR (hT.ok _ (List.getElem_mem hk))).2.1
  have hql2:=(List.getElem?_eq_some_iff.1 hq9).1
  have hqe:=(List.getElem?_eq_some_iff.1 hq9).2
  have hld:=hmv.load1 (aFv hql2)
  rw[hqe] at hld
  have hst:=aLq hmi
  have hs1:=hsum (i+1)
  have hs0:=hsum i
  (repeat(first|refine zzB ?_|apply aD|apply aE|with_reducible first|apply aG|apply aF|apply aK|apply aH|apply aJ|apply aI|apply aL|apply aC))
  refine aA (hmv.ix .i64 (by rw[vQ]; omega)) (aA hld ?_)
  refine aHj hMI (aGI m1) hC m2 (by omega) (by omega) fun n2 hn2=>?_
  have hadd:aO .add (.int .i64 ((((s.ms.take i).map fO).sum:Nat):Int)) (.int .i64 ((fO s.ms[i]:Nat):Int))=some (.int .i64 ((((s.ms.take (i+1)).map fO).sum:Nat):Int)):=by
   rw[cK,hst,show ((((s.ms.take i).map fO).sum:Nat):Int)+((fO s.ms[i]:Nat):Int)=((((s.ms.take i).map fO).sum+fO s.ms[i]:Nat):Int) by omega,dW (by omega) (by omega)]
  refine aA hadd ?_
  (repeat(first|refine zzB ?_|apply aD|apply aE|with_reducible first|apply aG|apply aF|apply aK|apply aH|apply aJ|apply aI|apply aL|apply aC))
  exact hq (j - 1) _ _ _ _ (by omega) ⟨i+1,by omega,by omega,rfl,rfl,e11,e12,rfl⟩ (Sub.refl _)
 ·(repeat(first|refine zzB ?_|apply aD|apply aE|with_reducible first|apply aG|apply aF|apply aK|apply aH|apply aJ|apply aI|apply aL|apply aC))
  refine hx _ _ _ _ (fun e=>by cases e) (eA (cR ?_))
  obtain rfl:i=T.entries.length:=by omega
  rw[List.take_of_length_le (by omega)] at e3
  have hfin:∀ (e':Env) n',e' 3=.int .i64 (wkS s:Nat)→nx'≤n'→jJ ro K e' h' n':=by
   intro e' n' d3 dn
   unfold jJ
   rw[d3]
   exact⟨h',Sub.refl _,hK _ (by omega)⟩
  refine hfin _ _ e3 ?_
  omega
end
end V
end Go.Proofs.YtcaccnneblghgaaGreat
namespace Go.Proofs.YtcaccnneblghgaaGreat
namespace V
attribute [local irreducible] rE aN aB
@[irreducible] def kP (ro:Ro) (K:KV):Env→T Obj→Nat→Prop:=fun e h nx=>aN Tryz.prog ro gV [(e 8)] h (nx+2) fun aa' a' b'=>ifP (e 7) true a' (b'+2) (fun v'=>v' (e 8) a' (b'+3)) fun w' c' d'=>ifP (e 7) true c' d' (fun x'=>aN Tryz.prog ro fQ [w'] c' (d'+1) fun y' z' A'=>x' y' z' A') fun B' e' f'=>ifP (e 7) true e' f' (fun C'=>C' (e 10) e' (f'+1)) fun D' g' h'=>ifP (e 7) true g' h' (fun E'=>E' (e 10) g' (h'+1)) fun F' i' j'=>ifP (e 7) true i' j' (fun G'=>aB (aO .add F' (Value.int IntKind.i64 1)) fun H'=>G' H' i' (j'+1)) fun I' k' l'=>ifP (e 7) true k' l' (fun J'=>aB (aO .mul D' I') fun K'=>J' K' k' (l'+1)) fun L' m' n'=>ifP (e 7) true m' n' (fun M'=>aB (aO .quo L' (Value.int IntKind.i64 2)) fun N'=>M' N' m' (n'+1)) fun O' o' p'=>ifP (e 7) true o' p' (fun P'=>P' (e 10) o' (p'+1)) fun Q' q' r'=>ifP (e 7) true q' r' (fun R'=>aB (aO .add O' Q') fun S'=>R' S' q' (r'+1)) fun T' s' t'=>ifP (e 7) true s' t' (fun U'=>aB (aO .leq B' T') fun V'=>U' V' s' (t'+1)) fun W' X' Y'=>aB (bO (e 7) W' (Value.bool false)) fun Z'=>∃ u',Sub u' X'∧K Z' u' (Y'+2)
@[irreducible] def s7 (ro:Ro):PT:=fun e h nx Q=>aB (aO .lss (e 58) (e 57)) fun e'=>aR e' (aB (cO 1 (e 56) (e 58)) fun f'=>aB (load1 ro h f') fun c'=>aB (bG c') fun g'=>aB (aO .add (e 10) g') fun b'=>aN Tryz.prog ro hY [(e 8),c'] h (nx+12) fun D' an' ao'=>aN Tryz.prog ro fQ [(e 8)] an' (ao'+2) fun h' E' F'=>aB (aO .add b' (Value.int IntKind.i64 1)) fun i'=>aB (aO .mul b' i') fun j'=>aB (aO .quo j' (Value.int IntKind.i64 2)) fun k'=>aB (aO .add k' b') fun l'=>aB (aO .gtr h' l') fun a'=>ifP a' false E' (F'+9) (fun ap'=>ap' (e 8) E' (F'+10)) fun m' G' H'=>ifP a' false G' H' (fun aq'=>aN Tryz.prog ro mR [m'] G' (H'+1) fun ar' as' at'=>aq' ar' as' at') fun n' I' J'=>ifP a' false I' J' (fun au'=>au' (e 8) I' (J'+1)) fun o' K' L'=>ifP a' false K' L' (fun av'=>aN Tryz.prog ro fQ [o'] K' (L'+1) fun aw' ax' ay'=>av' aw' ax' ay') fun p' M' N'=>ifP a' false M' N' (fun az'=>aB (aO .mul (Value.int IntKind.i64 13) p') fun aA'=>az' aA' M' (N'+1)) fun q' O' P'=>ifP a' false O' P' (fun aB'=>aB' (e 11) O' (P'+1)) fun r' Q' R'=>ifP a' false Q' R' (fun aC'=>aC' (e 8) Q' (R'+1)) fun s' S' T'=>ifP a' false S' T' (fun aD'=>aN Tryz.prog ro fQ [s'] S' (T'+1) fun aE' aF' aG'=>aD' aE' aF' aG') fun t' U' V'=>ifP a' false U' V' (fun aH'=>aB (aO .add t' (Value.int IntKind.i64 1)) fun aI'=>aH' aI' U' (V'+1)) fun u' W' X'=>ifP a' false W' X' (fun aJ'=>aB (aO .mul r' u') fun aK'=>aJ' aK' W' (X'+1)) fun v' Y' Z'=>ifP a' false Y' Z' (fun aL'=>aB (aO .add q' v') fun aM'=>aL' aM' Y' (Z'+1)) fun w' aa' ab'=>ifP a' false aa' ab' (fun aN'=>aB (aO .gtr n' w') fun aO'=>aN' aO' aa' (ab'+1)) fun x' ac' ad'=>aB (bO a' (Value.bool true) x') fun d'=>ifP d' false ac' (ad'+2) (fun aP'=>aP' (e 8) ac' (ad'+3)) fun y' ae' af'=>ifP d' false ae' af' (fun aQ'=>aN Tryz.prog ro mQ [y'] ae' (af'+1) fun aR' aS' aT'=>aQ' aR' aS' aT') fun z' ag' ah'=>ifP d' false ag' ah' (fun aU'=>aU' b' ag' (ah'+1)) fun A' ai' aj'=>ifP d' false ai' aj' (fun aV'=>aB (aO .gtr z' A') fun aW'=>aV' aW' ai' (aj'+1)) fun B' ak' al'=>aB (bO d' (Value.bool true) B') fun C'=>aR C' (Q .ret (puts e [(59,e'),(60,f'),(61,c'),(15,c'),(62,(e 10)),(63,c'),(64,g'),(65,b'),(10,b'),(66,(e 8)),(67,c'),(68,D'),(69,(e 8)),(70,h'),(71,b'),(72,b'),(73,i'),(74,j'),(75,k'),(76,b'),(77,l'),(78,a'),(79,a'),(80,m'),(81,n'),(82,o'),(83,p'),(84,q'),(85,r'),(86,s'),(87,t'),(88,u'),(89,v'),(90,w'),(91,x'),(92,d'),(93,d'),(94,y'),(95,z'),(96,A'),(97,B'),(98,C'),(6,(Value.bool false))]) ak' (al'+2)) (aB (aO .add (e 58) (Value.int IntKind.i64 1)) fun am'=>Q .normal (puts e [(59,e'),(60,f'),(61,c'),(15,c'),(62,(e 10)),(63,c'),(64,g'),(65,b'),(10,b'),(66,(e 8)),(67,c'),(68,D'),(69,(e 8)),(70,h'),(71,b'),(72,b'),(73,i'),(74,j'),(75,k'),(76,b'),(77,l'),(78,a'),(79,a'),(80,m'),(81,n'),(82,o'),(83,p'),(84,q'),(85,r'),(86,s'),(87,t'),(88,u'),(89,v'),(90,w'),(91,x'),(92,d'),(93,d'),(94,y'),(95,z'),(96,A'),(97,B'),(98,C'),(99,am'),(58,am')]) ak' (al'+3))) (Q (.exit 2) (puts e [(59,e')]) h (nx+1))
@[irreducible] def kO (ro:Ro) (K:KV):Env→T Obj→Nat→Prop:=fun e h nx=>aN Tryz.prog ro uP [(e 1)] h (nx+2) fun d' f' g'=>aB (bG d') fun h'=>dQ (s7 ro) (puts e [(55,(e 1)),(56,d'),(57,h'),(58,(Value.int IntKind.i64 0))]) f' (g'+2) fun i' a' b' c'=>exP i' (kP ro K a' b' c') (fun j'=>cN (Nat.beq j' 2) (kP ro K a' b' c') (False)) (∃ e',Sub e' b'∧K (a' 6) e' c')
@[irreducible] def s8 (ro:Ro):PT:=fun e h nx Q=>aB (aO .lss (e 44) (e 43)) fun a'=>aR a' (aB (cO 260 (e 42) (e 44)) fun c'=>aB (loadA ro h 260 c') fun d'=>aB (zer Tryz.prog cA) fun k'=>cS h (nx+3) (.cells k'.cells cA) fun l'=>aB (bV 260 l' (ptr (nx+3)) d') fun b'=>aB (aS 0 (ptr (nx+3))) fun e'=>aB (aS 257 e') fun f'=>aB (load1 ro b' f') fun g'=>aB (bG g') fun h'=>aB (eE Tryz.prog b' .max #[dR,dR] [(e 11),h']) fun i'=>aB (aO .add (e 44) (Value.int IntKind.i64 1)) fun j'=>Q .normal (puts e [(45,a'),(46,c'),(47,d'),(13,(ptr (nx+3))),(48,(e 11)),(49,e'),(50,f'),(51,g'),(52,h'),(53,i'),(11,i'),(54,j'),(44,j')]) b' (nx+14)) (Q (.exit 0) (puts e [(45,a')]) h (nx+1))
@[irreducible] def xC (ro:Ro) (v0 v1 v2:Value) (h:T Obj) (nx:Nat) (K:KV):Prop:=cS h nx (.cells (Value.cells v0) dF) fun h1=>aN Tryz.prog ro uQ [] h1 (nx+3) fun e' h3 n4=>aB (loadA ro h3 4 (ptr nx)) fun l'=>aN Tryz.prog ro yE [l'] h3 (n4+3) fun m' h7 n8=>aB (unV .not m') fun a'=>ifP a' false h7 (n8+2) (fun N'=>aB (loadA ro h7 4 (ptr nx)) fun O'=>N' O' h7 (n8+3)) fun n' o' p'=>ifP a' false o' p' (fun P'=>aN Tryz.prog ro uW [n'] o' (p'+1) fun Q' R' S'=>P' Q' R' S') fun q' r' s'=>ifP a' false r' s' (fun T'=>aB (unV .not q') fun U'=>T' U' r' (s'+1)) fun t' f' u'=>aB (bO a' (Value.bool true) t') fun v'=>aR v' (∃ w',Sub w' f'∧K e' w' (u'+3)) (aB (loadA ro f' 4 (ptr nx)) fun x'=>aB (aO .rem v2 (Value.int IntKind.u16 300)) fun y'=>aB (vH .i64 y') fun z'=>aB (aO .add z' (Value.int IntKind.i64 1)) fun A'=>aN Tryz.prog ro wK [x',A'] f' (u'+7) fun c' B' C'=>aB (nth 0 c') fun d'=>aB (nth 1 c') fun g'=>aB (xO .eql d' (Value.pointer none)) fun b'=>ifP b' false B' (C'+8) (fun V'=>V' g' B' (C'+9)) fun D' E' F'=>ifP b' false E' F' (fun W'=>aB (aO .neq D' (Value.int IntKind.i64 0)) fun X'=>W' X' E' (F'+1)) fun G' h' H'=>aB (bO b' (Value.bool true) G') fun I'=>aR I' (∃ J',Sub J' h'∧K (Value.bool false) J' (H'+2)) (aB (aS 3 (ptr nx)) fun K'=>aB (load1 ro h' K') fun L'=>aB (bG L') fun Y'=>dQ (s8 ro) (puts (gH [v0,v1,v2]) [(3,(ptr nx)),(6,(Value.bool false)),(16,e'),(7,e'),(17,l'),(18,m'),(19,a'),(20,a'),(21,n'),(22,q'),(23,t'),(24,v'),(27,x'),(28,v2),(29,y'),(30,z'),(31,A'),(32,c'),(26,c'),(33,d'),(34,g'),(8,d'),(9,g'),(35,d'),(36,b'),(37,b'),(38,D'),(39,G'),(40,I'),(10,(Value.int IntKind.i64 0)),(11,(Value.int IntKind.i64 0)),(41,K'),(42,L'),(43,Y'),(44,(Value.int IntKind.i64 0))]) h' (H'+7) fun Z' i' j' k'=>exP Z' (kO ro K i' j' k') (fun aa'=>cN (Nat.beq aa' 0) (kO ro K i' j' k') (False)) (∃ M',Sub M' j'∧K (i' 6) M' k')))
theorem aAm {ro:Ro}{v0 v1 v2:Value}{h:T Obj}{nx:Nat}{K:KV} (hw:xC ro v0 v1 v2 h nx K):aN Tryz.prog ro uA [v0,v1,v2] h nx K:=a7 (P:=Tryz.prog) (fn:=Tryz.f6) (by kernel_rfl) (by kernel_rfl) (by kernel_rfl) (Eq.mpr (by kernel_rfl) hw)
end V
end Go.Proofs.YtcaccnneblghgaaGreat