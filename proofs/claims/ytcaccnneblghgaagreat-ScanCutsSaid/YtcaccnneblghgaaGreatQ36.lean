/- Texts laid one behind the other: SV, SW, YA, S1, S3, S4, S5, GT, S2, S6, S7, S8, S9, T0, T2, T3, TD, K1, K2, K3, K4, K5, K6, K7, K8, K9, KA, KB, KC, KD, KE, SS, G2, T4, TE, TW.
   No condition. -/
import Derived.KernelRfl
import Derived.Test.YtcaccnneblghgaaGreatQ35
set_option linter.unusedVariables false
set_option linter.unusedSimpArgs false
namespace Go.Proofs.YtcaccnneblghgaaGreat
namespace V
attribute [local irreducible] aB ifP aQ cV eS exP cP
theorem sH:zV={ data:=#[115,116,97,114,116] }:=by decide
theorem sD:(ByteArray.empty:ByteArray)={ data:=#[] }:=rfl
theorem aE2 (seen:List ByteArray) (s:ByteArray) (r:List ByteArray):xQ seen (s::r)=(kJ s&&!(seen.any fun t=>decide (s=t))&&xQ (seen++[s]) r):=rfl
section
variable {ro:Ro}{h:T Obj}{nx:Nat}{K:KV}
set_option maxRecDepth 8000 in
theorem aFY {x y:List Value}{T:TabD}{e:EntD}{i1:Nat} (hf:Fr h nx) (g1:h.get i1=some (.cells x.toArray dI)) (hd:aDN ro h x T) (hk:T.kinds.length≤1000000) (he:vM ro h y e)
  (hK:∀ nx',nx≤nx'→K (.bool (!lV T.kinds.length e)) h nx'):aN Tryz.prog ro uW [.agg y.toArray,ptr i1] h nx K:=by
 obtain⟨cv,kv,tv,ev,rfl,q1,q2,q3,q4,q5,q6,q7,q8⟩:=id hd
 apply aEL
 unfold aCn
 refine eJ hf (Nat.le_refl _) fun h1 hs1 hf1 g2 _=>?_
 have g2:h1.get nx=some (.cells y.toArray cS):=g2
 have m1:[cv,kv,tv,ev][1]?=some kv:=rfl
 have g1':=hs1 _ _ g1
 have klen:=(q2.sub hs1 fun _ _ h=>h).len
 refine aA (dL (ro:=ro) (z:=0) (n:=260) (l:=y) g2 he.len) ?_
 (repeat(first|refine zzB ?_|apply aD|apply aE|with_reducible first|apply aG|apply aF|apply aK|apply aH|apply aJ|apply aI|apply aL|apply aC))
 refine aA (aZ g1' m1) (aA klen ?_)
 refine aJq hk (hf1.mono (by omega)) (he.sub hs1 |> fun z=>z) fun n2 hn2=>?_
 cases hb:lV T.kinds.length e with
 | true =>
  rw[hb] at hK
  (repeat(first|refine zzB ?_|apply aD|apply aE|with_reducible first|apply aG|apply aF|apply aK|apply aH|apply aJ|apply aI|apply aL|apply aC))
  exact⟨h,hs1,hK _ (by omega)⟩
 | false =>
  rw[hb] at hK
  (repeat(first|refine zzB ?_|apply aD|apply aE|with_reducible first|apply aG|apply aF|apply aK|apply aH|apply aJ|apply aI|apply aL|apply aC))
  exact⟨h,hs1,hK _ (by omega)⟩
set_option maxRecDepth 16000 in
set_option maxHeartbeats 4000000 in
theorem aIR {x:List Value}{T:TabD} (hf:Fr h nx) (hd:aDN ro h x T) (hK:∀ nx',nx≤nx'→K (.bool (gC T)) h nx'):aN Tryz.prog ro yO [.agg x.toArray] h nx K:=by
 obtain⟨cv,kv,tv,ev,rfl,q1,q2,q3,q4,q5,q6,q7,q8⟩:=id hd
 have q5:T.conds.length≤9223372036854775807:=q5
 have q6:T.kinds.length≤9223372036854775807:=q6
 have q7:T.to.length≤9223372036854775807:=q7
 have q8:T.entries.length≤9223372036854775807:=q8
 apply aGr
 unfold aGA
 refine eJ hf (Nat.le_refl _) fun h1 hs1 hf1 g1 _=>?_
 have g1:h1.get nx=some (.cells [cv,kv,tv,ev].toArray dI):=g1
 have l0:=aZ (ro:=ro) (z:=0) g1 (show [cv,kv,tv,ev][0]?=some cv from rfl)
 have l1:=aZ (ro:=ro) (z:=0) g1 (show [cv,kv,tv,ev][1]?=some kv from rfl)
 have l2:=aZ (ro:=ro) (z:=0) g1 (show [cv,kv,tv,ev][2]?=some tv from rfl)
 have l3:=aZ (ro:=ro) (z:=0) g1 (show [cv,kv,tv,ev][3]?=some ev from rfl)
 have q1':=q1.sub hs1 fun _ _ h=>h
 have q2':=q2.sub hs1 fun _ _ h=>h
 have q3':=q3.sub hs1
 have q4':=q4.sub hs1 (vM.sub hs1)
 have hd1:=hd.sub hs1
 have clen:=q1'.len
 have klen:=q2'.len
 have tlen:=q3'.len
 rw[eX] at tlen
 have elen:=q4'.len
 have hno:gC T=false→∀ n',nx≤n'→∃ h9,Sub h9 h1∧K (.bool false) h9 n':=fun hz n' hn=>⟨h,hs1,by rw[← hz]; exact hK _ hn⟩
 by_cases c1:1≤T.conds.length
 case neg =>
  (repeat(first|refine aA (by simp (disch:=first|omega|exact nnN _|assumption) only [BB,B2,↓reduceIte,Nat.reduceLeDiff,Nat.reduceAdd,CC,l0,clen]<;>rfl) ?_|apply aD|apply aE|with_reducible first|apply aG|apply aF|apply aK|apply aH|apply aJ|apply aI|apply aL|apply aC))
  exact hno (by unfold gC; rw[decide_eq_false c1]; rfl) _ (by omega)
 by_cases c2:T.conds.length≤8
 case neg =>
  (repeat(first|refine aA (by simp (disch:=first|omega|exact nnN _|assumption) only [BB,B2,↓reduceIte,Nat.reduceLeDiff,Nat.reduceAdd,CC,l0,clen]<;>rfl) ?_|apply aD|apply aE|with_reducible first|apply aG|apply aF|apply aK|apply aH|apply aJ|apply aI|apply aL|apply aC))
  exact hno (by unfold gC; rw[decide_eq_true c1,decide_eq_false c2]; rfl) _ (by omega)
 have hix0:=q1'.ix .i64 (i:=0) (by omega)
 have hz0:((0:Nat):Int)=0:=rfl
 rw[hz0] at hix0
 obtain⟨hld0,_⟩:=aAL.load q1' (i:=0) (by omega)
 have hsb:=zX T.conds[0] zV
 have hhd:T.conds.head?=some T.conds[0]:=by rw[List.head?_eq_getElem?,List.getElem?_eq_getElem (by omega)]
 rw[sH] at hsb
 by_cases c3:T.conds[0]=zV
 case neg =>
  have c3':=c3
  rw[sH] at c3'
  rw[decide_eq_false c3',Bool.not_false] at hsb
  (repeat(first|refine aA (by simp (disch:=first|omega|exact nnN _|assumption) only [BB,B2,↓reduceIte,Nat.reduceLeDiff,Nat.reduceAdd,CC,l0,clen,hix0,hld0,hsb]<;>rfl) ?_|apply aD|apply aE|with_reducible first|apply aG|apply aF|apply aK|apply aH|apply aJ|apply aI|apply aL|apply aC))
  exact hno (by unfold gC; rw[decide_eq_true c1,decide_eq_true c2,hhd,decide_eq_false (fun e=>c3 (Option.some.inj e))]; rfl) _ (by omega)
 have c3':=c3
 rw[sH] at c3'
 rw[decide_eq_true c3',Bool.not_true] at hsb
 have hr3:decide (T.conds.head?=some zV)=true:=decide_eq_true (by rw[hhd,c3])
 by_cases c4:T.kinds.length≤64
 case neg =>
  (repeat(first|refine aA (by simp (disch:=first|omega|exact nnN _|assumption) only [BB,B2,↓reduceIte,Nat.reduceLeDiff,Nat.reduceAdd,CC,l0,l1,clen,klen,hix0,hld0,hsb]<;>rfl) ?_|apply aD|apply aE|with_reducible first|apply aG|apply aF|apply aK|apply aH|apply aJ|apply aI|apply aL|apply aC))
  exact hno (by unfold gC; rw[decide_eq_true c1,decide_eq_true c2,hr3,decide_eq_false c4]; rfl) _ (by omega)
 by_cases c5:T.to.length=T.kinds.length
 case neg =>
  (repeat(first|refine aA (by simp (disch:=first|omega|exact nnN _|assumption) only [BB,B2,↓reduceIte,Nat.reduceLeDiff,Nat.reduceAdd,CC,l0,l1,l2,clen,klen,tlen,hix0,hld0,hsb]<;>rfl) ?_|apply aD|apply aE|with_reducible first|apply aG|apply aF|apply aK|apply aH|apply aJ|apply aI|apply aL|apply aC))
  exact hno (by unfold gC; rw[decide_eq_true c1,decide_eq_true c2,hr3,decide_eq_true c4,decide_eq_false c5]; rfl) _ (by omega)
 by_cases c6:T.entries.length=2*T.conds.length
 case neg =>
  (repeat(first|refine aA (by simp (disch:=first|omega|exact nnN _|assumption) only [BB,B2,↓reduceIte,Nat.reduceLeDiff,Nat.reduceAdd,CC,l0,l1,l2,l3,clen,klen,tlen,elen,hix0,hld0,hsb]<;>rfl) ?_|apply aD|apply aE|with_reducible first|apply aG|apply aF|apply aK|apply aH|apply aJ|apply aI|apply aL|apply aC))
  exact hno (by unfold gC; rw[decide_eq_true c1,decide_eq_true c2,hr3,decide_eq_true c4,decide_eq_true c5,decide_eq_false c6]; rfl) _ (by omega)
 have hrt:gC T=(xQ [] T.conds&&((List.zip T.kinds T.to).all (fun x=>jZ T.conds.length x.1 x.2)&&T.entries.all (lV T.kinds.length))):=by
  unfold gC
  rw[decide_eq_true c1,decide_eq_true c2,hr3,decide_eq_true c4,decide_eq_true c5,decide_eq_true c6]; rfl
 (repeat(first|refine aA (by simp (disch:=first|omega|exact nnN _|assumption) only [BB,B2,↓reduceIte,Nat.reduceLeDiff,Nat.reduceAdd,CC,l0,l1,l2,l3,clen,klen,tlen,elen,hix0,hld0,hsb]<;>rfl) ?_|apply aD|apply aE|with_reducible first|apply aG|apply aF|apply aK|apply aH|apply aJ|apply aI|apply aL|apply aC))
 refine bA (fun j e h' nx'=>∃ (k:Nat),k+j=T.conds.length∧nx+1≤nx'∧h'=h1∧e 1=ptr nx∧e 50=cv∧e 51=.int .i64 T.conds.length∧e 52=.int .i64 k∧xQ [] T.conds=xQ (T.conds.take k) (T.conds.drop k)) ?_ (n:=T.conds.length)
  ⟨0,by omega,by omega,rfl,rfl,rfl,rfl,rfl,rfl⟩
 rintro j e h' nx' ⟨k,hj,hnx,rfl,e1,e50,e51,e52,hr⟩ Q' hq hx
 unfold aB7
 rw[e1,e50,e51,e52]
 refine cY (fun hk=>?_) (fun hk=>?_)
 ·have hk:k < T.conds.length:=by omega
  have hix:=q1'.ix .i64 hk
  obtain⟨hld,hsz⟩:=aAL.load q1' hk
  rw[bX hk,aE2] at hr
  have htk:T.conds.take (k+1)=T.conds.take k++[T.conds[k]]:=List.take_succ_eq_append_getElem hk
  have hfi:=aCm (q:=fun t=>decide (T.conds[k]=t)) (l:=T.conds) (k:=0) (i:=k) (by omega) (List.getElem?_eq_getElem hk) (decide_eq_true rfl)
  rw[← htk] at hr
  generalize T.conds[k]=s at hr hld hsz hfi
  have hsz:s.size≤9223372036854775807:=hsz
  (repeat(first|refine aA (by simp (disch:=first|omega|exact nnN _|assumption) only [BB,B2,↓reduceIte,Nat.reduceLeDiff,Nat.reduceAdd,CC,hix,hld]<;>rfl) ?_|apply aD|apply aE|with_reducible first|apply aG|apply aF|apply aK|apply aH|apply aJ|apply aI|apply aL|apply aC))
  refine aAl hsz fun n2 hn2=>?_
  cases hnm:kJ s with
  | false =>
   rw[hnm] at hr
   (repeat(first|refine zzB ?_|apply aD|apply aE|with_reducible first|apply aG|apply aF|apply aK|apply aH|apply aJ|apply aI|apply aL|apply aC))
   refine hx _ _ _ _ (fun e=>by cases e) (fB ?_)
   exact hno (by rw[hrt,hr]; rfl) _ (by omega)
  | true =>
   rw[hnm,Bool.true_and] at hr
   (repeat(first|refine aA (by simp (disch:=first|omega|exact nnN _|assumption) only [BB,B2,↓reduceIte,Nat.reduceLeDiff,Nat.reduceAdd,CC,l0]<;>rfl) ?_|apply aD|apply aE|with_reducible first|apply aG|apply aF|apply aK|apply aH|apply aJ|apply aI|apply aL|apply aC))
   refine aEw (by omega) q1' fun n3 hn3=>?_
   generalize pK (fun t=>decide (s=t)) 0 T.conds=fi at hfi
   cases hct:(T.conds.take k).any (fun t=>decide (s=t)) with
   | true =>
    rw[hct,Bool.not_true] at hfi hr
    have hfi:=of_decide_eq_false hfi
    (repeat(first|refine zzB ?_|apply aD|apply aE|with_reducible first|apply aG|apply aF|apply aK|apply aH|apply aJ|apply aI|apply aL|apply aC))
    refine hx _ _ _ _ (fun e=>by cases e) (fB ?_)
    exact hno (by rw[hrt,hr]; rfl) _ (by omega)
   | false =>
    rw[hct,Bool.not_false] at hfi hr
    have hfi:=of_decide_eq_true hfi
    (repeat(first|refine zzB ?_|apply aD|apply aE|with_reducible first|apply aG|apply aF|apply aK|apply aH|apply aJ|apply aI|apply aL|apply aC))
    exact hq (j - 1) _ _ _ _ (by omega) ⟨k+1,by omega,by omega,rfl,e1,e50,e51,rfl,hr⟩ (Sub.refl _)
 ·have hr1:xQ [] T.conds=true:=by rw[hr,List.drop_of_length_le (by omega)]; rfl
  rw[hr1,Bool.true_and] at hrt
  (repeat(first|refine zzB ?_|apply aD|apply aE|with_reducible first|apply aG|apply aF|apply aK|apply aH|apply aJ|apply aI|apply aL|apply aC))
  refine hx _ _ _ _ (fun e=>by cases e) (d5 (cR ?_))
  have hj1:∀ (ev1:Env) n',nx+1≤n'→ev1 1=ptr nx→rN ro K ev1 h' n':=by
   intro ev1 n' hn f1
   unfold rN
   rw[f1]
   (repeat(first|refine aA (by simp (disch:=first|omega|exact nnN _|assumption) only [BB,B2,↓reduceIte,Nat.reduceLeDiff,Nat.reduceAdd,CC,l1,klen]<;>rfl) ?_|apply aD|apply aE|with_reducible first|apply aG|apply aF|apply aK|apply aH|apply aJ|apply aI|apply aL|apply aC))
   refine bA (fun j e h2 nx2=>∃ (k:Nat),k+j=T.kinds.length∧nx+1≤nx2∧h2=h'∧e 1=ptr nx∧e 70=kv∧e 71=.int .i64 T.kinds.length∧e 72=.int .i64 k∧(List.zip T.kinds T.to).all (fun x=>jZ T.conds.length x.1 x.2)=((List.zip T.kinds T.to).drop k).all (fun x=>jZ T.conds.length x.1 x.2)) ?_ (n:=T.kinds.length)
    ⟨0,by omega,by omega,rfl,f1,rfl,rfl,rfl,rfl⟩
   rintro j2 e2 h2 nx2 ⟨k2,hj2,hnx2,rfl,f1,f70,f71,f72,hr2⟩ Q2 hq2 hx2
   unfold aB6
   rw[f1,f70,f71,f72]
   refine cY (fun hk2=>?_) (fun hk2=>?_)
   ·have hk2:k2 < T.kinds.length:=by omega
    have hkt:k2 < T.to.length:=by omega
    have hix:=q2'.ix .i64 hk2
    obtain⟨hld,hsz⟩:=aAL.load q2' hk2
    have tix:=q3'.ix .i64 (i:=k2) (by rw[eX]; exact hkt)
    have tld:=q3'.load1 (kH (l:=T.to) (i:=k2) hkt)
    have hzl:k2 < (List.zip T.kinds T.to).length:=by rw[List.length_zip]; omega
    rw[bX hzl,List.all_cons,List.getElem_zip] at hr2
    generalize T.kinds[k2]=s at hr2 hld hsz
    generalize T.to[k2]=t at hr2 tld
    have hsz:s.size≤9223372036854775807:=hsz
    have hse:=zX s .empty
    rw[sD] at hse
    have hbad:jZ T.conds.length s t=false→∀ n',nx≤n'→∃ h9,Sub h9 h2∧K (.bool false) h9 n':=fun hz n' hn=>hno (by rw[hrt,hr2,hz]; rfl) n' hn
    have hgo:jZ T.conds.length s t=true→∀ (e9:Env) n9,nx+1≤n9→e9 1=ptr nx→e9 70=kv→e9 71=.int .i64 T.kinds.length→e9 72=.int .i64 ((k2:Int)+1)→Q2 .normal e9 h2 n9:=by
     intro hz e9 n9 hn9 u1 u70 u71 u72
     rw[hz,Bool.true_and] at hr2
     exact hq2 (j2 - 1) _ _ _ _ (by omega) ⟨k2+1,by omega,by omega,rfl,u1,u70,u71,u72,hr2⟩ (Sub.refl _)
    by_cases hs0:s=.empty
    ·have hs0':=hs0
     rw[sD] at hs0'
     rw[decide_eq_true hs0',Bool.not_true] at hse
     (repeat(first|refine aA (by simp (disch:=first|omega|exact nnN _|assumption) only [BB,B2,↓reduceIte,Nat.reduceLeDiff,Nat.reduceAdd,CC,hix,hld,hse]<;>rfl) ?_|apply aD|apply aE|with_reducible first|apply aG|apply aF|apply aK|apply aH|apply aJ|apply aI|apply aL|apply aC))
     by_cases d1:t < -1
     ·(repeat(first|refine aA (by simp (disch:=first|omega|exact nnN _|assumption) only [BB,B2,↓reduceIte,Nat.reduceLeDiff,Nat.reduceAdd,CC,l2,tix,tld]<;>rfl) ?_|apply aD|apply aE|with_reducible first|apply aG|apply aF|apply aK|apply aH|apply aJ|apply aI|apply aL|apply aC))
      refine hx2 _ _ _ _ (fun e=>by cases e) (fB ?_)
      exact hbad (by unfold jZ; rw[decide_eq_false (show ¬-1≤t by omega)]; simp) _ (by omega)
     ·by_cases d2:(T.conds.length:Int)≤t
      ·(repeat(first|refine aA (by simp (disch:=first|omega|exact nnN _|assumption) only [BB,B2,↓reduceIte,Nat.reduceLeDiff,Nat.reduceAdd,CC,l2,tix,tld,l0,clen]<;>rfl) ?_|apply aD|apply aE|with_reducible first|apply aG|apply aF|apply aK|apply aH|apply aJ|apply aI|apply aL|apply aC))
       refine hx2 _ _ _ _ (fun e=>by cases e) (fB ?_)
       exact hbad (by unfold jZ; rw[decide_eq_false (show ¬t < (T.conds.length:Int) by omega)]; simp) _ (by omega)
      ·(repeat(first|refine aA (by simp (disch:=first|omega|exact nnN _|assumption) only [BB,B2,↓reduceIte,Nat.reduceLeDiff,Nat.reduceAdd,CC,l2,tix,tld,l0,clen]<;>rfl) ?_|apply aD|apply aE|with_reducible first|apply aG|apply aF|apply aK|apply aH|apply aJ|apply aI|apply aL|apply aC))
       exact hgo (by unfold jZ; rw[decide_eq_true hs0,decide_eq_true (show -1≤t by omega),decide_eq_true (show t < (T.conds.length:Int) by omega)]; simp) _ _ (by omega) f1 f70 f71 rfl
    ·have hs0':=hs0
     rw[sD] at hs0'
     rw[decide_eq_false hs0',Bool.not_false] at hse
     (repeat(first|refine aA (by simp (disch:=first|omega|exact nnN _|assumption) only [BB,B2,↓reduceIte,Nat.reduceLeDiff,Nat.reduceAdd,CC,hix,hld,hse]<;>rfl) ?_|apply aD|apply aE|with_reducible first|apply aG|apply aF|apply aK|apply aH|apply aJ|apply aI|apply aL|apply aC))
     refine aAl hsz fun n2 hn2=>?_
     cases hnm:kJ s with
     | false =>
      (repeat(first|refine zzB ?_|apply aD|apply aE|with_reducible first|apply aG|apply aF|apply aK|apply aH|apply aJ|apply aI|apply aL|apply aC))
      refine hx2 _ _ _ _ (fun e=>by cases e) (fB ?_)
      exact hbad (by unfold jZ; rw[decide_eq_false hs0,hnm]; rfl) _ (by omega)
     | true =>
      (repeat(first|refine zzB ?_|apply aD|apply aE|with_reducible first|apply aG|apply aF|apply aK|apply aH|apply aJ|apply aI|apply aL|apply aC))
      by_cases d1:t < -1
      ·(repeat(first|refine aA (by simp (disch:=first|omega|exact nnN _|assumption) only [BB,B2,↓reduceIte,Nat.reduceLeDiff,Nat.reduceAdd,CC,l2,tix,tld]<;>rfl) ?_|apply aD|apply aE|with_reducible first|apply aG|apply aF|apply aK|apply aH|apply aJ|apply aI|apply aL|apply aC))
       refine hx2 _ _ _ _ (fun e=>by cases e) (fB ?_)
       exact hbad (by unfold jZ; rw[decide_eq_false (show ¬-1≤t by omega)]; simp) _ (by omega)
      ·by_cases d2:(T.conds.length:Int)≤t
       ·(repeat(first|refine aA (by simp (disch:=first|omega|exact nnN _|assumption) only [BB,B2,↓reduceIte,Nat.reduceLeDiff,Nat.reduceAdd,CC,l2,tix,tld,l0,clen]<;>rfl) ?_|apply aD|apply aE|with_reducible first|apply aG|apply aF|apply aK|apply aH|apply aJ|apply aI|apply aL|apply aC))
        refine hx2 _ _ _ _ (fun e=>by cases e) (fB ?_)
        exact hbad (by unfold jZ; rw[decide_eq_false (show ¬t < (T.conds.length:Int) by omega)]; simp) _ (by omega)
       ·(repeat(first|refine aA (by simp (disch:=first|omega|exact nnN _|assumption) only [BB,B2,↓reduceIte,Nat.reduceLeDiff,Nat.reduceAdd,CC,l2,tix,tld,l0,clen]<;>rfl) ?_|apply aD|apply aE|with_reducible first|apply aG|apply aF|apply aK|apply aH|apply aJ|apply aI|apply aL|apply aC))
        exact hgo (by unfold jZ; rw[hnm,decide_eq_true (show -1≤t by omega),decide_eq_true (show t < (T.conds.length:Int) by omega)]; simp) _ _ (by omega) f1 f70 f71 rfl
   ·have hall:(List.zip T.kinds T.to).all (fun x=>jZ T.conds.length x.1 x.2)=true:=by rw[hr2,List.drop_of_length_le (by rw[List.length_zip]; omega)]; rfl
    rw[hall,Bool.true_and] at hrt
    (repeat(first|refine zzB ?_|apply aD|apply aE|with_reducible first|apply aG|apply aF|apply aK|apply aH|apply aJ|apply aI|apply aL|apply aC))
    refine hx2 _ _ _ _ (fun e=>by cases e) (d5 (cR ?_))
    have hj2:∀ (ev2:Env) n',nx+1≤n'→ev2 1=ptr nx→rO ro K ev2 h2 n':=by
     intro ev2 n' hn f1
     unfold rO
     rw[f1]
     (repeat(first|refine zzB ?_|apply aD|apply aE|with_reducible first|apply aG|apply aF|apply aK|apply aH|apply aJ|apply aI|apply aL|apply aC))
     refine aA l3 ?_
     refine yH (q:=fun e=>!lV T.kinds.length e) (by omega) q4' (fun i hi y n9 K9 hy hn9 hk9=>?_) fun n9 hn9=>?_
     ·exact aFY (hf1.mono (by omega)) g1 hd1 (by omega) hy hk9
     ·have ha:=aG7 (lV T.kinds.length) T.entries
      rw[hrt,← ha] at hK
      (repeat(first|refine zzB ?_|apply aD|apply aE|with_reducible first|apply aG|apply aF|apply aK|apply aH|apply aJ|apply aI|apply aL|apply aC))
      exact⟨h,hs1,hK _ (by omega)⟩
    exact hj2 _ _ (by omega) f1
  exact hj1 _ _ (by omega) e1
end
end V
end Go.Proofs.YtcaccnneblghgaaGreat
namespace Go.Proofs.YtcaccnneblghgaaGreat
namespace V
attribute [local irreducible] aB ifP aQ cV eS exP cP
section
variable {ro:Ro}{h:T Obj}{nx:Nat}{K:KV}
set_option maxRecDepth 16000 in
set_option maxHeartbeats 4000000 in
theorem aFe {x:List Value}{T:TabD} (hf:Fr h nx) (hd:aDN ro h x T) (hK:∀ nx',nx≤nx'→K (.bool (gC T)) h nx'):aN Tryz.prog ro vC [.agg x.toArray] h nx K:=by
 obtain⟨cv,kv,tv,ev,rfl,q1,q2,q3,q4,q5,q6,q7,q8⟩:=id hd
 have q5:T.conds.length≤9223372036854775807:=q5
 have q6:T.kinds.length≤9223372036854775807:=q6
 have q7:T.to.length≤9223372036854775807:=q7
 have q8:T.entries.length≤9223372036854775807:=q8
 apply aEl
 unfold aDF
 refine eJ hf (Nat.le_refl _) fun h1 hs1 hf1 g1 _=>?_
 have g1:h1.get nx=some (.cells [cv,kv,tv,ev].toArray dI):=g1
 have l0:=aZ (ro:=ro) (z:=0) g1 (show [cv,kv,tv,ev][0]?=some cv from rfl)
 have l1:=aZ (ro:=ro) (z:=0) g1 (show [cv,kv,tv,ev][1]?=some kv from rfl)
 have l2:=aZ (ro:=ro) (z:=0) g1 (show [cv,kv,tv,ev][2]?=some tv from rfl)
 have l3:=aZ (ro:=ro) (z:=0) g1 (show [cv,kv,tv,ev][3]?=some ev from rfl)
 have q1':=q1.sub hs1 fun _ _ h=>h
 have q2':=q2.sub hs1 fun _ _ h=>h
 have q3':=q3.sub hs1
 have q4':=q4.sub hs1 (vM.sub hs1)
 have hd1:=hd.sub hs1
 have clen:=q1'.len
 have klen:=q2'.len
 have tlen:=q3'.len
 rw[eX] at tlen
 have elen:=q4'.len
 have hno:gC T=false→∀ n',nx≤n'→∃ h9,Sub h9 h1∧K (.bool false) h9 n':=fun hz n' hn=>⟨h,hs1,by rw[← hz]; exact hK _ hn⟩
 by_cases c1:1≤T.conds.length
 case neg =>
  (repeat(first|refine aA (by simp (disch:=first|omega|exact nnN _|assumption) only [BB,B2,↓reduceIte,Nat.reduceLeDiff,Nat.reduceAdd,CC,l0,clen]<;>rfl) ?_|apply aD|apply aE|with_reducible first|apply aG|apply aF|apply aK|apply aH|apply aJ|apply aI|apply aL|apply aC))
  exact hno (by unfold gC; rw[decide_eq_false c1]; rfl) _ (by omega)
 by_cases c2:T.conds.length≤8
 case neg =>
  (repeat(first|refine aA (by simp (disch:=first|omega|exact nnN _|assumption) only [BB,B2,↓reduceIte,Nat.reduceLeDiff,Nat.reduceAdd,CC,l0,clen]<;>rfl) ?_|apply aD|apply aE|with_reducible first|apply aG|apply aF|apply aK|apply aH|apply aJ|apply aI|apply aL|apply aC))
  exact hno (by unfold gC; rw[decide_eq_true c1,decide_eq_false c2]; rfl) _ (by omega)
 have hix0:=q1'.ix .i64 (i:=0) (by omega)
 have hz0:((0:Nat):Int)=0:=rfl
 rw[hz0] at hix0
 obtain⟨hld0,_⟩:=aAL.load q1' (i:=0) (by omega)
 have hsb:=zX T.conds[0] zV
 have hhd:T.conds.head?=some T.conds[0]:=by rw[List.head?_eq_getElem?,List.getElem?_eq_getElem (by omega)]
 rw[sH] at hsb
 by_cases c3:T.conds[0]=zV
 case neg =>
  have c3':=c3
  rw[sH] at c3'
  rw[decide_eq_false c3',Bool.not_false] at hsb
  (repeat(first|refine aA (by simp (disch:=first|omega|exact nnN _|assumption) only [BB,B2,↓reduceIte,Nat.reduceLeDiff,Nat.reduceAdd,CC,l0,clen,hix0,hld0,hsb]<;>rfl) ?_|apply aD|apply aE|with_reducible first|apply aG|apply aF|apply aK|apply aH|apply aJ|apply aI|apply aL|apply aC))
  exact hno (by unfold gC; rw[decide_eq_true c1,decide_eq_true c2,hhd,decide_eq_false (fun e=>c3 (Option.some.inj e))]; rfl) _ (by omega)
 have c3':=c3
 rw[sH] at c3'
 rw[decide_eq_true c3',Bool.not_true] at hsb
 have hr3:decide (T.conds.head?=some zV)=true:=decide_eq_true (by rw[hhd,c3])
 by_cases c4:T.kinds.length≤64
 case neg =>
  (repeat(first|refine aA (by simp (disch:=first|omega|exact nnN _|assumption) only [BB,B2,↓reduceIte,Nat.reduceLeDiff,Nat.reduceAdd,CC,l0,l1,clen,klen,hix0,hld0,hsb]<;>rfl) ?_|apply aD|apply aE|with_reducible first|apply aG|apply aF|apply aK|apply aH|apply aJ|apply aI|apply aL|apply aC))
  exact hno (by unfold gC; rw[decide_eq_true c1,decide_eq_true c2,hr3,decide_eq_false c4]; rfl) _ (by omega)
 by_cases c5:T.to.length=T.kinds.length
 case neg =>
  (repeat(first|refine aA (by simp (disch:=first|omega|exact nnN _|assumption) only [BB,B2,↓reduceIte,Nat.reduceLeDiff,Nat.reduceAdd,CC,l0,l1,l2,clen,klen,tlen,hix0,hld0,hsb]<;>rfl) ?_|apply aD|apply aE|with_reducible first|apply aG|apply aF|apply aK|apply aH|apply aJ|apply aI|apply aL|apply aC))
  exact hno (by unfold gC; rw[decide_eq_true c1,decide_eq_true c2,hr3,decide_eq_true c4,decide_eq_false c5]; rfl) _ (by omega)
 by_cases c6:T.entries.length=2*T.conds.length
 case neg =>
  (repeat(first|refine aA (by simp (disch:=first|omega|exact nnN _|assumption) only [BB,B2,↓reduceIte,Nat.reduceLeDiff,Nat.reduceAdd,CC,l0,l1,l2,l3,clen,klen,tlen,elen,hix0,hld0,hsb]<;>rfl) ?_|apply aD|apply aE|with_reducible first|apply aG|apply aF|apply aK|apply aH|apply aJ|apply aI|apply aL|apply aC))
  exact hno (by unfold gC; rw[decide_eq_true c1,decide_eq_true c2,hr3,decide_eq_true c4,decide_eq_true c5,decide_eq_false c6]; rfl) _ (by omega)
 have hrt:gC T=(xQ [] T.conds&&((List.zip T.kinds T.to).all (fun x=>jZ T.conds.length x.1 x.2)&&T.entries.all (lV T.kinds.length))):=by
  unfold gC
  rw[decide_eq_true c1,decide_eq_true c2,hr3,decide_eq_true c4,decide_eq_true c5,decide_eq_true c6]; rfl
 (repeat(first|refine aA (by simp (disch:=first|omega|exact nnN _|assumption) only [BB,B2,↓reduceIte,Nat.reduceLeDiff,Nat.reduceAdd,CC,l0,l1,l2,l3,clen,klen,tlen,elen,hix0,hld0,hsb]<;>rfl) ?_|apply aD|apply aE|with_reducible first|apply aG|apply aF|apply aK|apply aH|apply aJ|apply aI|apply aL|apply aC))
 refine bA (fun j e h' nx'=>∃ (k:Nat),k+j=T.conds.length∧nx+1≤nx'∧h'=h1∧e 1=ptr nx∧e 3=.int .i64 k∧xQ [] T.conds=xQ (T.conds.take k) (T.conds.drop k)) ?_ (n:=T.conds.length)
  ⟨0,by omega,by omega,rfl,rfl,rfl,rfl⟩
 rintro j e h' nx' ⟨k,hj,hnx,rfl,e1,e3,hr⟩ Q' hq hx
 unfold zI
 rw[e1,e3]
 (repeat(first|refine aA (by simp (disch:=first|omega|exact nnN _|assumption) only [BB,B2,↓reduceIte,Nat.reduceLeDiff,Nat.reduceAdd,CC,l0,clen]<;>rfl) ?_|apply aD|apply aE|with_reducible first|apply aG|apply aF|apply aK|apply aH|apply aJ|apply aI|apply aL|apply aC))
 refine cY (fun hk=>?_) (fun hk=>?_)
 ·have hk:k < T.conds.length:=by omega
  have hix:=q1'.ix .i64 hk
  obtain⟨hld,hsz⟩:=aAL.load q1' hk
  rw[bX hk,aE2] at hr
  have htk:T.conds.take (k+1)=T.conds.take k++[T.conds[k]]:=List.take_succ_eq_append_getElem hk
  rw[← htk] at hr
  generalize hsk:T.conds[k]=s at hr hld hsz
  have hsz:s.size≤9223372036854775807:=hsz
  (repeat(first|refine aA (by simp (disch:=first|omega|exact nnN _|assumption) only [BB,B2,↓reduceIte,Nat.reduceLeDiff,Nat.reduceAdd,CC,l0,hix,hld]<;>rfl) ?_|apply aD|apply aE|with_reducible first|apply aG|apply aF|apply aK|apply aH|apply aJ|apply aI|apply aL|apply aC))
  refine aBo hsz fun n2 hn2=>?_
  cases hnm:kJ s with
  | false =>
   rw[hnm] at hr
   (repeat(first|refine zzB ?_|apply aD|apply aE|with_reducible first|apply aG|apply aF|apply aK|apply aH|apply aJ|apply aI|apply aL|apply aC))
   refine hx _ _ _ _ (fun e=>by cases e) (fB ?_)
   exact hno (by rw[hrt,hr]; rfl) _ (by omega)
  | true =>
   rw[hnm,Bool.true_and] at hr
   (repeat(first|refine zzB ?_|apply aD|apply aE|with_reducible first|apply aG|apply aF|apply aK|apply aH|apply aJ|apply aI|apply aL|apply aC))
   generalize hBq:(T.conds.take k).any (fun t=>decide (s=t))=Bq at hr
   refine bA (fun j3 e9 h3 nx3=>∃ (m:Nat),m+j3=k∧nx+1≤nx3∧h3=h'∧e9 1=ptr nx∧e9 3=.int .i64 k∧e9 4=.int .i64 m∧((T.conds.take k).drop m).any (fun t=>decide (s=t))=Bq) ?_ (n:=k)
    ⟨0,by omega,by omega,rfl,e1,e3,rfl,hBq⟩
   rintro j3 e9 h3 nx3 ⟨m,hj3,hnx3,rfl,f1,f3,f4,hr3⟩ Q3 hq3 hx3
   unfold zJ
   rw[f1,f3,f4]
   refine cY (fun hm=>?_) (fun hm=>?_)
   ·have hm:m < k:=by omega
    have hmc:m < T.conds.length:=by omega
    have hixm:=q1'.ix .i64 hmc
    obtain⟨hldm,_⟩:=aAL.load q1' hmc
    have hmt:m < (T.conds.take k).length:=by rw[List.length_take]; omega
    rw[bX hmt,List.any_cons,List.getElem_take] at hr3
    generalize T.conds[m]=t at hr3 hldm
    have hse:=aJ0 t s
    by_cases hts:s=t
    ·rw[decide_eq_true hts,Bool.true_or] at hr3
     rw[decide_eq_true hts.symm] at hse
     (repeat(first|refine aA (by simp (disch:=first|omega|exact nnN _|assumption) only [BB,B2,↓reduceIte,Nat.reduceLeDiff,Nat.reduceAdd,CC,l0,hix,hld,hixm,hldm,hse]<;>rfl) ?_|apply aD|apply aE|with_reducible first|apply aG|apply aF|apply aK|apply aH|apply aJ|apply aI|apply aL|apply aC))
     refine hx3 _ _ _ _ (fun e=>by cases e) (fB ?_)
     refine hx _ _ _ _ (fun e=>by cases e) (fB ?_)
     exact hno (by rw[hrt,hr,← hr3]; rfl) _ (by omega)
    ·rw[decide_eq_false hts,Bool.false_or] at hr3
     rw[decide_eq_false (fun e=>hts e.symm)] at hse
     (repeat(first|refine aA (by simp (disch:=first|omega|exact nnN _|assumption) only [BB,B2,↓reduceIte,Nat.reduceLeDiff,Nat.reduceAdd,CC,l0,hix,hld,hixm,hldm,hse]<;>rfl) ?_|apply aD|apply aE|with_reducible first|apply aG|apply aF|apply aK|apply aH|apply aJ|apply aI|apply aL|apply aC))
     exact hq3 (j3 - 1) _ _ _ _ (by omega) ⟨m+1,by omega,by omega,rfl,f1,f3,rfl,hr3⟩ (Sub.refl _)
   ·have hb:Bq=false:=by rw[← hr3,List.drop_of_length_le (by rw[List.length_take]; omega)]; rfl
    rw[hb,Bool.not_false,Bool.true_and] at hr
    (repeat(first|refine zzB ?_|apply aD|apply aE|with_reducible first|apply aG|apply aF|apply aK|apply aH|apply aJ|apply aI|apply aL|apply aC))
    refine hx3 _ _ _ _ (fun e=>by cases e) (d5 (cR ?_))
    have hj4:∀ (e9:Env) n9,nx+1≤n9→e9 1=ptr nx→e9 3=.int .i64 k→mE ro Q' e9 h3 n9:=by
     intro e9 n9 hn9 f1 f3
     unfold mE
     rw[f3]
     (repeat(first|refine zzB ?_|apply aD|apply aE|with_reducible first|apply aG|apply aF|apply aK|apply aH|apply aJ|apply aI|apply aL|apply aC))
     exact hq (j - 1) _ _ _ _ (by omega) ⟨k+1,by omega,by omega,rfl,f1,rfl,hr⟩ (Sub.refl _)
    exact hj4 _ _ (by omega) f1 f3
 ·have hr1:xQ [] T.conds=true:=by rw[hr,List.drop_of_length_le (by omega)]; rfl
  rw[hr1,Bool.true_and] at hrt
  (repeat(first|refine zzB ?_|apply aD|apply aE|with_reducible first|apply aG|apply aF|apply aK|apply aH|apply aJ|apply aI|apply aL|apply aC))
  refine hx _ _ _ _ (fun e=>by cases e) (d5 (cR ?_))
  have hj1:∀ (ev1:Env) n',nx+1≤n'→ev1 1=ptr nx→oZ ro K ev1 h' n':=by
   intro ev1 n' hn f1
   unfold oZ
   refine bA (fun j e h2 nx2=>∃ (k:Nat),k+j=T.kinds.length∧nx+1≤nx2∧h2=h'∧e 1=ptr nx∧e 5=.int .i64 k∧(List.zip T.kinds T.to).all (fun x=>jZ T.conds.length x.1 x.2)=((List.zip T.kinds T.to).drop k).all (fun x=>jZ T.conds.length x.1 x.2)) ?_ (n:=T.kinds.length)
    ⟨0,by omega,by omega,rfl,f1,rfl,rfl⟩
   rintro j2 e2 h2 nx2 ⟨k2,hj2,hnx2,rfl,f1,f5,hr2⟩ Q2 hq2 hx2
   unfold zH
   rw[f1,f5]
   (repeat(first|refine aA (by simp (disch:=first|omega|exact nnN _|assumption) only [BB,B2,↓reduceIte,Nat.reduceLeDiff,Nat.reduceAdd,CC,l1,klen]<;>rfl) ?_|apply aD|apply aE|with_reducible first|apply aG|apply aF|apply aK|apply aH|apply aJ|apply aI|apply aL|apply aC))
   refine cY (fun hk2=>?_) (fun hk2=>?_)
   ·have hk2:k2 < T.kinds.length:=by omega
    have hkt:k2 < T.to.length:=by omega
    have hix:=q2'.ix .i64 hk2
    obtain⟨hld,hsz⟩:=aAL.load q2' hk2
    have tix:=q3'.ix .i64 (i:=k2) (by rw[eX]; exact hkt)
    have tld:=q3'.load1 (kH (l:=T.to) (i:=k2) hkt)
    have hzl:k2 < (List.zip T.kinds T.to).length:=by rw[List.length_zip]; omega
    rw[bX hzl,List.all_cons,List.getElem_zip] at hr2
    generalize T.kinds[k2]=s at hr2 hld hsz
    generalize T.to[k2]=t at hr2 tld
    have hsz:s.size≤9223372036854775807:=hsz
    have hse:=zX s .empty
    rw[sD] at hse
    have hbad:jZ T.conds.length s t=false→∀ n',nx≤n'→∃ h9,Sub h9 h2∧K (.bool false) h9 n':=fun hz n' hn=>hno (by rw[hrt,hr2,hz]; rfl) n' hn
    have hgo:jZ T.conds.length s t=true→∀ (e9:Env) n9,nx+1≤n9→e9 1=ptr nx→e9 5=.int .i64 ((k2:Int)+1)→Q2 .normal e9 h2 n9:=by
     intro hz e9 n9 hn9 u1 u72
     rw[hz,Bool.true_and] at hr2
     exact hq2 (j2 - 1) _ _ _ _ (by omega) ⟨k2+1,by omega,by omega,rfl,u1,u72,hr2⟩ (Sub.refl _)
    by_cases hs0:s=.empty
    ·have hs0':=hs0
     rw[sD] at hs0'
     rw[decide_eq_true hs0',Bool.not_true] at hse
     (repeat(first|refine aA (by simp (disch:=first|omega|exact nnN _|assumption) only [BB,B2,↓reduceIte,Nat.reduceLeDiff,Nat.reduceAdd,CC,l1,hix,hld,hse]<;>rfl) ?_|apply aD|apply aE|with_reducible first|apply aG|apply aF|apply aK|apply aH|apply aJ|apply aI|apply aL|apply aC))
     by_cases d1:t < -1
     ·(repeat(first|refine aA (by simp (disch:=first|omega|exact nnN _|assumption) only [BB,B2,↓reduceIte,Nat.reduceLeDiff,Nat.reduceAdd,CC,l2,tix,tld]<;>rfl) ?_|apply aD|apply aE|with_reducible first|apply aG|apply aF|apply aK|apply aH|apply aJ|apply aI|apply aL|apply aC))
      refine hx2 _ _ _ _ (fun e=>by cases e) (fB ?_)
      exact hbad (by unfold jZ; rw[decide_eq_false (show ¬-1≤t by omega)]; simp) _ (by omega)
     ·by_cases d2:(T.conds.length:Int)≤t
      ·(repeat(first|refine aA (by simp (disch:=first|omega|exact nnN _|assumption) only [BB,B2,↓reduceIte,Nat.reduceLeDiff,Nat.reduceAdd,CC,l2,tix,tld,l0,clen]<;>rfl) ?_|apply aD|apply aE|with_reducible first|apply aG|apply aF|apply aK|apply aH|apply aJ|apply aI|apply aL|apply aC))
       refine hx2 _ _ _ _ (fun e=>by cases e) (fB ?_)
       exact hbad (by unfold jZ; rw[decide_eq_false (show ¬t < (T.conds.length:Int) by omega)]; simp) _ (by omega)
      ·(repeat(first|refine aA (by simp (disch:=first|omega|exact nnN _|assumption) only [BB,B2,↓reduceIte,Nat.reduceLeDiff,Nat.reduceAdd,CC,l2,tix,tld,l0,clen]<;>rfl) ?_|apply aD|apply aE|with_reducible first|apply aG|apply aF|apply aK|apply aH|apply aJ|apply aI|apply aL|apply aC))
       exact hgo (by unfold jZ; rw[decide_eq_true hs0,decide_eq_true (show -1≤t by omega),decide_eq_true (show t < (T.conds.length:Int) by omega)]; simp) _ _ (by omega) f1 rfl
    ·have hs0':=hs0
     rw[sD] at hs0'
     rw[decide_eq_false hs0',Bool.not_false] at hse
     (repeat(first|refine aA (by simp (disch:=first|omega|exact nnN _|assumption) only [BB,B2,↓reduceIte,Nat.reduceLeDiff,Nat.reduceAdd,CC,l1,hix,hld,hse]<;>rfl) ?_|apply aD|apply aE|with_reducible first|apply aG|apply aF|apply aK|apply aH|apply aJ|apply aI|apply aL|apply aC))
     refine aBo hsz fun n2 hn2=>?_
     cases hnm:kJ s with
     | false =>
      (repeat(first|refine zzB ?_|apply aD|apply aE|with_reducible first|apply aG|apply aF|apply aK|apply aH|apply aJ|apply aI|apply aL|apply aC))
      refine hx2 _ _ _ _ (fun e=>by cases e) (fB ?_)
      exact hbad (by unfold jZ; rw[decide_eq_false hs0,hnm]; rfl) _ (by omega)
     | true =>
      (repeat(first|refine zzB ?_|apply aD|apply aE|with_reducible first|apply aG|apply aF|apply aK|apply aH|apply aJ|apply aI|apply aL|apply aC))
      by_cases d1:t < -1
      ·(repeat(first|refine aA (by simp (disch:=first|omega|exact nnN _|assumption) only [BB,B2,↓reduceIte,Nat.reduceLeDiff,Nat.reduceAdd,CC,l2,tix,tld]<;>rfl) ?_|apply aD|apply aE|with_reducible first|apply aG|apply aF|apply aK|apply aH|apply aJ|apply aI|apply aL|apply aC))
       refine hx2 _ _ _ _ (fun e=>by cases e) (fB ?_)
       exact hbad (by unfold jZ; rw[decide_eq_false (show ¬-1≤t by omega)]; simp) _ (by omega)
      ·by_cases d2:(T.conds.length:Int)≤t
       ·(repeat(first|refine aA (by simp (disch:=first|omega|exact nnN _|assumption) only [BB,B2,↓reduceIte,Nat.reduceLeDiff,Nat.reduceAdd,CC,l2,tix,tld,l0,clen]<;>rfl) ?_|apply aD|apply aE|with_reducible first|apply aG|apply aF|apply aK|apply aH|apply aJ|apply aI|apply aL|apply aC))
        refine hx2 _ _ _ _ (fun e=>by cases e) (fB ?_)
        exact hbad (by unfold jZ; rw[decide_eq_false (show ¬t < (T.conds.length:Int) by omega)]; simp) _ (by omega)
       ·(repeat(first|refine aA (by simp (disch:=first|omega|exact nnN _|assumption) only [BB,B2,↓reduceIte,Nat.reduceLeDiff,Nat.reduceAdd,CC,l2,tix,tld,l0,clen]<;>rfl) ?_|apply aD|apply aE|with_reducible first|apply aG|apply aF|apply aK|apply aH|apply aJ|apply aI|apply aL|apply aC))
        exact hgo (by unfold jZ; rw[hnm,decide_eq_true (show -1≤t by omega),decide_eq_true (show t < (T.conds.length:Int) by omega)]; simp) _ _ (by omega) f1 rfl
   ·have hall:(List.zip T.kinds T.to).all (fun x=>jZ T.conds.length x.1 x.2)=true:=by rw[hr2,List.drop_of_length_le (by rw[List.length_zip]; omega)]; rfl
    rw[hall,Bool.true_and] at hrt
    (repeat(first|refine zzB ?_|apply aD|apply aE|with_reducible first|apply aG|apply aF|apply aK|apply aH|apply aJ|apply aI|apply aL|apply aC))
    refine hx2 _ _ _ _ (fun e=>by cases e) (d5 (cR ?_))
    have hj2:∀ (ev2:Env) n',nx+1≤n'→ev2 1=ptr nx→o5 ro K ev2 h2 n':=by
     intro ev2 n' hn f1
     unfold o5
     refine bA (fun j e h4 nx4=>∃ (k:Nat),k+j=T.entries.length∧nx+1≤nx4∧h4=h2∧e 1=ptr nx∧e 6=.int .i64 k∧T.entries.all (lV T.kinds.length)=(T.entries.drop k).all (lV T.kinds.length)) ?_ (n:=T.entries.length)
      ⟨0,by omega,by omega,rfl,f1,rfl,rfl⟩
     rintro j4 e4 h4 nx4 ⟨k4,hj4,hnx4,rfl,f1,f6,hr4⟩ Q4 hq4 hx4
     unfold zG
     rw[f1,f6]
     (repeat(first|refine zzB ?_|apply aD|apply aE|with_reducible first|apply aG|apply aF|apply aK|apply aH|apply aJ|apply aI|apply aL|apply aC))
     refine aA l3 (aA elen ?_)
     refine cY (fun hk4=>?_) (fun hk4=>?_)
     ·have hk4:k4 < T.entries.length:=by omega
      have eix:=q4'.ix .i64 hk4
      obtain⟨y,hy1,hy2,hy3,hy4,hy5⟩:=q4'.at hk4
      rw[bX hk4,List.all_cons] at hr4
      generalize T.entries[k4]=ee at hr4 hy1
      (repeat(first|refine aA (by simp (disch:=first|omega|exact nnN _|assumption) only [BB,B2,↓reduceIte,Nat.reduceLeDiff,Nat.reduceAdd,CC,l3,eix,hy3,l1,klen]<;>rfl) ?_|apply aD|apply aE|with_reducible first|apply aG|apply aF|apply aK|apply aH|apply aJ|apply aI|apply aL|apply aC))
      refine aHV (by omega) (hf1.mono (by omega)) hy1 fun n5 hn5=>?_
      cases hft:lV T.kinds.length ee with
      | false =>
       rw[hft] at hr4
       (repeat(first|refine zzB ?_|apply aD|apply aE|with_reducible first|apply aG|apply aF|apply aK|apply aH|apply aJ|apply aI|apply aL|apply aC))
       refine hx4 _ _ _ _ (fun e=>by cases e) (fB ?_)
       exact hno (by rw[hrt,hr4]; rfl) _ (by omega)
      | true =>
       rw[hft,Bool.true_and] at hr4
       (repeat(first|refine zzB ?_|apply aD|apply aE|with_reducible first|apply aG|apply aF|apply aK|apply aH|apply aJ|apply aI|apply aL|apply aC))
       exact hq4 (j4 - 1) _ _ _ _ (by omega) ⟨k4+1,by omega,by omega,rfl,f1,rfl,hr4⟩ (Sub.refl _)
     ·have hb:gC T=true:=by rw[hrt,hr4,List.drop_of_length_le (by omega)]; rfl
      (repeat(first|refine zzB ?_|apply aD|apply aE|with_reducible first|apply aG|apply aF|apply aK|apply aH|apply aJ|apply aI|apply aL|apply aC))
      refine hx4 _ _ _ _ (fun e=>by cases e) (d5 (cR ?_))
      have hj3:∀ (e9:Env) n9,nx≤n9→o6 ro K e9 h4 n9:=by
       intro e9 n9 hn9
       unfold o6
       refine⟨h,hs1,?_⟩
       rw[← hb]; exact hK _ (by omega)
      exact hj3 _ _ (by omega)
    exact hj2 _ _ (by omega) f1
  exact hj1 _ _ (by omega) e1
end
end V
end Go.Proofs.YtcaccnneblghgaaGreat
namespace Go.Proofs.YtcaccnneblghgaaGreat
namespace V
attribute [local irreducible] aB ifP aQ cV eS exP cP
def NI (RR:RgP) (tm tp te:TypeId) (hC:T Obj) (nC p:Nat) (c:List Nat) (many:Int) (cv sv:Value) (C:List (Int × Int)) (k:Nat) (h:T Obj) (nx:Nat) (ps:List (Nat × Nat)) (rv:Value):Prop :=
 h.get p=some (.cells (eD c many cv sv 0 rv 0).toArray tm)∧dK h rv 1 te (nI ps) nC∧ps.length=k∧RsX RR h ps (C.take k) (List.replicate k noR)∧Dst ps∧(∀ q∈kE ps,nC≤q)∧Sub hC h∧Fr h nx∧Fr hC nC∧nC≤p∧nC≤nx
section
variable {RR:RgP}{tm tp ta te:TypeId}{ro:Ro}{hC h h':T Obj}{nC p nx n1 n2 k:Nat}{c:List Nat}{many:Int}{cv sv rv:Value}{C:List (Int × Int)}{ps:List (Nat × Nat)}
theorem NI.mono {n':Nat} (hi:NI RR tm tp te hC nC p c many cv sv C k h nx ps rv) (hn:nx≤n'):NI RR tm tp te hC nC p c many cv sv C k h n' ps rv:=by
 obtain⟨g1,g2,g3,g4,g5,g6,g7,g8,g9,g10,g11⟩:=hi
 exact⟨g1,g2,g3,g4,g5,g6,g7,g8.mono hn,g9,g10,by omega⟩
theorem NI.sub {n':Nat} (hk:RgOk RR tp ta) (hi:NI RR tm tp te hC nC p c many cv sv C k h nx ps rv) (hs:Sub h h') (hf:Fr h' n') (hn:nx≤n'):NI RR tm tp te hC nC p c many cv sv C k h' n' ps rv:=by
 obtain⟨g1,g2,g3,g4,g5,g6,g7,g8,g9,g10,g11⟩:=hi
 exact⟨hs _ _ g1,g2.keepS hs,g3,g4.sub hk hs,g5,g6,g7.trans hs,hf,g9,g10,by omega⟩
theorem NI.step {q:Nat × Nat}{cc:Int × Int}{rv2:Value}{lo:Nat} (hk:RgOk RR tp ta) (e1:tp≠te) (e2:ta≠te) (e3:tm≠tp) (e4:tm≠ta) (e5:tm≠te) (hi:NI RR tm tp te hC nC p c many cv sv C k h nx ps rv) (hcl:c.length=256) (hc:C[k]?=some cc) (hR:RR h q.1 q.2 cc.2.toNat [] 0) (hq1:∀ r∈ps,r.1 < q.1∧r.2 < q.2) (hq2:nC≤q.1∧nC≤q.2) (hn1:n1≠p∧(∀ r∈ps++[q],r.1≠n1∧r.2≠n1)∧nC≤n1)
  (ho:dK h' rv2 1 te (nI ps++[[ptr q.1]]) nC) (hsb:jC rv2=some n2) (hn2:nx≤n2) (hg:∀ k o,h.get k=some o→k≠n1→jC rv≠some k→h'.get k=some o) (hf:Fr h' (n2+1)) :
  NI RR tm tp te hC nC p c many cv sv C (k+1) (h'.upd p (some (.cells (eD c many cv sv 0 rv2 0).toArray tm))) (n2+1) (ps++[q]) rv2:=by
 obtain⟨g1,g2,g3,g4,g5,g6,g7,g8,g9,g10,g11⟩:=hi
 have hp:=g8.lt' g1
 have hr:=g4.snoc hR (r:=noR)
 have hgk:∀ {k:Nat} {cs:Array Value} {e:TypeId},h.get k=some (.cells cs e)→e≠te→k≠n1→h'.get k=some (.cells cs e):=fun hk9 he hne=>hg _ _ hk9 hne (g2.ne hk9 he)
 have hgp:h'.get p=some (.cells (eD c many cv sv 0 rv 0).toArray tm):=hgk g1 e5 (Ne.symm hn1.1)
 have hty:=hr.ty hk
 refine⟨T.get_upd_same _ _ _,?_,by simp[g3],?_,g5.snoc fun r hr=>?_,fun k hk=>?_,fun k o hk=>?_,hf.upd (Nat.le_refl _) (by omega),g9,g10,by omega⟩
 ·rw[aKL]
  exact ho.keepK (ids:=[p]) (fun k o hk hn=>by rw[T.get_upd_ne _ _ (by simpa using hn)]; exact hk) fun id hid hm=>by rw[hsb] at hid; cases hid; simp at hm; omega
 ·rw[List.take_succ_eq_append_getElem (List.getElem?_eq_some_iff.1 hc).1,(List.getElem?_eq_some_iff.1 hc).2,List.replicate_succ']
  refine hr.keep hk fun r hr9=>?_
  obtain⟨⟨c1,t1⟩,c2,t2⟩:=hty r hr9
  rw[T.get_upd_ne _ _ (fun e=>by rw[e,g1] at t1; simp only[Option.some.injEq,Obj.cells.injEq] at t1; exact e3 t1.2.1),T.get_upd_ne _ _ (fun e=>by rw[e,g1] at t2; simp only[Option.some.injEq,Obj.cells.injEq] at t2; exact e4 t2.2.1),hgk t1 e1 (hn1.2.1 r hr9).1,hgk t2 e2 (hn1.2.1 r hr9).2,t1,t2]
  exact⟨rfl,rfl⟩
 ·have:=hq1 r hr; omega
 ·obtain⟨r,hr,h9⟩:=iW.1 hk
  rcases List.mem_append.1 hr with hr | hr
  ·exact g6 k (iW.2 ⟨r,hr,h9⟩)
  ·simp at hr; subst hr; omega
 ·have hlt:=g9.lt' hk
  have h9:=g7 k o hk
  rw[T.get_upd_ne _ _ (by omega)]
  refine hg k o h9 (by have:=hn1.2.2; omega) fun e=>?_
  have:=(g2.blk e).1
  omega
theorem NI.fin {d:AutoD} (hk:RgOk RR tp ta) (e1:tp≠te) (e2:ta≠te) (e5:tm≠te) {X0:List Nat} (hX0:∀ k∈X0,k < nC) (hi:NI RR tm tp te hC nC p d.c d.many cv sv d.counts d.counts.length h nx ps rv) (hA:rE ro (del hC X0) (eA d.c d.many cv sv) d):MX RR tm ro h (X0++(p::kE ps)) p ps d (aE0 d):=by
 obtain⟨g1,g2,g3,g4,g5,g6,g7,g8,g9,g10,g11⟩:=hi
 have hX:∀ k∈p::kE ps,nC≤k:=fun k hk=>by
  rcases List.mem_cons.1 hk with rfl | hk
  ·exact g10
  ·exact g6 k hk
 have hrs:(aE0 d).rs=List.replicate d.counts.length noR:=List.map_const' ..
 rw[List.take_length] at g4
 have hsub:Sub (del hC X0) (del h (X0++(p::kE ps))):=fun k o hk=>by
  rw[j6] at hk
  split at hk
  ·cases hk
  ·rename_i hn
   have:=g9.lt' hk
   exact jH (g7 k o hk) fun hm=>by
    rcases List.mem_append.1 hm with hm | hm
    ·exact hn hm
    ·have:=hX k hm; omega
 refine⟨cv,sv,rv,g1,hA.sub hsub,(g2.del fun id hid hm=>?_).sl,by rw[hrs]; exact g4,g5,List.mem_append.2 (.inr (List.mem_cons_self ..)),fun k hk=>List.mem_append.2 (.inr (List.mem_cons_of_mem _ hk))⟩
 rcases List.mem_append.1 hm with hm | hm
 ·have:=hX0 id hm; have:=(g2.blk hid).1; omega
 rcases List.mem_cons.1 hm with rfl | hm
 ·exact g2.ne g1 e5 hid
 ·obtain⟨r,hr,h9⟩:=iW.1 hm
  obtain⟨⟨c1,t1⟩,c2,t2⟩:=g4.ty hk r hr
  rcases h9 with rfl | rfl
  ·exact g2.ne t1 e1 hid
  ·exact g2.ne t2 e2 hid
end
section
variable {ro:Ro}{h:T Obj}{nx:Nat}{K:KV}{x:List Value}{d:AutoD}
theorem aJh (ha:fN d=true) {k:Nat} (hk:k < d.counts.length):1≤(d.counts[k]).2.toNat∧(d.counts[k]).2.toNat≤4096∧((d.counts[k]).2.toNat:Int)=(d.counts[k]).2:=by
 have:=(fJ ha).2.2.2.2.1 _ (List.getElem_mem hk)
 omega
set_option maxRecDepth 8000 in
set_option maxHeartbeats 1000000 in
theorem aJo {X0:List Nat} (hf:Fr h nx) (hd:rE ro h x d) (hK0:fN d=false→∀ nx',nx≤nx'→K (.tuple #[.pointer none,.int .i64 1]) h nx')
  (hX0:∀ k∈X0,k < nx)
  (hK1:fN d=true→∀ p ps X h' nx',nx≤nx'→Fr h' nx'→Sub h h'→(∀ k∈X,nx≤k∧k < nx')→X=p::kE ps→MI ro h' (X0++X) p ps (er d) (aE0 d)→K (.tuple #[ptr p,.int .i64 0]) h' nx'):aN Tryz.prog ro aAw [.agg x.toArray] h nx K:=by
 obtain⟨cv,sv,hxe,hc,hclt,hcv,hS,hb1,hb2⟩:=id hd
 have m7:=lP (n:=d.many) (cv:=cv) (sv:=sv) hc
 apply aII
 unfold aIH
 refine eJ hf (Nat.le_refl _) fun h1 hs1 hf1 g1 _=>?_
 have g1:h1.get nx=some (.cells x.toArray bI):=g1
 have hxl:x.length=259:=by rw[hxe]; exact cW hc
 have LA:=dL (ro:=ro) (z:=0) (n:=259) (l:=x) g1 hxl
 refine aA LA ?_
 refine aBQ (hf1.mono (by omega)) (hd.sub hs1) fun n1 hn1=>?_
 cases hok:fN d with
 | false =>
  (repeat(first|refine zzB ?_|apply aD|apply aE|with_reducible first|apply aG|apply aF|apply aK|apply aH|apply aJ|apply aI|apply aL|apply aC))
  exact⟨h,hs1,hK0 hok _ (by omega)⟩
 | true =>
  have hfit:=aQS hok hc
  have hC512:=(fJ hok).2.1
  (repeat(first|refine zzB ?_|apply aD|apply aE|with_reducible first|apply aG|apply aF|apply aK|apply aH|apply aJ|apply aI|apply aL|apply aC))
  refine aA LA ?_
  refine aFX (X0:=X0) (hf1.mono (by omega)) (fun k hk=>by have:=hX0 k hk; omega) (hd.sub hs1) hfit fun cv2 sv2 hC nC hnC hfC hsC hAC=>?_
  refine aA (aJa hc) (aHG hfC (by omega) fun h2 hs2 hf2 g2 _=>?_)
  have g2:h2.get (nC+1)=some (.cells (eD d.c d.many cv2 sv2 0 dG 0).toArray bH):=g2
  have g12:=hs2 _ _ (hsC _ _ g1)
  have hcv2:=hcv.sub ((hs1.trans hsC).trans hs2) fun _ _ h=>h
  (repeat(first|refine zzB ?_|apply aD|apply aE|with_reducible first|apply aG|apply aF|apply aK|apply aH|apply aJ|apply aI|apply aL|apply aC))
  refine aA (aZ g12 (by rw[hxe]; exact m7)) ?_
  refine aA hcv2.len ?_
  have hNI0:NI RI bH bM lF hC nC (nC+1) d.c d.many cv2 sv2 d.counts 0 h2 (nC+2) [] dG:=⟨g2,dK.nil,rfl,⟨rfl,rfl,fun i p c r hp=>by simp at hp⟩,Dst.nil,(fun q hq=>by simp[kE] at hq),hs2,hf2,hfC,by omega,by omega⟩
  refine bA (fun j e h' nx'=>∃ (k:Nat) (ps:List (Nat × Nat)) (rv:Value),k+j=d.counts.length∧nC+2≤nx'∧e 4=ptr (nC+1)∧e 17=cv∧e 18=.int .i64 d.counts.length∧e 19=.int .i64 k∧NI RI bH bM lF hC nC (nC+1) d.c d.many cv2 sv2 d.counts k h' nx' ps rv) ?_ (n:=d.counts.length) ⟨0,[],dG,by omega,by omega,rfl,rfl,rfl,rfl,hNI0.mono (by omega)⟩
  rintro j e h' nx' ⟨k,ps,rv,hj,hnx,e4,e17,e18,e19,hi⟩ Q' hq hx
  have hfh:=hi.2.2.2.2.2.2.2.1
  have hsh:=hi.2.2.2.2.2.2.1
  unfold aCh
  rw[e4,e17,e18,e19]
  refine cY (fun hk=>?_) (fun hk=>?_)
  ·have hk:k < d.counts.length:=by omega
   obtain⟨b1,b2,b3⟩:=aJh hok hk
   have hcvh:=hcv.sub ((hs1.trans hsC).trans hsh) fun _ _ h=>h
   have hix:=hcvh.ix .i64 hk
   obtain⟨y,hy1,hy2,hy3,hy4,hy5⟩:=hcvh.at hk
   have hck:d.counts[k]?=some d.counts[k]:=List.getElem?_eq_getElem _
   generalize d.counts[k]=cc at b1 b2 b3 hy1 hck
   obtain rfl:y=[.int .i64 cc.1,.int .i64 cc.2]:=hy1
   (repeat(first|refine zzB ?_|apply aD|apply aE|with_reducible first|apply aG|apply aF|apply aK|apply aH|apply aJ|apply aI|apply aL|apply aC))
   refine aA hix (aA hy3 ?_)
   refine kI (x:=[.int .i64 cc.1,.int .i64 cc.2]) aH9 rfl rfl rfl rfl hfh (by omega) fun h3 hs3 hf3 g3 _=>?_
   (repeat(first|refine aA (by simp (disch:=first|omega|exact nnN _|assumption) only [BB,B2,↓reduceIte,Nat.reduceLeDiff,Nat.reduceAdd,CC,g3]<;>rfl) ?_|apply aD|apply aE|with_reducible first|apply aG|apply aF|apply aK|apply aH|apply aJ|apply aI|apply aL|apply aC))
   rw[← b3]
   refine aKT (hf3.mono (by omega)) b1 b2 fun p' a' h4 n4 hp' ha' hn4 hs4 hf4 hR4=>?_
   refine aA (aIf _ _) (aA (aIg _ _) ?_)
   have hi4:=hi.sub (n':=n4) jY (hs3.trans hs4) hf4 (by omega)
   have m0:=sG (n:=d.many) (cv:=cv2) (sv:=sv2) (cur:=0) (rv:=rv) (steps:=0) hc
   refine aA2 rfl ?_
   (repeat(first|refine aA (by simp (disch:=first|omega|exact nnN _|assumption) only [BB,B2,↓reduceIte,Nat.reduceLeDiff,Nat.reduceAdd,CC,a9]<;>rfl) ?_|apply aD|apply aE|with_reducible first|apply aG|apply aF|apply aK|apply aH|apply aJ|apply aI|apply aL|apply aC))
   refine aA (aZ hi4.1 m0) ?_
   obtain⟨i,t1,t2,t3⟩:=aQ7
   have hplen:ps.length≤1000000:=by have:=hi.2.2.1; omega
   refine wJ (z:=1) (l:=nI ps) (y:=[ptr p']) (aQJ _ _) rfl hi4.2.1 aPZ t1 (by omega) (by omega) aQb rfl rfl (by rw[mQ,t3]; unfold big; omega) (by rw[mQ]; unfold big; omega) (hf4.mono (by omega)) (by omega) (by omega) (fun e=>by have:=hf4.lt' (hi4.2.1.blk e).2; omega) fun h5 ho5 hk5 hf5=>?_
   generalize hnv:Value.slice (some (own (n4+15) 1)) (nI ps++[[ptr p']]).length (nI ps++[[ptr p']]).length=rv2 at ho5
   have hsb:jC rv2=some (n4+15):=by rw[← hnv]; rfl
   have g5:=hk5 _ _ hi4.1 (by have:=hf4.lt' hi4.1; omega) (hi4.2.1.ne hi4.1 (by decide))
   have hlt4:=hi.2.2.2.1.lt jY hfh
   have hfin:=hi4.step (h':=h5) (q:=(p',a')) (cc:=cc) (rv2:=rv2) (n1:=n4+13) (n2:=n4+15) (lo:=nC) jY (by decide) (by decide) (by decide) (by decide) (by decide) hc hck hR4 (fun r hr=>by have:=hlt4 r hr; show r.1 < p'∧r.2 < a'; omega) (by show nC≤p'∧nC≤a'; omega) ⟨by have:=hf4.lt' hi4.1; omega,fun r hr=>by
    rcases List.mem_append.1 hr with hr | hr
    ·have:=hlt4 r hr; omega
    ·simp at hr; subst hr; have:=jY.p hR4; have:=jY.a hR4; obtain⟨c1,t8⟩:=jY.p hR4; obtain⟨c2,t9⟩:=jY.a hR4; have:=hf4.lt' t8; have:=hf4.lt' t9; show p'≠_∧a'≠_; omega,by omega⟩ ho5 hsb (by omega) hk5 hf5
   dsimp only
   (repeat(first|refine aA (by simp (disch:=first|omega|exact nnN _|assumption) only [BB,B2,↓reduceIte,Nat.reduceLeDiff,Nat.reduceAdd,CC,a9]<;>rfl) ?_|apply aD|apply aE|with_reducible first|apply aG|apply aF|apply aK|apply aH|apply aJ|apply aI|apply aL|apply aC))
   refine aA (dM g5 (by rw[vZ hc]; omega) ho5.ok (by rw[← hnv]; rfl)) ?_
   rw[aHA hc]
   (repeat(first|refine zzB ?_|apply aD|apply aE|with_reducible first|apply aG|apply aF|apply aK|apply aH|apply aJ|apply aI|apply aL|apply aC))
   exact hq (j - 1) _ _ _ _ (by omega) ⟨k+1,ps++[(p',a')],rv2,by omega,by omega,e4,e17,e18,rfl,hfin.mono (by omega)⟩ (Sub.refl _)
  ·(repeat(first|refine zzB ?_|apply aD|apply aE|with_reducible first|apply aG|apply aF|apply aK|apply aH|apply aJ|apply aI|apply aL|apply aC))
   refine hx _ _ _ _ (fun e=>by cases e) (d5 (cR ?_))
   obtain rfl:k=d.counts.length:=by omega
   have hMX:=NI.fin (ro:=ro) (d:=er d) (X0:=X0) jY (by decide) (by decide) (by decide) (fun k hk=>by have:=hX0 k hk; omega) hi hAC
   have hend:∀ (e':Env) n',e' 4=ptr (nC+1)→nx'≤n'→uA ro K e' h' n':=by
    intro e' n' f4 hn'
    unfold uA
    rw[f4]
    refine⟨h',Sub.refl _,hK1 hok _ ps _ h' _ (by omega) (hfh.mono (by omega)) ((hs1.trans hsC).trans hsh) (fun k hk=>?_) rfl hMX⟩
    have hlt9:=hMX.lt jY hfh
    rcases List.mem_cons.1 hk with rfl | hk
    ·have:=hlt9.1; omega
    ·have:=hi.2.2.2.2.2.1 k hk; have:=hlt9.2 k hk; omega
   exact hend _ _ e4 (by omega)
end
end V
end Go.Proofs.YtcaccnneblghgaaGreat
namespace Go.Proofs.YtcaccnneblghgaaGreat
namespace V
attribute [local irreducible] aB ifP aQ cV eS exP cP
theorem aNV (id:Nat):bQ Tryz.prog jX id 0 []=some (.slice (some (own id 1)) 0 0,some (.cells #[] pF)):=by kernel_rfl
theorem aOM:und Tryz.prog jX=some (.slice pF):=by kernel_rfl
theorem aPU:∃ i,tin Tryz.prog pF=some i∧i.size=1∧i.bytes=16:=xT (by kernel_rfl)
theorem aP9:zer Tryz.prog pF=some (.string .empty):=by kernel_rfl
theorem aMW:und Tryz.prog i3=some (.slice iQ):=by kernel_rfl
theorem aOB:∃ i,tin Tryz.prog iQ=some i∧i.size=1∧i.bytes=8:=xT (by kernel_rfl)
theorem aOS:zer Tryz.prog iQ=some (.pointer none):=by kernel_rfl
theorem aNW (id p:Nat):bQ Tryz.prog i3 id 1 [(0,ptr p)]=some (.slice (some (own id 1)) 1 1,some (.cells [ptr p].toArray iQ)):=by kernel_rfl
theorem aOK:und Tryz.prog iM=some (.slice cS):=by kernel_rfl
theorem aPS:∃ i,tin Tryz.prog cS=some i∧i.size=260∧i.bytes=336:=xT (by kernel_rfl)
theorem aL2 (o:Option Addr) (l c:Nat):fO Tryz.prog cS [(1,.slice o l c)]=some (.agg (wL++[Value.slice o l c]).toArray):=by kernel_rfl
theorem aOl (id:Nat) (o:Option Addr) (l c:Nat):bQ Tryz.prog iM id 1 [(0,.agg (wL++[Value.slice o l c]).toArray)]=some (.slice (some (own id 260)) 1 1,some (.cells (wL++[Value.slice o l c]).toArray cS)):=by kernel_rfl
theorem aCE:fO Tryz.prog kP [(2,.int .i64 (-1))]=some (.agg #[.int .i64 0,.int .i64 0,.int .i64 (-1)]):=by kernel_rfl
theorem aJb (m:Int):fO Tryz.prog aR [(2,.int .i64 m),(5,.bool true),(7,.agg #[.int .i64 0,.int .i64 0,.int .i64 (-1)])]=some (.agg #[dG,dG,dG,dG,dG,.int .i64 m,dG,.int .i64 0,.bool true,.int .i64 0,.int .i64 0,.int .i64 0,.int .i64 (-1),.int .i64 0,.bool false,.int .i64 0]):=by kernel_rfl
theorem MX.shrink {RR:RgP}{ty:TypeId}{ro:Ro}{h:T Obj}{X X':List Nat}{p:Nat}{ps:List (Nat × Nat)}{d:AutoD}{m:MacD} (hm:MX RR ty ro h X p ps d m) (hX:∀ k∈X',k∈X) (hp:∀ k∈p::kE ps,k∈X'):MX RR ty ro h X' p ps d m:=by
 obtain⟨cv,sv,rv,g1,g2,g3,g4,g5,g6,g7⟩:=hm
 have hD:Sub (del h X) (del h X'):=fun k o hk=>by
  rw[j6] at hk
  split at hk
  ·cases hk
  ·rename_i hn
   exact jH hk fun e=>hn (hX k e)
 exact⟨cv,sv,rv,g1,g2.sub hD,g3.sub hD,g4,g5,hp p (List.mem_cons_self ..),fun k hk=>hp k (List.mem_cons_of_mem _ hk)⟩
theorem MsX.shrink {ro:Ro}{h:T Obj}{X X':List Nat}{qs:List MqD}{ds:List AutoD}{ms:List MacD} (hm:MsX ro h X qs ds ms) (hX:∀ k∈X',k∈X) (hp:∀ q∈qs,∀ k∈nG q,k∈X'):MsX ro h X' qs ds ms :=
 ⟨hm.lq,hm.lm,fun i q d m h1 h2 h3=>(hm.at_ i q d m h1 h2 h3).shrink hX (hp q (List.mem_of_getElem? h1)),hm.dis⟩
section
variable {ro:Ro}{h:T Obj}{nx:Nat}{K:KV}
theorem aHq {v:Value}{l:List ByteArray} (hv:SlR ro h v 1 aAL l) (hl:l.length≤1000000) (hf:Fr h nx) (hK:∀ r h' n',nx≤n'→Fr h' n'→Sub h h'→dK h' r 1 pF (aAk l) nx→K r h' n'):aN Tryz.prog ro iC [v] h nx K:=by
 apply qS
 unfold mG
 obtain⟨i,g1,g2,g3⟩:=aPU
 obtain⟨cs,h1,h2,h3⟩:=hv
 have hcs:cs=aAk l:=by
  apply List.ext_getElem?
  intro k
  rcases Nat.lt_or_ge k l.length with hk | hk
  ·have e1:cs[k]?=some (cs[k]'(by omega)):=List.getElem?_eq_getElem _
   have e2:l[k]?=some l[k]:=List.getElem?_eq_getElem _
   have:=(h3 k _ _ e1 e2).1
   rw[e1,this,aGZ hk]
  ·rw[List.getElem?_eq_none (by omega),List.getElem?_eq_none (by rw[aAJ]; omega)]
 subst hcs
 exact sQ h1 aNV aOM g1 (by omega) (by omega) aP9 rfl (by simp[aAk,cU]) (by rw[aAJ,g3]; unfold big; omega) (by rw[aAJ]; unfold big; omega) hf hK
end
end V
end Go.Proofs.YtcaccnneblghgaaGreat
namespace Go.Proofs.YtcaccnneblghgaaGreat
namespace V
attribute [local irreducible] aB ifP aQ cV eS exP cP
theorem MX.ty {ro:Ro}{h:T Obj}{X:List Nat}{p:Nat}{ps:List (Nat × Nat)}{d:AutoD}{m:MacD} (hm:MI ro h X p ps d m):∀ k∈p::kE ps,∃ c e,h.get k=some (.cells c e)∧(e=bH∨e=bM∨e=dZ):=fun k hk=>by
 obtain⟨cv,sv,rv,g1,g2,g3,g4,g5,g6,g7⟩:=hm
 rcases List.mem_cons.1 hk with rfl | hk
 ·exact⟨_,_,g1,.inl rfl⟩
 ·obtain⟨q,hq,h9⟩:=iW.1 hk
  obtain⟨⟨c1,t1⟩,c2,t2⟩:=g4.ty jY q hq
  rcases h9 with rfl | rfl
  ·exact⟨_,_,t1,.inr (.inl rfl)⟩
  ·exact⟨_,_,t2,.inr (.inr rfl)⟩
theorem MX.neB {ro:Ro}{h:T Obj}{X:List Nat}{p:Nat}{ps:List (Nat × Nat)}{d:AutoD}{m:MacD} (hm:MI ro h X p ps d m) {k:Nat}{c:Array Value}{e:TypeId} (hk:h.get k=some (.cells c e)) (he:e≠bH∧e≠bM∧e≠dZ):k ∉ p::kE ps:=fun h9=>by
 obtain⟨c2,e2,g1,g2⟩:=hm.ty k h9
 rw[hk] at g1
 simp only[Option.some.injEq,Obj.cells.injEq] at g1
 rcases g2 with g2 | g2 | g2
 ·exact he.1 (g1.2.1.trans g2)
 ·exact he.2.1 (g1.2.1.trans g2)
 ·exact he.2.2 (g1.2.1.trans g2)
theorem MsX.neB {ro:Ro}{h:T Obj}{X:List Nat}{qs:List MqD}{ds:List AutoD}{ms:List MacD} (hm:MsX ro h X qs ds ms) {k:Nat}{c:Array Value}{e:TypeId} (hk:h.get k=some (.cells c e)) (he:e≠bH∧e≠bM∧e≠dZ):∀ q∈qs,k ∉ nG q:=fun q hq=>by
 obtain⟨i,hi⟩:=List.getElem?_of_mem hq
 have hl:=(List.getElem?_eq_some_iff.1 hi).1
 exact (hm.at_ i q _ _ hi (List.getElem?_eq_getElem (by rw[← hm.lq]; exact hl)) (List.getElem?_eq_getElem (by rw[hm.lm,← hm.lq]; exact hl))).neB hk he
structure NwI (ro:Ro) (X0:List Nat) (hC:T Obj) (nC p:Nat) (Tb:TabD) (most:Int) (kv tv:Value) (i j:Nat) (h:T Obj) (nx:Nat) (X:List Nat) (qs:List MqD) (mv ev:Value) (es:List (List Value)):Prop where
 cell:h.get p=some (.cells (scL kv tv ev mv most dG (gB Tb) 0).toArray aR)
 mo:dK h mv 1 iQ (rG qs) nC
 eo:dK h ev 260 cS es nC
 el:es.length=j
 erd:∀ (k:Nat) x e,es[k]?=some x→Tb.entries[k]?=some e→qA ro (del h X) x e
 kr:Sl ro (del h X) kv 1 (aAk Tb.kinds)
 tr:Sl ro (del h X) tv 1 (kT Tb.to)
 mq:MsX ro h X qs ((Tb.entries.map (·.a)).take i) ((Tb.entries.map fun e=>aE0 e.a).take i)
 xl:∀ b∈X,b < nx
 pc:nC≤p
 ql:∀ q∈qs,∀ b∈nG q,nC≤b
 x0:∀ b∈X0,b∈X
 xp:p∈X
 xm:∀ b∈kV mv,b∈X
 xe:∀ b∈kV ev,b∈X
 sb:Sub hC h
 frr:Fr h nx
 frC:Fr hC nC
section
variable {ro:Ro}{hC h h' h1 h2:T Obj}{nC p nx n1 n2 l1 i j k:Nat}{Tb:TabD}{most:Int}{kv tv mv ev mv2 ev2:Value}{X0 X:List Nat}{qs:List MqD}{es:List (List Value)}
theorem NwI.nle (hi:NwI ro X0 hC nC p Tb most kv tv i j h nx X qs mv ev es):nC≤p∧p < nx:=⟨hi.pc,hi.xl p hi.xp⟩
theorem NwI.subs (hi:NwI ro X0 hC nC p Tb most kv tv i j h nx X qs mv ev es) (hs:Sub h h') (hf:Fr h' n1) (hn:nx≤n1):NwI ro X0 hC nC p Tb most kv tv i j h' n1 X qs mv ev es:=by
 have hD:Sub (del h X) (del h' X):=dX.del (ids:=[]) hs.keepL (fun k hk=>by cases hk) fun k hk=>.inl hk
 exact⟨hs _ _ hi.cell,hi.mo.keepS hs,hi.eo.keepS hs,hi.el,fun k x e h1 h2=>(hi.erd k x e h1 h2).sub hD,hi.kr.sub hD,hi.tr.sub hD,hi.mq.subX hs,fun b hb=>by have:=hi.xl b hb; omega,hi.pc,hi.ql,hi.x0,hi.xp,hi.xm,hi.xe,hi.sb.trans hs,hf,hi.frC⟩
theorem NwI.neM (hi:NwI ro X0 hC nC p Tb most kv tv i j h nx X qs mv ev es):∀ b∈p::kV mv,(∃ c e,h.get b=some (.cells c e)∧e≠bH∧e≠bM∧e≠dZ):=fun b hb=>by
 rcases List.mem_cons.1 hb with rfl | hb
 ·exact⟨_,_,hi.cell,by decide,by decide,by decide⟩
 ·exact⟨_,_,(hi.mo.blk (eQ.1 hb)).2,by decide,by decide,by decide⟩
theorem NwI.neE (hi:NwI ro X0 hC nC p Tb most kv tv i j h nx X qs mv ev es):∀ b∈p::kV ev,(∃ c e,h.get b=some (.cells c e)∧e≠bH∧e≠bM∧e≠dZ):=fun b hb=>by
 rcases List.mem_cons.1 hb with rfl | hb
 ·exact⟨_,_,hi.cell,by decide,by decide,by decide⟩
 ·exact⟨_,_,(hi.eo.blk (eQ.1 hb)).2,by decide,by decide,by decide⟩
theorem aKM (qs:List MqD) (q:MqD):rG (qs++[q])=rG qs++[[ptr q.1]]:=by simp[rG]
theorem NwI.mach (hi0:NwI ro X0 hC nC p Tb most kv tv k j h nx X qs mv ev es) {q:MqD}{e:EntD} (he:Tb.entries[k]?=some e) (hn:MI ro h1 (X++nG q) q.1 q.2 (er e.a) (aE0 e.a)) (hs:Sub h h1) (hf1:Fr h1 n1) (hb:∀ b∈nG q,nx≤b∧b < n1) (hnx:nx≤n1)
  (ho:dK h2 mv2 1 iQ (rG qs++[[ptr q.1]]) nC) (hsb:jC mv2=some n2) (hg:∀ b o,h1.get b=some o→b≠l1→jC mv≠some b→h2.get b=some o) (hl1:n1≤l1) (hn2:n1≤n2) (hf2:Fr h2 (n2+1)) :
  NwI ro X0 hC nC p Tb most kv tv (k+1) j (h2.upd p (some (.cells (scL kv tv ev mv2 most dG (gB Tb) 0).toArray aR))) (n2+1) (X++nG q++[n2]) (qs++[q]) mv2 ev es:=by
 have hpx:=hi0.nle
 have hi:=hi0.subs hs hf1 hnx
 have hkk:dX (kV mv) h1 h2:=fun b o hb hn=>hg b o hb (by have:=hf1.lt' hb; omega) fun e=>hn (eQ.2 e)
 have hK:dX (p::kV mv) h1 (h2.upd p (some (.cells (scL kv tv ev mv2 most dG (gB Tb) 0).toArray aR))):=(hkk.mono fun b hb=>List.mem_cons_of_mem _ hb).upd (List.mem_cons_self ..)
 have hidX:∀ b∈p::kV mv,b∈X:=fun b hb=>by
  rcases List.mem_cons.1 hb with rfl | hb
  ·exact hi.xp
  ·exact hi.xm b hb
 have hX2:∀ b∈X++nG q++[n2],b∈X++nG q∨h1.get b=none:=fun b hb=>by
  rcases List.mem_append.1 hb with hb | hb
  ·exact .inl hb
  ·simp at hb; subst hb; exact .inr (hf1 _ (by omega))
 have hX3:∀ b∈X++nG q++[n2],b∈X∨h.get b=none:=fun b hb'=>by
  rcases List.mem_append.1 hb' with hb' | hb'
  ·rcases List.mem_append.1 hb' with hb' | hb'
   ·exact .inl hb'
   ·exact .inr (hi0.frr _ (hb b hb').1)
  ·simp at hb'; subst hb'; exact .inr (hi0.frr _ (by omega))
 have hX4:∀ b∈X,b∈X++nG q++[n2]:=fun b hb=>List.mem_append_left _ (List.mem_append_left _ hb)
 have hgA:=hs.keepL (ids:=p::kV mv) |>.trans hK
 have hD:Sub (del h X) (del (h2.upd p (some (.cells (scL kv tv ev mv2 most dG (gB Tb) 0).toArray aR))) (X++nG q++[n2])):=hgA.del hidX hX3
 have hneM:=hi.neM
 have hdis:∀ b∈p::kV mv,∀ r∈qs,b ∉ nG r:=fun b hb' r hr=>by
  obtain⟨c,e9,g1,g2⟩:=hneM b hb'
  exact hi.mq.neB g1 g2 r hr
 have hdq:∀ b∈p::kV mv,b ∉ nG q:=fun b hb'=>by
  obtain⟨c,e9,g1,g2⟩:=hneM b hb'
  exact hn.neB g1 g2
 have hmq:=hi0.mq.keep hgA hidX (fun r hr b hb'=>hdis b hb' r hr) hX3 hX4
 have hnq:=hn.keep (X':=X++nG q++[n2]) jY hK (fun b hb'=>List.mem_append_left _ (hidX b hb')) (fun b hb'=>by
  have:=hdq b hb'
  exact⟨fun e=>this (by rw[e]; exact List.mem_cons_self ..),fun e=>this (List.mem_cons_of_mem _ e)⟩) hX2 fun b hb'=>List.mem_append_left _ hb'
 have hlen:k < Tb.entries.length:=(List.getElem?_eq_some_iff.1 he).1
 have hget:=(List.getElem?_eq_some_iff.1 he).2
 have hpe:jC ev≠some p:=hi.eo.ne hi.cell (by decide)
 have hpm:jC mv2≠some p:=by rw[hsb]; intro e9; cases e9; omega
 have hem:∀ b,jC ev=some b→jC mv≠some b:=fun b hb' e9=>by
  have g1:=(hi.eo.blk hb').2
  have g2:=(hi.mo.blk e9).2
  rw[g1] at g2
  simp only[Option.some.injEq,Obj.cells.injEq] at g2
  exact absurd g2.2.1 (by decide)
 refine⟨T.get_upd_same _ _ _,?_,?_,hi.el,fun k x e h1 h2=>(hi0.erd k x e h1 h2).sub hD,hi0.kr.sub hD,hi0.tr.sub hD,?_,fun b hb'=>?_,hi.pc,fun r hr b hb'=>?_,fun b hb'=>hX4 b (hi.x0 b hb'),hX4 p hi.xp,fun b hb'=>?_,fun b hb'=>hX4 b (hi.xe b hb'),fun b o hb'=>?_,hf2.upd (Nat.le_refl _) (by omega),hi.frC⟩
 ·rw[aKM]
  exact ho.keepK (ids:=[p]) ((Sub.refl _).keepL.upd (by simp)) fun id hid hm=>by simp at hm; subst hm; exact hpm hid
 ·exact hi.eo.keepK (ids:=p::kV mv) hK fun id hid hm=>by
   rcases List.mem_cons.1 hm with rfl | hm
   ·exact hpe hid
   ·exact hem id hid (eQ.1 hm)
 ·have t1:(Tb.entries.map (·.a)).take (k+1)=(Tb.entries.map (·.a)).take k++[e.a]:=by
   rw[List.take_succ_eq_append_getElem (by rw[List.length_map]; exact hlen),List.getElem_map,hget]
  have t2:(Tb.entries.map fun e=>aE0 e.a).take (k+1)=(Tb.entries.map fun e=>aE0 e.a).take k++[aE0 e.a]:=by
   rw[List.take_succ_eq_append_getElem (by rw[List.length_map]; exact hlen),List.getElem_map,hget]
  rw[t1,t2]
  refine hmq.snoc hnq fun r hr b hb' hb9=>?_
  have g1:=(hb b hb9).1
  obtain⟨i9,hi9⟩:=List.getElem?_of_mem hr
  have g2:=hi0.xl b (hi0.mq.inX hi9 b hb')
  omega
 ·have hx:=hi0.nle
  rcases List.mem_append.1 hb' with hb' | hb'
  ·rcases List.mem_append.1 hb' with hb' | hb'
   ·have:=hi0.xl b hb'; omega
   ·have:=hb b hb'; omega
  ·simp at hb'; subst hb'; omega
 ·rcases List.mem_append.1 hr with hr | hr
  ·exact hi.ql r hr b hb'
  ·simp at hr; subst hr
   have:=(hb b hb').1
   omega
 ·have:=eQ.1 hb'
  rw[hsb] at this
  cases this
  exact List.mem_append_right _ (by simp)
 ·have h9:=hi.sb b o hb'
  have hlt:=hi.frC.lt' hb'
  rw[T.get_upd_ne _ _ (by omega)]
  refine hg b o h9 (by omega) fun e9=>?_
  have:=(hi.mo.blk e9).1
  omega
theorem NwI.ent (hi0:NwI ro X0 hC nC p Tb most kv tv i k h nx X qs mv ev es) {n0:Nat}{rv:Value}{e:EntD} (he:Tb.entries[k]?=some e) (hs:Sub h h1) (hrv:dK h1 rv 1 dZ (kT e.rules) n0) (hn0:nx≤l1) (hl0:l1 < n0)
  (ho:dK h2 ev2 260 cS (es++[wL++[rv]]) nC) (hsb:jC ev2=some n2) (hg:∀ b o,h1.get b=some o→b≠l1→jC ev≠some b→h2.get b=some o) (hn2:n0≤n2) (hf1:Fr h1 n2) (hf2:Fr h2 (n2+1)) :
  NwI ro X0 hC nC p Tb most kv tv i (k+1) (h2.upd p (some (.cells (scL kv tv ev2 mv most dG (gB Tb) 0).toArray aR))) (n2+1) (X++[n2]) qs mv ev2 (es++[wL++[rv]]):=by
 have hpx:=hi0.nle
 have hgA:dX (p::kV ev) h (h2.upd p (some (.cells (scL kv tv ev2 mv most dG (gB Tb) 0).toArray aR))):=fun b o hb hn=>by
  have hlt:=hi0.frr.lt' hb
  rw[T.get_upd_ne _ _ fun e9=>hn (by rw[e9]; exact List.mem_cons_self ..)]
  exact hg b o (hs b o hb) (by omega) fun e9=>hn (List.mem_cons_of_mem _ (eQ.2 e9))
 have hidX:∀ b∈p::kV ev,b∈X:=fun b hb=>by
  rcases List.mem_cons.1 hb with rfl | hb
  ·exact hi0.xp
  ·exact hi0.xe b hb
 have hX3:∀ b∈X++[n2],b∈X∨h.get b=none:=fun b hb'=>by
  rcases List.mem_append.1 hb' with hb' | hb'
  ·exact .inl hb'
  ·simp at hb'; subst hb'; exact .inr (hi0.frr _ (by omega))
 have hX4:∀ b∈X,b∈X++[n2]:=fun b hb=>List.mem_append_left _ hb
 have hD:=hgA.del hidX hX3
 have hneE:=hi0.neE
 have hmq:=hi0.mq.keep hgA hidX (fun r hr b hb'=>by
  obtain⟨c,e9,g1,g2⟩:=hneE b hb'
  exact hi0.mq.neB g1 g2 r hr) hX3 hX4
 have hpm:jC mv≠some p:=hi0.mo.ne hi0.cell (by decide)
 have hpe:jC ev2≠some p:=by rw[hsb]; intro e9; cases e9; omega
 have hem:∀ b,jC mv=some b→jC ev≠some b:=fun b hb' e9=>by
  have g1:=(hi0.mo.blk hb').2
  have g2:=(hi0.eo.blk e9).2
  rw[g1] at g2
  simp only[Option.some.injEq,Obj.cells.injEq] at g2
  exact absurd g2.2.1 (by decide)
 have hel:=hi0.el
 have hrv2:Sl ro (del (h2.upd p (some (.cells (scL kv tv ev2 mv most dG (gB Tb) 0).toArray aR))) (X++[n2])) rv 1 (kT e.rules):=by
  have h9:dK (h2.upd p (some (.cells (scL kv tv ev2 mv most dG (gB Tb) 0).toArray aR))) rv 1 dZ (kT e.rules) n0:=by
   rcases hrv with h9 | ⟨id,r1,r2,r3,r4⟩
   ·exact .inl h9
   ·refine .inr ⟨id,r1,r2,r3,?_⟩
    rw[T.get_upd_ne _ _ (by omega)]
    refine hg _ _ r4 (by omega) fun e9=>?_
    have:=hi0.xl _ (hi0.xe _ (eQ.2 e9))
    omega
  refine (h9.del fun id hid hm=>?_).sl
  have g1:=(h9.blk hid).1
  rcases List.mem_append.1 hm with hm | hm
  ·have:=hi0.xl id hm; omega
  ·simp at hm; subst hm
   have g2:h1.get id=none:=hf1 _ (Nat.le_refl _)
   rcases hrv with ⟨r1,_⟩ | ⟨id2,r1,r2,r3,r4⟩
   ·rw[r1] at hid; cases hid
   ·rw[r2] at hid
    cases hid
    have g3:h1.get id2=none:=g2
    rw[r4] at g3; cases g3
 refine⟨T.get_upd_same _ _ _,?_,?_,by simp[hel],fun j x e9 hx1 hx2=>?_,hi0.kr.sub hD,hi0.tr.sub hD,hmq,fun b hb'=>?_,hi0.pc,hi0.ql,fun b hb'=>hX4 b (hi0.x0 b hb'),hX4 p hi0.xp,fun b hb'=>hX4 b (hi0.xm b hb'),fun b hb'=>?_,fun b o hb'=>?_,hf2.upd (Nat.le_refl _) (by omega),hi0.frC⟩
 ·exact hi0.mo.keepK hgA fun id hid hm=>by
   rcases List.mem_cons.1 hm with rfl | hm
   ·exact hpm hid
   ·exact hem id hid (eQ.1 hm)
 ·exact ho.keepK (ids:=[p]) ((Sub.refl _).keepL.upd (by simp)) fun id hid hm=>by simp at hm; subst hm; exact hpe hid
 ·rcases Nat.lt_or_ge j es.length with hj | hj
  ·rw[List.getElem?_append_left hj] at hx1
   exact (hi0.erd j x e9 hx1 hx2).sub hD
  ·rw[List.getElem?_append_right hj] at hx1
   have hj0:j - es.length=0:=by
    rcases Nat.eq_zero_or_pos (j - es.length) with h0 | h0
    ·exact h0
    ·rw[List.getElem?_eq_none (by simp; omega)] at hx1; cases hx1
   rw[hj0] at hx1
   simp only[List.getElem?_cons_zero,Option.some.injEq] at hx1
   subst hx1
   rw[show j=k by omega,he] at hx2
   cases hx2
   refine⟨rv,?_,hrv2⟩
   rw[List.getElem?_append_right (by rw[sO]; omega),sO]; rfl
 ·rcases List.mem_append.1 hb' with hb' | hb'
  ·have:=hi0.xl b hb'; omega
  ·simp at hb'; subst hb'; omega
 ·have:=eQ.1 hb'
  rw[hsb] at this
  cases this
  exact List.mem_append_right _ (by simp)
 ·have h9:=hi0.sb b o hb'
  have hlt:=hi0.frC.lt' hb'
  have hlt2:=hi0.frr.lt' h9
  rw[T.get_upd_ne _ _ (by omega)]
  refine hg b o (hs b o h9) (by omega) fun e9=>?_
  have:=(hi0.eo.blk e9).1
  omega
theorem NwI.fin (hi:NwI ro X0 hC nC p Tb most kv tv Tb.entries.length Tb.entries.length h nx X qs mv ev es) (hX0:∀ b∈X0,b < nC):ScX ro h (X0++(p::qs.flatMap nG)) p qs Tb most 0 (gB Tb)∧∀ b∈p::qs.flatMap nG,nC≤b∧b < nx:=by
 have hsub:∀ b∈X0++(p::qs.flatMap nG),b∈X:=fun b hb=>by
  rcases List.mem_append.1 hb with hb | hb
  ·exact hi.x0 b hb
  ·rcases List.mem_cons.1 hb with rfl | hb
   ·exact hi.xp
   ·obtain⟨q,hq,hb⟩:=List.mem_flatMap.1 hb
    obtain⟨j,hj⟩:=List.getElem?_of_mem hq
    exact hi.mq.inX hj b hb
 have hD:Sub (del h X) (del h (X0++(p::qs.flatMap nG))):=sS hsub
 have hne:∀ {v:Value} {z:Nat} {e:TypeId} {l:List (List Value)},dK h v z e l nC→e≠aR→e≠bH∧e≠bM∧e≠dZ→∀ id,jC v=some id→id ∉ X0++(p::qs.flatMap nG):=fun {v z e l} ho he1 he2 id hid hm=>by
  obtain⟨g1,g2⟩:=ho.blk hid
  rcases List.mem_append.1 hm with hm | hm
  ·have:=hX0 id hm; omega
  ·rcases List.mem_cons.1 hm with rfl | hm
   ·exact ho.ne hi.cell (Ne.symm he1) hid
   ·obtain⟨q,hq,hm⟩:=List.mem_flatMap.1 hm
    exact hi.mq.neB g2 he2 q hq hm
 refine⟨⟨kv,tv,ev,mv,dG,hi.cell,hi.kr.sub hD,hi.tr.sub hD,⟨es,(hi.eo.del (hne hi.eo (by decide) ⟨by decide,by decide,by decide⟩)).sl,hi.el,fun j x e h1 h2=>(hi.erd j x e h1 h2).sub hD⟩,(hi.mo.del (hne hi.mo (by decide) ⟨by decide,by decide,by decide⟩)).sl,Sl.nil,?_,List.mem_append_right _ (List.mem_cons_self ..),hi.mq.neB hi.cell ⟨by decide,by decide,by decide⟩⟩,fun b hb=>⟨?_,hi.xl b (hsub b (List.mem_append_right _ hb))⟩⟩
 ·have hq:=hi.mq
  rw[List.take_of_length_le (by simp),List.take_of_length_le (by simp)] at hq
  exact hq.shrink hsub fun q hq9 b hb=>List.mem_append_right _ (List.mem_cons_of_mem _ (List.mem_flatMap.2 ⟨q,hq9,hb⟩))
 ·rcases List.mem_cons.1 hb with rfl | hb
  ·exact hi.pc
  ·obtain⟨q,hq,hb⟩:=List.mem_flatMap.1 hb
   exact hi.ql q hq b hb
end
end V
end Go.Proofs.YtcaccnneblghgaaGreat
namespace Go.Proofs.YtcaccnneblghgaaGreat
namespace V
attribute [local irreducible] aB ifP aQ cV eS exP cP
theorem aNs:∀ {l:List Int}{a m:Int},rz a m l=true→a < m→(l.length:Int)≤m - a - 1
 | [],a,m,_,h=>by simp; omega
 | x::r,a,m,h,hm=>by
  rw[aDc] at h
  simp only[Bool.and_eq_true,decide_eq_true_eq] at h
  have:=aNs h.2.2 h.2.1
  rw[List.length_cons]
  omega
theorem aGV {T:TabD} (h:gC T=true):T.conds.length≤8∧T.kinds.length≤64∧T.to.length≤64∧T.entries.length≤16∧∀ e∈T.entries,e.rules.length≤64:=by
 unfold gC at h
 simp only[Bool.and_eq_true,decide_eq_true_eq] at h
 obtain⟨h1,h2,_,h4,h5,h6,_,h8,h9⟩:=h
 refine⟨h2,h4,by omega,by omega,fun e he=>?_⟩
 have:=List.all_eq_true.1 h9 e he
 unfold lV at this
 simp only[Bool.and_eq_true] at this
 have:=aNs this.1 (by omega)
 omega
theorem aL3 (o1 o2:Option Addr) (l1 c1 l2 c2:Nat):fO Tryz.prog dI [(1,.slice o1 l1 c1),(2,.slice o2 l2 c2)]=some (.agg #[dG,.slice o1 l1 c1,.slice o2 l2 c2,dG]):=by kernel_rfl
theorem dK.form {h:T Obj}{v:Value}{z:Nat}{e:TypeId}{l:List (List Value)}{lo:Nat} (ho:dK h v z e l lo):∃ o n c,v=.slice o n c:=by
 rcases ho with ⟨h1,_⟩ | ⟨id,_,h1,_⟩
 ·exact⟨_,_,_,h1⟩
 ·exact⟨_,_,_,h1⟩
theorem aEz {h:T Obj}{id off z n:Nat}{v:Value}{l vs:List Value}{e:TypeId}{f:Nat × Nat} (hg:h.get id=some (.cells l.toArray e f)) (hc:v.cells=vs.toArray) (hn:vs.length=n) (hl:off+n≤l.length) (hv:vs.all cU=true) :
  bY n h (at_ id off z) v=some (h.upd id (some (.cells (over l off vs).toArray e f))):=by
 rw[bZ,hc,hg,if_pos (by simpa using hn),bR (by simp; omega) (by simpa using hv)]
 rfl
theorem aEW {ro:Ro}{h:T Obj}{id off z n:Nat}{l:List Value}{e:TypeId}{f:Nat × Nat} (hg:h.get id=some (.cells l.toArray e f)) (hl:off+n≤l.length):loadA ro h n (at_ id off z)=some (.agg ((l.drop off).take n).toArray):=by
 rw[cC,hg]
 show (if off+n≤l.length then _ else _)=_
 rw[if_pos hl]
section
variable {ro:Ro}{h:T Obj}{nx:Nat}{K:KV}
set_option maxRecDepth 8000 in
set_option maxHeartbeats 1000000 in
theorem aEu {X0:List Nat}{x:List Value}{Tb:TabD}{most:Int} (hf:Fr h nx) (hd:aDN ro h x Tb) (hX0:∀ b∈X0,b < nx)
  (hK0:most < 1∨gC Tb=false→∀ nx',nx≤nx'→K (.tuple #[.pointer none,.int .i64 1]) h nx')
  (hK1:1≤most→gC Tb=true→∀ p qs h' nx',nx≤nx'→Fr h' nx'→Sub h h'→(∀ b∈p::qs.flatMap nG,nx≤b∧b < nx')→ScX ro h' (X0++(p::qs.flatMap nG)) p qs Tb most 0 (gB Tb)→K (.tuple #[ptr p,.int .i64 0]) h' nx'):aN Tryz.prog ro s7 [.agg x.toArray,.int .i64 most] h nx K:=by
 obtain⟨cv,kv0,tv0,ev0,rfl,q1,q2,q3,q4,q5,q6,q7,q8⟩:=id hd
 apply aJP
 unfold aJO
 refine eJ hf (Nat.le_refl _) fun h1 hs1 hf1 g1 _=>?_
 have g1:h1.get nx=some (.cells [cv,kv0,tv0,ev0].toArray dI):=g1
 by_cases hm1:most < 1
 ·(repeat(first|refine zzB ?_|apply aD|apply aE|with_reducible first|apply aG|apply aF|apply aK|apply aH|apply aJ|apply aI|apply aL|apply aC))
  exact⟨h,hs1,hK0 (.inl hm1) _ (by omega)⟩
 ·have LA:=dL (ro:=ro) (z:=0) (n:=4) (l:=[cv,kv0,tv0,ev0]) g1 rfl
  (repeat(first|refine zzB ?_|apply aD|apply aE|with_reducible first|apply aG|apply aF|apply aK|apply aH|apply aJ|apply aI|apply aL|apply aC))
  refine aA LA ?_
  (repeat(first|refine zzB ?_|apply aD|apply aE|with_reducible first|apply aG|apply aF|apply aK|apply aH|apply aJ|apply aI|apply aL|apply aC))
  refine aIR (hf1.mono (by omega)) (hd.sub hs1) fun n1 hn1=>?_
  cases hr:gC Tb with
  | false =>
   (repeat(first|refine zzB ?_|apply aD|apply aE|with_reducible first|apply aG|apply aF|apply aK|apply aH|apply aJ|apply aI|apply aL|apply aC))
   exact⟨h,hs1,hK0 (.inr hr) _ (by omega)⟩
  | true =>
   have hc256:∀ e∈Tb.entries,e.a.c.length=256:=fun e he=>by
    obtain⟨j,hj⟩:=List.getElem?_of_mem he
    obtain⟨hlt,rfl⟩:=List.getElem?_eq_some_iff.1 hj
    obtain⟨y,⟨ax,rv,_,hA,_⟩,_⟩:=q4.at hlt
    obtain⟨cv9,sv9,_,hc9,_⟩:=hA
    exact hc9
   have hT:=(aJF hr hc256).1
   obtain⟨_,hl1,hl2,hl3,hl4⟩:=aGV hr
   (repeat(first|refine zzB ?_|apply aD|apply aE|with_reducible first|apply aG|apply aF|apply aK|apply aH|apply aJ|apply aI|apply aL|apply aC))
   refine aA aCE ?_
   refine aA (aJb _) ?_
   refine aHG (m:=nx+1) hf1 (by omega) fun h2 hs2 hf2 g2 _=>?_
   have g2:h2.get (n1+1+4)=some (.cells (scL dG dG dG dG most dG (gB Tb) 0).toArray aR):=g2
   have g12:=hs2 _ _ g1
   have m1:[cv,kv0,tv0,ev0][1]?=some kv0:=rfl
   have m2:[cv,kv0,tv0,ev0][2]?=some tv0:=rfl
   have m3:[cv,kv0,tv0,ev0][3]?=some ev0:=rfl
   (repeat(first|refine zzB ?_|apply aD|apply aE|with_reducible first|apply aG|apply aF|apply aK|apply aH|apply aJ|apply aI|apply aL|apply aC))
   refine aA (aZ g12 m1) ?_
   refine aHq (q2.sub (hs1.trans hs2) fun _ _ h=>h) (by omega) (hf2.mono (by omega)) fun kv h3 n3 hn3 hf3 hs3 hkv=>?_
   have g13:=hs3 _ _ g12
   have l2:=aZ (ro:=ro) (z:=0) g13 m2
   (repeat(first|refine zzB ?_|apply aD|apply aE|with_reducible first|apply aG|apply aF|apply aK|apply aH|apply aJ|apply aI|apply aL|apply aC))
   refine aA l2 ⟨fW g12 g13,?_⟩
   refine tW (q3.sub ((hs1.trans hs2).trans hs3)) (by omega) hf3 fun tv h4 n4 hn4 hf4 hs4 htv=>?_
   obtain⟨ko,kn,kc,hkf⟩:=hkv.form
   obtain⟨to_,tn,tc,htf⟩:=htv.form
   have g24:=hs4 _ _ (hs3 _ _ g2)
   have g14:=hs4 _ _ g13
   refine aA (by rw[hkf,htf]; exact aL3 _ _ _ _ _ _) ?_
   (repeat(first|refine aA (by simp (disch:=first|omega|exact nnN _|assumption) only [BB,B2,↓reduceIte,Nat.reduceLeDiff,Nat.reduceAdd,CC,a9]<;>rfl) ?_|apply aD|apply aE|with_reducible first|apply aG|apply aF|apply aK|apply aH|apply aJ|apply aI|apply aL|apply aC))
   refine aA (aEz (vs:=[dG,kv,tv,dG]) g24 (by rw[hkf,htf]; rfl) rfl (by simp[scL]) (by simp only[List.all_cons,List.all_nil,hkv.ok,htv.ok,Bool.and_true]; rfl)) ?_
   have hov:over (scL dG dG dG dG most dG (gB Tb) 0) 0 [dG,kv,tv,dG]=scL kv tv dG dG most dG (gB Tb) 0:=rfl
   rw[hov]
   generalize hh5:h4.upd (n1+1+4) (some (.cells (scL kv tv dG dG most dG (gB Tb) 0).toArray aR))=h5
   have g15:h5.get nx=some (.cells [cv,kv0,tv0,ev0].toArray dI):=by rw[← hh5,T.get_upd_ne _ _ (by omega)]; exact g14
   (repeat(first|refine zzB ?_|apply aD|apply aE|with_reducible first|apply aG|apply aF|apply aK|apply aH|apply aJ|apply aI|apply aL|apply aC))
   refine aA (aZ g15 m3) ?_
   have hs14:Sub h1 h4:=(hs2.trans hs3).trans hs4
   refine aA q4.len ?_
   have hkK:dX [n1+1+4] h4 h5:=by rw[← hh5]; exact (Sub.refl _).keepL.upd (by simp)
   have hkv5:=(hkv.keepS hs4).keepK hkK fun id hid hm=>by simp at hm; have:=(hkv.blk hid).1; omega
   have htv5:=htv.keepK hkK fun id hid hm=>by simp at hm; have:=(htv.blk hid).1; omega
   have hNI0:NwI ro X0 h1 (nx+1) (n1+1+4) Tb most kv tv 0 0 h5 n4 (X0++[n1+1+4]) [] dG dG []:=by
    refine⟨by rw[← hh5]; exact T.get_upd_same _ _ _,dK.nil,dK.nil,rfl,(fun k x e hx=>by simp at hx),?_,?_,MsX.nil,fun b hb=>?_,by omega,(fun q hq=>by cases hq),fun b hb=>List.mem_append_left _ hb,by simp,(fun b hb=>by cases hb),(fun b hb=>by cases hb),fun b o hb=>?_,?_,hf1⟩
    ·refine (hkv5.del fun id hid hm=>?_).sl
     have g:=(hkv.blk hid).1
     rcases List.mem_append.1 hm with hm | hm
     ·have:=hX0 id hm; omega
     ·simp at hm; omega
    ·refine (htv5.del fun id hid hm=>?_).sl
     have g:=(htv.blk hid).1
     rcases List.mem_append.1 hm with hm | hm
     ·have:=hX0 id hm; omega
     ·simp at hm; omega
    ·rcases List.mem_append.1 hb with hb | hb
     ·have:=hX0 b hb; omega
     ·simp at hb; omega
    ·have hlt:=hf1.lt' hb
     rw[← hh5,T.get_upd_ne _ _ (by omega)]
     exact hs14 b o hb
    ·rw[← hh5]; exact hf4.upd (Nat.le_refl _) (by omega)
   refine bA (fun j e h' nx'=>∃ (k:Nat) (X:List Nat) (qs:List MqD) (mv ev:Value) (es:List (List Value)),k+j=Tb.entries.length∧n4+4≤nx'∧e 6=ptr (n1+1+4)∧e 33=ev0∧e 34=.int .i64 Tb.entries.length∧e 35=.int .i64 k∧NwI ro X0 h1 (nx+1) (n1+1+4) Tb most kv tv k k h' nx' X qs mv ev es) ?_ (n:=Tb.entries.length) ⟨0,_,[],dG,dG,[],by omega,by omega,rfl,rfl,rfl,rfl,hNI0.subs (Sub.refl _) (hNI0.frr.mono (by omega)) (by omega)⟩
   generalize n1+1+4=p at *
   rintro j e h' nx' ⟨k,X,qs,mv,ev,es,hj,hnx,e6,e33,e34,e35,hi⟩ Q' hq hx
   have hfh:=hi.frr
   have hsh:=hi.sb
   unfold aDI
   rw[e6,e33,e34,e35]
   refine cY (fun hk=>?_) (fun hk=>?_)
   ·have hk:k < Tb.entries.length:=by omega
    have hev:=q4.sub hs1 (vM.sub hs1)
    have hix:=hev.ix .i64 hk
    obtain⟨y,hy1,hy2,hy3,hy4,hy5⟩:=hev.at hk
    have hy3:=aCS hsh hy3
    have hek:Tb.entries[k]?=some Tb.entries[k]:=List.getElem?_eq_getElem _
    have hemem:=List.getElem_mem hk
    generalize Tb.entries[k]=ee at hy1 hek hemem
    obtain⟨cv9,sv9,rv9,hye,c258,c259,htk,hA,hS,hSl,hR,hRl⟩:=hy1.cells
    (repeat(first|refine zzB ?_|apply aD|apply aE|with_reducible first|apply aG|apply aF|apply aK|apply aH|apply aJ|apply aI|apply aL|apply aC))
    refine aA hix (aA hy3 ?_)
    refine kI (x:=y) (n:=260) aH8 (by show aLf.toArray.size=260; rw[List.size_toArray,aDz]) rfl hy2 hy1.okL hfh (by omega) fun h6 hs6 hf6 g6 _=>?_
    have LB:=aEW (ro:=ro) (z:=0) (off:=0) (n:=259) g6 (by omega)
    rw[List.drop_zero,htk] at LB
    (repeat(first|refine zzB ?_|apply aD|apply aE|with_reducible first|apply aG|apply aF|apply aK|apply aH|apply aJ|apply aI|apply aL|apply aC))
    refine aA LB ?_
    refine aJo (X0:=X) (hf6.mono (by omega)) (hA.sub (hsh.trans hs6)) (fun h9=>by rw[hT.ok ee hemem] at h9; cases h9) (fun b hb=>by have:=hi.xl b hb; omega) fun _ p2 ps X2 h7 n7 hn7 hf7 hs7 hX2 hX2e hMI=>?_
    subst hX2e
    refine aA (aIf _ _) (aA (aIg _ _) ?_)
    refine aA2 rfl ?_
    (repeat(first|refine aA (by simp (disch:=first|omega|exact nnN _|assumption) only [BB,B2,↓reduceIte,Nat.reduceLeDiff,Nat.reduceAdd,CC,a9]<;>rfl) ?_|apply aD|apply aE|with_reducible first|apply aG|apply aF|apply aK|apply aH|apply aJ|apply aI|apply aL|apply aC))
    have hi6:=hi.subs hs6 (hf6.mono (show nx'+3+1≤nx'+8 by omega)) (by omega)
    have hi7:=hi6.subs hs7 hf7 (by omega)
    have m4:(scL kv tv ev mv most dG (gB Tb) 0)[4]?=some mv:=rfl
    refine aA (aZ hi7.cell m4) ?_
    obtain⟨i9,t1,t2,t3⟩:=aOB
    have hql:qs.length≤1000:=by have:=hi.mq.lq; simp at this; omega
    refine wJ (z:=1) (l:=rG qs) (y:=[ptr p2]) (aNW _ _) rfl hi7.mo aMW t1 (by omega) (by omega) aOS rfl rfl (by rw[wA,t3]; unfold big; omega) (by rw[wA]; unfold big; omega) (hf7.mono (by omega)) (by omega) (by omega) (fun e=>by have:=hf7.lt' (hi7.mo.blk e).2; omega) fun h8 ho8 hk8 hf8=>?_
    generalize hnv:Value.slice (some (own (n7+15) 1)) (rG qs++[[ptr p2]]).length (rG qs++[[ptr p2]]).length=mv2 at ho8
    have hsb:jC mv2=some (n7+15):=by rw[← hnv]; rfl
    have hi8:=hi6.mach (q:=(p2,ps)) (l1:=n7+13) hek hMI hs7 hf7 hX2 (by omega) ho8 hsb hk8 (by omega) (by omega) hf8
    have g8:=hk8 _ _ hi7.cell (by have:=hf7.lt' hi7.cell; omega) (hi7.mo.ne hi7.cell (by decide))
    dsimp only
    (repeat(first|refine aA (by simp (disch:=first|omega|exact nnN _|assumption) only [BB,B2,↓reduceIte,Nat.reduceLeDiff,Nat.reduceAdd,CC,a9]<;>rfl) ?_|apply aD|apply aE|with_reducible first|apply aG|apply aF|apply aK|apply aH|apply aJ|apply aI|apply aL|apply aC))
    refine aA (dM g8 (by simp[scL]) ho8.ok (by rw[← hnv]; rfl)) ?_
    have hov2:(scL kv tv ev mv most dG (gB Tb) 0).set 4 mv2=scL kv tv ev mv2 most dG (gB Tb) 0:=rfl
    rw[hov2]
    generalize hh8:h8.upd p (some (.cells (scL kv tv ev mv2 most dG (gB Tb) 0).toArray aR))=h9 at hi8
    have g69:h9.get (nx'+3)=some (.cells y.toArray cS):=by
     have hp6:=hi.xl _ hi.xp
     rw[← hh8,T.get_upd_ne _ _ (by omega)]
     refine hk8 _ _ (hs7 _ _ g6) (by omega) fun e9=>?_
     have:=hi.xl _ (hi.xm _ (eQ.2 e9))
     omega
    have m3':(scL kv tv ev mv2 most dG (gB Tb) 0)[3]?=some ev:=rfl
    (repeat(first|refine aA (by simp (disch:=first|omega|exact nnN _|assumption) only [BB,B2,↓reduceIte,Nat.reduceLeDiff,Nat.reduceAdd,CC,a9]<;>rfl) ?_|apply aD|apply aE|with_reducible first|apply aG|apply aF|apply aK|apply aH|apply aJ|apply aI|apply aL|apply aC))
    refine aA (aZ hi8.cell m3') ?_
    (repeat(first|refine zzB ?_|apply aD|apply aE|with_reducible first|apply aG|apply aF|apply aK|apply aH|apply aJ|apply aI|apply aL|apply aC))
    refine aA (aZ g69 c259) ?_
    refine tW (hR.sub hi8.sb) (by have:=hl4 ee hemem; omega) (hi8.frr.mono (by omega)) fun rv h10 n10 hn10 hf10 hs10 hrv=>?_
    refine⟨fW hi8.cell (hs10 _ _ hi8.cell),?_⟩
    obtain⟨ro1,rn,rc,hrf⟩:=hrv.form
    refine aA (by rw[hrf]; exact aL2 _ _ _) ?_
    have hi10:=hi8.subs hs10 hf10 (by omega)
    obtain⟨i10,u1,u2,u3⟩:=aPS
    have hesl:es.length≤1000:=by have:=hi8.el; omega
    refine wJ (z:=260) (l:=es) (y:=wL++[rv]) (by rw[hrf]; exact aOl _ _ _ _) (by rw[List.length_append,sO]; rfl) hi10.eo aOK u1 (by omega) (by omega) aH8 (by show aLf.toArray.size=260; rw[List.size_toArray,aDz]) (by rw[List.all_append]; simp[hrv.ok]; decide) (by rw[u3]; unfold big; omega) (by unfold big; omega) (hf10.mono (by omega)) (by omega) (by omega) (fun e=>by have:=hi8.xl _ (hi8.xe _ (eQ.2 e)); omega) fun h11 ho11 hk11 hf11=>?_
    generalize hnv2:Value.slice (some (own n10 260)) (es++[wL++[rv]]).length (es++[wL++[rv]]).length=ev2 at ho11
    have hsb2:jC ev2=some n10:=by rw[← hnv2]; rfl
    have hi11:=(hi8.subs (Sub.refl _) (hi8.frr.mono (show n7+15+1≤n7+15+1+13 by omega)) (by omega)).ent (l1:=n7+15+1+13) hek hs10 hrv (Nat.le_refl _) (by omega) ho11 hsb2 hk11 (by omega) hf10 hf11
    have g11:=hk11 _ _ hi10.cell (by have:=hi8.frr.lt' hi8.cell; omega) (hi10.eo.ne hi10.cell (by decide))
    dsimp only
    (repeat(first|refine aA (by simp (disch:=first|omega|exact nnN _|assumption) only [BB,B2,↓reduceIte,Nat.reduceLeDiff,Nat.reduceAdd,CC,a9]<;>rfl) ?_|apply aD|apply aE|with_reducible first|apply aG|apply aF|apply aK|apply aH|apply aJ|apply aI|apply aL|apply aC))
    refine aA (dM g11 (by simp[scL]) ho11.ok (by rw[← hnv2]; rfl)) ?_
    have hov3:(scL kv tv ev mv2 most dG (gB Tb) 0).set 3 ev2=scL kv tv ev2 mv2 most dG (gB Tb) 0:=rfl
    rw[hov3]
    (repeat(first|refine zzB ?_|apply aD|apply aE|with_reducible first|apply aG|apply aF|apply aK|apply aH|apply aJ|apply aI|apply aL|apply aC))
    exact hq (j - 1) _ _ _ _ (by omega) ⟨k+1,_,_,mv2,ev2,_,by omega,by omega,e6,e33,e34,rfl,hi11.subs (Sub.refl _) (hi11.frr.mono (by omega)) (by omega)⟩ (Sub.refl _)
   ·(repeat(first|refine zzB ?_|apply aD|apply aE|with_reducible first|apply aG|apply aF|apply aK|apply aH|apply aJ|apply aI|apply aL|apply aC))
    refine hx _ _ _ _ (fun e=>by cases e) (d5 (cR ?_))
    obtain rfl:k=Tb.entries.length:=by omega
    obtain⟨hfin,hbl⟩:=hi.fin fun b hb=>by have:=hX0 b hb; omega
    have hend:∀ (e':Env) n',e' 6=ptr p→nx'≤n'→uJ ro K e' h' n':=by
     intro e' n' f6 hn'
     unfold uJ
     rw[f6]
     exact⟨h',Sub.refl _,hK1 (by omega) hr p qs h' _ (by omega) (hfh.mono (by omega)) (hs1.trans hsh) (fun b hb=>by have:=hbl b hb; omega) hfin⟩
    exact hend _ _ e6 (by omega)
end
end V
end Go.Proofs.YtcaccnneblghgaaGreat
namespace Go.Proofs.YtcaccnneblghgaaGreat
namespace V
attribute [local irreducible] aB ifP aQ cV eS exP cP
theorem aMB:dY Tryz.prog 20 kP=some [1,1,1]:=by kernel_rfl
theorem aPn:aFN [1,1,1] .eql (.agg #[.int .i64 0,.int .i64 0,.int .i64 (-1)]) (.agg #[.int .i64 0,.int .i64 0,.int .i64 (-1)])=some (.bool true):=by kernel_rfl
theorem aPo {a b c:Int} (ha:a≠0):aFN [1,1,1] .eql (.agg #[.int .i64 a,.int .i64 b,.int .i64 c]) (.agg #[.int .i64 0,.int .i64 0,.int .i64 (-1)])=some (.bool false):=by
 simp[aFN,dH,gY,ha]
def ScV (ro:Ro) (h:T Obj) (X:List Nat) (p:Nat) (qs:List MqD) (T:TabD) (most er_:Int) (kv tv ev mv bv:Value) (s:ScD):Prop:=h.get p=some (.cells (scL kv tv ev mv most bv s er_).toArray aR) ∧
 Sl ro (del h X) kv 1 (aAk T.kinds)∧Sl ro (del h X) tv 1 (kT T.to)∧SlR ro (del h X) ev 260 (qA ro (del h X)) T.entries∧Sl ro (del h X) mv 1 (rG qs)∧Sl ro (del h X) bv 1 (bP s.kept)∧MsX ro h X qs (T.entries.map (·.a)) s.ms∧p∈X∧∀ q∈qs,p ∉ nG q
section
variable {ro:Ro}{h h':T Obj}{nx:Nat}{X X':List Nat}{p:Nat}{qs:List MqD}{T:TabD}{most er_ er':Int}{kv tv ev mv bv:Value}{s s':ScD}
theorem ScV.x (hm:ScV ro h X p qs T most er_ kv tv ev mv bv s):ScX ro h X p qs T most er_ s:=⟨kv,tv,ev,mv,bv,hm⟩
theorem ScV.keep {ids:List Nat} (hm:ScV ro h X p qs T most er_ kv tv ev mv bv s) (hs:dX ids h h') (h1:∀ k∈ids,k∈X) (h2:∀ q∈qs,∀ k∈ids,k ∉ nG q) (h0:p ∉ ids) (h3:∀ k∈X',k∈X∨h.get k=none) (h4:∀ k∈X,k∈X'):ScV ro h' X' p qs T most er_ kv tv ev mv bv s:=by
 obtain⟨g1,g2,g3,g4,g5,g6,g7,g8,g9⟩:=hm
 have hD:Sub (del h X) (del h' X'):=hs.del h1 h3
 exact⟨hs _ _ g1 h0,g2.sub hD,g3.sub hD,g4.sub hD (qA.sub hD),g5.sub hD,g6.sub hD,g7.keep hs h1 h2 h3 h4,h4 p g8,g9⟩
theorem ScV.sub (hm:ScV ro h X p qs T most er_ kv tv ev mv bv s) (hs:Sub h h'):ScV ro h' X p qs T most er_ kv tv ev mv bv s:=hm.keep (ids:=[]) hs.keepL (fun k hk=>by cases hk) (fun q hq k hk=>by cases hk) (fun hk=>by cases hk) (fun k hk=>.inl hk) fun k hk=>hk
theorem ScV.upd (hm:ScV ro h X p qs T most er_ kv tv ev mv bv s) (hms:s'.ms=s.ms) (hb:s'.kept=s.kept):ScV ro (h.upd p (some (.cells (scL kv tv ev mv most bv s' er').toArray aR))) X p qs T most er' kv tv ev mv bv s':=by
 obtain⟨g1,g2,g3,g4,g5,g6,g7,g8,g9⟩:=hm
 have hk:dX [p] h (h.upd p (some (.cells (scL kv tv ev mv most bv s' er').toArray aR))):=((Sub.refl _).keepL).upd (by simp)
 have hX:∀ k∈[p],k∈X:=fun k hk=>by simp at hk; subst hk; exact g8
 have hD:Sub (del h X) (del (h.upd p (some (.cells (scL kv tv ev mv most bv s' er').toArray aR))) X):=hk.del hX fun k hk=>.inl hk
 refine⟨V.T.get_upd_same _ _ _,g2.sub hD,g3.sub hD,g4.sub hD (qA.sub hD),g5.sub hD,by rw[hb]; exact g6.sub hD,?_,g8,g9⟩
 rw[hms]
 exact g7.keep hk hX (fun q hq k hk=>by simp at hk; subst hk; exact g9 q hq) (fun k hk=>.inl hk) fun k hk=>hk
theorem ScV.updB {bv':Value} (hm:ScV ro h X p qs T most er_ kv tv ev mv bv s) (hms:s'.ms=s.ms) (hb:Sl ro (del h X) bv' 1 (bP s'.kept)):ScV ro (h.upd p (some (.cells (scL kv tv ev mv most bv' s' er').toArray aR))) X p qs T most er' kv tv ev mv bv' s':=by
 obtain⟨g1,g2,g3,g4,g5,g6,g7,g8,g9⟩:=hm
 have hk:dX [p] h (h.upd p (some (.cells (scL kv tv ev mv most bv' s' er').toArray aR))):=((Sub.refl _).keepL).upd (by simp)
 have hX:∀ k∈[p],k∈X:=fun k hk=>by simp at hk; subst hk; exact g8
 have hD:Sub (del h X) (del (h.upd p (some (.cells (scL kv tv ev mv most bv' s' er').toArray aR))) X):=hk.del hX fun k hk=>.inl hk
 refine⟨V.T.get_upd_same _ _ _,g2.sub hD,g3.sub hD,g4.sub hD (qA.sub hD),g5.sub hD,hb.sub hD,?_,g8,g9⟩
 rw[hms]
 exact g7.keep hk hX (fun q hq k hk=>by simp at hk; subst hk; exact g9 q hq) (fun k hk=>.inl hk) fun k hk=>hk
theorem ScV.step {i:Nat}{q:MqD}{d:AutoD}{m':MacD} (hm:ScV ro h X p qs T most er_ kv tv ev mv bv s) (hq:qs[i]?=some q) (hd:(T.entries.map (·.a))[i]?=some d) (hk:dX (q.1::kE q.2) h h') (hn:MI ro h' X q.1 q.2 (er d) m'):ScV ro h' X p qs T most er_ kv tv ev mv bv { s with ms:=s.ms.set i m' }:=by
 obtain⟨g1,g2,g3,g4,g5,g6,g7,g8,g9⟩:=hm
 have hX:=g7.inX hq
 have hD:Sub (del h X) (del h' X):=hk.del hX fun k hk=>.inl hk
 exact⟨hk p _ g1 (g9 q (List.mem_of_getElem? hq)),g2.sub hD,g3.sub hD,g4.sub hD (qA.sub hD),g5.sub hD,g6.sub hD,g7.step hq hd hk hX hn,g8,g9⟩
theorem ScV.at (hm:ScV ro h X p qs T most er_ kv tv ev mv bv s) {i:Nat}{e:EntD}{m:MacD} (he:T.entries[i]?=some e) (hs:s.ms[i]?=some m):∃ q,qs[i]?=some q∧MI ro h X q.1 q.2 (er e.a) m∧(T.entries.map (·.a))[i]?=some e.a:=by
 obtain⟨g1,g2,g3,g4,g5,g6,g7,g8,g9⟩:=hm
 have l1:=g7.lq
 rw[List.length_map] at l1
 have hi:=(List.getElem?_eq_some_iff.1 he).1
 have e3:(T.entries.map (·.a))[i]?=some e.a:=by rw[List.getElem?_map,he]; rfl
 exact⟨_,List.getElem?_eq_getElem (by omega),g7.at_ i _ _ _ (List.getElem?_eq_getElem (by omega)) e3 hs,e3⟩
end
def iP (p:Nat) (qs:List MqD):List Nat:=p::qs.flatMap nG
theorem aHN {p:Nat}{qs:List MqD}{q:MqD} (hq:q∈qs):∀ k∈q.1::kE q.2,k∈iP p qs:=fun k hk=>List.mem_cons_of_mem _ (List.mem_flatMap.2 ⟨q,hq,hk⟩)
theorem aC5:siz Tryz.prog cB=some 1:=by kernel_rfl
theorem aNv {l:List MacD}{i:Nat}{m:MacD} (h:l[i]?=some m):l.set i m=l:=by
 apply List.ext_getElem?
 intro j
 by_cases hj:i=j
 ·subst hj; rw[List.getElem?_set_self (List.getElem?_eq_some_iff.1 h).1,h]
 ·rw[List.getElem?_set_ne hj]
section
variable {ro:Ro}{h:T Obj}{nx:Nat}{K:KV}{X:List Nat}{p:Nat}{qs:List MqD}{T:TabD}{most er_:Int}{kv tv ev mv bv:Value}{s:ScD}
set_option maxRecDepth 8000 in
set_option maxHeartbeats 2000000 in
theorem aKt {K0:Nat}{q:MqD}{t0:TryD}{e0:Env} (hT:TabR T) (hI:ScI T s) (hv:ScV ro h X p qs T most er_ kv tv ev mv bv (cO s t0)) (hf:Fr h nx) (hq:qs[nR s]?=some q) (ht1:t0.took=s.took) (ht2:t0.steps=s.steps) (hlk:LkOk (s.steps+1) (oG T s) t0)
  (heq:pQ (oG T s).a (s.kept.drop s.took) t0=hU T s) (hsz:s.steps+s.kept.length≤90000) (f0:e0 0=ptr p) (f3:e0 3=ptr q.1)
  (hK:∀ h' nx',nx≤nx'→Fr h' nx'→dX (iP p qs) h h'→ScX ro h' X p qs T most er_ (bT T s).2→K (.bool (bT T s).1) h' nx'):jR ro K e0 h nx:=by
 obtain⟨he1,he2,m9,hm9,_⟩:=hI.at
 generalize hD:(oG T s).a=D at *
 have hok:fN D=true:=by rw[← hD]; exact hT.ok _ he2
 have hokE:=aLZ hok
 have g1:=hv.1
 have g6:Sl ro (del h X) bv 1 (bP s.kept):=hv.2.2.2.2.2.1
 have hpX:p∈X:=hv.2.2.2.2.2.2.2.1
 have htk:=hI.ok.took
 unfold jR
 rw[f0]
 have l6:=aZ (ro:=ro) (z:=0) g1 (show (scL kv tv ev mv most bv (cO s t0) er_)[6]?=some bv from rfl)
 have l10:=aZ (ro:=ro) (z:=0) g1 (show (scL kv tv ev mv most bv (cO s t0) er_)[10]?=some (.int .i64 (t0.took:Int)) from rfl)
 rw[ht1] at l10
 obtain⟨rv,hrv1,hrv2⟩:=Sl.drop (P:=Tryz.prog) g6 kD aC5 (n:=s.took) (by rw[cE]; exact htk) .i64
 have hdr:(bP s.kept).drop s.took=bP (s.kept.drop s.took):=by simp[bP]
 rw[hdr] at hrv2
 (repeat(first|refine aA (by simp (disch:=first|omega|exact nnN _|assumption) only [BB,B2,↓reduceIte,Nat.reduceLeDiff,Nat.reduceAdd,CC,a9,l6,l10]<;>rfl) ?_|apply aD|apply aE|with_reducible first|apply aG|apply aF|apply aK|apply aH|apply aJ|apply aI|apply aL|apply aC))
 refine aA hrv1 ?_
 have hrl:=(hrv2.sub (eT h X)).len
 rw[cE] at hrl
 refine aA hrl ?_
 have hrlen:(s.kept.drop s.took).length=s.kept.length - s.took:=List.length_drop
 have hrb:∀ x∈s.kept.drop s.took,x < 256:=fun x hx=>hI.kb x (List.mem_of_mem_drop hx)
 generalize s.kept.drop s.took=rest at *
 refine bA (fun j e h' nx'=>∃ (i:Nat) (t:TryD),i+j=rest.length∧nx≤nx'∧e 0=ptr p∧e 3=ptr q.1∧e 32=rv∧e 33=.int .i64 rest.length∧e 34=.int .i64 i∧dX (iP p qs) h h'∧Fr h' nx'∧ScV ro h' X p qs T most er_ kv tv ev mv bv (cO s t) ∧
   Sl ro (del h' X) rv 1 (bP rest)∧t.took=s.took+i∧t.steps=s.steps+i∧LkOk (s.steps+1) (oG T s) t∧pQ D (rest.drop i) t=hU T s) ?_ (n:=rest.length)
  ⟨0,t0,by omega,by omega,f0,f3,rfl,rfl,rfl,(Sub.refl _).keepL,hf.mono (by omega),hv,hrv2,by omega,by omega,hlk,by rw[List.drop_zero]; exact heq⟩
 rintro j e h' nx' ⟨i,t,hj,hnx,e00,e03,e32,e33,e34,hkp,hf',hv',hrv',htt,hts,hlk',hend⟩ Q' hc hx
 have g1':=hv'.1
 have hms:(cO s t).ms[nR s]?=some t.m:=by
  show (s.ms.set (nR s) t.m)[nR s]?=_
  rw[List.getElem?_set_self (List.getElem?_eq_some_iff.1 hm9).1]
 unfold qP
 rw[e00,e03,e32,e33,e34]
 refine cY (fun hk=>?_) (fun hk=>?_)
 ·have hk:i < rest.length:=by omega
  have hrvh:=hrv'.sub (eT h' X)
  have hix:=hrvh.ix .i64 (i:=i) (by rw[cE]; exact hk)
  have hld:=hrvh.load1 (pO hk)
  have hbb:=hrb _ (List.getElem_mem hk)
  have hdrp:rest.drop i=rest[i]::rest.drop (i+1):=List.drop_eq_getElem_cons hk
  rw[hdrp,vT] at hend
  generalize rest[i]=b at hld hbb hend
  have l10:=aZ (ro:=ro) (z:=0) g1' (show (scL kv tv ev mv most bv (cO s t) er_)[10]?=some (.int .i64 (t.took:Int)) from rfl)
  have hlt:t.took < 90000∧t.steps < 90000:=by omega
  have hov1:(scL kv tv ev mv most bv (cO s t) er_).set 10 (.int .i64 ((t.took:Int)+1))=scL kv tv ev mv most bv (cO s { t with took:=t.took+1 }) er_:=rfl
  have hv1:=hv'.upd (s':=cO s { t with took:=t.took+1 }) (er':=er_) rfl rfl
  have hov2:(scL kv tv ev mv most bv (cO s { t with took:=t.took+1 }) er_).set 15 (.int .i64 ((t.steps:Int)+1))=scL kv tv ev mv most bv (cO s { t with took:=t.took+1,steps:=t.steps+1 }) er_:=rfl
  have hf1:Fr (h'.upd p (some (.cells (scL kv tv ev mv most bv (cO s { t with took:=t.took+1 }) er_).toArray aR))) nx':=hf'.upd (Nat.le_refl _) (hf'.lt' g1')
  have hkp1:dX (iP p qs) h (h'.upd p (some (.cells (scL kv tv ev mv most bv (cO s { t with took:=t.took+1 }) er_).toArray aR))):=hkp.upd (List.mem_cons_self ..)
  have hD1:Sub (del h' X) (del (h'.upd p (some (.cells (scL kv tv ev mv most bv (cO s { t with took:=t.took+1 }) er_).toArray aR))) X):=dX.del (ids:=[p]) ((Sub.refl _).keepL.upd (by simp)) (fun k hk=>by simp at hk; subst hk; exact hpX) fun k hk=>.inl hk
  generalize hh1:h'.upd p (some (.cells (scL kv tv ev mv most bv (cO s { t with took:=t.took+1 }) er_).toArray aR))=h1 at hv1 hf1 hkp1 hD1
  have l15:=aZ (ro:=ro) (z:=0) hv1.1 (show (scL kv tv ev mv most bv (cO s { t with took:=t.took+1 }) er_)[15]?=some (.int .i64 (t.steps:Int)) from rfl)
  have hv2:=hv1.upd (s':=cO s { t with took:=t.took+1,steps:=t.steps+1 }) (er':=er_) rfl rfl
  have hf2:Fr (h1.upd p (some (.cells (scL kv tv ev mv most bv (cO s { t with took:=t.took+1,steps:=t.steps+1 }) er_).toArray aR))) nx':=hf1.upd (Nat.le_refl _) (hf'.lt' g1')
  have hkp2:dX (iP p qs) h (h1.upd p (some (.cells (scL kv tv ev mv most bv (cO s { t with took:=t.took+1,steps:=t.steps+1 }) er_).toArray aR))):=hkp1.upd (List.mem_cons_self ..)
  have hD2:Sub (del h1 X) (del (h1.upd p (some (.cells (scL kv tv ev mv most bv (cO s { t with took:=t.took+1,steps:=t.steps+1 }) er_).toArray aR))) X):=dX.del (ids:=[p]) ((Sub.refl _).keepL.upd (by simp)) (fun k hk=>by simp at hk; subst hk; exact hpX) fun k hk=>.inl hk
  (repeat(first|refine zzB ?_|apply aD|apply aE|with_reducible first|apply aG|apply aF|apply aK|apply aH|apply aJ|apply aI|apply aL|apply aC))
  refine aA hix (aA hld ?_)
  (repeat(first|refine aA (by simp (disch:=first|omega|exact nnN _|assumption) only [BB,B2,↓reduceIte,Nat.reduceLeDiff,Nat.reduceAdd,CC,a9,l10]<;>rfl) ?_|apply aD|apply aE|with_reducible first|apply aG|apply aF|apply aK|apply aH|apply aJ|apply aI|apply aL|apply aC))
  refine aA (dM g1' (by simp[scL]) rfl rfl) ?_
  rw[hov1,hh1]
  (repeat(first|refine aA (by simp (disch:=first|omega|exact nnN _|assumption) only [BB,B2,↓reduceIte,Nat.reduceLeDiff,Nat.reduceAdd,CC,a9,l15]<;>rfl) ?_|apply aD|apply aE|with_reducible first|apply aG|apply aF|apply aK|apply aH|apply aJ|apply aI|apply aL|apply aC))
  refine aA (dM hv1.1 (by simp[scL]) rfl rfl) ?_
  rw[hov2]
  generalize hh2:h1.upd p (some (.cells (scL kv tv ev mv most bv (cO s { t with took:=t.took+1,steps:=t.steps+1 }) er_).toArray aR))=h2 at hv2 hf2 hkp2 hD2
  obtain⟨q2,hq2,hMI,hmap⟩:=hv2.at (m:=t.m) he1 hms
  rw[hq] at hq2
  cases hq2
  rw[hD] at hMI hmap
  have hst:=hlk'.st
  refine aIK hMI hokE (aG4 (by rw[← hD]; exact hlk'.mok)) hbb (hf2.mono (by omega)) hlk'.w (by omega) (by omega) fun h3 n3 hn3 hf3 hk3 hM3=>?_
  rw[aQT]
  rw[aNx] at hM3
  have hv3:ScV ro h3 X p qs T most er_ kv tv ev mv bv (cO s (tk0 D t b)):=by
   have h9:=hv2.step hq hmap hk3 hM3
   have h8:{ (cO s { t with took:=t.took+1,steps:=t.steps+1 }) with ms:=(cO s { t with took:=t.took+1,steps:=t.steps+1 }).ms.set (nR s) (mW D t.m b) }=cO s (tk0 D t b):=by
    unfold cO tk0
    simp only[List.set_set]
   rw[h8] at h9
   exact h9
  have hqX:=hv2.2.2.2.2.2.2.1.inX hq
  have hkp3:dX (iP p qs) h h3:=hkp2.trans (hk3.mono (aHN (List.mem_of_getElem? hq)))
  have hD3:Sub (del h2 X) (del h3 X):=hk3.del hqX fun k hk=>.inl hk
  have hrv3:=hrv'.sub ((hD1.trans hD2).trans hD3)
  have hlk0:=hlk'.tk0 hT he2 hbb
  have hlk1:=hlk'.tk1 hT he2 hbb
  rw[hD] at hlk0 hlk1
  cases hon:onM D t.m b with
  | false =>
   rw[hon] at hend
   have hend:(true,tk0 D t b)=hU T s:=hend
   (repeat(first|refine zzB ?_|apply aD|apply aE|with_reducible first|apply aG|apply aF|apply aK|apply aH|apply aJ|apply aI|apply aL|apply aC))
   refine hx _ _ _ _ (fun e=>by cases e) (fB ?_)
   refine⟨h3,Sub.refl _,?_⟩
   have h9:=hK h3 (n3+2) (by omega) (hf3.mono (by omega)) hkp3
   have e1:(bT T s).2=cO s (tk0 D t b):=by show cO s (hU T s).2=_; rw[← hend]
   have e2:(bT T s).1=true:=by show ((hU T s).1 || s.closed)=true; rw[← hend]; rfl
   rw[e1,e2] at h9
   exact h9 hv3.x
  | true =>
   rw[hon,if_pos rfl] at hend
   (repeat(first|refine zzB ?_|apply aD|apply aE|with_reducible first|apply aG|apply aF|apply aK|apply aH|apply aJ|apply aI|apply aL|apply aC))
   have hM3':MI ro h3 X q.1 q.2 (er D) (tk0 D t b).m:=hM3
   have hmok3:MOk D (tk0 D t b).m:=by rw[← hD]; rw[← hD] at hlk0; exact hlk0.mok
   refine aIJ hM3' hokE (aG4 hmok3) (hf3.mono (by omega)) fun n4 hn4=>?_
   rw[aNr]
   have hru:rH D (tk0 D t b).m=rH D (mW D t.m b):=rfl
   rw[hru]
   have hnext:∀ (e':Env) (h':V.T Obj) (n':Nat),e' 0=ptr p→e' 3=ptr q.1→e' 32=rv→e' 33=.int .i64 rest.length→e' 34=.int .i64 i→nx≤n'→dX (iP p qs) h h'→Fr h' n'→ScV ro h' X p qs T most er_ kv tv ev mv bv (cO s (tk1 D t b))→Sl ro (del h' X) rv 1 (bP rest)→jT ro Q' e' h' n':=by
    intro e' h' n' d0 d3 d32 d33 d34 dn dk df dv ds
    unfold jT
    rw[d34]
    (repeat(first|refine zzB ?_|apply aD|apply aE|with_reducible first|apply aG|apply aF|apply aK|apply aH|apply aJ|apply aI|apply aL|apply aC))
    exact hc (j - 1) _ _ _ _ (by omega) ⟨i+1,tk1 D t b,by omega,by omega,d0,d3,d32,d33,rfl,dk,df.mono (by omega),dv,ds,by rw[aJ1]; omega,by rw[aG1]; omega,hlk1,hend⟩ (Sub.refl _)
   by_cases hr:rH D (mW D t.m b)=-1
   ·have e1:tk1 D t b=tk0 D t b:=by unfold tk1; rw[if_pos hr]
    refine aA2 (by omega) ?_
    (repeat(first|refine zzB ?_|apply aD|apply aE|with_reducible first|apply aG|apply aF|apply aK|apply aH|apply aJ|apply aI|apply aL|apply aC))
    refine hnext _ _ _ e00 e03 e32 e33 e34 ?_ hkp3 ?_ (by rw[e1]; exact hv3) hrv3
    ·omega
    ·exact hf3.mono (by omega)
   ·have e1:tk1 D t b=⟨t.took+1,t.took+1,rH D (mW D t.m b),t.steps+1,mW D t.m b⟩:=by unfold tk1; rw[if_neg hr]
    refine aGI (by omega) ?_
    have l10b:=aZ (ro:=ro) (z:=0) hv3.1 (show (scL kv tv ev mv most bv (cO s (tk0 D t b)) er_)[10]?=some (.int .i64 ((t.took+1:Nat):Int)) from rfl)
    have hov4:(scL kv tv ev mv most bv (cO s (tk0 D t b)) er_).set 11 (.int .i64 ((t.took+1:Nat):Int))=scL kv tv ev mv most bv (cO s { tk0 D t b with held:=t.took+1 }) er_:=rfl
    have hv4:=hv3.upd (s':=cO s { tk0 D t b with held:=t.took+1 }) (er':=er_) rfl rfl
    have hf4:Fr (h3.upd p (some (.cells (scL kv tv ev mv most bv (cO s { tk0 D t b with held:=t.took+1 }) er_).toArray aR))) n3:=hf3.upd (Nat.le_refl _) (hf3.lt' hv3.1)
    have hkp4:dX (iP p qs) h (h3.upd p (some (.cells (scL kv tv ev mv most bv (cO s { tk0 D t b with held:=t.took+1 }) er_).toArray aR))):=hkp3.upd (List.mem_cons_self ..)
    have hD4:Sub (del h3 X) (del (h3.upd p (some (.cells (scL kv tv ev mv most bv (cO s { tk0 D t b with held:=t.took+1 }) er_).toArray aR))) X):=dX.del (ids:=[p]) ((Sub.refl _).keepL.upd (by simp)) (fun k hk=>by simp at hk; subst hk; exact hpX) fun k hk=>.inl hk
    generalize hh4:h3.upd p (some (.cells (scL kv tv ev mv most bv (cO s { tk0 D t b with held:=t.took+1 }) er_).toArray aR))=h4 at hv4 hf4 hkp4 hD4
    have hov5:(scL kv tv ev mv most bv (cO s { tk0 D t b with held:=t.took+1 }) er_).set 12 (.int .i64 (rH D (mW D t.m b)))=scL kv tv ev mv most bv (cO s (tk1 D t b)) er_:=by rw[e1]; rfl
    have hv5:=hv4.upd (s':=cO s (tk1 D t b)) (er':=er_) (by rw[e1]; rfl) (by rw[e1]; rfl)
    have hf5:Fr (h4.upd p (some (.cells (scL kv tv ev mv most bv (cO s (tk1 D t b)) er_).toArray aR))) n3:=hf4.upd (Nat.le_refl _) (hf3.lt' hv3.1)
    have hkp5:dX (iP p qs) h (h4.upd p (some (.cells (scL kv tv ev mv most bv (cO s (tk1 D t b)) er_).toArray aR))):=hkp4.upd (List.mem_cons_self ..)
    have hD5:Sub (del h4 X) (del (h4.upd p (some (.cells (scL kv tv ev mv most bv (cO s (tk1 D t b)) er_).toArray aR))) X):=dX.del (ids:=[p]) ((Sub.refl _).keepL.upd (by simp)) (fun k hk=>by simp at hk; subst hk; exact hpX) fun k hk=>.inl hk
    (repeat(first|refine aA (by simp (disch:=first|omega|exact nnN _|assumption) only [BB,B2,↓reduceIte,Nat.reduceLeDiff,Nat.reduceAdd,CC,a9,l10b]<;>rfl) ?_|apply aD|apply aE|with_reducible first|apply aG|apply aF|apply aK|apply aH|apply aJ|apply aI|apply aL|apply aC))
    refine aA (dM hv3.1 (by simp[scL]) rfl rfl) ?_
    rw[hov4,hh4]
    (repeat(first|refine aA (by simp (disch:=first|omega|exact nnN _|assumption) only [BB,B2,↓reduceIte,Nat.reduceLeDiff,Nat.reduceAdd,CC,a9]<;>rfl) ?_|apply aD|apply aE|with_reducible first|apply aG|apply aF|apply aK|apply aH|apply aJ|apply aI|apply aL|apply aC))
    refine aA (dM hv4.1 (by simp[scL]) rfl rfl) ?_
    rw[hov5]
    refine hnext _ _ _ e00 e03 e32 e33 e34 ?_ hkp5 ?_ hv5 ((hrv3.sub hD4).sub hD5)
    ·omega
    ·exact hf5.mono (by omega)
 ·(repeat(first|refine zzB ?_|apply aD|apply aE|with_reducible first|apply aG|apply aF|apply aK|apply aH|apply aJ|apply aI|apply aL|apply aC))
  refine hx _ _ _ _ (fun e=>by cases e) (d5 (cR ?_))
  have hil:i=rest.length:=by omega
  rw[hil,List.drop_length] at hend
  have hend:(false,t)=hU T s:=hend
  have hfin:∀ (e':Env) n',e' 0=ptr p→nx'≤n'→jS ro K e' h' n':=by
   intro e' n' d0 dn
   unfold jS
   rw[d0]
   have l14:=aZ (ro:=ro) (z:=0) g1' (show (scL kv tv ev mv most bv (cO s t) er_)[14]?=some (.bool s.closed) from rfl)
   (repeat(first|refine aA (by simp (disch:=first|omega|exact nnN _|assumption) only [BB,B2,↓reduceIte,Nat.reduceLeDiff,Nat.reduceAdd,CC,a9,l14]<;>rfl) ?_|apply aD|apply aE|with_reducible first|apply aG|apply aF|apply aK|apply aH|apply aJ|apply aI|apply aL|apply aC))
   refine⟨h',Sub.refl _,?_⟩
   have h9:=hK h' (n'+5) (by omega) (hf'.mono (by omega)) hkp
   have e1:(bT T s).2=cO s t:=by show cO s (hU T s).2=_; rw[← hend]
   have e2:(bT T s).1=s.closed:=by show ((hU T s).1 || s.closed)=_; rw[← hend]; rfl
   rw[e1,e2] at h9
   exact h9 hv'.x
  exact hfin _ _ e00 (by omega)
set_option maxRecDepth 8000 in
set_option maxHeartbeats 1000000 in
theorem aJQ (hm:ScX ro h X p qs T most er_ s) (hT:TabR T) (hI:ScI T s) (hTl:T.entries.length≤1000) (hsz:s.steps+s.kept.length≤90000) (hf:Fr h nx)
  (hK:∀ h' nx',nx≤nx'→Fr h' nx'→dX (iP p qs) h h'→ScX ro h' X p qs T most er_ (bT T s).2→K (.bool (bT T s).1) h' nx'):aN Tryz.prog ro nB [ptr p] h nx K:=by
 obtain⟨kv,tv,ev,mv,bv,hv⟩:=id hm
 have hv:ScV ro h X p qs T most er_ kv tv ev mv bv s:=hv
 obtain⟨he1,he2,m,hm9,hm8⟩:=hI.at
 obtain⟨q,hq,hMI,hmap⟩:=hv.at he1 hm9
 have hc:=hI.c
 have hok:=hT.ok _ he2
 obtain⟨mk1,mk2,mk3⟩:=hI.ms _ _ _ he1 hm9
 have hC512:(er (oG T s).a).counts.length≤512:=(fJ hok).2.1
 have g1:=hv.1
 apply zR
 unfold uO
 have l4:=aZ (ro:=ro) (z:=0) g1 (show (scL kv tv ev mv most bv s er_)[4]?=some mv from rfl)
 have hmv:Sl ro h mv 1 (rG qs):=hv.2.2.2.2.1.sub (eT h X)
 (repeat(first|refine aA (by simp (disch:=first|omega|exact nnN _|assumption) only [BB,B2,↓reduceIte,Nat.reduceLeDiff,Nat.reduceAdd,CC,a9]<;>rfl) ?_|apply aD|apply aE|with_reducible first|apply aG|apply aF|apply aK|apply aH|apply aJ|apply aI|apply aL|apply aC))
 refine aA l4 ?_
 refine aBu hm (by omega) fun n1 hn1=>⟨fW g1 g1,?_⟩
 have hql:=(List.getElem?_eq_some_iff.1 hq).1
 have hqe:=(List.getElem?_eq_some_iff.1 hq).2
 refine aA (hmv.ix .i64 (by rw[wA]; exact hql)) ?_
 have hld:=hmv.load1 (aGP hql)
 rw[hqe] at hld
 refine aA hld ?_
 have LA:=aEW (ro:=ro) (z:=0) (off:=10) (n:=3) g1 (by simp[scL])
 have hdt:((scL kv tv ev mv most bv s er_).drop 10).take 3=[.int .i64 (s.took:Int),.int .i64 (s.held:Int),.int .i64 s.rule]:=rfl
 rw[hdt] at LA
 (repeat(first|refine aA (by simp (disch:=first|omega|exact nnN _|assumption) only [BB,B2,↓reduceIte,Nat.reduceLeDiff,Nat.reduceAdd,CC,a9]<;>rfl) ?_|apply aD|apply aE|with_reducible first|apply aG|apply aF|apply aK|apply aH|apply aJ|apply aI|apply aL|apply aC))
 refine aA LA ?_
 refine aA aCE ?_
 refine aA aMB ?_
 by_cases ht:s.took=0
 ·have hh0:s.held=0:=by have:=hI.ok.held; omega
  have hr0:s.rule=-1:=by
   by_cases hr:s.rule=-1
   ·exact hr
   ·have:=hI.ok.some hr; omega
  rw[ht,hh0,hr0]
  refine aA aPn ?_
  (repeat(first|refine zzB ?_|apply aD|apply aE|with_reducible first|apply aG|apply aF|apply aK|apply aH|apply aJ|apply aI|apply aL|apply aC))
  refine aGn hMI (aG4 mk1) hC512 (hf.mono (by omega)) mk2 (by omega) fun h2 n2 hn2 hf2 hk2 hM2=>?_
  have hv2:=hv.step hq hmap hk2 hM2
  have hts:oI s=⟨s.took,s.held,s.rule,s.steps,aEo m⟩:=by unfold oI; rw[if_pos ht,hm8]
  refine aKt (K0:=0) (kv:=kv) (tv:=tv) (ev:=ev) (mv:=mv) (bv:=bv) (q:=q) (t0:=oI s) hT hI ?_ hf2 hq rfl rfl (hI.lk hT) rfl hsz rfl rfl fun h' n' h3 h4 h5 h6=>hK h' n' (by omega) h4 ((hk2.mono (aHN (List.mem_of_getElem? hq))).trans h5) h6
  rw[hts]
  exact hv2
 ·refine aA (aPo (by omega)) ?_
  (repeat(first|refine zzB ?_|apply aD|apply aE|with_reducible first|apply aG|apply aF|apply aK|apply aH|apply aJ|apply aI|apply aL|apply aC))
  have hts:oI s=⟨s.took,s.held,s.rule,s.steps,m⟩:=by unfold oI; rw[if_neg ht,hm8]
  refine aKt (K0:=0) (kv:=kv) (tv:=tv) (ev:=ev) (mv:=mv) (bv:=bv) (q:=q) (t0:=oI s) hT hI ?_ (hf.mono (by omega)) hq rfl rfl (hI.lk hT) rfl hsz rfl rfl fun h' n' h3 h4 h5 h6=>hK h' n' (by omega) h4 h5 h6
  rw[hts]
  have:cO s ⟨s.took,s.held,s.rule,s.steps,m⟩=s:=by
   unfold cO
   simp only[aNv hm9]
  rw[this]
  exact hv
end
end V
end Go.Proofs.YtcaccnneblghgaaGreat
namespace Go.Proofs.YtcaccnneblghgaaGreat
namespace V
attribute [local irreducible] rJ aN aB
@[irreducible] def rU (ro:Ro) (K:KV):Env→T Obj→Nat→Prop:=fun e h nx=>aN Tryz.prog ro l5 [(e 0)] h (nx+2) fun a' h2 n3=>aB (nth 0 a') fun b'=>aB (nth 1 a') fun c'=>aB (cA Tryz.prog ro h2 (n3+8) #[eG,eG] [(e 6),b']) fun r6=>∃ h7,Sub h7 r6.2.1∧K (.tuple #[r6.1,c']) h7 (r6.2.2+3)
@[irreducible] def aBd (ro:Ro):PT:=fun e h nx Q=>aB (aO .lss (e 15) (e 14)) fun f'=>aQ f' (aB (cN 1 (e 13) (e 15)) fun g'=>aB (load1 ro h g') fun c'=>aN Tryz.prog ro m6 [(e 0),c'] h (nx+7) fun e' j' k'=>aB (nth 0 e') fun d'=>aB (nth 1 e') fun b'=>aB (cA Tryz.prog ro j' (k'+8) #[eG,eG] [(e 6),d']) fun a'=>aB (aO .neq b' (Value.int IntKind.i64 0)) fun h'=>aQ h' (Q .ret (puts e [(16,f'),(17,g'),(18,c'),(8,c'),(20,(e 0)),(21,c'),(22,e'),(19,e'),(23,d'),(24,b'),(9,d'),(10,b'),(25,(e 6)),(26,d'),(27,a'.1),(6,a'.1),(28,b'),(29,h'),(30,a'.1),(31,b'),(4,a'.1),(5,b')]) a'.2.1 (a'.2.2+7)) (aB (aO .add (e 15) (Value.int IntKind.i64 1)) fun i'=>Q .normal (puts e [(16,f'),(17,g'),(18,c'),(8,c'),(20,(e 0)),(21,c'),(22,e'),(19,e'),(23,d'),(24,b'),(9,d'),(10,b'),(25,(e 6)),(26,d'),(27,a'.1),(6,a'.1),(28,b'),(29,h'),(32,i'),(15,i')]) a'.2.1 (a'.2.2+5))) (Q (.exit 0) (puts e [(16,f')]) h (nx+1))
@[irreducible] def aGD (ro:Ro) (v0 v1:Value) (h:T Obj) (nx:Nat) (K:KV):Prop:=aB (bG v1) fun e'=>dO (aBd ro) (puts (gK [v0,v1]) [(4,(Value.slice none 0 0)),(5,(Value.int IntKind.i64 0)),(6,(Value.slice none 0 0)),(13,v1),(14,e'),(15,(Value.int IntKind.i64 0))]) h (nx+6) fun f' a' b' c'=>exP f' (rU ro K a' b' c') (fun g'=>cP (Nat.beq g' 0) (rU ro K a' b' c') (False)) (∃ d',Sub d' b'∧K (.tuple #[(a' 4),(a' 5)]) d' c')
theorem aGx {ro:Ro}{v0 v1:Value}{h:T Obj}{nx:Nat}{K:KV} (hw:aGD ro v0 v1 h nx K):aN Tryz.prog ro uC [v0,v1] h nx K:=a7 (P:=Tryz.prog) (fn:=Tryz.f16) (by kernel_rfl) (by kernel_rfl) (by kernel_rfl) (Eq.mpr (by kernel_rfl) hw)
@[irreducible] def vH (ro:Ro) (K:KV):Env→T Obj→Nat→Prop:=fun e h nx=>∃ h5,Sub h5 h∧K (Value.bool true) h5 (nx+1)
@[irreducible] def aAd (ro:Ro):PT:=fun e h nx Q=>aB (bG (e 0)) fun a'=>aB (aO .lss (e 5) a') fun b'=>aQ b' (aB (cN 3 (e 0) (e 5)) fun c'=>aB (loadA ro h 3 c') fun d'=>aB (cN 3 (e 1) (e 5)) fun e'=>aB (loadA ro h 3 e') fun f'=>aB (dY Tryz.prog 20 bE) fun i'=>aB (aFN i' .neq d' f') fun g'=>aQ g' (Q .ret (puts e [(11,(e 5)),(12,(e 0)),(13,a'),(14,b'),(17,(e 0)),(18,(e 5)),(19,c'),(20,d'),(21,(e 1)),(22,(e 5)),(23,e'),(24,f'),(25,g'),(4,(Value.bool false))]) h (nx+14)) (aB (aO .add (e 5) (Value.int IntKind.i64 1)) fun h'=>Q .normal (puts e [(11,(e 5)),(12,(e 0)),(13,a'),(14,b'),(17,(e 0)),(18,(e 5)),(19,c'),(20,d'),(21,(e 1)),(22,(e 5)),(23,e'),(24,f'),(25,g'),(15,(e 5)),(16,h'),(5,h')]) h (nx+16))) (Q (.exit 0) (puts e [(11,(e 5)),(12,(e 0)),(13,a'),(14,b')]) h (nx+4))
@[irreducible] def aEn (ro:Ro) (v0 v1:Value) (h:T Obj) (nx:Nat) (K:KV):Prop:=aB (bG v0) fun d'=>aB (bG v1) fun e'=>aB (aO .neq d' e') fun f'=>aQ f' (∃ h4,Sub h4 h∧K (Value.bool false) h4 (nx+7)) (dO (aAd ro) (puts (gK [v0,v1]) [(4,(Value.bool false)),(6,v0),(7,d'),(8,v1),(9,e'),(10,f'),(5,(Value.int IntKind.i64 0))]) h (nx+7) fun h' a' b' c'=>exP h' (vH ro K a' b' c') (fun i'=>cP (Nat.beq i' 0) (vH ro K a' b' c') (False)) (∃ g',Sub g' b'∧K (a' 4) g' c'))
theorem aFg {ro:Ro}{v0 v1:Value}{h:T Obj}{nx:Nat}{K:KV} (hw:aEn ro v0 v1 h nx K):aN Tryz.prog ro wV [v0,v1] h nx K:=a7 (P:=Tryz.prog) (fn:=Tryz.f17) (by kernel_rfl) (by kernel_rfl) (by kernel_rfl) (Eq.mpr (by kernel_rfl) hw)
end V
end Go.Proofs.YtcaccnneblghgaaGreat
namespace Go.Proofs.YtcaccnneblghgaaGreat
namespace V
attribute [local irreducible] aB ifP aQ cV eS exP cP
def pD (t:TokD):List Value:=[.int .i64 t.rule,.int .i64 (t.from_:Int),.int .i64 (t.to:Int)]
def iL (l:List TokD):List (List Value):=l.map pD
theorem mT (l:List TokD):(iL l).length=l.length:=by simp[iL]
theorem aG2 {l:List TokD}{i:Nat} (hi:i < l.length):(iL l)[i]?=some (pD l[i]):=by simp[iL,hi]
theorem aMA:dY Tryz.prog 20 bE=some [1,1,1]:=by kernel_rfl
theorem aOt (a b:TokD):aFN [1,1,1] .neq (.agg (pD a).toArray) (.agg (pD b).toArray)=some (.bool (!decide (a=b))):=by
 obtain⟨r,f,t⟩:=a
 obtain⟨r',f',t'⟩:=b
 unfold aFN pD
 by_cases h1:r=r'
 ·by_cases h2:f=f'
  ·by_cases h3:t=t'
   ·subst h1; subst h2; subst h3; simp[dH,gY]
   ·have:¬((t:Int)=(t':Int)):=by omega
    simp[dH,gY,h1,h2,h3,this]
  ·have:¬((f:Int)=(f':Int)):=by omega
   simp[dH,gY,h1,h2,this]
 ·simp[dH,gY,h1]
section
variable {ro:Ro}{h:T Obj}{nx:Nat}{K:KV}
set_option maxRecDepth 4000 in
theorem aHW {v1 v2:Value}{l m:List TokD} (hl:l.length≤1000000) (hm:m.length≤1000000) (g1:Sl ro h v1 3 (iL l)) (g2:Sl ro h v2 3 (iL m)) (hK:∀ nx',nx≤nx'→K (.bool (decide (l=m))) h nx'):aN Tryz.prog ro wV [v1,v2] h nx K:=by
 have n1:=g1.len
 have n2:=g2.len
 rw[mT] at n1 n2
 apply aFg
 unfold aEn
 refine aA n1 (aA n2 ?_)
 by_cases hlm:l.length=m.length
 ·refine aA2 (by omega) ?_
  (repeat(first|refine zzB ?_|apply aD|apply aE|with_reducible first|apply aG|apply aF|apply aK|apply aH|apply aJ|apply aI|apply aL|apply aC))
  refine bA (fun j e h' nx'=>∃ k:Nat,k+j=l.length∧nx≤nx'∧e 0=v1∧e 1=v2∧e 5=.int .i64 k∧h'=h∧l.take k=m.take k) ?_ (n:=l.length) ⟨0,by omega,by omega,rfl,rfl,rfl,rfl,rfl⟩
  rintro j e h' nx' ⟨k,hkj,hnx,e0,e1,e5,rfl,hq⟩ Q' hc hx
  unfold aAd
  rw[e0,e1,e5]
  refine aA n1 ?_
  refine cY (fun hk=>?_) (fun hk=>?_)
  ·have hk:k < l.length:=by omega
   have i1:=g1.ix .i64 (i:=k) (by rw[mT]; exact hk)
   have i2:=g2.ix .i64 (i:=k) (by rw[mT]; omega)
   have a1:=g1.loadA (aG2 hk)
   have a2:=g2.loadA (aG2 (show k < m.length by omega))
   (repeat(first|refine zzB ?_|apply aD|apply aE|with_reducible first|apply aG|apply aF|apply aK|apply aH|apply aJ|apply aI|apply aL|apply aC))
   refine aA i1 (aA a1 (aA i2 (aA a2 (aA aMA (aA (aOt _ _) ?_)))))
   by_cases he:l[k]=m[k]'(by omega)
   ·rw[decide_eq_true he,Bool.not_true]
    (repeat(first|refine zzB ?_|apply aD|apply aE|with_reducible first|apply aG|apply aF|apply aK|apply aH|apply aJ|apply aI|apply aL|apply aC))
    refine hc (j - 1) _ _ _ _ (by omega) ⟨k+1,by omega,by omega,e0,e1,rfl,rfl,?_⟩ (Sub.refl _)
    rw[List.take_succ_eq_append_getElem hk,List.take_succ_eq_append_getElem (show k < m.length by omega),hq,he]
   ·rw[decide_eq_false he,Bool.not_false]
    (repeat(first|refine zzB ?_|apply aD|apply aE|with_reducible first|apply aG|apply aF|apply aK|apply aH|apply aJ|apply aI|apply aL|apply aC))
    refine hx _ _ _ _ (fun e=>by cases e) (fB ?_)
    have:decide (l=m)=false:=decide_eq_false fun e=>by subst e; exact he rfl
    rw[this] at hK
    exact⟨_,Sub.refl _,hK _ (by omega)⟩
  ·(repeat(first|refine zzB ?_|apply aD|apply aE|with_reducible first|apply aG|apply aF|apply aK|apply aH|apply aJ|apply aI|apply aL|apply aC))
   refine hx _ _ _ _ (fun e=>by cases e) (d5 (cR ?_))
   unfold vH
   have:decide (l=m)=true:=decide_eq_true (by
    rw[List.take_of_length_le (by omega),List.take_of_length_le (by omega)] at hq
    exact hq)
   rw[this] at hK
   exact⟨_,Sub.refl _,hK _ (by omega)⟩
 ·refine aGI (by omega) ?_
  (repeat(first|refine zzB ?_|apply aD|apply aE|with_reducible first|apply aG|apply aF|apply aK|apply aH|apply aJ|apply aI|apply aL|apply aC))
  have:decide (l=m)=false:=decide_eq_false fun e=>hlm (by rw[e])
  rw[this] at hK
  exact⟨_,Sub.refl _,hK _ (by omega)⟩
end
end V
end Go.Proofs.YtcaccnneblghgaaGreat
namespace Go.Proofs.YtcaccnneblghgaaGreat
namespace V
attribute [local irreducible] aB ifP aQ cV eS exP cP
theorem aCA:zer Tryz.prog bE=some (.agg #[.int .i64 0,.int .i64 0,.int .i64 0]):=by kernel_rfl
theorem aL4 (a b c:Int):fO Tryz.prog bE [(0,.int .i64 a),(1,.int .i64 b),(2,.int .i64 c)]=some (.agg #[.int .i64 a,.int .i64 b,.int .i64 c]):=by kernel_rfl
section
variable {ro:Ro}{h h0 h':T Obj}{nx nx0:Nat}{K:KV}{X:List Nat}{p:Nat}{qs:List MqD}{T:TabD}{most er_ er':Int}{kv tv ev mv bv:Value}{s s':ScD}
theorem ScV.fin {bv':Value} (hm:ScV ro h0 X p qs T most er_ kv tv ev mv bv s) (hk:dX [p] h0 h') (hg:h'.get p=some (.cells (scL kv tv ev mv most bv' s' er').toArray aR)) (hms:s'.ms=s.ms) (hb:Sl ro (del h0 X) bv' 1 (bP s'.kept)):ScV ro h' X p qs T most er' kv tv ev mv bv' s':=by
 obtain⟨g1,g2,g3,g4,g5,g6,g7,g8,g9⟩:=hm
 have hX:∀ k∈[p],k∈X:=fun k hk=>by simp at hk; subst hk; exact g8
 have hD:Sub (del h0 X) (del h' X):=hk.del hX fun k hk=>.inl hk
 refine⟨hg,g2.sub hD,g3.sub hD,g4.sub hD (qA.sub hD),g5.sub hD,hb.sub hD,?_,g8,g9⟩
 rw[hms]
 exact g7.keep hk hX (fun q hq k hk=>by simp at hk; subst hk; exact g9 q hq) (fun k hk=>.inl hk) fun k hk=>hk
set_option maxRecDepth 8000 in
set_option maxHeartbeats 2000000 in
theorem aMp {tb rb:Nat}{e0:Env} (hv:ScV ro h0 X p qs T most er_ kv tv ev mv bv s) (hT:TabR T) (hI:ScI T s) (hk:s.kept≠[]) (hsz:s.at_+s.kept.length≤90000) (hf:Fr h nx) (hf0:Fr h0 nx0) (hs:Sub h0 h) (htb:nx0≤tb) (hrb:nx0≤rb) (hne:rb≠tb)
  (gt:h.get tb=some (.cells (pD (pG T s)).toArray bE)) (gr:h.get rb=some (.cells [Value.int .i64 0,.int .i64 0,.int .i64 0].toArray bE)) (f0:e0 0=ptr p) (f2:e0 2=ptr rb) (f3:e0 3=ptr tb) (hn:nx0≤nx)
  (hK:∀ h' nx',nx≤nx'→Fr h' nx'→dX [p] h0 h'→ScX ro h' X p qs T most er_ (lS T s)→K (.agg (pD (pG T s)).toArray) h' nx'):kB ro K e0 h nx:=by
 obtain⟨hl1,hl2⟩:=uG hI.ok hk
 have g10:=hv.1
 have g1:=hs _ _ g10
 have hplt:=hf0.lt' g10
 have hbv:Sl ro (del h0 X) bv 1 (bP s.kept):=hv.2.2.2.2.2.1
 have hpX:p∈X:=hv.2.2.2.2.2.2.2.1
 have hbvh:=(hbv.sub (eT h0 X)).sub hs
 unfold kB
 rw[f0,f3]
 have t0:=aZ (ro:=ro) (z:=0) gt (show (pD (pG T s))[0]?=some (.int .i64 (mU T s)) from rfl)
 have t1:=aZ (ro:=ro) (z:=0) gt (show (pD (pG T s))[1]?=some (.int .i64 (s.at_:Int)) from rfl)
 have t2:=aZ (ro:=ro) (z:=0) gt (show (pD (pG T s))[2]?=some (.int .i64 ((s.at_+eY s:Nat):Int)) from rfl)
 have l6:=aZ (ro:=ro) (z:=0) g1 (show (scL kv tv ev mv most bv s er_)[6]?=some bv from rfl)
 (repeat(first|refine zzB ?_|apply aD|apply aE|with_reducible first|apply aG|apply aF|apply aK|apply aH|apply aJ|apply aI|apply aL|apply aC))
 refine aA t2 ?_
 (repeat(first|refine zzB ?_|apply aD|apply aE|with_reducible first|apply aG|apply aF|apply aK|apply aH|apply aJ|apply aI|apply aL|apply aC))
 refine aA t1 ?_
 have hsub1:aO .sub (.int .i64 ((s.at_+eY s:Nat):Int)) (.int .i64 (s.at_:Int))=some (.int .i64 (eY s:Int)):=by
  rw[dV,show ((s.at_+eY s:Nat):Int) - (s.at_:Int)=(eY s:Int) by omega,eM (by omega) (by omega)]
 refine aA hsub1 ?_
 (repeat(first|refine aA (by simp (disch:=first|omega|exact nnN _|assumption) only [BB,B2,↓reduceIte,Nat.reduceLeDiff,Nat.reduceAdd,CC,a9,l6]<;>rfl) ?_|apply aD|apply aE|with_reducible first|apply aG|apply aF|apply aK|apply aH|apply aJ|apply aI|apply aL|apply aC))
 rw[show ((eY s:Nat):Int) - 1=((eY s - 1:Nat):Int) by omega]
 refine aA (hbvh.ix .i64 (by rw[cE]; omega)) ?_
 refine aA (hbvh.load1 (pO (show eY s - 1 < s.kept.length by omega))) ?_
 have hline:aO .eql (.int .u8 (s.kept[eY s - 1]:Nat)) (.int .u8 10)=some (.bool (decide (s.kept.getD (eY s - 1) 0=10))):=by
  rw[aT,List.getD_eq_getElem?_getD,List.getElem?_eq_getElem (show eY s - 1 < s.kept.length by omega)]
  have:(((s.kept[eY s - 1]:Nat):Int)=10) ↔ ((some s.kept[eY s - 1]).getD 0=10):=by
   show (((s.kept[eY s - 1]:Nat):Int)=10) ↔ (s.kept[eY s - 1]=10)
   omega
  simp only[this]
 refine aA hline ?_
 (repeat(first|refine aA (by simp (disch:=first|omega|exact nnN _|assumption) only [BB,B2,↓reduceIte,Nat.reduceLeDiff,Nat.reduceAdd,CC,a9]<;>rfl) ?_|apply aD|apply aE|with_reducible first|apply aG|apply aF|apply aK|apply aH|apply aJ|apply aI|apply aL|apply aC))
 generalize hL:decide (s.kept.getD (eY s - 1) 0=10)=L
 refine aA (dM g1 (by simp[scL]) rfl rfl) ?_
 have hov1:(scL kv tv ev mv most bv s er_).set 8 (.bool L)=scL kv tv ev mv most bv { s with line:=L } er_:=rfl
 rw[hov1]
 generalize hh1:h.upd p (some (.cells (scL kv tv ev mv most bv { s with line:=L } er_).toArray aR))=h1
 have g2:h1.get p=some (.cells (scL kv tv ev mv most bv { s with line:=L } er_).toArray aR):=by rw[← hh1,V.T.get_upd_same]
 have gt1:h1.get tb=some (.cells (pD (pG T s)).toArray bE):=by rw[← hh1,V.T.get_upd_ne _ _ (by omega)]; exact gt
 have gr1:h1.get rb=some (.cells [Value.int .i64 0,.int .i64 0,.int .i64 0].toArray bE):=by rw[← hh1,V.T.get_upd_ne _ _ (by omega)]; exact gr
 have hk1:dX [p] h0 h1:=by rw[← hh1]; exact hs.keepL.upd (by simp)
 have hf1:Fr h1 nx:=by rw[← hh1]; exact hf.upd (Nat.le_refl _) (by omega)
 have l62:=aZ (ro:=ro) (z:=0) g2 (show (scL kv tv ev mv most bv { s with line:=L } er_)[6]?=some bv from rfl)
 (repeat(first|refine aA (by simp (disch:=first|omega|exact nnN _|assumption) only [BB,B2,↓reduceIte,Nat.reduceLeDiff,Nat.reduceAdd,CC,a9,l62]<;>rfl) ?_|apply aD|apply aE|with_reducible first|apply aG|apply aF|apply aK|apply aH|apply aJ|apply aI|apply aL|apply aC))
 obtain⟨rv,hrv1,hrv2⟩:=Sl.drop (P:=Tryz.prog) hbv kD aC5 (n:=eY s) (by rw[cE]; exact hl2) .i64
 have hdr:(bP s.kept).drop (eY s)=bP (s.kept.drop (eY s)):=by simp[bP]
 rw[hdr] at hrv2
 refine aA hrv1 ?_
 have t21:=aZ (ro:=ro) (z:=0) gt1 (show (pD (pG T s))[2]?=some (.int .i64 ((s.at_+eY s:Nat):Int)) from rfl)
 (repeat(first|refine zzB ?_|apply aD|apply aE|with_reducible first|apply aG|apply aF|apply aK|apply aH|apply aJ|apply aI|apply aL|apply aC))
 refine aA t21 ?_
 have hrvf:∃ o n c,rv=.slice o n c:=by
  rcases hrv2 with ⟨h9,_⟩ | ⟨a,c,h9,_⟩
  ·exact⟨_,_,_,h9⟩
  ·exact⟨_,_,_,h9⟩
 (repeat(first|refine aA (by simp (disch:=first|omega|exact nnN _|assumption) only [BB,B2,↓reduceIte,Nat.reduceLeDiff,Nat.reduceAdd,CC,a9]<;>rfl) ?_|apply aD|apply aE|with_reducible first|apply aG|apply aF|apply aK|apply aH|apply aJ|apply aI|apply aL|apply aC))
 refine aA (dM g2 (by simp[scL]) hrv2.ok (by obtain⟨o,n,c,h9⟩:=hrvf; rw[h9]; rfl)) ?_
 have hov2:(scL kv tv ev mv most bv { s with line:=L } er_).set 6 rv=scL kv tv ev mv most rv { s with line:=L,kept:=s.kept.drop (eY s) } er_:=rfl
 rw[hov2]
 generalize hh2:h1.upd p (some (.cells (scL kv tv ev mv most rv { s with line:=L,kept:=s.kept.drop (eY s) } er_).toArray aR))=h2
 have g3:h2.get p=some (.cells (scL kv tv ev mv most rv { s with line:=L,kept:=s.kept.drop (eY s) } er_).toArray aR):=by rw[← hh2,V.T.get_upd_same]
 have gt2:h2.get tb=some (.cells (pD (pG T s)).toArray bE):=by rw[← hh2,V.T.get_upd_ne _ _ (by omega)]; exact gt1
 have gr2:h2.get rb=some (.cells [Value.int .i64 0,.int .i64 0,.int .i64 0].toArray bE):=by rw[← hh2,V.T.get_upd_ne _ _ (by omega)]; exact gr1
 have hk2:dX [p] h0 h2:=by rw[← hh2]; exact hk1.upd (by simp)
 have hf2:Fr h2 nx:=by rw[← hh2]; exact hf1.upd (Nat.le_refl _) (by omega)
 refine⟨fW gt1 gt2,?_⟩
 (repeat(first|refine aA (by simp (disch:=first|omega|exact nnN _|assumption) only [BB,B2,↓reduceIte,Nat.reduceLeDiff,Nat.reduceAdd,CC,a9]<;>rfl) ?_|apply aD|apply aE|with_reducible first|apply aG|apply aF|apply aK|apply aH|apply aJ|apply aI|apply aL|apply aC))
 refine aA (dM g3 (by simp[scL]) rfl rfl) ?_
 have hov3:(scL kv tv ev mv most rv { s with line:=L,kept:=s.kept.drop (eY s) } er_).set 7 (.int .i64 ((s.at_+eY s:Nat):Int))=scL kv tv ev mv most rv { s with line:=L,kept:=s.kept.drop (eY s),at_:=s.at_+eY s } er_:=rfl
 rw[hov3]
 generalize hh3:h2.upd p (some (.cells (scL kv tv ev mv most rv { s with line:=L,kept:=s.kept.drop (eY s),at_:=s.at_+eY s } er_).toArray aR))=h3
 have g4:h3.get p=some (.cells (scL kv tv ev mv most rv { s with line:=L,kept:=s.kept.drop (eY s),at_:=s.at_+eY s } er_).toArray aR):=by rw[← hh3,V.T.get_upd_same]
 have gt3:h3.get tb=some (.cells (pD (pG T s)).toArray bE):=by rw[← hh3,V.T.get_upd_ne _ _ (by omega)]; exact gt2
 have gr3:h3.get rb=some (.cells [Value.int .i64 0,.int .i64 0,.int .i64 0].toArray bE):=by rw[← hh3,V.T.get_upd_ne _ _ (by omega)]; exact gr2
 have hk3:dX [p] h0 h3:=by rw[← hh3]; exact hk2.upd (by simp)
 have hf3:Fr h3 nx:=by rw[← hh3]; exact hf2.upd (Nat.le_refl _) (by omega)
 refine aA aCE ?_
 (repeat(first|refine aA (by simp (disch:=first|omega|exact nnN _|assumption) only [BB,B2,↓reduceIte,Nat.reduceLeDiff,Nat.reduceAdd,CC,a9]<;>rfl) ?_|apply aD|apply aE|with_reducible first|apply aG|apply aF|apply aK|apply aH|apply aJ|apply aI|apply aL|apply aC))
 refine aA (aEz (vs:=[.int .i64 0,.int .i64 0,.int .i64 (-1)]) g4 rfl rfl (by simp[scL]) rfl) ?_
 have hov4:over (scL kv tv ev mv most rv { s with line:=L,kept:=s.kept.drop (eY s),at_:=s.at_+eY s } er_) 10 [.int .i64 0,.int .i64 0,.int .i64 (-1)]=scL kv tv ev mv most rv { s with line:=L,kept:=s.kept.drop (eY s),at_:=s.at_+eY s,took:=0,held:=0,rule:=-1 } er_:=rfl
 rw[hov4]
 generalize hh4:h3.upd p (some (.cells (scL kv tv ev mv most rv { s with line:=L,kept:=s.kept.drop (eY s),at_:=s.at_+eY s,took:=0,held:=0,rule:=-1 } er_).toArray aR))=h4
 have g5:h4.get p=some (.cells (scL kv tv ev mv most rv { s with line:=L,kept:=s.kept.drop (eY s),at_:=s.at_+eY s,took:=0,held:=0,rule:=-1 } er_).toArray aR):=by rw[← hh4,V.T.get_upd_same]
 have gt4:h4.get tb=some (.cells (pD (pG T s)).toArray bE):=by rw[← hh4,V.T.get_upd_ne _ _ (by omega)]; exact gt3
 have gr4:h4.get rb=some (.cells [Value.int .i64 0,.int .i64 0,.int .i64 0].toArray bE):=by rw[← hh4,V.T.get_upd_ne _ _ (by omega)]; exact gr3
 have hk4:dX [p] h0 h4:=by rw[← hh4]; exact hk3.upd (by simp)
 have hf4:Fr h4 nx:=by rw[← hh4]; exact hf3.upd (Nat.le_refl _) (by omega)
 have hj2:∀ (e':Env) (h5:V.T Obj) (n':Nat),e' 2=ptr rb→e' 3=ptr tb→nx≤n'→Fr h5 n'→dX [p] h0 h5→h5.get tb=some (.cells (pD (pG T s)).toArray bE)→h5.get rb=some (.cells [Value.int .i64 0,.int .i64 0,.int .i64 0].toArray bE) →
   h5.get p=some (.cells (scL kv tv ev mv most rv (lS T s) er_).toArray aR)→kC ro K e' h5 n':=by
  intro e' h5 n' d2 d3 dn df dk dt dr dp
  unfold kC
  rw[d2,d3]
  refine aA (dL dt rfl) ?_
  refine aA (mJ (vs:=pD (pG T s)) dr rfl rfl rfl rfl) ?_
  refine aA (dL (by rw[V.T.get_upd_same]) rfl) ?_
  refine⟨_,Sub.refl _,hK _ _ (by omega) ((df.mono (by omega)).upd (Nat.le_refl _) (by have:=df.lt' dr; omega)) ?_ ?_⟩
  ·intro k o hko hnk
   have:=hf0.lt' hko
   rw[V.T.get_upd_ne _ _ (by omega)]
   exact dk k o hko hnk
  ·refine (ScV.fin hv (bv':=rv) (s':=lS T s) (er':=er_) ?_ ?_ rfl hrv2).x
   ·intro k o hko hnk
    have:=hf0.lt' hko
    rw[V.T.get_upd_ne _ _ (by omega)]
    exact dk k o hko hnk
   ·rw[V.T.get_upd_ne _ _ (by omega)]
    exact dp
 have t04:=aZ (ro:=ro) (z:=0) gt4 (show (pD (pG T s))[0]?=some (.int .i64 (mU T s)) from rfl)
 (repeat(first|refine zzB ?_|apply aD|apply aE|with_reducible first|apply aG|apply aF|apply aK|apply aH|apply aJ|apply aI|apply aL|apply aC))
 refine aA t04 ?_
 by_cases hr:mU T s=-1
 ·have hcut:lS T s={ s with line:=L,kept:=s.kept.drop (eY s),at_:=s.at_+eY s,took:=0,held:=0,rule:=-1 }:=by
   unfold lS aDt
   rw[hL,if_neg (by rw[hr]; simp)]
  refine aA2 hr ?_
  (repeat(first|refine zzB ?_|apply aD|apply aE|with_reducible first|apply aG|apply aF|apply aK|apply aH|apply aJ|apply aI|apply aL|apply aC))
  refine hj2 _ _ _ f2 f3 ?_ ?_ hk4 gt4 gr4 (by rw[hcut]; exact g5)
  ·omega
  ·exact hf4.mono (by omega)
 ·obtain⟨he1,he2,m9,hm9,_⟩:=hI.at
  have hrng:0≤mU T s∧mU T s < T.kinds.length:=by
   have hsr:s.rule≠-1:=fun e=>hr (by unfold mU; rw[if_pos e])
   have h9:=hI.ru.resolve_left hsr
   unfold mU
   rw[if_neg hsr,List.getD_eq_getElem?_getD,List.getElem?_eq_getElem (show s.rule.toNat < (oG T s).rules.length by omega)]
   exact hT.rk _ he2 _ (List.getElem_mem _)
  have htl:(mU T s).toNat < T.to.length:=by rw[hT.to]; omega
  have htv:Sl ro h4 tv 1 (kT T.to):=hv.2.2.1.sub (hk4.delS fun k hk=>by simp at hk; subst hk; exact hpX)
  have hix:=Sl.ixI htv .i64 hrng.1 (by rw[eX]; omega)
  have hld:=htv.load1 (kH htl)
  have htb9:=hT.tb _ (List.getElem_mem htl)
  have hcl:=hT.len
  have hgd:T.to.getD (mU T s).toNat 0=T.to[(mU T s).toNat]:=by rw[List.getD_eq_getElem?_getD,List.getElem?_eq_getElem htl]; rfl
  generalize T.to[(mU T s).toNat]=tv9 at hld htb9 hgd
  have l24:=aZ (ro:=ro) (z:=0) g5 (show (scL kv tv ev mv most rv { s with line:=L,kept:=s.kept.drop (eY s),at_:=s.at_+eY s,took:=0,held:=0,rule:=-1 } er_)[2]?=some tv from rfl)
  refine aGI hr ?_
  (repeat(first|refine aA (by simp (disch:=first|omega|exact nnN _|assumption) only [BB,B2,↓reduceIte,Nat.reduceLeDiff,Nat.reduceAdd,CC,a9,l24,t04]<;>rfl) ?_|apply aD|apply aE|with_reducible first|apply aG|apply aF|apply aK|apply aH|apply aJ|apply aI|apply aL|apply aC))
  refine aA hix ?_
  (repeat(first|refine zzB ?_|apply aD|apply aE|with_reducible first|apply aG|apply aF|apply aK|apply aH|apply aJ|apply aI|apply aL|apply aC))
  refine aA hld ?_
  (repeat(first|refine zzB ?_|apply aD|apply aE|with_reducible first|apply aG|apply aF|apply aK|apply aH|apply aJ|apply aI|apply aL|apply aC))
  by_cases htv0:0≤tv9
  ·refine aPi htv0 ?_
   (repeat(first|refine aA (by simp (disch:=first|omega|exact nnN _|assumption) only [BB,B2,↓reduceIte,Nat.reduceLeDiff,Nat.reduceAdd,CC,a9,l24,t04]<;>rfl) ?_|apply aD|apply aE|with_reducible first|apply aG|apply aF|apply aK|apply aH|apply aJ|apply aI|apply aL|apply aC))
   refine aA hix ?_
   (repeat(first|refine zzB ?_|apply aD|apply aE|with_reducible first|apply aG|apply aF|apply aK|apply aH|apply aJ|apply aI|apply aL|apply aC))
   refine aA hld ?_
   (repeat(first|refine aA (by simp (disch:=first|omega|exact nnN _|assumption) only [BB,B2,↓reduceIte,Nat.reduceLeDiff,Nat.reduceAdd,CC,a9]<;>rfl) ?_|apply aD|apply aE|with_reducible first|apply aG|apply aF|apply aK|apply aH|apply aJ|apply aI|apply aL|apply aC))
   have hcut:lS T s={ s with line:=L,kept:=s.kept.drop (eY s),at_:=s.at_+eY s,took:=0,held:=0,rule:=-1,cond:=tv9.toNat }:=by
    unfold lS aDt
    rw[hL,hgd,if_pos ⟨hr,htv0⟩]
   refine aA (dM g5 (by simp[scL]) rfl rfl) ?_
   have hov5:(scL kv tv ev mv most rv { s with line:=L,kept:=s.kept.drop (eY s),at_:=s.at_+eY s,took:=0,held:=0,rule:=-1 } er_).set 9 (.int .i64 tv9)=scL kv tv ev mv most rv (lS T s) er_:=by
    rw[hcut]
    obtain⟨n9,rfl⟩:∃ n9:Nat,tv9=(n9:Int):=⟨tv9.toNat,by omega⟩
    rfl
   rw[hov5]
   refine hj2 _ _ _ f2 f3 ?_ ?_ ?_ ?_ ?_ ?_
   ·omega
   ·exact (hf4.mono (by omega)).upd (Nat.le_refl _) (by omega)
   ·exact hk4.upd (by simp)
   ·rw[V.T.get_upd_ne _ _ (by omega)]; exact gt4
   ·rw[V.T.get_upd_ne _ _ (by omega)]; exact gr4
   ·rw[V.T.get_upd_same]
  ·refine aPh (by omega) ?_
   (repeat(first|refine zzB ?_|apply aD|apply aE|with_reducible first|apply aG|apply aF|apply aK|apply aH|apply aJ|apply aI|apply aL|apply aC))
   have hcut:lS T s={ s with line:=L,kept:=s.kept.drop (eY s),at_:=s.at_+eY s,took:=0,held:=0,rule:=-1 }:=by
    unfold lS aDt
    rw[hL,hgd,if_neg (fun e=>htv0 e.2)]
   refine hj2 _ _ _ f2 f3 ?_ ?_ hk4 gt4 gr4 (by rw[hcut]; exact g5)
   ·omega
   ·exact hf4.mono (by omega)
set_option maxRecDepth 8000 in
set_option maxHeartbeats 2000000 in
theorem aKZ (hm:ScX ro h X p qs T most er_ s) (hT:TabR T) (hI:ScI T s) (hTl:T.entries.length≤1000) (hk:s.kept≠[]) (hsz:s.at_+s.kept.length≤90000) (hf:Fr h nx)
  (hK:∀ h' nx',nx≤nx'→Fr h' nx'→dX [p] h h'→ScX ro h' X p qs T most er_ (lS T s)→K (.agg (pD (pG T s)).toArray) h' nx'):aN Tryz.prog ro nU [ptr p] h nx K:=by
 obtain⟨kv,tv,ev,mv,bv,hv⟩:=id hm
 have hv:ScV ro h X p qs T most er_ kv tv ev mv bv s:=hv
 obtain⟨he1,he2,m9,hm9,_⟩:=hI.at
 have g0:=hv.1
 have hpl:=hf.lt' g0
 have hc:=hI.c
 have hat:s.at_≤90000:=by omega
 have hkl:0 < s.kept.length:=List.length_pos_iff.2 hk
 apply aAO
 unfold wB
 refine aA aCA ?_
 refine aHG (m:=nx) hf (Nat.le_refl _) fun h1 hs1 hf1 g1 _=>?_
 have g1:h1.get nx=some (.cells [Value.int .i64 0,.int .i64 0,.int .i64 0].toArray bE):=g1
 have g01:=hs1 _ _ g0
 have l7:=aZ (ro:=ro) (z:=0) g01 (show (scL kv tv ev mv most bv s er_)[7]?=some (.int .i64 (s.at_:Int)) from rfl)
 (repeat(first|refine aA (by simp (disch:=first|omega|exact nnN _|assumption) only [BB,B2,↓reduceIte,Nat.reduceLeDiff,Nat.reduceAdd,CC,a9,l7]<;>rfl) ?_|apply aD|apply aE|with_reducible first|apply aG|apply aF|apply aK|apply aH|apply aJ|apply aI|apply aL|apply aC))
 refine aA (aL4 _ _ _) ?_
 refine kI (x:=[.int .i64 (-1),.int .i64 (s.at_:Int),.int .i64 ((s.at_:Int)+1)]) (n:=3) aCA rfl rfl rfl rfl hf1 (by omega) fun h2 hs2 hf2 g2 _=>?_
 have g02:=hs2 _ _ g01
 have g12:=hs2 _ _ g1
 have l12:=aZ (ro:=ro) (z:=0) g02 (show (scL kv tv ev mv most bv s er_)[12]?=some (.int .i64 s.rule) from rfl)
 (repeat(first|refine aA (by simp (disch:=first|omega|exact nnN _|assumption) only [BB,B2,↓reduceIte,Nat.reduceLeDiff,Nat.reduceAdd,CC,a9,l12]<;>rfl) ?_|apply aD|apply aE|with_reducible first|apply aG|apply aF|apply aK|apply aH|apply aJ|apply aI|apply aL|apply aC))
 by_cases hr:s.rule=-1
 ·refine aA2 hr ?_
  (repeat(first|refine zzB ?_|apply aD|apply aE|with_reducible first|apply aG|apply aF|apply aK|apply aH|apply aJ|apply aI|apply aL|apply aC))
  have htok:pD (pG T s)=[.int .i64 (-1),.int .i64 (s.at_:Int),.int .i64 ((s.at_:Int)+1)]:=by
   unfold pG pD mU eY
   rw[if_pos hr,if_pos hr]; rfl
  refine aMp (kv:=kv) (tv:=tv) (ev:=ev) (mv:=mv) (bv:=bv) (tb:=nx+11) (rb:=nx) hv hT hI hk hsz ?_ hf (hs1.trans hs2) (by omega) (by omega) (by omega) (by rw[htok]; exact g2) g12 rfl rfl rfl (by omega) fun h' n' h3 h4 h5 h6=>hK h' n' (by omega) h4 h5 h6
  exact hf2.mono (by omega)
 ·refine aGI hr ?_
  have hru:=hI.ru.resolve_left hr
  have hev:=hv.2.2.2.1
  have hev2:SlR ro h2 ev 260 (qA ro h2) T.entries:=hev.sub ((eT h X).trans (hs1.trans hs2)) (qA.sub ((eT h X).trans (hs1.trans hs2)))
  have l3:=aZ (ro:=ro) (z:=0) g02 (show (scL kv tv ev mv most bv s er_)[3]?=some ev from rfl)
  (repeat(first|refine aA (by simp (disch:=first|omega|exact nnN _|assumption) only [BB,B2,↓reduceIte,Nat.reduceLeDiff,Nat.reduceAdd,CC,a9,l3]<;>rfl) ?_|apply aD|apply aE|with_reducible first|apply aG|apply aF|apply aK|apply aH|apply aJ|apply aI|apply aL|apply aC))
  have hm2:ScX ro h2 X p qs T most er_ s:=(hv.sub (hs1.trans hs2)).x
  refine aBu hm2 (by omega) fun n1 hn1=>⟨fW g02 g02,?_⟩
  have hel:=(List.getElem?_eq_some_iff.1 he1).1
  have hee:=(List.getElem?_eq_some_iff.1 he1).2
  obtain⟨y,⟨rv,hy0,hrv⟩,hy2,hy3,hy4,hy5⟩:=hev2.at hel
  rw[hee] at hrv
  refine aA (hev2.ix .i64 hel) ?_
  refine aA (hy4 259) ?_
  refine aA (hy5 259 _ hy0) ?_
  have l11:=aZ (ro:=ro) (z:=0) g02 (show (scL kv tv ev mv most bv s er_)[11]?=some (.int .i64 (s.held:Int)) from rfl)
  have l72:=aZ (ro:=ro) (z:=0) g02 (show (scL kv tv ev mv most bv s er_)[7]?=some (.int .i64 (s.at_:Int)) from rfl)
  (repeat(first|refine aA (by simp (disch:=first|omega|exact nnN _|assumption) only [BB,B2,↓reduceIte,Nat.reduceLeDiff,Nat.reduceAdd,CC,a9,l12]<;>rfl) ?_|apply aD|apply aE|with_reducible first|apply aG|apply aF|apply aK|apply aH|apply aJ|apply aI|apply aL|apply aC))
  refine⟨fW g02 g02,?_⟩
  refine aA (Sl.ixI hrv .i64 hru.1 (by rw[eX]; exact hru.2)) ?_
  have hrl:s.rule.toNat < (oG T s).rules.length:=by omega
  refine aA (hrv.load1 (kH hrl)) ?_
  (repeat(first|refine aA (by simp (disch:=first|omega|exact nnN _|assumption) only [BB,B2,↓reduceIte,Nat.reduceLeDiff,Nat.reduceAdd,CC,a9,l72]<;>rfl) ?_|apply aD|apply aE|with_reducible first|apply aG|apply aF|apply aK|apply aH|apply aJ|apply aI|apply aL|apply aC))
  refine⟨fW g02 g02,?_⟩
  (repeat(first|refine aA (by simp (disch:=first|omega|exact nnN _|assumption) only [BB,B2,↓reduceIte,Nat.reduceLeDiff,Nat.reduceAdd,CC,a9,l11]<;>rfl) ?_|apply aD|apply aE|with_reducible first|apply aG|apply aF|apply aK|apply aH|apply aJ|apply aI|apply aL|apply aC))
  refine⟨fW g02 g02,?_⟩
  have hhl:s.held≤s.kept.length:=Nat.le_trans hI.ok.held hI.ok.took
  have hadd:aO .add (.int .i64 (s.at_:Int)) (.int .i64 (s.held:Int))=some (.int .i64 ((s.at_+s.held:Nat):Int)):=by
   rw[cX,show (s.at_:Int)+(s.held:Int)=((s.at_+s.held:Nat):Int) by omega,eM (by omega) (by omega)]
  refine aA hadd ?_
  (repeat(first|refine zzB ?_|apply aD|apply aE|with_reducible first|apply aG|apply aF|apply aK|apply aH|apply aJ|apply aI|apply aL|apply aC))
  refine aA (dM g2 (Nat.zero_lt_succ _) rfl rfl) ?_
  have hpne:p≠nx+11:=by omega
  have g03:(h2.upd (nx+11) (some (.cells (([Value.int .i64 (-1),.int .i64 (s.at_:Int),.int .i64 ((s.at_:Int)+1)]).set 0 (.int .i64 (oG T s).rules[s.rule.toNat])).toArray bE))).get p=some (.cells (scL kv tv ev mv most bv s er_).toArray aR):=by
   rw[V.T.get_upd_ne _ _ hpne]; exact g02
  refine⟨fW g02 g03,fW g02 g03,?_⟩
  (repeat(first|refine zzB ?_|apply aD|apply aE|with_reducible first|apply aG|apply aF|apply aK|apply aH|apply aJ|apply aI|apply aL|apply aC))
  have htok:pD (pG T s)=over (([Value.int .i64 (-1),.int .i64 (s.at_:Int),.int .i64 ((s.at_:Int)+1)]).set 0 (.int .i64 (oG T s).rules[s.rule.toNat])) 2 [.int .i64 ((s.at_+s.held:Nat):Int)]:=by
   unfold pG pD mU eY
   rw[if_neg hr,if_neg hr,List.getD_eq_getElem?_getD,List.getElem?_eq_getElem hrl]; rfl
  rw[← htok]
  refine aMp (kv:=kv) (tv:=tv) (ev:=ev) (mv:=mv) (bv:=bv) (tb:=nx+11) (rb:=nx) hv hT hI hk hsz ?_ hf ?_ (by omega) (by omega) (by omega) (V.T.get_upd_same _ _ _) ?_ rfl rfl rfl (by omega) fun h' n' h3 h4 h5 h6=>hK h' n' (by omega) h4 h5 h6
  ·exact ((hf2.mono (by omega)).upd (Nat.le_refl _) (by omega)).upd (Nat.le_refl _) (by omega)
  ·intro k o hko
   have:=hf.lt' hko
   rw[V.T.get_upd_ne _ _ (by omega),V.T.get_upd_ne _ _ (by omega)]
   exact hs2 _ _ (hs1 _ _ hko)
  ·rw[V.T.get_upd_ne _ _ (by omega),V.T.get_upd_ne _ _ (by omega)]
   exact g12
end
end V
end Go.Proofs.YtcaccnneblghgaaGreat
namespace Go.Proofs.YtcaccnneblghgaaGreat
namespace V
attribute [local irreducible] aB ifP aQ cV eS exP cP
theorem aOm (id:Nat) (a b c:Int):bQ Tryz.prog eG id 1 [(0,.agg [Value.int .i64 a,.int .i64 b,.int .i64 c].toArray)]=some (.slice (some (own id 3)) 1 1,some (.cells [Value.int .i64 a,.int .i64 b,.int .i64 c].toArray bE)):=by kernel_rfl
theorem aJ3:und Tryz.prog eG=some (.slice bE):=by kernel_rfl
theorem aLU:∃ i,tin Tryz.prog bE=some i∧i.size=3∧i.bytes=24:=xT (by kernel_rfl)
section
variable {ro:Ro}{h h':T Obj}{nx:Nat}{K:KV}{X X':List Nat}{p:Nat}{qs:List MqD}{T:TabD}{most er_ er':Int}{s s':ScD}
theorem ScX.shrink (hm:ScX ro h X p qs T most er_ s) (hX:∀ k∈X',k∈X) (hp:∀ k∈iP p qs,k∈X'):ScX ro h X' p qs T most er_ s:=by
 obtain⟨kv,tv,ev,mv,bv,g1,g2,g3,g4,g5,g6,g7,g8,g9⟩:=hm
 have hD:Sub (del h X) (del h X'):=sS hX
 exact⟨kv,tv,ev,mv,bv,g1,g2.sub hD,g3.sub hD,g4.sub hD (qA.sub hD),g5.sub hD,g6.sub hD,g7.shrink hX fun q hq k hk=>hp k (aHN hq k hk),hp p (List.mem_cons_self ..),g9⟩
theorem ScX.keep {ids:List Nat} (hm:ScX ro h X p qs T most er_ s) (hs:dX ids h h') (h1:∀ k∈ids,k∈X) (h2:∀ k∈ids,k ∉ iP p qs) (h3:∀ k∈X',k∈X∨h.get k=none) (h4:∀ k∈X,k∈X'):ScX ro h' X' p qs T most er_ s:=by
 obtain⟨kv,tv,ev,mv,bv,hv⟩:=hm
 have hv:ScV ro h X p qs T most er_ kv tv ev mv bv s:=hv
 exact (hv.keep hs h1 (fun q hq k hk h9=>h2 k hk (aHN hq k h9)) (fun h9=>h2 p h9 (List.mem_cons_self ..)) h3 h4).x
theorem ScX.own (hm:ScX ro h X p qs T most er_ s):∀ k∈iP p qs,k∈X∧∃ o,h.get k=some o:=fun k hk=>by
 obtain⟨kv,tv,ev,mv,bv,g1,g2,g3,g4,g5,g6,g7,g8,g9⟩:=hm
 rcases List.mem_cons.1 hk with rfl | hk
 ·exact⟨g8,_,g1⟩
 ·obtain⟨q,hq,hk⟩:=List.mem_flatMap.1 hk
  obtain⟨i,hi⟩:=List.getElem?_of_mem hq
  have hl:=(List.getElem?_eq_some_iff.1 hi).1
  obtain⟨c,e,h9,_⟩:=(g7.at_ i q _ _ hi (List.getElem?_eq_getElem (by rw[← g7.lq]; exact hl)) (List.getElem?_eq_getElem (by rw[g7.lm,← g7.lq]; exact hl))).ty k hk
  exact⟨g7.inX hi k hk,_,h9⟩
theorem ScX.ownLt (hm:ScX ro h X p qs T most er_ s) (hf:Fr h nx):∀ k∈iP p qs,k < nx:=fun k hk=>by
 obtain⟨_,o,h9⟩:=hm.own k hk
 exact hf.lt' h9
theorem aK7 (l:List TokD) (t:TokD):iL (l++[t])=iL l++[pD t]:=by simp[iL]
structure TkI (ro:Ro) (X:List Nat) (p:Nat) (qs:List MqD) (T:TabD) (most er_:Int) (h:V.T Obj) (nx:Nat) (s:ScD) (h':V.T Obj) (nx' m:Nat) (s':ScD) (acc:List TokD) (out:Value) (Y:List Nat):Prop where
 km:s'.kept.length≤m
 kp:dX (iP p qs) h h'
 fr':Fr h' nx'
 sc:ScX ro h' (X++Y) p qs T most er_ s'
 oo:dK h' out 3 bE (iL acc) nx
 ob:∀ b∈kV out,b∈Y
 yn:∀ b∈Y,nx≤b
 ii:ScI T s'
 at':s'.at_+s'.kept.length=s.at_+s.kept.length
 eqT:fC T s.kept.length s=(acc++(fC T m s').1,(fC T m s').2)
 al:acc.length+s'.kept.length≤s.kept.length
 le:nx≤nx'
set_option maxRecDepth 8000 in
set_option maxHeartbeats 2000000 in
theorem aAj (hm:ScX ro h X p qs T most er_ s) (hT:TabR T) (hI:ScI T s) (hTl:T.entries.length≤1000) (hsz:s.at_+s.kept.length≤400) (hf:Fr h nx)
  (hK:∀ r h' nx',nx≤nx'→Fr h' nx'→dX (iP p qs) h h'→ScX ro h' X p qs T most er_ (fC T s.kept.length s).2→dK h' r 3 bE (iL (fC T s.kept.length s).1) nx→K r h' nx'):aN Tryz.prog ro i6 [ptr p] h nx K:=by
 have hown:=hm.ownLt hf
 apply xG
 unfold rI
 refine bA (fun j e h' nx'=>∃ s' acc out Y,e 0=ptr p∧e 3=out∧TkI ro X p qs T most er_ h nx s h' nx' j s' acc out Y) ?_ (n:=s.kept.length)
  ⟨s,[],.slice none 0 0,[],rfl,rfl,Nat.le_refl _,(Sub.refl _).keepL,hf.mono (by omega),by rw[List.append_nil]; exact hm,dK.nil,(fun b hb=>by cases hb),(fun b hb=>by cases hb),hI,rfl,rfl,by simp,by omega⟩
 rintro j e h' nx' ⟨s',acc,out,Y,e0,e3,ti⟩ Q' hq hx
 obtain⟨km,kp,fr',sc,oo,ob,yn,ii,at',eqT,al,le⟩:=ti
 obtain⟨kv,tv,ev,mv,bv,hv⟩:=id sc
 have hv:ScV ro h' (X++Y) p qs T most er_ kv tv ev mv bv s':=hv
 have g1:=hv.1
 unfold o9
 rw[e0,e3]
 have l6:=aZ (ro:=ro) (z:=0) g1 (show (scL kv tv ev mv most bv s' er_)[6]?=some bv from rfl)
 have hbl:=(hv.2.2.2.2.2.1.sub (eT h' (X++Y))).len
 rw[cE] at hbl
 have hexit:∀ (e':Env) (h2:V.T Obj) (n':Nat) (s2:ScD),e' 3=out→nx≤n'→Fr h2 n'→dX (iP p qs) h h2→ScX ro h2 (X++Y) p qs T most er_ s2→dK h2 out 3 bE (iL acc) nx→fC T s.kept.length s=(acc,s2)→iJ ro K e' h2 n':=by
  intro e' h2 n' s2 d3 dn df dk ds dout deq
  unfold iJ
  rw[d3]
  refine⟨h2,Sub.refl _,hK out h2 _ (by omega) (df.mono (by omega)) dk ?_ ?_⟩
  ·rw[deq]
   exact ds.shrink (fun k hk=>List.mem_append_left _ hk) fun k hk=>(hm.own k hk).1
  ·rw[deq]; exact dout
 (repeat(first|refine aA (by simp (disch:=first|omega|exact nnN _|assumption) only [BB,B2,↓reduceIte,Nat.reduceLeDiff,Nat.reduceAdd,CC,a9,l6]<;>rfl) ?_|apply aD|apply aE|with_reducible first|apply aG|apply aF|apply aK|apply aH|apply aJ|apply aI|apply aL|apply aC))
 refine aA hbl ?_
 by_cases hk:s'.kept=[]
 ·refine aLC (by rw[hk]; simp) ?_
  (repeat(first|refine zzB ?_|apply aD|apply aE|with_reducible first|apply aG|apply aF|apply aK|apply aH|apply aJ|apply aI|apply aL|apply aC))
  refine hx _ _ _ _ (fun e=>by cases e) (d5 (cR ?_))
  have h9:fC T s.kept.length s=(acc,s'):=by rw[eqT,mK _ hk]; simp
  refine hexit _ _ _ s' ?_ ?_ ?_ kp sc oo h9
  ·exact e3
  ·omega
  ·exact fr'.mono (by omega)
 ·have hkl:0 < s'.kept.length:=List.length_pos_iff.2 hk
  have hst:=aJY ii
  rw[at'] at hst
  have hst2:(s.at_+s.kept.length)*(s.at_+s.kept.length+1)≤400*401:=Nat.mul_le_mul hsz (by omega)
  refine aLD (by omega) ?_
  (repeat(first|refine zzB ?_|apply aD|apply aE|with_reducible first|apply aG|apply aF|apply aK|apply aH|apply aJ|apply aI|apply aL|apply aC))
  refine aJQ sc hT ii hTl (by omega) (fr'.mono (by omega)) fun h2 n2 hn2 hf2 hk2 hs2=>?_
  have hI2:=aGk hT ii hk
  have hout2:dK h2 out 3 bE (iL acc) nx:=oo.keepK hk2 fun id hid hm9=>by
   have:=hown id hm9
   have:=(oo.blk hid).1
   omega
  obtain⟨m,rfl⟩:∃ m,j=m+1:=⟨j - 1,by omega⟩
  rw[iF,if_neg hk] at eqT
  cases hB:(bT T s').1 with
  | false =>
   rw[hB] at eqT
   simp only[Bool.false_eq_true,if_false,List.append_nil] at eqT
   (repeat(first|refine zzB ?_|apply aD|apply aE|with_reducible first|apply aG|apply aF|apply aK|apply aH|apply aJ|apply aI|apply aL|apply aC))
   refine hx _ _ _ _ (fun e=>by cases e) (d5 (cR ?_))
   refine hexit _ _ _ _ ?_ ?_ ?_ (kp.trans hk2) hs2 hout2 eqT
   ·exact e3
   ·omega
   ·exact hf2.mono (by omega)
  | true =>
   rw[hB] at eqT
   simp only[if_true] at eqT
   have hkE:(bT T s').2.kept=s'.kept:=rfl
   have hatE:(bT T s').2.at_=s'.at_:=rfl
   (repeat(first|refine zzB ?_|apply aD|apply aE|with_reducible first|apply aG|apply aF|apply aK|apply aH|apply aJ|apply aI|apply aL|apply aC))
   refine aKZ hs2 hT hI2 hTl (by rw[hkE]; exact hk) (by rw[hkE,hatE,at']; omega) (hf2.mono (by omega)) fun h3 n3 hn3 hf3 hk3 hs3=>?_
   obtain⟨hL1,hL2⟩:=uG hI2.ok (by rw[hkE]; exact hk)
   rw[hkE] at hL2
   have hI3:=aKn hT hI2 (by rw[hkE]; exact hk)
   have hclen:(lS T (bT T s').2).kept.length=s'.kept.length - eY (bT T s').2:=by rw[aAA,hkE]
   have hcat:(lS T (bT T s').2).at_=s'.at_+eY (bT T s').2:=rfl
   have hrt:(pG T (bT T s').2).rule=-1∨0≤(pG T (bT T s').2).rule∧(pG T (bT T s').2).rule < T.kinds.length:=by
    show mU T (bT T s').2=-1∨0≤mU T (bT T s').2∧mU T (bT T s').2 < T.kinds.length
    obtain⟨he1,he2,_⟩:=hI2.at
    by_cases hsr:(bT T s').2.rule=-1
    ·left; unfold mU; rw[if_pos hsr]
    ·right
     have h9:=hI2.ru.resolve_left hsr
     unfold mU
     rw[if_neg hsr,List.getD_eq_getElem?_getD,List.getElem?_eq_getElem (show (bT T s').2.rule.toNat < (oG T (bT T s').2).rules.length by omega)]
     exact hT.rk _ he2 _ (List.getElem_mem _)
   generalize pG T (bT T s').2=t at *
   generalize lS T (bT T s').2=sC at *
   refine kI (x:=pD t) (n:=3) aCA rfl rfl rfl rfl hf3 (Nat.le_refl _) fun h4 hs4 hf4 g4 _=>?_
   have hout4:dK h4 out 3 bE (iL acc) nx:=(hout2.keepK hk3 fun id hid hm9=>by
    simp at hm9
    subst hm9
    have:=hown id (List.mem_cons_self ..)
    have:=(oo.blk hid).1
    omega).keepS hs4
   have hkp4:dX (iP p qs) h h4:=((kp.trans hk2).trans (hk3.mono fun b hb=>by simp at hb; subst hb; exact List.mem_cons_self ..)).trans hs4.keepL
   have hs4x:ScX ro h4 (X++Y) p qs T most er_ sC:=hs3.keep (ids:=[]) hs4.keepL (fun k hk=>by cases hk) (fun k hk=>by cases hk) (fun k hk=>.inl hk) fun k hk=>hk
   have happ:∀ (n75:Nat) (F:Value→Value × Option Obj→Value × V.T Obj × Nat→Env),n3+1≤n75→(∀ x y z,F x y z 0=ptr p)→(∀ x y z,F x y z 3=z.1)→aCp T t=true →
     aB (loadA ro h4 3 (ptr n3)) fun t33=>aB (bQ Tryz.prog eG (n75+2) 1 [(0,t33)]) fun r79=>eS h4 (n75+2) r79.2 fun h80=>aB (cA Tryz.prog ro h80 (n75+4) #[eG,eG] [out,r79.1]) fun r81=>Q' .normal (F t33 r79 r81) r81.2.1 (r81.2.2+1):=by
    intro n75 F hn75 f0 f3 hkT
    refine aA (dL g4 rfl) ?_
    obtain⟨i9,t1,t2,t3⟩:=aLU
    refine wJ (z:=3) (l:=iL acc) (y:=pD t) (aOm _ _ _ _) rfl hout4 aJ3 t1 (by omega) (by omega) aCA rfl rfl (by rw[mT,t3]; unfold big; omega) (by rw[mT]; unfold big; omega) (hf4.mono (by omega)) (by omega) (by omega) (fun e9=>by have:=hf4.lt' (hout4.blk e9).2; omega) fun h5 ho5 hk5 hf5=>?_
    generalize hnv:Value.slice (some (own (n75+4) 3)) (iL acc++[pD t]).length (iL acc++[pD t]).length=out2 at ho5
    have hsb:jC out2=some (n75+4):=by rw[← hnv]; rfl
    have hkk:dX (kV out) h4 h5:=fun b o hb hn9=>hk5 b o hb (by have:=hf4.lt' hb; omega) fun e9=>hn9 (eQ.2 e9)
    have hkO:∀ b∈kV out,b ∉ iP p qs:=fun b hb h9=>by
     have:=hown b h9
     have:=yn b (ob b hb)
     omega
    show Q' .normal (F _ _ (out2,h5,n75+4+1)) h5 (n75+4+1+1)
    refine hq m _ _ _ _ (by omega) ⟨sC,acc++[t],out2,Y++[n75+4],f0 _ _ _,f3 _ _ _,by omega,fun b o hb hn9=>?_,hf5.mono (by omega),?_,by rw[aK7]; exact ho5,fun b hb=>?_,fun b hb=>?_,hI3,by rw[hclen,hcat]; omega,?_,by rw[List.length_append,hclen]; show acc.length+1+_≤_; omega,by omega⟩ (Sub.refl _)
    ·refine hkk b o (hkp4 b o hb hn9) fun h9=>?_
     have:=hf.lt' hb
     have:=yn b (ob b h9)
     omega
    ·refine hs4x.keep hkk (fun b hb=>List.mem_append_right _ (ob b hb)) hkO (fun b hb=>?_) fun b hb=>?_
     ·rcases List.mem_append.1 hb with hb | hb
      ·exact .inl (List.mem_append_left _ hb)
      ·rcases List.mem_append.1 hb with hb | hb
       ·exact .inl (List.mem_append_right _ hb)
       ·simp at hb; subst hb; exact .inr (hf4 _ (by omega))
     ·rw[← List.append_assoc]; exact List.mem_append_left _ hb
    ·have:=eQ.1 hb
     rw[hsb] at this
     cases this
     exact List.mem_append_right _ (by simp)
    ·rcases List.mem_append.1 hb with hb | hb
     ·exact yn b hb
     ·simp at hb; omega
    ·rw[eqT]
     unfold aKB
     rw[if_pos hkT,List.append_assoc]
   have hnok:∀ (e':Env) (n':Nat),e' 0=ptr p→e' 3=out→n3+1≤n'→aCp T t=false→Q' .normal e' h4 n':=by
    intro e' n' f0 f3 hn' hkT
    refine hq m _ _ _ _ (by omega) ⟨sC,acc,out,Y,f0,f3,by omega,hkp4,hf4.mono hn',hs4x,hout4,ob,yn,hI3,by rw[hclen,hcat]; omega,?_,by rw[hclen]; omega,by omega⟩ (Sub.refl _)
    rw[eqT]
    unfold aKB
    rw[if_neg (by rw[hkT]; decide),List.nil_append]
   have t0:=aZ (ro:=ro) (z:=0) g4 (show (pD t)[0]?=some (.int .i64 t.rule) from rfl)
   (repeat(first|refine zzB ?_|apply aD|apply aE|with_reducible first|apply aG|apply aF|apply aK|apply aH|apply aJ|apply aI|apply aL|apply aC))
   refine aA t0 ?_
   by_cases hr:t.rule=-1
   ·have hkT:aCp T t=true:=by unfold aCp; rw[decide_eq_true hr]; rfl
    refine aKw hr ?_
    (repeat(first|refine zzB ?_|apply aD|apply aE|with_reducible first|apply aG|apply aF|apply aK|apply aH|apply aJ|apply aI|apply aL|apply aC))
    refine happ _ _ ?_ ?_ ?_ hkT
    ·omega
    ·intro x y z; exact e0
    ·intro x y z; rfl
   ·have hrr:=hrt.resolve_left hr
    obtain⟨kv4,tv4,ev4,mv4,bv4,hv4⟩:=id hs4x
    have hv4:ScV ro h4 (X++Y) p qs T most er_ kv4 tv4 ev4 mv4 bv4 sC:=hv4
    have l1:=aZ (ro:=ro) (z:=0) hv4.1 (show (scL kv4 tv4 ev4 mv4 most bv4 sC er_)[1]?=some kv4 from rfl)
    have hkv:=hv4.2.1.sub (eT h4 (X++Y))
    have hix:=Sl.ixI hkv .i64 hrr.1 (by rw[aAJ]; exact hrr.2)
    have hkl9:t.rule.toNat < T.kinds.length:=by omega
    have hld:=hkv.load1 (aGZ hkl9)
    have hgd:T.kinds.getD t.rule.toNat .empty=T.kinds[t.rule.toNat]:=by rw[List.getD_eq_getElem?_getD,List.getElem?_eq_getElem hkl9]; rfl
    have hkT:aCp T t=!decide (T.kinds[t.rule.toNat]=.empty):=by
     unfold aCp
     rw[decide_eq_false hr,hgd]
     generalize T.kinds[t.rule.toNat]=b9
     have:(b9.size≠0) ↔ ¬ (b9=.empty):=by
      constructor
      ·intro h9 e9; rw[e9] at h9; exact h9 rfl
      ·intro h9 e9
       apply h9
       obtain⟨⟨l9⟩⟩:=b9
       have:l9=[]:=List.length_eq_zero_iff.1 e9
       rw[this]; rfl
     by_cases h9:b9=.empty<;>simp[this,h9]
    generalize T.kinds[t.rule.toNat]=ks at hld hkT
    refine aKv hr ?_
    (repeat(first|refine aA (by simp (disch:=first|omega|exact nnN _|assumption) only [BB,B2,↓reduceIte,Nat.reduceLeDiff,Nat.reduceAdd,CC,a9,l1,t0]<;>rfl) ?_|apply aD|apply aE|with_reducible first|apply aG|apply aF|apply aK|apply aH|apply aJ|apply aI|apply aL|apply aC))
    refine aA hix ?_
    (repeat(first|refine zzB ?_|apply aD|apply aE|with_reducible first|apply aG|apply aF|apply aK|apply aH|apply aJ|apply aI|apply aL|apply aC))
    refine aA hld ?_
    (repeat(first|refine zzB ?_|apply aD|apply aE|with_reducible first|apply aG|apply aF|apply aK|apply aH|apply aJ|apply aI|apply aL|apply aC))
    refine aA (zX ks .empty) ?_
    rw[← hkT]
    cases hkk:aCp T t with
    | true =>
     (repeat(first|refine zzB ?_|apply aD|apply aE|with_reducible first|apply aG|apply aF|apply aK|apply aH|apply aJ|apply aI|apply aL|apply aC))
     refine happ _ _ ?_ ?_ ?_ hkk
     ·omega
     ·intro x y z; exact e0
     ·intro x y z; rfl
    | false =>
     (repeat(first|refine zzB ?_|apply aD|apply aE|with_reducible first|apply aG|apply aF|apply aK|apply aH|apply aJ|apply aI|apply aL|apply aC))
     refine hnok _ _ ?_ ?_ ?_ hkk
     ·exact e0
     ·exact e3
     ·omega
end
end V
end Go.Proofs.YtcaccnneblghgaaGreat
namespace Go.Proofs.YtcaccnneblghgaaGreat
namespace V
attribute [local irreducible] aB ifP aQ cV eS exP cP
def u8L (l:List Nat):List Value:=l.map fun b:Nat=>Value.int .u8 (b:Int)
theorem xJ (l:List Nat):(u8L l).length=l.length:=by simp[u8L]
theorem aPW (l m:List Nat):u8L (l++m)=u8L l++u8L m:=by simp[u8L]
theorem aD8:∀ l:List Nat,(bP l).flatten=u8L l
 | []=>rfl
 | x::r=>by
  have:=aD8 r
  simp only[bP,List.map_cons,List.flatten_cons] at this ⊢
  rw[this]; rfl
theorem aOG (l:List Nat):(u8L l).all cU=true:=by simp[u8L,cU]
theorem aPb (n:Nat):aFk Tryz.prog cB n=some (List.replicate n (Value.int .u8 0)):=by
 cases n with
 | zero=>rfl
 | succ n =>
  obtain⟨i,h1,h2,h3⟩:=aC7
  have hz:∀ k,tT [Value.int .u8 0] k=List.replicate k (Value.int .u8 0):=fun k=>by
   induction k with
   | zero=>rfl
   | succ k ih=>rw[List.replicate_succ,← ih]; rfl
  simp only[aFk,aHa,aC5,Option.bind,cT]
  show some (tT [Value.int .u8 0] (n+1))=_
  rw[hz]
section
variable {ro:Ro}{h:T Obj}{nx:Nat}{K:KV}
theorem aM6 {x:Value} (hx:Sl ro h x 1 (bP [])):cA Tryz.prog ro h nx #[a8,a8] [.slice none 0 0,x]=some (.slice none 0 0,h,nx):=by
 obtain⟨i,h1,h2,h3⟩:=aC7
 have hs:x6 Tryz.prog ro h cB i.size i.bytes a8 x=some (0,[]):=by
  rcases hx with ⟨rfl,_⟩ | ⟨a,c,rfl,_,_,_,h9⟩
  ·simp only[x6,kD]
  ·have h9:cellsAt ro h a 0=some []:=by simpa [bP] using h9
   simp only[x6,kD,bP,List.map_nil,List.length_nil,Nat.zero_mul,h9,Option.bind]
 simp only[cA,List.getElem?_toArray,List.getElem?_cons_zero,List.getElem?_cons_succ,kD,h1,Option.bind,hs]
theorem aPm {x:Value}{id len cap:Nat}{C:List Value}{l:List Nat} (hg:h.get id=some (.cells C.toArray cB)) (hC:C.length=cap) (hx:Sl ro h x 1 (bP l)) (hle:len+l.length≤cap) :
  ∃ h',cA Tryz.prog ro h nx #[a8,a8] [.slice (some (own id 1)) len cap,x]=some (.slice (some (own id 1)) (len+l.length) cap,h',nx)∧h'.get id=some (.cells (over C len (u8L l)).toArray cB)∧∀ k,k≠id→h'.get k=h.get k:=by
 obtain⟨i,h1,h2,h3⟩:=aC7
 have hs:x6 Tryz.prog ro h cB i.size i.bytes a8 x=some (l.length,u8L l):=by
  rcases hx with ⟨rfl,h9⟩ | ⟨a,c,rfl,_,_,_,h9⟩
  ·have:l=[]:=by
    cases l with
    | nil=>rfl
    | cons a r=>simp[bP] at h9
   subst this
   simp only[x6,kD]; rfl
  ·rw[aD8,cE] at h9
   simp only[x6,kD,cE,h2,h9,Option.bind]
 have hb1:Nat.ble (len+l.length) cap=true:=Nat.ble_eq_true_of_le hle
 cases l with
 | nil =>
  refine⟨h,?_,?_,fun k _=>rfl⟩
  ·rw[List.length_nil] at hb1 hs
   simp only[cA,List.getElem?_toArray,List.getElem?_cons_zero,List.getElem?_cons_succ,kD,h1,Option.bind,hs,hb1,List.length_nil]; rfl
  ·rw[hg]; simp[over,u8L]
 | cons a r =>
  refine⟨h.upd id (some (.cells (over C len (u8L (a::r))).toArray cB)),?_,T.get_upd_same _ _ _,fun k hk=>T.get_upd_ne _ _ hk⟩
  have hst:jU h (fwd (own id 1) (len*i.size)) (u8L (a::r))=some (h.upd id (some (.cells (over C len (u8L (a::r))).toArray cB))):=by
   unfold jU
   simp only[own,fwd,hg,aOG,h2,Nat.mul_one,Nat.zero_add]
   have:Nat.ble (len+(u8L (a::r)).length) C.toArray.size=true:=Nat.ble_eq_true_of_le (by rw[xJ,List.size_toArray]; omega)
   simp only[this]
  rw[List.length_cons] at hb1 hs
  simp only[cA,List.getElem?_toArray,List.getElem?_cons_zero,List.getElem?_cons_succ,kD,h1,Option.bind,hs,hb1,hst]
  simp only[own,h2,Nat.beq_refl,List.length_cons]
theorem aKi:eZ Tryz.prog h .cap #[a8] [.slice none 0 0]=some (.int .i64 0):=by
 simp only[eZ,List.getElem?_toArray,List.getElem?_cons_zero,Option.bind,kD]; rfl
theorem aPN:kZ Tryz.prog a8 (.slice none 0 0) none (some (.int .i64 0)) none=some (.slice none 0 0):=by kernel_rfl
theorem aPX:und Tryz.prog dZ=some (.int .i64):=by kernel_rfl
theorem aM5 {n:Nat} (h0:0 < n) (hn:n≤1000000):cA Tryz.prog ro h nx #[a8,dZ] [.slice none 0 0,.int .i64 (n:Int)]=some (.slice (some (own nx 1)) n n,h.upd nx (some (.cells (List.replicate n (Value.int .u8 0)).toArray cB)),nx+1):=by
 obtain⟨i,h1,h2,h3⟩:=aC7
 have hb1:Nat.ble (n*1) big=true:=Nat.ble_eq_true_of_le (by unfold big; omega)
 have hb2:Nat.ble (0+n) big=true:=Nat.ble_eq_true_of_le (by unfold big; omega)
 have hb3:Nat.ble ((0+n)*1) big=true:=Nat.ble_eq_true_of_le (by unfold big; omega)
 have hb4:Nat.ble (0+n) 0=false:=by
  cases hq:Nat.ble (0+n) 0 with
  | false=>rfl
  | true=>have:=Nat.le_of_ble_eq_true hq; omega
 have hs:x6 Tryz.prog ro h cB 1 1 dZ (.int .i64 (n:Int))=some (n,List.replicate n (Value.int .u8 0)):=by
  simp only[x6,aPX,decide_eq_true (show (0:Int)≤n by omega),decide_eq_true (show (n:Int)≤70368744177664 by omega),Int.toNat_natCast,hb1,aPb,Option.bind]
 have hok:(List.replicate n (Value.int .u8 0)).all cU=true:=by simp[cU]
 simp only[cA,List.getElem?_toArray,List.getElem?_cons_zero,List.getElem?_cons_succ,kD,h1,Option.bind,h2,h3,hs,hb4,aHa,hb3,hb2,cT,hok,aHI]
 simp
 rfl
set_option maxRecDepth 8000 in
theorem aOd {n:Nat}{e:Env} (f0:e 0=.slice none 0 0) (f1:e 1=.int .i64 (n:Int)) (hn:n≤1000000) (hf:Fr h nx) (hK0:n=0→∀ nx',nx≤nx'→K (.slice none 0 0) h nx') (hK1:0 < n→∀ id h' nx',nx≤id→id < nx'→Fr h' nx'→Sub h h'→h'.get id=some (.cells (List.replicate n (Value.int .u8 0)).toArray cB)→K (.slice (some (own id 1)) 0 n) h' nx'):jW ro K e h nx:=by
 unfold jW
 rw[f0,f1]
 have hj2:∀ (e':Env) (h':T Obj) (n':Nat) (v:Value),e' 0=v→K v h' (n'+2)→gW ro K e' h' n':=by
  intro e' h' n' v d0 dk
  unfold gW
  rw[d0]
  exact⟨h',Sub.refl _,dk⟩
 refine aA aKi ?_
 (repeat(first|refine zzB ?_|apply aD|apply aE|with_reducible first|apply aG|apply aF|apply aK|apply aH|apply aJ|apply aI|apply aL|apply aC))
 by_cases h0:n=0
 ·subst h0
  refine aLC (by omega) ?_
  (repeat(first|refine zzB ?_|apply aD|apply aE|with_reducible first|apply aG|apply aF|apply aK|apply aH|apply aJ|apply aI|apply aL|apply aC))
  refine hj2 _ _ _ (.slice none 0 0) f0 (hK0 rfl _ ?_)
  omega
 ·refine aLD (by omega) ?_
  (repeat(first|refine zzB ?_|apply aD|apply aE|with_reducible first|apply aG|apply aF|apply aK|apply aH|apply aJ|apply aI|apply aL|apply aC))
  refine aA aKi (aA aPN ?_)
  refine aA (aM5 (by omega) hn) ?_
  dsimp only
  (repeat(first|refine zzB ?_|apply aD|apply aE|with_reducible first|apply aG|apply aF|apply aK|apply aH|apply aJ|apply aI|apply aL|apply aC))
  refine hj2 _ _ _ (.slice (some (own (nx+16) 1)) 0 n) (by kernel_rfl) (hK1 (by omega) _ _ _ ?_ ?_ ?_ (((Sub.refl h).new hf (by omega))) (T.get_upd_same _ _ _))
  ·omega
  ·omega
  ·exact (hf.mono (by omega)).upd (Nat.le_refl _) (by omega)
theorem aPw {n:Nat} (hn:n≤1000000) (hf:Fr h nx) (hK0:n=0→∀ nx',nx≤nx'→K (.slice none 0 0) h nx') (hK1:0 < n→∀ id h' nx',nx≤id→id < nx'→Fr h' nx'→Sub h h'→h'.get id=some (.cells (List.replicate n (Value.int .u8 0)).toArray cB)→K (.slice (some (own id 1)) 0 n) h' nx'):aN Tryz.prog ro kG [.slice none 0 0,.int .i64 (n:Int)] h nx K:=by
 apply vI
 unfold pM
 (repeat(first|refine zzB ?_|apply aD|apply aE|with_reducible first|apply aG|apply aF|apply aK|apply aH|apply aJ|apply aI|apply aL|apply aC))
 exact aOd rfl rfl hn (hf.mono (by omega)) (fun h0 n' hn'=>hK0 h0 n' (by omega)) fun h0 id h' n' h1 h2 h3 h4 h5=>hK1 h0 id h' n' (by omega) h2 h3 h4 h5
def RB (ro:Ro) (h:V.T Obj) (x:List Value) (l:List Nat):Prop:=∃ w,x=[w]∧Sl ro h w 1 (bP l)
theorem RB.sub {h':V.T Obj} (hs:Sub h h'):∀ x l,RB ro h x l→RB ro h' x l:=fun x l ⟨w,h1,h2⟩=>⟨w,h1,h2.sub hs⟩
theorem aAE {α:Type}{ls:List (List α)}{i:Nat} (hi:i < ls.length):(ls.take (i+1)).flatten=(ls.take i).flatten++ls[i]:=by
 rw[List.take_succ_eq_append_getElem hi,List.flatten_append]; simp
theorem rM {α:Type}{ls:List (List α)} (i:Nat):(ls.take i).flatten.length≤ls.flatten.length:=by
 have h9:ls.flatten=(ls.take i).flatten++(ls.drop i).flatten:=by rw[← List.flatten_append,List.take_append_drop]
 rw[h9,List.length_append]; omega
theorem aKH (l m:List Nat) {k:Nat} (hk:m.length≤k):over (u8L l++List.replicate k (Value.int .u8 0)) l.length (u8L m)=u8L (l++m)++List.replicate (k - m.length) (Value.int .u8 0):=by
 unfold over
 rw[List.take_append_of_le_length (by rw[xJ]; exact Nat.le_refl _),List.take_of_length_le (by rw[xJ]; exact Nat.le_refl _),xJ,List.drop_append,xJ,List.drop_of_length_le (by rw[xJ]; omega),List.nil_append,Nat.add_sub_cancel_left,List.drop_replicate,aPW]
def aMY (h:V.T Obj) (nx N:Nat) (pre:List Nat) (w:Value) (h':V.T Obj):Prop:=Sub h h'∧((N=0∧w=.slice none 0 0)∨∃ id,nx≤id∧w=.slice (some (own id 1)) pre.length N∧h'.get id=some (.cells (u8L pre++List.replicate (N - pre.length) (Value.int .u8 0)).toArray cB))
set_option maxRecDepth 8000 in
theorem aMY.step {N n1:Nat}{pre l:List Nat}{w x:Value}{h':V.T Obj} (hc:aMY h nx N pre w h') (hf:Fr h nx) (hx:Sl ro h' x 1 (bP l)) (hle:pre.length+l.length≤N) {m:Nat} (hf':Fr h' m):∃ w2 h2,cA Tryz.prog ro h' n1 #[a8,a8] [w,x]=some (w2,h2,n1)∧aMY h nx N (pre++l) w2 h2∧Fr h2 m:=by
 obtain⟨hs,⟨h0,rfl⟩ | ⟨id,h1,rfl,h2⟩⟩:=hc
 ·have hl:l=[]:=List.length_eq_zero_iff.1 (by omega)
  subst hl
  exact⟨_,_,aM6 hx,⟨hs,.inl ⟨h0,rfl⟩⟩,hf'⟩
 ·obtain⟨h3,g1,g2,g3⟩:=aPm (nx:=n1) h2 (cap:=N) (by rw[List.length_append,xJ,List.length_replicate]; omega) hx hle
  refine⟨_,_,g1,⟨fun k o hk=>?_,.inr ⟨id,h1,by rw[List.length_append],?_⟩⟩,fun k hk=>?_⟩
  ·have:=hf.lt' hk
   rw[g3 k (by omega)]
   exact hs k o hk
  ·rw[g2,aKH pre l (by omega),List.length_append,show N - pre.length - l.length=N - (pre.length+l.length) by omega]
  ·have:=hf'.lt' h2
   rw[g3 k (by omega)]
   exact hf' k hk
set_option maxRecDepth 8000 in
set_option maxHeartbeats 1000000 in
theorem aMh {v:Value}{ls:List (List Nat)} (hv:SlR ro h v 1 (RB ro h) ls) (hlen:ls.length≤1000) (hsum:ls.flatten.length≤100000) (hf:Fr h nx) (hK:∀ r h' nx',nx≤nx'→Fr h' nx'→Sub h h'→dK h' r 1 cB (bP ls.flatten) nx→K r h' nx'):aN Tryz.prog ro jE [v] h nx K:=by
 have hvl:=hv.len
 apply tP
 unfold oA
 refine aA hvl ?_
 refine bA (fun j e h' nx'=>∃ i:Nat,i+j=ls.length∧nx+5≤nx'∧h'=h∧e 0=v∧e 3=.int .i64 ((ls.take i).flatten.length:Nat)∧e 9=v∧e 10=.int .i64 ls.length∧e 11=.int .i64 i) ?_ (n:=ls.length) ⟨0,by omega,by omega,rfl,rfl,rfl,rfl,rfl,rfl⟩
 rintro j e h' nx' ⟨i,hj,hnx,rfl,e0,e3,e9,e10,e11⟩ Q' hq hx
 unfold mH
 rw[e3,e9,e10,e11]
 refine cY (fun hk=>?_) (fun hk=>?_)
 ·have hk:i < ls.length:=by omega
  obtain⟨w,⟨w',hw,hwl⟩,hld⟩:=hv.at1 hk
  cases hw
  have hle:=rM (ls:=ls) (i+1)
  have hfs:=aAE hk
  have hwn:=hwl.len
  rw[cE] at hwn
  rw[hfs,List.length_append] at hle
  (repeat(first|refine zzB ?_|apply aD|apply aE|with_reducible first|apply aG|apply aF|apply aK|apply aH|apply aJ|apply aI|apply aL|apply aC))
  refine aA (hv.ix .i64 hk) (aA hld (aA hwn ?_))
  have hadd:aO .add (.int .i64 (((ls.take i).flatten.length:Nat):Int)) (.int .i64 ((ls[i].length:Nat):Int))=some (.int .i64 (((ls.take (i+1)).flatten.length:Nat):Int)):=by
   rw[cX,hfs,List.length_append,show (((ls.take i).flatten.length:Nat):Int)+((ls[i].length:Nat):Int)=(((ls.take i).flatten.length+ls[i].length:Nat):Int) by omega,eM (by omega) (by omega)]
  refine aA hadd ?_
  (repeat(first|refine zzB ?_|apply aD|apply aE|with_reducible first|apply aG|apply aF|apply aK|apply aH|apply aJ|apply aI|apply aL|apply aC))
  have hj3:∀ (e':Env) n',e' 0=v→e' 3=.int .i64 ((ls.take (i+1)).flatten.length:Nat)→e' 9=v→e' 10=.int .i64 ls.length→e' 11=.int .i64 i→nx'≤n'→iY ro Q' e' h' n':=by
   intro e' n' d0 d3 d9 d10 d11 dn
   unfold iY
   rw[d11]
   (repeat(first|refine zzB ?_|apply aD|apply aE|with_reducible first|apply aG|apply aF|apply aK|apply aH|apply aJ|apply aI|apply aL|apply aC))
   exact hq (j - 1) _ _ _ _ (by omega) ⟨i+1,by omega,by omega,rfl,d0,d3,d9,d10,rfl⟩ (Sub.refl _)
  refine hj3 _ _ e0 rfl e9 e10 e11 ?_
  omega
 ·(repeat(first|refine zzB ?_|apply aD|apply aE|with_reducible first|apply aG|apply aF|apply aK|apply aH|apply aJ|apply aI|apply aL|apply aC))
  refine hx _ _ _ _ (fun e=>by cases e) (d5 (cR ?_))
  obtain rfl:i=ls.length:=by omega
  rw[List.take_length] at e3
  have hj1:∀ (e':Env) n',e' 0=v→e' 3=.int .i64 (ls.flatten.length:Nat)→nx'≤n'→gG ro K e' h' n':=by
   intro e' n' d0 d3 dn
   unfold gG
   rw[d0,d3]
   have hfin:∀ (w0:Value) (h1:V.T Obj) (n1:Nat) (e1:Env),e1 0=v→e1 6=w0→e1 25=v→e1 26=.int .i64 ls.length→e1 27=.int .i64 0→nx≤n1→Fr h1 n1→aMY h' nx ls.flatten.length [] w0 h1 →
     dO (iX ro) e1 h1 n1 fun x14 e11 h12 n13=>exP x14 (eF ro K e11 h12 n13) (fun i15=>cP (Nat.beq i15 2) (eF ro K e11 h12 n13) (False)) (∃ h16,Sub h16 h12∧K (e11 2) h16 n13):=by
    intro w0 h1 n1 e1 b0 b6 b25 b26 b27 bn bf bc
    refine bA (fun j e h2 n2=>∃ (i:Nat) (w:Value),i+j=ls.length∧nx≤n2∧Fr h2 n2∧e 6=w∧e 25=v∧e 26=.int .i64 ls.length∧e 27=.int .i64 i∧aMY h' nx ls.flatten.length (ls.take i).flatten w h2) ?_ (n:=ls.length) ⟨0,w0,by omega,bn,bf,b6,b25,b26,b27,bc⟩
    rintro j e h2 n2 ⟨i,w,hj,hn2,hf2,c6,c25,c26,c27,hcat⟩ Q' hq hx
    unfold iX
    rw[c6,c25,c26,c27]
    refine cY (fun hk=>?_) (fun hk=>?_)
    ·have hk:i < ls.length:=by omega
     have hv2:=hv.sub hcat.1 (RB.sub hcat.1)
     obtain⟨w9,⟨w',hw,hwl⟩,hld⟩:=hv2.at1 hk
     cases hw
     have hle:=rM (ls:=ls) (i+1)
     have hfs:=aAE hk
     rw[hfs,List.length_append] at hle
     obtain⟨w2,h3,p1,p2,p3⟩:=hcat.step (n1:=n2+7) hf hwl hle hf2
     rw[← hfs] at p2
     (repeat(first|refine zzB ?_|apply aD|apply aE|with_reducible first|apply aG|apply aF|apply aK|apply aH|apply aJ|apply aI|apply aL|apply aC))
     refine aA (hv2.ix .i64 hk) (aA hld (aA p1 ?_))
     (repeat(first|refine zzB ?_|apply aD|apply aE|with_reducible first|apply aG|apply aF|apply aK|apply aH|apply aJ|apply aI|apply aL|apply aC))
     dsimp only
     exact hq (j - 1) _ _ _ _ (by omega) ⟨i+1,w2,by omega,by omega,p3.mono (by omega),rfl,c25,c26,rfl,p2⟩ (Sub.refl _)
    ·(repeat(first|refine zzB ?_|apply aD|apply aE|with_reducible first|apply aG|apply aF|apply aK|apply aH|apply aJ|apply aI|apply aL|apply aC))
     refine hx _ _ _ _ (fun e=>by cases e) (d5 (cR ?_))
     obtain rfl:i=ls.length:=by omega
     rw[List.take_length] at hcat
     have hj2:∀ (e':Env) n',e' 6=w→n2≤n'→eF ro K e' h2 n':=by
      intro e' n' d6 dn
      unfold eF
      rw[d6]
      refine⟨h2,Sub.refl _,hK w h2 _ (by omega) (hf2.mono (by omega)) hcat.1 ?_⟩
      obtain⟨_,⟨q1,q2⟩ | ⟨id,q1,q2,q3⟩⟩:=hcat
      ·refine .inl ⟨q2,?_⟩
       rw[List.length_eq_zero_iff.1 q1]; rfl
      ·refine .inr ⟨id,q1,?_,(fun x hx=>by unfold bP at hx; obtain⟨b,_,rfl⟩:=List.mem_map.1 hx; rfl),?_⟩
       ·rw[q2,cE]
       ·rw[q3,aD8,Nat.sub_self]; simp
     refine hj2 _ _ c6 ?_
     omega
   refine aPw (n:=ls.flatten.length) (by omega) (hf.mono (by omega)) (fun h0 n1 hn1=>?_) fun h0 id h1 n1 hn1 hn2 hf1 hs1 hg1=>?_
   ·(repeat(first|refine zzB ?_|apply aD|apply aE|with_reducible first|apply aG|apply aF|apply aK|apply aH|apply aJ|apply aI|apply aL|apply aC))
    refine aA hvl ?_
    refine hfin _ _ _ _ d0 rfl rfl rfl rfl ?_ ?_ ⟨Sub.refl _,.inl ⟨h0,rfl⟩⟩
    ·omega
    ·exact hf.mono (by omega)
   ·(repeat(first|refine zzB ?_|apply aD|apply aE|with_reducible first|apply aG|apply aF|apply aK|apply aH|apply aJ|apply aI|apply aL|apply aC))
    refine aA hvl ?_
    refine hfin _ _ _ _ d0 rfl rfl rfl rfl ?_ ?_ ⟨hs1,.inr ⟨id,?_,rfl,?_⟩⟩
    ·omega
    ·exact hf1.mono (by omega)
    ·omega
    ·rw[hg1]; rfl
  refine hj1 _ _ e0 e3 ?_
  omega
end
end V
end Go.Proofs.YtcaccnneblghgaaGreat
namespace Go.Proofs.YtcaccnneblghgaaGreat
namespace V
attribute [local irreducible] aB ifP aQ cV eS exP cP
theorem aQL (id:Nat) (o1 o2:Option Addr) (l1 c1 l2 c2:Nat):bQ Tryz.prog eE id 2 [(0,.slice o1 l1 c1),(1,.slice o2 l2 c2)]=some (.slice (some (own id 1)) 2 2,some (.cells [Value.slice o1 l1 c1,.slice o2 l2 c2].toArray a8)):=by kernel_rfl
theorem Sl.form {ro:Ro}{h:T Obj}{v:Value}{z:Nat}{l:List (List Value)} (hl:Sl ro h v z l):∃ o n c,v=.slice o n c:=by
 rcases hl with ⟨h1,_⟩ | ⟨a,c,h1,_⟩
 ·exact⟨_,_,_,h1⟩
 ·exact⟨_,_,_,h1⟩
def aEF (most:Int) (s':ScD):Int:=if most < (s'.kept.length:Int) then 180 else 0
section
variable {ro:Ro}{h h':T Obj}{nx:Nat}{K:KV}{X X':List Nat}{p:Nat}{qs:List MqD}{T:TabD}{most er_ er':Int}{s s':ScD}
theorem aBU (h:ScI T s):ScI T { s with closed:=true }:=⟨⟨h.ok.lt,h.ok.len,h.ok.took,h.ok.held,h.ok.none,h.ok.some⟩,h.c,h.ms,h.ru,h.kb,h.st⟩
set_option maxRecDepth 8000 in
set_option maxHeartbeats 1000000 in
theorem aH2 (hm:ScX ro h X p qs T most 0 s) (hT:TabR T) (hI:ScI T s) (hTl:T.entries.length≤1000) (hcl:s.closed=false) (hsz:s.at_+s.kept.length≤400) (hf:Fr h nx)
  (hK:∀ r h' nx',nx≤nx'→Fr h' nx'→dX (iP p qs) h h'→ScX ro h' X p qs T most 0 (iB T s).2→dK h' r 3 bE (iL (iB T s).1) nx→K (.tuple #[r,.int .i64 0]) h' nx'):aN Tryz.prog ro l5 [ptr p] h nx K:=by
 have hr:aJD 0 s.closed=0:=by unfold aJD; rw[if_neg (by rw[hcl]; simp)]
 apply xZ
 unfold tM
 refine zS hm fun n1 hn1=>?_
 refine aA2 hr ?_
 obtain⟨kv,tv,ev,mv,bv,hv⟩:=id hm
 have hv:ScV ro h X p qs T most 0 kv tv ev mv bv s:=hv
 have g1:=hv.1
 (repeat(first|refine aA (by simp (disch:=first|omega|exact nnN _|assumption) only [BB,B2,↓reduceIte,Nat.reduceLeDiff,Nat.reduceAdd,CC,a9]<;>rfl) ?_|apply aD|apply aE|with_reducible first|apply aG|apply aF|apply aK|apply aH|apply aJ|apply aI|apply aL|apply aC))
 refine aA (dM g1 (by simp[scL]) rfl rfl) ?_
 have hov:(scL kv tv ev mv most bv s 0).set 14 (.bool true)=scL kv tv ev mv most bv { s with closed:=true } 0:=rfl
 rw[hov]
 have hv1:=hv.upd (s':={ s with closed:=true }) (er':=0) rfl rfl
 have hk1:dX (iP p qs) h (h.upd p (some (.cells (scL kv tv ev mv most bv { s with closed:=true } 0).toArray aR))):=(Sub.refl _).keepL.upd (List.mem_cons_self ..)
 refine aAj hv1.x hT (aBU hI) hTl hsz ((hf.mono (by omega)).upd (Nat.le_refl _) (by have:=hf.lt' g1; omega)) fun r h2 n2 hn2 hf2 hk2 hs2 ho2=>?_
 (repeat(first|refine zzB ?_|apply aD|apply aE|with_reducible first|apply aG|apply aF|apply aK|apply aH|apply aJ|apply aI|apply aL|apply aC))
 refine⟨h2,Sub.refl _,?_⟩
 exact hK r h2 _ (by omega) (hf2.mono (by omega)) (hk1.trans hk2) hs2 (ho2.mono (by omega))
set_option maxRecDepth 8000 in
set_option maxHeartbeats 1000000 in
theorem aJN {bb:Value}{b:List Nat} (hm:ScX ro h X p qs T most 0 s) (hT:TabR T) (hI:ScI T s) (hTl:T.entries.length≤1000) (hcl:s.closed=false) (hX:∀ k∈X,k < nx) (hb:Sl ro h bb 1 (bP b)) (hb2:∀ x∈b,x < 256) (hsz:s.at_+s.kept.length+b.length≤400) (hf:Fr h nx)
  (hK:∀ r h' nx',nx≤nx'→Fr h' nx'→dX (iP p qs) h h'→ScX ro h' X p qs T most (aEF most (dJ T s b).2) (dJ T s b).2→dK h' r 3 bE (iL (dJ T s b).1) nx→K (.tuple #[r,.int .i64 (aEF most (dJ T s b).2)]) h' nx'):aN Tryz.prog ro m6 [ptr p,bb] h nx K:=by
 have hr:aJD 0 s.closed=0:=by unfold aJD; rw[if_neg (by rw[hcl]; simp)]
 apply zO
 unfold uL
 refine zS hm fun n1 hn1=>?_
 refine aA2 hr ?_
 obtain⟨kv,tv,ev,mv,bv,hv⟩:=id hm
 have hv:ScV ro h X p qs T most 0 kv tv ev mv bv s:=hv
 have g1:=hv.1
 have hpl:=hf.lt' g1
 have hbv:Sl ro h bv 1 (bP s.kept):=hv.2.2.2.2.2.1.sub (eT h X)
 have l6:=aZ (ro:=ro) (z:=0) g1 (show (scL kv tv ev mv most bv s 0)[6]?=some bv from rfl)
 (repeat(first|refine aA (by simp (disch:=first|omega|exact nnN _|assumption) only [BB,B2,↓reduceIte,Nat.reduceLeDiff,Nat.reduceAdd,CC,a9,l6]<;>rfl) ?_|apply aD|apply aE|with_reducible first|apply aG|apply aF|apply aK|apply aH|apply aJ|apply aI|apply aL|apply aC))
 obtain⟨o1,m1,c1,e1⟩:=hbv.form
 obtain⟨o2,m2,c2,e2⟩:=hb.form
 refine aA (by rw[e1,e2]; exact aQL _ _ _ _ _ _ _) (aE ?_)
 rw[← e1,← e2]
 generalize hh1:h.upd (n1+9) (some (.cells [bv,bb].toArray a8))=h1
 have hs1:Sub h h1:=by rw[← hh1]; exact (Sub.refl h).new hf (by omega)
 have hf1:Fr h1 (n1+11):=by rw[← hh1]; exact (hf.mono (by omega)).upd (Nat.le_refl _) (by omega)
 have hlist:SlR ro h1 (.slice (some (own (n1+9) 1)) 2 2) 1 (RB ro h1) [s.kept,b]:=by
  refine⟨[[bv],[bb]],Sl.own (l:=[[bv],[bb]]) (e:=a8) (f:=(0,0)) (by rw[← hh1,V.T.get_upd_same]; rfl) (by simp) (Nat.le_refl _),rfl,fun i x d hx hd=>?_⟩
  match i,hx,hd with
  | 0,hx,hd=>cases hx; cases hd; exact⟨bv,rfl,hbv.sub hs1⟩
  | 1,hx,hd=>cases hx; cases hd; exact⟨bb,rfl,hb.sub hs1⟩
  | i+2,hx,hd=>cases hx
 refine aMh hlist (by show 2≤1000; decide) (by simp; omega) hf1 fun r2 h2 n2 hn2 hf2 hs2 ho2=>?_
 have hfl:[s.kept,b].flatten=s.kept++b:=by simp
 rw[hfl] at ho2
 have hv2:=(hv.sub hs1).sub hs2
 (repeat(first|refine aA (by simp (disch:=first|omega|exact nnN _|assumption) only [BB,B2,↓reduceIte,Nat.reduceLeDiff,Nat.reduceAdd,CC,a9]<;>rfl) ?_|apply aD|apply aE|with_reducible first|apply aG|apply aF|apply aK|apply aH|apply aJ|apply aI|apply aL|apply aC))
 obtain⟨o3,m3,c3,e3⟩:=ho2.form
 refine aA (dM hv2.1 (by simp[scL]) ho2.ok (by rw[e3]; rfl)) ?_
 have hov:(scL kv tv ev mv most bv s 0).set 6 r2=scL kv tv ev mv most r2 (eC s b) 0:=rfl
 rw[hov]
 have hv3:=hv2.updB (s':=eC s b) (bv':=r2) (er':=0) rfl (ho2.del fun id hid hm9=>by
  have:=hX id hm9
  have:=(ho2.blk hid).1
  omega).sl
 generalize hh3:h2.upd p (some (.cells (scL kv tv ev mv most r2 (eC s b) 0).toArray aR))=h3 at hv3
 have hk3:dX (iP p qs) h h3:=by rw[← hh3]; exact (hs1.trans hs2).keepL.upd (List.mem_cons_self ..)
 have hf3:Fr h3 n2:=by rw[← hh3]; exact hf2.upd (Nat.le_refl _) (by omega)
 have hlen9:(eC s b).kept.length=s.kept.length+b.length:=List.length_append
 refine aAj hv3.x hT (aKg hI hb2) hTl (by rw[hlen9]; show s.at_+_≤400; omega) (hf3.mono (by omega)) fun r4 h4 n4 hn4 hf4 hk4 hs4 ho4=>?_
 rw[hlen9] at hs4 ho4
 have hs4:ScX ro h4 X p qs T most 0 (dJ T s b).2:=hs4
 have ho4:dK h4 r4 3 bE (iL (dJ T s b).1) (n2+5):=ho4
 have hI4:=aMz hT hI hb2
 obtain⟨kv4,tv4,ev4,mv4,bv4,hv4⟩:=id hs4
 have hv4:ScV ro h4 X p qs T most 0 kv4 tv4 ev4 mv4 bv4 (dJ T s b).2:=hv4
 have hbl:=(hv4.2.2.2.2.2.1.sub (eT h4 X)).len
 rw[cE] at hbl
 have l64:=aZ (ro:=ro) (z:=0) hv4.1 (show (scL kv4 tv4 ev4 mv4 most bv4 (dJ T s b).2 0)[6]?=some bv4 from rfl)
 have l54:=aZ (ro:=ro) (z:=0) hv4.1 (show (scL kv4 tv4 ev4 mv4 most bv4 (dJ T s b).2 0)[5]?=some (.int .i64 most) from rfl)
 have hj1:∀ (e':Env) (h5:V.T Obj) (n':Nat) (er':Int),e' 0=ptr p→e' 7=r4→er'=aEF most (dJ T s b).2→n4≤n'→Fr h5 n'→dX (iP p qs) h h5→ScV ro h5 X p qs T most er' kv4 tv4 ev4 mv4 bv4 (dJ T s b).2→dK h5 r4 3 bE (iL (dJ T s b).1) (n2+5)→jP ro K e' h5 n':=by
  intro e' h5 n' er' d0 d7 de dn df dk dv do_
  unfold jP
  rw[d0,d7]
  have l13:=aZ (ro:=ro) (z:=0) dv.1 (show (scL kv4 tv4 ev4 mv4 most bv4 (dJ T s b).2 er')[13]?=some (.int .i64 er') from rfl)
  (repeat(first|refine aA (by simp (disch:=first|omega|exact nnN _|assumption) only [BB,B2,↓reduceIte,Nat.reduceLeDiff,Nat.reduceAdd,CC,a9,l13]<;>rfl) ?_|apply aD|apply aE|with_reducible first|apply aG|apply aF|apply aK|apply aH|apply aJ|apply aI|apply aL|apply aC))
  rw[← de] at hK
  exact⟨h5,Sub.refl _,hK r4 h5 _ (by omega) (df.mono (by omega)) dk dv.x (do_.mono (by omega))⟩
 (repeat(first|refine aA (by simp (disch:=first|omega|exact nnN _|assumption) only [BB,B2,↓reduceIte,Nat.reduceLeDiff,Nat.reduceAdd,CC,a9,l64]<;>rfl) ?_|apply aD|apply aE|with_reducible first|apply aG|apply aF|apply aK|apply aH|apply aJ|apply aI|apply aL|apply aC))
 refine aA hbl ?_
 (repeat(first|refine aA (by simp (disch:=first|omega|exact nnN _|assumption) only [BB,B2,↓reduceIte,Nat.reduceLeDiff,Nat.reduceAdd,CC,a9,l54]<;>rfl) ?_|apply aD|apply aE|with_reducible first|apply aG|apply aF|apply aK|apply aH|apply aJ|apply aI|apply aL|apply aC))
 by_cases hmo:most < ((dJ T s b).2.kept.length:Int)
 ·refine aLD hmo ?_
  (repeat(first|refine aA (by simp (disch:=first|omega|exact nnN _|assumption) only [BB,B2,↓reduceIte,Nat.reduceLeDiff,Nat.reduceAdd,CC,a9]<;>rfl) ?_|apply aD|apply aE|with_reducible first|apply aG|apply aF|apply aK|apply aH|apply aJ|apply aI|apply aL|apply aC))
  refine aA (dM hv4.1 (by simp[scL]) rfl rfl) ?_
  have hov4:(scL kv4 tv4 ev4 mv4 most bv4 (dJ T s b).2 0).set 13 (.int .i64 180)=scL kv4 tv4 ev4 mv4 most bv4 (dJ T s b).2 180:=rfl
  rw[hov4]
  have hp4:=hf4.lt' hv4.1
  refine hj1 _ _ _ 180 rfl rfl (by unfold aEF; rw[if_pos hmo]) ?_ ?_ ((hk3.trans hk4).upd (List.mem_cons_self ..)) (hv4.upd rfl rfl) (ho4.keepK (ids:=[p]) ((Sub.refl _).keepL.upd (by simp)) fun id hid hm9=>by simp at hm9; subst hm9; have:=(ho4.blk hid).1; omega)
  ·omega
  ·exact (hf4.mono (by omega)).upd (Nat.le_refl _) (by omega)
 ·refine aLC (by omega) ?_
  (repeat(first|refine zzB ?_|apply aD|apply aE|with_reducible first|apply aG|apply aF|apply aK|apply aH|apply aJ|apply aI|apply aL|apply aC))
  refine hj1 _ _ _ 0 rfl rfl (by unfold aEF; rw[if_neg hmo]) ?_ ?_ (hk3.trans hk4) hv4 ho4
  ·omega
  ·exact hf4.mono (by omega)
end
end V
end Go.Proofs.YtcaccnneblghgaaGreat
namespace Go.Proofs.YtcaccnneblghgaaGreat
namespace V
attribute [local irreducible] aB ifP aQ cV eS exP cP
theorem aIa (h:T Obj) (a b:Int):eZ Tryz.prog h .min #[dZ,dZ] [.int .i64 a,.int .i64 b]=some (.int .i64 (if b < a then b else a)):=by
 simp only[eZ,aLH,aJx]
 by_cases hb:b < a<;>simp[hb]
theorem aOH {ro:Ro}{h:T Obj}{v:Value}{l:List Nat} (hv:SlR ro h v 1 RU8 l):Sl ro h v 1 (bP l)∧∀ x∈l,x < 256:=by
 obtain⟨cs,h1,h2,h3⟩:=hv
 have e:cs=bP l:=by
  apply List.ext_getElem?
  intro i
  rcases Nat.lt_or_ge i l.length with hi | hi
  ·have hx:cs[i]?=some (cs[i]'(by omega)):=List.getElem?_eq_getElem _
   have:=(h3 i _ _ hx (List.getElem?_eq_getElem hi)).1
   rw[hx,this,pO hi]
  ·rw[List.getElem?_eq_none (by omega),List.getElem?_eq_none (by rw[cE]; omega)]
 refine⟨by rw[← e]; exact h1,fun x hx=>?_⟩
 obtain⟨i,hi⟩:=List.getElem?_of_mem hx
 have hl:=(List.getElem?_eq_some_iff.1 hi).1
 exact (h3 i _ x (List.getElem?_eq_getElem (by omega)) hi).2
theorem dX.base {ids:List Nat}{h0 h h':T Obj}{n0:Nat} (hk:dX ids h h') (hs:Sub h0 h) (hf:Fr h0 n0) (hi:∀ k∈ids,n0≤k):Sub h0 h':=fun k o hk0=>hk k o (hs k o hk0) fun h9=>by
 have:=hf.lt' hk0
 have:=hi k h9
 omega
theorem aDN.right {ro:Ro}{h:T Obj}{x:List Value}{Tb:TabD} (hd:aDN ro h x Tb) (hr:gC Tb=true):TabR Tb:=by
 obtain⟨cv,kv0,tv0,ev0,rfl,q1,q2,q3,q4,q5,q6,q7,q8⟩:=id hd
 refine (aJF hr fun e he=>?_).1
 obtain⟨j,hj⟩:=List.getElem?_of_mem he
 obtain⟨hlt,rfl⟩:=List.getElem?_eq_some_iff.1 hj
 obtain⟨y,⟨ax,rv,_,hA,_⟩,_⟩:=q4.at hlt
 obtain⟨cv9,sv9,_,hc9,_⟩:=hA
 exact hc9
end V
end Go.Proofs.YtcaccnneblghgaaGreat
namespace Go.Proofs.YtcaccnneblghgaaGreat
namespace V
attribute [local irreducible] aB ifP aQ cV eS exP cP
def nD (ls:List (List Nat)):List (List Nat):=(ls.take 12).map (·.take 20)
theorem aBE (ls:List (List Nat)):(nD ls).length=min 12 ls.length:=by simp[nD]
theorem aKI {ls:List (List Nat)}{i:Nat} (hi:i < ls.length) (h12:i < 12):(nD ls)[i]?=some (ls[i].take 20):=by
 unfold nD
 rw[List.getElem?_map,List.getElem?_take_of_lt h12,List.getElem?_eq_getElem hi]; rfl
theorem aLA:∀ {l:List (List Nat)}{n:Nat},(∀ x∈l,x.length≤n)→l.flatten.length≤l.length*n
 | [],n,_=>by simp
 | x::l,n,h=>by
  rw[List.flatten_cons,List.length_append,List.length_cons,Nat.succ_mul]
  have:=h x (by simp)
  have:=aLA (l:=l) (n:=n) fun y hy=>h y (by simp[hy])
  omega
theorem aKJ (ls:List (List Nat)):(nD ls).flatten.length≤240:=by
 have h1:=aLA (l:=nD ls) (n:=20) fun x hx=>by
  unfold nD at hx
  obtain⟨y,_,rfl⟩:=List.mem_map.1 hx
  exact List.length_take_le ..
 have h2:=aBE ls
 have:(nD ls).length*20≤12*20:=Nat.mul_le_mul_right _ (by omega)
 omega
theorem aNi {ls:List (List Nat)} (h:∀ b∈ls,∀ x∈b,x < 256):∀ b∈nD ls,∀ x∈b,x < 256:=fun b hb x hx=>by
 unfold nD at hb
 obtain⟨y,hy,rfl⟩:=List.mem_map.1 hb
 exact h y (List.mem_of_mem_take hy) x (List.mem_of_mem_take hx)
theorem aJt (id:Nat) (o1:Option Addr) (l1 c1:Nat):bQ Tryz.prog eE id 1 [(0,.slice o1 l1 c1)]=some (.slice (some (own id 1)) 1 1,some (.cells [Value.slice o1 l1 c1].toArray a8)):=by kernel_rfl
theorem aK9:und Tryz.prog eE=some (.slice a8):=by kernel_rfl
theorem aK6:∃ i,tin Tryz.prog a8=some i∧i.size=1∧i.bytes=24:=xT (by kernel_rfl)
theorem aKc:zer Tryz.prog a8=some (.slice none 0 0):=by kernel_rfl
section
variable {ro:Ro}{h:T Obj}{nx:Nat}{K:KV}{X:List Nat}
set_option maxRecDepth 8000 in
set_option maxHeartbeats 1000000 in
theorem aF2 {v:Value}{ls:List (List Nat)} (hv:SlR ro (del h X) v 1 (RB ro (del h X)) ls) (hl:ls.length≤kQ) (hlb:∀ b∈ls,b.length≤kQ) (hX:∀ k∈X,k < nx) (hf:Fr h nx)
  (hK:∀ r h' nx',nx≤nx'→Fr h' nx'→Sub h h'→SlR ro (del h' X) r 1 (RB ro (del h' X)) (nD ls)→K r h' nx'):aN Tryz.prog ro uX [v] h nx K:=by
 have hvh:=hv.sub (eT h X) (RB.sub (eT h X))
 have hvl:=hvh.len
 have hl9:ls.length≤9223372036854775807:=hl
 apply aET
 unfold aCr
 refine aA hvl ?_
 refine bA (fun j e h' nx'=>∃ (k:Nat) (out:Value) (cs:List (List Value)),k+j=ls.length∧nx+5≤nx'∧Sub h h'∧Fr h' nx'∧e 3=out∧e 6=v∧e 7=.int .i64 ls.length∧e 8=.int .i64 k∧dK h' out 1 a8 cs nx∧cs.length=min 12 k ∧
   ∀ (i:Nat) x d,cs[i]?=some x→(nD ls)[i]?=some d→RB ro (del h X) x d) ?_ (n:=ls.length) ⟨0,.slice none 0 0,[],by omega,by omega,Sub.refl _,hf.mono (by omega),rfl,rfl,rfl,rfl,dK.nil,rfl,fun i x d hx=>by simp at hx⟩
 rintro j e h' nx' ⟨k,out,cs,hj,hnx,hs,hf',e3,e6,e7,e8,ho,hcl,hcs⟩ Q' hq hx
 unfold yV
 rw[e3,e6,e7,e8]
 refine cY (fun hk=>?_) (fun hk=>?_)
 ·have hk:k < ls.length:=by omega
  have hv2:=hvh.sub hs (RB.sub hs)
  obtain⟨w,⟨w',hw,hwl⟩,hld⟩:=hv2.at1 hk
  cases hw
  have hj2:∀ (e':Env) (h2:T Obj) (n':Nat) (out':Value) (cs':List (List Value)),e' 3=out'→e' 6=v→e' 7=.int .i64 ls.length→e' 8=.int .i64 k→nx'≤n'→Sub h h2→Fr h2 n'→dK h2 out' 1 a8 cs' nx→cs'.length=min 12 (k+1) →
    (∀ (i:Nat) x d,cs'[i]?=some x→(nD ls)[i]?=some d→RB ro (del h X) x d)→oT ro Q' e' h2 n':=by
   intro e' h2 n' out' cs' d3 d6 d7 d8 dn ds df do_ dl dc
   unfold oT
   rw[d8]
   (repeat(first|refine zzB ?_|apply aD|apply aE|with_reducible first|apply aG|apply aF|apply aK|apply aH|apply aJ|apply aI|apply aL|apply aC))
   exact hq (j - 1) _ _ _ _ (by omega) ⟨k+1,out',cs',by omega,by omega,ds,df.mono (by omega),d3,d6,d7,rfl,do_,dl,dc⟩ (Sub.refl _)
  (repeat(first|refine zzB ?_|apply aD|apply aE|with_reducible first|apply aG|apply aF|apply aK|apply aH|apply aJ|apply aI|apply aL|apply aC))
  refine aA (hv2.ix .i64 hk) (aA hld ?_)
  by_cases h12:k < 12
  ·refine aN2 (by omega) ?_
   (repeat(first|refine zzB ?_|apply aD|apply aE|with_reducible first|apply aG|apply aF|apply aK|apply aH|apply aJ|apply aI|apply aL|apply aC))
   obtain⟨w2,⟨w3,hw3,hwl3⟩,hld3⟩:=hv.at1 hk
   cases hw3
   have hww:w2=w:=by
    have h9:=aCR ((eT h X).trans hs) hld3
    rw[hld] at h9
    exact (Option.some.inj h9).symm
   subst hww
   have hlen:=hwl3.len
   rw[cE] at hlen
   have hbl9:ls[k].length≤9223372036854775807:=hlb _ (List.getElem_mem hk)
   refine aA hlen (aA (aIa _ _ _) ?_)
   have hmin:(if (20:Int) < (ls[k].length:Int) then (20:Int) else (ls[k].length:Int))=((min 20 ls[k].length:Nat):Int):=by split<;>omega
   rw[hmin]
   obtain⟨xv,hx1,hx2⟩:=Sl.take (P:=Tryz.prog) hwl3 kD aC5 (by omega) (n:=min 20 ls[k].length) (by rw[cE]; omega) .i64
   have htk:(bP ls[k]).take (min 20 ls[k].length)=bP (ls[k].take 20):=by
    rw[List.take_eq_take_min (i:=20)]
    simp only[bP,List.map_take]
   rw[htk] at hx2
   refine aA hx1 ?_
   obtain⟨o1,m1,c1,e1⟩:=hx2.form
   obtain⟨i9,t1,t2,t3⟩:=aK6
   refine wJ (z:=1) (l:=cs) (y:=[xv]) (by rw[e1]; exact aJt _ _ _ _) rfl ho aK9 t1 (by omega) (by omega) aKc rfl (by simp only[List.all_cons,List.all_nil,hx2.ok,Bool.and_true]) (by rw[t3]; unfold big; omega) (by unfold big; omega) (hf'.mono (by omega)) (by omega) (by omega) (fun e9=>by have:=hf'.lt' (ho.blk e9).2; omega) fun h5 ho5 hk5 hf5=>?_
   refine hj2 _ _ _ _ (cs++[[xv]]) rfl e6 e7 e8 ?_ ?_ ?_ ho5 ?_ ?_
   ·dsimp only; omega
   ·intro b o hb
    have hlt:=hf.lt' hb
    refine hk5 b o (hs b o hb) (by omega) fun e9=>?_
    have:=(ho.blk e9).1
    omega
   ·exact hf5.mono (by dsimp only; omega)
   ·rw[List.length_append,hcl]; show min 12 k+1=_; omega
   ·intro i x d hxi hdi
    rcases Nat.lt_or_ge i cs.length with hi | hi
    ·rw[List.getElem?_append_left hi] at hxi
     exact hcs i x d hxi hdi
    ·rw[List.getElem?_append_right hi] at hxi
     have hi0:i - cs.length=0:=by
      rcases Nat.eq_zero_or_pos (i - cs.length) with h0 | h0
      ·exact h0
      ·rw[List.getElem?_eq_none (by simp; omega)] at hxi; cases hxi
     rw[hi0] at hxi
     cases hxi
     rw[show i=k by omega,aKI hk h12] at hdi
     cases hdi
     exact⟨xv,rfl,hx2⟩
  ·refine aN1 (by omega) ?_
   (repeat(first|refine zzB ?_|apply aD|apply aE|with_reducible first|apply aG|apply aF|apply aK|apply aH|apply aJ|apply aI|apply aL|apply aC))
   refine hj2 _ _ _ out cs e3 e6 e7 e8 ?_ hs ?_ ho ?_ hcs
   ·omega
   ·exact hf'.mono (by omega)
   ·omega
 ·(repeat(first|refine zzB ?_|apply aD|apply aE|with_reducible first|apply aG|apply aF|apply aK|apply aH|apply aJ|apply aI|apply aL|apply aC))
  refine hx _ _ _ _ (fun e=>by cases e) (d5 (cR ?_))
  obtain rfl:k=ls.length:=by omega
  have hfin:∀ (e':Env) n',e' 3=out→nx'≤n'→oS ro K e' h' n':=by
   intro e' n' d3 dn
   unfold oS
   rw[d3]
   have hD:Sub (del h X) (del h' X):=dX.del (ids:=[]) hs.keepL (fun k hk=>by cases hk) fun k hk=>.inl hk
   refine⟨h',Sub.refl _,hK out h' _ (by omega) (hf'.mono (by omega)) hs ⟨cs,(ho.del fun id hid hm=>?_).sl,by rw[hcl,aBE],fun i x d hx hd=>RB.sub hD x d (hcs i x d hx hd)⟩⟩
   have:=(ho.blk hid).1
   have:=hX id hm
   omega
  refine hfin _ _ e3 ?_
  omega
end
end V
end Go.Proofs.YtcaccnneblghgaaGreat
namespace Go.Proofs.YtcaccnneblghgaaGreat
namespace V
attribute [local irreducible] aB ifP aQ cV eS exP cP
def cM (T:TabD):ScD→List (List Nat)→List TokD × ScD
 | s,[]=>([],s)
 | s,b::l=>((dJ T s b).1++(cM T (dJ T s b).2 l).1,(cM T (dJ T s b).2 l).2)
section
variable {T:TabD}
theorem sE:∀ (l:List (List Nat)) (s:ScD),uQ T s l=((cM T s l).1++(iB T (cM T s l).2).1,(iB T (cM T s l).2).2)
 | [],s=>by simp[uQ,cM]
 | b::l,s=>by
  show ((dJ T s b).1++(uQ T (dJ T s b).2 l).1,(uQ T (dJ T s b).2 l).2)=_
  rw[sE l]
  simp[cM]
theorem aEG:∀ (l:List (List Nat)) (s:ScD) (b:List Nat),cM T s (l++[b])=((cM T s l).1++(dJ T (cM T s l).2 b).1,(dJ T (cM T s l).2 b).2)
 | [],s,b=>by simp[cM]
 | c::l,s,b=>by
  rw[List.cons_append]
  show ((dJ T s c).1++(cM T (dJ T s c).2 (l++[b])).1,(cM T (dJ T s c).2 (l++[b])).2)=_
  rw[aEG l]
  simp[cM]
theorem xI (hT:TabR T):∀ (n:Nat) (s:ScD),ScI T s→(fC T n s).1.length+(fC T n s).2.kept.length≤s.kept.length
 | 0,s,h=>by show 0+s.kept.length≤_; omega
 | n+1,s,h=>by
  by_cases hk:s.kept=[]
  ·rw[mK _ hk]; show 0+s.kept.length≤_; omega
  ·have h1:=aGk hT h hk
   rw[iF,if_neg hk]
   split
   ·have h2:=xI hT n _ (aKn hT h1 (by rw[iO]; exact hk))
    obtain⟨l1,l2⟩:=uG h1.ok (by rw[iO]; exact hk)
    rw[aAA,iO] at h2
    rw[iO] at l2
    have h3:(aKB T (pG T (bT T s).2)).length≤1:=by unfold aKB; split<;>simp
    show (aKB T (pG T (bT T s).2)++(fC T n (lS T (bT T s).2)).1).length+(fC T n (lS T (bT T s).2)).2.kept.length≤_
    rw[List.length_append]
    omega
   ·show 0+(bT T s).2.kept.length≤_
    rw[iO]; omega
theorem aCH (hT:TabR T) {s:ScD} (h:ScI T s) (hcl:s.closed=false) (b:List Nat) (hb:∀ x∈b,x < 256):ScI T (dJ T s b).2∧(dJ T s b).2.closed=false∧(dJ T s b).2.at_+(dJ T s b).2.kept.length=s.at_+s.kept.length+b.length∧(dJ T s b).1.length+(dJ T s b).2.kept.length≤s.kept.length+b.length:=by
 obtain⟨h1,h2,h3,h4,h5,h6⟩:=aKz hT.tok h.ok h.c hcl b
 have h7:=xI hT (s.kept.length+b.length) (eC s b) (aKg h hb)
 rw[aBO] at h7
 exact⟨aMz hT h hb,h3,by omega,h7⟩
theorem s3 (hT:TabR T):∀ (l:List (List Nat)) (s:ScD),ScI T s→s.closed=false→(∀ b∈l,∀ x∈b,x < 256)→ScI T (cM T s l).2∧(cM T s l).2.closed=false∧(cM T s l).2.at_+(cM T s l).2.kept.length=s.at_+s.kept.length+l.flatten.length∧(cM T s l).1.length+(cM T s l).2.kept.length≤s.kept.length+l.flatten.length
 | [],s,h,hcl,hb=>⟨h,hcl,by simp[cM],by simp[cM]⟩
 | b::l,s,h,hcl,hb=>by
  obtain⟨h1,h2,h3,h4⟩:=aCH hT h hcl b (hb b (by simp))
  obtain⟨g1,g2,g3,g4⟩:=s3 hT l _ h1 h2 fun c hc=>hb c (by simp[hc])
  rw[List.flatten_cons,List.length_append]
  refine⟨g1,g2,by show (cM T (dJ T s b).2 l).2.at_+(cM T (dJ T s b).2 l).2.kept.length=_; omega,?_⟩
  show ((dJ T s b).1++(cM T (dJ T s b).2 l).1).length+(cM T (dJ T s b).2 l).2.kept.length≤_
  rw[List.length_append]
  omega
end
section
variable {ro:Ro}{h:T Obj}{nx:Nat}{K:KV}{X:List Nat}{p:Nat}{qs:List MqD}{T:TabD}{most:Int}{s:ScD}
structure AlI (ro:Ro) (X:List Nat) (p:Nat) (qs:List MqD) (T:TabD) (most:Int) (h:V.T Obj) (nx:Nat) (s:ScD) (pre:List (List Nat)) (h':V.T Obj) (nx':Nat) (out:Value) (Y:List Nat):Prop where
 kp:dX (iP p qs) h h'
 frr:Fr h' nx'
 sc:ScX ro h' (X++Y) p qs T most 0 (cM T s pre).2
 oo:dK h' out 3 bE (iL (cM T s pre).1) nx
 ob:∀ b∈kV out,b∈Y
 yn:∀ b∈Y,nx≤b∧b≤nx'
 le:nx≤nx'
set_option maxRecDepth 8000 in
set_option maxHeartbeats 1000000 in
theorem AlI.app {pre:List (List Nat)}{h' h2:V.T Obj}{nx' n2 n3:Nat}{out r:Value}{Y:List Nat}{er':Int}{s2:ScD}{l:List TokD} (hi:AlI ro X p qs T most h nx s pre h' nx' out Y) (hf:Fr h nx) (hown:∀ k∈iP p qs,k < nx)
  (hk2:dX (iP p qs) h' h2) (hf2:Fr h2 n2) (hn2:nx'≤n2) (hs2:ScX ro h2 (X++Y) p qs T most er' s2) (ho2:dK h2 r 3 bE (iL l) nx') (hb:(cM T s pre).1.length+l.length≤1000000) (hn3:n2≤n3) :
  ∃ r2 h3 n4 Y2,cA Tryz.prog ro h2 n3 #[eG,eG] [out,r]=some (r2,h3,n4)∧n3≤n4∧dX (iP p qs) h h3∧Fr h3 n4∧ScX ro h3 (X++Y2) p qs T most er' s2∧dK h3 r2 3 bE (iL ((cM T s pre).1++l)) nx∧(∀ b∈kV r2,b∈Y2)∧(∀ b∈Y2,nx≤b∧b≤n4):=by
 obtain⟨kp,fr',sc,oo,ob,yn,le⟩:=hi
 obtain⟨i9,t1,t2,t3⟩:=aLU
 have hout2:dK h2 out 3 bE (iL (cM T s pre).1) nx:=oo.keepK hk2 fun id hid hm9=>by
  have:=hown id hm9
  have:=(oo.blk hid).1
  omega
 have htl:∀ m:List TokD,(iL m).flatten.all cU=true:=fun m=>by
  simp only[iL]
  induction m with
  | nil=>rfl
  | cons a m ih=>rw[List.map_cons,List.flatten_cons,List.all_append,ih]; rfl
 obtain⟨r2,h3,n4,q1,q2,q3,q4,q5,q6⟩:=aAp (P:=Tryz.prog) (ro:=ro) (nx:=n3) hout2 (ho2.sl (ro:=ro)) aJ3 t1 t2 (by omega) aCA rfl (htl l) (by rw[mT,mT,t3]; unfold big; omega) (by rw[mT,mT]; unfold big; omega) (by omega) (hf2.mono (by omega))
 have hcat:iL (cM T s pre).1++iL l=iL ((cM T s pre).1++l):=by simp[iL]
 rw[hcat] at q2
 have hkk:dX (kV out) h2 h3:=fun b o hb hn=>q3 b o hb fun e=>hn (eQ.2 e)
 have hlt2:∀ k∈iP p qs,k < nx:=hown
 refine⟨r2,h3,n4,Y++[n3],q1,q4,fun b o hb hn=>?_,q5,?_,q2,fun b hb=>?_,fun b hb=>?_⟩
 ·refine hkk b o (hk2 b o (kp b o hb hn) hn) fun h9=>?_
  have:=hf.lt' hb
  have:=(yn b (ob b h9)).1
  omega
 ·refine hs2.keep hkk (fun b hb=>List.mem_append_right _ (ob b hb)) (fun b hb h9=>?_) (fun b hb=>?_) fun b hb=>?_
  ·have:=hown b h9
   have:=(yn b (ob b hb)).1
   omega
  ·rcases List.mem_append.1 hb with hb | hb
   ·exact .inl (List.mem_append_left _ hb)
   ·rcases List.mem_append.1 hb with hb | hb
    ·exact .inl (List.mem_append_right _ hb)
    ·simp at hb; subst hb; exact .inr (hf2 _ (by omega))
  ·rw[← List.append_assoc]; exact List.mem_append_left _ hb
 ·have hb:=eQ.1 hb
  rcases q6 with q6 | q6 | q6
  ·rw[q6] at hb; cases hb
  ·rw[q6] at hb; exact List.mem_append_left _ (ob b (eQ.2 hb))
  ·rw[q6] at hb; cases hb; exact List.mem_append_right _ (by simp)
 ·rcases List.mem_append.1 hb with hb | hb
  ·have:=yn b hb; omega
  ·simp at hb; subst hb; omega
set_option maxRecDepth 8000 in
set_option maxHeartbeats 1000000 in
theorem aCq {v:Value}{ls:List (List Nat)} (hm:ScX ro h X p qs T most 0 s) (hT:TabR T) (hI:ScI T s) (hTl:T.entries.length≤1000) (hcl:s.closed=false) (hX:∀ k∈X,k < nx) (hv:SlR ro (del h X) v 1 (RB ro (del h X)) ls) (hll:ls.length≤100000) (hlb:∀ b∈ls,∀ x∈b,x < 256) (hsz:s.at_+s.kept.length+ls.flatten.length≤400)
  (hmo:((s.kept.length+ls.flatten.length:Nat):Int)≤most) (hf:Fr h nx)
  (hK:∀ r h' nx',nx≤nx'→Fr h' nx'→dX (iP p qs) h h'→ScX ro h' X p qs T most 0 (uQ T s ls).2→dK h' r 3 bE (iL (uQ T s ls).1) nx→K (.tuple #[r,.int .i64 0]) h' nx'):aN Tryz.prog ro uC [ptr p,v] h nx K:=by
 have hown:=hm.ownLt hf
 have hownX:∀ k∈iP p qs,k∈X:=fun k hk=>(hm.own k hk).1
 have hvl:=(hv.sub (eT h X) (RB.sub (eT h X))).len
 apply aGx
 unfold aGD
 refine aA hvl ?_
 refine bA (fun j e h' nx'=>∃ (i:Nat) (out:Value) (Y:List Nat),i+j=ls.length∧e 0=ptr p∧e 6=out∧e 13=v∧e 14=.int .i64 ls.length∧e 15=.int .i64 i∧AlI ro X p qs T most h nx s (ls.take i) h' nx' out Y) ?_ (n:=ls.length)
  ⟨0,.slice none 0 0,[],by omega,rfl,rfl,rfl,rfl,rfl,(Sub.refl _).keepL,hf.mono (by omega),by rw[List.append_nil]; exact hm,dK.nil,(fun b hb=>by cases hb),(fun b hb=>by cases hb),by omega⟩
 rintro j e h' nx' ⟨i,out,Y,hj,e0,e6,e13,e14,e15,ai⟩ Q' hq hx
 have hkI:=ai
 obtain⟨kp,fr',sc,oo,ob,yn,le⟩:=ai
 have htake:∀ b∈ls.take i,∀ x∈b,x < 256:=fun b hb=>hlb b (List.mem_of_mem_take hb)
 obtain⟨k1,k2,k3,k4⟩:=s3 hT (ls.take i) s hI hcl htake
 have hD:Sub (del h X) (del h' X):=kp.del hownX fun k hk=>.inl hk
 have hv':=(hv.sub hD (RB.sub hD)).sub (eT h' X) (RB.sub (eT h' X))
 unfold aBd
 rw[e0,e6,e13,e14,e15]
 refine cY (fun hk=>?_) (fun hk=>?_)
 ·have hk:i < ls.length:=by omega
  obtain⟨w,⟨w',hw,hwl⟩,hld⟩:=hv'.at1 hk
  cases hw
  have hfs:=aAE hk
  have hfl:=rM (ls:=ls) (i+1)
  rw[hfs,List.length_append] at hfl
  have htk:ls.take (i+1)=ls.take i++[ls[i]]:=List.take_succ_eq_append_getElem hk
  (repeat(first|refine zzB ?_|apply aD|apply aE|with_reducible first|apply aG|apply aF|apply aK|apply aH|apply aJ|apply aI|apply aL|apply aC))
  refine aA (hv'.ix .i64 hk) (aA hld ?_)
  obtain⟨f1,f2,f3,f4⟩:=aCH hT k1 k2 ls[i] (hlb _ (List.getElem_mem hk))
  refine aJN sc hT k1 hTl k2 (fun k hk9=>?_) hwl (hlb _ (List.getElem_mem hk)) (by omega) (fr'.mono (by omega)) fun r h2 n2 hn2 hf2 hk2 hs2 ho2=>?_
  ·rcases List.mem_append.1 hk9 with hk9 | hk9
   ·have:=hX k hk9; omega
   ·have:=yn k hk9; omega
  have hE:aEF most (dJ T (cM T s (ls.take i)).2 ls[i]).2=0:=by
   unfold aEF
   rw[if_neg (by omega)]
  rw[hE] at hs2 ⊢
  refine aA (aIf _ _) (aA (aIg _ _) ?_)
  obtain⟨r2,h3,n4,Y2,q1,q2,q3,q4,q5,q6,q7,q8⟩:=hkI.app (n3:=n2+8) hf hown hk2 hf2 (by omega) hs2 (ho2.mono (by omega)) (by omega) (by omega)
  refine aA q1 ?_
  (repeat(first|refine zzB ?_|apply aD|apply aE|with_reducible first|apply aG|apply aF|apply aK|apply aH|apply aJ|apply aI|apply aL|apply aC))
  have hsn:=aEG (T:=T) (ls.take i) s ls[i]
  refine hq (j - 1) _ _ _ _ (by omega) ⟨i+1,r2,Y2,by omega,e0,rfl,e13,e14,rfl,q3,q4.mono ?_,?_,?_,q7,fun b hb=>?_,?_⟩ (Sub.refl _)
  ·dsimp only; omega
  ·rw[htk,hsn]; exact q5
  ·rw[htk,hsn]; exact q6
  ·have:=q8 b hb; dsimp only; omega
  ·dsimp only; omega
 ·(repeat(first|refine zzB ?_|apply aD|apply aE|with_reducible first|apply aG|apply aF|apply aK|apply aH|apply aJ|apply aI|apply aL|apply aC))
  refine hx _ _ _ _ (fun e=>by cases e) (d5 (cR ?_))
  obtain rfl:i=ls.length:=by omega
  rw[List.take_length] at k1 k2 k3 k4 sc hkI
  have hj1:∀ (e':Env) n',e' 0=ptr p→e' 6=out→nx'≤n'→rU ro K e' h' n':=by
   intro e' n' d0 d6 dn
   unfold rU
   rw[d0,d6]
   refine aH2 sc hT k1 hTl k2 (by omega) (fr'.mono (by omega)) fun r h2 n2 hn2 hf2 hk2 hs2 ho2=>?_
   refine aA (aIf _ _) (aA (aIg _ _) ?_)
   have hcc:=xI hT (cM T s ls).2.kept.length { (cM T s ls).2 with closed:=true } (aBU k1)
   have hcc:(iB T (cM T s ls).2).1.length+(iB T (cM T s ls).2).2.kept.length≤(cM T s ls).2.kept.length:=hcc
   obtain⟨r2,h3,n4,Y2,q1,q2,q3,q4,q5,q6,q7,q8⟩:=hkI.app (n3:=n2+8) hf hown hk2 hf2 (by omega) hs2 (ho2.mono (by omega)) (by omega) (by omega)
   refine aA q1 ?_
   refine⟨h3,Sub.refl _,hK r2 h3 _ ?_ (q4.mono ?_) q3 ?_ ?_⟩
   ·dsimp only; omega
   ·dsimp only; omega
   ·rw[sE]
    exact q5.shrink (fun k hk=>List.mem_append_left _ hk) hownX
   ·rw[sE]; exact q6
  refine hj1 _ _ e0 e6 ?_
  omega
end
end V
end Go.Proofs.YtcaccnneblghgaaGreat
namespace Go.Proofs.YtcaccnneblghgaaGreat
namespace V
section
variable {T:TabD}
def aHd:Nat→List TokD→Prop
 | _,[]=>True
 | a,t::r=>a≤t.from_∧t.from_ < t.to∧aHd t.to r
theorem aHd.mono {a b:Nat}:∀ {l:List TokD},aHd b l→a≤b→aHd a l
 | [],_,_=>trivial
 | t::r,h,hab=>⟨Nat.le_trans hab h.1,h.2⟩
theorem aHd.app {b:Nat}:∀ {l m:List TokD}{a:Nat},aHd a l→(∀ t∈l,t.to≤b)→a≤b→aHd b m→aHd a (l++m)
 | [],m,a,_,_,hab,hm=>hm.mono hab
 | t::r,m,a,h,hl,hab,hm=>⟨h.1,h.2.1,h.2.2.app (fun x hx=>hl x (by simp[hx])) (hl t (by simp)) hm⟩
theorem aEy (hT:TabR T):∀ (n:Nat) (s:ScD),ScI T s→s.at_+s.took≤s.steps→(fC T n s).2.at_+(fC T n s).2.took≤(fC T n s).2.steps
 | 0,s,h,hs=>hs
 | n+1,s,h,hs=>by
  by_cases hk:s.kept=[]
  ·rw[mK _ hk]; exact hs
  ·have h1:=aGk hT h hk
   obtain⟨_,e2,_,_,e5,e6⟩:=pR (oG T s).a (s.kept.drop s.took) (oI s) h.ok.tr
   have e5:(bT T s).2.steps+s.took=s.steps+(bT T s).2.took:=e5
   have e7:(bT T s).2.at_=s.at_:=rfl
   have hge:(bT T s).2.at_+(bT T s).2.took≤(bT T s).2.steps:=by omega
   rw[iF,if_neg hk]
   split
   ·refine aEy hT n _ (aKn hT h1 hk) ?_
    show (bT T s).2.at_+eY (bT T s).2+0≤(bT T s).2.steps
    have hp:=h1.ok.held
    have hl:0 < s.kept.length:=List.length_pos_iff.2 hk
    have ht:1≤(bT T s).2.took:=by
     rcases Nat.lt_or_ge s.took s.kept.length with h9 | h9
     ·have:=(aBY h.ok).2 hk h9; omega
     ·have e2:s.took≤(bT T s).2.took:=e2
      omega
    unfold eY
    split<;>omega
   ·exact hge
end
end V
end Go.Proofs.YtcaccnneblghgaaGreat
namespace Go.Proofs.YtcaccnneblghgaaGreat
namespace V
abbrev b0:Value:=.int .u8 0
abbrev b1:Value:=.int .u8 1
abbrev j0:Value:=.int .i64 0
abbrev jm:Value:=.int .i64 (-1)
abbrev s0:Value:=.slice none 0 0
def kTf (o:Obj):T Obj:=.n .e (some o) .e
def kTl (x:T Obj):T Obj:=.n x none .e
def kTr (x:T Obj):T Obj:=.n .e none x
def kTb (x y:T Obj):T Obj:=.n x none y
def kTn (x:T Obj) (o:Obj) (y:T Obj):T Obj:=.n x (some o) y
set_option maxRecDepth 1000000
def kO0:Obj:=.cells ⟨[.slice (some ⟨1009,0,(some 1)⟩) 1 1,.bool false,.bool false,.string ⟨⟨[65]⟩⟩,jm,.int .i64 11,.slice (some ⟨1706,0,(some 9)⟩) 2 2]⟩ 90
def kO1:Obj:=.cells ⟨[j0]⟩ 3
def kO2:Obj:=.cells ⟨[.string ⟨⟨[115,116,97,114,116]⟩⟩]⟩ 9
def kO3:Obj:=.cells ⟨[.int .u8 2,.int .u64 0,.int .u64 8589934592,.int .u64 0,.int .u64 0,s0,j0,j0,.string ⟨⟨[]⟩⟩,.int .u8 5,.int .u64 0,.int .u64 0,.int .u64 0,.int .u64 0,.slice (some ⟨1688,0,(some 1)⟩) 1 1,.int .i64 1,jm,.string ⟨⟨[]⟩⟩]⟩ 86
def kV4:List Value:=[.string ⟨⟨[114,117,108,101,32,42,32,45,32,65,32,97,43]⟩⟩]
def kV5:Value:=.tuple ⟨[.agg ⟨[.slice (some ⟨8,0,(some 1)⟩) 1 1,s0,.slice (some ⟨1915,0,(some 7)⟩) 1 1]⟩,j0,j0]⟩
def sR:Cp where
 f:=aF0
 args:=kV4
 h:=.e
 nx:=2
 v:=kV5
 h':=kTb (kTb (kTr (kTr (kTr (kTr (kTr (kTl (kTr (kTr (kTf kO0))))))))) (kTl (kTl (kTr (kTr (kTr (kTr (kTr (kTf kO1))))))))) (kTb (kTl (kTn .e kO2 (kTr (kTl (kTl (kTr (kTl (kTr (kTf kO1))))))))) (kTl (kTr (kTl (kTr (kTl (kTr (kTl (kTr (kTf kO3))))))))))
 nx':=2425
theorem jG:sJ Tryz.prog sR:=tX kX (l:=[]) kW (k:=200) fun ro=>by kernel_rfl
end V
end Go.Proofs.YtcaccnneblghgaaGreat
namespace Go.Proofs.YtcaccnneblghgaaGreat
namespace V
set_option maxRecDepth 1000000
def kO6:Obj:=.cells ⟨[.slice (some ⟨8,0,(some 1)⟩) 1 1,s0,.slice (some ⟨1915,0,(some 7)⟩) 1 1]⟩ 26
def kO7:Obj:=.cells ⟨[s0,s0,s0,s0]⟩ 34
def kV8:List Value:=[.agg ⟨[.slice (some ⟨8,0,(some 1)⟩) 1 1,s0,.slice (some ⟨1915,0,(some 7)⟩) 1 1]⟩]
def xN:Cp where
 f:=aF1
 args:=kV8
 h:=kTb (kTb (kTr (kTb (kTl (kTl (kTl (kTr (kTr (kTl (kTl (kTf kO6)))))))) (kTr (kTr (kTr (kTl (kTr (kTr (kTf kO0))))))))) (kTb (kTl (kTr (kTr (kTr (kTr (kTr (kTf kO1))))))) (kTr (kTr (kTr (kTr (kTl (kTr (kTl (kTl (kTf kO6))))))))))) (kTb (kTb (kTn .e kO2 (kTr (kTl (kTl (kTr (kTl (kTr (kTf kO1)))))))) (kTl (kTl (kTl (kTl (kTr (kTr (kTl (kTl (kTf kO7)))))))))) (kTl (kTr (kTl (kTr (kTl (kTr (kTl (kTr (kTf kO3))))))))))
 nx:=2441
 v:=.bool true
 h':=kTb (kTb (kTr (kTb (kTl (kTl (kTl (kTr (kTr (kTl (kTl (kTf kO6)))))))) (kTr (kTr (kTr (kTl (kTr (kTr (kTf kO0))))))))) (kTb (kTl (kTr (kTr (kTr (kTr (kTr (kTf kO1))))))) (kTr (kTr (kTr (kTr (kTl (kTr (kTl (kTl (kTf kO6))))))))))) (kTb (kTb (kTn .e kO2 (kTr (kTl (kTl (kTr (kTl (kTr (kTf kO1)))))))) (kTl (kTl (kTl (kTl (kTr (kTr (kTl (kTl (kTf kO7)))))))))) (kTl (kTr (kTl (kTr (kTl (kTr (kTl (kTr (kTf kO3))))))))))
 nx':=3274
theorem lR:sJ Tryz.prog xN:=tX kX (l:=[sR]) (bD jG kW) (k:=200) fun ro=>by kernel_rfl
end V
end Go.Proofs.YtcaccnneblghgaaGreat
namespace Go.Proofs.YtcaccnneblghgaaGreat
namespace V
set_option maxRecDepth 1000000
def kO9:Obj:=.cells ⟨[.slice (some ⟨3287,0,(some 1)⟩) 1 1,s0,s0,s0]⟩ 34
def wW:Obj:=.cells ⟨[.int .u8 2,.int .u64 0,.int .u64 8589934592,.int .u64 0,.int .u64 0,s0,j0,j0,.string ⟨⟨[]⟩⟩,.int .u8 5,.int .u64 0,.int .u64 0,.int .u64 0,.int .u64 0,.slice (some ⟨4546,0,(some 1)⟩) 1 1,.int .i64 1,jm,.string ⟨⟨[]⟩⟩]⟩ 86
def aRT:List Value:=[.agg ⟨[.slice (some ⟨8,0,(some 1)⟩) 1 1,s0,.slice (some ⟨1915,0,(some 7)⟩) 1 1]⟩,j0]
def aRU:Value:=.tuple ⟨[.slice (some ⟨4581,0,(some 9)⟩) 2 2,j0]⟩
def yE:Cp where
 f:=aGu
 args:=aRT
 h:=kTb (kTb (kTb (kTr (kTr (kTl (kTr (kTr (kTl (kTl (kTr (kTf kO2))))))))) (kTb (kTb (kTl (kTl (kTr (kTr (kTl (kTl (kTf kO6))))))) (kTl (kTr (kTr (kTl (kTl (kTr (kTl .e)))))))) (kTr (kTr (kTr (kTl (kTr (kTr (kTf kO0))))))))) (kTb (kTb (kTr (kTr (kTr (kTr (kTr (kTf kO1)))))) (kTr (kTl (kTr (kTr (kTl (kTl (kTr (kTf kO9))))))))) (kTr (kTr (kTr (kTr (kTl (kTr (kTl (kTl (kTf kO6))))))))))) (kTb (kTb (kTn .e kO2 (kTr (kTl (kTl (kTr (kTl (kTr (kTf kO1)))))))) (kTl (kTl (kTl (kTl (kTr (kTr (kTl (kTl (kTf kO7)))))))))) (kTl (kTr (kTl (kTr (kTl (kTr (kTl (kTr (kTf kO3))))))))))
 nx:=3301
 v:=aRU
 h':=kTb (kTb (kTb (kTr (kTr (kTl (kTr (kTr (kTl (kTl (kTr (kTf kO2))))))))) (kTb (kTl (kTl (kTl (kTr (kTr (kTl (kTl (kTf kO6)))))))) (kTr (kTr (kTr (kTl (kTr (kTr (kTf kO0))))))))) (kTb (kTb (kTr (kTr (kTr (kTr (kTr (kTf kO1)))))) (kTr (kTl (kTr (kTr (kTl (kTl (kTr (kTf kO9))))))))) (kTb (kTl (kTr (kTr (kTr (kTr (kTl (kTl (kTl (kTf wW))))))))) (kTr (kTr (kTr (kTl (kTr (kTl (kTl (kTf kO6))))))))))) (kTb (kTb (kTn .e kO2 (kTr (kTl (kTl (kTr (kTl (kTr (kTf kO1)))))))) (kTl (kTl (kTl (kTl (kTr (kTr (kTl (kTl (kTf kO7)))))))))) (kTl (kTb (kTl (kTl (kTr (kTr (kTr (kTl (kTl (kTl (kTf kO1))))))))) (kTl (kTr (kTl (kTr (kTl (kTr (kTf kO3))))))))))
 nx':=4609
theorem nH:sJ Tryz.prog yE:=tX kX (l:=[sR,xN]) (bD jG (bD lR kW)) (k:=200) fun ro=>by kernel_rfl
end V
end Go.Proofs.YtcaccnneblghgaaGreat
namespace Go.Proofs.YtcaccnneblghgaaGreat
namespace V
set_option maxRecDepth 1000000
def yS:Obj:=.cells ⟨[.int .u8 2,.int .u64 0,.int .u64 8589934592,.int .u64 0,.int .u64 0,s0,j0,j0,.string ⟨⟨[]⟩⟩,.int .u8 2,.int .u64 0,.int .u64 8589934592,.int .u64 0,.int .u64 0,s0,j0,j0,.string ⟨⟨[]⟩⟩,.int .u8 5,.int .u64 0,.int .u64 0,.int .u64 0,.int .u64 0,.slice (some ⟨5182,0,(some 1)⟩) 1 1,j0,jm,.string ⟨⟨[]⟩⟩,.int .u8 3,.int .u64 0,.int .u64 0,.int .u64 0,.int .u64 0,.slice (some ⟨5215,0,(some 1)⟩) 2 2,j0,j0,.string ⟨⟨[]⟩⟩]⟩ 86
def yT:Obj:=.cells ⟨[j0,.int .i64 2]⟩ 3
def jV:Obj:=.cells ⟨[.int .i64 1]⟩ 3
def aRV:List Value:=[.slice (some ⟨4581,0,(some 9)⟩) 2 2,.int .i64 9]
def aRW:Value:=.tuple ⟨[.slice (some ⟨5247,0,(some 9)⟩) 4 4,j0]⟩
def aAV:Cp where
 f:=aGt
 args:=aRV
 h:=kTb (kTb (kTb (kTr (kTr (kTl (kTr (kTr (kTl (kTl (kTr (kTf kO2))))))))) (kTb (kTl (kTl (kTl (kTr (kTr (kTl (kTl (kTf kO6)))))))) (kTr (kTr (kTr (kTl (kTr (kTr (kTf kO0))))))))) (kTb (kTb (kTr (kTr (kTr (kTr (kTr (kTf kO1)))))) (kTr (kTl (kTr (kTr (kTl (kTl (kTr (kTf kO9))))))))) (kTb (kTl (kTr (kTr (kTr (kTr (kTl (kTl (kTl (kTf wW))))))))) (kTr (kTr (kTr (kTl (kTr (kTl (kTl (kTf kO6))))))))))) (kTb (kTb (kTn .e kO2 (kTr (kTl (kTl (kTr (kTl (kTr (kTf kO1)))))))) (kTl (kTl (kTl (kTl (kTr (kTr (kTl (kTl (kTf kO7)))))))))) (kTl (kTb (kTl (kTl (kTr (kTr (kTr (kTl (kTl (kTl (kTf kO1))))))))) (kTl (kTr (kTl (kTr (kTl (kTr (kTf kO3))))))))))
 nx:=4617
 v:=aRW
 h':=kTb (kTb (kTb (kTb (kTl (kTb (kTl (kTr (kTl (kTl (kTr (kTl (kTf yS))))))) (kTr (kTl (kTl (kTl (kTr (kTl (kTf yT))))))))) (kTr (kTl (kTr (kTr (kTl (kTl (kTr (kTf kO2))))))))) (kTb (kTl (kTl (kTl (kTr (kTr (kTl (kTl (kTf kO6)))))))) (kTr (kTr (kTr (kTl (kTr (kTr (kTf kO0))))))))) (kTb (kTb (kTr (kTr (kTr (kTr (kTr (kTf kO1)))))) (kTr (kTl (kTr (kTr (kTl (kTl (kTr (kTf kO9))))))))) (kTb (kTl (kTr (kTr (kTr (kTr (kTl (kTl (kTl (kTf wW))))))))) (kTr (kTr (kTr (kTl (kTr (kTl (kTl (kTf kO6))))))))))) (kTb (kTb (kTn .e kO2 (kTr (kTl (kTl (kTr (kTl (kTr (kTf kO1)))))))) (kTl (kTl (kTl (kTl (kTr (kTr (kTl (kTl (kTf kO7)))))))))) (kTb (kTb (kTl (kTl (kTr (kTr (kTr (kTl (kTl (kTl (kTf kO1))))))))) (kTl (kTr (kTl (kTr (kTl (kTr (kTf kO3)))))))) (kTr (kTr (kTr (kTl (kTl (kTl (kTl (kTr (kTl (kTf jV))))))))))))
 nx':=5824
theorem oL:sJ Tryz.prog aAV:=tX kX (l:=[sR,xN,yE]) (bD jG (bD lR (bD nH kW))) (k:=200) fun ro=>by kernel_rfl
end V
end Go.Proofs.YtcaccnneblghgaaGreat
namespace Go.Proofs.YtcaccnneblghgaaGreat
namespace V
set_option maxRecDepth 1000000
def aQq (t:List Value):List Value:=b0::b0::b0::b0::b0::b0::b0::b0::b0::b0::b0::b0::b0::b0::b0::b0::b0::b0::b0::b0::b0::b0::b0::b0::b0::b0::b0::b0::b0::b0::b0::b0::b0::b0::b0::b0::b0::b0::b0::b0::b0::b0::b0::b0::b0::b0::b0::b0::b0::b0::b0::b0::b0::b0::b0::b0::b0::b0::b0::b0::b0::b0::b0::b0::b0::b0::b0::b0::b0::b0::b0::b0::b0::b0::b0::b0::b0::b0::b0::b0::b0::b0::b0::b0::b0::b0::b0::b0::b0::b0::b0::b0::b0::b0::b0::b0::b0::b0::b0::b0::b0::b0::b0::b0::b0::b0::b0::b0::b0::b0::b0::b0::b0::b0::b0::b0::b0::b0::b0::b0::b0::b0::b0::b0::b0::b0::b0::b0::b0::b0::b0::b0::b0::b0::b0::b0::b0::b0::b0::b0::b0::b0::b0::b0::b0::b0::b0::b0::b0::b0::b0::b0::b0::b0::b0::b0::b0::b0::b0::b0::b0::b0::b0::b0::b0::b0::b0::b0::b0::b0::b0::b0::b0::b0::b0::b0::b0::b0::b0::b0::b0::b0::b0::b0::b0::b0::b0::b0::b0::b0::b0::b0::b0::b0::b0::b0::b0::b0::b0::b0::b0::b0::b0::b0::b0::b0::b0::b0::b0::b0::b0::b0::b0::b0::b0::b0::b0::b0::b0::b0::b0::b0::b0::b0::b0::b0::b0::b0::b0::b0::b0::b0::b0::b0::b0::b0::b0::b0::b0::b0::b0::b0::b0::b0::b0::b0::b0::b0::b0::b0::b0::b0::b0::b0::b0::b0::t
def gO:Obj:=.cells ⟨[.slice (some ⟨5247,0,(some 9)⟩) 4 4]⟩ 79
def aIX:Obj:=.cells ⟨[.slice (some ⟨3287,0,(some 1)⟩) 1 1,.slice (some ⟨5849,0,(some 1)⟩) 1 1,.slice (some ⟨5862,0,(some 1)⟩) 1 1,s0]⟩ 34
def lM:Obj:=.cells ⟨[.string ⟨⟨[65]⟩⟩]⟩ 9
def aDW:Obj:=.cells ⟨(aQq [j0,s0,s0,s0])⟩ 65
def fV:Obj:=.cells ⟨[jm]⟩ 3
def aNK:Obj:=.cells ⟨[.int .u64 0,.int .u64 8589934592,.int .u64 0,.int .u64 0,.int .i64 1,.int .i64 1,j0,.bool true,.slice (some ⟨7491,0,(some 1)⟩) 1 1,.int .u64 0,.int .u64 8589934592,.int .u64 0,.int .u64 0,.int .i64 1,.int .i64 1,j0,.bool true,.slice (some ⟨7219,0,(some 1)⟩) 1 1]⟩ 192
def aRX:Value:=.tuple ⟨[.agg ⟨[.slice (some ⟨7717,0,(some 1)⟩) 1 1,.slice (some ⟨6903,0,(some 9)⟩) 2 2]⟩,j0]⟩
def aKl:Cp where
 f:=aEO
 args:=[.slice (some ⟨5963,0,(some 1)⟩) 1 1]
 h:=kTb (kTb (kTb (kTb (kTl (kTb (kTl (kTr (kTl (kTl (kTr (kTl (kTf yS))))))) (kTr (kTl (kTl (kTl (kTr (kTl (kTf yT))))))))) (kTr (kTl (kTr (kTr (kTl (kTl (kTr (kTf kO2))))))))) (kTb (kTl (kTl (kTl (kTr (kTr (kTl (kTl (kTf kO6)))))))) (kTb (kTb (kTr (kTb (kTr (kTr (kTr (kTl (kTf gO))))) (kTl (kTr (kTr (kTl (kTf gO))))))) (kTl (kTl (kTr (kTr (kTr (kTl (kTf kO1)))))))) (kTr (kTr (kTl (kTr (kTr (kTf kO0))))))))) (kTb (kTb (kTr (kTr (kTr (kTr (kTr (kTf kO1)))))) (kTb (kTb (kTr (kTb (kTr (kTr (kTr (kTl (kTf gO))))) (kTl (kTr (kTr (kTl (kTf gO))))))) (kTl (kTl (kTr (kTr (kTr (kTl (kTf kO1)))))))) (kTb (kTr (kTr (kTl (kTb (kTr (kTf aIX)) (kTr (kTl (kTf lM))))))) (kTl (kTl (kTr (kTr (kTr (kTl (kTf aDW)))))))))) (kTb (kTb (kTr (kTr (kTr (kTr (kTl (kTl (kTl (kTf wW)))))))) (kTl (kTr (kTr (kTl (kTr (kTr (kTl (kTf lM))))))))) (kTr (kTr (kTr (kTb (kTr (kTl (kTl (kTf kO6)))) (kTl (kTr (kTr (kTl (kTf kO6)))))))))))) (kTb (kTb (kTn .e kO2 (kTr (kTl (kTl (kTr (kTl (kTr (kTf kO1)))))))) (kTl (kTl (kTl (kTl (kTr (kTr (kTl (kTl (kTf kO7)))))))))) (kTb (kTb (kTl (kTb (kTr (kTr (kTr (kTl (kTl (kTl (kTf kO1))))))) (kTr (kTr (kTl (kTr (kTr (kTl (kTf fV))))))))) (kTl (kTr (kTl (kTr (kTl (kTr (kTf kO3)))))))) (kTb (kTl (kTr (kTr (kTr (kTl (kTr (kTr (kTl (kTf fV))))))))) (kTr (kTr (kTl (kTl (kTl (kTl (kTr (kTl (kTf jV))))))))))))
 nx:=5974
 v:=aRX
 h':=kTb (kTb (kTb (kTb (kTl (kTb (kTl (kTr (kTl (kTl (kTr (kTl (kTf yS))))))) (kTr (kTl (kTl (kTl (kTr (kTl (kTf yT))))))))) (kTr (kTb (kTr (kTr (kTl (kTl (kTr (kTf kO2)))))) (kTr (kTr (kTl (kTr (kTl (kTr (kTf aNK)))))))))) (kTb (kTb (kTl (kTb (kTr (kTr (kTl (kTl (kTf kO6))))) (kTl (kTr (kTl (kTr (kTr (kTf jV)))))))) (kTr (kTl (kTl (kTl (kTl (kTr (kTr (kTf jV))))))))) (kTb (kTb (kTr (kTb (kTr (kTr (kTr (kTl (kTf gO))))) (kTl (kTr (kTr (kTl (kTf gO))))))) (kTl (kTl (kTr (kTr (kTr (kTl (kTf kO1)))))))) (kTr (kTr (kTl (kTr (kTr (kTf kO0))))))))) (kTb (kTb (kTr (kTr (kTr (kTr (kTr (kTf kO1)))))) (kTb (kTb (kTr (kTb (kTr (kTr (kTr (kTl (kTf gO))))) (kTl (kTr (kTr (kTl (kTf gO))))))) (kTl (kTl (kTr (kTr (kTr (kTl (kTf kO1)))))))) (kTb (kTr (kTr (kTl (kTb (kTr (kTf aIX)) (kTr (kTl (kTf lM))))))) (kTl (kTl (kTr (kTr (kTr (kTl (kTf aDW)))))))))) (kTb (kTb (kTr (kTb (kTl (kTl (kTr (kTr (kTr (kTf kO1)))))) (kTr (kTr (kTl (kTl (kTl (kTf wW)))))))) (kTl (kTr (kTr (kTl (kTr (kTr (kTl (kTf lM))))))))) (kTr (kTr (kTr (kTb (kTr (kTl (kTl (kTf kO6)))) (kTl (kTr (kTr (kTl (kTf kO6)))))))))))) (kTb (kTb (kTn .e kO2 (kTr (kTl (kTl (kTr (kTl (kTr (kTf kO1)))))))) (kTl (kTl (kTl (kTl (kTr (kTr (kTl (kTl (kTf kO7)))))))))) (kTb (kTb (kTl (kTb (kTr (kTr (kTr (kTl (kTl (kTl (kTf kO1))))))) (kTr (kTr (kTl (kTr (kTr (kTl (kTf fV))))))))) (kTl (kTr (kTl (kTr (kTl (kTr (kTf kO3)))))))) (kTb (kTl (kTr (kTr (kTr (kTl (kTr (kTr (kTl (kTf fV))))))))) (kTr (kTr (kTl (kTl (kTl (kTl (kTr (kTl (kTf jV))))))))))))
 nx':=7804
theorem aDw:sJ Tryz.prog aKl:=tX kX (l:=[sR,xN,yE,aAV]) (bD jG (bD lR (bD nH (bD oL kW)))) (k:=200) fun ro=>by kernel_rfl
end V
end Go.Proofs.YtcaccnneblghgaaGreat
namespace Go.Proofs.YtcaccnneblghgaaGreat
namespace V
set_option maxRecDepth 1000000
def aBb (t:List Value):List Value:=b0::b0::b0::b0::b0::b0::b0::b0::b0::b0::b0::b0::b0::b0::b0::b0::b0::b0::b0::b0::b0::b0::b0::b0::b0::b0::b0::b0::b0::b0::b0::b0::b0::b0::b0::b0::b0::b0::b0::b0::b0::b0::b0::b0::b0::b0::b0::b0::b0::b0::b0::b0::b0::b0::b0::b0::b0::b0::b0::b0::b0::b0::b0::b0::b0::b0::b0::b0::b0::b0::b0::b0::b0::b0::b0::b0::b0::b0::b0::b0::b0::b0::b0::b0::b0::b0::b0::b0::b0::b0::b0::b0::b0::b0::b0::b0::b0::b1::b0::b0::b0::b0::b0::b0::b0::b0::b0::b0::b0::b0::b0::b0::b0::b0::b0::b0::b0::b0::b0::b0::b0::b0::b0::b0::b0::b0::b0::b0::b0::b0::b0::b0::b0::b0::b0::b0::b0::b0::b0::b0::b0::b0::b0::b0::b0::b0::b0::b0::b0::b0::b0::b0::b0::b0::b0::b0::b0::b0::b0::b0::b0::b0::b0::b0::b0::b0::b0::b0::b0::b0::b0::b0::b0::b0::b0::b0::b0::b0::b0::b0::b0::b0::b0::b0::b0::b0::b0::b0::b0::b0::b0::b0::b0::b0::b0::b0::b0::b0::b0::b0::b0::b0::b0::b0::b0::b0::b0::b0::b0::b0::b0::b0::b0::b0::b0::b0::b0::b0::b0::b0::b0::b0::b0::b0::b0::b0::b0::b0::b0::b0::b0::b0::b0::b0::b0::b0::b0::b0::b0::b0::b0::b0::b0::b0::b0::b0::b0::b0::b0::b0::b0::b0::b0::b0::b0::b0::t
def aOh:Obj:=.cells ⟨[.slice (some ⟨7717,0,(some 1)⟩) 1 1,.slice (some ⟨6903,0,(some 9)⟩) 2 2]⟩ 136
def aDX:Obj:=.cells ⟨[jm,s0,.int .i64 2,s0]⟩ 202
def aLm:Obj:=.cells ⟨[jm,s0,.int .i64 1,s0]⟩ 202
def aPy:Obj:=.cells ⟨[.slice (some ⟨42591,0,(some 2)⟩) 2 2]⟩ 200
def aPz:Obj:=.cells ⟨[.slice (some ⟨40887,0,(some 2)⟩) 2 2]⟩ 200
def aQA:Obj:=.cells ⟨[s0,s0,.slice (some ⟨40384,0,(some 1)⟩) 1 1,.slice (some ⟨40909,0,(some 1)⟩) 1 1,.slice (some ⟨40670,0,(some 1)⟩) 1 1,s0,.slice (some ⟨41071,0,(some 1)⟩) 1 1,.slice (some ⟨41768,0,(some 1)⟩) 1 1,.slice (some ⟨41593,0,(some 1)⟩) 1 1,s0,.slice (some ⟨41930,0,(some 1)⟩) 1 1,.slice (some ⟨42613,0,(some 1)⟩) 1 1]⟩ 160
def aQB:Obj:=.cells ⟨[.slice (some ⟨41746,0,(some 2)⟩) 2 2]⟩ 200
def aRY:List Value:=[.agg ⟨[.slice (some ⟨7717,0,(some 1)⟩) 1 1,.slice (some ⟨6903,0,(some 9)⟩) 2 2]⟩]
def aRZ:Value:=.tuple ⟨[.agg ⟨(aBb [.int .i64 2,s0,.slice (some ⟨41728,0,(some 4)⟩) 3 3])⟩,j0]⟩
def aMi:Cp where
 f:=aEP
 args:=aRY
 h:=kTb (kTb (kTb (kTb (kTl (kTb (kTl (kTr (kTl (kTb (kTr (kTl (kTf yS))) (kTr (kTr (kTf aOh))))))) (kTr (kTl (kTl (kTl (kTr (kTl (kTf yT))))))))) (kTr (kTb (kTr (kTr (kTl (kTl (kTr (kTf kO2)))))) (kTr (kTr (kTl (kTr (kTl (kTr (kTf aNK)))))))))) (kTb (kTb (kTl (kTb (kTr (kTr (kTl (kTl (kTf kO6))))) (kTl (kTr (kTl (kTr (kTr (kTf jV)))))))) (kTr (kTl (kTl (kTl (kTl (kTr (kTr (kTf jV))))))))) (kTb (kTb (kTr (kTb (kTr (kTr (kTr (kTl (kTf gO))))) (kTl (kTr (kTr (kTl (kTf gO))))))) (kTl (kTl (kTr (kTr (kTr (kTl (kTf kO1)))))))) (kTr (kTr (kTl (kTr (kTr (kTf kO0))))))))) (kTb (kTb (kTr (kTr (kTr (kTr (kTr (kTf kO1)))))) (kTb (kTb (kTr (kTb (kTr (kTr (kTr (kTl (kTf gO))))) (kTl (kTr (kTr (kTl (kTf gO))))))) (kTl (kTl (kTr (kTr (kTr (kTl (kTf kO1)))))))) (kTb (kTr (kTr (kTl (kTb (kTr (kTf aIX)) (kTr (kTl (kTf lM))))))) (kTl (kTl (kTr (kTr (kTr (kTl (kTf aDW)))))))))) (kTb (kTb (kTr (kTb (kTl (kTl (kTr (kTr (kTr (kTf kO1)))))) (kTr (kTr (kTl (kTl (kTl (kTf wW)))))))) (kTl (kTr (kTr (kTl (kTr (kTr (kTl (kTf lM))))))))) (kTr (kTr (kTr (kTb (kTr (kTl (kTl (kTf kO6)))) (kTl (kTr (kTr (kTl (kTf kO6)))))))))))) (kTb (kTb (kTn .e kO2 (kTr (kTl (kTl (kTr (kTl (kTr (kTf kO1)))))))) (kTl (kTl (kTl (kTl (kTr (kTr (kTl (kTl (kTf kO7)))))))))) (kTb (kTb (kTl (kTb (kTr (kTr (kTr (kTl (kTl (kTl (kTf kO1))))))) (kTr (kTr (kTl (kTr (kTr (kTl (kTf fV))))))))) (kTl (kTr (kTl (kTr (kTl (kTr (kTf kO3)))))))) (kTb (kTl (kTr (kTr (kTr (kTl (kTr (kTr (kTl (kTf fV))))))))) (kTr (kTr (kTl (kTl (kTl (kTl (kTr (kTl (kTf jV))))))))))))
 nx:=7814
 v:=aRZ
 h':=kTb (kTb (kTb (kTb (kTb (kTb (kTl (kTr (kTl (kTb (kTr (kTl (kTf yS))) (kTr (kTr (kTf aOh))))))) (kTr (kTl (kTl (kTb (kTr (kTl (kTf yT))) (kTr (kTl (kTl (kTr (kTl (kTf aDX))))))))))) (kTr (kTr (kTl (kTl (kTl (kTl (kTl (kTl (kTr (kTl (kTf kO1)))))))))))) (kTr (kTb (kTr (kTr (kTl (kTl (kTr (kTf kO2)))))) (kTb (kTr (kTr (kTr (kTr (kTr (kTr (kTl (kTl (kTf aLm))))))))) (kTr (kTl (kTr (kTl (kTr (kTf aNK)))))))))) (kTb (kTb (kTl (kTb (kTr (kTr (kTl (kTl (kTf kO6))))) (kTl (kTr (kTl (kTr (kTr (kTf jV)))))))) (kTr (kTl (kTl (kTl (kTl (kTr (kTr (kTf jV))))))))) (kTb (kTb (kTr (kTb (kTr (kTr (kTr (kTl (kTf gO))))) (kTl (kTr (kTr (kTl (kTf gO))))))) (kTl (kTl (kTr (kTr (kTr (kTl (kTf kO1)))))))) (kTr (kTr (kTl (kTr (kTr (kTf kO0))))))))) (kTb (kTb (kTr (kTr (kTr (kTr (kTr (kTf kO1)))))) (kTb (kTb (kTr (kTb (kTr (kTr (kTr (kTl (kTf gO))))) (kTl (kTr (kTr (kTl (kTf gO))))))) (kTl (kTl (kTr (kTr (kTr (kTl (kTf kO1)))))))) (kTb (kTr (kTr (kTl (kTb (kTr (kTf aIX)) (kTr (kTl (kTf lM))))))) (kTb (kTl (kTr (kTr (kTr (kTl (kTf aDW)))))) (kTl (kTl (kTr (kTl (kTl (kTl (kTr (kTl (kTf jV))))))))))))) (kTb (kTb (kTr (kTb (kTl (kTl (kTr (kTr (kTr (kTf kO1)))))) (kTr (kTr (kTl (kTl (kTl (kTf wW)))))))) (kTb (kTr (kTr (kTl (kTr (kTr (kTl (kTf lM))))))) (kTr (kTl (kTl (kTr (kTr (kTl (kTl (kTr (kTl (kTf aPy)))))))))))) (kTb (kTl (kTr (kTr (kTr (kTr (kTr (kTr (kTr (kTl (kTl (kTf aPz))))))))))) (kTr (kTr (kTb (kTr (kTl (kTl (kTf kO6)))) (kTl (kTr (kTr (kTl (kTf kO6)))))))))))) (kTb (kTb (kTn (kTl (kTl (kTb (kTl (kTr (kTr (kTl (kTl (kTl (kTr (kTl (kTf aQA))))))))) (kTr (kTr (kTl (kTr (kTr (kTr (kTl (kTl (kTf fV)))))))))))) kO2 (kTb (kTr (kTl (kTl (kTr (kTr (kTl (kTl (kTl (kTr (kTl (kTf aQB))))))))))) (kTl (kTl (kTr (kTl (kTr (kTf kO1)))))))) (kTl (kTl (kTl (kTl (kTr (kTr (kTl (kTl (kTf kO7)))))))))) (kTb (kTb (kTb (kTb (kTr (kTr (kTr (kTl (kTl (kTl (kTf kO1))))))) (kTr (kTr (kTl (kTr (kTr (kTl (kTf fV)))))))) (kTl (kTl (kTl (kTr (kTr (kTl (kTl (kTl (kTr (kTl (kTf aDX)))))))))))) (kTl (kTb (kTr (kTr (kTr (kTr (kTl (kTl (kTl (kTr (kTl (kTf kO1)))))))))) (kTl (kTr (kTl (kTr (kTf kO3)))))))) (kTb (kTl (kTr (kTr (kTr (kTl (kTr (kTr (kTl (kTf fV))))))))) (kTr (kTb (kTr (kTr (kTl (kTr (kTr (kTr (kTr (kTl (kTl (kTf kO1)))))))))) (kTl (kTl (kTl (kTl (kTr (kTl (kTf jV))))))))))))
 nx':=42658
theorem aHx:sJ Tryz.prog aMi:=tX kX (l:=[sR,xN,yE,aAV,aKl]) (bD jG (bD lR (bD nH (bD oL (bD aDw kW))))) (k:=200) fun ro=>by kernel_rfl
end V
end Go.Proofs.YtcaccnneblghgaaGreat
namespace Go.Proofs.YtcaccnneblghgaaGreat
namespace V
set_option maxRecDepth 1000000
def aQn:Obj:=.cells ⟨(aBb [.int .i64 2,s0,.slice (some ⟨41728,0,(some 4)⟩) 3 3])⟩ 63
def vY:Obj:=.cells ⟨[]⟩ 149
def aCK:Obj:=.cells ⟨[jm,s0,.int .i64 1,.slice (some ⟨62911,0,(some 1)⟩) 0 0]⟩ 202
def aCL:Obj:=.cells ⟨[.slice (some ⟨62919,0,(some 2)⟩) 2 2]⟩ 200
def aCM:Obj:=.cells ⟨[.slice (some ⟨63066,0,(some 2)⟩) 2 2]⟩ 200
def aCN:Obj:=.cells ⟨[jm,s0,.int .i64 1,.slice (some ⟨63058,0,(some 1)⟩) 0 0]⟩ 202
def aCO:Obj:=.cells ⟨[.slice (some ⟨62947,0,(some 1)⟩) 0 0,.slice (some ⟨62951,0,(some 1)⟩) 0 0,.slice (some ⟨62965,0,(some 1)⟩) 1 1,.slice (some ⟨62935,0,(some 1)⟩) 1 1,.slice (some ⟨63112,0,(some 1)⟩) 1 1,.slice (some ⟨63098,0,(some 1)⟩) 0 0,.slice (some ⟨63113,0,(some 1)⟩) 1 1,.slice (some ⟨63082,0,(some 1)⟩) 1 1]⟩ 160
def aR0:List Value:=[.agg ⟨(aBb [.int .i64 2,s0,.slice (some ⟨41728,0,(some 4)⟩) 3 3])⟩]
def aR1:Value:=.tuple ⟨[.agg ⟨(aBb [.int .i64 2,.slice (some ⟨62815,0,(some 2)⟩) 0 0,.slice (some ⟨63322,0,(some 4)⟩) 2 2])⟩,j0]⟩
def aPd:Cp where
 f:=aEQ
 args:=aR0
 h:=kTb (kTb (kTb (kTb (kTb (kTb (kTl (kTr (kTl (kTb (kTr (kTl (kTf yS))) (kTr (kTr (kTf aOh))))))) (kTr (kTl (kTl (kTb (kTr (kTl (kTf yT))) (kTr (kTl (kTl (kTr (kTl (kTf aDX))))))))))) (kTr (kTr (kTl (kTl (kTl (kTl (kTl (kTl (kTr (kTl (kTf kO1)))))))))))) (kTr (kTb (kTr (kTr (kTl (kTl (kTr (kTf kO2)))))) (kTb (kTr (kTr (kTr (kTr (kTr (kTr (kTl (kTl (kTf aLm))))))))) (kTr (kTl (kTr (kTl (kTr (kTf aNK)))))))))) (kTb (kTb (kTl (kTb (kTr (kTr (kTl (kTl (kTf kO6))))) (kTl (kTr (kTl (kTr (kTr (kTf jV)))))))) (kTr (kTl (kTl (kTl (kTl (kTr (kTr (kTf jV))))))))) (kTb (kTb (kTr (kTb (kTr (kTr (kTr (kTl (kTf gO))))) (kTl (kTr (kTr (kTl (kTf gO))))))) (kTl (kTl (kTr (kTr (kTr (kTl (kTf kO1)))))))) (kTr (kTr (kTl (kTr (kTr (kTf kO0))))))))) (kTb (kTb (kTr (kTr (kTr (kTr (kTr (kTf kO1)))))) (kTb (kTb (kTr (kTb (kTr (kTr (kTr (kTl (kTf gO))))) (kTl (kTr (kTr (kTl (kTf gO))))))) (kTl (kTl (kTr (kTr (kTr (kTl (kTf kO1)))))))) (kTb (kTr (kTr (kTl (kTb (kTr (kTf aIX)) (kTr (kTl (kTf lM))))))) (kTb (kTl (kTr (kTr (kTr (kTl (kTf aDW)))))) (kTl (kTl (kTr (kTl (kTl (kTl (kTr (kTl (kTf jV))))))))))))) (kTb (kTb (kTr (kTb (kTb (kTl (kTr (kTr (kTr (kTf kO1))))) (kTl (kTr (kTr (kTl (kTl (kTr (kTl (kTf aQn))))))))) (kTr (kTr (kTl (kTl (kTl (kTf wW)))))))) (kTb (kTr (kTr (kTl (kTr (kTr (kTl (kTf lM))))))) (kTr (kTl (kTl (kTr (kTr (kTl (kTl (kTr (kTl (kTf aPy)))))))))))) (kTb (kTl (kTr (kTr (kTr (kTr (kTr (kTr (kTr (kTl (kTl (kTf aPz))))))))))) (kTr (kTr (kTb (kTr (kTl (kTl (kTf kO6)))) (kTl (kTr (kTr (kTl (kTf kO6)))))))))))) (kTb (kTb (kTn (kTl (kTl (kTb (kTl (kTr (kTr (kTl (kTl (kTl (kTr (kTl (kTf aQA))))))))) (kTr (kTr (kTl (kTr (kTr (kTr (kTl (kTl (kTf fV)))))))))))) kO2 (kTb (kTr (kTl (kTl (kTr (kTr (kTl (kTl (kTl (kTr (kTl (kTf aQB))))))))))) (kTl (kTl (kTr (kTl (kTr (kTf kO1)))))))) (kTl (kTl (kTl (kTl (kTr (kTr (kTl (kTl (kTf kO7)))))))))) (kTb (kTb (kTb (kTb (kTr (kTr (kTr (kTl (kTl (kTl (kTf kO1))))))) (kTr (kTr (kTl (kTr (kTr (kTl (kTf fV)))))))) (kTl (kTl (kTl (kTr (kTr (kTl (kTl (kTl (kTr (kTl (kTf aDX)))))))))))) (kTl (kTb (kTr (kTr (kTr (kTr (kTl (kTl (kTl (kTr (kTl (kTf kO1)))))))))) (kTl (kTr (kTl (kTr (kTf kO3)))))))) (kTb (kTl (kTr (kTr (kTr (kTl (kTr (kTr (kTl (kTf fV))))))))) (kTr (kTb (kTr (kTr (kTl (kTr (kTr (kTr (kTr (kTl (kTl (kTf kO1)))))))))) (kTl (kTl (kTl (kTl (kTr (kTl (kTf jV))))))))))))
 nx:=42668
 v:=aR1
 h':=kTb (kTb (kTb (kTb (kTb (kTb (kTb (kTr (kTl (kTb (kTr (kTl (kTf yS))) (kTr (kTr (kTf aOh)))))) (kTr (kTr (kTl (kTr (kTl (kTr (kTr (kTr (kTf (.cells ⟨[]⟩ 5))))))))))) (kTr (kTl (kTb (kTb (kTr (kTl (kTf yT))) (kTr (kTl (kTl (kTr (kTl (kTf aDX))))))) (kTl (kTr (kTl (kTr (kTr (kTr (kTf vY))))))))))) (kTr (kTr (kTl (kTl (kTl (kTl (kTl (kTl (kTr (kTl (kTf kO1)))))))))))) (kTb (kTb (kTr (kTr (kTr (kTl (kTr (kTl (kTr (kTr (kTr (kTf aCK)))))))))) (kTr (kTr (kTr (kTl (kTr (kTl (kTr (kTr (kTr (kTf (.cells ⟨[]⟩ 3)))))))))))) (kTb (kTr (kTr (kTb (kTl (kTr (kTf kO2))) (kTl (kTr (kTl (kTr (kTr (kTr (kTf aCL)))))))))) (kTb (kTr (kTr (kTr (kTr (kTr (kTr (kTl (kTl (kTf aLm))))))))) (kTr (kTl (kTr (kTl (kTr (kTf aNK)))))))))) (kTb (kTb (kTb (kTb (kTr (kTr (kTl (kTl (kTf kO6))))) (kTl (kTr (kTl (kTr (kTr (kTf jV))))))) (kTr (kTr (kTr (kTl (kTr (kTl (kTr (kTr (kTr (kTf (.cells ⟨[]⟩ 3)))))))))))) (kTr (kTl (kTl (kTl (kTl (kTr (kTr (kTf jV))))))))) (kTb (kTb (kTr (kTb (kTr (kTr (kTr (kTl (kTf gO))))) (kTl (kTr (kTr (kTl (kTf gO))))))) (kTl (kTl (kTr (kTr (kTr (kTl (kTf kO1)))))))) (kTr (kTr (kTl (kTr (kTr (kTf kO0))))))))) (kTb (kTb (kTr (kTr (kTr (kTr (kTr (kTf kO1)))))) (kTb (kTb (kTb (kTr (kTl (kTr (kTr (kTl (kTr (kTr (kTr (kTf kO1))))))))) (kTb (kTr (kTr (kTr (kTl (kTf gO))))) (kTl (kTr (kTr (kTl (kTf gO))))))) (kTl (kTl (kTr (kTr (kTr (kTl (kTf kO1)))))))) (kTb (kTr (kTr (kTl (kTb (kTr (kTf aIX)) (kTr (kTl (kTf lM))))))) (kTb (kTl (kTr (kTr (kTr (kTl (kTf aDW)))))) (kTl (kTl (kTr (kTl (kTl (kTl (kTr (kTl (kTf jV))))))))))))) (kTb (kTb (kTr (kTb (kTb (kTl (kTr (kTr (kTr (kTf kO1))))) (kTl (kTr (kTr (kTl (kTl (kTr (kTl (kTf aQn))))))))) (kTr (kTr (kTl (kTl (kTl (kTf wW)))))))) (kTb (kTr (kTr (kTl (kTr (kTr (kTl (kTf lM))))))) (kTr (kTb (kTl (kTr (kTr (kTl (kTl (kTr (kTl (kTf aPy)))))))) (kTr (kTl (kTr (kTl (kTr (kTr (kTr (kTf fV)))))))))))) (kTb (kTl (kTr (kTr (kTr (kTr (kTr (kTr (kTr (kTl (kTl (kTf aPz))))))))))) (kTr (kTr (kTb (kTr (kTl (kTl (kTf kO6)))) (kTl (kTr (kTr (kTl (kTf kO6)))))))))))) (kTb (kTb (kTn (kTl (kTl (kTb (kTl (kTr (kTr (kTl (kTl (kTl (kTr (kTl (kTf aQA))))))))) (kTr (kTr (kTl (kTr (kTr (kTr (kTl (kTl (kTf fV)))))))))))) kO2 (kTb (kTb (kTl (kTr (kTl (kTr (kTr (kTl (kTr (kTr (kTr (kTf kO1)))))))))) (kTl (kTl (kTr (kTr (kTl (kTl (kTl (kTr (kTl (kTf aQB))))))))))) (kTl (kTl (kTr (kTl (kTr (kTf kO1)))))))) (kTl (kTl (kTl (kTl (kTr (kTr (kTl (kTl (kTf kO7)))))))))) (kTb (kTb (kTb (kTb (kTr (kTr (kTr (kTl (kTl (kTl (kTf kO1))))))) (kTr (kTr (kTl (kTr (kTr (kTl (kTf fV)))))))) (kTl (kTb (kTl (kTr (kTr (kTl (kTl (kTl (kTr (kTl (kTf aDX))))))))) (kTl (kTl (kTr (kTr (kTl (kTr (kTr (kTr (kTf (.cells ⟨[]⟩ 5))))))))))))) (kTb (kTb (kTr (kTr (kTr (kTr (kTl (kTl (kTl (kTr (kTl (kTf kO1)))))))))) (kTb (kTr (kTl (kTr (kTf kO3)))) (kTl (kTl (kTr (kTr (kTl (kTr (kTr (kTr (kTf aCM))))))))))) (kTb (kTr (kTl (kTb (kTr (kTr (kTl (kTr (kTr (kTr (kTf aCN))))))) (kTr (kTr (kTl (kTr (kTr (kTr (kTf aCO)))))))))) (kTr (kTl (kTl (kTr (kTr (kTl (kTr (kTr (kTr (kTf (.cells ⟨[]⟩ 3)))))))))))))) (kTb (kTl (kTr (kTr (kTr (kTl (kTr (kTr (kTl (kTf fV))))))))) (kTr (kTb (kTr (kTr (kTl (kTr (kTr (kTr (kTr (kTl (kTl (kTf kO1)))))))))) (kTl (kTl (kTl (kTl (kTr (kTl (kTf jV))))))))))))
 nx':=63333
theorem aMj:sJ Tryz.prog aPd:=tX kX (l:=[sR,xN,yE,aAV,aKl,aMi]) (bD jG (bD lR (bD nH (bD oL (bD aDw (bD aHx kW)))))) (k:=200) fun ro=>by kernel_rfl
end V
end Go.Proofs.YtcaccnneblghgaaGreat
namespace Go.Proofs.YtcaccnneblghgaaGreat
namespace V
set_option maxRecDepth 1000000
def aR2:List Value:=[.slice (some ⟨5931,0,(some 1)⟩) 1 1,.slice (some ⟨5835,0,(some 1)⟩) 1 1]
def aR3:Value:=.tuple ⟨[.agg ⟨(aBb [.int .i64 2,.slice (some ⟨62815,0,(some 2)⟩) 0 0,.slice (some ⟨63322,0,(some 4)⟩) 2 2,.slice (some ⟨5931,0,(some 1)⟩) 1 1])⟩,j0]⟩
def aFv:Cp where
 f:=aA0
 args:=aR2
 h:=kTb (kTb (kTb (kTb (kTl (kTb (kTl (kTr (kTl (kTl (kTr (kTl (kTf yS))))))) (kTr (kTl (kTl (kTl (kTr (kTl (kTf yT))))))))) (kTr (kTl (kTr (kTr (kTl (kTl (kTr (kTf kO2))))))))) (kTb (kTl (kTl (kTl (kTr (kTr (kTl (kTl (kTf kO6)))))))) (kTb (kTb (kTr (kTr (kTl (kTr (kTr (kTl (kTf gO))))))) (kTl (kTl (kTr (kTr (kTr (kTl (kTf kO1)))))))) (kTr (kTr (kTl (kTr (kTr (kTf kO0))))))))) (kTb (kTb (kTr (kTr (kTr (kTr (kTr (kTf kO1)))))) (kTb (kTb (kTr (kTr (kTl (kTr (kTr (kTl (kTf gO))))))) (kTl (kTl (kTr (kTr (kTr (kTl (kTf kO1)))))))) (kTl (kTr (kTr (kTl (kTb (kTr (kTf aIX)) (kTr (kTl (kTf lM)))))))))) (kTb (kTb (kTr (kTr (kTr (kTr (kTl (kTl (kTl (kTf wW)))))))) (kTl (kTr (kTr (kTl (kTr (kTr (kTl (kTf lM))))))))) (kTr (kTr (kTr (kTb (kTr (kTl (kTl (kTf kO6)))) (kTl (kTr (kTr (kTl (kTf kO6)))))))))))) (kTb (kTb (kTn .e kO2 (kTr (kTl (kTl (kTr (kTl (kTr (kTf kO1)))))))) (kTl (kTl (kTl (kTl (kTr (kTr (kTl (kTl (kTf kO7)))))))))) (kTb (kTb (kTl (kTb (kTr (kTr (kTr (kTl (kTl (kTl (kTf kO1))))))) (kTr (kTr (kTl (kTr (kTr (kTl (kTf fV))))))))) (kTl (kTr (kTl (kTr (kTl (kTr (kTf kO3)))))))) (kTb (kTl (kTr (kTr (kTr (kTl (kTr (kTr (kTl (kTf fV))))))))) (kTr (kTr (kTl (kTl (kTl (kTl (kTr (kTl (kTf jV))))))))))))
 nx:=5945
 v:=aR3
 h':=kTb (kTb (kTb (kTb (kTl (kTb (kTb (kTr (kTl (kTl (kTr (kTl (kTf yS)))))) (kTr (kTr (kTl (kTr (kTl (kTr (kTr (kTr (kTf (.cells ⟨[]⟩ 5))))))))))) (kTr (kTl (kTb (kTl (kTr (kTl (kTf yT)))) (kTl (kTr (kTl (kTr (kTr (kTr (kTf vY)))))))))))) (kTb (kTb (kTr (kTr (kTr (kTl (kTr (kTl (kTr (kTr (kTr (kTf aCK)))))))))) (kTr (kTr (kTr (kTl (kTr (kTl (kTr (kTr (kTr (kTf (.cells ⟨[]⟩ 3)))))))))))) (kTl (kTr (kTr (kTb (kTl (kTr (kTf kO2))) (kTl (kTr (kTl (kTr (kTr (kTr (kTf aCL))))))))))))) (kTb (kTl (kTb (kTl (kTr (kTr (kTl (kTl (kTf kO6)))))) (kTr (kTr (kTr (kTl (kTr (kTl (kTr (kTr (kTr (kTf (.cells ⟨[]⟩ 3))))))))))))) (kTb (kTb (kTr (kTr (kTl (kTr (kTr (kTl (kTf gO))))))) (kTl (kTl (kTr (kTr (kTr (kTl (kTf kO1)))))))) (kTr (kTr (kTl (kTr (kTr (kTf kO0))))))))) (kTb (kTb (kTr (kTr (kTr (kTr (kTr (kTf kO1)))))) (kTb (kTb (kTb (kTr (kTl (kTr (kTr (kTl (kTr (kTr (kTr (kTf kO1))))))))) (kTr (kTl (kTr (kTr (kTl (kTf gO))))))) (kTl (kTl (kTr (kTr (kTr (kTl (kTf kO1)))))))) (kTl (kTr (kTr (kTl (kTb (kTr (kTf aIX)) (kTr (kTl (kTf lM)))))))))) (kTb (kTb (kTr (kTr (kTr (kTr (kTl (kTl (kTl (kTf wW)))))))) (kTb (kTr (kTr (kTl (kTr (kTr (kTl (kTf lM))))))) (kTr (kTr (kTr (kTl (kTr (kTl (kTr (kTr (kTr (kTf fV)))))))))))) (kTr (kTr (kTr (kTb (kTr (kTl (kTl (kTf kO6)))) (kTl (kTr (kTr (kTl (kTf kO6)))))))))))) (kTb (kTb (kTn .e kO2 (kTb (kTl (kTl (kTr (kTl (kTr (kTr (kTl (kTr (kTr (kTr (kTf kO1))))))))))) (kTl (kTl (kTr (kTl (kTr (kTf kO1)))))))) (kTl (kTl (kTl (kTl (kTr (kTr (kTl (kTl (kTf kO7)))))))))) (kTb (kTb (kTb (kTb (kTr (kTr (kTr (kTl (kTl (kTl (kTf kO1))))))) (kTr (kTr (kTl (kTr (kTr (kTl (kTf fV)))))))) (kTl (kTr (kTl (kTl (kTr (kTr (kTl (kTr (kTr (kTr (kTf (.cells ⟨[]⟩ 5))))))))))))) (kTb (kTr (kTb (kTr (kTl (kTr (kTf kO3)))) (kTl (kTl (kTr (kTr (kTl (kTr (kTr (kTr (kTf aCM))))))))))) (kTb (kTr (kTl (kTb (kTr (kTr (kTl (kTr (kTr (kTr (kTf aCN))))))) (kTr (kTr (kTl (kTr (kTr (kTr (kTf aCO)))))))))) (kTr (kTl (kTl (kTr (kTr (kTl (kTr (kTr (kTr (kTf (.cells ⟨[]⟩ 3)))))))))))))) (kTb (kTl (kTr (kTr (kTr (kTl (kTr (kTr (kTl (kTf fV))))))))) (kTr (kTr (kTl (kTl (kTl (kTl (kTr (kTl (kTf jV))))))))))))
 nx':=63345
theorem yF:sJ Tryz.prog aFv:=tX kX (l:=[sR,xN,yE,aAV,aKl,aMi,aPd]) (bD jG (bD lR (bD nH (bD oL (bD aDw (bD aHx (bD aMj kW))))))) (k:=200) fun ro=>by kernel_rfl
end V
end Go.Proofs.YtcaccnneblghgaaGreat
namespace Go.Proofs.YtcaccnneblghgaaGreat
namespace V
set_option maxRecDepth 1000000
def aIY:Obj:=.cells ⟨[.slice (some ⟨3287,0,(some 1)⟩) 1 1,.slice (some ⟨5849,0,(some 1)⟩) 1 1,.slice (some ⟨5862,0,(some 1)⟩) 1 1,.slice (some ⟨63358,0,(some 260)⟩) 1 1]⟩ 34
def rT:Obj:=.cells ⟨(aBb [.int .i64 2,.slice (some ⟨62815,0,(some 2)⟩) 0 0,.slice (some ⟨63322,0,(some 4)⟩) 2 2,.slice (some ⟨5931,0,(some 1)⟩) 1 1])⟩ 65
def aNL:Obj:=.cells ⟨[.int .u64 0,.int .u64 8589934592,.int .u64 0,.int .u64 0,.int .i64 1,.int .i64 1,j0,.bool true,.slice (some ⟨64976,0,(some 1)⟩) 1 1,.int .u64 0,.int .u64 8589934592,.int .u64 0,.int .u64 0,.int .i64 1,.int .i64 1,j0,.bool true,.slice (some ⟨64704,0,(some 1)⟩) 1 1]⟩ 192
def aR4:Value:=.tuple ⟨[.agg ⟨[.slice (some ⟨65202,0,(some 1)⟩) 1 1,.slice (some ⟨64388,0,(some 9)⟩) 2 2]⟩,j0]⟩
def aKm:Cp where
 f:=aEO
 args:=[.slice (some ⟨63448,0,(some 1)⟩) 1 1]
 h:=kTb (kTb (kTb (kTb (kTl (kTb (kTb (kTr (kTl (kTl (kTr (kTl (kTf yS)))))) (kTr (kTr (kTl (kTr (kTl (kTr (kTr (kTr (kTf (.cells ⟨[]⟩ 5))))))))))) (kTr (kTl (kTb (kTl (kTr (kTl (kTf yT)))) (kTl (kTr (kTl (kTr (kTr (kTr (kTf vY)))))))))))) (kTb (kTb (kTr (kTr (kTr (kTl (kTr (kTl (kTr (kTr (kTr (kTf aCK)))))))))) (kTr (kTr (kTr (kTl (kTr (kTl (kTr (kTr (kTr (kTf (.cells ⟨[]⟩ 3)))))))))))) (kTl (kTr (kTr (kTb (kTl (kTr (kTf kO2))) (kTl (kTr (kTl (kTr (kTr (kTr (kTf aCL))))))))))))) (kTb (kTl (kTb (kTl (kTr (kTr (kTl (kTl (kTf kO6)))))) (kTr (kTr (kTr (kTl (kTr (kTl (kTr (kTr (kTr (kTf (.cells ⟨[]⟩ 3))))))))))))) (kTb (kTb (kTr (kTr (kTl (kTr (kTr (kTl (kTf gO))))))) (kTl (kTl (kTr (kTr (kTr (kTl (kTf kO1)))))))) (kTr (kTr (kTl (kTr (kTr (kTf kO0))))))))) (kTb (kTb (kTr (kTb (kTl (kTr (kTr (kTr (kTr (kTl (kTr (kTr (kTr (kTf kO6)))))))))) (kTr (kTr (kTr (kTf kO1)))))) (kTb (kTb (kTb (kTr (kTl (kTr (kTr (kTl (kTr (kTr (kTr (kTf kO1))))))))) (kTr (kTl (kTr (kTr (kTl (kTf gO))))))) (kTl (kTl (kTr (kTr (kTr (kTl (kTf kO1)))))))) (kTl (kTr (kTr (kTl (kTb (kTr (kTf aIY)) (kTr (kTl (kTf lM)))))))))) (kTb (kTb (kTr (kTr (kTr (kTr (kTl (kTl (kTl (kTf wW)))))))) (kTb (kTr (kTr (kTl (kTr (kTr (kTl (kTf lM))))))) (kTr (kTr (kTr (kTl (kTr (kTl (kTr (kTr (kTr (kTf fV)))))))))))) (kTr (kTr (kTr (kTb (kTr (kTl (kTl (kTf kO6)))) (kTl (kTr (kTr (kTl (kTf kO6)))))))))))) (kTb (kTb (kTn .e kO2 (kTb (kTl (kTl (kTr (kTl (kTr (kTr (kTl (kTr (kTr (kTr (kTf kO1))))))))))) (kTb (kTb (kTr (kTl (kTr (kTf kO1)))) (kTr (kTr (kTr (kTr (kTl (kTr (kTr (kTr (kTf gO)))))))))) (kTl (kTr (kTr (kTr (kTr (kTl (kTr (kTr (kTr (kTf kO1))))))))))))) (kTb (kTb (kTl (kTl (kTr (kTr (kTl (kTl (kTf kO7))))))) (kTr (kTr (kTl (kTr (kTr (kTr (kTl (kTr (kTr (kTr (kTf rT)))))))))))) (kTr (kTr (kTr (kTl (kTr (kTr (kTr (kTl (kTr (kTr (kTr (kTf rT)))))))))))))) (kTb (kTb (kTb (kTb (kTr (kTr (kTr (kTl (kTl (kTl (kTf kO1))))))) (kTr (kTr (kTl (kTr (kTr (kTl (kTf fV)))))))) (kTl (kTr (kTl (kTl (kTr (kTr (kTl (kTr (kTr (kTr (kTf (.cells ⟨[]⟩ 5))))))))))))) (kTb (kTr (kTb (kTr (kTl (kTr (kTf kO3)))) (kTl (kTl (kTr (kTr (kTl (kTr (kTr (kTr (kTf aCM))))))))))) (kTb (kTr (kTl (kTb (kTr (kTr (kTl (kTr (kTr (kTr (kTf aCN))))))) (kTr (kTr (kTl (kTr (kTr (kTr (kTf aCO)))))))))) (kTr (kTl (kTl (kTr (kTr (kTl (kTr (kTr (kTr (kTf (.cells ⟨[]⟩ 3)))))))))))))) (kTb (kTb (kTb (kTr (kTr (kTr (kTr (kTr (kTl (kTr (kTr (kTr (kTf aDW)))))))))) (kTr (kTr (kTl (kTr (kTr (kTl (kTf fV)))))))) (kTb (kTr (kTr (kTr (kTr (kTr (kTl (kTr (kTr (kTr (kTf gO)))))))))) (kTl (kTr (kTr (kTr (kTr (kTl (kTr (kTr (kTr (kTf kO1)))))))))))) (kTr (kTr (kTb (kTl (kTl (kTl (kTr (kTl (kTf jV)))))) (kTl (kTr (kTr (kTr (kTl (kTr (kTr (kTr (kTf rT)))))))))))))))
 nx:=63459
 v:=aR4
 h':=kTb (kTb (kTb (kTb (kTl (kTb (kTb (kTr (kTl (kTl (kTr (kTl (kTf yS)))))) (kTr (kTr (kTl (kTr (kTl (kTr (kTr (kTr (kTf (.cells ⟨[]⟩ 5))))))))))) (kTr (kTl (kTb (kTl (kTr (kTl (kTf yT)))) (kTl (kTr (kTl (kTr (kTr (kTr (kTf vY)))))))))))) (kTb (kTb (kTr (kTr (kTr (kTl (kTr (kTl (kTr (kTr (kTr (kTf aCK)))))))))) (kTr (kTr (kTr (kTl (kTr (kTl (kTr (kTr (kTr (kTf (.cells ⟨[]⟩ 3)))))))))))) (kTl (kTr (kTr (kTb (kTl (kTr (kTf kO2))) (kTl (kTr (kTl (kTr (kTr (kTr (kTf aCL))))))))))))) (kTb (kTl (kTb (kTl (kTr (kTr (kTl (kTl (kTf kO6)))))) (kTr (kTr (kTr (kTl (kTr (kTl (kTr (kTr (kTr (kTf (.cells ⟨[]⟩ 3))))))))))))) (kTb (kTb (kTr (kTr (kTl (kTr (kTr (kTl (kTf gO))))))) (kTl (kTl (kTr (kTr (kTr (kTl (kTf kO1)))))))) (kTr (kTr (kTl (kTr (kTr (kTf kO0))))))))) (kTb (kTb (kTr (kTb (kTl (kTr (kTr (kTr (kTr (kTl (kTr (kTr (kTr (kTf kO6)))))))))) (kTr (kTr (kTr (kTf kO1)))))) (kTb (kTb (kTb (kTr (kTl (kTr (kTr (kTl (kTr (kTr (kTr (kTf kO1))))))))) (kTr (kTl (kTr (kTr (kTl (kTf gO))))))) (kTl (kTl (kTr (kTr (kTr (kTl (kTf kO1)))))))) (kTl (kTr (kTr (kTl (kTb (kTr (kTf aIY)) (kTr (kTl (kTf lM)))))))))) (kTb (kTb (kTr (kTr (kTr (kTr (kTl (kTl (kTl (kTf wW)))))))) (kTb (kTr (kTr (kTl (kTr (kTr (kTl (kTf lM))))))) (kTr (kTr (kTr (kTl (kTr (kTl (kTr (kTr (kTr (kTf fV)))))))))))) (kTr (kTr (kTr (kTb (kTr (kTl (kTl (kTf kO6)))) (kTl (kTr (kTr (kTl (kTf kO6)))))))))))) (kTb (kTb (kTn (kTb (kTl (kTr (kTr (kTl (kTl (kTr (kTr (kTr (kTr (kTr (kTf jV))))))))))) (kTl (kTr (kTr (kTr (kTl (kTr (kTr (kTr (kTr (kTr (kTf jV)))))))))))) kO2 (kTb (kTl (kTl (kTr (kTl (kTr (kTr (kTl (kTr (kTr (kTr (kTf kO1))))))))))) (kTb (kTb (kTr (kTl (kTr (kTf kO1)))) (kTr (kTr (kTr (kTr (kTl (kTr (kTr (kTr (kTf gO)))))))))) (kTl (kTr (kTr (kTr (kTr (kTl (kTr (kTr (kTr (kTf kO1))))))))))))) (kTb (kTb (kTl (kTl (kTr (kTr (kTb (kTl (kTf kO7)) (kTl (kTr (kTr (kTr (kTr (kTf aNL))))))))))) (kTr (kTr (kTl (kTr (kTr (kTr (kTl (kTr (kTr (kTr (kTf rT)))))))))))) (kTr (kTr (kTr (kTl (kTr (kTr (kTr (kTl (kTr (kTr (kTr (kTf rT)))))))))))))) (kTb (kTb (kTb (kTb (kTr (kTr (kTr (kTl (kTl (kTl (kTf kO1))))))) (kTr (kTr (kTl (kTr (kTr (kTl (kTf fV)))))))) (kTb (kTr (kTl (kTl (kTr (kTr (kTl (kTr (kTr (kTr (kTf (.cells ⟨[]⟩ 5))))))))))) (kTl (kTr (kTl (kTr (kTr (kTr (kTr (kTr (kTr (kTf kO1)))))))))))) (kTb (kTr (kTb (kTr (kTl (kTr (kTf kO3)))) (kTl (kTl (kTr (kTr (kTl (kTr (kTr (kTr (kTf aCM))))))))))) (kTb (kTr (kTl (kTb (kTr (kTr (kTl (kTr (kTr (kTr (kTf aCN))))))) (kTr (kTr (kTl (kTr (kTr (kTr (kTf aCO)))))))))) (kTr (kTl (kTl (kTr (kTr (kTl (kTr (kTr (kTr (kTf (.cells ⟨[]⟩ 3)))))))))))))) (kTb (kTb (kTb (kTr (kTr (kTr (kTr (kTr (kTl (kTr (kTr (kTr (kTf aDW)))))))))) (kTr (kTr (kTl (kTr (kTr (kTl (kTf fV)))))))) (kTb (kTr (kTr (kTr (kTr (kTr (kTl (kTr (kTr (kTr (kTf gO)))))))))) (kTl (kTr (kTr (kTr (kTr (kTl (kTr (kTr (kTr (kTf kO1)))))))))))) (kTr (kTr (kTb (kTl (kTl (kTl (kTr (kTl (kTf jV)))))) (kTl (kTr (kTr (kTr (kTl (kTr (kTr (kTr (kTf rT)))))))))))))))
 nx':=65289
theorem aDx:sJ Tryz.prog aKm:=tX kX (l:=[sR,xN,yE,aAV,aFv]) (bD jG (bD lR (bD nH (bD oL (bD yF kW))))) (k:=200) fun ro=>by kernel_rfl
end V
end Go.Proofs.YtcaccnneblghgaaGreat
namespace Go.Proofs.YtcaccnneblghgaaGreat
namespace V
set_option maxRecDepth 1000000
def aOi:Obj:=.cells ⟨[.slice (some ⟨65202,0,(some 1)⟩) 1 1,.slice (some ⟨64388,0,(some 9)⟩) 2 2]⟩ 136
def aQC:Obj:=.cells ⟨[.slice (some ⟨99231,0,(some 2)⟩) 2 2]⟩ 200
def aQD:Obj:=.cells ⟨[s0,s0,.slice (some ⟨97869,0,(some 1)⟩) 1 1,.slice (some ⟨98394,0,(some 1)⟩) 1 1,.slice (some ⟨98155,0,(some 1)⟩) 1 1,s0,.slice (some ⟨98556,0,(some 1)⟩) 1 1,.slice (some ⟨99253,0,(some 1)⟩) 1 1,.slice (some ⟨99078,0,(some 1)⟩) 1 1,s0,.slice (some ⟨99415,0,(some 1)⟩) 1 1,.slice (some ⟨100098,0,(some 1)⟩) 1 1]⟩ 160
def aQE:Obj:=.cells ⟨[.slice (some ⟨100076,0,(some 2)⟩) 2 2]⟩ 200
def aQF:Obj:=.cells ⟨[.slice (some ⟨98372,0,(some 2)⟩) 2 2]⟩ 200
def aR5:List Value:=[.agg ⟨[.slice (some ⟨65202,0,(some 1)⟩) 1 1,.slice (some ⟨64388,0,(some 9)⟩) 2 2]⟩]
def aR6:Value:=.tuple ⟨[.agg ⟨(aBb [.int .i64 2,s0,.slice (some ⟨99213,0,(some 4)⟩) 3 3])⟩,j0]⟩
def aMk:Cp where
 f:=aEP
 args:=aR5
 h:=kTb (kTb (kTb (kTb (kTl (kTb (kTb (kTr (kTl (kTl (kTr (kTl (kTf yS)))))) (kTr (kTr (kTl (kTr (kTl (kTr (kTr (kTr (kTf (.cells ⟨[]⟩ 5))))))))))) (kTr (kTl (kTb (kTl (kTr (kTl (kTf yT)))) (kTl (kTr (kTl (kTr (kTr (kTr (kTf vY)))))))))))) (kTb (kTb (kTr (kTr (kTr (kTl (kTr (kTl (kTr (kTr (kTr (kTf aCK)))))))))) (kTr (kTr (kTr (kTl (kTr (kTl (kTr (kTr (kTr (kTf (.cells ⟨[]⟩ 3)))))))))))) (kTl (kTr (kTr (kTb (kTl (kTr (kTf kO2))) (kTl (kTr (kTl (kTr (kTr (kTr (kTf aCL))))))))))))) (kTb (kTl (kTb (kTl (kTr (kTr (kTl (kTl (kTf kO6)))))) (kTr (kTr (kTr (kTl (kTr (kTl (kTr (kTr (kTr (kTf (.cells ⟨[]⟩ 3))))))))))))) (kTb (kTb (kTr (kTr (kTl (kTr (kTr (kTl (kTf gO))))))) (kTl (kTl (kTr (kTr (kTr (kTl (kTf kO1)))))))) (kTr (kTr (kTl (kTr (kTr (kTf kO0))))))))) (kTb (kTb (kTr (kTb (kTl (kTr (kTr (kTr (kTr (kTl (kTr (kTr (kTr (kTf kO6)))))))))) (kTr (kTr (kTr (kTf kO1)))))) (kTb (kTb (kTb (kTr (kTl (kTr (kTr (kTl (kTr (kTr (kTr (kTf kO1))))))))) (kTr (kTl (kTr (kTr (kTl (kTf gO))))))) (kTl (kTl (kTr (kTr (kTr (kTl (kTf kO1)))))))) (kTl (kTr (kTr (kTl (kTb (kTr (kTf aIY)) (kTr (kTl (kTf lM)))))))))) (kTb (kTb (kTr (kTr (kTr (kTr (kTl (kTl (kTl (kTf wW)))))))) (kTb (kTr (kTr (kTl (kTr (kTr (kTl (kTf lM))))))) (kTr (kTr (kTr (kTl (kTr (kTl (kTr (kTr (kTr (kTf fV)))))))))))) (kTr (kTr (kTr (kTb (kTr (kTl (kTl (kTf kO6)))) (kTl (kTr (kTr (kTl (kTf kO6)))))))))))) (kTb (kTb (kTn (kTb (kTl (kTr (kTr (kTl (kTl (kTr (kTr (kTr (kTr (kTr (kTf jV))))))))))) (kTl (kTr (kTr (kTr (kTl (kTr (kTr (kTr (kTr (kTr (kTf jV)))))))))))) kO2 (kTb (kTl (kTl (kTr (kTl (kTr (kTr (kTl (kTr (kTr (kTr (kTf kO1))))))))))) (kTb (kTb (kTr (kTl (kTr (kTf kO1)))) (kTr (kTr (kTr (kTr (kTl (kTr (kTr (kTr (kTf gO)))))))))) (kTl (kTr (kTr (kTr (kTr (kTl (kTr (kTr (kTr (kTf kO1))))))))))))) (kTb (kTb (kTl (kTl (kTr (kTr (kTb (kTl (kTf kO7)) (kTl (kTr (kTr (kTr (kTr (kTf aNL))))))))))) (kTr (kTr (kTl (kTr (kTr (kTr (kTl (kTr (kTr (kTr (kTf rT)))))))))))) (kTb (kTl (kTl (kTl (kTr (kTr (kTr (kTr (kTr (kTr (kTr (kTf aOi))))))))))) (kTr (kTr (kTl (kTr (kTr (kTr (kTl (kTr (kTr (kTr (kTf rT)))))))))))))) (kTb (kTb (kTb (kTb (kTr (kTr (kTr (kTl (kTl (kTl (kTf kO1))))))) (kTr (kTr (kTl (kTr (kTr (kTl (kTf fV)))))))) (kTb (kTr (kTl (kTl (kTr (kTr (kTl (kTr (kTr (kTr (kTf (.cells ⟨[]⟩ 5))))))))))) (kTl (kTr (kTl (kTr (kTr (kTr (kTr (kTr (kTr (kTf kO1)))))))))))) (kTb (kTr (kTb (kTr (kTl (kTr (kTf kO3)))) (kTl (kTl (kTr (kTr (kTl (kTr (kTr (kTr (kTf aCM))))))))))) (kTb (kTr (kTl (kTb (kTr (kTr (kTl (kTr (kTr (kTr (kTf aCN))))))) (kTr (kTr (kTl (kTr (kTr (kTr (kTf aCO)))))))))) (kTr (kTl (kTl (kTr (kTr (kTl (kTr (kTr (kTr (kTf (.cells ⟨[]⟩ 3)))))))))))))) (kTb (kTb (kTb (kTr (kTr (kTr (kTr (kTr (kTl (kTr (kTr (kTr (kTf aDW)))))))))) (kTr (kTr (kTl (kTr (kTr (kTl (kTf fV)))))))) (kTb (kTr (kTr (kTr (kTr (kTr (kTl (kTr (kTr (kTr (kTf gO)))))))))) (kTl (kTr (kTr (kTr (kTr (kTl (kTr (kTr (kTr (kTf kO1)))))))))))) (kTr (kTr (kTb (kTl (kTl (kTl (kTr (kTl (kTf jV)))))) (kTl (kTr (kTr (kTr (kTl (kTr (kTr (kTr (kTf rT)))))))))))))))
 nx:=65299
 v:=aR6
 h':=kTb (kTb (kTb (kTb (kTl (kTb (kTb (kTr (kTl (kTl (kTr (kTl (kTf yS)))))) (kTr (kTr (kTl (kTr (kTl (kTr (kTr (kTr (kTf (.cells ⟨[]⟩ 5))))))))))) (kTb (kTr (kTr (kTr (kTl (kTl (kTl (kTl (kTl (kTr (kTf aDX)))))))))) (kTl (kTb (kTl (kTr (kTl (kTf yT)))) (kTl (kTr (kTl (kTr (kTr (kTr (kTf vY)))))))))))) (kTb (kTb (kTr (kTr (kTr (kTl (kTr (kTl (kTr (kTr (kTr (kTf aCK)))))))))) (kTr (kTr (kTr (kTl (kTr (kTl (kTr (kTr (kTr (kTf (.cells ⟨[]⟩ 3)))))))))))) (kTl (kTr (kTb (kTl (kTl (kTr (kTl (kTl (kTl (kTl (kTr (kTf kO1))))))))) (kTb (kTl (kTr (kTf kO2))) (kTl (kTr (kTl (kTr (kTr (kTr (kTf aCL))))))))))))) (kTb (kTl (kTb (kTl (kTr (kTr (kTl (kTl (kTf kO6)))))) (kTr (kTr (kTr (kTl (kTr (kTl (kTr (kTr (kTr (kTf (.cells ⟨[]⟩ 3))))))))))))) (kTb (kTb (kTr (kTr (kTl (kTr (kTr (kTl (kTf gO))))))) (kTb (kTl (kTr (kTr (kTr (kTl (kTf kO1)))))) (kTl (kTr (kTr (kTr (kTr (kTr (kTr (kTr (kTl (kTf kO1)))))))))))) (kTr (kTr (kTl (kTr (kTr (kTf kO0))))))))) (kTb (kTb (kTr (kTb (kTl (kTr (kTr (kTr (kTr (kTl (kTr (kTr (kTr (kTf kO6)))))))))) (kTr (kTr (kTr (kTf kO1)))))) (kTb (kTb (kTb (kTr (kTl (kTr (kTr (kTl (kTr (kTr (kTr (kTf kO1))))))))) (kTr (kTl (kTr (kTr (kTl (kTf gO))))))) (kTl (kTl (kTr (kTr (kTr (kTl (kTf kO1)))))))) (kTl (kTr (kTr (kTl (kTb (kTr (kTf aIY)) (kTr (kTl (kTf lM)))))))))) (kTb (kTb (kTr (kTr (kTr (kTr (kTl (kTl (kTl (kTf wW)))))))) (kTb (kTr (kTr (kTl (kTr (kTr (kTl (kTf lM))))))) (kTb (kTr (kTr (kTr (kTl (kTl (kTl (kTl (kTl (kTr (kTf aQC)))))))))) (kTr (kTr (kTl (kTr (kTl (kTr (kTr (kTr (kTf fV)))))))))))) (kTb (kTl (kTb (kTr (kTr (kTr (kTl (kTl (kTl (kTl (kTl (kTr (kTf aQD)))))))))) (kTl (kTl (kTr (kTr (kTr (kTr (kTr (kTr (kTl (kTf fV)))))))))))) (kTr (kTr (kTb (kTr (kTl (kTl (kTf kO6)))) (kTl (kTr (kTr (kTl (kTf kO6)))))))))))) (kTb (kTb (kTn (kTb (kTl (kTr (kTr (kTl (kTl (kTr (kTr (kTr (kTr (kTr (kTf jV))))))))))) (kTl (kTr (kTr (kTr (kTl (kTr (kTr (kTr (kTr (kTr (kTf jV)))))))))))) kO2 (kTb (kTl (kTl (kTr (kTl (kTr (kTr (kTl (kTr (kTr (kTr (kTf kO1))))))))))) (kTb (kTb (kTr (kTl (kTr (kTf kO1)))) (kTr (kTr (kTr (kTr (kTl (kTr (kTr (kTr (kTf gO)))))))))) (kTl (kTr (kTr (kTr (kTr (kTl (kTr (kTr (kTr (kTf kO1))))))))))))) (kTb (kTb (kTl (kTb (kTr (kTr (kTb (kTl (kTf kO7)) (kTl (kTr (kTr (kTr (kTr (kTf aNL))))))))) (kTl (kTl (kTl (kTl (kTl (kTl (kTl (kTl (kTr (kTf aLm)))))))))))) (kTr (kTr (kTl (kTr (kTr (kTr (kTl (kTr (kTr (kTr (kTf rT)))))))))))) (kTb (kTb (kTl (kTl (kTr (kTr (kTr (kTr (kTr (kTr (kTr (kTf aOi)))))))))) (kTr (kTr (kTl (kTr (kTr (kTl (kTl (kTl (kTl (kTr (kTf aDX)))))))))))) (kTr (kTr (kTb (kTr (kTr (kTr (kTl (kTr (kTr (kTr (kTf rT)))))))) (kTl (kTl (kTl (kTl (kTl (kTl (kTl (kTr (kTf kO1))))))))))))))) (kTb (kTb (kTb (kTb (kTb (kTl (kTr (kTr (kTr (kTl (kTl (kTl (kTl (kTr (kTf aQE)))))))))) (kTr (kTr (kTl (kTl (kTl (kTf kO1))))))) (kTr (kTr (kTl (kTr (kTr (kTl (kTf fV)))))))) (kTb (kTr (kTl (kTl (kTr (kTr (kTl (kTr (kTr (kTr (kTf (.cells ⟨[]⟩ 5))))))))))) (kTl (kTr (kTl (kTr (kTr (kTr (kTr (kTr (kTr (kTf kO1)))))))))))) (kTb (kTr (kTb (kTr (kTl (kTr (kTf kO3)))) (kTl (kTl (kTr (kTr (kTl (kTr (kTr (kTr (kTf aCM))))))))))) (kTb (kTr (kTl (kTb (kTb (kTl (kTl (kTl (kTl (kTl (kTr (kTf aQF))))))) (kTr (kTl (kTr (kTr (kTr (kTf aCN))))))) (kTr (kTr (kTl (kTr (kTr (kTr (kTf aCO)))))))))) (kTr (kTl (kTl (kTr (kTr (kTl (kTr (kTr (kTr (kTf (.cells ⟨[]⟩ 3)))))))))))))) (kTb (kTb (kTb (kTb (kTl (kTr (kTr (kTl (kTl (kTl (kTl (kTl (kTr (kTf jV)))))))))) (kTr (kTr (kTr (kTr (kTl (kTr (kTr (kTr (kTf aDW)))))))))) (kTr (kTr (kTl (kTr (kTr (kTl (kTf fV)))))))) (kTb (kTr (kTr (kTr (kTr (kTr (kTl (kTr (kTr (kTr (kTf gO)))))))))) (kTl (kTr (kTr (kTr (kTr (kTl (kTr (kTr (kTr (kTf kO1)))))))))))) (kTr (kTr (kTb (kTl (kTl (kTl (kTr (kTl (kTf jV)))))) (kTl (kTr (kTr (kTr (kTl (kTr (kTr (kTr (kTf rT)))))))))))))))
 nx':=100143
theorem aHy:sJ Tryz.prog aMk:=tX kX (l:=[sR,xN,yE,aAV,aFv,aKm]) (bD jG (bD lR (bD nH (bD oL (bD yF (bD aDx kW)))))) (k:=200) fun ro=>by kernel_rfl
end V
end Go.Proofs.YtcaccnneblghgaaGreat
namespace Go.Proofs.YtcaccnneblghgaaGreat
namespace V
set_option maxRecDepth 1000000
def aQo:Obj:=.cells ⟨(aBb [.int .i64 2,s0,.slice (some ⟨99213,0,(some 4)⟩) 3 3])⟩ 63
def aNM:Obj:=.cells ⟨[jm,s0,.int .i64 1,.slice (some ⟨120543,0,(some 1)⟩) 0 0]⟩ 202
def aNN:Obj:=.cells ⟨[.slice (some ⟨120432,0,(some 1)⟩) 0 0,.slice (some ⟨120436,0,(some 1)⟩) 0 0,.slice (some ⟨120450,0,(some 1)⟩) 1 1,.slice (some ⟨120420,0,(some 1)⟩) 1 1,.slice (some ⟨120597,0,(some 1)⟩) 1 1,.slice (some ⟨120583,0,(some 1)⟩) 0 0,.slice (some ⟨120598,0,(some 1)⟩) 1 1,.slice (some ⟨120567,0,(some 1)⟩) 1 1]⟩ 160
def aNO:Obj:=.cells ⟨[.slice (some ⟨120551,0,(some 2)⟩) 2 2]⟩ 200
def aNP:Obj:=.cells ⟨[.slice (some ⟨120404,0,(some 2)⟩) 2 2]⟩ 200
def aNQ:Obj:=.cells ⟨[jm,s0,.int .i64 1,.slice (some ⟨120396,0,(some 1)⟩) 0 0]⟩ 202
def aR7:List Value:=[.agg ⟨(aBb [.int .i64 2,s0,.slice (some ⟨99213,0,(some 4)⟩) 3 3])⟩]
def aR8:Value:=.tuple ⟨[.agg ⟨(aBb [.int .i64 2,.slice (some ⟨120300,0,(some 2)⟩) 0 0,.slice (some ⟨120807,0,(some 4)⟩) 2 2])⟩,j0]⟩
def aPe:Cp where
 f:=aEQ
 args:=aR7
 h:=kTb (kTb (kTb (kTb (kTl (kTb (kTb (kTr (kTl (kTl (kTr (kTl (kTf yS)))))) (kTr (kTr (kTl (kTr (kTl (kTr (kTr (kTr (kTf (.cells ⟨[]⟩ 5))))))))))) (kTb (kTr (kTr (kTr (kTl (kTl (kTl (kTl (kTl (kTr (kTf aDX)))))))))) (kTl (kTb (kTl (kTr (kTl (kTf yT)))) (kTl (kTr (kTl (kTr (kTr (kTr (kTf vY)))))))))))) (kTb (kTb (kTr (kTr (kTr (kTl (kTr (kTl (kTr (kTr (kTr (kTf aCK)))))))))) (kTr (kTr (kTr (kTl (kTr (kTl (kTr (kTr (kTr (kTf (.cells ⟨[]⟩ 3)))))))))))) (kTl (kTr (kTb (kTl (kTl (kTr (kTl (kTl (kTl (kTl (kTr (kTf kO1))))))))) (kTb (kTl (kTr (kTf kO2))) (kTl (kTr (kTl (kTr (kTr (kTr (kTf aCL))))))))))))) (kTb (kTl (kTb (kTl (kTr (kTr (kTl (kTl (kTf kO6)))))) (kTr (kTr (kTr (kTl (kTr (kTl (kTr (kTr (kTr (kTf (.cells ⟨[]⟩ 3))))))))))))) (kTb (kTb (kTr (kTr (kTl (kTr (kTr (kTl (kTf gO))))))) (kTb (kTl (kTr (kTr (kTr (kTl (kTf kO1)))))) (kTl (kTr (kTr (kTr (kTr (kTr (kTr (kTr (kTl (kTf kO1)))))))))))) (kTr (kTr (kTl (kTr (kTr (kTf kO0))))))))) (kTb (kTb (kTr (kTb (kTl (kTr (kTr (kTr (kTr (kTl (kTr (kTr (kTr (kTf kO6)))))))))) (kTr (kTr (kTr (kTf kO1)))))) (kTb (kTb (kTb (kTr (kTl (kTr (kTr (kTl (kTr (kTr (kTr (kTf kO1))))))))) (kTr (kTl (kTr (kTr (kTl (kTf gO))))))) (kTl (kTl (kTr (kTr (kTr (kTl (kTf kO1)))))))) (kTl (kTr (kTr (kTl (kTb (kTr (kTf aIY)) (kTr (kTl (kTf lM)))))))))) (kTb (kTb (kTr (kTr (kTr (kTr (kTl (kTl (kTl (kTf wW)))))))) (kTb (kTr (kTr (kTl (kTr (kTr (kTl (kTf lM))))))) (kTb (kTr (kTr (kTr (kTl (kTl (kTl (kTl (kTl (kTr (kTf aQC)))))))))) (kTr (kTr (kTl (kTr (kTl (kTr (kTr (kTr (kTf fV)))))))))))) (kTb (kTl (kTb (kTr (kTr (kTr (kTl (kTl (kTl (kTl (kTl (kTr (kTf aQD)))))))))) (kTl (kTl (kTr (kTr (kTr (kTr (kTr (kTr (kTl (kTf fV)))))))))))) (kTr (kTr (kTb (kTr (kTl (kTl (kTf kO6)))) (kTl (kTr (kTr (kTl (kTf kO6)))))))))))) (kTb (kTb (kTn (kTb (kTl (kTr (kTr (kTl (kTl (kTr (kTr (kTr (kTr (kTr (kTf jV))))))))))) (kTl (kTr (kTr (kTr (kTl (kTr (kTr (kTr (kTr (kTr (kTf jV)))))))))))) kO2 (kTb (kTl (kTl (kTr (kTl (kTr (kTr (kTl (kTr (kTr (kTr (kTf kO1))))))))))) (kTb (kTb (kTr (kTl (kTr (kTf kO1)))) (kTr (kTr (kTr (kTr (kTl (kTr (kTr (kTr (kTf gO)))))))))) (kTl (kTr (kTr (kTr (kTr (kTl (kTr (kTr (kTr (kTf kO1))))))))))))) (kTb (kTb (kTl (kTb (kTr (kTr (kTb (kTl (kTf kO7)) (kTl (kTr (kTr (kTr (kTr (kTf aNL))))))))) (kTl (kTl (kTl (kTl (kTl (kTl (kTl (kTl (kTr (kTf aLm)))))))))))) (kTr (kTr (kTl (kTr (kTr (kTr (kTl (kTr (kTr (kTr (kTf rT)))))))))))) (kTb (kTb (kTl (kTl (kTr (kTr (kTr (kTr (kTr (kTr (kTr (kTf aOi)))))))))) (kTr (kTr (kTl (kTr (kTr (kTl (kTl (kTl (kTl (kTr (kTf aDX)))))))))))) (kTr (kTr (kTb (kTr (kTr (kTr (kTl (kTr (kTr (kTr (kTf rT)))))))) (kTl (kTl (kTl (kTl (kTl (kTl (kTl (kTr (kTf kO1))))))))))))))) (kTb (kTb (kTb (kTb (kTb (kTl (kTr (kTr (kTr (kTl (kTl (kTl (kTl (kTr (kTf aQE)))))))))) (kTr (kTr (kTl (kTl (kTl (kTf kO1))))))) (kTr (kTr (kTl (kTr (kTr (kTl (kTf fV)))))))) (kTb (kTr (kTl (kTl (kTr (kTr (kTl (kTr (kTr (kTr (kTf (.cells ⟨[]⟩ 5))))))))))) (kTl (kTb (kTr (kTr (kTr (kTl (kTl (kTl (kTl (kTr (kTf aQo))))))))) (kTl (kTr (kTr (kTr (kTr (kTr (kTr (kTf kO1)))))))))))) (kTb (kTr (kTb (kTr (kTl (kTr (kTf kO3)))) (kTl (kTl (kTr (kTr (kTl (kTr (kTr (kTr (kTf aCM))))))))))) (kTb (kTr (kTl (kTb (kTb (kTl (kTl (kTl (kTl (kTl (kTr (kTf aQF))))))) (kTr (kTl (kTr (kTr (kTr (kTf aCN))))))) (kTr (kTr (kTl (kTr (kTr (kTr (kTf aCO)))))))))) (kTr (kTl (kTl (kTr (kTr (kTl (kTr (kTr (kTr (kTf (.cells ⟨[]⟩ 3)))))))))))))) (kTb (kTb (kTb (kTb (kTl (kTr (kTr (kTl (kTl (kTl (kTl (kTl (kTr (kTf jV)))))))))) (kTr (kTr (kTr (kTr (kTl (kTr (kTr (kTr (kTf aDW)))))))))) (kTr (kTr (kTl (kTr (kTr (kTl (kTf fV)))))))) (kTb (kTr (kTr (kTr (kTr (kTr (kTl (kTr (kTr (kTr (kTf gO)))))))))) (kTl (kTr (kTr (kTr (kTr (kTl (kTr (kTr (kTr (kTf kO1)))))))))))) (kTr (kTr (kTb (kTl (kTl (kTl (kTr (kTl (kTf jV)))))) (kTl (kTr (kTr (kTr (kTl (kTr (kTr (kTr (kTf rT)))))))))))))))
 nx:=100153
 v:=aR8
 h':=kTb (kTb (kTb (kTb (kTl (kTb (kTb (kTr (kTl (kTl (kTr (kTl (kTf yS)))))) (kTr (kTr (kTl (kTr (kTl (kTr (kTr (kTr (kTf (.cells ⟨[]⟩ 5))))))))))) (kTb (kTr (kTr (kTr (kTl (kTl (kTl (kTl (kTl (kTr (kTf aDX)))))))))) (kTb (kTb (kTl (kTr (kTl (kTf yT)))) (kTl (kTr (kTl (kTr (kTr (kTr (kTf vY)))))))) (kTl (kTr (kTr (kTl (kTr (kTl (kTr (kTr (kTf (.cells ⟨[]⟩ 5)))))))))))))) (kTb (kTb (kTb (kTl (kTr (kTr (kTr (kTl (kTr (kTl (kTr (kTr (kTf (.cells ⟨[]⟩ 3))))))))))) (kTr (kTr (kTl (kTr (kTl (kTr (kTr (kTr (kTf aCK)))))))))) (kTr (kTr (kTb (kTr (kTr (kTl (kTr (kTl (kTr (kTr (kTf aNM)))))))) (kTb (kTr (kTl (kTr (kTr (kTr (kTf (.cells ⟨[]⟩ 3))))))) (kTr (kTl (kTr (kTl (kTr (kTr (kTf aNN)))))))))))) (kTb (kTr (kTb (kTl (kTl (kTr (kTl (kTl (kTl (kTl (kTr (kTf kO1))))))))) (kTb (kTl (kTr (kTf kO2))) (kTl (kTr (kTl (kTr (kTr (kTr (kTf aCL)))))))))) (kTr (kTr (kTl (kTr (kTr (kTl (kTr (kTl (kTr (kTr (kTf aNO)))))))))))))) (kTb (kTl (kTb (kTl (kTr (kTr (kTl (kTl (kTf kO6)))))) (kTr (kTr (kTr (kTl (kTr (kTl (kTr (kTr (kTr (kTf (.cells ⟨[]⟩ 3))))))))))))) (kTb (kTb (kTr (kTr (kTl (kTr (kTr (kTl (kTf gO))))))) (kTb (kTl (kTr (kTr (kTr (kTl (kTf kO1)))))) (kTl (kTr (kTr (kTr (kTr (kTr (kTr (kTr (kTl (kTf kO1)))))))))))) (kTr (kTr (kTl (kTr (kTr (kTf kO0))))))))) (kTb (kTb (kTr (kTb (kTl (kTr (kTr (kTr (kTr (kTl (kTr (kTr (kTr (kTf kO6)))))))))) (kTr (kTr (kTr (kTf kO1)))))) (kTb (kTb (kTb (kTr (kTl (kTr (kTr (kTl (kTr (kTr (kTr (kTf kO1))))))))) (kTr (kTl (kTr (kTr (kTl (kTf gO))))))) (kTl (kTl (kTr (kTr (kTr (kTl (kTf kO1)))))))) (kTl (kTr (kTr (kTl (kTb (kTr (kTf aIY)) (kTr (kTl (kTf lM)))))))))) (kTb (kTb (kTr (kTr (kTr (kTr (kTl (kTl (kTl (kTf wW)))))))) (kTb (kTb (kTl (kTr (kTr (kTr (kTl (kTr (kTl (kTr (kTr (kTf kO1)))))))))) (kTr (kTl (kTr (kTr (kTl (kTf lM))))))) (kTb (kTr (kTr (kTr (kTl (kTl (kTl (kTl (kTl (kTr (kTf aQC)))))))))) (kTr (kTr (kTl (kTr (kTl (kTr (kTr (kTr (kTf fV)))))))))))) (kTb (kTl (kTb (kTr (kTr (kTr (kTl (kTl (kTl (kTl (kTl (kTr (kTf aQD)))))))))) (kTl (kTl (kTr (kTr (kTr (kTr (kTr (kTr (kTl (kTf fV)))))))))))) (kTr (kTr (kTb (kTr (kTl (kTl (kTf kO6)))) (kTl (kTr (kTr (kTl (kTf kO6)))))))))))) (kTb (kTb (kTn (kTb (kTl (kTr (kTr (kTl (kTl (kTr (kTr (kTr (kTr (kTr (kTf jV))))))))))) (kTb (kTr (kTr (kTr (kTl (kTr (kTr (kTr (kTr (kTr (kTf jV)))))))))) (kTr (kTl (kTl (kTr (kTr (kTl (kTr (kTl (kTr (kTr (kTf (.cells ⟨[]⟩ 3)))))))))))))) kO2 (kTb (kTl (kTl (kTr (kTl (kTr (kTr (kTl (kTr (kTr (kTr (kTf kO1))))))))))) (kTb (kTb (kTr (kTl (kTr (kTf kO1)))) (kTr (kTr (kTr (kTr (kTl (kTr (kTr (kTr (kTf gO)))))))))) (kTl (kTr (kTr (kTr (kTr (kTl (kTr (kTr (kTr (kTf kO1))))))))))))) (kTb (kTb (kTb (kTb (kTr (kTr (kTb (kTl (kTf kO7)) (kTl (kTr (kTr (kTr (kTr (kTf aNL))))))))) (kTl (kTl (kTl (kTl (kTl (kTl (kTl (kTl (kTr (kTf aLm))))))))))) (kTr (kTl (kTl (kTr (kTr (kTl (kTr (kTl (kTr (kTr (kTf aNP)))))))))))) (kTb (kTr (kTl (kTl (kTr (kTr (kTl (kTr (kTl (kTr (kTr (kTf aNQ))))))))))) (kTr (kTl (kTb (kTr (kTr (kTl (kTr (kTl (kTr (kTr (kTf (.cells ⟨[]⟩ 3))))))))) (kTr (kTr (kTl (kTr (kTr (kTr (kTf rT)))))))))))) (kTb (kTb (kTb (kTl (kTr (kTr (kTr (kTr (kTr (kTr (kTr (kTf aOi))))))))) (kTl (kTl (kTr (kTr (kTl (kTr (kTl (kTr (kTr (kTf (.cells ⟨[]⟩ 5)))))))))))) (kTr (kTr (kTb (kTr (kTr (kTl (kTl (kTl (kTl (kTr (kTf aDX)))))))) (kTl (kTr (kTl (kTr (kTl (kTr (kTr (kTf vY)))))))))))) (kTr (kTr (kTb (kTr (kTr (kTr (kTl (kTr (kTr (kTr (kTf rT)))))))) (kTl (kTl (kTl (kTl (kTl (kTl (kTl (kTr (kTf kO1))))))))))))))) (kTb (kTb (kTb (kTb (kTb (kTb (kTr (kTr (kTr (kTl (kTl (kTl (kTl (kTr (kTf aQE))))))))) (kTl (kTr (kTr (kTl (kTr (kTl (kTr (kTr (kTf fV)))))))))) (kTr (kTr (kTl (kTl (kTl (kTf kO1))))))) (kTr (kTr (kTl (kTr (kTr (kTl (kTf fV)))))))) (kTb (kTr (kTl (kTl (kTr (kTr (kTl (kTr (kTr (kTr (kTf (.cells ⟨[]⟩ 5))))))))))) (kTl (kTb (kTr (kTr (kTr (kTl (kTl (kTl (kTl (kTr (kTf aQo))))))))) (kTl (kTr (kTr (kTr (kTr (kTr (kTr (kTf kO1)))))))))))) (kTb (kTr (kTb (kTr (kTl (kTr (kTf kO3)))) (kTl (kTl (kTr (kTr (kTl (kTr (kTr (kTr (kTf aCM))))))))))) (kTb (kTr (kTl (kTb (kTb (kTl (kTl (kTl (kTl (kTl (kTr (kTf aQF))))))) (kTr (kTl (kTr (kTr (kTr (kTf aCN))))))) (kTr (kTr (kTl (kTr (kTr (kTr (kTf aCO)))))))))) (kTr (kTl (kTl (kTr (kTr (kTl (kTr (kTr (kTr (kTf (.cells ⟨[]⟩ 3)))))))))))))) (kTb (kTb (kTb (kTb (kTl (kTr (kTr (kTl (kTl (kTl (kTl (kTl (kTr (kTf jV)))))))))) (kTr (kTr (kTr (kTr (kTl (kTr (kTr (kTr (kTf aDW)))))))))) (kTr (kTr (kTl (kTr (kTr (kTl (kTf fV)))))))) (kTb (kTb (kTl (kTr (kTr (kTr (kTl (kTr (kTl (kTr (kTr (kTf kO1)))))))))) (kTr (kTr (kTr (kTr (kTl (kTr (kTr (kTr (kTf gO)))))))))) (kTl (kTr (kTr (kTr (kTr (kTl (kTr (kTr (kTr (kTf kO1)))))))))))) (kTr (kTr (kTb (kTl (kTl (kTl (kTr (kTl (kTf jV)))))) (kTl (kTr (kTr (kTr (kTl (kTr (kTr (kTr (kTf rT)))))))))))))))
 nx':=120818
theorem aMl:sJ Tryz.prog aPe:=tX kX (l:=[sR,xN,yE,aAV,aFv,aKm,aMk]) (bD jG (bD lR (bD nH (bD oL (bD yF (bD aDx (bD aHy kW))))))) (k:=200) fun ro=>by kernel_rfl
end V
end Go.Proofs.YtcaccnneblghgaaGreat
namespace Go.Proofs.YtcaccnneblghgaaGreat
namespace V
set_option maxRecDepth 1000000
def aR9:List Value:=[.slice (some ⟨63416,0,(some 1)⟩) 1 1,.slice (some ⟨5835,0,(some 1)⟩) 1 1]
def aRa:Value:=.tuple ⟨[.agg ⟨(aBb [.int .i64 2,.slice (some ⟨120300,0,(some 2)⟩) 0 0,.slice (some ⟨120807,0,(some 4)⟩) 2 2,.slice (some ⟨63416,0,(some 1)⟩) 1 1])⟩,j0]⟩
def aPf:Cp where
 f:=aA0
 args:=aR9
 h:=kTb (kTb (kTb (kTb (kTl (kTb (kTb (kTr (kTl (kTl (kTr (kTl (kTf yS)))))) (kTr (kTr (kTl (kTr (kTl (kTr (kTr (kTr (kTf (.cells ⟨[]⟩ 5))))))))))) (kTr (kTl (kTb (kTl (kTr (kTl (kTf yT)))) (kTl (kTr (kTl (kTr (kTr (kTr (kTf vY)))))))))))) (kTb (kTb (kTr (kTr (kTr (kTl (kTr (kTl (kTr (kTr (kTr (kTf aCK)))))))))) (kTr (kTr (kTr (kTl (kTr (kTl (kTr (kTr (kTr (kTf (.cells ⟨[]⟩ 3)))))))))))) (kTl (kTr (kTr (kTb (kTl (kTr (kTf kO2))) (kTl (kTr (kTl (kTr (kTr (kTr (kTf aCL))))))))))))) (kTb (kTl (kTb (kTl (kTr (kTr (kTl (kTl (kTf kO6)))))) (kTr (kTr (kTr (kTl (kTr (kTl (kTr (kTr (kTr (kTf (.cells ⟨[]⟩ 3))))))))))))) (kTb (kTb (kTr (kTr (kTl (kTr (kTr (kTl (kTf gO))))))) (kTl (kTl (kTr (kTr (kTr (kTl (kTf kO1)))))))) (kTr (kTr (kTl (kTr (kTr (kTf kO0))))))))) (kTb (kTb (kTr (kTb (kTl (kTr (kTr (kTr (kTr (kTl (kTr (kTr (kTr (kTf kO6)))))))))) (kTr (kTr (kTr (kTf kO1)))))) (kTb (kTb (kTb (kTr (kTl (kTr (kTr (kTl (kTr (kTr (kTr (kTf kO1))))))))) (kTr (kTl (kTr (kTr (kTl (kTf gO))))))) (kTl (kTl (kTr (kTr (kTr (kTl (kTf kO1)))))))) (kTl (kTr (kTr (kTl (kTb (kTr (kTf aIY)) (kTr (kTl (kTf lM)))))))))) (kTb (kTb (kTr (kTr (kTr (kTr (kTl (kTl (kTl (kTf wW)))))))) (kTb (kTr (kTr (kTl (kTr (kTr (kTl (kTf lM))))))) (kTr (kTr (kTr (kTl (kTr (kTl (kTr (kTr (kTr (kTf fV)))))))))))) (kTr (kTr (kTr (kTb (kTr (kTl (kTl (kTf kO6)))) (kTl (kTr (kTr (kTl (kTf kO6)))))))))))) (kTb (kTb (kTn .e kO2 (kTb (kTl (kTl (kTr (kTl (kTr (kTr (kTl (kTr (kTr (kTr (kTf kO1))))))))))) (kTb (kTl (kTr (kTl (kTr (kTf kO1))))) (kTl (kTr (kTr (kTr (kTr (kTl (kTr (kTr (kTr (kTf kO1))))))))))))) (kTb (kTb (kTl (kTl (kTr (kTr (kTl (kTl (kTf kO7))))))) (kTr (kTr (kTl (kTr (kTr (kTr (kTl (kTr (kTr (kTr (kTf rT)))))))))))) (kTr (kTr (kTr (kTl (kTr (kTr (kTr (kTl (kTr (kTr (kTr (kTf rT)))))))))))))) (kTb (kTb (kTb (kTb (kTr (kTr (kTr (kTl (kTl (kTl (kTf kO1))))))) (kTr (kTr (kTl (kTr (kTr (kTl (kTf fV)))))))) (kTl (kTr (kTl (kTl (kTr (kTr (kTl (kTr (kTr (kTr (kTf (.cells ⟨[]⟩ 5))))))))))))) (kTb (kTr (kTb (kTr (kTl (kTr (kTf kO3)))) (kTl (kTl (kTr (kTr (kTl (kTr (kTr (kTr (kTf aCM))))))))))) (kTb (kTr (kTl (kTb (kTr (kTr (kTl (kTr (kTr (kTr (kTf aCN))))))) (kTr (kTr (kTl (kTr (kTr (kTr (kTf aCO)))))))))) (kTr (kTl (kTl (kTr (kTr (kTl (kTr (kTr (kTr (kTf (.cells ⟨[]⟩ 3)))))))))))))) (kTb (kTb (kTr (kTr (kTr (kTl (kTr (kTr (kTl (kTf fV)))))))) (kTr (kTl (kTr (kTr (kTr (kTr (kTl (kTr (kTr (kTr (kTf kO1)))))))))))) (kTr (kTr (kTb (kTl (kTl (kTl (kTr (kTl (kTf jV)))))) (kTl (kTr (kTr (kTr (kTl (kTr (kTr (kTr (kTf rT)))))))))))))))
 nx:=63430
 v:=aRa
 h':=kTb (kTb (kTb (kTb (kTl (kTb (kTb (kTr (kTl (kTl (kTr (kTl (kTf yS)))))) (kTr (kTr (kTl (kTr (kTl (kTr (kTr (kTr (kTf (.cells ⟨[]⟩ 5))))))))))) (kTr (kTb (kTb (kTl (kTr (kTl (kTf yT)))) (kTl (kTr (kTl (kTr (kTr (kTr (kTf vY)))))))) (kTl (kTr (kTr (kTl (kTr (kTl (kTr (kTr (kTf (.cells ⟨[]⟩ 5)))))))))))))) (kTb (kTb (kTb (kTl (kTr (kTr (kTr (kTl (kTr (kTl (kTr (kTr (kTf (.cells ⟨[]⟩ 3))))))))))) (kTr (kTr (kTl (kTr (kTl (kTr (kTr (kTr (kTf aCK)))))))))) (kTr (kTr (kTb (kTr (kTr (kTl (kTr (kTl (kTr (kTr (kTf aNM)))))))) (kTb (kTr (kTl (kTr (kTr (kTr (kTf (.cells ⟨[]⟩ 3))))))) (kTr (kTl (kTr (kTl (kTr (kTr (kTf aNN)))))))))))) (kTb (kTr (kTr (kTb (kTl (kTr (kTf kO2))) (kTl (kTr (kTl (kTr (kTr (kTr (kTf aCL)))))))))) (kTr (kTr (kTl (kTr (kTr (kTl (kTr (kTl (kTr (kTr (kTf aNO)))))))))))))) (kTb (kTl (kTb (kTl (kTr (kTr (kTl (kTl (kTf kO6)))))) (kTr (kTr (kTr (kTl (kTr (kTl (kTr (kTr (kTr (kTf (.cells ⟨[]⟩ 3))))))))))))) (kTb (kTb (kTr (kTr (kTl (kTr (kTr (kTl (kTf gO))))))) (kTl (kTl (kTr (kTr (kTr (kTl (kTf kO1)))))))) (kTr (kTr (kTl (kTr (kTr (kTf kO0))))))))) (kTb (kTb (kTr (kTb (kTl (kTr (kTr (kTr (kTr (kTl (kTr (kTr (kTr (kTf kO6)))))))))) (kTr (kTr (kTr (kTf kO1)))))) (kTb (kTb (kTb (kTr (kTl (kTr (kTr (kTl (kTr (kTr (kTr (kTf kO1))))))))) (kTr (kTl (kTr (kTr (kTl (kTf gO))))))) (kTl (kTl (kTr (kTr (kTr (kTl (kTf kO1)))))))) (kTl (kTr (kTr (kTl (kTb (kTr (kTf aIY)) (kTr (kTl (kTf lM)))))))))) (kTb (kTb (kTr (kTr (kTr (kTr (kTl (kTl (kTl (kTf wW)))))))) (kTb (kTb (kTl (kTr (kTr (kTr (kTl (kTr (kTl (kTr (kTr (kTf kO1)))))))))) (kTr (kTl (kTr (kTr (kTl (kTf lM))))))) (kTr (kTr (kTr (kTl (kTr (kTl (kTr (kTr (kTr (kTf fV)))))))))))) (kTr (kTr (kTr (kTb (kTr (kTl (kTl (kTf kO6)))) (kTl (kTr (kTr (kTl (kTf kO6)))))))))))) (kTb (kTb (kTn (kTr (kTr (kTr (kTl (kTl (kTr (kTr (kTl (kTr (kTl (kTr (kTr (kTf (.cells ⟨[]⟩ 3)))))))))))))) kO2 (kTb (kTl (kTl (kTr (kTl (kTr (kTr (kTl (kTr (kTr (kTr (kTf kO1))))))))))) (kTb (kTl (kTr (kTl (kTr (kTf kO1))))) (kTl (kTr (kTr (kTr (kTr (kTl (kTr (kTr (kTr (kTf kO1))))))))))))) (kTb (kTb (kTb (kTl (kTr (kTr (kTl (kTl (kTf kO7)))))) (kTr (kTl (kTl (kTr (kTr (kTl (kTr (kTl (kTr (kTr (kTf aNP)))))))))))) (kTb (kTr (kTl (kTl (kTr (kTr (kTl (kTr (kTl (kTr (kTr (kTf aNQ))))))))))) (kTr (kTl (kTb (kTr (kTr (kTl (kTr (kTl (kTr (kTr (kTf (.cells ⟨[]⟩ 3))))))))) (kTr (kTr (kTl (kTr (kTr (kTr (kTf rT)))))))))))) (kTb (kTb (kTr (kTl (kTl (kTr (kTr (kTl (kTr (kTl (kTr (kTr (kTf (.cells ⟨[]⟩ 5)))))))))))) (kTr (kTr (kTr (kTl (kTr (kTl (kTr (kTl (kTr (kTr (kTf vY)))))))))))) (kTr (kTr (kTl (kTr (kTr (kTr (kTl (kTr (kTr (kTr (kTf rT)))))))))))))) (kTb (kTb (kTb (kTb (kTb (kTr (kTl (kTr (kTr (kTl (kTr (kTl (kTr (kTr (kTf fV)))))))))) (kTr (kTr (kTl (kTl (kTl (kTf kO1))))))) (kTr (kTr (kTl (kTr (kTr (kTl (kTf fV)))))))) (kTl (kTr (kTl (kTl (kTr (kTr (kTl (kTr (kTr (kTr (kTf (.cells ⟨[]⟩ 5))))))))))))) (kTb (kTr (kTb (kTr (kTl (kTr (kTf kO3)))) (kTl (kTl (kTr (kTr (kTl (kTr (kTr (kTr (kTf aCM))))))))))) (kTb (kTr (kTl (kTb (kTr (kTr (kTl (kTr (kTr (kTr (kTf aCN))))))) (kTr (kTr (kTl (kTr (kTr (kTr (kTf aCO)))))))))) (kTr (kTl (kTl (kTr (kTr (kTl (kTr (kTr (kTr (kTf (.cells ⟨[]⟩ 3)))))))))))))) (kTb (kTb (kTr (kTr (kTr (kTl (kTr (kTr (kTl (kTf fV)))))))) (kTb (kTl (kTl (kTr (kTr (kTr (kTl (kTr (kTl (kTr (kTr (kTf kO1))))))))))) (kTl (kTr (kTr (kTr (kTr (kTl (kTr (kTr (kTr (kTf kO1)))))))))))) (kTr (kTr (kTb (kTl (kTl (kTl (kTr (kTl (kTf jV)))))) (kTl (kTr (kTr (kTr (kTl (kTr (kTr (kTr (kTf rT)))))))))))))))
 nx':=120830
theorem aMm:sJ Tryz.prog aPf:=tX kX (l:=[sR,xN,yE,aAV,aFv,aKm,aMk,aPe]) (bD jG (bD lR (bD nH (bD oL (bD yF (bD aDx (bD aHy (bD aMl kW)))))))) (k:=200) fun ro=>by kernel_rfl
end V
end Go.Proofs.YtcaccnneblghgaaGreat
namespace Go.Proofs.YtcaccnneblghgaaGreat
namespace V
set_option maxRecDepth 1000000
def aQG:Obj:=.cells ⟨(aBb [.int .i64 2,.slice (some ⟨62815,0,(some 2)⟩) 0 0,.slice (some ⟨63322,0,(some 4)⟩) 2 2,.slice (some ⟨5931,0,(some 1)⟩) 1 1,b0,b0,b0,b0,b0,b0,b0,b0,b0,b0,b0,b0,b0,b0,b0,b0,b0,b0,b0,b0,b0,b0,b0,b0,b0,b0,b0,b0,b0,b0,b0,b0,b0,b0,b0,b0,b0,b0,b0,b0,b0,b0,b0,b0,b0,b0,b0,b0,b0,b0,b0,b0,b0,b0,b0,b0,b0,b0,b0,b0,b0,b0,b0,b0,b0,b0,b0,b0,b0,b0,b0,b0,b0,b0,b0,b0,b0,b0,b0,b0,b0,b0,b0,b0,b0,b0,b0,b0,b0,b0,b0,b0,b0,b0,b0,b0,b0,b1,b0,b0,b0,b0,b0,b0,b0,b0,b0,b0,b0,b0,b0,b0,b0,b0,b0,b0,b0,b0,b0,b0,b0,b0,b0,b0,b0,b0,b0,b0,b0,b0,b0,b0,b0,b0,b0,b0,b0,b0,b0,b0,b0,b0,b0,b0,b0,b0,b0,b0,b0,b0,b0,b0,b0,b0,b0,b0,b0,b0,b0,b0,b0,b0,b0,b0,b0,b0,b0,b0,b0,b0,b0,b0,b0,b0,b0,b0,b0,b0,b0,b0,b0,b0,b0,b0,b0,b0,b0,b0,b0,b0,b0,b0,b0,b0,b0,b0,b0,b0,b0,b0,b0,b0,b0,b0,b0,b0,b0,b0,b0,b0,b0,b0,b0,b0,b0,b0,b0,b0,b0,b0,b0,b0,b0,b0,b0,b0,b0,b0,b0,b0,b0,b0,b0,b0,b0,b0,b0,b0,b0,b0,b0,b0,b0,b0,b0,b0,b0,b0,b0,b0,b0,b0,b0,b0,b0,b0,.int .i64 2,.slice (some ⟨120300,0,(some 2)⟩) 0 0,.slice (some ⟨120807,0,(some 4)⟩) 2 2,.slice (some ⟨63416,0,(some 1)⟩) 1 1])⟩ 65
def aRb:List Value:=[.agg ⟨[.slice (some ⟨8,0,(some 1)⟩) 1 1,s0,.slice (some ⟨1915,0,(some 7)⟩) 1 1]⟩,.int .i64 9]
def aRc:Value:=.tuple ⟨[.agg ⟨[.slice (some ⟨3287,0,(some 1)⟩) 1 1,.slice (some ⟨5849,0,(some 1)⟩) 1 1,.slice (some ⟨5862,0,(some 1)⟩) 1 1,.slice (some ⟨120843,0,(some 260)⟩) 2 2]⟩,j0,j0]⟩
def aMn:Cp where
 f:=aDT
 args:=aRb
 h:=kTb (kTb (kTr (kTr (kTr (kTr (kTr (kTl (kTr (kTr (kTf kO0))))))))) (kTb (kTl (kTr (kTr (kTr (kTr (kTr (kTf kO1))))))) (kTr (kTr (kTr (kTr (kTl (kTr (kTl (kTl (kTf kO6))))))))))) (kTb (kTl (kTn .e kO2 (kTr (kTl (kTl (kTr (kTl (kTr (kTf kO1))))))))) (kTl (kTr (kTl (kTr (kTl (kTr (kTl (kTr (kTf kO3))))))))))
 nx:=2435
 v:=aRc
 h':=kTb (kTb (kTb (kTb (kTl (kTb (kTr (kTr (kTr (kTl (kTr (kTl (kTr (kTr (kTr (kTf (.cells ⟨[]⟩ 5))))))))))) (kTr (kTb (kTr (kTl (kTr (kTl (kTr (kTr (kTr (kTf vY)))))))) (kTl (kTr (kTr (kTl (kTr (kTl (kTr (kTr (kTf (.cells ⟨[]⟩ 5)))))))))))))) (kTb (kTb (kTb (kTl (kTr (kTr (kTr (kTl (kTr (kTl (kTr (kTr (kTf (.cells ⟨[]⟩ 3))))))))))) (kTr (kTr (kTl (kTr (kTl (kTr (kTr (kTr (kTf aCK)))))))))) (kTr (kTr (kTb (kTr (kTr (kTl (kTr (kTl (kTr (kTr (kTf aNM)))))))) (kTb (kTr (kTl (kTr (kTr (kTr (kTf (.cells ⟨[]⟩ 3))))))) (kTr (kTl (kTr (kTl (kTr (kTr (kTf aNN)))))))))))) (kTb (kTr (kTr (kTb (kTl (kTr (kTf kO2))) (kTl (kTr (kTl (kTr (kTr (kTr (kTf aCL)))))))))) (kTr (kTr (kTl (kTr (kTr (kTl (kTr (kTl (kTr (kTr (kTf aNO)))))))))))))) (kTb (kTl (kTr (kTr (kTr (kTr (kTl (kTr (kTl (kTr (kTr (kTr (kTf (.cells ⟨[]⟩ 3))))))))))))) (kTb (kTb (kTl (kTl (kTl (kTl (kTl (kTr (kTr (kTl (kTr (kTr (kTf aQG))))))))))) (kTl (kTl (kTr (kTr (kTr (kTl (kTf kO1)))))))) (kTr (kTr (kTl (kTr (kTr (kTf kO0))))))))) (kTb (kTb (kTr (kTr (kTr (kTr (kTr (kTf kO1)))))) (kTb (kTl (kTl (kTr (kTl (kTr (kTr (kTl (kTr (kTr (kTr (kTf kO1))))))))))) (kTl (kTr (kTr (kTl (kTr (kTr (kTl (kTf lM)))))))))) (kTb (kTr (kTb (kTl (kTl (kTr (kTr (kTr (kTl (kTr (kTl (kTr (kTr (kTf kO1))))))))))) (kTr (kTr (kTr (kTl (kTr (kTl (kTr (kTr (kTr (kTf fV)))))))))))) (kTr (kTr (kTr (kTl (kTr (kTl (kTl (kTf kO6))))))))))) (kTb (kTb (kTn (kTr (kTr (kTr (kTl (kTl (kTr (kTr (kTl (kTr (kTl (kTr (kTr (kTf (.cells ⟨[]⟩ 3)))))))))))))) kO2 (kTb (kTl (kTl (kTr (kTl (kTr (kTr (kTl (kTr (kTr (kTr (kTf kO1))))))))))) (kTb (kTl (kTr (kTl (kTr (kTf kO1))))) (kTl (kTr (kTr (kTr (kTr (kTl (kTr (kTr (kTr (kTf kO1))))))))))))) (kTb (kTb (kTr (kTr (kTl (kTl (kTr (kTr (kTl (kTr (kTl (kTr (kTr (kTf aNP)))))))))))) (kTb (kTr (kTl (kTl (kTr (kTr (kTl (kTr (kTl (kTr (kTr (kTf aNQ))))))))))) (kTr (kTl (kTl (kTr (kTr (kTl (kTr (kTl (kTr (kTr (kTf (.cells ⟨[]⟩ 3)))))))))))))) (kTl (kTb (kTr (kTl (kTl (kTr (kTr (kTl (kTr (kTl (kTr (kTr (kTf (.cells ⟨[]⟩ 5)))))))))))) (kTr (kTr (kTr (kTl (kTr (kTl (kTr (kTl (kTr (kTr (kTf vY))))))))))))))) (kTb (kTb (kTb (kTl (kTl (kTr (kTl (kTr (kTr (kTl (kTr (kTl (kTr (kTr (kTf fV)))))))))))) (kTl (kTr (kTl (kTl (kTr (kTr (kTl (kTr (kTr (kTr (kTf (.cells ⟨[]⟩ 5))))))))))))) (kTb (kTr (kTb (kTr (kTl (kTr (kTf kO3)))) (kTl (kTl (kTr (kTr (kTl (kTr (kTr (kTr (kTf aCM))))))))))) (kTb (kTr (kTl (kTb (kTr (kTr (kTl (kTr (kTr (kTr (kTf aCN))))))) (kTr (kTr (kTl (kTr (kTr (kTr (kTf aCO)))))))))) (kTr (kTl (kTl (kTr (kTr (kTl (kTr (kTr (kTr (kTf (.cells ⟨[]⟩ 3)))))))))))))) (kTl (kTb (kTr (kTr (kTr (kTl (kTr (kTr (kTl (kTf fV)))))))) (kTl (kTl (kTl (kTr (kTr (kTr (kTl (kTr (kTl (kTr (kTr (kTf kO1))))))))))))))))
 nx':=120859
theorem aHz:sJ Tryz.prog aMn:=tX kX (l:=[sR,xN,yE,aAV,aFv,aPf]) (bD jG (bD lR (bD nH (bD oL (bD yF (bD aMm kW)))))) (k:=200) fun ro=>by kernel_rfl
end V
end Go.Proofs.YtcaccnneblghgaaGreat
namespace Go.Proofs.YtcaccnneblghgaaGreat
namespace V
set_option maxRecDepth 1000000
def aQp:Obj:=.cells ⟨[.slice (some ⟨3287,0,(some 1)⟩) 1 1,.slice (some ⟨5849,0,(some 1)⟩) 1 1,.slice (some ⟨5862,0,(some 1)⟩) 1 1,.slice (some ⟨120843,0,(some 260)⟩) 2 2]⟩ 34
def aRE:Obj:=.cells ⟨[.slice (some ⟨139622,0,(some 2)⟩) 2 2]⟩ 200
def aRF:Obj:=.cells ⟨[.slice (some ⟨134894,0,(some 2)⟩) 2 2]⟩ 200
def aRG:Obj:=.cells ⟨(aBb [.int .i64 2,.slice (some ⟨139451,0,(some 2)⟩) 0 0,.slice (some ⟨139690,0,(some 4)⟩) 2 2,j0,s0,j0])⟩ 148
def aRH:Obj:=.cells ⟨(aBb [.int .i64 2,.slice (some ⟨134723,0,(some 2)⟩) 0 0,.slice (some ⟨134962,0,(some 4)⟩) 2 2,j0,s0,j0])⟩ 148
def aRI:Obj:=.cells ⟨[.slice (some ⟨134776,0,(some 2)⟩) 2 2]⟩ 200
def aRJ:Obj:=.cells ⟨[.slice (some ⟨139504,0,(some 2)⟩) 2 2]⟩ 200
def aRK:Obj:=.cells ⟨[jm,s0,.int .i64 1,.slice (some ⟨139546,0,(some 1)⟩) 0 0]⟩ 202
def aRL:Obj:=.cells ⟨(aQq [j0,s0,s0,.slice (some ⟨135022,0,(some 1)⟩) 1 1,b0,b0,b0,b0,b0,b0,b0,b0,b0,b0,b0,b0,b0,b0,b0,b0,b0,b0,b0,b0,b0,b0,b0,b0,b0,b0,b0,b0,b0,b0,b0,b0,b0,b0,b0,b0,b0,b0,b0,b0,b0,b0,b0,b0,b0,b0,b0,b0,b0,b0,b0,b0,b0,b0,b0,b0,b0,b0,b0,b0,b0,b0,b0,b0,b0,b0,b0,b0,b0,b0,b0,b0,b0,b0,b0,b0,b0,b0,b0,b0,b0,b0,b0,b0,b0,b0,b0,b0,b0,b0,b0,b0,b0,b0,b0,b0,b0,b0,b0,b0,b0,b0,b0,b0,b0,b0,b0,b0,b0,b0,b0,b0,b0,b0,b0,b0,b0,b0,b0,b0,b0,b0,b0,b0,b0,b0,b0,b0,b0,b0,b0,b0,b0,b0,b0,b0,b0,b0,b0,b0,b0,b0,b0,b0,b0,b0,b0,b0,b0,b0,b0,b0,b0,b0,b0,b0,b0,b0,b0,b0,b0,b0,b0,b0,b0,b0,b0,b0,b0,b0,b0,b0,b0,b0,b0,b0,b0,b0,b0,b0,b0,b0,b0,b0,b0,b0,b0,b0,b0,b0,b0,b0,b0,b0,b0,b0,b0,b0,b0,b0,b0,b0,b0,b0,b0,b0,b0,b0,b0,b0,b0,b0,b0,b0,b0,b0,b0,b0,b0,b0,b0,b0,b0,b0,b0,b0,b0,b0,b0,b0,b0,b0,b0,b0,b0,b0,b0,b0,b0,b0,b0,b0,b0,b0,b0,b0,b0,b0,b0,b0,b0,b0,b0,b0,b0,b0,j0,s0,s0,.slice (some ⟨139750,0,(some 1)⟩) 1 1])⟩ 65
def aRM:Obj:=.cells ⟨[jm,s0,.int .i64 1,.slice (some ⟨134818,0,(some 1)⟩) 0 0]⟩ 202
def aRN:Obj:=.cells ⟨[.pointer (some ⟨134971,0,(some 0)⟩),.pointer (some ⟨139699,0,(some 0)⟩)]⟩ 101
def aRO:Obj:=.cells ⟨[s0,.slice (some ⟨134748,0,(some 1)⟩) 0 0,.slice (some ⟨134758,0,(some 1)⟩) 1 1,.slice (some ⟨134833,0,(some 1)⟩) 1 1,s0,.slice (some ⟨134866,0,(some 1)⟩) 0 0,.slice (some ⟨134876,0,(some 1)⟩) 1 1,.slice (some ⟨134951,0,(some 1)⟩) 1 1]⟩ 160
def aRP:Obj:=.cells ⟨[s0,.slice (some ⟨139476,0,(some 1)⟩) 0 0,.slice (some ⟨139486,0,(some 1)⟩) 1 1,.slice (some ⟨139561,0,(some 1)⟩) 1 1,s0,.slice (some ⟨139594,0,(some 1)⟩) 0 0,.slice (some ⟨139604,0,(some 1)⟩) 1 1,.slice (some ⟨139679,0,(some 1)⟩) 1 1]⟩ 160
def aRQ:Obj:=.cells ⟨[s0,.slice (some ⟨130285,0,(some 1)⟩) 1 1,.slice (some ⟨130293,0,(some 1)⟩) 1 1,.slice (some ⟨139752,0,(some 260)⟩) 2 2,.slice (some ⟨139724,0,(some 1)⟩) 2 2,.int .i64 9,s0,j0,.bool true,j0,j0,j0,jm,j0,.bool false,j0]⟩ 98
def aRR:Obj:=.cells ⟨[jm,s0,.int .i64 1,.slice (some ⟨139664,0,(some 1)⟩) 0 0]⟩ 202
def aRS:Obj:=.cells ⟨[jm,s0,.int .i64 1,.slice (some ⟨134936,0,(some 1)⟩) 0 0]⟩ 202
def aRd:List Value:=[.agg ⟨[.slice (some ⟨3287,0,(some 1)⟩) 1 1,.slice (some ⟨5849,0,(some 1)⟩) 1 1,.slice (some ⟨5862,0,(some 1)⟩) 1 1,.slice (some ⟨120843,0,(some 260)⟩) 2 2]⟩,.int .i64 9]
def aRe:Value:=.tuple ⟨[.pointer (some ⟨130266,0,(some 0)⟩),j0]⟩
def aPg:Cp where
 f:=s7
 args:=aRd
 h:=kTb (kTb (kTb (kTb (kTl (kTb (kTr (kTr (kTr (kTl (kTr (kTl (kTr (kTr (kTr (kTf (.cells ⟨[]⟩ 5))))))))))) (kTb (kTl (kTl (kTl (kTl (kTr (kTr (kTl (kTr (kTr (kTf aQp)))))))))) (kTb (kTr (kTl (kTr (kTl (kTr (kTr (kTr (kTf vY)))))))) (kTl (kTr (kTr (kTl (kTr (kTl (kTr (kTr (kTf (.cells ⟨[]⟩ 5)))))))))))))) (kTb (kTb (kTb (kTl (kTr (kTr (kTr (kTl (kTr (kTl (kTr (kTr (kTf (.cells ⟨[]⟩ 3))))))))))) (kTr (kTr (kTl (kTr (kTl (kTr (kTr (kTr (kTf aCK)))))))))) (kTr (kTr (kTb (kTr (kTr (kTl (kTr (kTl (kTr (kTr (kTf aNM)))))))) (kTb (kTr (kTl (kTr (kTr (kTr (kTf (.cells ⟨[]⟩ 3))))))) (kTr (kTl (kTr (kTl (kTr (kTr (kTf aNN)))))))))))) (kTb (kTr (kTr (kTb (kTl (kTr (kTf kO2))) (kTl (kTr (kTl (kTr (kTr (kTr (kTf aCL)))))))))) (kTr (kTr (kTl (kTr (kTr (kTl (kTr (kTl (kTr (kTr (kTf aNO)))))))))))))) (kTb (kTl (kTr (kTr (kTr (kTr (kTl (kTr (kTl (kTr (kTr (kTr (kTf (.cells ⟨[]⟩ 3))))))))))))) (kTb (kTb (kTl (kTl (kTl (kTl (kTl (kTr (kTr (kTl (kTr (kTr (kTf aQG))))))))))) (kTl (kTl (kTr (kTr (kTr (kTl (kTf kO1)))))))) (kTr (kTr (kTl (kTr (kTr (kTf kO0))))))))) (kTb (kTb (kTr (kTr (kTr (kTr (kTr (kTf kO1)))))) (kTb (kTl (kTl (kTr (kTl (kTr (kTr (kTl (kTr (kTr (kTr (kTf kO1))))))))))) (kTl (kTr (kTr (kTl (kTr (kTr (kTl (kTf lM)))))))))) (kTb (kTr (kTb (kTl (kTl (kTr (kTr (kTr (kTl (kTr (kTl (kTr (kTr (kTf kO1))))))))))) (kTr (kTr (kTr (kTl (kTr (kTl (kTr (kTr (kTr (kTf fV)))))))))))) (kTr (kTr (kTr (kTl (kTr (kTl (kTl (kTf kO6))))))))))) (kTb (kTb (kTn (kTr (kTr (kTr (kTl (kTl (kTr (kTr (kTl (kTr (kTl (kTr (kTr (kTf (.cells ⟨[]⟩ 3)))))))))))))) kO2 (kTb (kTl (kTl (kTr (kTl (kTr (kTr (kTl (kTr (kTr (kTr (kTf kO1))))))))))) (kTb (kTl (kTr (kTl (kTr (kTf kO1))))) (kTl (kTr (kTr (kTr (kTr (kTl (kTr (kTr (kTr (kTf kO1))))))))))))) (kTb (kTb (kTr (kTr (kTl (kTl (kTr (kTr (kTl (kTr (kTl (kTr (kTr (kTf aNP)))))))))))) (kTb (kTr (kTl (kTl (kTr (kTr (kTl (kTr (kTl (kTr (kTr (kTf aNQ))))))))))) (kTr (kTl (kTl (kTr (kTr (kTl (kTr (kTl (kTr (kTr (kTf (.cells ⟨[]⟩ 3)))))))))))))) (kTl (kTb (kTr (kTl (kTl (kTr (kTr (kTl (kTr (kTl (kTr (kTr (kTf (.cells ⟨[]⟩ 5)))))))))))) (kTr (kTr (kTr (kTl (kTr (kTl (kTr (kTl (kTr (kTr (kTf vY))))))))))))))) (kTb (kTb (kTb (kTl (kTl (kTr (kTl (kTr (kTr (kTl (kTr (kTl (kTr (kTr (kTf fV)))))))))))) (kTl (kTr (kTl (kTl (kTr (kTr (kTl (kTr (kTr (kTr (kTf (.cells ⟨[]⟩ 5))))))))))))) (kTb (kTr (kTb (kTr (kTl (kTr (kTf kO3)))) (kTl (kTl (kTr (kTr (kTl (kTr (kTr (kTr (kTf aCM))))))))))) (kTb (kTr (kTl (kTb (kTr (kTr (kTl (kTr (kTr (kTr (kTf aCN))))))) (kTr (kTr (kTl (kTr (kTr (kTr (kTf aCO)))))))))) (kTr (kTl (kTl (kTr (kTr (kTl (kTr (kTr (kTr (kTf (.cells ⟨[]⟩ 3)))))))))))))) (kTl (kTb (kTr (kTr (kTr (kTl (kTr (kTr (kTl (kTf fV)))))))) (kTl (kTl (kTl (kTr (kTr (kTr (kTl (kTr (kTl (kTr (kTr (kTf kO1))))))))))))))))
 nx:=120869
 v:=aRe
 h':=kTb (kTb (kTb (kTb (kTl (kTb (kTr (kTr (kTr (kTl (kTr (kTl (kTr (kTr (kTr (kTf (.cells ⟨[]⟩ 5))))))))))) (kTb (kTb (kTl (kTl (kTl (kTr (kTr (kTl (kTr (kTr (kTf aQp))))))))) (kTr (kTl (kTl (kTl (kTl (kTr (kTl (kTl (kTl (kTf aRE))))))))))) (kTb (kTr (kTl (kTr (kTl (kTr (kTr (kTr (kTf vY)))))))) (kTl (kTr (kTr (kTl (kTr (kTl (kTr (kTr (kTf (.cells ⟨[]⟩ 5)))))))))))))) (kTb (kTb (kTb (kTl (kTr (kTr (kTr (kTl (kTr (kTl (kTr (kTr (kTf (.cells ⟨[]⟩ 3))))))))))) (kTr (kTr (kTl (kTr (kTl (kTr (kTr (kTr (kTf aCK)))))))))) (kTb (kTl (kTr (kTr (kTr (kTr (kTl (kTl (kTl (kTl (kTl (kTf aRF))))))))))) (kTr (kTb (kTr (kTr (kTl (kTr (kTl (kTr (kTr (kTf aNM)))))))) (kTb (kTr (kTl (kTr (kTr (kTr (kTf (.cells ⟨[]⟩ 3))))))) (kTr (kTl (kTr (kTl (kTr (kTr (kTf aNN)))))))))))) (kTb (kTr (kTr (kTb (kTl (kTr (kTf kO2))) (kTl (kTr (kTl (kTr (kTr (kTr (kTf aCL)))))))))) (kTr (kTr (kTl (kTr (kTr (kTl (kTr (kTl (kTr (kTr (kTf aNO)))))))))))))) (kTb (kTb (kTb (kTr (kTl (kTl (kTr (kTr (kTr (kTl (kTl (kTl (kTl (kTl (kTf vY)))))))))))) (kTr (kTr (kTr (kTl (kTr (kTl (kTr (kTr (kTr (kTf (.cells ⟨[]⟩ 3)))))))))))) (kTr (kTl (kTr (kTr (kTl (kTl (kTl (kTl (kTr (kTl (kTl (kTl (kTf aRG)))))))))))))) (kTb (kTb (kTl (kTl (kTl (kTl (kTl (kTr (kTr (kTl (kTr (kTr (kTf aQG))))))))))) (kTl (kTl (kTr (kTr (kTr (kTl (kTf kO1)))))))) (kTr (kTb (kTb (kTr (kTr (kTr (kTr (kTl (kTl (kTl (kTl (kTl (kTf aRH)))))))))) (kTl (kTl (kTl (kTl (kTl (kTr (kTl (kTl (kTl (kTf vY))))))))))) (kTl (kTr (kTr (kTf kO0))))))))) (kTb (kTb (kTr (kTr (kTb (kTr (kTl (kTr (kTr (kTr (kTl (kTl (kTl (kTl (kTl (kTf aRI))))))))))) (kTr (kTr (kTf kO1)))))) (kTb (kTb (kTl (kTr (kTl (kTr (kTr (kTl (kTr (kTr (kTr (kTf kO1)))))))))) (kTl (kTl (kTr (kTl (kTl (kTl (kTl (kTr (kTl (kTl (kTl (kTf aRJ))))))))))))) (kTl (kTr (kTr (kTl (kTr (kTr (kTl (kTf lM)))))))))) (kTb (kTr (kTb (kTl (kTl (kTr (kTr (kTr (kTl (kTr (kTl (kTr (kTr (kTf kO1))))))))))) (kTr (kTr (kTb (kTl (kTr (kTr (kTr (kTr (kTr (kTr (kTf fV)))))))) (kTl (kTr (kTl (kTr (kTr (kTr (kTf fV)))))))))))) (kTb (kTr (kTr (kTr (kTl (kTl (kTr (kTr (kTr (kTr (kTr (kTr (kTf lM)))))))))))) (kTr (kTr (kTl (kTr (kTl (kTl (kTf kO6))))))))))) (kTb (kTb (kTn (kTr (kTb (kTl (kTr (kTr (kTl (kTl (kTl (kTl (kTr (kTl (kTl (kTl (kTf (.cells ⟨[]⟩ 5))))))))))))) (kTr (kTb (kTl (kTr (kTr (kTl (kTr (kTl (kTr (kTr (kTf (.cells ⟨[]⟩ 3)))))))))) (kTl (kTl (kTl (kTl (kTl (kTr (kTl (kTl (kTl (kTf aRK)))))))))))))) kO2 (kTb (kTb (kTl (kTr (kTl (kTr (kTr (kTl (kTr (kTr (kTr (kTf kO1)))))))))) (kTr (kTr (kTr (kTl (kTl (kTl (kTl (kTr (kTl (kTl (kTl (kTf aRL))))))))))))) (kTb (kTl (kTb (kTr (kTr (kTr (kTr (kTl (kTl (kTl (kTl (kTl (kTf (.cells ⟨[]⟩ 5))))))))))) (kTl (kTr (kTf kO1))))) (kTb (kTr (kTr (kTr (kTr (kTl (kTr (kTr (kTr (kTf kO1))))))))) (kTl (kTl (kTr (kTr (kTr (kTl (kTl (kTl (kTl (kTl (kTf aRM))))))))))))))) (kTb (kTb (kTr (kTr (kTl (kTl (kTr (kTr (kTl (kTr (kTl (kTr (kTr (kTf aNP)))))))))))) (kTb (kTr (kTb (kTb (kTr (kTr (kTl (kTr (kTl (kTr (kTr (kTf aNQ)))))))) (kTl (kTl (kTl (kTl (kTr (kTl (kTl (kTl (kTf kO1)))))))))) (kTl (kTl (kTl (kTl (kTl (kTr (kTl (kTl (kTl (kTf (.cells ⟨[]⟩ 3))))))))))))) (kTr (kTl (kTl (kTr (kTr (kTl (kTr (kTl (kTr (kTr (kTf (.cells ⟨[]⟩ 3)))))))))))))) (kTb (kTb (kTr (kTb (kTl (kTr (kTr (kTl (kTr (kTl (kTr (kTr (kTf (.cells ⟨[]⟩ 5)))))))))) (kTr (kTl (kTl (kTl (kTl (kTr (kTl (kTl (kTl (kTf aRN)))))))))))) (kTr (kTr (kTr (kTl (kTr (kTl (kTr (kTl (kTr (kTr (kTf vY)))))))))))) (kTl (kTr (kTb (kTl (kTr (kTr (kTr (kTl (kTl (kTl (kTl (kTl (kTf (.cells ⟨[]⟩ 3))))))))))) (kTl (kTr (kTr (kTr (kTl (kTl (kTl (kTl (kTl (kTf kO1)))))))))))))))) (kTb (kTb (kTb (kTb (kTl (kTr (kTl (kTr (kTr (kTl (kTr (kTl (kTr (kTr (kTf fV))))))))))) (kTl (kTr (kTl (kTr (kTr (kTr (kTl (kTl (kTl (kTl (kTl (kTf (.cells ⟨[]⟩ 5)))))))))))))) (kTb (kTr (kTb (kTl (kTr (kTr (kTl (kTr (kTr (kTr (kTf (.cells ⟨[]⟩ 5))))))))) (kTl (kTr (kTr (kTr (kTl (kTl (kTl (kTl (kTl (kTf (.cells ⟨[]⟩ 3))))))))))))) (kTl (kTl (kTr (kTr (kTr (kTr (kTl (kTl (kTl (kTl (kTl (kTf aRO)))))))))))))) (kTb (kTb (kTr (kTl (kTr (kTl (kTl (kTl (kTl (kTr (kTl (kTl (kTl (kTf (.cells ⟨[]⟩ 3))))))))))))) (kTb (kTr (kTb (kTr (kTf kO3)) (kTl (kTl (kTl (kTl (kTr (kTl (kTl (kTl (kTf aRP))))))))))) (kTl (kTl (kTr (kTr (kTl (kTr (kTr (kTr (kTf aCM))))))))))) (kTb (kTb (kTl (kTr (kTl (kTl (kTl (kTl (kTr (kTl (kTl (kTl (kTf (.cells ⟨[]⟩ 5)))))))))))) (kTb (kTb (kTr (kTr (kTl (kTr (kTr (kTr (kTf aCN))))))) (kTr (kTr (kTl (kTr (kTr (kTr (kTf aCO)))))))) (kTl (kTl (kTr (kTr (kTr (kTr (kTr (kTr (kTf aRQ))))))))))) (kTr (kTl (kTl (kTr (kTr (kTl (kTr (kTr (kTr (kTf (.cells ⟨[]⟩ 3)))))))))))))) (kTb (kTb (kTr (kTr (kTb (kTb (kTr (kTr (kTr (kTl (kTl (kTl (kTl (kTl (kTf fV))))))))) (kTl (kTl (kTl (kTl (kTr (kTl (kTl (kTl (kTf aRR)))))))))) (kTb (kTr (kTr (kTl (kTf fV)))) (kTl (kTl (kTl (kTl (kTr (kTl (kTl (kTl (kTf kO1))))))))))))) (kTl (kTl (kTl (kTr (kTr (kTr (kTl (kTr (kTl (kTr (kTr (kTf kO1))))))))))))) (kTb (kTr (kTr (kTb (kTr (kTr (kTr (kTr (kTl (kTl (kTl (kTl (kTl (kTf kO1)))))))))) (kTl (kTr (kTr (kTr (kTl (kTl (kTl (kTl (kTl (kTf aRS))))))))))))) (kTl (kTr (kTr (kTl (kTl (kTl (kTl (kTl (kTr (kTl (kTl (kTl (kTf fV)))))))))))))))))
 nx':=139759
theorem aMo:sJ Tryz.prog aPg:=tX kX (l:=[sR,aMn]) (bD jG (bD aHz kW)) (k:=200) fun ro=>by kernel_rfl
end V
end Go.Proofs.YtcaccnneblghgaaGreat
namespace Go.Proofs.YtcaccnneblghgaaGreat
namespace V
set_option maxRecDepth 1000000 in
theorem aMM:Orc Tryz.prog uY (.bool true):=aPC okZ okN okM kX (l:=[sR,aMn,aPg]) (bD jG (bD aHz (bD aMo kW))) (k:=200) rfl (by kernel_rfl) fun ro=>by kernel_rfl
theorem aPL {ro:Ro}{h:T Obj}{nx:Nat}{K:KV} (hK:K (.bool true) h nx):aN Tryz.prog ro uY [] h nx K:=aL7 aMM hK
end V
end Go.Proofs.YtcaccnneblghgaaGreat
namespace Go.Proofs.YtcaccnneblghgaaGreat
namespace V
attribute [local irreducible] rJ aN aB
end V
end Go.Proofs.YtcaccnneblghgaaGreat
namespace Go.Proofs.YtcaccnneblghgaaGreat
namespace V
attribute [local irreducible] aB ifP aQ cV eS exP cP
theorem aPD {ro:Ro}{h:T Obj}{v:Value}{ls:List (List Nat)} (hv:SlR ro h v 1 (aKe ro h) ls):SlR ro h v 1 (RB ro h) ls∧(∀ b∈ls,b.length≤kQ)∧∀ b∈ls,∀ x∈b,x < 256:=by
 refine⟨hv.imp fun x d ⟨w,h1,h2,h3⟩=>⟨w,h1,(aOH h2).1⟩,fun b hb=>?_,fun b hb=>?_⟩
 ·obtain⟨i,hi⟩:=List.getElem?_of_mem hb
  obtain⟨hl,rfl⟩:=List.getElem?_eq_some_iff.1 hi
  obtain⟨w,⟨w',_,_,h3⟩,_⟩:=hv.at1 hl
  exact h3
 ·obtain⟨i,hi⟩:=List.getElem?_of_mem hb
  obtain⟨hl,rfl⟩:=List.getElem?_eq_some_iff.1 hi
  obtain⟨w,⟨w',_,h2,_⟩,_⟩:=hv.at1 hl
  exact (aOH h2).2
section
variable {T:TabD}
theorem aCl (hT:TabR T):∀ (l:List (List Nat)) (s:ScD),ScI T s→s.closed=false→(∀ b∈l,∀ x∈b,x < 256)→s.at_+s.took≤s.steps→(cM T s l).2.at_+(cM T s l).2.took≤(cM T s l).2.steps
 | [],s,_,_,_,h=>h
 | b::l,s,hI,hcl,hb,h=>by
  obtain⟨h1,h2,_,_⟩:=aCH hT hI hcl b (hb b (by simp))
  exact aCl hT l _ h1 h2 (fun c hc=>hb c (by simp[hc])) (aEy hT _ _ (aKg hI (hb b (by simp))) h)
theorem aOY (hT:TabR T) {l:List (List Nat)} (hb:∀ b∈l,∀ x∈b,x < 256):(uQ T (gB T) l).2.kept=[]∧(uQ T (gB T) l).2.at_=l.flatten.length∧l.flatten.length≤(uQ T (gB T) l).2.steps:=by
 have hI:=aIc hT
 obtain⟨k1,k2,k3,k4⟩:=s3 hT l (gB T) hI rfl hb
 have hs:=aCl hT l (gB T) hI rfl hb (Nat.le_refl _)
 obtain⟨c1,c2⟩:=aJg hT.tok k1.ok k1.c
 have k3:(cM T (gB T) l).2.at_+(cM T (gB T) l).2.kept.length=l.flatten.length:=by
  rw[k3]; show 0+0+_=_; omega
 have hst:=aEy hT (cM T (gB T) l).2.kept.length { (cM T (gB T) l).2 with closed:=true } (aBU k1) hs
 have hst:(iB T (cM T (gB T) l).2).2.at_+(iB T (cM T (gB T) l).2).2.took≤(iB T (cM T (gB T) l).2).2.steps:=hst
 rw[sE]
 refine⟨c1,by rw[c2,k3],?_⟩
 show _≤(iB T (cM T (gB T) l).2).2.steps
 omega
end
theorem aOZ {T:TabD} (hT:TabR T) {l:List (List Nat)} (hb:∀ b∈l,∀ x∈b,x < 256):(uQ T (gB T) l).1.length≤l.flatten.length:=by
 obtain⟨k1,k2,k3,k4⟩:=s3 hT l (gB T) (aIc hT) rfl hb
 have hcc:=xI hT (cM T (gB T) l).2.kept.length { (cM T (gB T) l).2 with closed:=true } (aBU k1)
 have hcc:(iB T (cM T (gB T) l).2).1.length+(iB T (cM T (gB T) l).2).2.kept.length≤(cM T (gB T) l).2.kept.length:=hcc
 have k4:(cM T (gB T) l).1.length+(cM T (gB T) l).2.kept.length≤0+l.flatten.length:=k4
 rw[sE]
 show ((cM T (gB T) l).1++(iB T (cM T (gB T) l).2).1).length≤_
 rw[List.length_append]
 omega
section
variable {ro:Ro}{h:T Obj}{nx:Nat}{K:KV}
end
end V
end Go.Proofs.YtcaccnneblghgaaGreat
namespace Go.Proofs.YtcaccnneblghgaaGreat
namespace V
theorem aP5 {m:MacD}{B:Nat} (h:WLe B m.rs) (hl:m.rs.length≤512):oF m≤m.steps+B*512:=by
 have h1:=aK5 (l:=m.rs.map (·.2)) (B:=B) fun x hx=>by
  obtain⟨r,hr,rfl⟩:=List.mem_map.1 hx
  exact h r hr
 rw[List.length_map] at h1
 have:=Nat.mul_le_mul_left B hl
 unfold oF
 omega
section
variable {T:TabD}
def wkS (s:ScD):Nat:=(s.ms.map oF).sum
end
end V
end Go.Proofs.YtcaccnneblghgaaGreat
namespace Go.Proofs.YtcaccnneblghgaaGreat
namespace V
attribute [local irreducible] aB ifP aQ cV eS exP cP
theorem aMR {l:List MacD}{i:Nat} (hi:i < l.length):((l.take (i+1)).map oF).sum=((l.take i).map oF).sum+oF l[i]:=by
 rw[List.take_succ_eq_append_getElem hi,List.map_append,List.sum_append]; simp
section
variable {ro:Ro}{h:T Obj}{nx:Nat}{K:KV}{X:List Nat}{p:Nat}{qs:List MqD}{T:TabD}{most er_:Int}{s:ScD}
theorem aG0 {B:Nat}:∀ {l:List MacD},(∀ m∈l,oF m≤B)→(l.map oF).sum≤l.length*B
 | [],_=>by simp
 | m::l,h=>by
  have h1:=h m (by simp)
  have h2:=aG0 (l:=l) fun x hx=>h x (by simp[hx])
  rw[List.map_cons,List.sum_cons,List.length_cons,Nat.succ_mul]
  omega
set_option maxRecDepth 8000 in
set_option maxHeartbeats 1000000 in
theorem aDJ (hm:ScX ro h X p qs T most er_ s) (hT:TabR T) (hI:ScI T s) (hTl:T.entries.length≤1000) (hsz:s.steps≤90000) (hK:∀ nx',nx≤nx'→K (.int .i64 (wkS s:Nat)) h nx'):aN Tryz.prog ro kA [ptr p] h nx K:=by
 obtain⟨kv,tv,ev,mv,bv,hv⟩:=id hm
 have hv:ScV ro h X p qs T most er_ kv tv ev mv bv s:=hv
 have g1:=hv.1
 have hml:=hI.ok.len
 have hmv:Sl ro h mv 1 (rG qs):=hv.2.2.2.2.1.sub (eT h X)
 have hql:qs.length=T.entries.length:=by have:=hv.2.2.2.2.2.2.1.lq; rw[List.length_map] at this; exact this
 have hwb:∀ m∈s.ms,oF m≤1000000000:=fun m hm9=>by
  obtain⟨i,hi⟩:=List.getElem?_of_mem hm9
  have hil:=(List.getElem?_eq_some_iff.1 hi).1
  have he:T.entries[i]?=some T.entries[i]:=List.getElem?_eq_getElem (by omega)
  obtain⟨m1,m2,m3⟩:=hI.ms i _ m he hi
  have hC:=(fJ (hT.ok _ (List.getElem_mem (show i < T.entries.length by omega)))).2.1
  have:=aP5 m2 (by rw[m1.2]; exact hC)
  have:10*s.steps*512≤10*90000*512:=Nat.mul_le_mul_right _ (by omega)
  omega
 have hsum:∀ i,((s.ms.take i).map oF).sum≤1000000000000:=fun i=>by
  have h1:=aG0 (B:=1000000000) (l:=s.ms.take i) fun m hm9=>hwb m (List.mem_of_mem_take hm9)
  have h2:(s.ms.take i).length≤1000:=by rw[List.length_take]; omega
  have:(s.ms.take i).length*1000000000≤1000*1000000000:=Nat.mul_le_mul_right _ h2
  omega
 apply zQ
 unfold uN
 have l4:=aZ (ro:=ro) (z:=0) g1 (show (scL kv tv ev mv most bv s er_)[4]?=some mv from rfl)
 (repeat(first|refine aA (by simp (disch:=first|omega|exact nnN _|assumption) only [BB,B2,↓reduceIte,Nat.reduceLeDiff,Nat.reduceAdd,CC,aIe,a9,l4]<;>rfl) ?_|apply aD|apply aE|with_reducible first|apply aG|apply aF|apply aK|apply aH|apply aJ|apply aI|apply aL|apply aC))
 have hlen:=hmv.len
 rw[wA,hql] at hlen
 refine aA hlen ?_
 refine bA (fun j e h' nx'=>∃ i:Nat,i+j=T.entries.length∧nx≤nx'∧h'=h∧e 3=.int .i64 (((s.ms.take i).map oF).sum:Nat)∧e 11=mv∧e 12=.int .i64 T.entries.length∧e 13=.int .i64 i) ?_ (n:=T.entries.length) ⟨0,by omega,by omega,rfl,rfl,rfl,rfl,rfl⟩
 rintro j e h' nx' ⟨i,hj,hnx,rfl,e3,e11,e12,e13⟩ Q' hq hx
 unfold qO
 rw[e3,e11,e12,e13]
 refine cY (fun hk=>?_) (fun hk=>?_)
 ·have hk:i < T.entries.length:=by omega
  have hek:T.entries[i]?=some T.entries[i]:=List.getElem?_eq_getElem hk
  have hmi:i < s.ms.length:=by omega
  have hmk:s.ms[i]?=some s.ms[i]:=List.getElem?_eq_getElem hmi
  obtain⟨q,hq9,hMI,_⟩:=hv.at hek hmk
  obtain⟨m1,m2,m3⟩:=hI.ms i _ _ hek hmk
  have hC:(er T.entries[i].a).counts.length≤512:=(fJ (hT.ok _ (List.getElem_mem hk))).2.1
  have hql2:=(List.getElem?_eq_some_iff.1 hq9).1
  have hqe:=(List.getElem?_eq_some_iff.1 hq9).2
  have hld:=hmv.load1 (aGP hql2)
  rw[hqe] at hld
  have hst:=aMR hmi
  have hs1:=hsum (i+1)
  have hs0:=hsum i
  (repeat(first|refine zzB ?_|apply aD|apply aE|with_reducible first|apply aG|apply aF|apply aK|apply aH|apply aJ|apply aI|apply aL|apply aC))
  refine aA (hmv.ix .i64 (by rw[wA]; omega)) (aA hld ?_)
  refine aIL hMI (aG4 m1) hC m2 (by omega) (by omega) fun n2 hn2=>?_
  have hadd:aO .add (.int .i64 ((((s.ms.take i).map oF).sum:Nat):Int)) (.int .i64 ((oF s.ms[i]:Nat):Int))=some (.int .i64 ((((s.ms.take (i+1)).map oF).sum:Nat):Int)):=by
   rw[cX,hst,show ((((s.ms.take i).map oF).sum:Nat):Int)+((oF s.ms[i]:Nat):Int)=((((s.ms.take i).map oF).sum+oF s.ms[i]:Nat):Int) by omega,eM (by omega) (by omega)]
  refine aA hadd ?_
  (repeat(first|refine zzB ?_|apply aD|apply aE|with_reducible first|apply aG|apply aF|apply aK|apply aH|apply aJ|apply aI|apply aL|apply aC))
  exact hq (j - 1) _ _ _ _ (by omega) ⟨i+1,by omega,by omega,rfl,rfl,e11,e12,rfl⟩ (Sub.refl _)
 ·(repeat(first|refine zzB ?_|apply aD|apply aE|with_reducible first|apply aG|apply aF|apply aK|apply aH|apply aJ|apply aI|apply aL|apply aC))
  refine hx _ _ _ _ (fun e=>by cases e) (d5 (cR ?_))
  obtain rfl:i=T.entries.length:=by omega
  rw[List.take_of_length_le (by omega)] at e3
  have hfin:∀ (e':Env) n',e' 3=.int .i64 (wkS s:Nat)→nx'≤n'→jQ ro K e' h' n':=by
   intro e' n' d3 dn
   unfold jQ
   rw[d3]
   exact⟨h',Sub.refl _,hK _ (by omega)⟩
  refine hfin _ _ e3 ?_
  omega
end
end V
end Go.Proofs.YtcaccnneblghgaaGreat