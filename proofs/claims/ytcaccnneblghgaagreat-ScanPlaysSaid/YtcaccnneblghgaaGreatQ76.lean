/- Texts laid one behind the other: SV, SW, YA, S1, S3, S4, S5, GT, S2, S6, S7, S8, S9, T0, GF, U1, U2, TE, TW, U3, U4, U5, U6, T2, T3, U7, K1, K2.
   No condition. -/
import Derived.KernelRfl
import Derived.Test.YtcaccnneblghgaaGreatQ75
set_option linter.unusedVariables false
set_option linter.unusedSimpArgs false
namespace Go.Proofs.YtcaccnneblghgaaGreat
namespace V
attribute [local irreducible] aB bA aW dM eR gI dH
theorem v8:aCF={ data:=#[115,116,97,114,116] }:=by decide
theorem vY:(ByteArray.empty:ByteArray)={ data:=#[] }:=rfl
theorem aGv (seen:List ByteArray) (s:ByteArray) (r:List ByteArray):aAm seen (s::r)=(mF s&&!(seen.any fun t=>decide (s=t))&&aAm (seen++[s]) r):=rfl
section
variable {ro:Ro}{h:T Obj}{nx:Nat}{K:KV}
set_option maxRecDepth 8000 in
theorem aHs {x y:List Value}{T:TabD}{e:EntD}{i1:Nat} (hf:Fr h nx) (g1:h.get i1=some (.cells x.toArray d4)) (hd:aE2 ro h x T) (hk:T.kinds.length≤1000000) (he:qH ro h y e)
  (hK:∀ nx',nx≤nx'→K (.bool (!oQ T.kinds.length e)) h nx'):aO Tryz.prog ro yX [.agg y.toArray,ptr i1] h nx K:=by
 obtain⟨cv,kv,tv,ev,rfl,q1,q2,q3,q4,q5,q6,q7,q8⟩:=id hd
 apply aGb
 unfold aFL
 refine eZ hf (Nat.le_refl _) fun h1 hs1 hf1 g2 _=>?_
 have g2:h1.get nx=some (.cells y.toArray dX):=g2
 have m1:[cv,kv,tv,ev][1]?=some kv:=rfl
 have g1':=hs1 _ _ g1
 have klen:=(q2.sub hs1 fun _ _ h=>h).len
 refine aA (dW (ro:=ro) (z:=0) (n:=260) (l:=y) g2 he.len) ?_
 (repeat refine zzC ?_)
 refine aA (aV g1' m1) (aA klen ?_)
 refine aMl hk (hf1.mono (by omega)) (he.sub hs1 |> fun z=>z) fun n2 hn2=>?_
 cases hb:oQ T.kinds.length e with
 | true =>
  rw[hb] at hK
  (repeat refine zzC ?_)
  exact⟨h,hs1,hK _ (by omega)⟩
 | false =>
  rw[hb] at hK
  (repeat refine zzC ?_)
  exact⟨h,hs1,hK _ (by omega)⟩
set_option maxRecDepth 16000 in
set_option maxHeartbeats 4000000 in
theorem aKy {x:List Value}{T:TabD} (hf:Fr h nx) (hd:aE2 ro h x T) (hK:∀ nx',nx≤nx'→K (.bool (gC T)) h nx'):aO Tryz.prog ro aBZ [.agg x.toArray] h nx K:=by
 obtain⟨cv,kv,tv,ev,rfl,q1,q2,q3,q4,q5,q6,q7,q8⟩:=id hd
 have q5:T.conds.length≤9223372036854775807:=q5
 have q6:T.kinds.length≤9223372036854775807:=q6
 have q7:T.to.length≤9223372036854775807:=q7
 have q8:T.entries.length≤9223372036854775807:=q8
 apply aJZ
 unfold aI8
 refine eZ hf (Nat.le_refl _) fun h1 hs1 hf1 g1 _=>?_
 have g1:h1.get nx=some (.cells [cv,kv,tv,ev].toArray d4):=g1
 have l0:=aV (ro:=ro) (z:=0) g1 (show [cv,kv,tv,ev][0]?=some cv from rfl)
 have l1:=aV (ro:=ro) (z:=0) g1 (show [cv,kv,tv,ev][1]?=some kv from rfl)
 have l2:=aV (ro:=ro) (z:=0) g1 (show [cv,kv,tv,ev][2]?=some tv from rfl)
 have l3:=aV (ro:=ro) (z:=0) g1 (show [cv,kv,tv,ev][3]?=some ev from rfl)
 have q1':=q1.sub hs1 fun _ _ h=>h
 have q2':=q2.sub hs1 fun _ _ h=>h
 have q3':=q3.sub hs1
 have q4':=q4.sub hs1 (qH.sub hs1)
 have hd1:=hd.sub hs1
 have clen:=q1'.len
 have klen:=q2'.len
 have tlen:=q3'.len
 rw[fB] at tlen
 have elen:=q4'.len
 have hno:gC T=false→∀ n',nx≤n'→∃ h9,aZ h9 h1∧K (.bool false) h9 n':=fun hz n' hn=>⟨h,hs1,by rw[← hz]; exact hK _ hn⟩
 by_cases c1:1≤T.conds.length
 case neg =>
  (have zz:=And.intro l0 clen;repeat refine zzCz ?_)
  exact hno (by unfold gC; rw[decide_eq_false c1]; rfl) _ (by omega)
 by_cases c2:T.conds.length≤8
 case neg =>
  (have zz:=And.intro l0 clen;repeat refine zzCz ?_)
  exact hno (by unfold gC; rw[decide_eq_true c1,decide_eq_false c2]; rfl) _ (by omega)
 have hix0:=q1'.ix .i64 (i:=0) (by omega)
 have hz0:((0:Nat):Int)=0:=rfl
 rw[hz0] at hix0
 obtain⟨hld0,_⟩:=aAH.load q1' (i:=0) (by omega)
 have hsb:=aAD T.conds[0] aCF
 have hhd:T.conds.head?=some T.conds[0]:=by rw[List.head?_eq_getElem?,List.getElem?_eq_getElem (by omega)]
 rw[v8] at hsb
 by_cases c3:T.conds[0]=aCF
 case neg =>
  have c3':=c3
  rw[v8] at c3'
  rw[decide_eq_false c3',Bool.not_false] at hsb
  (have zz:=And.intro l0 (And.intro clen (And.intro hix0 (And.intro hld0 hsb)));repeat refine zzCz ?_)
  exact hno (by unfold gC; rw[decide_eq_true c1,decide_eq_true c2,hhd,decide_eq_false (fun e=>c3 (Option.some.inj e))]; rfl) _ (by omega)
 have c3':=c3
 rw[v8] at c3'
 rw[decide_eq_true c3',Bool.not_true] at hsb
 have hr3:decide (T.conds.head?=some aCF)=true:=decide_eq_true (by rw[hhd,c3])
 by_cases c4:T.kinds.length≤64
 case neg =>
  (have zz:=And.intro l0 (And.intro l1 (And.intro clen (And.intro klen (And.intro hix0 (And.intro hld0 hsb)))));repeat refine zzCz ?_)
  exact hno (by unfold gC; rw[decide_eq_true c1,decide_eq_true c2,hr3,decide_eq_false c4]; rfl) _ (by omega)
 by_cases c5:T.to.length=T.kinds.length
 case neg =>
  (have zz:=And.intro l0 (And.intro l1 (And.intro l2 (And.intro clen (And.intro klen (And.intro tlen (And.intro hix0 (And.intro hld0 hsb)))))));repeat refine zzCz ?_)
  exact hno (by unfold gC; rw[decide_eq_true c1,decide_eq_true c2,hr3,decide_eq_true c4,decide_eq_false c5]; rfl) _ (by omega)
 by_cases c6:T.entries.length=2*T.conds.length
 case neg =>
  (have zz:=And.intro l0 (And.intro l1 (And.intro l2 (And.intro l3 (And.intro clen (And.intro klen (And.intro tlen (And.intro elen (And.intro hix0 (And.intro hld0 hsb)))))))));repeat refine zzCz ?_)
  exact hno (by unfold gC; rw[decide_eq_true c1,decide_eq_true c2,hr3,decide_eq_true c4,decide_eq_true c5,decide_eq_false c6]; rfl) _ (by omega)
 have hrt:gC T=(aAm [] T.conds&&((List.zip T.kinds T.to).all (fun x=>lZ T.conds.length x.1 x.2)&&T.entries.all (oQ T.kinds.length))):=by
  unfold gC
  rw[decide_eq_true c1,decide_eq_true c2,hr3,decide_eq_true c4,decide_eq_true c5,decide_eq_true c6]; rfl
 (have zz:=And.intro l0 (And.intro l1 (And.intro l2 (And.intro l3 (And.intro clen (And.intro klen (And.intro tlen (And.intro elen (And.intro hix0 (And.intro hld0 hsb)))))))));repeat refine zzCz ?_)
 refine bM (fun j e h' nx'=>∃ (k:Nat),k+j=T.conds.length∧nx+1≤nx'∧h'=h1∧e 1=ptr nx∧e 50=cv∧e 51=.int .i64 T.conds.length∧e 52=.int .i64 k∧aAm [] T.conds=aAm (T.conds.take k) (T.conds.drop k)) ?_ (n:=T.conds.length)
  ⟨0,by omega,by omega,rfl,rfl,rfl,rfl,rfl,rfl⟩
 rintro j e h' nx' ⟨k,hj,hnx,rfl,e1,e50,e51,e52,hr⟩ Q' hq hx
 unfold aDr
 rw[e1,e50,e51,e52]
 refine dS (fun hk=>?_) (fun hk=>?_)
 ·have hk:k < T.conds.length:=by omega
  have hix:=q1'.ix .i64 hk
  obtain⟨hld,hsz⟩:=aAH.load q1' hk
  rw[cU hk,aGv] at hr
  have htk:T.conds.take (k+1)=T.conds.take k++[T.conds[k]]:=List.take_succ_eq_append_getElem hk
  have hfi:=aFK (q:=fun t=>decide (T.conds[k]=t)) (l:=T.conds) (k:=0) (i:=k) (by omega) (List.getElem?_eq_getElem hk) (decide_eq_true rfl)
  rw[← htk] at hr
  generalize T.conds[k]=s at hr hld hsz hfi
  have hsz:s.size≤9223372036854775807:=hsz
  (have zz:=And.intro hix hld;repeat refine zzCz ?_)
  refine aDD hsz fun n2 hn2=>?_
  cases hnm:mF s with
  | false =>
   rw[hnm] at hr
   (repeat refine zzC ?_)
   refine hx _ _ _ _ (fun e=>by cases e) (fP ?_)
   exact hno (by rw[hrt,hr]; rfl) _ (by omega)
  | true =>
   rw[hnm,Bool.true_and] at hr
   (have zz:=l0;repeat refine zzCz ?_)
   refine aH0 (by omega) q1' fun n3 hn3=>?_
   generalize sU (fun t=>decide (s=t)) 0 T.conds=fi at hfi
   cases hct:(T.conds.take k).any (fun t=>decide (s=t)) with
   | true =>
    rw[hct,Bool.not_true] at hfi hr
    have hfi:=of_decide_eq_false hfi
    (repeat refine zzC ?_)
    refine hx _ _ _ _ (fun e=>by cases e) (fP ?_)
    exact hno (by rw[hrt,hr]; rfl) _ (by omega)
   | false =>
    rw[hct,Bool.not_false] at hfi hr
    have hfi:=of_decide_eq_true hfi
    (repeat refine zzC ?_)
    exact hq (j - 1) _ _ _ _ (by omega) ⟨k+1,by omega,by omega,rfl,e1,e50,e51,rfl,hr⟩ (aZ.refl _)
 ·have hr1:aAm [] T.conds=true:=by rw[hr,List.drop_of_length_le (by omega)]; rfl
  rw[hr1,Bool.true_and] at hrt
  (repeat refine zzC ?_)
  refine hx _ _ _ _ (fun e=>by cases e) (eE (dG ?_))
  have hj1:∀ (ev1:dL) n',nx+1≤n'→ev1 1=ptr nx→vF ro K ev1 h' n':=by
   intro ev1 n' hn f1
   unfold vF
   rw[f1]
   (have zz:=And.intro l1 klen;repeat refine zzCz ?_)
   refine bM (fun j e h2 nx2=>∃ (k:Nat),k+j=T.kinds.length∧nx+1≤nx2∧h2=h'∧e 1=ptr nx∧e 70=kv∧e 71=.int .i64 T.kinds.length∧e 72=.int .i64 k∧(List.zip T.kinds T.to).all (fun x=>lZ T.conds.length x.1 x.2)=((List.zip T.kinds T.to).drop k).all (fun x=>lZ T.conds.length x.1 x.2)) ?_ (n:=T.kinds.length)
    ⟨0,by omega,by omega,rfl,f1,rfl,rfl,rfl,rfl⟩
   rintro j2 e2 h2 nx2 ⟨k2,hj2,hnx2,rfl,f1,f70,f71,f72,hr2⟩ Q2 hq2 hx2
   unfold aDq
   rw[f1,f70,f71,f72]
   refine dS (fun hk2=>?_) (fun hk2=>?_)
   ·have hk2:k2 < T.kinds.length:=by omega
    have hkt:k2 < T.to.length:=by omega
    have hix:=q2'.ix .i64 hk2
    obtain⟨hld,hsz⟩:=aAH.load q2' hk2
    have tix:=q3'.ix .i64 (i:=k2) (by rw[fB]; exact hkt)
    have tld:=q3'.load1 (j6 (l:=T.to) (i:=k2) hkt)
    have hzl:k2 < (List.zip T.kinds T.to).length:=by rw[List.length_zip]; omega
    rw[cU hzl,List.all_cons,List.getElem_zip] at hr2
    generalize T.kinds[k2]=s at hr2 hld hsz
    generalize T.to[k2]=t at hr2 tld
    have hsz:s.size≤9223372036854775807:=hsz
    have hse:=aAD s .empty
    rw[vY] at hse
    have hbad:lZ T.conds.length s t=false→∀ n',nx≤n'→∃ h9,aZ h9 h2∧K (.bool false) h9 n':=fun hz n' hn=>hno (by rw[hrt,hr2,hz]; rfl) n' hn
    have hgo:lZ T.conds.length s t=true→∀ (e9:dL) n9,nx+1≤n9→e9 1=ptr nx→e9 70=kv→e9 71=.int .i64 T.kinds.length→e9 72=.int .i64 ((k2:Int)+1)→Q2 .normal e9 h2 n9:=by
     intro hz e9 n9 hn9 u1 u70 u71 u72
     rw[hz,Bool.true_and] at hr2
     exact hq2 (j2 - 1) _ _ _ _ (by omega) ⟨k2+1,by omega,by omega,rfl,u1,u70,u71,u72,hr2⟩ (aZ.refl _)
    by_cases hs0:s=.empty
    ·have hs0':=hs0
     rw[vY] at hs0'
     rw[decide_eq_true hs0',Bool.not_true] at hse
     (have zz:=And.intro hix (And.intro hld hse);repeat refine zzCz ?_)
     by_cases d1:t < -1
     ·(have zz:=And.intro l2 (And.intro tix tld);repeat refine zzCz ?_)
      refine hx2 _ _ _ _ (fun e=>by cases e) (fP ?_)
      exact hbad (by unfold lZ; rw[decide_eq_false (show ¬-1≤t by omega)]; simp) _ (by omega)
     ·by_cases d2:(T.conds.length:Int)≤t
      ·(have zz:=And.intro l2 (And.intro tix (And.intro tld (And.intro l0 clen)));repeat refine zzCz ?_)
       refine hx2 _ _ _ _ (fun e=>by cases e) (fP ?_)
       exact hbad (by unfold lZ; rw[decide_eq_false (show ¬t < (T.conds.length:Int) by omega)]; simp) _ (by omega)
      ·(have zz:=And.intro l2 (And.intro tix (And.intro tld (And.intro l0 clen)));repeat refine zzCz ?_)
       exact hgo (by unfold lZ; rw[decide_eq_true hs0,decide_eq_true (show -1≤t by omega),decide_eq_true (show t < (T.conds.length:Int) by omega)]; simp) _ _ (by omega) f1 f70 f71 rfl
    ·have hs0':=hs0
     rw[vY] at hs0'
     rw[decide_eq_false hs0',Bool.not_false] at hse
     (have zz:=And.intro hix (And.intro hld hse);repeat refine zzCz ?_)
     refine aDD hsz fun n2 hn2=>?_
     cases hnm:mF s with
     | false =>
      (repeat refine zzC ?_)
      refine hx2 _ _ _ _ (fun e=>by cases e) (fP ?_)
      exact hbad (by unfold lZ; rw[decide_eq_false hs0,hnm]; rfl) _ (by omega)
     | true =>
      (repeat refine zzC ?_)
      by_cases d1:t < -1
      ·(have zz:=And.intro l2 (And.intro tix tld);repeat refine zzCz ?_)
       refine hx2 _ _ _ _ (fun e=>by cases e) (fP ?_)
       exact hbad (by unfold lZ; rw[decide_eq_false (show ¬-1≤t by omega)]; simp) _ (by omega)
      ·by_cases d2:(T.conds.length:Int)≤t
       ·(have zz:=And.intro l2 (And.intro tix (And.intro tld (And.intro l0 clen)));repeat refine zzCz ?_)
        refine hx2 _ _ _ _ (fun e=>by cases e) (fP ?_)
        exact hbad (by unfold lZ; rw[decide_eq_false (show ¬t < (T.conds.length:Int) by omega)]; simp) _ (by omega)
       ·(have zz:=And.intro l2 (And.intro tix (And.intro tld (And.intro l0 clen)));repeat refine zzCz ?_)
        exact hgo (by unfold lZ; rw[hnm,decide_eq_true (show -1≤t by omega),decide_eq_true (show t < (T.conds.length:Int) by omega)]; simp) _ _ (by omega) f1 f70 f71 rfl
   ·have hall:(List.zip T.kinds T.to).all (fun x=>lZ T.conds.length x.1 x.2)=true:=by rw[hr2,List.drop_of_length_le (by rw[List.length_zip]; omega)]; rfl
    rw[hall,Bool.true_and] at hrt
    (repeat refine zzC ?_)
    refine hx2 _ _ _ _ (fun e=>by cases e) (eE (dG ?_))
    have hj2:∀ (ev2:dL) n',nx+1≤n'→ev2 1=ptr nx→vG ro K ev2 h2 n':=by
     intro ev2 n' hn f1
     unfold vG
     rw[f1]
     (repeat refine zzC ?_)
     refine aA l3 ?_
     refine aBS (q:=fun e=>!oQ T.kinds.length e) (by omega) q4' (fun i hi y n9 K9 hy hn9 hk9=>?_) fun n9 hn9=>?_
     ·exact aHs (hf1.mono (by omega)) g1 hd1 (by omega) hy hk9
     ·have ha:=aJG (oQ T.kinds.length) T.entries
      rw[hrt,← ha] at hK
      (repeat refine zzC ?_)
      exact⟨h,hs1,hK _ (by omega)⟩
    exact hj2 _ _ (by omega) f1
  exact hj1 _ _ (by omega) e1
end
end V
end Go.Proofs.YtcaccnneblghgaaGreat
namespace Go.Proofs.YtcaccnneblghgaaGreat
namespace V
attribute [local irreducible] aB bA aW dM eR gI dH
section
variable {ro:Ro}{h:T Obj}{nx:Nat}{K:KV}
set_option maxRecDepth 16000 in
set_option maxHeartbeats 4000000 in
theorem aIJ {x:List Value}{T:TabD} (hf:Fr h nx) (hd:aE2 ro h x T) (hK:∀ nx',nx≤nx'→K (.bool (gC T)) h nx'):aO Tryz.prog ro y9 [.agg x.toArray] h nx K:=by
 obtain⟨cv,kv,tv,ev,rfl,q1,q2,q3,q4,q5,q6,q7,q8⟩:=id hd
 have q5:T.conds.length≤9223372036854775807:=q5
 have q6:T.kinds.length≤9223372036854775807:=q6
 have q7:T.to.length≤9223372036854775807:=q7
 have q8:T.entries.length≤9223372036854775807:=q8
 apply aHP
 unfold aF2
 refine eZ hf (Nat.le_refl _) fun h1 hs1 hf1 g1 _=>?_
 have g1:h1.get nx=some (.cells [cv,kv,tv,ev].toArray d4):=g1
 have l0:=aV (ro:=ro) (z:=0) g1 (show [cv,kv,tv,ev][0]?=some cv from rfl)
 have l1:=aV (ro:=ro) (z:=0) g1 (show [cv,kv,tv,ev][1]?=some kv from rfl)
 have l2:=aV (ro:=ro) (z:=0) g1 (show [cv,kv,tv,ev][2]?=some tv from rfl)
 have l3:=aV (ro:=ro) (z:=0) g1 (show [cv,kv,tv,ev][3]?=some ev from rfl)
 have q1':=q1.sub hs1 fun _ _ h=>h
 have q2':=q2.sub hs1 fun _ _ h=>h
 have q3':=q3.sub hs1
 have q4':=q4.sub hs1 (qH.sub hs1)
 have hd1:=hd.sub hs1
 have clen:=q1'.len
 have klen:=q2'.len
 have tlen:=q3'.len
 rw[fB] at tlen
 have elen:=q4'.len
 have hno:gC T=false→∀ n',nx≤n'→∃ h9,aZ h9 h1∧K (.bool false) h9 n':=fun hz n' hn=>⟨h,hs1,by rw[← hz]; exact hK _ hn⟩
 by_cases c1:1≤T.conds.length
 case neg =>
  (have zz:=And.intro l0 clen;repeat refine zzCz ?_)
  exact hno (by unfold gC; rw[decide_eq_false c1]; rfl) _ (by omega)
 by_cases c2:T.conds.length≤8
 case neg =>
  (have zz:=And.intro l0 clen;repeat refine zzCz ?_)
  exact hno (by unfold gC; rw[decide_eq_true c1,decide_eq_false c2]; rfl) _ (by omega)
 have hix0:=q1'.ix .i64 (i:=0) (by omega)
 have hz0:((0:Nat):Int)=0:=rfl
 rw[hz0] at hix0
 obtain⟨hld0,_⟩:=aAH.load q1' (i:=0) (by omega)
 have hsb:=aAD T.conds[0] aCF
 have hhd:T.conds.head?=some T.conds[0]:=by rw[List.head?_eq_getElem?,List.getElem?_eq_getElem (by omega)]
 rw[v8] at hsb
 by_cases c3:T.conds[0]=aCF
 case neg =>
  have c3':=c3
  rw[v8] at c3'
  rw[decide_eq_false c3',Bool.not_false] at hsb
  (have zz:=And.intro l0 (And.intro clen (And.intro hix0 (And.intro hld0 hsb)));repeat refine zzCz ?_)
  exact hno (by unfold gC; rw[decide_eq_true c1,decide_eq_true c2,hhd,decide_eq_false (fun e=>c3 (Option.some.inj e))]; rfl) _ (by omega)
 have c3':=c3
 rw[v8] at c3'
 rw[decide_eq_true c3',Bool.not_true] at hsb
 have hr3:decide (T.conds.head?=some aCF)=true:=decide_eq_true (by rw[hhd,c3])
 by_cases c4:T.kinds.length≤64
 case neg =>
  (have zz:=And.intro l0 (And.intro l1 (And.intro clen (And.intro klen (And.intro hix0 (And.intro hld0 hsb)))));repeat refine zzCz ?_)
  exact hno (by unfold gC; rw[decide_eq_true c1,decide_eq_true c2,hr3,decide_eq_false c4]; rfl) _ (by omega)
 by_cases c5:T.to.length=T.kinds.length
 case neg =>
  (have zz:=And.intro l0 (And.intro l1 (And.intro l2 (And.intro clen (And.intro klen (And.intro tlen (And.intro hix0 (And.intro hld0 hsb)))))));repeat refine zzCz ?_)
  exact hno (by unfold gC; rw[decide_eq_true c1,decide_eq_true c2,hr3,decide_eq_true c4,decide_eq_false c5]; rfl) _ (by omega)
 by_cases c6:T.entries.length=2*T.conds.length
 case neg =>
  (have zz:=And.intro l0 (And.intro l1 (And.intro l2 (And.intro l3 (And.intro clen (And.intro klen (And.intro tlen (And.intro elen (And.intro hix0 (And.intro hld0 hsb)))))))));repeat refine zzCz ?_)
  exact hno (by unfold gC; rw[decide_eq_true c1,decide_eq_true c2,hr3,decide_eq_true c4,decide_eq_true c5,decide_eq_false c6]; rfl) _ (by omega)
 have hrt:gC T=(aAm [] T.conds&&((List.zip T.kinds T.to).all (fun x=>lZ T.conds.length x.1 x.2)&&T.entries.all (oQ T.kinds.length))):=by
  unfold gC
  rw[decide_eq_true c1,decide_eq_true c2,hr3,decide_eq_true c4,decide_eq_true c5,decide_eq_true c6]; rfl
 (have zz:=And.intro l0 (And.intro l1 (And.intro l2 (And.intro l3 (And.intro clen (And.intro klen (And.intro tlen (And.intro elen (And.intro hix0 (And.intro hld0 hsb)))))))));repeat refine zzCz ?_)
 refine bM (fun j e h' nx'=>∃ (k:Nat),k+j=T.conds.length∧nx+1≤nx'∧h'=h1∧e 1=ptr nx∧e 3=.int .i64 k∧aAm [] T.conds=aAm (T.conds.take k) (T.conds.drop k)) ?_ (n:=T.conds.length)
  ⟨0,by omega,by omega,rfl,rfl,rfl,rfl⟩
 rintro j e h' nx' ⟨k,hj,hnx,rfl,e1,e3,hr⟩ Q' hq hx
 unfold aBs
 rw[e1,e3]
 (have zz:=And.intro l0 clen;repeat refine zzCz ?_)
 refine dS (fun hk=>?_) (fun hk=>?_)
 ·have hk:k < T.conds.length:=by omega
  have hix:=q1'.ix .i64 hk
  obtain⟨hld,hsz⟩:=aAH.load q1' hk
  rw[cU hk,aGv] at hr
  have htk:T.conds.take (k+1)=T.conds.take k++[T.conds[k]]:=List.take_succ_eq_append_getElem hk
  rw[← htk] at hr
  generalize hsk:T.conds[k]=s at hr hld hsz
  have hsz:s.size≤9223372036854775807:=hsz
  (have zz:=And.intro l0 (And.intro hix hld);repeat refine zzCz ?_)
  refine aEK hsz fun n2 hn2=>?_
  cases hnm:mF s with
  | false =>
   rw[hnm] at hr
   (repeat refine zzC ?_)
   refine hx _ _ _ _ (fun e=>by cases e) (fP ?_)
   exact hno (by rw[hrt,hr]; rfl) _ (by omega)
  | true =>
   rw[hnm,Bool.true_and] at hr
   (repeat refine zzC ?_)
   generalize hBq:(T.conds.take k).any (fun t=>decide (s=t))=Bq at hr
   refine bM (fun j3 e9 h3 nx3=>∃ (m:Nat),m+j3=k∧nx+1≤nx3∧h3=h'∧e9 1=ptr nx∧e9 3=.int .i64 k∧e9 4=.int .i64 m∧((T.conds.take k).drop m).any (fun t=>decide (s=t))=Bq) ?_ (n:=k)
    ⟨0,by omega,by omega,rfl,e1,e3,rfl,hBq⟩
   rintro j3 e9 h3 nx3 ⟨m,hj3,hnx3,rfl,f1,f3,f4,hr3⟩ Q3 hq3 hx3
   unfold aBt
   rw[f1,f3,f4]
   refine dS (fun hm=>?_) (fun hm=>?_)
   ·have hm:m < k:=by omega
    have hmc:m < T.conds.length:=by omega
    have hixm:=q1'.ix .i64 hmc
    obtain⟨hldm,_⟩:=aAH.load q1' hmc
    have hmt:m < (T.conds.take k).length:=by rw[List.length_take]; omega
    rw[cU hmt,List.any_cons,List.getElem_take] at hr3
    generalize T.conds[m]=t at hr3 hldm
    have hse:=aMV t s
    by_cases hts:s=t
    ·rw[decide_eq_true hts,Bool.true_or] at hr3
     rw[decide_eq_true hts.symm] at hse
     (have zz:=And.intro l0 (And.intro hix (And.intro hld (And.intro hixm (And.intro hldm hse))));repeat refine zzCz ?_)
     refine hx3 _ _ _ _ (fun e=>by cases e) (fP ?_)
     refine hx _ _ _ _ (fun e=>by cases e) (fP ?_)
     exact hno (by rw[hrt,hr,← hr3]; rfl) _ (by omega)
    ·rw[decide_eq_false hts,Bool.false_or] at hr3
     rw[decide_eq_false (fun e=>hts e.symm)] at hse
     (have zz:=And.intro l0 (And.intro hix (And.intro hld (And.intro hixm (And.intro hldm hse))));repeat refine zzCz ?_)
     exact hq3 (j3 - 1) _ _ _ _ (by omega) ⟨m+1,by omega,by omega,rfl,f1,f3,rfl,hr3⟩ (aZ.refl _)
   ·have hb:Bq=false:=by rw[← hr3,List.drop_of_length_le (by rw[List.length_take]; omega)]; rfl
    rw[hb,Bool.not_false,Bool.true_and] at hr
    (repeat refine zzC ?_)
    refine hx3 _ _ _ _ (fun e=>by cases e) (eE (dG ?_))
    have hj4:∀ (e9:dL) n9,nx+1≤n9→e9 1=ptr nx→e9 3=.int .i64 k→o9 ro Q' e9 h3 n9:=by
     intro e9 n9 hn9 f1 f3
     unfold o9
     rw[f3]
     (repeat refine zzC ?_)
     exact hq (j - 1) _ _ _ _ (by omega) ⟨k+1,by omega,by omega,rfl,f1,rfl,hr⟩ (aZ.refl _)
    exact hj4 _ _ (by omega) f1 f3
 ·have hr1:aAm [] T.conds=true:=by rw[hr,List.drop_of_length_le (by omega)]; rfl
  rw[hr1,Bool.true_and] at hrt
  (repeat refine zzC ?_)
  refine hx _ _ _ _ (fun e=>by cases e) (eE (dG ?_))
  have hj1:∀ (ev1:dL) n',nx+1≤n'→ev1 1=ptr nx→sB ro K ev1 h' n':=by
   intro ev1 n' hn f1
   unfold sB
   refine bM (fun j e h2 nx2=>∃ (k:Nat),k+j=T.kinds.length∧nx+1≤nx2∧h2=h'∧e 1=ptr nx∧e 5=.int .i64 k∧(List.zip T.kinds T.to).all (fun x=>lZ T.conds.length x.1 x.2)=((List.zip T.kinds T.to).drop k).all (fun x=>lZ T.conds.length x.1 x.2)) ?_ (n:=T.kinds.length)
    ⟨0,by omega,by omega,rfl,f1,rfl,rfl⟩
   rintro j2 e2 h2 nx2 ⟨k2,hj2,hnx2,rfl,f1,f5,hr2⟩ Q2 hq2 hx2
   unfold aBr
   rw[f1,f5]
   (have zz:=And.intro l1 klen;repeat refine zzCz ?_)
   refine dS (fun hk2=>?_) (fun hk2=>?_)
   ·have hk2:k2 < T.kinds.length:=by omega
    have hkt:k2 < T.to.length:=by omega
    have hix:=q2'.ix .i64 hk2
    obtain⟨hld,hsz⟩:=aAH.load q2' hk2
    have tix:=q3'.ix .i64 (i:=k2) (by rw[fB]; exact hkt)
    have tld:=q3'.load1 (j6 (l:=T.to) (i:=k2) hkt)
    have hzl:k2 < (List.zip T.kinds T.to).length:=by rw[List.length_zip]; omega
    rw[cU hzl,List.all_cons,List.getElem_zip] at hr2
    generalize T.kinds[k2]=s at hr2 hld hsz
    generalize T.to[k2]=t at hr2 tld
    have hsz:s.size≤9223372036854775807:=hsz
    have hse:=aAD s .empty
    rw[vY] at hse
    have hbad:lZ T.conds.length s t=false→∀ n',nx≤n'→∃ h9,aZ h9 h2∧K (.bool false) h9 n':=fun hz n' hn=>hno (by rw[hrt,hr2,hz]; rfl) n' hn
    have hgo:lZ T.conds.length s t=true→∀ (e9:dL) n9,nx+1≤n9→e9 1=ptr nx→e9 5=.int .i64 ((k2:Int)+1)→Q2 .normal e9 h2 n9:=by
     intro hz e9 n9 hn9 u1 u72
     rw[hz,Bool.true_and] at hr2
     exact hq2 (j2 - 1) _ _ _ _ (by omega) ⟨k2+1,by omega,by omega,rfl,u1,u72,hr2⟩ (aZ.refl _)
    by_cases hs0:s=.empty
    ·have hs0':=hs0
     rw[vY] at hs0'
     rw[decide_eq_true hs0',Bool.not_true] at hse
     (have zz:=And.intro l1 (And.intro hix (And.intro hld hse));repeat refine zzCz ?_)
     by_cases d1:t < -1
     ·(have zz:=And.intro l2 (And.intro tix tld);repeat refine zzCz ?_)
      refine hx2 _ _ _ _ (fun e=>by cases e) (fP ?_)
      exact hbad (by unfold lZ; rw[decide_eq_false (show ¬-1≤t by omega)]; simp) _ (by omega)
     ·by_cases d2:(T.conds.length:Int)≤t
      ·(have zz:=And.intro l2 (And.intro tix (And.intro tld (And.intro l0 clen)));repeat refine zzCz ?_)
       refine hx2 _ _ _ _ (fun e=>by cases e) (fP ?_)
       exact hbad (by unfold lZ; rw[decide_eq_false (show ¬t < (T.conds.length:Int) by omega)]; simp) _ (by omega)
      ·(have zz:=And.intro l2 (And.intro tix (And.intro tld (And.intro l0 clen)));repeat refine zzCz ?_)
       exact hgo (by unfold lZ; rw[decide_eq_true hs0,decide_eq_true (show -1≤t by omega),decide_eq_true (show t < (T.conds.length:Int) by omega)]; simp) _ _ (by omega) f1 rfl
    ·have hs0':=hs0
     rw[vY] at hs0'
     rw[decide_eq_false hs0',Bool.not_false] at hse
     (have zz:=And.intro l1 (And.intro hix (And.intro hld hse));repeat refine zzCz ?_)
     refine aEK hsz fun n2 hn2=>?_
     cases hnm:mF s with
     | false =>
      (repeat refine zzC ?_)
      refine hx2 _ _ _ _ (fun e=>by cases e) (fP ?_)
      exact hbad (by unfold lZ; rw[decide_eq_false hs0,hnm]; rfl) _ (by omega)
     | true =>
      (repeat refine zzC ?_)
      by_cases d1:t < -1
      ·(have zz:=And.intro l2 (And.intro tix tld);repeat refine zzCz ?_)
       refine hx2 _ _ _ _ (fun e=>by cases e) (fP ?_)
       exact hbad (by unfold lZ; rw[decide_eq_false (show ¬-1≤t by omega)]; simp) _ (by omega)
      ·by_cases d2:(T.conds.length:Int)≤t
       ·(have zz:=And.intro l2 (And.intro tix (And.intro tld (And.intro l0 clen)));repeat refine zzCz ?_)
        refine hx2 _ _ _ _ (fun e=>by cases e) (fP ?_)
        exact hbad (by unfold lZ; rw[decide_eq_false (show ¬t < (T.conds.length:Int) by omega)]; simp) _ (by omega)
       ·(have zz:=And.intro l2 (And.intro tix (And.intro tld (And.intro l0 clen)));repeat refine zzCz ?_)
        exact hgo (by unfold lZ; rw[hnm,decide_eq_true (show -1≤t by omega),decide_eq_true (show t < (T.conds.length:Int) by omega)]; simp) _ _ (by omega) f1 rfl
   ·have hall:(List.zip T.kinds T.to).all (fun x=>lZ T.conds.length x.1 x.2)=true:=by rw[hr2,List.drop_of_length_le (by rw[List.length_zip]; omega)]; rfl
    rw[hall,Bool.true_and] at hrt
    (repeat refine zzC ?_)
    refine hx2 _ _ _ _ (fun e=>by cases e) (eE (dG ?_))
    have hj2:∀ (ev2:dL) n',nx+1≤n'→ev2 1=ptr nx→sD ro K ev2 h2 n':=by
     intro ev2 n' hn f1
     unfold sD
     refine bM (fun j e h4 nx4=>∃ (k:Nat),k+j=T.entries.length∧nx+1≤nx4∧h4=h2∧e 1=ptr nx∧e 6=.int .i64 k∧T.entries.all (oQ T.kinds.length)=(T.entries.drop k).all (oQ T.kinds.length)) ?_ (n:=T.entries.length)
      ⟨0,by omega,by omega,rfl,f1,rfl,rfl⟩
     rintro j4 e4 h4 nx4 ⟨k4,hj4,hnx4,rfl,f1,f6,hr4⟩ Q4 hq4 hx4
     unfold aBq
     rw[f1,f6]
     (repeat refine zzC ?_)
     refine aA l3 (aA elen ?_)
     refine dS (fun hk4=>?_) (fun hk4=>?_)
     ·have hk4:k4 < T.entries.length:=by omega
      have eix:=q4'.ix .i64 hk4
      obtain⟨y,hy1,hy2,hy3,hy4,hy5⟩:=q4'.at hk4
      rw[cU hk4,List.all_cons] at hr4
      generalize T.entries[k4]=ee at hr4 hy1
      (have zz:=And.intro l3 (And.intro eix (And.intro hy3 (And.intro l1 klen)));repeat refine zzCz ?_)
      refine aJy (by omega) (hf1.mono (by omega)) hy1 fun n5 hn5=>?_
      cases hft:oQ T.kinds.length ee with
      | false =>
       rw[hft] at hr4
       (repeat refine zzC ?_)
       refine hx4 _ _ _ _ (fun e=>by cases e) (fP ?_)
       exact hno (by rw[hrt,hr4]; rfl) _ (by omega)
      | true =>
       rw[hft,Bool.true_and] at hr4
       (repeat refine zzC ?_)
       exact hq4 (j4 - 1) _ _ _ _ (by omega) ⟨k4+1,by omega,by omega,rfl,f1,rfl,hr4⟩ (aZ.refl _)
     ·have hb:gC T=true:=by rw[hrt,hr4,List.drop_of_length_le (by omega)]; rfl
      (repeat refine zzC ?_)
      refine hx4 _ _ _ _ (fun e=>by cases e) (eE (dG ?_))
      have hj3:∀ (e9:dL) n9,nx≤n9→sE ro K e9 h4 n9:=by
       intro e9 n9 hn9
       unfold sE
       refine⟨h,hs1,?_⟩
       rw[← hb]; exact hK _ (by omega)
      exact hj3 _ _ (by omega)
    exact hj2 _ _ (by omega) f1
  exact hj1 _ _ (by omega) e1
end
end V
end Go.Proofs.YtcaccnneblghgaaGreat
namespace Go.Proofs.YtcaccnneblghgaaGreat
namespace V
attribute [local irreducible] aB bA aW dM eR gI dH
def NI (RR:RgP) (tm tp te:TypeId) (hC:T Obj) (nC p:Nat) (c:List Nat) (many:Int) (cv sv:Value) (C:List (Int × Int)) (k:Nat) (h:T Obj) (nx:Nat) (ps:List (Nat × Nat)) (rv:Value):Prop :=
 h.get p=some (.cells (dV c many cv sv 0 rv 0).toArray tm)∧eD h rv 1 te (mJ ps) nC∧ps.length=k∧RsX RR h ps (C.take k) (List.replicate k noR)∧Dst ps∧(∀ q∈iD ps,nC≤q)∧aZ hC h∧Fr h nx∧Fr hC nC∧nC≤p∧nC≤nx
section
variable {RR:RgP}{tm tp ta te:TypeId}{ro:Ro}{hC h h':T Obj}{nC p nx n1 n2 k:Nat}{c:List Nat}{many:Int}{cv sv rv:Value}{C:List (Int × Int)}{ps:List (Nat × Nat)}
theorem NI.mono {n':Nat} (hi:NI RR tm tp te hC nC p c many cv sv C k h nx ps rv) (hn:nx≤n'):NI RR tm tp te hC nC p c many cv sv C k h n' ps rv:=by
 obtain⟨g1,g2,g3,g4,g5,g6,g7,g8,g9,g10,g11⟩:=hi
 exact⟨g1,g2,g3,g4,g5,g6,g7,g8.mono hn,g9,g10,by omega⟩
theorem NI.sub {n':Nat} (hk:RgOk RR tp ta) (hi:NI RR tm tp te hC nC p c many cv sv C k h nx ps rv) (hs:aZ h h') (hf:Fr h' n') (hn:nx≤n'):NI RR tm tp te hC nC p c many cv sv C k h' n' ps rv:=by
 obtain⟨g1,g2,g3,g4,g5,g6,g7,g8,g9,g10,g11⟩:=hi
 exact⟨hs _ _ g1,g2.keepS hs,g3,g4.sub hk hs,g5,g6,g7.trans hs,hf,g9,g10,by omega⟩
theorem NI.step {q:Nat × Nat}{cc:Int × Int}{rv2:Value}{lo:Nat} (hk:RgOk RR tp ta) (e1:tp≠te) (e2:ta≠te) (e3:tm≠tp) (e4:tm≠ta) (e5:tm≠te) (hi:NI RR tm tp te hC nC p c many cv sv C k h nx ps rv) (hcl:c.length=256) (hc:C[k]?=some cc) (hR:RR h q.1 q.2 cc.2.toNat [] 0) (hq1:∀ r∈ps,r.1 < q.1∧r.2 < q.2) (hq2:nC≤q.1∧nC≤q.2) (hn1:n1≠p∧(∀ r∈ps++[q],r.1≠n1∧r.2≠n1)∧nC≤n1)
  (ho:eD h' rv2 1 te (mJ ps++[[ptr q.1]]) nC) (hsb:jU rv2=some n2) (hn2:nx≤n2) (hg:∀ k o,h.get k=some o→k≠n1→jU rv≠some k→h'.get k=some o) (hf:Fr h' (n2+1)) :
  NI RR tm tp te hC nC p c many cv sv C (k+1) (h'.upd p (some (.cells (dV c many cv sv 0 rv2 0).toArray tm))) (n2+1) (ps++[q]) rv2:=by
 obtain⟨g1,g2,g3,g4,g5,g6,g7,g8,g9,g10,g11⟩:=hi
 have hp:=g8.lt' g1
 have hr:=g4.snoc hR (r:=noR)
 have hgk:∀ {k:Nat} {cs:Array Value} {e:TypeId},h.get k=some (.cells cs e)→e≠te→k≠n1→h'.get k=some (.cells cs e):=fun hk9 he hne=>hg _ _ hk9 hne (g2.ne hk9 he)
 have hgp:h'.get p=some (.cells (dV c many cv sv 0 rv 0).toArray tm):=hgk g1 e5 (Ne.symm hn1.1)
 have hty:=hr.ty hk
 refine⟨T.get_upd_same _ _ _,?_,by simp[g3],?_,g5.snoc fun r hr=>?_,fun k hk=>?_,fun k o hk=>?_,hf.upd (Nat.le_refl _) (by omega),g9,g10,by omega⟩
 ·rw[aNF]
  exact ho.keepK (ids:=[p]) (fun k o hk hn=>by rw[T.get_upd_ne _ _ (by simpa using hn)]; exact hk) fun id hid hm=>by rw[hsb] at hid; cases hid; simp at hm; omega
 ·rw[List.take_succ_eq_append_getElem (List.getElem?_eq_some_iff.1 hc).1,(List.getElem?_eq_some_iff.1 hc).2,List.replicate_succ']
  refine hr.keep hk fun r hr9=>?_
  obtain⟨⟨c1,t1⟩,c2,t2⟩:=hty r hr9
  rw[T.get_upd_ne _ _ (fun e=>by rw[e,g1] at t1; simp only[Option.some.injEq,Obj.cells.injEq] at t1; exact e3 t1.2.1),T.get_upd_ne _ _ (fun e=>by rw[e,g1] at t2; simp only[Option.some.injEq,Obj.cells.injEq] at t2; exact e4 t2.2.1),hgk t1 e1 (hn1.2.1 r hr9).1,hgk t2 e2 (hn1.2.1 r hr9).2,t1,t2]
  exact⟨rfl,rfl⟩
 ·have:=hq1 r hr; omega
 ·obtain⟨r,hr,h9⟩:=jN.1 hk
  rcases List.mem_append.1 hr with hr | hr
  ·exact g6 k (jN.2 ⟨r,hr,h9⟩)
  ·simp at hr; subst hr; omega
 ·have hlt:=g9.lt' hk
  have h9:=g7 k o hk
  rw[T.get_upd_ne _ _ (by omega)]
  refine hg k o h9 (by have:=hn1.2.2; omega) fun e=>?_
  have:=(g2.blk e).1
  omega
theorem NI.fin {d:AutoD} (hk:RgOk RR tp ta) (e1:tp≠te) (e2:ta≠te) (e5:tm≠te) {X0:List Nat} (hX0:∀ k∈X0,k < nC) (hi:NI RR tm tp te hC nC p d.c d.many cv sv d.counts d.counts.length h nx ps rv) (hA:sR ro (del hC X0) (eU d.c d.many cv sv) d):MX RR tm ro h (X0++(p::iD ps)) p ps d (aAw d):=by
 obtain⟨g1,g2,g3,g4,g5,g6,g7,g8,g9,g10,g11⟩:=hi
 have hX:∀ k∈p::iD ps,nC≤k:=fun k hk=>by
  rcases List.mem_cons.1 hk with rfl | hk
  ·exact g10
  ·exact g6 k hk
 have hrs:(aAw d).rs=List.replicate d.counts.length noR:=List.map_const' ..
 rw[List.take_length] at g4
 have hsub:aZ (del hC X0) (del h (X0++(p::iD ps))):=fun k o hk=>by
  rw[lD] at hk
  split at hk
  ·cases hk
  ·rename_i hn
   have:=g9.lt' hk
   exact jL (g7 k o hk) fun hm=>by
    rcases List.mem_append.1 hm with hm | hm
    ·exact hn hm
    ·have:=hX k hm; omega
 refine⟨cv,sv,rv,g1,hA.sub hsub,(g2.del fun id hid hm=>?_).sl,by rw[hrs]; exact g4,g5,List.mem_append.2 (.inr (List.mem_cons_self ..)),fun k hk=>List.mem_append.2 (.inr (List.mem_cons_of_mem _ hk))⟩
 rcases List.mem_append.1 hm with hm | hm
 ·have:=hX0 id hm; have:=(g2.blk hid).1; omega
 rcases List.mem_cons.1 hm with rfl | hm
 ·exact g2.ne g1 e5 hid
 ·obtain⟨r,hr,h9⟩:=jN.1 hm
  obtain⟨⟨c1,t1⟩,c2,t2⟩:=g4.ty hk r hr
  rcases h9 with rfl | rfl
  ·exact g2.ne t1 e1 hid
  ·exact g2.ne t2 e2 hid
end
section
variable {ro:Ro}{h:T Obj}{nx:Nat}{K:KV}{x:List Value}{d:AutoD}
theorem aGU (ha:fF d=true) {k:Nat} (hk:k < d.counts.length):1≤(d.counts[k]).2.toNat∧(d.counts[k]).2.toNat≤4096∧((d.counts[k]).2.toNat:Int)=(d.counts[k]).2:=by
 have:=(eV ha).2.2.2.2.1 _ (List.getElem_mem hk)
 omega
set_option maxRecDepth 8000 in
set_option maxHeartbeats 1000000 in
theorem aMj {X0:List Nat} (hf:Fr h nx) (hd:sR ro h x d) (hK0:fF d=false→∀ nx',nx≤nx'→K (.tuple #[.pointer none,.int .i64 1]) h nx')
  (hX0:∀ k∈X0,k < nx)
  (hK1:fF d=true→∀ p ps X h' nx',nx≤nx'→Fr h' nx'→aZ h h'→(∀ k∈X,nx≤k∧k < nx')→X=p::iD ps→MI ro h' (X0++X) p ps (er d) (aAw d)→K (.tuple #[ptr p,.int .i64 0]) h' nx'):aO Tryz.prog ro aDN [.agg x.toArray] h nx K:=by
 obtain⟨cv,sv,hxe,hc,hclt,hcv,hS,hb1,hb2⟩:=id hd
 have m7:=mQ (n:=d.many) (cv:=cv) (sv:=sv) hc
 apply aKo
 unfold aKn
 refine eZ hf (Nat.le_refl _) fun h1 hs1 hf1 g1 _=>?_
 have g1:h1.get nx=some (.cells x.toArray cD):=g1
 have hxl:x.length=259:=by rw[hxe]; exact d5 hc
 have LA:=dW (ro:=ro) (z:=0) (n:=259) (l:=x) g1 hxl
 refine aA LA ?_
 refine aDc (hf1.mono (by omega)) (hd.sub hs1) fun n1 hn1=>?_
 cases hok:fF d with
 | false =>
  (repeat refine zzC ?_)
  exact⟨h,hs1,hK0 hok _ (by omega)⟩
 | true =>
  have hfit:=aTJ hok hc
  have hC512:=(eV hok).2.1
  (repeat refine zzC ?_)
  refine aA LA ?_
  refine aHr (X0:=X0) (hf1.mono (by omega)) (fun k hk=>by have:=hX0 k hk; omega) (hd.sub hs1) hfit fun cv2 sv2 hC nC hnC hfC hsC hAC=>?_
  refine aA (aM6 hc) (aDV hfC (by omega) fun h2 hs2 hf2 g2 _=>?_)
  have g2:h2.get (nC+1)=some (.cells (dV d.c d.many cv2 sv2 0 dU 0).toArray cE):=g2
  have g12:=hs2 _ _ (hsC _ _ g1)
  have hcv2:=hcv.sub ((hs1.trans hsC).trans hs2) fun _ _ h=>h
  (repeat refine zzC ?_)
  refine aA (aV g12 (by rw[hxe]; exact m7)) ?_
  refine aA hcv2.len ?_
  have hNI0:NI RI cE cT nQ hC nC (nC+1) d.c d.many cv2 sv2 d.counts 0 h2 (nC+2) [] dU:=⟨g2,eD.nil,rfl,⟨rfl,rfl,fun i p c r hp=>by simp at hp⟩,Dst.nil,(fun q hq=>by simp[iD] at hq),hs2,hf2,hfC,by omega,by omega⟩
  refine bM (fun j e h' nx'=>∃ (k:Nat) (ps:List (Nat × Nat)) (rv:Value),k+j=d.counts.length∧nC+2≤nx'∧e 4=ptr (nC+1)∧e 17=cv∧e 18=.int .i64 d.counts.length∧e 19=.int .i64 k∧NI RI cE cT nQ hC nC (nC+1) d.c d.many cv2 sv2 d.counts k h' nx' ps rv) ?_ (n:=d.counts.length) ⟨0,[],dU,by omega,by omega,rfl,rfl,rfl,rfl,hNI0.mono (by omega)⟩
  rintro j e h' nx' ⟨k,ps,rv,hj,hnx,e4,e17,e18,e19,hi⟩ Q' hq hx
  have hfh:=hi.2.2.2.2.2.2.2.1
  have hsh:=hi.2.2.2.2.2.2.1
  unfold aFG
  rw[e4,e17,e18,e19]
  refine dS (fun hk=>?_) (fun hk=>?_)
  ·have hk:k < d.counts.length:=by omega
   obtain⟨b1,b2,b3⟩:=aGU hok hk
   have hcvh:=hcv.sub ((hs1.trans hsC).trans hsh) fun _ _ h=>h
   have hix:=hcvh.ix .i64 hk
   obtain⟨y,hy1,hy2,hy3,hy4,hy5⟩:=hcvh.at hk
   have hck:d.counts[k]?=some d.counts[k]:=List.getElem?_eq_getElem _
   generalize d.counts[k]=cc at b1 b2 b3 hy1 hck
   obtain rfl:y=[.int .i64 cc.1,.int .i64 cc.2]:=hy1
   (repeat refine zzC ?_)
   refine aA hix (aA hy3 ?_)
   refine jB (x:=[.int .i64 cc.1,.int .i64 cc.2]) aKQ rfl rfl rfl rfl hfh (by omega) fun h3 hs3 hf3 g3 _=>?_
   (have zz:=g3;repeat refine zzCz ?_)
   rw[← b3]
   refine aNP (hf3.mono (by omega)) b1 b2 fun p' a' h4 n4 hp' ha' hn4 hs4 hf4 hR4=>?_
   refine aA (aGs _ _) (aA (aGt _ _) ?_)
   have hi4:=hi.sub (n':=n4) lY (hs3.trans hs4) hf4 (by omega)
   have m0:=lB (n:=d.many) (cv:=cv2) (sv:=sv2) (cur:=0) (rv:=rv) (steps:=0) hc
   refine zX rfl ?_
   (have zz:=@aR;repeat refine zzCz ?_)
   refine aA (aV hi4.1 m0) ?_
   obtain⟨i,t1,t2,t3⟩:=aTX
   have hplen:ps.length≤1000000:=by have:=hi.2.2.1; omega
   refine yR (z:=1) (l:=mJ ps) (y:=[ptr p']) (aSx _ _) rfl hi4.2.1 aSP t1 (by omega) (by omega) aT6 rfl rfl (by rw[gN,t3]; unfold oG; omega) (by rw[gN]; unfold oG; omega) (hf4.mono (by omega)) (by omega) (by omega) (fun e=>by have:=hf4.lt' (hi4.2.1.blk e).2; omega) fun h5 ho5 hk5 hf5=>?_
   generalize hnv:Value.slice (some (own (n4+15) 1)) (mJ ps++[[ptr p']]).length (mJ ps++[[ptr p']]).length=rv2 at ho5
   have hsb:jU rv2=some (n4+15):=by rw[← hnv]; rfl
   have g5:=hk5 _ _ hi4.1 (by have:=hf4.lt' hi4.1; omega) (hi4.2.1.ne hi4.1 (by decide))
   have hlt4:=hi.2.2.2.1.lt lY hfh
   have hfin:=hi4.step (h':=h5) (q:=(p',a')) (cc:=cc) (rv2:=rv2) (n1:=n4+13) (n2:=n4+15) (lo:=nC) lY (by decide) (by decide) (by decide) (by decide) (by decide) hc hck hR4 (fun r hr=>by have:=hlt4 r hr; show r.1 < p'∧r.2 < a'; omega) (by show nC≤p'∧nC≤a'; omega) ⟨by have:=hf4.lt' hi4.1; omega,fun r hr=>by
    rcases List.mem_append.1 hr with hr | hr
    ·have:=hlt4 r hr; omega
    ·simp at hr; subst hr; have:=lY.p hR4; have:=lY.a hR4; obtain⟨c1,t8⟩:=lY.p hR4; obtain⟨c2,t9⟩:=lY.a hR4; have:=hf4.lt' t8; have:=hf4.lt' t9; show p'≠_∧a'≠_; omega,by omega⟩ ho5 hsb (by omega) hk5 hf5
   dsimp only
   (have zz:=@aR;repeat refine zzCz ?_)
   refine aA (bX g5 (by rw[pJ hc]; omega) ho5.ok (by rw[← hnv]; rfl)) ?_
   rw[aDy hc]
   (repeat refine zzC ?_)
   exact hq (j - 1) _ _ _ _ (by omega) ⟨k+1,ps++[(p',a')],rv2,by omega,by omega,e4,e17,e18,rfl,hfin.mono (by omega)⟩ (aZ.refl _)
  ·(repeat refine zzC ?_)
   refine hx _ _ _ _ (fun e=>by cases e) (eE (dG ?_))
   obtain rfl:k=d.counts.length:=by omega
   have hMX:=NI.fin (ro:=ro) (d:=er d) (X0:=X0) lY (by decide) (by decide) (by decide) (fun k hk=>by have:=hX0 k hk; omega) hi hAC
   have hend:∀ (e':dL) n',e' 4=ptr (nC+1)→nx'≤n'→x8 ro K e' h' n':=by
    intro e' n' f4 hn'
    unfold x8
    rw[f4]
    refine⟨h',aZ.refl _,hK1 hok _ ps _ h' _ (by omega) (hfh.mono (by omega)) ((hs1.trans hsC).trans hsh) (fun k hk=>?_) rfl hMX⟩
    have hlt9:=hMX.lt lY hfh
    rcases List.mem_cons.1 hk with rfl | hk
    ·have:=hlt9.1; omega
    ·have:=hi.2.2.2.2.2.1 k hk; have:=hlt9.2 k hk; omega
   exact hend _ _ e4 (by omega)
end
end V
end Go.Proofs.YtcaccnneblghgaaGreat
namespace Go.Proofs.YtcaccnneblghgaaGreat
namespace V
attribute [local irreducible] aB bA aW dM eR gI dH
theorem aQQ (id:Nat):b7 Tryz.prog lX id 0 []=some (.slice (some (own id 1)) 0 0,some (.cells #[] sQ)):=by kernel_rfl
theorem aRB:iM Tryz.prog lX=some (.slice sQ):=by kernel_rfl
theorem aSK:∃ i,tin Tryz.prog sQ=some i∧i.size=1∧i.bytes=16:=yP (by kernel_rfl)
theorem aSY:nF Tryz.prog sQ=some (.string .empty):=by kernel_rfl
theorem aPP:iM Tryz.prog kE=some (.slice j7):=by kernel_rfl
theorem aQs:∃ i,tin Tryz.prog j7=some i∧i.size=1∧i.bytes=8:=yP (by kernel_rfl)
theorem aRJ:nF Tryz.prog j7=some (.pointer none):=by kernel_rfl
theorem aQR (id p:Nat):b7 Tryz.prog kE id 1 [(0,ptr p)]=some (.slice (some (own id 1)) 1 1,some (.cells [ptr p].toArray j7)):=by kernel_rfl
theorem aQz:iM Tryz.prog jZ=some (.slice dX):=by kernel_rfl
theorem aSJ:∃ i,tin Tryz.prog dX=some i∧i.size=260∧i.bytes=336:=yP (by kernel_rfl)
theorem aOW (o:Option Addr) (l c:Nat):fG Tryz.prog dX [(1,.slice o l c)]=some (.agg (aAK++[Value.slice o l c]).toArray):=by kernel_rfl
theorem aRb (id:Nat) (o:Option Addr) (l c:Nat):b7 Tryz.prog jZ id 1 [(0,.agg (aAK++[Value.slice o l c]).toArray)]=some (.slice (some (own id 260)) 1 1,some (.cells (aAK++[Value.slice o l c]).toArray dX)):=by kernel_rfl
theorem aE4:fG Tryz.prog mN [(2,.int .i64 (-1))]=some (.agg #[.int .i64 0,.int .i64 0,.int .i64 (-1)]):=by kernel_rfl
theorem aM8 (m:Int):fG Tryz.prog bE [(2,.int .i64 m),(5,.bool true),(7,.agg #[.int .i64 0,.int .i64 0,.int .i64 (-1)])]=some (.agg #[dU,dU,dU,dU,dU,.int .i64 m,dU,.int .i64 0,.bool true,.int .i64 0,.int .i64 0,.int .i64 0,.int .i64 (-1),.int .i64 0,.bool false,.int .i64 0]):=by kernel_rfl
theorem MX.shrink {RR:RgP}{ty:TypeId}{ro:Ro}{h:T Obj}{X X':List Nat}{p:Nat}{ps:List (Nat × Nat)}{d:AutoD}{m:MacD} (hm:MX RR ty ro h X p ps d m) (hX:∀ k∈X',k∈X) (hp:∀ k∈p::iD ps,k∈X'):MX RR ty ro h X' p ps d m:=by
 obtain⟨cv,sv,rv,g1,g2,g3,g4,g5,g6,g7⟩:=hm
 have hD:aZ (del h X) (del h X'):=fun k o hk=>by
  rw[lD] at hk
  split at hk
  ·cases hk
  ·rename_i hn
   exact jL hk fun e=>hn (hX k e)
 exact⟨cv,sv,rv,g1,g2.sub hD,g3.sub hD,g4,g5,hp p (List.mem_cons_self ..),fun k hk=>hp k (List.mem_cons_of_mem _ hk)⟩
theorem MsX.shrink {ro:Ro}{h:T Obj}{X X':List Nat}{qs:List oI}{ds:List AutoD}{ms:List MacD} (hm:MsX ro h X qs ds ms) (hX:∀ k∈X',k∈X) (hp:∀ q∈qs,∀ k∈kU q,k∈X'):MsX ro h X' qs ds ms :=
 ⟨hm.lq,hm.lm,fun i q d m h1 h2 h3=>(hm.at_ i q d m h1 h2 h3).shrink hX (hp q (List.mem_of_getElem? h1)),hm.dis⟩
section
variable {ro:Ro}{h:T Obj}{nx:Nat}{K:KV}
theorem aK7 {v:Value}{l:List ByteArray} (hv:iO ro h v 1 aAH l) (hl:l.length≤1000000) (hf:Fr h nx) (hK:∀ r h' n',nx≤n'→Fr h' n'→aZ h h'→eD h' r 1 sQ (aDC l) nx→K r h' n'):aO Tryz.prog ro jI [v] h nx K:=by
 apply uM
 unfold pB
 obtain⟨i,g1,g2,g3⟩:=aSK
 obtain⟨cs,h1,h2,h3⟩:=hv
 have hcs:cs=aDC l:=by
  apply List.ext_getElem?
  intro k
  rcases Nat.lt_or_ge k l.length with hk | hk
  ·have e1:cs[k]?=some (cs[k]'(by omega)):=List.getElem?_eq_getElem _
   have e2:l[k]?=some l[k]:=List.getElem?_eq_getElem _
   have:=(h3 k _ _ e1 e2).1
   rw[e1,this,aIz hk]
  ·rw[List.getElem?_eq_none (by omega),List.getElem?_eq_none (by rw[aC0]; omega)]
 subst hcs
 exact wH h1 aQQ aRB g1 (by omega) (by omega) aSY rfl (by simp[aDC,eA]) (by rw[aC0,g3]; unfold oG; omega) (by rw[aC0]; unfold oG; omega) hf hK
end
end V
end Go.Proofs.YtcaccnneblghgaaGreat
namespace Go.Proofs.YtcaccnneblghgaaGreat
namespace V
attribute [local irreducible] aB bA aW dM eR gI dH
theorem MX.ty {ro:Ro}{h:T Obj}{X:List Nat}{p:Nat}{ps:List (Nat × Nat)}{d:AutoD}{m:MacD} (hm:MI ro h X p ps d m):∀ k∈p::iD ps,∃ c e,h.get k=some (.cells c e)∧(e=cE∨e=cT∨e=dY):=fun k hk=>by
 obtain⟨cv,sv,rv,g1,g2,g3,g4,g5,g6,g7⟩:=hm
 rcases List.mem_cons.1 hk with rfl | hk
 ·exact⟨_,_,g1,.inl rfl⟩
 ·obtain⟨q,hq,h9⟩:=jN.1 hk
  obtain⟨⟨c1,t1⟩,c2,t2⟩:=g4.ty lY q hq
  rcases h9 with rfl | rfl
  ·exact⟨_,_,t1,.inr (.inl rfl)⟩
  ·exact⟨_,_,t2,.inr (.inr rfl)⟩
theorem MX.neB {ro:Ro}{h:T Obj}{X:List Nat}{p:Nat}{ps:List (Nat × Nat)}{d:AutoD}{m:MacD} (hm:MI ro h X p ps d m) {k:Nat}{c:Array Value}{e:TypeId} (hk:h.get k=some (.cells c e)) (he:e≠cE∧e≠cT∧e≠dY):k ∉ p::iD ps:=fun h9=>by
 obtain⟨c2,e2,g1,g2⟩:=hm.ty k h9
 rw[hk] at g1
 simp only[Option.some.injEq,Obj.cells.injEq] at g1
 rcases g2 with g2 | g2 | g2
 ·exact he.1 (g1.2.1.trans g2)
 ·exact he.2.1 (g1.2.1.trans g2)
 ·exact he.2.2 (g1.2.1.trans g2)
theorem MsX.neB {ro:Ro}{h:T Obj}{X:List Nat}{qs:List oI}{ds:List AutoD}{ms:List MacD} (hm:MsX ro h X qs ds ms) {k:Nat}{c:Array Value}{e:TypeId} (hk:h.get k=some (.cells c e)) (he:e≠cE∧e≠cT∧e≠dY):∀ q∈qs,k ∉ kU q:=fun q hq=>by
 obtain⟨i,hi⟩:=List.getElem?_of_mem hq
 have hl:=(List.getElem?_eq_some_iff.1 hi).1
 exact (hm.at_ i q _ _ hi (List.getElem?_eq_getElem (by rw[← hm.lq]; exact hl)) (List.getElem?_eq_getElem (by rw[hm.lm,← hm.lq]; exact hl))).neB hk he
structure NwI (ro:Ro) (X0:List Nat) (hC:T Obj) (nC p:Nat) (Tb:TabD) (most:Int) (kv tv:Value) (i j:Nat) (h:T Obj) (nx:Nat) (X:List Nat) (qs:List oI) (mv ev:Value) (es:List (List Value)):Prop where
 cell:h.get p=some (.cells (gS kv tv ev mv most dU (nK Tb) 0).toArray bE)
 mo:eD h mv 1 j7 (mK qs) nC
 eo:eD h ev 260 dX es nC
 el:es.length=j
 erd:∀ (k:Nat) x e,es[k]?=some x→Tb.entries[k]?=some e→wB ro (del h X) x e
 kr:Sl ro (del h X) kv 1 (aDC Tb.kinds)
 tr:Sl ro (del h X) tv 1 (lL Tb.to)
 mq:MsX ro h X qs ((Tb.entries.map (·.a)).take i) ((Tb.entries.map fun e=>aAw e.a).take i)
 xl:∀ b∈X,b < nx
 pc:nC≤p
 ql:∀ q∈qs,∀ b∈kU q,nC≤b
 x0:∀ b∈X0,b∈X
 xp:p∈X
 xm:∀ b∈kV mv,b∈X
 xe:∀ b∈kV ev,b∈X
 sb:aZ hC h
 frr:Fr h nx
 frC:Fr hC nC
section
variable {ro:Ro}{hC h h' h1 h2:T Obj}{nC p nx n1 n2 l1 i j k:Nat}{Tb:TabD}{most:Int}{kv tv mv ev mv2 ev2:Value}{X0 X:List Nat}{qs:List oI}{es:List (List Value)}
theorem NwI.nle (hi:NwI ro X0 hC nC p Tb most kv tv i j h nx X qs mv ev es):nC≤p∧p < nx:=⟨hi.pc,hi.xl p hi.xp⟩
theorem NwI.subs (hi:NwI ro X0 hC nC p Tb most kv tv i j h nx X qs mv ev es) (hs:aZ h h') (hf:Fr h' n1) (hn:nx≤n1):NwI ro X0 hC nC p Tb most kv tv i j h' n1 X qs mv ev es:=by
 have hD:aZ (del h X) (del h' X):=eB.del (ids:=[]) hs.keepL (fun k hk=>by cases hk) fun k hk=>.inl hk
 exact⟨hs _ _ hi.cell,hi.mo.keepS hs,hi.eo.keepS hs,hi.el,fun k x e h1 h2=>(hi.erd k x e h1 h2).sub hD,hi.kr.sub hD,hi.tr.sub hD,hi.mq.subX hs,fun b hb=>by have:=hi.xl b hb; omega,hi.pc,hi.ql,hi.x0,hi.xp,hi.xm,hi.xe,hi.sb.trans hs,hf,hi.frC⟩
theorem NwI.neM (hi:NwI ro X0 hC nC p Tb most kv tv i j h nx X qs mv ev es):∀ b∈p::kV mv,(∃ c e,h.get b=some (.cells c e)∧e≠cE∧e≠cT∧e≠dY):=fun b hb=>by
 rcases List.mem_cons.1 hb with rfl | hb
 ·exact⟨_,_,hi.cell,by decide,by decide,by decide⟩
 ·exact⟨_,_,(hi.mo.blk (eW.1 hb)).2,by decide,by decide,by decide⟩
theorem NwI.neE (hi:NwI ro X0 hC nC p Tb most kv tv i j h nx X qs mv ev es):∀ b∈p::kV ev,(∃ c e,h.get b=some (.cells c e)∧e≠cE∧e≠cT∧e≠dY):=fun b hb=>by
 rcases List.mem_cons.1 hb with rfl | hb
 ·exact⟨_,_,hi.cell,by decide,by decide,by decide⟩
 ·exact⟨_,_,(hi.eo.blk (eW.1 hb)).2,by decide,by decide,by decide⟩
theorem aHB (qs:List oI) (q:oI):mK (qs++[q])=mK qs++[[ptr q.1]]:=by simp[mK]
theorem NwI.mach (hi0:NwI ro X0 hC nC p Tb most kv tv k j h nx X qs mv ev es) {q:oI}{e:EntD} (he:Tb.entries[k]?=some e) (hn:MI ro h1 (X++kU q) q.1 q.2 (er e.a) (aAw e.a)) (hs:aZ h h1) (hf1:Fr h1 n1) (hb:∀ b∈kU q,nx≤b∧b < n1) (hnx:nx≤n1)
  (ho:eD h2 mv2 1 j7 (mK qs++[[ptr q.1]]) nC) (hsb:jU mv2=some n2) (hg:∀ b o,h1.get b=some o→b≠l1→jU mv≠some b→h2.get b=some o) (hl1:n1≤l1) (hn2:n1≤n2) (hf2:Fr h2 (n2+1)) :
  NwI ro X0 hC nC p Tb most kv tv (k+1) j (h2.upd p (some (.cells (gS kv tv ev mv2 most dU (nK Tb) 0).toArray bE))) (n2+1) (X++kU q++[n2]) (qs++[q]) mv2 ev es:=by
 have hpx:=hi0.nle
 have hi:=hi0.subs hs hf1 hnx
 have hkk:eB (kV mv) h1 h2:=fun b o hb hn=>hg b o hb (by have:=hf1.lt' hb; omega) fun e=>hn (eW.2 e)
 have hK:eB (p::kV mv) h1 (h2.upd p (some (.cells (gS kv tv ev mv2 most dU (nK Tb) 0).toArray bE))):=(hkk.mono fun b hb=>List.mem_cons_of_mem _ hb).upd (List.mem_cons_self ..)
 have hidX:∀ b∈p::kV mv,b∈X:=fun b hb=>by
  rcases List.mem_cons.1 hb with rfl | hb
  ·exact hi.xp
  ·exact hi.xm b hb
 have hX2:∀ b∈X++kU q++[n2],b∈X++kU q∨h1.get b=none:=fun b hb=>by
  rcases List.mem_append.1 hb with hb | hb
  ·exact .inl hb
  ·simp at hb; subst hb; exact .inr (hf1 _ (by omega))
 have hX3:∀ b∈X++kU q++[n2],b∈X∨h.get b=none:=fun b hb'=>by
  rcases List.mem_append.1 hb' with hb' | hb'
  ·rcases List.mem_append.1 hb' with hb' | hb'
   ·exact .inl hb'
   ·exact .inr (hi0.frr _ (hb b hb').1)
  ·simp at hb'; subst hb'; exact .inr (hi0.frr _ (by omega))
 have hX4:∀ b∈X,b∈X++kU q++[n2]:=fun b hb=>List.mem_append_left _ (List.mem_append_left _ hb)
 have hgA:=hs.keepL (ids:=p::kV mv) |>.trans hK
 have hD:aZ (del h X) (del (h2.upd p (some (.cells (gS kv tv ev mv2 most dU (nK Tb) 0).toArray bE))) (X++kU q++[n2])):=hgA.del hidX hX3
 have hneM:=hi.neM
 have hdis:∀ b∈p::kV mv,∀ r∈qs,b ∉ kU r:=fun b hb' r hr=>by
  obtain⟨c,e9,g1,g2⟩:=hneM b hb'
  exact hi.mq.neB g1 g2 r hr
 have hdq:∀ b∈p::kV mv,b ∉ kU q:=fun b hb'=>by
  obtain⟨c,e9,g1,g2⟩:=hneM b hb'
  exact hn.neB g1 g2
 have hmq:=hi0.mq.keep hgA hidX (fun r hr b hb'=>hdis b hb' r hr) hX3 hX4
 have hnq:=hn.keep (X':=X++kU q++[n2]) lY hK (fun b hb'=>List.mem_append_left _ (hidX b hb')) (fun b hb'=>by
  have:=hdq b hb'
  exact⟨fun e=>this (by rw[e]; exact List.mem_cons_self ..),fun e=>this (List.mem_cons_of_mem _ e)⟩) hX2 fun b hb'=>List.mem_append_left _ hb'
 have hlen:k < Tb.entries.length:=(List.getElem?_eq_some_iff.1 he).1
 have hget:=(List.getElem?_eq_some_iff.1 he).2
 have hpe:jU ev≠some p:=hi.eo.ne hi.cell (by decide)
 have hpm:jU mv2≠some p:=by rw[hsb]; intro e9; cases e9; omega
 have hem:∀ b,jU ev=some b→jU mv≠some b:=fun b hb' e9=>by
  have g1:=(hi.eo.blk hb').2
  have g2:=(hi.mo.blk e9).2
  rw[g1] at g2
  simp only[Option.some.injEq,Obj.cells.injEq] at g2
  exact absurd g2.2.1 (by decide)
 refine⟨T.get_upd_same _ _ _,?_,?_,hi.el,fun k x e h1 h2=>(hi0.erd k x e h1 h2).sub hD,hi0.kr.sub hD,hi0.tr.sub hD,?_,fun b hb'=>?_,hi.pc,fun r hr b hb'=>?_,fun b hb'=>hX4 b (hi.x0 b hb'),hX4 p hi.xp,fun b hb'=>?_,fun b hb'=>hX4 b (hi.xe b hb'),fun b o hb'=>?_,hf2.upd (Nat.le_refl _) (by omega),hi.frC⟩
 ·rw[aHB]
  exact ho.keepK (ids:=[p]) ((aZ.refl _).keepL.upd (by simp)) fun id hid hm=>by simp at hm; subst hm; exact hpm hid
 ·exact hi.eo.keepK (ids:=p::kV mv) hK fun id hid hm=>by
   rcases List.mem_cons.1 hm with rfl | hm
   ·exact hpe hid
   ·exact hem id hid (eW.1 hm)
 ·have t1:(Tb.entries.map (·.a)).take (k+1)=(Tb.entries.map (·.a)).take k++[e.a]:=by
   rw[List.take_succ_eq_append_getElem (by rw[List.length_map]; exact hlen),List.getElem_map,hget]
  have t2:(Tb.entries.map fun e=>aAw e.a).take (k+1)=(Tb.entries.map fun e=>aAw e.a).take k++[aAw e.a]:=by
   rw[List.take_succ_eq_append_getElem (by rw[List.length_map]; exact hlen),List.getElem_map,hget]
  rw[t1,t2]
  refine hmq.snoc hnq fun r hr b hb' hb9=>?_
  have g1:=(hb b hb9).1
  obtain⟨i9,hi9⟩:=List.getElem?_of_mem hr
  have g2:=hi0.xl b (hi0.mq.inX hi9 b hb')
  omega
 ·have hx:=hi0.nle
  rcases List.mem_append.1 hb' with hb' | hb'
  ·rcases List.mem_append.1 hb' with hb' | hb'
   ·have:=hi0.xl b hb'; omega
   ·have:=hb b hb'; omega
  ·simp at hb'; subst hb'; omega
 ·rcases List.mem_append.1 hr with hr | hr
  ·exact hi.ql r hr b hb'
  ·simp at hr; subst hr
   have:=(hb b hb').1
   omega
 ·have:=eW.1 hb'
  rw[hsb] at this
  cases this
  exact List.mem_append_right _ (by simp)
 ·have h9:=hi.sb b o hb'
  have hlt:=hi.frC.lt' hb'
  rw[T.get_upd_ne _ _ (by omega)]
  refine hg b o h9 (by omega) fun e9=>?_
  have:=(hi.mo.blk e9).1
  omega
theorem NwI.ent (hi0:NwI ro X0 hC nC p Tb most kv tv i k h nx X qs mv ev es) {n0:Nat}{rv:Value}{e:EntD} (he:Tb.entries[k]?=some e) (hs:aZ h h1) (hrv:eD h1 rv 1 dY (lL e.rules) n0) (hn0:nx≤l1) (hl0:l1 < n0)
  (ho:eD h2 ev2 260 dX (es++[aAK++[rv]]) nC) (hsb:jU ev2=some n2) (hg:∀ b o,h1.get b=some o→b≠l1→jU ev≠some b→h2.get b=some o) (hn2:n0≤n2) (hf1:Fr h1 n2) (hf2:Fr h2 (n2+1)) :
  NwI ro X0 hC nC p Tb most kv tv i (k+1) (h2.upd p (some (.cells (gS kv tv ev2 mv most dU (nK Tb) 0).toArray bE))) (n2+1) (X++[n2]) qs mv ev2 (es++[aAK++[rv]]):=by
 have hpx:=hi0.nle
 have hgA:eB (p::kV ev) h (h2.upd p (some (.cells (gS kv tv ev2 mv most dU (nK Tb) 0).toArray bE))):=fun b o hb hn=>by
  have hlt:=hi0.frr.lt' hb
  rw[T.get_upd_ne _ _ fun e9=>hn (by rw[e9]; exact List.mem_cons_self ..)]
  exact hg b o (hs b o hb) (by omega) fun e9=>hn (List.mem_cons_of_mem _ (eW.2 e9))
 have hidX:∀ b∈p::kV ev,b∈X:=fun b hb=>by
  rcases List.mem_cons.1 hb with rfl | hb
  ·exact hi0.xp
  ·exact hi0.xe b hb
 have hX3:∀ b∈X++[n2],b∈X∨h.get b=none:=fun b hb'=>by
  rcases List.mem_append.1 hb' with hb' | hb'
  ·exact .inl hb'
  ·simp at hb'; subst hb'; exact .inr (hi0.frr _ (by omega))
 have hX4:∀ b∈X,b∈X++[n2]:=fun b hb=>List.mem_append_left _ hb
 have hD:=hgA.del hidX hX3
 have hneE:=hi0.neE
 have hmq:=hi0.mq.keep hgA hidX (fun r hr b hb'=>by
  obtain⟨c,e9,g1,g2⟩:=hneE b hb'
  exact hi0.mq.neB g1 g2 r hr) hX3 hX4
 have hpm:jU mv≠some p:=hi0.mo.ne hi0.cell (by decide)
 have hpe:jU ev2≠some p:=by rw[hsb]; intro e9; cases e9; omega
 have hem:∀ b,jU mv=some b→jU ev≠some b:=fun b hb' e9=>by
  have g1:=(hi0.mo.blk hb').2
  have g2:=(hi0.eo.blk e9).2
  rw[g1] at g2
  simp only[Option.some.injEq,Obj.cells.injEq] at g2
  exact absurd g2.2.1 (by decide)
 have hel:=hi0.el
 have hrv2:Sl ro (del (h2.upd p (some (.cells (gS kv tv ev2 mv most dU (nK Tb) 0).toArray bE))) (X++[n2])) rv 1 (lL e.rules):=by
  have h9:eD (h2.upd p (some (.cells (gS kv tv ev2 mv most dU (nK Tb) 0).toArray bE))) rv 1 dY (lL e.rules) n0:=by
   rcases hrv with h9 | ⟨id,r1,r2,r3,r4⟩
   ·exact .inl h9
   ·refine .inr ⟨id,r1,r2,r3,?_⟩
    rw[T.get_upd_ne _ _ (by omega)]
    refine hg _ _ r4 (by omega) fun e9=>?_
    have:=hi0.xl _ (hi0.xe _ (eW.2 e9))
    omega
  refine (h9.del fun id hid hm=>?_).sl
  have g1:=(h9.blk hid).1
  rcases List.mem_append.1 hm with hm | hm
  ·have:=hi0.xl id hm; omega
  ·simp at hm; subst hm
   have g2:h1.get id=none:=hf1 _ (Nat.le_refl _)
   rcases hrv with ⟨r1,_⟩ | ⟨id2,r1,r2,r3,r4⟩
   ·rw[r1] at hid; cases hid
   ·rw[r2] at hid
    cases hid
    have g3:h1.get id2=none:=g2
    rw[r4] at g3; cases g3
 refine⟨T.get_upd_same _ _ _,?_,?_,by simp[hel],fun j x e9 hx1 hx2=>?_,hi0.kr.sub hD,hi0.tr.sub hD,hmq,fun b hb'=>?_,hi0.pc,hi0.ql,fun b hb'=>hX4 b (hi0.x0 b hb'),hX4 p hi0.xp,fun b hb'=>hX4 b (hi0.xm b hb'),fun b hb'=>?_,fun b o hb'=>?_,hf2.upd (Nat.le_refl _) (by omega),hi0.frC⟩
 ·exact hi0.mo.keepK hgA fun id hid hm=>by
   rcases List.mem_cons.1 hm with rfl | hm
   ·exact hpm hid
   ·exact hem id hid (eW.1 hm)
 ·exact ho.keepK (ids:=[p]) ((aZ.refl _).keepL.upd (by simp)) fun id hid hm=>by simp at hm; subst hm; exact hpe hid
 ·rcases Nat.lt_or_ge j es.length with hj | hj
  ·rw[List.getElem?_append_left hj] at hx1
   exact (hi0.erd j x e9 hx1 hx2).sub hD
  ·rw[List.getElem?_append_right hj] at hx1
   have hj0:j - es.length=0:=by
    rcases Nat.eq_zero_or_pos (j - es.length) with h0 | h0
    ·exact h0
    ·rw[List.getElem?_eq_none (by simp; omega)] at hx1; cases hx1
   rw[hj0] at hx1
   simp only[List.getElem?_cons_zero,Option.some.injEq] at hx1
   subst hx1
   rw[show j=k by omega,he] at hx2
   cases hx2
   refine⟨rv,?_,hrv2⟩
   rw[List.getElem?_append_right (by rw[wF]; omega),wF]; rfl
 ·rcases List.mem_append.1 hb' with hb' | hb'
  ·have:=hi0.xl b hb'; omega
  ·simp at hb'; subst hb'; omega
 ·have:=eW.1 hb'
  rw[hsb] at this
  cases this
  exact List.mem_append_right _ (by simp)
 ·have h9:=hi0.sb b o hb'
  have hlt:=hi0.frC.lt' hb'
  have hlt2:=hi0.frr.lt' h9
  rw[T.get_upd_ne _ _ (by omega)]
  refine hg b o (hs b o h9) (by omega) fun e9=>?_
  have:=(hi0.eo.blk e9).1
  omega
theorem NwI.fin (hi:NwI ro X0 hC nC p Tb most kv tv Tb.entries.length Tb.entries.length h nx X qs mv ev es) (hX0:∀ b∈X0,b < nC):ScX ro h (X0++(p::qs.flatMap kU)) p qs Tb most 0 (nK Tb)∧∀ b∈p::qs.flatMap kU,nC≤b∧b < nx:=by
 have hsub:∀ b∈X0++(p::qs.flatMap kU),b∈X:=fun b hb=>by
  rcases List.mem_append.1 hb with hb | hb
  ·exact hi.x0 b hb
  ·rcases List.mem_cons.1 hb with rfl | hb
   ·exact hi.xp
   ·obtain⟨q,hq,hb⟩:=List.mem_flatMap.1 hb
    obtain⟨j,hj⟩:=List.getElem?_of_mem hq
    exact hi.mq.inX hj b hb
 have hD:aZ (del h X) (del h (X0++(p::qs.flatMap kU))):=t7 hsub
 have hne:∀ {v:Value} {z:Nat} {e:TypeId} {l:List (List Value)},eD h v z e l nC→e≠bE→e≠cE∧e≠cT∧e≠dY→∀ id,jU v=some id→id ∉ X0++(p::qs.flatMap kU):=fun {v z e l} ho he1 he2 id hid hm=>by
  obtain⟨g1,g2⟩:=ho.blk hid
  rcases List.mem_append.1 hm with hm | hm
  ·have:=hX0 id hm; omega
  ·rcases List.mem_cons.1 hm with rfl | hm
   ·exact ho.ne hi.cell (Ne.symm he1) hid
   ·obtain⟨q,hq,hm⟩:=List.mem_flatMap.1 hm
    exact hi.mq.neB g2 he2 q hq hm
 refine⟨⟨kv,tv,ev,mv,dU,hi.cell,hi.kr.sub hD,hi.tr.sub hD,⟨es,(hi.eo.del (hne hi.eo (by decide) ⟨by decide,by decide,by decide⟩)).sl,hi.el,fun j x e h1 h2=>(hi.erd j x e h1 h2).sub hD⟩,(hi.mo.del (hne hi.mo (by decide) ⟨by decide,by decide,by decide⟩)).sl,Sl.nil,?_,List.mem_append_right _ (List.mem_cons_self ..),hi.mq.neB hi.cell ⟨by decide,by decide,by decide⟩⟩,fun b hb=>⟨?_,hi.xl b (hsub b (List.mem_append_right _ hb))⟩⟩
 ·have hq:=hi.mq
  rw[List.take_of_length_le (by simp),List.take_of_length_le (by simp)] at hq
  exact hq.shrink hsub fun q hq9 b hb=>List.mem_append_right _ (List.mem_cons_of_mem _ (List.mem_flatMap.2 ⟨q,hq9,hb⟩))
 ·rcases List.mem_cons.1 hb with rfl | hb
  ·exact hi.pc
  ·obtain⟨q,hq,hb⟩:=List.mem_flatMap.1 hb
   exact hi.ql q hq b hb
end
end V
end Go.Proofs.YtcaccnneblghgaaGreat
namespace Go.Proofs.YtcaccnneblghgaaGreat
namespace V
attribute [local irreducible] aB bA aW dM eR gI dH
theorem aQm:∀ {l:List Int}{a m:Int},rz a m l=true→a < m→(l.length:Int)≤m - a - 1
 | [],a,m,_,h=>by simp; omega
 | x::r,a,m,h,hm=>by
  rw[aFz] at h
  simp only[Bool.and_eq_true,decide_eq_true_eq] at h
  have:=aQm h.2.2 h.2.1
  rw[List.length_cons]
  omega
theorem aEm {T:TabD} (h:gC T=true):T.conds.length≤8∧T.kinds.length≤64∧T.to.length≤64∧T.entries.length≤16∧∀ e∈T.entries,e.rules.length≤64:=by
 unfold gC at h
 simp only[Bool.and_eq_true,decide_eq_true_eq] at h
 obtain⟨h1,h2,_,h4,h5,h6,_,h8,h9⟩:=h
 refine⟨h2,h4,by omega,by omega,fun e he=>?_⟩
 have:=List.all_eq_true.1 h9 e he
 unfold oQ at this
 simp only[Bool.and_eq_true] at this
 have:=aQm this.1 (by omega)
 omega
theorem aOX (o1 o2:Option Addr) (l1 c1 l2 c2:Nat):fG Tryz.prog d4 [(1,.slice o1 l1 c1),(2,.slice o2 l2 c2)]=some (.agg #[dU,.slice o1 l1 c1,.slice o2 l2 c2,dU]):=by kernel_rfl
theorem eD.form {h:T Obj}{v:Value}{z:Nat}{e:TypeId}{l:List (List Value)}{lo:Nat} (ho:eD h v z e l lo):∃ o n c,v=.slice o n c:=by
 rcases ho with ⟨h1,_⟩ | ⟨id,_,h1,_⟩
 ·exact⟨_,_,_,h1⟩
 ·exact⟨_,_,_,h1⟩
theorem aH3 {h:T Obj}{id off z n:Nat}{v:Value}{l vs:List Value}{e:TypeId}{f:Nat × Nat} (hg:h.get id=some (.cells l.toArray e f)) (hc:v.cells=vs.toArray) (hn:vs.length=n) (hl:off+n≤l.length) (hv:vs.all eA=true) :
  bU n h (at_ id off z) v=some (h.upd id (some (.cells (over l off vs).toArray e f))):=by
 rw[cF,hc,hg,if_pos (by simpa using hn),bW (by simp; omega) (by simpa using hv)]
 rfl
theorem aGo {ro:Ro}{h:T Obj}{id off z n:Nat}{l:List Value}{e:TypeId}{f:Nat × Nat} (hg:h.get id=some (.cells l.toArray e f)) (hl:off+n≤l.length):loadA ro h n (at_ id off z)=some (.agg ((l.drop off).take n).toArray):=by
 rw[cJ,hg]
 show (if off+n≤l.length then _ else _)=_
 rw[if_pos hl]
section
variable {ro:Ro}{h:T Obj}{nx:Nat}{K:KV}
set_option maxRecDepth 8000 in
set_option maxHeartbeats 1000000 in
theorem aHX {X0:List Nat}{x:List Value}{Tb:TabD}{most:Int} (hf:Fr h nx) (hd:aE2 ro h x Tb) (hX0:∀ b∈X0,b < nx)
  (hK0:most < 1∨gC Tb=false→∀ nx',nx≤nx'→K (.tuple #[.pointer none,.int .i64 1]) h nx')
  (hK1:1≤most→gC Tb=true→∀ p qs h' nx',nx≤nx'→Fr h' nx'→aZ h h'→(∀ b∈p::qs.flatMap kU,nx≤b∧b < nx')→ScX ro h' (X0++(p::qs.flatMap kU)) p qs Tb most 0 (nK Tb)→K (.tuple #[ptr p,.int .i64 0]) h' nx'):aO Tryz.prog ro aAU [.agg x.toArray,.int .i64 most] h nx K:=by
 obtain⟨cv,kv0,tv0,ev0,rfl,q1,q2,q3,q4,q5,q6,q7,q8⟩:=id hd
 apply aMJ
 unfold aMI
 refine eZ hf (Nat.le_refl _) fun h1 hs1 hf1 g1 _=>?_
 have g1:h1.get nx=some (.cells [cv,kv0,tv0,ev0].toArray d4):=g1
 by_cases hm1:most < 1
 ·(repeat refine zzC ?_)
  exact⟨h,hs1,hK0 (.inl hm1) _ (by omega)⟩
 ·have LA:=dW (ro:=ro) (z:=0) (n:=4) (l:=[cv,kv0,tv0,ev0]) g1 rfl
  (repeat refine zzC ?_)
  refine aA LA ?_
  (repeat refine zzC ?_)
  refine aKy (hf1.mono (by omega)) (hd.sub hs1) fun n1 hn1=>?_
  cases hr:gC Tb with
  | false =>
   (repeat refine zzC ?_)
   exact⟨h,hs1,hK0 (.inr hr) _ (by omega)⟩
  | true =>
   have hc256:∀ e∈Tb.entries,e.a.c.length=256:=fun e he=>by
    obtain⟨j,hj⟩:=List.getElem?_of_mem he
    obtain⟨hlt,rfl⟩:=List.getElem?_eq_some_iff.1 hj
    obtain⟨y,⟨ax,rv,_,hA,_⟩,_⟩:=q4.at hlt
    obtain⟨cv9,sv9,_,hc9,_⟩:=hA
    exact hc9
   have hT:=(aLv hr hc256).1
   obtain⟨_,hl1,hl2,hl3,hl4⟩:=aEm hr
   (repeat refine zzC ?_)
   refine aA aE4 ?_
   refine aA (aM8 _) ?_
   refine aDV (m:=nx+1) hf1 (by omega) fun h2 hs2 hf2 g2 _=>?_
   have g2:h2.get (n1+1+4)=some (.cells (gS dU dU dU dU most dU (nK Tb) 0).toArray bE):=g2
   have g12:=hs2 _ _ g1
   have m1:[cv,kv0,tv0,ev0][1]?=some kv0:=rfl
   have m2:[cv,kv0,tv0,ev0][2]?=some tv0:=rfl
   have m3:[cv,kv0,tv0,ev0][3]?=some ev0:=rfl
   (repeat refine zzC ?_)
   refine aA (aV g12 m1) ?_
   refine aK7 (q2.sub (hs1.trans hs2) fun _ _ h=>h) (by omega) (hf2.mono (by omega)) fun kv h3 n3 hn3 hf3 hs3 hkv=>?_
   have g13:=hs3 _ _ g12
   have l2:=aV (ro:=ro) (z:=0) g13 m2
   (repeat refine zzC ?_)
   refine aA l2 ⟨eL g12 g13,?_⟩
   refine xX (q3.sub ((hs1.trans hs2).trans hs3)) (by omega) hf3 fun tv h4 n4 hn4 hf4 hs4 htv=>?_
   obtain⟨ko,kn,kc,hkf⟩:=hkv.form
   obtain⟨to_,tn,tc,htf⟩:=htv.form
   have g24:=hs4 _ _ (hs3 _ _ g2)
   have g14:=hs4 _ _ g13
   refine aA (by rw[hkf,htf]; exact aOX _ _ _ _ _ _) ?_
   (have zz:=@aR;repeat refine zzCz ?_)
   refine aA (aH3 (vs:=[dU,kv,tv,dU]) g24 (by rw[hkf,htf]; rfl) rfl (by simp[gS]) (by simp only[List.all_cons,List.all_nil,hkv.ok,htv.ok,Bool.and_true]; rfl)) ?_
   have hov:over (gS dU dU dU dU most dU (nK Tb) 0) 0 [dU,kv,tv,dU]=gS kv tv dU dU most dU (nK Tb) 0:=rfl
   rw[hov]
   generalize hh5:h4.upd (n1+1+4) (some (.cells (gS kv tv dU dU most dU (nK Tb) 0).toArray bE))=h5
   have g15:h5.get nx=some (.cells [cv,kv0,tv0,ev0].toArray d4):=by rw[← hh5,T.get_upd_ne _ _ (by omega)]; exact g14
   (repeat refine zzC ?_)
   refine aA (aV g15 m3) ?_
   have hs14:aZ h1 h4:=(hs2.trans hs3).trans hs4
   refine aA q4.len ?_
   have hkK:eB [n1+1+4] h4 h5:=by rw[← hh5]; exact (aZ.refl _).keepL.upd (by simp)
   have hkv5:=(hkv.keepS hs4).keepK hkK fun id hid hm=>by simp at hm; have:=(hkv.blk hid).1; omega
   have htv5:=htv.keepK hkK fun id hid hm=>by simp at hm; have:=(htv.blk hid).1; omega
   have hNI0:NwI ro X0 h1 (nx+1) (n1+1+4) Tb most kv tv 0 0 h5 n4 (X0++[n1+1+4]) [] dU dU []:=by
    refine⟨by rw[← hh5]; exact T.get_upd_same _ _ _,eD.nil,eD.nil,rfl,(fun k x e hx=>by simp at hx),?_,?_,MsX.nil,fun b hb=>?_,by omega,(fun q hq=>by cases hq),fun b hb=>List.mem_append_left _ hb,by simp,(fun b hb=>by cases hb),(fun b hb=>by cases hb),fun b o hb=>?_,?_,hf1⟩
    ·refine (hkv5.del fun id hid hm=>?_).sl
     have g:=(hkv.blk hid).1
     rcases List.mem_append.1 hm with hm | hm
     ·have:=hX0 id hm; omega
     ·simp at hm; omega
    ·refine (htv5.del fun id hid hm=>?_).sl
     have g:=(htv.blk hid).1
     rcases List.mem_append.1 hm with hm | hm
     ·have:=hX0 id hm; omega
     ·simp at hm; omega
    ·rcases List.mem_append.1 hb with hb | hb
     ·have:=hX0 b hb; omega
     ·simp at hb; omega
    ·have hlt:=hf1.lt' hb
     rw[← hh5,T.get_upd_ne _ _ (by omega)]
     exact hs14 b o hb
    ·rw[← hh5]; exact hf4.upd (Nat.le_refl _) (by omega)
   refine bM (fun j e h' nx'=>∃ (k:Nat) (X:List Nat) (qs:List oI) (mv ev:Value) (es:List (List Value)),k+j=Tb.entries.length∧n4+4≤nx'∧e 6=ptr (n1+1+4)∧e 33=ev0∧e 34=.int .i64 Tb.entries.length∧e 35=.int .i64 k∧NwI ro X0 h1 (nx+1) (n1+1+4) Tb most kv tv k k h' nx' X qs mv ev es) ?_ (n:=Tb.entries.length) ⟨0,_,[],dU,dU,[],by omega,by omega,rfl,rfl,rfl,rfl,hNI0.subs (aZ.refl _) (hNI0.frr.mono (by omega)) (by omega)⟩
   generalize n1+1+4=p at *
   rintro j e h' nx' ⟨k,X,qs,mv,ev,es,hj,hnx,e6,e33,e34,e35,hi⟩ Q' hq hx
   have hfh:=hi.frr
   have hsh:=hi.sb
   unfold aF4
   rw[e6,e33,e34,e35]
   refine dS (fun hk=>?_) (fun hk=>?_)
   ·have hk:k < Tb.entries.length:=by omega
    have hev:=q4.sub hs1 (qH.sub hs1)
    have hix:=hev.ix .i64 hk
    obtain⟨y,hy1,hy2,hy3,hy4,hy5⟩:=hev.at hk
    have hy3:=vZ hsh hy3
    have hek:Tb.entries[k]?=some Tb.entries[k]:=List.getElem?_eq_getElem _
    have hemem:=List.getElem_mem hk
    generalize Tb.entries[k]=ee at hy1 hek hemem
    obtain⟨cv9,sv9,rv9,hye,c258,c259,htk,hA,hS,hSl,hR,hRl⟩:=hy1.cells
    (repeat refine zzC ?_)
    refine aA hix (aA hy3 ?_)
    refine jB (x:=y) (n:=260) aKP (by show aO8.toArray.size=260; rw[List.size_toArray,aG1]) rfl hy2 hy1.okL hfh (by omega) fun h6 hs6 hf6 g6 _=>?_
    have LB:=aGo (ro:=ro) (z:=0) (off:=0) (n:=259) g6 (by omega)
    rw[List.drop_zero,htk] at LB
    (repeat refine zzC ?_)
    refine aA LB ?_
    refine aMj (X0:=X) (hf6.mono (by omega)) (hA.sub (hsh.trans hs6)) (fun h9=>by rw[hT.ok ee hemem] at h9; cases h9) (fun b hb=>by have:=hi.xl b hb; omega) fun _ p2 ps X2 h7 n7 hn7 hf7 hs7 hX2 hX2e hMI=>?_
    subst hX2e
    refine aA (aGs _ _) (aA (aGt _ _) ?_)
    refine zX rfl ?_
    (have zz:=@aR;repeat refine zzCz ?_)
    have hi6:=hi.subs hs6 (hf6.mono (show nx'+3+1≤nx'+8 by omega)) (by omega)
    have hi7:=hi6.subs hs7 hf7 (by omega)
    have m4:(gS kv tv ev mv most dU (nK Tb) 0)[4]?=some mv:=rfl
    refine aA (aV hi7.cell m4) ?_
    obtain⟨i9,t1,t2,t3⟩:=aQs
    have hql:qs.length≤1000:=by have:=hi.mq.lq; simp at this; omega
    refine yR (z:=1) (l:=mK qs) (y:=[ptr p2]) (aQR _ _) rfl hi7.mo aPP t1 (by omega) (by omega) aRJ rfl rfl (by rw[nP,t3]; unfold oG; omega) (by rw[nP]; unfold oG; omega) (hf7.mono (by omega)) (by omega) (by omega) (fun e=>by have:=hf7.lt' (hi7.mo.blk e).2; omega) fun h8 ho8 hk8 hf8=>?_
    generalize hnv:Value.slice (some (own (n7+15) 1)) (mK qs++[[ptr p2]]).length (mK qs++[[ptr p2]]).length=mv2 at ho8
    have hsb:jU mv2=some (n7+15):=by rw[← hnv]; rfl
    have hi8:=hi6.mach (q:=(p2,ps)) (l1:=n7+13) hek hMI hs7 hf7 hX2 (by omega) ho8 hsb hk8 (by omega) (by omega) hf8
    have g8:=hk8 _ _ hi7.cell (by have:=hf7.lt' hi7.cell; omega) (hi7.mo.ne hi7.cell (by decide))
    dsimp only
    (have zz:=@aR;repeat refine zzCz ?_)
    refine aA (bX g8 (by simp[gS]) ho8.ok (by rw[← hnv]; rfl)) ?_
    have hov2:(gS kv tv ev mv most dU (nK Tb) 0).set 4 mv2=gS kv tv ev mv2 most dU (nK Tb) 0:=rfl
    rw[hov2]
    generalize hh8:h8.upd p (some (.cells (gS kv tv ev mv2 most dU (nK Tb) 0).toArray bE))=h9 at hi8
    have g69:h9.get (nx'+3)=some (.cells y.toArray dX):=by
     have hp6:=hi.xl _ hi.xp
     rw[← hh8,T.get_upd_ne _ _ (by omega)]
     refine hk8 _ _ (hs7 _ _ g6) (by omega) fun e9=>?_
     have:=hi.xl _ (hi.xm _ (eW.2 e9))
     omega
    have m3':(gS kv tv ev mv2 most dU (nK Tb) 0)[3]?=some ev:=rfl
    (have zz:=@aR;repeat refine zzCz ?_)
    refine aA (aV hi8.cell m3') ?_
    (repeat refine zzC ?_)
    refine aA (aV g69 c259) ?_
    refine xX (hR.sub hi8.sb) (by have:=hl4 ee hemem; omega) (hi8.frr.mono (by omega)) fun rv h10 n10 hn10 hf10 hs10 hrv=>?_
    refine⟨eL hi8.cell (hs10 _ _ hi8.cell),?_⟩
    obtain⟨ro1,rn,rc,hrf⟩:=hrv.form
    refine aA (by rw[hrf]; exact aOW _ _ _) ?_
    have hi10:=hi8.subs hs10 hf10 (by omega)
    obtain⟨i10,u1,u2,u3⟩:=aSJ
    have hesl:es.length≤1000:=by have:=hi8.el; omega
    refine yR (z:=260) (l:=es) (y:=aAK++[rv]) (by rw[hrf]; exact aRb _ _ _ _) (by rw[List.length_append,wF]; rfl) hi10.eo aQz u1 (by omega) (by omega) aKP (by show aO8.toArray.size=260; rw[List.size_toArray,aG1]) (by rw[List.all_append]; simp[hrv.ok]; decide) (by rw[u3]; unfold oG; omega) (by unfold oG; omega) (hf10.mono (by omega)) (by omega) (by omega) (fun e=>by have:=hi8.xl _ (hi8.xe _ (eW.2 e)); omega) fun h11 ho11 hk11 hf11=>?_
    generalize hnv2:Value.slice (some (own n10 260)) (es++[aAK++[rv]]).length (es++[aAK++[rv]]).length=ev2 at ho11
    have hsb2:jU ev2=some n10:=by rw[← hnv2]; rfl
    have hi11:=(hi8.subs (aZ.refl _) (hi8.frr.mono (show n7+15+1≤n7+15+1+13 by omega)) (by omega)).ent (l1:=n7+15+1+13) hek hs10 hrv (Nat.le_refl _) (by omega) ho11 hsb2 hk11 (by omega) hf10 hf11
    have g11:=hk11 _ _ hi10.cell (by have:=hi8.frr.lt' hi8.cell; omega) (hi10.eo.ne hi10.cell (by decide))
    dsimp only
    (have zz:=@aR;repeat refine zzCz ?_)
    refine aA (bX g11 (by simp[gS]) ho11.ok (by rw[← hnv2]; rfl)) ?_
    have hov3:(gS kv tv ev mv2 most dU (nK Tb) 0).set 3 ev2=gS kv tv ev2 mv2 most dU (nK Tb) 0:=rfl
    rw[hov3]
    (repeat refine zzC ?_)
    exact hq (j - 1) _ _ _ _ (by omega) ⟨k+1,_,_,mv2,ev2,_,by omega,by omega,e6,e33,e34,rfl,hi11.subs (aZ.refl _) (hi11.frr.mono (by omega)) (by omega)⟩ (aZ.refl _)
   ·(repeat refine zzC ?_)
    refine hx _ _ _ _ (fun e=>by cases e) (eE (dG ?_))
    obtain rfl:k=Tb.entries.length:=by omega
    obtain⟨hfin,hbl⟩:=hi.fin fun b hb=>by have:=hX0 b hb; omega
    have hend:∀ (e':dL) n',e' 6=ptr p→nx'≤n'→yJ ro K e' h' n':=by
     intro e' n' f6 hn'
     unfold yJ
     rw[f6]
     exact⟨h',aZ.refl _,hK1 (by omega) hr p qs h' _ (by omega) (hfh.mono (by omega)) (hs1.trans hsh) (fun b hb=>by have:=hbl b hb; omega) hfin⟩
    exact hend _ _ e6 (by omega)
end
end V
end Go.Proofs.YtcaccnneblghgaaGreat
namespace Go.Proofs.YtcaccnneblghgaaGreat
namespace V
attribute [local irreducible] aB bA aW dM eR gI dH
theorem aOt:eQ Tryz.prog 20 mN=some [1,1,1]:=by kernel_rfl
theorem aSc:aHg [1,1,1] .eql (.agg #[.int .i64 0,.int .i64 0,.int .i64 (-1)]) (.agg #[.int .i64 0,.int .i64 0,.int .i64 (-1)])=some (.bool true):=by kernel_rfl
theorem aSd {a b c:Int} (ha:a≠0):aHg [1,1,1] .eql (.agg #[.int .i64 a,.int .i64 b,.int .i64 c]) (.agg #[.int .i64 0,.int .i64 0,.int .i64 (-1)])=some (.bool false):=by
 simp[aHg,eF,i4,ha]
def ScV (ro:Ro) (h:T Obj) (X:List Nat) (p:Nat) (qs:List oI) (T:TabD) (most er_:Int) (kv tv ev mv bv:Value) (s:ScD):Prop:=h.get p=some (.cells (gS kv tv ev mv most bv s er_).toArray bE) ∧
 Sl ro (del h X) kv 1 (aDC T.kinds)∧Sl ro (del h X) tv 1 (lL T.to)∧iO ro (del h X) ev 260 (wB ro (del h X)) T.entries∧Sl ro (del h X) mv 1 (mK qs)∧Sl ro (del h X) bv 1 (cC s.kept)∧MsX ro h X qs (T.entries.map (·.a)) s.ms∧p∈X∧∀ q∈qs,p ∉ kU q
section
variable {ro:Ro}{h h':T Obj}{nx:Nat}{X X':List Nat}{p:Nat}{qs:List oI}{T:TabD}{most er_ er':Int}{kv tv ev mv bv:Value}{s s':ScD}
theorem ScV.x (hm:ScV ro h X p qs T most er_ kv tv ev mv bv s):ScX ro h X p qs T most er_ s:=⟨kv,tv,ev,mv,bv,hm⟩
theorem ScV.keep {ids:List Nat} (hm:ScV ro h X p qs T most er_ kv tv ev mv bv s) (hs:eB ids h h') (h1:∀ k∈ids,k∈X) (h2:∀ q∈qs,∀ k∈ids,k ∉ kU q) (h0:p ∉ ids) (h3:∀ k∈X',k∈X∨h.get k=none) (h4:∀ k∈X,k∈X'):ScV ro h' X' p qs T most er_ kv tv ev mv bv s:=by
 obtain⟨g1,g2,g3,g4,g5,g6,g7,g8,g9⟩:=hm
 have hD:aZ (del h X) (del h' X'):=hs.del h1 h3
 exact⟨hs _ _ g1 h0,g2.sub hD,g3.sub hD,g4.sub hD (wB.sub hD),g5.sub hD,g6.sub hD,g7.keep hs h1 h2 h3 h4,h4 p g8,g9⟩
theorem ScV.sub (hm:ScV ro h X p qs T most er_ kv tv ev mv bv s) (hs:aZ h h'):ScV ro h' X p qs T most er_ kv tv ev mv bv s:=hm.keep (ids:=[]) hs.keepL (fun k hk=>by cases hk) (fun q hq k hk=>by cases hk) (fun hk=>by cases hk) (fun k hk=>.inl hk) fun k hk=>hk
theorem ScV.upd (hm:ScV ro h X p qs T most er_ kv tv ev mv bv s) (hms:s'.ms=s.ms) (hb:s'.kept=s.kept):ScV ro (h.upd p (some (.cells (gS kv tv ev mv most bv s' er').toArray bE))) X p qs T most er' kv tv ev mv bv s':=by
 obtain⟨g1,g2,g3,g4,g5,g6,g7,g8,g9⟩:=hm
 have hk:eB [p] h (h.upd p (some (.cells (gS kv tv ev mv most bv s' er').toArray bE))):=((aZ.refl _).keepL).upd (by simp)
 have hX:∀ k∈[p],k∈X:=fun k hk=>by simp at hk; subst hk; exact g8
 have hD:aZ (del h X) (del (h.upd p (some (.cells (gS kv tv ev mv most bv s' er').toArray bE))) X):=hk.del hX fun k hk=>.inl hk
 refine⟨V.T.get_upd_same _ _ _,g2.sub hD,g3.sub hD,g4.sub hD (wB.sub hD),g5.sub hD,by rw[hb]; exact g6.sub hD,?_,g8,g9⟩
 rw[hms]
 exact g7.keep hk hX (fun q hq k hk=>by simp at hk; subst hk; exact g9 q hq) (fun k hk=>.inl hk) fun k hk=>hk
theorem ScV.updB {bv':Value} (hm:ScV ro h X p qs T most er_ kv tv ev mv bv s) (hms:s'.ms=s.ms) (hb:Sl ro (del h X) bv' 1 (cC s'.kept)):ScV ro (h.upd p (some (.cells (gS kv tv ev mv most bv' s' er').toArray bE))) X p qs T most er' kv tv ev mv bv' s':=by
 obtain⟨g1,g2,g3,g4,g5,g6,g7,g8,g9⟩:=hm
 have hk:eB [p] h (h.upd p (some (.cells (gS kv tv ev mv most bv' s' er').toArray bE))):=((aZ.refl _).keepL).upd (by simp)
 have hX:∀ k∈[p],k∈X:=fun k hk=>by simp at hk; subst hk; exact g8
 have hD:aZ (del h X) (del (h.upd p (some (.cells (gS kv tv ev mv most bv' s' er').toArray bE))) X):=hk.del hX fun k hk=>.inl hk
 refine⟨V.T.get_upd_same _ _ _,g2.sub hD,g3.sub hD,g4.sub hD (wB.sub hD),g5.sub hD,hb.sub hD,?_,g8,g9⟩
 rw[hms]
 exact g7.keep hk hX (fun q hq k hk=>by simp at hk; subst hk; exact g9 q hq) (fun k hk=>.inl hk) fun k hk=>hk
theorem ScV.step {i:Nat}{q:oI}{d:AutoD}{m':MacD} (hm:ScV ro h X p qs T most er_ kv tv ev mv bv s) (hq:qs[i]?=some q) (hd:(T.entries.map (·.a))[i]?=some d) (hk:eB (q.1::iD q.2) h h') (hn:MI ro h' X q.1 q.2 (er d) m'):ScV ro h' X p qs T most er_ kv tv ev mv bv { s with ms:=s.ms.set i m' }:=by
 obtain⟨g1,g2,g3,g4,g5,g6,g7,g8,g9⟩:=hm
 have hX:=g7.inX hq
 have hD:aZ (del h X) (del h' X):=hk.del hX fun k hk=>.inl hk
 exact⟨hk p _ g1 (g9 q (List.mem_of_getElem? hq)),g2.sub hD,g3.sub hD,g4.sub hD (wB.sub hD),g5.sub hD,g6.sub hD,g7.step hq hd hk hX hn,g8,g9⟩
theorem ScV.at (hm:ScV ro h X p qs T most er_ kv tv ev mv bv s) {i:Nat}{e:EntD}{m:MacD} (he:T.entries[i]?=some e) (hs:s.ms[i]?=some m):∃ q,qs[i]?=some q∧MI ro h X q.1 q.2 (er e.a) m∧(T.entries.map (·.a))[i]?=some e.a:=by
 obtain⟨g1,g2,g3,g4,g5,g6,g7,g8,g9⟩:=hm
 have l1:=g7.lq
 rw[List.length_map] at l1
 have hi:=(List.getElem?_eq_some_iff.1 he).1
 have e3:(T.entries.map (·.a))[i]?=some e.a:=by rw[List.getElem?_map,he]; rfl
 exact⟨_,List.getElem?_eq_getElem (by omega),g7.at_ i _ _ _ (List.getElem?_eq_getElem (by omega)) e3 hs,e3⟩
end
def iB (p:Nat) (qs:List oI):List Nat:=p::qs.flatMap kU
theorem zB {p:Nat}{qs:List oI}{q:oI} (hq:q∈qs):∀ k∈q.1::iD q.2,k∈iB p qs:=fun k hk=>List.mem_cons_of_mem _ (List.mem_flatMap.2 ⟨q,hq,hk⟩)
theorem aHZ:p6 Tryz.prog cI=some 1:=by kernel_rfl
theorem aMP {l:List MacD}{i:Nat}{m:MacD} (h:l[i]?=some m):l.set i m=l:=by
 apply List.ext_getElem?
 intro j
 by_cases hj:i=j
 ·subst hj; rw[List.getElem?_set_self (List.getElem?_eq_some_iff.1 h).1,h]
 ·rw[List.getElem?_set_ne hj]
section
variable {ro:Ro}{h:T Obj}{nx:Nat}{K:KV}{X:List Nat}{p:Nat}{qs:List oI}{T:TabD}{most er_:Int}{kv tv ev mv bv:Value}{s:ScD}
set_option maxRecDepth 8000 in
set_option maxHeartbeats 2000000 in
theorem aNl {K0:Nat}{q:oI}{t0:TryD}{e0:dL} (hT:TabR T) (hI:ScI T s) (hv:ScV ro h X p qs T most er_ kv tv ev mv bv (bZ s t0)) (hf:Fr h nx) (hq:qs[nG s]?=some q) (ht1:t0.took=s.took) (ht2:t0.steps=s.steps) (hlk:LkOk (s.steps+1) (oN T s) t0)
  (heq:aAr (oN T s).a (s.kept.drop s.took) t0=oM T s) (hsz:s.steps+s.kept.length≤90000) (f0:e0 0=ptr p) (f3:e0 3=ptr q.1)
  (hK:∀ h' nx',nx≤nx'→Fr h' nx'→eB (iB p qs) h h'→ScX ro h' X p qs T most er_ (dN T s).2→K (.bool (dN T s).1) h' nx'):lR ro K e0 h nx:=by
 obtain⟨he1,he2,m9,hm9,_⟩:=hI.at
 generalize hD:(oN T s).a=D at *
 have hok:fF D=true:=by rw[← hD]; exact hT.ok _ he2
 have hokE:=aOT hok
 have g1:=hv.1
 have g6:Sl ro (del h X) bv 1 (cC s.kept):=hv.2.2.2.2.2.1
 have hpX:p∈X:=hv.2.2.2.2.2.2.2.1
 have htk:=hI.ok.took
 unfold lR
 rw[f0]
 have l6:=aV (ro:=ro) (z:=0) g1 (show (gS kv tv ev mv most bv (bZ s t0) er_)[6]?=some bv from rfl)
 have l10:=aV (ro:=ro) (z:=0) g1 (show (gS kv tv ev mv most bv (bZ s t0) er_)[10]?=some (.int .i64 (t0.took:Int)) from rfl)
 rw[ht1] at l10
 obtain⟨rv,hrv1,hrv2⟩:=Sl.drop (P:=Tryz.prog) g6 nE aHZ (n:=s.took) (by rw[dJ]; exact htk) .i64
 have hdr:(cC s.kept).drop s.took=cC (s.kept.drop s.took):=by simp[cC]
 rw[hdr] at hrv2
 (have zz:=And.intro @aR (And.intro l6 l10);repeat refine zzCz ?_)
 refine aA hrv1 ?_
 have hrl:=(hrv2.sub (cX h X)).len
 rw[dJ] at hrl
 refine aA hrl ?_
 have hrlen:(s.kept.drop s.took).length=s.kept.length - s.took:=List.length_drop
 have hrb:∀ x∈s.kept.drop s.took,x < 256:=fun x hx=>hI.kb x (List.mem_of_mem_drop hx)
 generalize s.kept.drop s.took=rest at *
 refine bM (fun j e h' nx'=>∃ (i:Nat) (t:TryD),i+j=rest.length∧nx≤nx'∧e 0=ptr p∧e 3=ptr q.1∧e 32=rv∧e 33=.int .i64 rest.length∧e 34=.int .i64 i∧eB (iB p qs) h h'∧Fr h' nx'∧ScV ro h' X p qs T most er_ kv tv ev mv bv (bZ s t) ∧
   Sl ro (del h' X) rv 1 (cC rest)∧t.took=s.took+i∧t.steps=s.steps+i∧LkOk (s.steps+1) (oN T s) t∧aAr D (rest.drop i) t=oM T s) ?_ (n:=rest.length)
  ⟨0,t0,by omega,by omega,f0,f3,rfl,rfl,rfl,(aZ.refl _).keepL,hf.mono (by omega),hv,hrv2,by omega,by omega,hlk,by rw[List.drop_zero]; exact heq⟩
 rintro j e h' nx' ⟨i,t,hj,hnx,e00,e03,e32,e33,e34,hkp,hf',hv',hrv',htt,hts,hlk',hend⟩ Q' hc hx
 have g1':=hv'.1
 have hms:(bZ s t).ms[nG s]?=some t.m:=by
  show (s.ms.set (nG s) t.m)[nG s]?=_
  rw[List.getElem?_set_self (List.getElem?_eq_some_iff.1 hm9).1]
 unfold uJ
 rw[e00,e03,e32,e33,e34]
 refine dS (fun hk=>?_) (fun hk=>?_)
 ·have hk:i < rest.length:=by omega
  have hrvh:=hrv'.sub (cX h' X)
  have hix:=hrvh.ix .i64 (i:=i) (by rw[dJ]; exact hk)
  have hld:=hrvh.load1 (qI hk)
  have hbb:=hrb _ (List.getElem_mem hk)
  have hdrp:rest.drop i=rest[i]::rest.drop (i+1):=List.drop_eq_getElem_cons hk
  rw[hdrp,aCO] at hend
  generalize rest[i]=b at hld hbb hend
  have l10:=aV (ro:=ro) (z:=0) g1' (show (gS kv tv ev mv most bv (bZ s t) er_)[10]?=some (.int .i64 (t.took:Int)) from rfl)
  have hlt:t.took < 90000∧t.steps < 90000:=by omega
  have hov1:(gS kv tv ev mv most bv (bZ s t) er_).set 10 (.int .i64 ((t.took:Int)+1))=gS kv tv ev mv most bv (bZ s { t with took:=t.took+1 }) er_:=rfl
  have hv1:=hv'.upd (s':=bZ s { t with took:=t.took+1 }) (er':=er_) rfl rfl
  have hov2:(gS kv tv ev mv most bv (bZ s { t with took:=t.took+1 }) er_).set 15 (.int .i64 ((t.steps:Int)+1))=gS kv tv ev mv most bv (bZ s { t with took:=t.took+1,steps:=t.steps+1 }) er_:=rfl
  have hf1:Fr (h'.upd p (some (.cells (gS kv tv ev mv most bv (bZ s { t with took:=t.took+1 }) er_).toArray bE))) nx':=hf'.upd (Nat.le_refl _) (hf'.lt' g1')
  have hkp1:eB (iB p qs) h (h'.upd p (some (.cells (gS kv tv ev mv most bv (bZ s { t with took:=t.took+1 }) er_).toArray bE))):=hkp.upd (List.mem_cons_self ..)
  have hD1:aZ (del h' X) (del (h'.upd p (some (.cells (gS kv tv ev mv most bv (bZ s { t with took:=t.took+1 }) er_).toArray bE))) X):=eB.del (ids:=[p]) ((aZ.refl _).keepL.upd (by simp)) (fun k hk=>by simp at hk; subst hk; exact hpX) fun k hk=>.inl hk
  generalize hh1:h'.upd p (some (.cells (gS kv tv ev mv most bv (bZ s { t with took:=t.took+1 }) er_).toArray bE))=h1 at hv1 hf1 hkp1 hD1
  have l15:=aV (ro:=ro) (z:=0) hv1.1 (show (gS kv tv ev mv most bv (bZ s { t with took:=t.took+1 }) er_)[15]?=some (.int .i64 (t.steps:Int)) from rfl)
  have hv2:=hv1.upd (s':=bZ s { t with took:=t.took+1,steps:=t.steps+1 }) (er':=er_) rfl rfl
  have hf2:Fr (h1.upd p (some (.cells (gS kv tv ev mv most bv (bZ s { t with took:=t.took+1,steps:=t.steps+1 }) er_).toArray bE))) nx':=hf1.upd (Nat.le_refl _) (hf'.lt' g1')
  have hkp2:eB (iB p qs) h (h1.upd p (some (.cells (gS kv tv ev mv most bv (bZ s { t with took:=t.took+1,steps:=t.steps+1 }) er_).toArray bE))):=hkp1.upd (List.mem_cons_self ..)
  have hD2:aZ (del h1 X) (del (h1.upd p (some (.cells (gS kv tv ev mv most bv (bZ s { t with took:=t.took+1,steps:=t.steps+1 }) er_).toArray bE))) X):=eB.del (ids:=[p]) ((aZ.refl _).keepL.upd (by simp)) (fun k hk=>by simp at hk; subst hk; exact hpX) fun k hk=>.inl hk
  (repeat refine zzC ?_)
  refine aA hix (aA hld ?_)
  (have zz:=And.intro @aR l10;repeat refine zzCz ?_)
  refine aA (bX g1' (by simp[gS]) rfl rfl) ?_
  rw[hov1,hh1]
  (have zz:=And.intro @aR l15;repeat refine zzCz ?_)
  refine aA (bX hv1.1 (by simp[gS]) rfl rfl) ?_
  rw[hov2]
  generalize hh2:h1.upd p (some (.cells (gS kv tv ev mv most bv (bZ s { t with took:=t.took+1,steps:=t.steps+1 }) er_).toArray bE))=h2 at hv2 hf2 hkp2 hD2
  obtain⟨q2,hq2,hMI,hmap⟩:=hv2.at (m:=t.m) he1 hms
  rw[hq] at hq2
  cases hq2
  rw[hD] at hMI hmap
  have hst:=hlk'.st
  refine aKq hMI hokE (aJE (by rw[← hD]; exact hlk'.mok)) hbb (hf2.mono (by omega)) hlk'.w (by omega) (by omega) fun h3 n3 hn3 hf3 hk3 hM3=>?_
  rw[aTK]
  rw[aQp] at hM3
  have hv3:ScV ro h3 X p qs T most er_ kv tv ev mv bv (bZ s (tk0 D t b)):=by
   have h9:=hv2.step hq hmap hk3 hM3
   have h8:{ (bZ s { t with took:=t.took+1,steps:=t.steps+1 }) with ms:=(bZ s { t with took:=t.took+1,steps:=t.steps+1 }).ms.set (nG s) (jX D t.m b) }=bZ s (tk0 D t b):=by
    unfold bZ tk0
    simp only[List.set_set]
   rw[h8] at h9
   exact h9
  have hqX:=hv2.2.2.2.2.2.2.1.inX hq
  have hkp3:eB (iB p qs) h h3:=hkp2.trans (hk3.mono (zB (List.mem_of_getElem? hq)))
  have hD3:aZ (del h2 X) (del h3 X):=hk3.del hqX fun k hk=>.inl hk
  have hrv3:=hrv'.sub ((hD1.trans hD2).trans hD3)
  have hlk0:=hlk'.tk0 hT he2 hbb
  have hlk1:=hlk'.tk1 hT he2 hbb
  rw[hD] at hlk0 hlk1
  cases hon:onM D t.m b with
  | false =>
   rw[hon] at hend
   have hend:(true,tk0 D t b)=oM T s:=hend
   (repeat refine zzC ?_)
   refine hx _ _ _ _ (fun e=>by cases e) (fP ?_)
   refine⟨h3,aZ.refl _,?_⟩
   have h9:=hK h3 (n3+2) (by omega) (hf3.mono (by omega)) hkp3
   have e1:(dN T s).2=bZ s (tk0 D t b):=by show bZ s (oM T s).2=_; rw[← hend]
   have e2:(dN T s).1=true:=by show ((oM T s).1 || s.closed)=true; rw[← hend]; rfl
   rw[e1,e2] at h9
   exact h9 hv3.x
  | true =>
   rw[hon,if_pos rfl] at hend
   (repeat refine zzC ?_)
   have hM3':MI ro h3 X q.1 q.2 (er D) (tk0 D t b).m:=hM3
   have hmok3:MOk D (tk0 D t b).m:=by rw[← hD]; rw[← hD] at hlk0; exact hlk0.mok
   refine aKp hM3' hokE (aJE hmok3) (hf3.mono (by omega)) fun n4 hn4=>?_
   rw[aQl]
   have hru:nL D (tk0 D t b).m=nL D (jX D t.m b):=rfl
   rw[hru]
   have hnext:∀ (e':dL) (h':V.T Obj) (n':Nat),e' 0=ptr p→e' 3=ptr q.1→e' 32=rv→e' 33=.int .i64 rest.length→e' 34=.int .i64 i→nx≤n'→eB (iB p qs) h h'→Fr h' n'→ScV ro h' X p qs T most er_ kv tv ev mv bv (bZ s (tk1 D t b))→Sl ro (del h' X) rv 1 (cC rest)→lT ro Q' e' h' n':=by
    intro e' h' n' d0 d3 d32 d33 d34 dn dk df dv ds
    unfold lT
    rw[d34]
    (repeat refine zzC ?_)
    exact hc (j - 1) _ _ _ _ (by omega) ⟨i+1,tk1 D t b,by omega,by omega,d0,d3,d32,d33,rfl,dk,df.mono (by omega),dv,ds,by rw[aHa]; omega,by rw[aEy]; omega,hlk1,hend⟩ (aZ.refl _)
   by_cases hr:nL D (jX D t.m b)=-1
   ·have e1:tk1 D t b=tk0 D t b:=by unfold tk1; rw[if_pos hr]
    refine zX (by omega) ?_
    (repeat refine zzC ?_)
    refine hnext _ _ _ e00 e03 e32 e33 e34 ?_ hkp3 ?_ (by rw[e1]; exact hv3) hrv3
    ·omega
    ·exact hf3.mono (by omega)
   ·have e1:tk1 D t b=⟨t.took+1,t.took+1,nL D (jX D t.m b),t.steps+1,jX D t.m b⟩:=by unfold tk1; rw[if_neg hr]
    refine aBa (by omega) ?_
    have l10b:=aV (ro:=ro) (z:=0) hv3.1 (show (gS kv tv ev mv most bv (bZ s (tk0 D t b)) er_)[10]?=some (.int .i64 ((t.took+1:Nat):Int)) from rfl)
    have hov4:(gS kv tv ev mv most bv (bZ s (tk0 D t b)) er_).set 11 (.int .i64 ((t.took+1:Nat):Int))=gS kv tv ev mv most bv (bZ s { tk0 D t b with held:=t.took+1 }) er_:=rfl
    have hv4:=hv3.upd (s':=bZ s { tk0 D t b with held:=t.took+1 }) (er':=er_) rfl rfl
    have hf4:Fr (h3.upd p (some (.cells (gS kv tv ev mv most bv (bZ s { tk0 D t b with held:=t.took+1 }) er_).toArray bE))) n3:=hf3.upd (Nat.le_refl _) (hf3.lt' hv3.1)
    have hkp4:eB (iB p qs) h (h3.upd p (some (.cells (gS kv tv ev mv most bv (bZ s { tk0 D t b with held:=t.took+1 }) er_).toArray bE))):=hkp3.upd (List.mem_cons_self ..)
    have hD4:aZ (del h3 X) (del (h3.upd p (some (.cells (gS kv tv ev mv most bv (bZ s { tk0 D t b with held:=t.took+1 }) er_).toArray bE))) X):=eB.del (ids:=[p]) ((aZ.refl _).keepL.upd (by simp)) (fun k hk=>by simp at hk; subst hk; exact hpX) fun k hk=>.inl hk
    generalize hh4:h3.upd p (some (.cells (gS kv tv ev mv most bv (bZ s { tk0 D t b with held:=t.took+1 }) er_).toArray bE))=h4 at hv4 hf4 hkp4 hD4
    have hov5:(gS kv tv ev mv most bv (bZ s { tk0 D t b with held:=t.took+1 }) er_).set 12 (.int .i64 (nL D (jX D t.m b)))=gS kv tv ev mv most bv (bZ s (tk1 D t b)) er_:=by rw[e1]; rfl
    have hv5:=hv4.upd (s':=bZ s (tk1 D t b)) (er':=er_) (by rw[e1]; rfl) (by rw[e1]; rfl)
    have hf5:Fr (h4.upd p (some (.cells (gS kv tv ev mv most bv (bZ s (tk1 D t b)) er_).toArray bE))) n3:=hf4.upd (Nat.le_refl _) (hf3.lt' hv3.1)
    have hkp5:eB (iB p qs) h (h4.upd p (some (.cells (gS kv tv ev mv most bv (bZ s (tk1 D t b)) er_).toArray bE))):=hkp4.upd (List.mem_cons_self ..)
    have hD5:aZ (del h4 X) (del (h4.upd p (some (.cells (gS kv tv ev mv most bv (bZ s (tk1 D t b)) er_).toArray bE))) X):=eB.del (ids:=[p]) ((aZ.refl _).keepL.upd (by simp)) (fun k hk=>by simp at hk; subst hk; exact hpX) fun k hk=>.inl hk
    (have zz:=And.intro @aR l10b;repeat refine zzCz ?_)
    refine aA (bX hv3.1 (by simp[gS]) rfl rfl) ?_
    rw[hov4,hh4]
    (have zz:=@aR;repeat refine zzCz ?_)
    refine aA (bX hv4.1 (by simp[gS]) rfl rfl) ?_
    rw[hov5]
    refine hnext _ _ _ e00 e03 e32 e33 e34 ?_ hkp5 ?_ hv5 ((hrv3.sub hD4).sub hD5)
    ·omega
    ·exact hf5.mono (by omega)
 ·(repeat refine zzC ?_)
  refine hx _ _ _ _ (fun e=>by cases e) (eE (dG ?_))
  have hil:i=rest.length:=by omega
  rw[hil,List.drop_length] at hend
  have hend:(false,t)=oM T s:=hend
  have hfin:∀ (e':dL) n',e' 0=ptr p→nx'≤n'→lS ro K e' h' n':=by
   intro e' n' d0 dn
   unfold lS
   rw[d0]
   have l14:=aV (ro:=ro) (z:=0) g1' (show (gS kv tv ev mv most bv (bZ s t) er_)[14]?=some (.bool s.closed) from rfl)
   (have zz:=And.intro @aR l14;repeat refine zzCz ?_)
   refine⟨h',aZ.refl _,?_⟩
   have h9:=hK h' (n'+5) (by omega) (hf'.mono (by omega)) hkp
   have e1:(dN T s).2=bZ s t:=by show bZ s (oM T s).2=_; rw[← hend]
   have e2:(dN T s).1=s.closed:=by show ((oM T s).1 || s.closed)=_; rw[← hend]; rfl
   rw[e1,e2] at h9
   exact h9 hv'.x
  exact hfin _ _ e00 (by omega)
set_option maxRecDepth 8000 in
set_option maxHeartbeats 1000000 in
theorem aML (hm:ScX ro h X p qs T most er_ s) (hT:TabR T) (hI:ScI T s) (hTl:T.entries.length≤1000) (hsz:s.steps+s.kept.length≤90000) (hf:Fr h nx)
  (hK:∀ h' nx',nx≤nx'→Fr h' nx'→eB (iB p qs) h h'→ScX ro h' X p qs T most er_ (dN T s).2→K (.bool (dN T s).1) h' nx'):aO Tryz.prog ro pX [ptr p] h nx K:=by
 obtain⟨kv,tv,ev,mv,bv,hv⟩:=id hm
 have hv:ScV ro h X p qs T most er_ kv tv ev mv bv s:=hv
 obtain⟨he1,he2,m,hm9,hm8⟩:=hI.at
 obtain⟨q,hq,hMI,hmap⟩:=hv.at he1 hm9
 have hc:=hI.c
 have hok:=hT.ok _ he2
 obtain⟨mk1,mk2,mk3⟩:=hI.ms _ _ _ he1 hm9
 have hC512:(er (oN T s).a).counts.length≤512:=(eV hok).2.1
 have g1:=hv.1
 apply aCC
 unfold yN
 have l4:=aV (ro:=ro) (z:=0) g1 (show (gS kv tv ev mv most bv s er_)[4]?=some mv from rfl)
 have hmv:Sl ro h mv 1 (mK qs):=hv.2.2.2.2.1.sub (cX h X)
 (have zz:=@aR;repeat refine zzCz ?_)
 refine aA l4 ?_
 refine aET hm (by omega) fun n1 hn1=>⟨eL g1 g1,?_⟩
 have hql:=(List.getElem?_eq_some_iff.1 hq).1
 have hqe:=(List.getElem?_eq_some_iff.1 hq).2
 refine aA (hmv.ix .i64 (by rw[nP]; exact hql)) ?_
 have hld:=hmv.load1 (aCX hql)
 rw[hqe] at hld
 refine aA hld ?_
 have LA:=aGo (ro:=ro) (z:=0) (off:=10) (n:=3) g1 (by simp[gS])
 have hdt:((gS kv tv ev mv most bv s er_).drop 10).take 3=[.int .i64 (s.took:Int),.int .i64 (s.held:Int),.int .i64 s.rule]:=rfl
 rw[hdt] at LA
 (have zz:=@aR;repeat refine zzCz ?_)
 refine aA LA ?_
 refine aA aE4 ?_
 refine aA aOt ?_
 by_cases ht:s.took=0
 ·have hh0:s.held=0:=by have:=hI.ok.held; omega
  have hr0:s.rule=-1:=by
   by_cases hr:s.rule=-1
   ·exact hr
   ·have:=hI.ok.some hr; omega
  rw[ht,hh0,hr0]
  refine aA aSc ?_
  (repeat refine zzC ?_)
  refine aJV hMI (aJE mk1) hC512 (hf.mono (by omega)) mk2 (by omega) fun h2 n2 hn2 hf2 hk2 hM2=>?_
  have hv2:=hv.step hq hmap hk2 hM2
  have hts:tM s=⟨s.took,s.held,s.rule,s.steps,aBv m⟩:=by unfold tM; rw[if_pos ht,hm8]
  refine aNl (K0:=0) (kv:=kv) (tv:=tv) (ev:=ev) (mv:=mv) (bv:=bv) (q:=q) (t0:=tM s) hT hI ?_ hf2 hq rfl rfl (hI.lk hT) rfl hsz rfl rfl fun h' n' h3 h4 h5 h6=>hK h' n' (by omega) h4 ((hk2.mono (zB (List.mem_of_getElem? hq))).trans h5) h6
  rw[hts]
  exact hv2
 ·refine aA (aSd (by omega)) ?_
  (repeat refine zzC ?_)
  have hts:tM s=⟨s.took,s.held,s.rule,s.steps,m⟩:=by unfold tM; rw[if_neg ht,hm8]
  refine aNl (K0:=0) (kv:=kv) (tv:=tv) (ev:=ev) (mv:=mv) (bv:=bv) (q:=q) (t0:=tM s) hT hI ?_ (hf.mono (by omega)) hq rfl rfl (hI.lk hT) rfl hsz rfl rfl fun h' n' h3 h4 h5 h6=>hK h' n' (by omega) h4 h5 h6
  rw[hts]
  have:bZ s ⟨s.took,s.held,s.rule,s.steps,m⟩=s:=by
   unfold bZ
   simp only[aMP hm9]
  rw[this]
  exact hv
end
end V
end Go.Proofs.YtcaccnneblghgaaGreat
namespace Go.Proofs.YtcaccnneblghgaaGreat
namespace V
attribute [local irreducible] tP aO aB
@[irreducible] def zF (ro:Ro) (K:KV):dL→T Obj→Nat→Prop:=fun e h nx=>∃ h5,aZ h5 h∧K (Value.bool true) h5 (nx+1)
@[irreducible] def aCt (ro:Ro):PT:=fun e h nx Q=>aB (bS (e 0)) fun a'=>aB (aQ .lss (e 5) a') fun b'=>aW b' (aB (cQ 3 (e 0) (e 5)) fun c'=>aB (loadA ro h 3 c') fun d'=>aB (cQ 3 (e 1) (e 5)) fun e'=>aB (loadA ro h 3 e') fun f'=>aB (eQ Tryz.prog 20 a9) fun i'=>aB (aHg i' .neq d' f') fun g'=>aW g' (Q .ret (puts e [(11,(e 5)),(12,(e 0)),(13,a'),(14,b'),(17,(e 0)),(18,(e 5)),(19,c'),(20,d'),(21,(e 1)),(22,(e 5)),(23,e'),(24,f'),(25,g'),(4,(Value.bool false))]) h (nx+14)) (aB (aQ .add (e 5) (Value.int IntKind.i64 1)) fun h'=>Q .normal (puts e [(11,(e 5)),(12,(e 0)),(13,a'),(14,b'),(17,(e 0)),(18,(e 5)),(19,c'),(20,d'),(21,(e 1)),(22,(e 5)),(23,e'),(24,f'),(25,g'),(15,(e 5)),(16,h'),(5,h')]) h (nx+16))) (Q (.exit 0) (puts e [(11,(e 5)),(12,(e 0)),(13,a'),(14,b')]) h (nx+4))
@[irreducible] def aHR (ro:Ro) (v0 v1:Value) (h:T Obj) (nx:Nat) (K:KV):Prop:=aB (bS v0) fun d'=>aB (bS v1) fun e'=>aB (aQ .neq d' e') fun f'=>aW f' (∃ h4,aZ h4 h∧K (Value.bool false) h4 (nx+7)) (dZ (aCt ro) (puts (fT [v0,v1]) [(4,(Value.bool false)),(6,v0),(7,d'),(8,v1),(9,e'),(10,f'),(5,(Value.int IntKind.i64 0))]) h (nx+7) fun h' a' b' c'=>gI h' (zF ro K a' b' c') (fun i'=>dH (Nat.beq i' 0) (zF ro K a' b' c') (False)) (∃ g',aZ g' b'∧K (a' 4) g' c'))
theorem aIL {ro:Ro}{v0 v1:Value}{h:T Obj}{nx:Nat}{K:KV} (hw:aHR ro v0 v1 h nx K):aO Tryz.prog ro vL [v0,v1] h nx K:=zzO (fn:=Tryz.f17) hw
end V
end Go.Proofs.YtcaccnneblghgaaGreat
namespace Go.Proofs.YtcaccnneblghgaaGreat
namespace V
attribute [local irreducible] aB bA aW dM eR gI dH
def i0 (t:TokD):List Value:=[.int .i64 t.rule,.int .i64 (t.from_:Int),.int .i64 (t.to:Int)]
def iX (l:List TokD):List (List Value):=l.map i0
theorem tK (l:List TokD):(iX l).length=l.length:=by simp[iX]
theorem aJB {l:List TokD}{i:Nat} (hi:i < l.length):(iX l)[i]?=some (i0 l[i]):=by simp[iX,hi]
theorem aOs:eQ Tryz.prog 20 a9=some [1,1,1]:=by kernel_rfl
theorem aRi (a b:TokD):aHg [1,1,1] .neq (.agg (i0 a).toArray) (.agg (i0 b).toArray)=some (.bool (!decide (a=b))):=by
 obtain⟨r,f,t⟩:=a
 obtain⟨r',f',t'⟩:=b
 unfold aHg i0
 by_cases h1:r=r'
 ·by_cases h2:f=f'
  ·by_cases h3:t=t'
   ·subst h1; subst h2; subst h3; simp[eF,i4]
   ·have:¬((t:Int)=(t':Int)):=by omega
    simp[eF,i4,h1,h2,h3,this]
  ·have:¬((f:Int)=(f':Int)):=by omega
   simp[eF,i4,h1,h2,this]
 ·simp[eF,i4,h1]
section
variable {ro:Ro}{h:T Obj}{nx:Nat}{K:KV}
set_option maxRecDepth 4000 in
theorem aEO {v1 v2:Value}{l m:List TokD} (hl:l.length≤1000000) (hm:m.length≤1000000) (g1:Sl ro h v1 3 (iX l)) (g2:Sl ro h v2 3 (iX m)) (hK:∀ nx',nx≤nx'→K (.bool (decide (l=m))) h nx'):aO Tryz.prog ro vL [v1,v2] h nx K:=by
 have n1:=g1.len
 have n2:=g2.len
 rw[tK] at n1 n2
 apply aIL
 unfold aHR
 refine aA n1 (aA n2 ?_)
 by_cases hlm:l.length=m.length
 ·refine zX (by omega) ?_
  (repeat refine zzC ?_)
  refine bM (fun j e h' nx'=>∃ k:Nat,k+j=l.length∧nx≤nx'∧e 0=v1∧e 1=v2∧e 5=.int .i64 k∧h'=h∧l.take k=m.take k) ?_ (n:=l.length) ⟨0,by omega,by omega,rfl,rfl,rfl,rfl,rfl⟩
  rintro j e h' nx' ⟨k,hkj,hnx,e0,e1,e5,rfl,hq⟩ Q' hc hx
  unfold aCt
  rw[e0,e1,e5]
  refine aA n1 ?_
  refine dS (fun hk=>?_) (fun hk=>?_)
  ·have hk:k < l.length:=by omega
   have i1:=g1.ix .i64 (i:=k) (by rw[tK]; exact hk)
   have i2:=g2.ix .i64 (i:=k) (by rw[tK]; omega)
   have a1:=g1.loadA (aJB hk)
   have a2:=g2.loadA (aJB (show k < m.length by omega))
   (repeat refine zzC ?_)
   refine aA i1 (aA a1 (aA i2 (aA a2 (aA aOs (aA (aRi _ _) ?_)))))
   by_cases he:l[k]=m[k]'(by omega)
   ·rw[decide_eq_true he,Bool.not_true]
    (repeat refine zzC ?_)
    refine hc (j - 1) _ _ _ _ (by omega) ⟨k+1,by omega,by omega,e0,e1,rfl,rfl,?_⟩ (aZ.refl _)
    rw[List.take_succ_eq_append_getElem hk,List.take_succ_eq_append_getElem (show k < m.length by omega),hq,he]
   ·rw[decide_eq_false he,Bool.not_false]
    (repeat refine zzC ?_)
    refine hx _ _ _ _ (fun e=>by cases e) (fP ?_)
    have:decide (l=m)=false:=decide_eq_false fun e=>by subst e; exact he rfl
    rw[this] at hK
    exact⟨_,aZ.refl _,hK _ (by omega)⟩
  ·(repeat refine zzC ?_)
   refine hx _ _ _ _ (fun e=>by cases e) (eE (dG ?_))
   unfold zF
   have:decide (l=m)=true:=decide_eq_true (by
    rw[List.take_of_length_le (by omega),List.take_of_length_le (by omega)] at hq
    exact hq)
   rw[this] at hK
   exact⟨_,aZ.refl _,hK _ (by omega)⟩
 ·refine aBa (by omega) ?_
  (repeat refine zzC ?_)
  have:decide (l=m)=false:=decide_eq_false fun e=>hlm (by rw[e])
  rw[this] at hK
  exact⟨_,aZ.refl _,hK _ (by omega)⟩
end
end V
end Go.Proofs.YtcaccnneblghgaaGreat
namespace Go.Proofs.YtcaccnneblghgaaGreat
namespace V
attribute [local irreducible] aB bA aW dM eR gI dH
theorem yQ:nF Tryz.prog a9=some (.agg #[.int .i64 0,.int .i64 0,.int .i64 0]):=by kernel_rfl
theorem aIW (a b c:Int):fG Tryz.prog a9 [(0,.int .i64 a),(1,.int .i64 b),(2,.int .i64 c)]=some (.agg #[.int .i64 a,.int .i64 b,.int .i64 c]):=by kernel_rfl
section
variable {ro:Ro}{h h0 h':T Obj}{nx nx0:Nat}{K:KV}{X:List Nat}{p:Nat}{qs:List oI}{T:TabD}{most er_ er':Int}{kv tv ev mv bv:Value}{s s':ScD}
theorem ScV.fin {bv':Value} (hm:ScV ro h0 X p qs T most er_ kv tv ev mv bv s) (hk:eB [p] h0 h') (hg:h'.get p=some (.cells (gS kv tv ev mv most bv' s' er').toArray bE)) (hms:s'.ms=s.ms) (hb:Sl ro (del h0 X) bv' 1 (cC s'.kept)):ScV ro h' X p qs T most er' kv tv ev mv bv' s':=by
 obtain⟨g1,g2,g3,g4,g5,g6,g7,g8,g9⟩:=hm
 have hX:∀ k∈[p],k∈X:=fun k hk=>by simp at hk; subst hk; exact g8
 have hD:aZ (del h0 X) (del h' X):=hk.del hX fun k hk=>.inl hk
 refine⟨hg,g2.sub hD,g3.sub hD,g4.sub hD (wB.sub hD),g5.sub hD,hb.sub hD,?_,g8,g9⟩
 rw[hms]
 exact g7.keep hk hX (fun q hq k hk=>by simp at hk; subst hk; exact g9 q hq) (fun k hk=>.inl hk) fun k hk=>hk
set_option maxRecDepth 8000 in
set_option maxHeartbeats 2000000 in
theorem aPl {tb rb:Nat}{e0:dL} (hv:ScV ro h0 X p qs T most er_ kv tv ev mv bv s) (hT:TabR T) (hI:ScI T s) (hk:s.kept≠[]) (hsz:s.at_+s.kept.length≤90000) (hf:Fr h nx) (hf0:Fr h0 nx0) (hs:aZ h0 h) (htb:nx0≤tb) (hrb:nx0≤rb) (hne:rb≠tb)
  (gt:h.get tb=some (.cells (i0 (jQ T s)).toArray a9)) (gr:h.get rb=some (.cells [Value.int .i64 0,.int .i64 0,.int .i64 0].toArray a9)) (f0:e0 0=ptr p) (f2:e0 2=ptr rb) (f3:e0 3=ptr tb) (hn:nx0≤nx)
  (hK:∀ h' nx',nx≤nx'→Fr h' nx'→eB [p] h0 h'→ScX ro h' X p qs T most er_ (kY T s)→K (.agg (i0 (jQ T s)).toArray) h' nx'):mB ro K e0 h nx:=by
 obtain⟨hl1,hl2⟩:=aAY hI.ok hk
 have g10:=hv.1
 have g1:=hs _ _ g10
 have hplt:=hf0.lt' g10
 have hbv:Sl ro (del h0 X) bv 1 (cC s.kept):=hv.2.2.2.2.2.1
 have hpX:p∈X:=hv.2.2.2.2.2.2.2.1
 have hbvh:=(hbv.sub (cX h0 X)).sub hs
 unfold mB
 rw[f0,f3]
 have t0:=aV (ro:=ro) (z:=0) gt (show (i0 (jQ T s))[0]?=some (.int .i64 (gR T s)) from rfl)
 have t1:=aV (ro:=ro) (z:=0) gt (show (i0 (jQ T s))[1]?=some (.int .i64 (s.at_:Int)) from rfl)
 have t2:=aV (ro:=ro) (z:=0) gt (show (i0 (jQ T s))[2]?=some (.int .i64 ((s.at_+eC s:Nat):Int)) from rfl)
 have l6:=aV (ro:=ro) (z:=0) g1 (show (gS kv tv ev mv most bv s er_)[6]?=some bv from rfl)
 (repeat refine zzC ?_)
 refine aA t2 ?_
 (repeat refine zzC ?_)
 refine aA t1 ?_
 have hsub1:aQ .sub (.int .i64 ((s.at_+eC s:Nat):Int)) (.int .i64 (s.at_:Int))=some (.int .i64 (eC s:Int)):=by
  rw[dK,show ((s.at_+eC s:Nat):Int) - (s.at_:Int)=(eC s:Int) by omega,dT (by omega) (by omega)]
 refine aA hsub1 ?_
 (have zz:=And.intro @aR l6;repeat refine zzCz ?_)
 rw[show ((eC s:Nat):Int) - 1=((eC s - 1:Nat):Int) by omega]
 refine aA (hbvh.ix .i64 (by rw[dJ]; omega)) ?_
 refine aA (hbvh.load1 (qI (show eC s - 1 < s.kept.length by omega))) ?_
 have hline:aQ .eql (.int .u8 (s.kept[eC s - 1]:Nat)) (.int .u8 10)=some (.bool (decide (s.kept.getD (eC s - 1) 0=10))):=by
  rw[bD,List.getD_eq_getElem?_getD,List.getElem?_eq_getElem (show eC s - 1 < s.kept.length by omega)]
  have:(((s.kept[eC s - 1]:Nat):Int)=10) ↔ ((some s.kept[eC s - 1]).getD 0=10):=by
   show (((s.kept[eC s - 1]:Nat):Int)=10) ↔ (s.kept[eC s - 1]=10)
   omega
  simp only[this]
 refine aA hline ?_
 (have zz:=@aR;repeat refine zzCz ?_)
 generalize hL:decide (s.kept.getD (eC s - 1) 0=10)=L
 refine aA (bX g1 (by simp[gS]) rfl rfl) ?_
 have hov1:(gS kv tv ev mv most bv s er_).set 8 (.bool L)=gS kv tv ev mv most bv { s with line:=L } er_:=rfl
 rw[hov1]
 generalize hh1:h.upd p (some (.cells (gS kv tv ev mv most bv { s with line:=L } er_).toArray bE))=h1
 have g2:h1.get p=some (.cells (gS kv tv ev mv most bv { s with line:=L } er_).toArray bE):=by rw[← hh1,V.T.get_upd_same]
 have gt1:h1.get tb=some (.cells (i0 (jQ T s)).toArray a9):=by rw[← hh1,V.T.get_upd_ne _ _ (by omega)]; exact gt
 have gr1:h1.get rb=some (.cells [Value.int .i64 0,.int .i64 0,.int .i64 0].toArray a9):=by rw[← hh1,V.T.get_upd_ne _ _ (by omega)]; exact gr
 have hk1:eB [p] h0 h1:=by rw[← hh1]; exact hs.keepL.upd (by simp)
 have hf1:Fr h1 nx:=by rw[← hh1]; exact hf.upd (Nat.le_refl _) (by omega)
 have l62:=aV (ro:=ro) (z:=0) g2 (show (gS kv tv ev mv most bv { s with line:=L } er_)[6]?=some bv from rfl)
 (have zz:=And.intro @aR l62;repeat refine zzCz ?_)
 obtain⟨rv,hrv1,hrv2⟩:=Sl.drop (P:=Tryz.prog) hbv nE aHZ (n:=eC s) (by rw[dJ]; exact hl2) .i64
 have hdr:(cC s.kept).drop (eC s)=cC (s.kept.drop (eC s)):=by simp[cC]
 rw[hdr] at hrv2
 refine aA hrv1 ?_
 have t21:=aV (ro:=ro) (z:=0) gt1 (show (i0 (jQ T s))[2]?=some (.int .i64 ((s.at_+eC s:Nat):Int)) from rfl)
 (repeat refine zzC ?_)
 refine aA t21 ?_
 have hrvf:∃ o n c,rv=.slice o n c:=by
  rcases hrv2 with ⟨h9,_⟩ | ⟨a,c,h9,_⟩
  ·exact⟨_,_,_,h9⟩
  ·exact⟨_,_,_,h9⟩
 (have zz:=@aR;repeat refine zzCz ?_)
 refine aA (bX g2 (by simp[gS]) hrv2.ok (by obtain⟨o,n,c,h9⟩:=hrvf; rw[h9]; rfl)) ?_
 have hov2:(gS kv tv ev mv most bv { s with line:=L } er_).set 6 rv=gS kv tv ev mv most rv { s with line:=L,kept:=s.kept.drop (eC s) } er_:=rfl
 rw[hov2]
 generalize hh2:h1.upd p (some (.cells (gS kv tv ev mv most rv { s with line:=L,kept:=s.kept.drop (eC s) } er_).toArray bE))=h2
 have g3:h2.get p=some (.cells (gS kv tv ev mv most rv { s with line:=L,kept:=s.kept.drop (eC s) } er_).toArray bE):=by rw[← hh2,V.T.get_upd_same]
 have gt2:h2.get tb=some (.cells (i0 (jQ T s)).toArray a9):=by rw[← hh2,V.T.get_upd_ne _ _ (by omega)]; exact gt1
 have gr2:h2.get rb=some (.cells [Value.int .i64 0,.int .i64 0,.int .i64 0].toArray a9):=by rw[← hh2,V.T.get_upd_ne _ _ (by omega)]; exact gr1
 have hk2:eB [p] h0 h2:=by rw[← hh2]; exact hk1.upd (by simp)
 have hf2:Fr h2 nx:=by rw[← hh2]; exact hf1.upd (Nat.le_refl _) (by omega)
 refine⟨eL gt1 gt2,?_⟩
 (have zz:=@aR;repeat refine zzCz ?_)
 refine aA (bX g3 (by simp[gS]) rfl rfl) ?_
 have hov3:(gS kv tv ev mv most rv { s with line:=L,kept:=s.kept.drop (eC s) } er_).set 7 (.int .i64 ((s.at_+eC s:Nat):Int))=gS kv tv ev mv most rv { s with line:=L,kept:=s.kept.drop (eC s),at_:=s.at_+eC s } er_:=rfl
 rw[hov3]
 generalize hh3:h2.upd p (some (.cells (gS kv tv ev mv most rv { s with line:=L,kept:=s.kept.drop (eC s),at_:=s.at_+eC s } er_).toArray bE))=h3
 have g4:h3.get p=some (.cells (gS kv tv ev mv most rv { s with line:=L,kept:=s.kept.drop (eC s),at_:=s.at_+eC s } er_).toArray bE):=by rw[← hh3,V.T.get_upd_same]
 have gt3:h3.get tb=some (.cells (i0 (jQ T s)).toArray a9):=by rw[← hh3,V.T.get_upd_ne _ _ (by omega)]; exact gt2
 have gr3:h3.get rb=some (.cells [Value.int .i64 0,.int .i64 0,.int .i64 0].toArray a9):=by rw[← hh3,V.T.get_upd_ne _ _ (by omega)]; exact gr2
 have hk3:eB [p] h0 h3:=by rw[← hh3]; exact hk2.upd (by simp)
 have hf3:Fr h3 nx:=by rw[← hh3]; exact hf2.upd (Nat.le_refl _) (by omega)
 refine aA aE4 ?_
 (have zz:=@aR;repeat refine zzCz ?_)
 refine aA (aH3 (vs:=[.int .i64 0,.int .i64 0,.int .i64 (-1)]) g4 rfl rfl (by simp[gS]) rfl) ?_
 have hov4:over (gS kv tv ev mv most rv { s with line:=L,kept:=s.kept.drop (eC s),at_:=s.at_+eC s } er_) 10 [.int .i64 0,.int .i64 0,.int .i64 (-1)]=gS kv tv ev mv most rv { s with line:=L,kept:=s.kept.drop (eC s),at_:=s.at_+eC s,took:=0,held:=0,rule:=-1 } er_:=rfl
 rw[hov4]
 generalize hh4:h3.upd p (some (.cells (gS kv tv ev mv most rv { s with line:=L,kept:=s.kept.drop (eC s),at_:=s.at_+eC s,took:=0,held:=0,rule:=-1 } er_).toArray bE))=h4
 have g5:h4.get p=some (.cells (gS kv tv ev mv most rv { s with line:=L,kept:=s.kept.drop (eC s),at_:=s.at_+eC s,took:=0,held:=0,rule:=-1 } er_).toArray bE):=by rw[← hh4,V.T.get_upd_same]
 have gt4:h4.get tb=some (.cells (i0 (jQ T s)).toArray a9):=by rw[← hh4,V.T.get_upd_ne _ _ (by omega)]; exact gt3
 have gr4:h4.get rb=some (.cells [Value.int .i64 0,.int .i64 0,.int .i64 0].toArray a9):=by rw[← hh4,V.T.get_upd_ne _ _ (by omega)]; exact gr3
 have hk4:eB [p] h0 h4:=by rw[← hh4]; exact hk3.upd (by simp)
 have hf4:Fr h4 nx:=by rw[← hh4]; exact hf3.upd (Nat.le_refl _) (by omega)
 have hj2:∀ (e':dL) (h5:V.T Obj) (n':Nat),e' 2=ptr rb→e' 3=ptr tb→nx≤n'→Fr h5 n'→eB [p] h0 h5→h5.get tb=some (.cells (i0 (jQ T s)).toArray a9)→h5.get rb=some (.cells [Value.int .i64 0,.int .i64 0,.int .i64 0].toArray a9) →
   h5.get p=some (.cells (gS kv tv ev mv most rv (kY T s) er_).toArray bE)→mC ro K e' h5 n':=by
  intro e' h5 n' d2 d3 dn df dk dt dr dp
  unfold mC
  rw[d2,d3]
  refine aA (dW dt rfl) ?_
  refine aA (nD (vs:=i0 (jQ T s)) dr rfl rfl rfl rfl) ?_
  refine aA (dW (by rw[V.T.get_upd_same]) rfl) ?_
  refine⟨_,aZ.refl _,hK _ _ (by omega) ((df.mono (by omega)).upd (Nat.le_refl _) (by have:=df.lt' dr; omega)) ?_ ?_⟩
  ·intro k o hko hnk
   have:=hf0.lt' hko
   rw[V.T.get_upd_ne _ _ (by omega)]
   exact dk k o hko hnk
  ·refine (ScV.fin hv (bv':=rv) (s':=kY T s) (er':=er_) ?_ ?_ rfl hrv2).x
   ·intro k o hko hnk
    have:=hf0.lt' hko
    rw[V.T.get_upd_ne _ _ (by omega)]
    exact dk k o hko hnk
   ·rw[V.T.get_upd_ne _ _ (by omega)]
    exact dp
 have t04:=aV (ro:=ro) (z:=0) gt4 (show (i0 (jQ T s))[0]?=some (.int .i64 (gR T s)) from rfl)
 (repeat refine zzC ?_)
 refine aA t04 ?_
 by_cases hr:gR T s=-1
 ·have hcut:kY T s={ s with line:=L,kept:=s.kept.drop (eC s),at_:=s.at_+eC s,took:=0,held:=0,rule:=-1 }:=by
   unfold kY aCa
   rw[hL,if_neg (by rw[hr]; simp)]
  refine zX hr ?_
  (repeat refine zzC ?_)
  refine hj2 _ _ _ f2 f3 ?_ ?_ hk4 gt4 gr4 (by rw[hcut]; exact g5)
  ·omega
  ·exact hf4.mono (by omega)
 ·obtain⟨he1,he2,m9,hm9,_⟩:=hI.at
  have hrng:0≤gR T s∧gR T s < T.kinds.length:=by
   have hsr:s.rule≠-1:=fun e=>hr (by unfold gR; rw[if_pos e])
   have h9:=hI.ru.resolve_left hsr
   unfold gR
   rw[if_neg hsr,List.getD_eq_getElem?_getD,List.getElem?_eq_getElem (show s.rule.toNat < (oN T s).rules.length by omega)]
   exact hT.rk _ he2 _ (List.getElem_mem _)
  have htl:(gR T s).toNat < T.to.length:=by rw[hT.to]; omega
  have htv:Sl ro h4 tv 1 (lL T.to):=hv.2.2.1.sub (hk4.delS fun k hk=>by simp at hk; subst hk; exact hpX)
  have hix:=Sl.ixI htv .i64 hrng.1 (by rw[fB]; omega)
  have hld:=htv.load1 (j6 htl)
  have htb9:=hT.tb _ (List.getElem_mem htl)
  have hcl:=hT.len
  have hgd:T.to.getD (gR T s).toNat 0=T.to[(gR T s).toNat]:=by rw[List.getD_eq_getElem?_getD,List.getElem?_eq_getElem htl]; rfl
  generalize T.to[(gR T s).toNat]=tv9 at hld htb9 hgd
  have l24:=aV (ro:=ro) (z:=0) g5 (show (gS kv tv ev mv most rv { s with line:=L,kept:=s.kept.drop (eC s),at_:=s.at_+eC s,took:=0,held:=0,rule:=-1 } er_)[2]?=some tv from rfl)
  refine aBa hr ?_
  (have zz:=And.intro @aR (And.intro l24 t04);repeat refine zzCz ?_)
  refine aA hix ?_
  (repeat refine zzC ?_)
  refine aA hld ?_
  (repeat refine zzC ?_)
  by_cases htv0:0≤tv9
  ·refine aGe htv0 ?_
   (have zz:=And.intro @aR (And.intro l24 t04);repeat refine zzCz ?_)
   refine aA hix ?_
   (repeat refine zzC ?_)
   refine aA hld ?_
   (have zz:=@aR;repeat refine zzCz ?_)
   have hcut:kY T s={ s with line:=L,kept:=s.kept.drop (eC s),at_:=s.at_+eC s,took:=0,held:=0,rule:=-1,cond:=tv9.toNat }:=by
    unfold kY aCa
    rw[hL,hgd,if_pos ⟨hr,htv0⟩]
   refine aA (bX g5 (by simp[gS]) rfl rfl) ?_
   have hov5:(gS kv tv ev mv most rv { s with line:=L,kept:=s.kept.drop (eC s),at_:=s.at_+eC s,took:=0,held:=0,rule:=-1 } er_).set 9 (.int .i64 tv9)=gS kv tv ev mv most rv (kY T s) er_:=by
    rw[hcut]
    obtain⟨n9,rfl⟩:∃ n9:Nat,tv9=(n9:Int):=⟨tv9.toNat,by omega⟩
    rfl
   rw[hov5]
   refine hj2 _ _ _ f2 f3 ?_ ?_ ?_ ?_ ?_ ?_
   ·omega
   ·exact (hf4.mono (by omega)).upd (Nat.le_refl _) (by omega)
   ·exact hk4.upd (by simp)
   ·rw[V.T.get_upd_ne _ _ (by omega)]; exact gt4
   ·rw[V.T.get_upd_ne _ _ (by omega)]; exact gr4
   ·rw[V.T.get_upd_same]
  ·refine aGd (by omega) ?_
   (repeat refine zzC ?_)
   have hcut:kY T s={ s with line:=L,kept:=s.kept.drop (eC s),at_:=s.at_+eC s,took:=0,held:=0,rule:=-1 }:=by
    unfold kY aCa
    rw[hL,hgd,if_neg (fun e=>htv0 e.2)]
   refine hj2 _ _ _ f2 f3 ?_ ?_ hk4 gt4 gr4 (by rw[hcut]; exact g5)
   ·omega
   ·exact hf4.mono (by omega)
set_option maxRecDepth 8000 in
set_option maxHeartbeats 2000000 in
theorem aNX (hm:ScX ro h X p qs T most er_ s) (hT:TabR T) (hI:ScI T s) (hTl:T.entries.length≤1000) (hk:s.kept≠[]) (hsz:s.at_+s.kept.length≤90000) (hf:Fr h nx)
  (hK:∀ h' nx',nx≤nx'→Fr h' nx'→eB [p] h h'→ScX ro h' X p qs T most er_ (kY T s)→K (.agg (i0 (jQ T s)).toArray) h' nx'):aO Tryz.prog ro qL [ptr p] h nx K:=by
 obtain⟨kv,tv,ev,mv,bv,hv⟩:=id hm
 have hv:ScV ro h X p qs T most er_ kv tv ev mv bv s:=hv
 obtain⟨he1,he2,m9,hm9,_⟩:=hI.at
 have g0:=hv.1
 have hpl:=hf.lt' g0
 have hc:=hI.c
 have hat:s.at_≤90000:=by omega
 have hkl:0 < s.kept.length:=List.length_pos_iff.2 hk
 apply aC5
 unfold z8
 refine aA yQ ?_
 refine aDV (m:=nx) hf (Nat.le_refl _) fun h1 hs1 hf1 g1 _=>?_
 have g1:h1.get nx=some (.cells [Value.int .i64 0,.int .i64 0,.int .i64 0].toArray a9):=g1
 have g01:=hs1 _ _ g0
 have l7:=aV (ro:=ro) (z:=0) g01 (show (gS kv tv ev mv most bv s er_)[7]?=some (.int .i64 (s.at_:Int)) from rfl)
 (have zz:=And.intro @aR l7;repeat refine zzCz ?_)
 refine aA (aIW _ _ _) ?_
 refine jB (x:=[.int .i64 (-1),.int .i64 (s.at_:Int),.int .i64 ((s.at_:Int)+1)]) (n:=3) yQ rfl rfl rfl rfl hf1 (by omega) fun h2 hs2 hf2 g2 _=>?_
 have g02:=hs2 _ _ g01
 have g12:=hs2 _ _ g1
 have l12:=aV (ro:=ro) (z:=0) g02 (show (gS kv tv ev mv most bv s er_)[12]?=some (.int .i64 s.rule) from rfl)
 (have zz:=And.intro @aR l12;repeat refine zzCz ?_)
 by_cases hr:s.rule=-1
 ·refine zX hr ?_
  (repeat refine zzC ?_)
  have htok:i0 (jQ T s)=[.int .i64 (-1),.int .i64 (s.at_:Int),.int .i64 ((s.at_:Int)+1)]:=by
   unfold jQ i0 gR eC
   rw[if_pos hr,if_pos hr]; rfl
  refine aPl (kv:=kv) (tv:=tv) (ev:=ev) (mv:=mv) (bv:=bv) (tb:=nx+11) (rb:=nx) hv hT hI hk hsz ?_ hf (hs1.trans hs2) (by omega) (by omega) (by omega) (by rw[htok]; exact g2) g12 rfl rfl rfl (by omega) fun h' n' h3 h4 h5 h6=>hK h' n' (by omega) h4 h5 h6
  exact hf2.mono (by omega)
 ·refine aBa hr ?_
  have hru:=hI.ru.resolve_left hr
  have hev:=hv.2.2.2.1
  have hev2:iO ro h2 ev 260 (wB ro h2) T.entries:=hev.sub ((cX h X).trans (hs1.trans hs2)) (wB.sub ((cX h X).trans (hs1.trans hs2)))
  have l3:=aV (ro:=ro) (z:=0) g02 (show (gS kv tv ev mv most bv s er_)[3]?=some ev from rfl)
  (have zz:=And.intro @aR l3;repeat refine zzCz ?_)
  have hm2:ScX ro h2 X p qs T most er_ s:=(hv.sub (hs1.trans hs2)).x
  refine aET hm2 (by omega) fun n1 hn1=>⟨eL g02 g02,?_⟩
  have hel:=(List.getElem?_eq_some_iff.1 he1).1
  have hee:=(List.getElem?_eq_some_iff.1 he1).2
  obtain⟨y,⟨rv,hy0,hrv⟩,hy2,hy3,hy4,hy5⟩:=hev2.at hel
  rw[hee] at hrv
  refine aA (hev2.ix .i64 hel) ?_
  refine aA (hy4 259) ?_
  refine aA (hy5 259 _ hy0) ?_
  have l11:=aV (ro:=ro) (z:=0) g02 (show (gS kv tv ev mv most bv s er_)[11]?=some (.int .i64 (s.held:Int)) from rfl)
  have l72:=aV (ro:=ro) (z:=0) g02 (show (gS kv tv ev mv most bv s er_)[7]?=some (.int .i64 (s.at_:Int)) from rfl)
  (have zz:=And.intro @aR l12;repeat refine zzCz ?_)
  refine⟨eL g02 g02,?_⟩
  refine aA (Sl.ixI hrv .i64 hru.1 (by rw[fB]; exact hru.2)) ?_
  have hrl:s.rule.toNat < (oN T s).rules.length:=by omega
  refine aA (hrv.load1 (j6 hrl)) ?_
  (have zz:=And.intro @aR l72;repeat refine zzCz ?_)
  refine⟨eL g02 g02,?_⟩
  (have zz:=And.intro @aR l11;repeat refine zzCz ?_)
  refine⟨eL g02 g02,?_⟩
  have hhl:s.held≤s.kept.length:=Nat.le_trans hI.ok.held hI.ok.took
  have hadd:aQ .add (.int .i64 (s.at_:Int)) (.int .i64 (s.held:Int))=some (.int .i64 ((s.at_+s.held:Nat):Int)):=by
   rw[cH,show (s.at_:Int)+(s.held:Int)=((s.at_+s.held:Nat):Int) by omega,dT (by omega) (by omega)]
  refine aA hadd ?_
  (repeat refine zzC ?_)
  refine aA (bX g2 (Nat.zero_lt_succ _) rfl rfl) ?_
  have hpne:p≠nx+11:=by omega
  have g03:(h2.upd (nx+11) (some (.cells (([Value.int .i64 (-1),.int .i64 (s.at_:Int),.int .i64 ((s.at_:Int)+1)]).set 0 (.int .i64 (oN T s).rules[s.rule.toNat])).toArray a9))).get p=some (.cells (gS kv tv ev mv most bv s er_).toArray bE):=by
   rw[V.T.get_upd_ne _ _ hpne]; exact g02
  refine⟨eL g02 g03,eL g02 g03,?_⟩
  (repeat refine zzC ?_)
  have htok:i0 (jQ T s)=over (([Value.int .i64 (-1),.int .i64 (s.at_:Int),.int .i64 ((s.at_:Int)+1)]).set 0 (.int .i64 (oN T s).rules[s.rule.toNat])) 2 [.int .i64 ((s.at_+s.held:Nat):Int)]:=by
   unfold jQ i0 gR eC
   rw[if_neg hr,if_neg hr,List.getD_eq_getElem?_getD,List.getElem?_eq_getElem hrl]; rfl
  rw[← htok]
  refine aPl (kv:=kv) (tv:=tv) (ev:=ev) (mv:=mv) (bv:=bv) (tb:=nx+11) (rb:=nx) hv hT hI hk hsz ?_ hf ?_ (by omega) (by omega) (by omega) (V.T.get_upd_same _ _ _) ?_ rfl rfl rfl (by omega) fun h' n' h3 h4 h5 h6=>hK h' n' (by omega) h4 h5 h6
  ·exact ((hf2.mono (by omega)).upd (Nat.le_refl _) (by omega)).upd (Nat.le_refl _) (by omega)
  ·intro k o hko
   have:=hf.lt' hko
   rw[V.T.get_upd_ne _ _ (by omega),V.T.get_upd_ne _ _ (by omega)]
   exact hs2 _ _ (hs1 _ _ hko)
  ·rw[V.T.get_upd_ne _ _ (by omega),V.T.get_upd_ne _ _ (by omega)]
   exact g12
end
end V
end Go.Proofs.YtcaccnneblghgaaGreat
namespace Go.Proofs.YtcaccnneblghgaaGreat
namespace V
attribute [local irreducible] aB bA aW dM eR gI dH
theorem aNu (id:Nat) (a b c:Int):b7 Tryz.prog fE id 1 [(0,.agg [Value.int .i64 a,.int .i64 b,.int .i64 c].toArray)]=some (.slice (some (own id 3)) 1 1,some (.cells [Value.int .i64 a,.int .i64 b,.int .i64 c].toArray a9)):=by kernel_rfl
theorem aMY:iM Tryz.prog fE=some (.slice a9):=by kernel_rfl
theorem aOL:∃ i,tin Tryz.prog a9=some i∧i.size=3∧i.bytes=24:=yP (by kernel_rfl)
section
variable {ro:Ro}{h h':T Obj}{nx:Nat}{K:KV}{X X':List Nat}{p:Nat}{qs:List oI}{T:TabD}{most er_ er':Int}{s s':ScD}
theorem ScX.shrink (hm:ScX ro h X p qs T most er_ s) (hX:∀ k∈X',k∈X) (hp:∀ k∈iB p qs,k∈X'):ScX ro h X' p qs T most er_ s:=by
 obtain⟨kv,tv,ev,mv,bv,g1,g2,g3,g4,g5,g6,g7,g8,g9⟩:=hm
 have hD:aZ (del h X) (del h X'):=t7 hX
 exact⟨kv,tv,ev,mv,bv,g1,g2.sub hD,g3.sub hD,g4.sub hD (wB.sub hD),g5.sub hD,g6.sub hD,g7.shrink hX fun q hq k hk=>hp k (zB hq k hk),hp p (List.mem_cons_self ..),g9⟩
theorem ScX.keep {ids:List Nat} (hm:ScX ro h X p qs T most er_ s) (hs:eB ids h h') (h1:∀ k∈ids,k∈X) (h2:∀ k∈ids,k ∉ iB p qs) (h3:∀ k∈X',k∈X∨h.get k=none) (h4:∀ k∈X,k∈X'):ScX ro h' X' p qs T most er_ s:=by
 obtain⟨kv,tv,ev,mv,bv,hv⟩:=hm
 have hv:ScV ro h X p qs T most er_ kv tv ev mv bv s:=hv
 exact (hv.keep hs h1 (fun q hq k hk h9=>h2 k hk (zB hq k h9)) (fun h9=>h2 p h9 (List.mem_cons_self ..)) h3 h4).x
theorem ScX.own (hm:ScX ro h X p qs T most er_ s):∀ k∈iB p qs,k∈X∧∃ o,h.get k=some o:=fun k hk=>by
 obtain⟨kv,tv,ev,mv,bv,g1,g2,g3,g4,g5,g6,g7,g8,g9⟩:=hm
 rcases List.mem_cons.1 hk with rfl | hk
 ·exact⟨g8,_,g1⟩
 ·obtain⟨q,hq,hk⟩:=List.mem_flatMap.1 hk
  obtain⟨i,hi⟩:=List.getElem?_of_mem hq
  have hl:=(List.getElem?_eq_some_iff.1 hi).1
  obtain⟨c,e,h9,_⟩:=(g7.at_ i q _ _ hi (List.getElem?_eq_getElem (by rw[← g7.lq]; exact hl)) (List.getElem?_eq_getElem (by rw[g7.lm,← g7.lq]; exact hl))).ty k hk
  exact⟨g7.inX hi k hk,_,h9⟩
theorem ScX.ownLt (hm:ScX ro h X p qs T most er_ s) (hf:Fr h nx):∀ k∈iB p qs,k < nx:=fun k hk=>by
 obtain⟨_,o,h9⟩:=hm.own k hk
 exact hf.lt' h9
theorem aHc (l:List TokD) (t:TokD):iX (l++[t])=iX l++[i0 t]:=by simp[iX]
structure TkI (ro:Ro) (X:List Nat) (p:Nat) (qs:List oI) (T:TabD) (most er_:Int) (h:V.T Obj) (nx:Nat) (s:ScD) (h':V.T Obj) (nx' m:Nat) (s':ScD) (acc:List TokD) (out:Value) (Y:List Nat):Prop where
 km:s'.kept.length≤m
 kp:eB (iB p qs) h h'
 fr':Fr h' nx'
 sc:ScX ro h' (X++Y) p qs T most er_ s'
 oo:eD h' out 3 a9 (iX acc) nx
 ob:∀ b∈kV out,b∈Y
 yn:∀ b∈Y,nx≤b
 ii:ScI T s'
 at':s'.at_+s'.kept.length=s.at_+s.kept.length
 eqT:hJ T s.kept.length s=(acc++(hJ T m s').1,(hJ T m s').2)
 al:acc.length+s'.kept.length≤s.kept.length
 le:nx≤nx'
set_option maxRecDepth 8000 in
set_option maxHeartbeats 2000000 in
theorem aDB (hm:ScX ro h X p qs T most er_ s) (hT:TabR T) (hI:ScI T s) (hTl:T.entries.length≤1000) (hsz:s.at_+s.kept.length≤400) (hf:Fr h nx)
  (hK:∀ r h' nx',nx≤nx'→Fr h' nx'→eB (iB p qs) h h'→ScX ro h' X p qs T most er_ (hJ T s.kept.length s).2→eD h' r 3 a9 (iX (hJ T s.kept.length s).1) nx→K r h' nx'):aO Tryz.prog ro kJ [ptr p] h nx K:=by
 have hown:=hm.ownLt hf
 apply aAb
 unfold vB
 refine bM (fun j e h' nx'=>∃ s' acc out Y,e 0=ptr p∧e 3=out∧TkI ro X p qs T most er_ h nx s h' nx' j s' acc out Y) ?_ (n:=s.kept.length)
  ⟨s,[],.slice none 0 0,[],rfl,rfl,Nat.le_refl _,(aZ.refl _).keepL,hf.mono (by omega),by rw[List.append_nil]; exact hm,eD.nil,(fun b hb=>by cases hb),(fun b hb=>by cases hb),hI,rfl,rfl,by simp,by omega⟩
 rintro j e h' nx' ⟨s',acc,out,Y,e0,e3,ti⟩ Q' hq hx
 obtain⟨km,kp,fr',sc,oo,ob,yn,ii,at',eqT,al,le⟩:=ti
 obtain⟨kv,tv,ev,mv,bv,hv⟩:=id sc
 have hv:ScV ro h' (X++Y) p qs T most er_ kv tv ev mv bv s':=hv
 have g1:=hv.1
 unfold sK
 rw[e0,e3]
 have l6:=aV (ro:=ro) (z:=0) g1 (show (gS kv tv ev mv most bv s' er_)[6]?=some bv from rfl)
 have hbl:=(hv.2.2.2.2.2.1.sub (cX h' (X++Y))).len
 rw[dJ] at hbl
 have hexit:∀ (e':dL) (h2:V.T Obj) (n':Nat) (s2:ScD),e' 3=out→nx≤n'→Fr h2 n'→eB (iB p qs) h h2→ScX ro h2 (X++Y) p qs T most er_ s2→eD h2 out 3 a9 (iX acc) nx→hJ T s.kept.length s=(acc,s2)→jV ro K e' h2 n':=by
  intro e' h2 n' s2 d3 dn df dk ds dout deq
  unfold jV
  rw[d3]
  refine⟨h2,aZ.refl _,hK out h2 _ (by omega) (df.mono (by omega)) dk ?_ ?_⟩
  ·rw[deq]
   exact ds.shrink (fun k hk=>List.mem_append_left _ hk) fun k hk=>(hm.own k hk).1
  ·rw[deq]; exact dout
 (have zz:=And.intro @aR l6;repeat refine zzCz ?_)
 refine aA hbl ?_
 by_cases hk:s'.kept=[]
 ·refine aI9 (by rw[hk]; simp) ?_
  (repeat refine zzC ?_)
  refine hx _ _ _ _ (fun e=>by cases e) (eE (dG ?_))
  have h9:hJ T s.kept.length s=(acc,s'):=by rw[eqT,aCI _ hk]; simp
  refine hexit _ _ _ s' ?_ ?_ ?_ kp sc oo h9
  ·exact e3
  ·omega
  ·exact fr'.mono (by omega)
 ·have hkl:0 < s'.kept.length:=List.length_pos_iff.2 hk
  have hst:=aH2 ii
  rw[at'] at hst
  have hst2:(s.at_+s.kept.length)*(s.at_+s.kept.length+1)≤400*401:=Nat.mul_le_mul hsz (by omega)
  refine aIa (by omega) ?_
  (repeat refine zzC ?_)
  refine aML sc hT ii hTl (by omega) (fr'.mono (by omega)) fun h2 n2 hn2 hf2 hk2 hs2=>?_
  have hI2:=aJS hT ii hk
  have hout2:eD h2 out 3 a9 (iX acc) nx:=oo.keepK hk2 fun id hid hm9=>by
   have:=hown id hm9
   have:=(oo.blk hid).1
   omega
  obtain⟨m,rfl⟩:∃ m,j=m+1:=⟨j - 1,by omega⟩
  rw[tL,if_neg hk] at eqT
  cases hB:(dN T s').1 with
  | false =>
   rw[hB] at eqT
   simp only[Bool.false_eq_true,if_false,List.append_nil] at eqT
   (repeat refine zzC ?_)
   refine hx _ _ _ _ (fun e=>by cases e) (eE (dG ?_))
   refine hexit _ _ _ _ ?_ ?_ ?_ (kp.trans hk2) hs2 hout2 eqT
   ·exact e3
   ·omega
   ·exact hf2.mono (by omega)
  | true =>
   rw[hB] at eqT
   simp only[if_true] at eqT
   have hkE:(dN T s').2.kept=s'.kept:=rfl
   have hatE:(dN T s').2.at_=s'.at_:=rfl
   (repeat refine zzC ?_)
   refine aNX hs2 hT hI2 hTl (by rw[hkE]; exact hk) (by rw[hkE,hatE,at']; omega) (hf2.mono (by omega)) fun h3 n3 hn3 hf3 hk3 hs3=>?_
   obtain⟨hL1,hL2⟩:=aAY hI2.ok (by rw[hkE]; exact hk)
   rw[hkE] at hL2
   have hI3:=aNh hT hI2 (by rw[hkE]; exact hk)
   have hclen:(kY T (dN T s').2).kept.length=s'.kept.length - eC (dN T s').2:=by rw[aDi,hkE]
   have hcat:(kY T (dN T s').2).at_=s'.at_+eC (dN T s').2:=rfl
   have hrt:(jQ T (dN T s').2).rule=-1∨0≤(jQ T (dN T s').2).rule∧(jQ T (dN T s').2).rule < T.kinds.length:=by
    show gR T (dN T s').2=-1∨0≤gR T (dN T s').2∧gR T (dN T s').2 < T.kinds.length
    obtain⟨he1,he2,_⟩:=hI2.at
    by_cases hsr:(dN T s').2.rule=-1
    ·left; unfold gR; rw[if_pos hsr]
    ·right
     have h9:=hI2.ru.resolve_left hsr
     unfold gR
     rw[if_neg hsr,List.getD_eq_getElem?_getD,List.getElem?_eq_getElem (show (dN T s').2.rule.toNat < (oN T (dN T s').2).rules.length by omega)]
     exact hT.rk _ he2 _ (List.getElem_mem _)
   generalize jQ T (dN T s').2=t at *
   generalize kY T (dN T s').2=sC at *
   refine jB (x:=i0 t) (n:=3) yQ rfl rfl rfl rfl hf3 (Nat.le_refl _) fun h4 hs4 hf4 g4 _=>?_
   have hout4:eD h4 out 3 a9 (iX acc) nx:=(hout2.keepK hk3 fun id hid hm9=>by
    simp at hm9
    subst hm9
    have:=hown id (List.mem_cons_self ..)
    have:=(oo.blk hid).1
    omega).keepS hs4
   have hkp4:eB (iB p qs) h h4:=((kp.trans hk2).trans (hk3.mono fun b hb=>by simp at hb; subst hb; exact List.mem_cons_self ..)).trans hs4.keepL
   have hs4x:ScX ro h4 (X++Y) p qs T most er_ sC:=hs3.keep (ids:=[]) hs4.keepL (fun k hk=>by cases hk) (fun k hk=>by cases hk) (fun k hk=>.inl hk) fun k hk=>hk
   have happ:∀ (n75:Nat) (F:Value→Value × Option Obj→Value × V.T Obj × Nat→dL),n3+1≤n75→(∀ x y z,F x y z 0=ptr p)→(∀ x y z,F x y z 3=z.1)→wV T t=true →
     aB (loadA ro h4 3 (ptr n3)) fun t33=>aB (b7 Tryz.prog fE (n75+2) 1 [(0,t33)]) fun r79=>eR h4 (n75+2) r79.2 fun h80=>aB (cZ Tryz.prog ro h80 (n75+4) #[fE,fE] [out,r79.1]) fun r81=>Q' .normal (F t33 r79 r81) r81.2.1 (r81.2.2+1):=by
    intro n75 F hn75 f0 f3 hkT
    refine aA (dW g4 rfl) ?_
    obtain⟨i9,t1,t2,t3⟩:=aOL
    refine yR (z:=3) (l:=iX acc) (y:=i0 t) (aNu _ _ _ _) rfl hout4 aMY t1 (by omega) (by omega) yQ rfl rfl (by rw[tK,t3]; unfold oG; omega) (by rw[tK]; unfold oG; omega) (hf4.mono (by omega)) (by omega) (by omega) (fun e9=>by have:=hf4.lt' (hout4.blk e9).2; omega) fun h5 ho5 hk5 hf5=>?_
    generalize hnv:Value.slice (some (own (n75+4) 3)) (iX acc++[i0 t]).length (iX acc++[i0 t]).length=out2 at ho5
    have hsb:jU out2=some (n75+4):=by rw[← hnv]; rfl
    have hkk:eB (kV out) h4 h5:=fun b o hb hn9=>hk5 b o hb (by have:=hf4.lt' hb; omega) fun e9=>hn9 (eW.2 e9)
    have hkO:∀ b∈kV out,b ∉ iB p qs:=fun b hb h9=>by
     have:=hown b h9
     have:=yn b (ob b hb)
     omega
    show Q' .normal (F _ _ (out2,h5,n75+4+1)) h5 (n75+4+1+1)
    refine hq m _ _ _ _ (by omega) ⟨sC,acc++[t],out2,Y++[n75+4],f0 _ _ _,f3 _ _ _,by omega,fun b o hb hn9=>?_,hf5.mono (by omega),?_,by rw[aHc]; exact ho5,fun b hb=>?_,fun b hb=>?_,hI3,by rw[hclen,hcat]; omega,?_,by rw[List.length_append,hclen]; show acc.length+1+_≤_; omega,by omega⟩ (aZ.refl _)
    ·refine hkk b o (hkp4 b o hb hn9) fun h9=>?_
     have:=hf.lt' hb
     have:=yn b (ob b h9)
     omega
    ·refine hs4x.keep hkk (fun b hb=>List.mem_append_right _ (ob b hb)) hkO (fun b hb=>?_) fun b hb=>?_
     ·rcases List.mem_append.1 hb with hb | hb
      ·exact .inl (List.mem_append_left _ hb)
      ·rcases List.mem_append.1 hb with hb | hb
       ·exact .inl (List.mem_append_right _ hb)
       ·simp at hb; subst hb; exact .inr (hf4 _ (by omega))
     ·rw[← List.append_assoc]; exact List.mem_append_left _ hb
    ·have:=eW.1 hb
     rw[hsb] at this
     cases this
     exact List.mem_append_right _ (by simp)
    ·rcases List.mem_append.1 hb with hb | hb
     ·exact yn b hb
     ·simp at hb; omega
    ·rw[eqT]
     unfold aJg
     rw[if_pos hkT,List.append_assoc]
   have hnok:∀ (e':dL) (n':Nat),e' 0=ptr p→e' 3=out→n3+1≤n'→wV T t=false→Q' .normal e' h4 n':=by
    intro e' n' f0 f3 hn' hkT
    refine hq m _ _ _ _ (by omega) ⟨sC,acc,out,Y,f0,f3,by omega,hkp4,hf4.mono hn',hs4x,hout4,ob,yn,hI3,by rw[hclen,hcat]; omega,?_,by rw[hclen]; omega,by omega⟩ (aZ.refl _)
    rw[eqT]
    unfold aJg
    rw[if_neg (by rw[hkT]; decide),List.nil_append]
   have t0:=aV (ro:=ro) (z:=0) g4 (show (i0 t)[0]?=some (.int .i64 t.rule) from rfl)
   (repeat refine zzC ?_)
   refine aA t0 ?_
   by_cases hr:t.rule=-1
   ·have hkT:wV T t=true:=by unfold wV; rw[decide_eq_true hr]; rfl
    refine aI5 hr ?_
    (repeat refine zzC ?_)
    refine happ _ _ ?_ ?_ ?_ hkT
    ·omega
    ·intro x y z; exact e0
    ·intro x y z; rfl
   ·have hrr:=hrt.resolve_left hr
    obtain⟨kv4,tv4,ev4,mv4,bv4,hv4⟩:=id hs4x
    have hv4:ScV ro h4 (X++Y) p qs T most er_ kv4 tv4 ev4 mv4 bv4 sC:=hv4
    have l1:=aV (ro:=ro) (z:=0) hv4.1 (show (gS kv4 tv4 ev4 mv4 most bv4 sC er_)[1]?=some kv4 from rfl)
    have hkv:=hv4.2.1.sub (cX h4 (X++Y))
    have hix:=Sl.ixI hkv .i64 hrr.1 (by rw[aC0]; exact hrr.2)
    have hkl9:t.rule.toNat < T.kinds.length:=by omega
    have hld:=hkv.load1 (aIz hkl9)
    have hgd:T.kinds.getD t.rule.toNat .empty=T.kinds[t.rule.toNat]:=by rw[List.getD_eq_getElem?_getD,List.getElem?_eq_getElem hkl9]; rfl
    have hkT:wV T t=!decide (T.kinds[t.rule.toNat]=.empty):=by
     unfold wV
     rw[decide_eq_false hr,hgd]
     generalize T.kinds[t.rule.toNat]=b9
     have:(b9.size≠0) ↔ ¬ (b9=.empty):=by
      constructor
      ·intro h9 e9; rw[e9] at h9; exact h9 rfl
      ·intro h9 e9
       apply h9
       obtain⟨⟨l9⟩⟩:=b9
       have:l9=[]:=List.length_eq_zero_iff.1 e9
       rw[this]; rfl
     by_cases h9:b9=.empty<;>simp[this,h9]
    generalize T.kinds[t.rule.toNat]=ks at hld hkT
    refine aI3 hr ?_
    (have zz:=And.intro @aR (And.intro l1 t0);repeat refine zzCz ?_)
    refine aA hix ?_
    (repeat refine zzC ?_)
    refine aA hld ?_
    (repeat refine zzC ?_)
    refine aA (aAD ks .empty) ?_
    rw[← hkT]
    cases hkk:wV T t with
    | true =>
     (repeat refine zzC ?_)
     refine happ _ _ ?_ ?_ ?_ hkk
     ·omega
     ·intro x y z; exact e0
     ·intro x y z; rfl
    | false =>
     (repeat refine zzC ?_)
     refine hnok _ _ ?_ ?_ ?_ hkk
     ·exact e0
     ·exact e3
     ·omega
end
end V
end Go.Proofs.YtcaccnneblghgaaGreat
namespace Go.Proofs.YtcaccnneblghgaaGreat
namespace V
attribute [local irreducible] aB bA aW dM eR gI dH
def u8L (l:List Nat):List Value:=l.map fun b:Nat=>Value.int .u8 (b:Int)
theorem aAd (l:List Nat):(u8L l).length=l.length:=by simp[u8L]
theorem aSM (l m:List Nat):u8L (l++m)=u8L l++u8L m:=by simp[u8L]
theorem aFu:∀ l:List Nat,(cC l).flatten=u8L l
 | []=>rfl
 | x::r=>by
  have:=aFu r
  simp only[cC,List.map_cons,List.flatten_cons] at this ⊢
  rw[this]; rfl
theorem aQx (l:List Nat):(u8L l).all eA=true:=by simp[u8L,eA]
theorem aS0 (n:Nat):aFo Tryz.prog cI n=some (List.replicate n (Value.int .u8 0)):=by
 cases n with
 | zero=>rfl
 | succ n =>
  obtain⟨i,h1,h2,h3⟩:=aEx
  have hz:∀ k,tO [Value.int .u8 0] k=List.replicate k (Value.int .u8 0):=fun k=>by
   induction k with
   | zero=>rfl
   | succ k ih=>rw[List.replicate_succ,← ih]; rfl
  simp only[aFo,aKR,aHZ,Option.bind,cY]
  show some (tO [Value.int .u8 0] (n+1))=_
  rw[hz]
section
variable {ro:Ro}{h:T Obj}{nx:Nat}{K:KV}
theorem aP1 {x:Value} (hx:Sl ro h x 1 (cC [])):cZ Tryz.prog ro h nx #[bO,bO] [.slice none 0 0,x]=some (.slice none 0 0,h,nx):=by
 obtain⟨i,h1,h2,h3⟩:=aEx
 have hs:aBG Tryz.prog ro h cI i.size i.bytes bO x=some (0,[]):=by
  rcases hx with ⟨rfl,_⟩ | ⟨a,c,rfl,_,_,_,h9⟩
  ·simp only[aBG,nE]
  ·have h9:cellsAt ro h a 0=some []:=by simpa [cC] using h9
   simp only[aBG,nE,cC,List.map_nil,List.length_nil,Nat.zero_mul,h9,Option.bind]
 simp only[cZ,List.getElem?_toArray,List.getElem?_cons_zero,List.getElem?_cons_succ,nE,h1,Option.bind,hs]
theorem aSb {x:Value}{id len cap:Nat}{C:List Value}{l:List Nat} (hg:h.get id=some (.cells C.toArray cI)) (hC:C.length=cap) (hx:Sl ro h x 1 (cC l)) (hle:len+l.length≤cap) :
  ∃ h',cZ Tryz.prog ro h nx #[bO,bO] [.slice (some (own id 1)) len cap,x]=some (.slice (some (own id 1)) (len+l.length) cap,h',nx)∧h'.get id=some (.cells (over C len (u8L l)).toArray cI)∧∀ k,k≠id→h'.get k=h.get k:=by
 obtain⟨i,h1,h2,h3⟩:=aEx
 have hs:aBG Tryz.prog ro h cI i.size i.bytes bO x=some (l.length,u8L l):=by
  rcases hx with ⟨rfl,h9⟩ | ⟨a,c,rfl,_,_,_,h9⟩
  ·have:l=[]:=by
    cases l with
    | nil=>rfl
    | cons a r=>simp[cC] at h9
   subst this
   simp only[aBG,nE]; rfl
  ·rw[aFu,dJ] at h9
   simp only[aBG,nE,dJ,h2,h9,Option.bind]
 have hb1:Nat.ble (len+l.length) cap=true:=Nat.ble_eq_true_of_le hle
 cases l with
 | nil =>
  refine⟨h,?_,?_,fun k _=>rfl⟩
  ·rw[List.length_nil] at hb1 hs
   simp only[cZ,List.getElem?_toArray,List.getElem?_cons_zero,List.getElem?_cons_succ,nE,h1,Option.bind,hs,hb1,List.length_nil]; rfl
  ·rw[hg]; simp[over,u8L]
 | cons a r =>
  refine⟨h.upd id (some (.cells (over C len (u8L (a::r))).toArray cI)),?_,T.get_upd_same _ _ _,fun k hk=>T.get_upd_ne _ _ hk⟩
  have hst:lU h (fwd (own id 1) (len*i.size)) (u8L (a::r))=some (h.upd id (some (.cells (over C len (u8L (a::r))).toArray cI))):=by
   unfold lU
   simp only[own,fwd,hg,aQx,h2,Nat.mul_one,Nat.zero_add]
   have:Nat.ble (len+(u8L (a::r)).length) C.toArray.size=true:=Nat.ble_eq_true_of_le (by rw[aAd,List.size_toArray]; omega)
   simp only[this]
  rw[List.length_cons] at hb1 hs
  simp only[cZ,List.getElem?_toArray,List.getElem?_cons_zero,List.getElem?_cons_succ,nE,h1,Option.bind,hs,hb1,hst]
  simp only[own,h2,Nat.beq_refl,List.length_cons]
theorem aNc:fZ Tryz.prog h .cap #[bO] [.slice none 0 0]=some (.int .i64 0):=by
 simp only[fZ,List.getElem?_toArray,List.getElem?_cons_zero,Option.bind,nE]; rfl
theorem aSE:nX Tryz.prog bO (.slice none 0 0) none (some (.int .i64 0)) none=some (.slice none 0 0):=by kernel_rfl
theorem aSN:iM Tryz.prog dY=some (.int .i64):=by kernel_rfl
theorem aP0 {n:Nat} (h0:0 < n) (hn:n≤1000000):cZ Tryz.prog ro h nx #[bO,dY] [.slice none 0 0,.int .i64 (n:Int)]=some (.slice (some (own nx 1)) n n,h.upd nx (some (.cells (List.replicate n (Value.int .u8 0)).toArray cI)),nx+1):=by
 obtain⟨i,h1,h2,h3⟩:=aEx
 have hb1:Nat.ble (n*1) oG=true:=Nat.ble_eq_true_of_le (by unfold oG; omega)
 have hb2:Nat.ble (0+n) oG=true:=Nat.ble_eq_true_of_le (by unfold oG; omega)
 have hb3:Nat.ble ((0+n)*1) oG=true:=Nat.ble_eq_true_of_le (by unfold oG; omega)
 have hb4:Nat.ble (0+n) 0=false:=by
  cases hq:Nat.ble (0+n) 0 with
  | false=>rfl
  | true=>have:=Nat.le_of_ble_eq_true hq; omega
 have hs:aBG Tryz.prog ro h cI 1 1 dY (.int .i64 (n:Int))=some (n,List.replicate n (Value.int .u8 0)):=by
  simp only[aBG,aSN,decide_eq_true (show (0:Int)≤n by omega),decide_eq_true (show (n:Int)≤70368744177664 by omega),Int.toNat_natCast,hb1,aS0,Option.bind]
 have hok:(List.replicate n (Value.int .u8 0)).all eA=true:=by simp[eA]
 simp only[cZ,List.getElem?_toArray,List.getElem?_cons_zero,List.getElem?_cons_succ,nE,h1,Option.bind,h2,h3,hs,hb4,aKR,hb3,hb2,cY,hok,aJf]
 simp
 rfl
set_option maxRecDepth 8000 in
theorem aR4 {n:Nat}{e:dL} (f0:e 0=.slice none 0 0) (f1:e 1=.int .i64 (n:Int)) (hn:n≤1000000) (hf:Fr h nx) (hK0:n=0→∀ nx',nx≤nx'→K (.slice none 0 0) h nx') (hK1:0 < n→∀ id h' nx',nx≤id→id < nx'→Fr h' nx'→aZ h h'→h'.get id=some (.cells (List.replicate n (Value.int .u8 0)).toArray cI)→K (.slice (some (own id 1)) 0 n) h' nx'):lW ro K e h nx:=by
 unfold lW
 rw[f0,f1]
 have hj2:∀ (e':dL) (h':T Obj) (n':Nat) (v:Value),e' 0=v→K v h' (n'+2)→iY ro K e' h' n':=by
  intro e' h' n' v d0 dk
  unfold iY
  rw[d0]
  exact⟨h',aZ.refl _,dk⟩
 refine aA aNc ?_
 (repeat refine zzC ?_)
 by_cases h0:n=0
 ·subst h0
  refine aI9 (by omega) ?_
  (repeat refine zzC ?_)
  refine hj2 _ _ _ (.slice none 0 0) f0 (hK0 rfl _ ?_)
  omega
 ·refine aIa (by omega) ?_
  (repeat refine zzC ?_)
  refine aA aNc (aA aSE ?_)
  refine aA (aP0 (by omega) hn) ?_
  dsimp only
  (repeat refine zzC ?_)
  refine hj2 _ _ _ (.slice (some (own (nx+16) 1)) 0 n) (by kernel_rfl) (hK1 (by omega) _ _ _ ?_ ?_ ?_ (((aZ.refl h).new hf (by omega))) (T.get_upd_same _ _ _))
  ·omega
  ·omega
  ·exact (hf.mono (by omega)).upd (Nat.le_refl _) (by omega)
theorem aSl {n:Nat} (hn:n≤1000000) (hf:Fr h nx) (hK0:n=0→∀ nx',nx≤nx'→K (.slice none 0 0) h nx') (hK1:0 < n→∀ id h' nx',nx≤id→id < nx'→Fr h' nx'→aZ h h'→h'.get id=some (.cells (List.replicate n (Value.int .u8 0)).toArray cI)→K (.slice (some (own id 1)) 0 n) h' nx'):aO Tryz.prog ro mE [.slice none 0 0,.int .i64 (n:Int)] h nx K:=by
 apply zH
 unfold tC
 (repeat refine zzC ?_)
 exact aR4 rfl rfl hn (hf.mono (by omega)) (fun h0 n' hn'=>hK0 h0 n' (by omega)) fun h0 id h' n' h1 h2 h3 h4 h5=>hK1 h0 id h' n' (by omega) h2 h3 h4 h5
def RB (ro:Ro) (h:V.T Obj) (x:List Value) (l:List Nat):Prop:=∃ w,x=[w]∧Sl ro h w 1 (cC l)
theorem RB.sub {h':V.T Obj} (hs:aZ h h'):∀ x l,RB ro h x l→RB ro h' x l:=fun x l ⟨w,h1,h2⟩=>⟨w,h1,h2.sub hs⟩
theorem aE7 {α:Type}{ls:List (List α)}{i:Nat} (hi:i < ls.length):(ls.take (i+1)).flatten=(ls.take i).flatten++ls[i]:=by
 rw[List.take_succ_eq_append_getElem hi,List.flatten_append]; simp
theorem rQ {α:Type}{ls:List (List α)} (i:Nat):(ls.take i).flatten.length≤ls.flatten.length:=by
 have h9:ls.flatten=(ls.take i).flatten++(ls.drop i).flatten:=by rw[← List.flatten_append,List.take_append_drop]
 rw[h9,List.length_append]; omega
theorem aNB (l m:List Nat) {k:Nat} (hk:m.length≤k):over (u8L l++List.replicate k (Value.int .u8 0)) l.length (u8L m)=u8L (l++m)++List.replicate (k - m.length) (Value.int .u8 0):=by
 unfold over
 rw[List.take_append_of_le_length (by rw[aAd]; exact Nat.le_refl _),List.take_of_length_le (by rw[aAd]; exact Nat.le_refl _),aAd,List.drop_append,aAd,List.drop_of_length_le (by rw[aAd]; omega),List.nil_append,Nat.add_sub_cancel_left,List.drop_replicate,aSM]
def aPT (h:V.T Obj) (nx N:Nat) (pre:List Nat) (w:Value) (h':V.T Obj):Prop:=aZ h h'∧((N=0∧w=.slice none 0 0)∨∃ id,nx≤id∧w=.slice (some (own id 1)) pre.length N∧h'.get id=some (.cells (u8L pre++List.replicate (N - pre.length) (Value.int .u8 0)).toArray cI))
set_option maxRecDepth 8000 in
theorem aPT.step {N n1:Nat}{pre l:List Nat}{w x:Value}{h':V.T Obj} (hc:aPT h nx N pre w h') (hf:Fr h nx) (hx:Sl ro h' x 1 (cC l)) (hle:pre.length+l.length≤N) {m:Nat} (hf':Fr h' m):∃ w2 h2,cZ Tryz.prog ro h' n1 #[bO,bO] [w,x]=some (w2,h2,n1)∧aPT h nx N (pre++l) w2 h2∧Fr h2 m:=by
 obtain⟨hs,⟨h0,rfl⟩ | ⟨id,h1,rfl,h2⟩⟩:=hc
 ·have hl:l=[]:=List.length_eq_zero_iff.1 (by omega)
  subst hl
  exact⟨_,_,aP1 hx,⟨hs,.inl ⟨h0,rfl⟩⟩,hf'⟩
 ·obtain⟨h3,g1,g2,g3⟩:=aSb (nx:=n1) h2 (cap:=N) (by rw[List.length_append,aAd,List.length_replicate]; omega) hx hle
  refine⟨_,_,g1,⟨fun k o hk=>?_,.inr ⟨id,h1,by rw[List.length_append],?_⟩⟩,fun k hk=>?_⟩
  ·have:=hf.lt' hk
   rw[g3 k (by omega)]
   exact hs k o hk
  ·rw[g2,aNB pre l (by omega),List.length_append,show N - pre.length - l.length=N - (pre.length+l.length) by omega]
  ·have:=hf'.lt' h2
   rw[g3 k (by omega)]
   exact hf' k hk
set_option maxRecDepth 8000 in
set_option maxHeartbeats 1000000 in
theorem aPd {v:Value}{ls:List (List Nat)} (hv:iO ro h v 1 (RB ro h) ls) (hlen:ls.length≤1000) (hsum:ls.flatten.length≤100000) (hf:Fr h nx) (hK:∀ r h' nx',nx≤nx'→Fr h' nx'→aZ h h'→eD h' r 1 cI (cC ls.flatten) nx→K r h' nx'):aO Tryz.prog ro kZ [v] h nx K:=by
 have hvl:=hv.len
 apply xQ
 unfold rB
 refine aA hvl ?_
 refine bM (fun j e h' nx'=>∃ i:Nat,i+j=ls.length∧nx+5≤nx'∧h'=h∧e 0=v∧e 3=.int .i64 ((ls.take i).flatten.length:Nat)∧e 9=v∧e 10=.int .i64 ls.length∧e 11=.int .i64 i) ?_ (n:=ls.length) ⟨0,by omega,by omega,rfl,rfl,rfl,rfl,rfl,rfl⟩
 rintro j e h' nx' ⟨i,hj,hnx,rfl,e0,e3,e9,e10,e11⟩ Q' hq hx
 unfold pC
 rw[e3,e9,e10,e11]
 refine dS (fun hk=>?_) (fun hk=>?_)
 ·have hk:i < ls.length:=by omega
  obtain⟨w,⟨w',hw,hwl⟩,hld⟩:=hv.at1 hk
  cases hw
  have hle:=rQ (ls:=ls) (i+1)
  have hfs:=aE7 hk
  have hwn:=hwl.len
  rw[dJ] at hwn
  rw[hfs,List.length_append] at hle
  (repeat refine zzC ?_)
  refine aA (hv.ix .i64 hk) (aA hld (aA hwn ?_))
  have hadd:aQ .add (.int .i64 (((ls.take i).flatten.length:Nat):Int)) (.int .i64 ((ls[i].length:Nat):Int))=some (.int .i64 (((ls.take (i+1)).flatten.length:Nat):Int)):=by
   rw[cH,hfs,List.length_append,show (((ls.take i).flatten.length:Nat):Int)+((ls[i].length:Nat):Int)=(((ls.take i).flatten.length+ls[i].length:Nat):Int) by omega,dT (by omega) (by omega)]
  refine aA hadd ?_
  (repeat refine zzC ?_)
  have hj3:∀ (e':dL) n',e' 0=v→e' 3=.int .i64 ((ls.take (i+1)).flatten.length:Nat)→e' 9=v→e' 10=.int .i64 ls.length→e' 11=.int .i64 i→nx'≤n'→kC ro Q' e' h' n':=by
   intro e' n' d0 d3 d9 d10 d11 dn
   unfold kC
   rw[d11]
   (repeat refine zzC ?_)
   exact hq (j - 1) _ _ _ _ (by omega) ⟨i+1,by omega,by omega,rfl,d0,d3,d9,d10,rfl⟩ (aZ.refl _)
  refine hj3 _ _ e0 rfl e9 e10 e11 ?_
  omega
 ·(repeat refine zzC ?_)
  refine hx _ _ _ _ (fun e=>by cases e) (eE (dG ?_))
  obtain rfl:i=ls.length:=by omega
  rw[List.take_length] at e3
  have hj1:∀ (e':dL) n',e' 0=v→e' 3=.int .i64 (ls.flatten.length:Nat)→nx'≤n'→hG ro K e' h' n':=by
   intro e' n' d0 d3 dn
   unfold hG
   rw[d0,d3]
   have hfin:∀ (w0:Value) (h1:V.T Obj) (n1:Nat) (e1:dL),e1 0=v→e1 6=w0→e1 25=v→e1 26=.int .i64 ls.length→e1 27=.int .i64 0→nx≤n1→Fr h1 n1→aPT h' nx ls.flatten.length [] w0 h1 →
     dZ (kB ro) e1 h1 n1 fun x14 e11 h12 n13=>gI x14 (fD ro K e11 h12 n13) (fun i15=>dH (Nat.beq i15 2) (fD ro K e11 h12 n13) (False)) (∃ h16,aZ h16 h12∧K (e11 2) h16 n13):=by
    intro w0 h1 n1 e1 b0 b6 b25 b26 b27 bn bf bc
    refine bM (fun j e h2 n2=>∃ (i:Nat) (w:Value),i+j=ls.length∧nx≤n2∧Fr h2 n2∧e 6=w∧e 25=v∧e 26=.int .i64 ls.length∧e 27=.int .i64 i∧aPT h' nx ls.flatten.length (ls.take i).flatten w h2) ?_ (n:=ls.length) ⟨0,w0,by omega,bn,bf,b6,b25,b26,b27,bc⟩
    rintro j e h2 n2 ⟨i,w,hj,hn2,hf2,c6,c25,c26,c27,hcat⟩ Q' hq hx
    unfold kB
    rw[c6,c25,c26,c27]
    refine dS (fun hk=>?_) (fun hk=>?_)
    ·have hk:i < ls.length:=by omega
     have hv2:=hv.sub hcat.1 (RB.sub hcat.1)
     obtain⟨w9,⟨w',hw,hwl⟩,hld⟩:=hv2.at1 hk
     cases hw
     have hle:=rQ (ls:=ls) (i+1)
     have hfs:=aE7 hk
     rw[hfs,List.length_append] at hle
     obtain⟨w2,h3,p1,p2,p3⟩:=hcat.step (n1:=n2+7) hf hwl hle hf2
     rw[← hfs] at p2
     (repeat refine zzC ?_)
     refine aA (hv2.ix .i64 hk) (aA hld (aA p1 ?_))
     (repeat refine zzC ?_)
     dsimp only
     exact hq (j - 1) _ _ _ _ (by omega) ⟨i+1,w2,by omega,by omega,p3.mono (by omega),rfl,c25,c26,rfl,p2⟩ (aZ.refl _)
    ·(repeat refine zzC ?_)
     refine hx _ _ _ _ (fun e=>by cases e) (eE (dG ?_))
     obtain rfl:i=ls.length:=by omega
     rw[List.take_length] at hcat
     have hj2:∀ (e':dL) n',e' 6=w→n2≤n'→fD ro K e' h2 n':=by
      intro e' n' d6 dn
      unfold fD
      rw[d6]
      refine⟨h2,aZ.refl _,hK w h2 _ (by omega) (hf2.mono (by omega)) hcat.1 ?_⟩
      obtain⟨_,⟨q1,q2⟩ | ⟨id,q1,q2,q3⟩⟩:=hcat
      ·refine .inl ⟨q2,?_⟩
       rw[List.length_eq_zero_iff.1 q1]; rfl
      ·refine .inr ⟨id,q1,?_,(fun x hx=>by unfold cC at hx; obtain⟨b,_,rfl⟩:=List.mem_map.1 hx; rfl),?_⟩
       ·rw[q2,dJ]
       ·rw[q3,aFu,Nat.sub_self]; simp
     refine hj2 _ _ c6 ?_
     omega
   refine aSl (n:=ls.flatten.length) (by omega) (hf.mono (by omega)) (fun h0 n1 hn1=>?_) fun h0 id h1 n1 hn1 hn2 hf1 hs1 hg1=>?_
   ·(repeat refine zzC ?_)
    refine aA hvl ?_
    refine hfin _ _ _ _ d0 rfl rfl rfl rfl ?_ ?_ ⟨aZ.refl _,.inl ⟨h0,rfl⟩⟩
    ·omega
    ·exact hf.mono (by omega)
   ·(repeat refine zzC ?_)
    refine aA hvl ?_
    refine hfin _ _ _ _ d0 rfl rfl rfl rfl ?_ ?_ ⟨hs1,.inr ⟨id,?_,rfl,?_⟩⟩
    ·omega
    ·exact hf1.mono (by omega)
    ·omega
    ·rw[hg1]; rfl
  refine hj1 _ _ e0 e3 ?_
  omega
end
end V
end Go.Proofs.YtcaccnneblghgaaGreat
namespace Go.Proofs.YtcaccnneblghgaaGreat
namespace V
attribute [local irreducible] aB bA aW dM eR gI dH
theorem aTB (id:Nat) (o1 o2:Option Addr) (l1 c1 l2 c2:Nat):b7 Tryz.prog iA id 2 [(0,.slice o1 l1 c1),(1,.slice o2 l2 c2)]=some (.slice (some (own id 1)) 2 2,some (.cells [Value.slice o1 l1 c1,.slice o2 l2 c2].toArray bO)):=by kernel_rfl
theorem Sl.form {ro:Ro}{h:T Obj}{v:Value}{z:Nat}{l:List (List Value)} (hl:Sl ro h v z l):∃ o n c,v=.slice o n c:=by
 rcases hl with ⟨h1,_⟩ | ⟨a,c,h1,_⟩
 ·exact⟨_,_,_,h1⟩
 ·exact⟨_,_,_,h1⟩
def x9 (most:Int) (s':ScD):Int:=if most < (s'.kept.length:Int) then 180 else 0
section
variable {ro:Ro}{h h':T Obj}{nx:Nat}{K:KV}{X X':List Nat}{p:Nat}{qs:List oI}{T:TabD}{most er_ er':Int}{s s':ScD}
theorem aGT (h:ScI T s):ScI T { s with closed:=true }:=⟨⟨h.ok.lt,h.ok.len,h.ok.took,h.ok.held,h.ok.none,h.ok.some⟩,h.c,h.ms,h.ru,h.kb,h.st⟩
theorem aPx {b:Value} (hm:ScX ro h X p qs T most er_ s) (hr:nW er_ s.closed≠0) (hK:∀ nx',nx≤nx'→K (.tuple #[.slice none 0 0,.int .i64 (nW er_ s.closed)]) h nx'):aO Tryz.prog ro jM [ptr p,b] h nx K:=by
 apply uH
 unfold sJ
 refine sL hm fun n1 hn1=>?_
 refine aBa hr ?_
 (repeat refine zzC ?_)
 exact⟨h,aZ.refl _,hK _ (by omega)⟩
theorem aO2 (hm:ScX ro h X p qs T most er_ s) (hr:nW er_ s.closed≠0) (hK:∀ nx',nx≤nx'→K (.tuple #[.slice none 0 0,.int .i64 (nW er_ s.closed)]) h nx'):aO Tryz.prog ro jA [ptr p] h nx K:=by
 apply tB
 unfold qT
 refine sL hm fun n1 hn1=>?_
 refine aBa hr ?_
 (repeat refine zzC ?_)
 exact⟨h,aZ.refl _,hK _ (by omega)⟩
set_option maxRecDepth 8000 in
set_option maxHeartbeats 1000000 in
theorem aKH (hm:ScX ro h X p qs T most 0 s) (hT:TabR T) (hI:ScI T s) (hTl:T.entries.length≤1000) (hcl:s.closed=false) (hsz:s.at_+s.kept.length≤400) (hf:Fr h nx)
  (hK:∀ r h' nx',nx≤nx'→Fr h' nx'→eB (iB p qs) h h'→ScX ro h' X p qs T most 0 (oK T s).2→eD h' r 3 a9 (iX (oK T s).1) nx→K (.tuple #[r,.int .i64 0]) h' nx'):aO Tryz.prog ro jA [ptr p] h nx K:=by
 have hr:nW 0 s.closed=0:=by unfold nW; rw[if_neg (by rw[hcl]; simp)]
 apply tB
 unfold qT
 refine sL hm fun n1 hn1=>?_
 refine zX hr ?_
 obtain⟨kv,tv,ev,mv,bv,hv⟩:=id hm
 have hv:ScV ro h X p qs T most 0 kv tv ev mv bv s:=hv
 have g1:=hv.1
 (have zz:=@aR;repeat refine zzCz ?_)
 refine aA (bX g1 (by simp[gS]) rfl rfl) ?_
 have hov:(gS kv tv ev mv most bv s 0).set 14 (.bool true)=gS kv tv ev mv most bv { s with closed:=true } 0:=rfl
 rw[hov]
 have hv1:=hv.upd (s':={ s with closed:=true }) (er':=0) rfl rfl
 have hk1:eB (iB p qs) h (h.upd p (some (.cells (gS kv tv ev mv most bv { s with closed:=true } 0).toArray bE))):=(aZ.refl _).keepL.upd (List.mem_cons_self ..)
 refine aDB hv1.x hT (aGT hI) hTl hsz ((hf.mono (by omega)).upd (Nat.le_refl _) (by have:=hf.lt' g1; omega)) fun r h2 n2 hn2 hf2 hk2 hs2 ho2=>?_
 (repeat refine zzC ?_)
 refine⟨h2,aZ.refl _,?_⟩
 exact hK r h2 _ (by omega) (hf2.mono (by omega)) (hk1.trans hk2) hs2 (ho2.mono (by omega))
set_option maxRecDepth 8000 in
set_option maxHeartbeats 1000000 in
theorem aMG {bb:Value}{b:List Nat} (hm:ScX ro h X p qs T most 0 s) (hT:TabR T) (hI:ScI T s) (hTl:T.entries.length≤1000) (hcl:s.closed=false) (hX:∀ k∈X,k < nx) (hb:Sl ro h bb 1 (cC b)) (hb2:∀ x∈b,x < 256) (hsz:s.at_+s.kept.length+b.length≤400) (hf:Fr h nx)
  (hK:∀ r h' nx',nx≤nx'→Fr h' nx'→eB (iB p qs) h h'→ScX ro h' X p qs T most (x9 most (fR T s b).2) (fR T s b).2→eD h' r 3 a9 (iX (fR T s b).1) nx→K (.tuple #[r,.int .i64 (x9 most (fR T s b).2)]) h' nx'):aO Tryz.prog ro jM [ptr p,bb] h nx K:=by
 have hr:nW 0 s.closed=0:=by unfold nW; rw[if_neg (by rw[hcl]; simp)]
 apply uH
 unfold sJ
 refine sL hm fun n1 hn1=>?_
 refine zX hr ?_
 obtain⟨kv,tv,ev,mv,bv,hv⟩:=id hm
 have hv:ScV ro h X p qs T most 0 kv tv ev mv bv s:=hv
 have g1:=hv.1
 have hpl:=hf.lt' g1
 have hbv:Sl ro h bv 1 (cC s.kept):=hv.2.2.2.2.2.1.sub (cX h X)
 have l6:=aV (ro:=ro) (z:=0) g1 (show (gS kv tv ev mv most bv s 0)[6]?=some bv from rfl)
 (have zz:=And.intro @aR l6;repeat refine zzCz ?_)
 obtain⟨o1,m1,c1,e1⟩:=hbv.form
 obtain⟨o2,m2,c2,e2⟩:=hb.form
 refine aA (by rw[e1,e2]; exact aTB _ _ _ _ _ _ _) (aF ?_)
 rw[← e1,← e2]
 generalize hh1:h.upd (n1+9) (some (.cells [bv,bb].toArray bO))=h1
 have hs1:aZ h h1:=by rw[← hh1]; exact (aZ.refl h).new hf (by omega)
 have hf1:Fr h1 (n1+11):=by rw[← hh1]; exact (hf.mono (by omega)).upd (Nat.le_refl _) (by omega)
 have hlist:iO ro h1 (.slice (some (own (n1+9) 1)) 2 2) 1 (RB ro h1) [s.kept,b]:=by
  refine⟨[[bv],[bb]],Sl.own (l:=[[bv],[bb]]) (e:=bO) (f:=(0,0)) (by rw[← hh1,V.T.get_upd_same]; rfl) (by simp) (Nat.le_refl _),rfl,fun i x d hx hd=>?_⟩
  match i,hx,hd with
  | 0,hx,hd=>cases hx; cases hd; exact⟨bv,rfl,hbv.sub hs1⟩
  | 1,hx,hd=>cases hx; cases hd; exact⟨bb,rfl,hb.sub hs1⟩
  | i+2,hx,hd=>cases hx
 refine aPd hlist (by show 2≤1000; decide) (by simp; omega) hf1 fun r2 h2 n2 hn2 hf2 hs2 ho2=>?_
 have hfl:[s.kept,b].flatten=s.kept++b:=by simp
 rw[hfl] at ho2
 have hv2:=(hv.sub hs1).sub hs2
 (have zz:=@aR;repeat refine zzCz ?_)
 obtain⟨o3,m3,c3,e3⟩:=ho2.form
 refine aA (bX hv2.1 (by simp[gS]) ho2.ok (by rw[e3]; rfl)) ?_
 have hov:(gS kv tv ev mv most bv s 0).set 6 r2=gS kv tv ev mv most r2 (qV s b) 0:=rfl
 rw[hov]
 have hv3:=hv2.updB (s':=qV s b) (bv':=r2) (er':=0) rfl (ho2.del fun id hid hm9=>by
  have:=hX id hm9
  have:=(ho2.blk hid).1
  omega).sl
 generalize hh3:h2.upd p (some (.cells (gS kv tv ev mv most r2 (qV s b) 0).toArray bE))=h3 at hv3
 have hk3:eB (iB p qs) h h3:=by rw[← hh3]; exact (hs1.trans hs2).keepL.upd (List.mem_cons_self ..)
 have hf3:Fr h3 n2:=by rw[← hh3]; exact hf2.upd (Nat.le_refl _) (by omega)
 have hlen9:(qV s b).kept.length=s.kept.length+b.length:=List.length_append
 refine aDB hv3.x hT (aNa hI hb2) hTl (by rw[hlen9]; show s.at_+_≤400; omega) (hf3.mono (by omega)) fun r4 h4 n4 hn4 hf4 hk4 hs4 ho4=>?_
 rw[hlen9] at hs4 ho4
 have hs4:ScX ro h4 X p qs T most 0 (fR T s b).2:=hs4
 have ho4:eD h4 r4 3 a9 (iX (fR T s b).1) (n2+5):=ho4
 have hI4:=aPw hT hI hb2
 obtain⟨kv4,tv4,ev4,mv4,bv4,hv4⟩:=id hs4
 have hv4:ScV ro h4 X p qs T most 0 kv4 tv4 ev4 mv4 bv4 (fR T s b).2:=hv4
 have hbl:=(hv4.2.2.2.2.2.1.sub (cX h4 X)).len
 rw[dJ] at hbl
 have l64:=aV (ro:=ro) (z:=0) hv4.1 (show (gS kv4 tv4 ev4 mv4 most bv4 (fR T s b).2 0)[6]?=some bv4 from rfl)
 have l54:=aV (ro:=ro) (z:=0) hv4.1 (show (gS kv4 tv4 ev4 mv4 most bv4 (fR T s b).2 0)[5]?=some (.int .i64 most) from rfl)
 have hj1:∀ (e':dL) (h5:V.T Obj) (n':Nat) (er':Int),e' 0=ptr p→e' 7=r4→er'=x9 most (fR T s b).2→n4≤n'→Fr h5 n'→eB (iB p qs) h h5→ScV ro h5 X p qs T most er' kv4 tv4 ev4 mv4 bv4 (fR T s b).2→eD h5 r4 3 a9 (iX (fR T s b).1) (n2+5)→lP ro K e' h5 n':=by
  intro e' h5 n' er' d0 d7 de dn df dk dv do_
  unfold lP
  rw[d0,d7]
  have l13:=aV (ro:=ro) (z:=0) dv.1 (show (gS kv4 tv4 ev4 mv4 most bv4 (fR T s b).2 er')[13]?=some (.int .i64 er') from rfl)
  (have zz:=And.intro @aR l13;repeat refine zzCz ?_)
  rw[← de] at hK
  exact⟨h5,aZ.refl _,hK r4 h5 _ (by omega) (df.mono (by omega)) dk dv.x (do_.mono (by omega))⟩
 (have zz:=And.intro @aR l64;repeat refine zzCz ?_)
 refine aA hbl ?_
 (have zz:=And.intro @aR l54;repeat refine zzCz ?_)
 by_cases hmo:most < ((fR T s b).2.kept.length:Int)
 ·refine aIa hmo ?_
  (have zz:=@aR;repeat refine zzCz ?_)
  refine aA (bX hv4.1 (by simp[gS]) rfl rfl) ?_
  have hov4:(gS kv4 tv4 ev4 mv4 most bv4 (fR T s b).2 0).set 13 (.int .i64 180)=gS kv4 tv4 ev4 mv4 most bv4 (fR T s b).2 180:=rfl
  rw[hov4]
  have hp4:=hf4.lt' hv4.1
  refine hj1 _ _ _ 180 rfl rfl (by unfold x9; rw[if_pos hmo]) ?_ ?_ ((hk3.trans hk4).upd (List.mem_cons_self ..)) (hv4.upd rfl rfl) (ho4.keepK (ids:=[p]) ((aZ.refl _).keepL.upd (by simp)) fun id hid hm9=>by simp at hm9; subst hm9; have:=(ho4.blk hid).1; omega)
  ·omega
  ·exact (hf4.mono (by omega)).upd (Nat.le_refl _) (by omega)
 ·refine aI9 (by omega) ?_
  (repeat refine zzC ?_)
  refine hj1 _ _ _ 0 rfl rfl (by unfold x9; rw[if_neg hmo]) ?_ ?_ (hk3.trans hk4) hv4 ho4
  ·omega
  ·exact hf4.mono (by omega)
end
end V
end Go.Proofs.YtcaccnneblghgaaGreat
namespace Go.Proofs.YtcaccnneblghgaaGreat
namespace V
attribute [local irreducible] aB bA aW dM eR gI dH
theorem aQZ (h:T Obj) (a b:Int):fZ Tryz.prog h .min #[dY,dY] [.int .i64 a,.int .i64 b]=some (.int .i64 (if b < a then b else a)):=by
 simp only[fZ,aNx,aMs]
 by_cases hb:b < a<;>simp[hb]
theorem aS7 {ro:Ro}{h:T Obj}{v:Value}{l:List Nat} (hv:iO ro h v 1 RU8 l):Sl ro h v 1 (cC l)∧∀ x∈l,x < 256:=by
 obtain⟨cs,h1,h2,h3⟩:=hv
 have e:cs=cC l:=by
  apply List.ext_getElem?
  intro i
  rcases Nat.lt_or_ge i l.length with hi | hi
  ·have hx:cs[i]?=some (cs[i]'(by omega)):=List.getElem?_eq_getElem _
   have:=(h3 i _ _ hx (List.getElem?_eq_getElem hi)).1
   rw[hx,this,qI hi]
  ·rw[List.getElem?_eq_none (by omega),List.getElem?_eq_none (by rw[dJ]; omega)]
 refine⟨by rw[← e]; exact h1,fun x hx=>?_⟩
 obtain⟨i,hi⟩:=List.getElem?_of_mem hx
 have hl:=(List.getElem?_eq_some_iff.1 hi).1
 exact (h3 i _ x (List.getElem?_eq_getElem (by omega)) hi).2
theorem aE2.right {ro:Ro}{h:T Obj}{x:List Value}{Tb:TabD} (hd:aE2 ro h x Tb) (hr:gC Tb=true):TabR Tb:=by
 obtain⟨cv,kv0,tv0,ev0,rfl,q1,q2,q3,q4,q5,q6,q7,q8⟩:=id hd
 refine (aLv hr fun e he=>?_).1
 obtain⟨j,hj⟩:=List.getElem?_of_mem he
 obtain⟨hlt,rfl⟩:=List.getElem?_eq_some_iff.1 hj
 obtain⟨y,⟨ax,rv,_,hA,_⟩,_⟩:=q4.at hlt
 obtain⟨cv9,sv9,_,hc9,_⟩:=hA
 exact hc9
end V
end Go.Proofs.YtcaccnneblghgaaGreat
namespace Go.Proofs.YtcaccnneblghgaaGreat
namespace V
attribute [local irreducible] tP aO aB
abbrev iH:FuncId:=27
abbrev i8:FuncId:=28
abbrev oX:FuncId:=29
abbrev jF:FuncId:=48
abbrev kI:FuncId:=49
abbrev oY:FuncId:=86
abbrev pT:FuncId:=87
abbrev kH:FuncId:=128
@[irreducible] def vT (ro:Ro) (K:KV):dL→T Obj→Nat→Prop:=fun e h nx=>∃ h21,aZ h21 h∧K (.tuple #[(e 6),(Value.int IntKind.i64 0)]) h21 (nx+3)
@[irreducible] def aEP (ro:Ro):PT:=fun e h nx Q=>aB (aT 3 (e 2)) fun d'=>aB (load1 ro h d') fun e'=>aB (bS e') fun f'=>aB (aQ .lss (e 7) f') fun g'=>aW g' (aB (aT 3 (e 2)) fun j'=>aB (load1 ro h j') fun k'=>aB (cQ 260 k' (e 7)) fun l'=>aB (aT 0 l') fun m'=>aB (loadA ro h 259 m') fun n'=>aO Tryz.prog ro aB3 [n'] h (nx+12) fun a' o' h'=>aB (nth 0 a') fun b'=>aB (nth 1 a') fun p'=>aB (bF (e 6)) fun q'=>aB (aT 4 q') fun r'=>aB (load1 ro o' r') fun s'=>aB (b7 Tryz.prog gH (h'+11) 1 [(0,b')]) fun i'=>eR o' (h'+11) i'.2 fun w'=>aB (cZ Tryz.prog ro w' (h'+13) #[gH,gH] [s',i'.1]) fun c'=>aB (bF (e 6)) fun t'=>aB (aT 4 t') fun u'=>aB (bU 1 c'.2.1 u' c'.1) fun x'=>aB (aQ .add (e 7) (Value.int IntKind.i64 1)) fun v'=>Q .normal (puts e [(21,(e 7)),(22,d'),(23,e'),(24,f'),(25,g'),(29,j'),(30,k'),(31,(e 7)),(32,l'),(33,m'),(34,n'),(35,a'),(28,a'),(36,b'),(37,p'),(8,b'),(9,p'),(38,(e 6)),(39,(e 6)),(40,q'),(41,r'),(42,s'),(43,b'),(44,i'.1),(45,c'.1),(46,t'),(47,u'),(26,(e 7)),(27,v'),(7,v')]) x' (c'.2.2+6)) (Q (.exit 0) (puts e [(21,(e 7)),(22,d'),(23,e'),(24,f'),(25,g')]) h (nx+5))
@[irreducible] def aIv (ro:Ro) (v0 v1:Value) (h:T Obj) (nx:Nat) (K:KV):Prop:=dM h nx (.cells (Value.cells v0) d4) fun h1=>aB (loadA ro h1 4 (ptr nx)) fun g'=>aO Tryz.prog ro y9 [g'] h1 (nx+5) fun h' h4 n5=>aB (unV .not h') fun a'=>bA a' false h4 (n5+2) (fun k7=>k7 v1 h4 (n5+3)) fun i' h9 j'=>bA a' false h9 j' (fun q'=>aB (aQ .lss i' (Value.int IntKind.i64 1)) fun r'=>q' r' h9 (j'+1)) fun k' d' b'=>aB (cS a' (Value.bool true) k') fun l'=>aW l' (∃ m',aZ m' d'∧K (.tuple #[(Value.pointer none),(Value.int IntKind.i64 1)]) m' (b'+3)) (aB (loadA ro d' 4 (ptr nx)) fun n'=>aB (fG Tryz.prog aY [(0,n'),(2,v1),(5,(Value.int IntKind.u8 10)),(9,(Value.int IntKind.i64 (-1)))]) fun o'=>dM d' (b'+4) (.cells (Value.cells o') aY) fun s'=>dZ (aEP ro) (puts (fT [v0,v1]) [(2,(ptr nx)),(4,(Value.pointer none)),(5,(Value.int IntKind.i64 0)),(10,g'),(11,h'),(12,a'),(13,a'),(14,i'),(15,k'),(16,l'),(17,n'),(18,v1),(19,o'),(20,(ptr (b'+4))),(6,(ptr (b'+4))),(7,(Value.int IntKind.i64 0))]) s' (b'+7) fun t' c' e' f'=>gI t' (vT ro K c' e' f') (fun u'=>dH (Nat.beq u' 0) (vT ro K c' e' f') (False)) (∃ p',aZ p' e'∧K (.tuple #[(c' 4),(c' 5)]) p' f'))
theorem aKA {ro:Ro}{v0 v1:Value}{h:T Obj}{nx:Nat}{K:KV} (hw:aIv ro v0 v1 h nx K):aO Tryz.prog ro aB4 [v0,v1] h nx K:=zzO (fn:=Tryz.f26) hw
@[irreducible] def pY (ro:Ro) (v0:Value) (h:T Obj) (nx:Nat) (K:KV):Prop:=aO Tryz.prog ro jF [v0] h (nx+4) fun a' h2 n3=>aB (aQ .neq a' (Value.int IntKind.i64 0)) fun c'=>aW c' (∃ h5,aZ h5 h2∧K (.tuple #[(Value.slice none 0 0),a']) h5 (n3+6)) (aB (bF v0) fun d'=>aB (aT 13 d') fun e'=>aB (bU 1 h2 e' (Value.bool true)) fun h8=>aO Tryz.prog ro kI [v0] h8 (n3+9) fun f' g' h'=>∃ b',aZ b' g'∧K (.tuple #[f',(Value.int IntKind.i64 0)]) b' (h'+2))
theorem sF {ro:Ro}{v0:Value}{h:T Obj}{nx:Nat}{K:KV} (hw:pY ro v0 h nx K):aO Tryz.prog ro iH [v0] h nx K:=zzO (fn:=Tryz.f27) hw
@[irreducible] def qR (ro:Ro) (v0 v1:Value) (h:T Obj) (nx:Nat) (K:KV):Prop:=aO Tryz.prog ro jF [v0] h (nx+4) fun d' h2 n3=>aB (aQ .neq d' (Value.int IntKind.i64 0)) fun i'=>aW i' (∃ h5,aZ h5 h2∧K (.tuple #[(Value.slice none 0 0),d']) h5 (n3+6)) (aB (b7 Tryz.prog bO (n3+4) 0 []) fun r6=>eR h2 (n3+4) r6.2 fun h7=>aB (bF v0) fun j'=>aB (aT 6 j') fun k'=>aB (load1 ro h7 k') fun l'=>aB (cZ Tryz.prog ro h7 (n3+10) #[bO,bO] [r6.1,l']) fun b'=>aB (cZ Tryz.prog ro b'.2.1 (b'.2.2+2) #[bO,bO] [b'.1,v1]) fun c'=>aB (bF v0) fun m'=>aB (aT 6 m') fun n'=>aB (bU 1 c'.2.1 n' c'.1) fun o'=>aO Tryz.prog ro kI [v0] o' (c'.2.2+5) fun e' a' f'=>aB (bF v0) fun p'=>aB (aT 6 p') fun q'=>aB (load1 ro a' q') fun r'=>aB (bS r') fun s'=>aB (bF v0) fun t'=>aB (aT 5 t') fun u'=>aB (load1 ro a' u') fun v'=>aB (aQ .gtr s' v') fun w'=>aW w' (aB (bF v0) fun x'=>aB (aT 14 x') fun y'=>aB (bU 1 a' y' (Value.bool true)) fun z'=>∃ g',aZ g' z'∧K (.tuple #[e',(Value.int IntKind.i64 180)]) g' (f'+18)) (∃ h',aZ h' a'∧K (.tuple #[e',(Value.int IntKind.i64 0)]) h' (f'+14)))
theorem s5 {ro:Ro}{v0 v1:Value}{h:T Obj}{nx:Nat}{K:KV} (hw:qR ro v0 v1 h nx K):aO Tryz.prog ro i8 [v0,v1] h nx K:=zzO (fn:=Tryz.f28) hw
@[irreducible] def kP (ro:Ro) (K:KV):dL→T Obj→Nat→Prop:=fun e h nx=>∃ h1,aZ h1 h∧K (e 3) h1 (nx+2)
@[irreducible] def s7 (ro:Ro):PT:=fun e h nx Q=>aB (bF (e 0)) fun a'=>aB (aT 4 a') fun b'=>aB (load1 ro h b') fun c'=>aB (bS c') fun d'=>aB (aQ .lss (e 4) d') fun e'=>aW e' (aB (bF (e 0)) fun f'=>aB (aT 4 f') fun g'=>aB (load1 ro h g') fun h'=>aB (cQ 1 h' (e 4)) fun i'=>aB (load1 ro h i') fun j'=>aO Tryz.prog ro oW [j'] h (nx+16) fun k' n' o'=>aB (aQ .add (e 3) k') fun l'=>aB (aQ .add (e 4) (Value.int IntKind.i64 1)) fun m'=>Q .normal (puts e [(5,(e 4)),(6,(e 0)),(7,a'),(8,b'),(9,c'),(10,d'),(11,e'),(14,(e 3)),(15,(e 0)),(16,f'),(17,g'),(18,h'),(19,(e 4)),(20,i'),(21,j'),(22,k'),(23,l'),(3,l'),(12,(e 4)),(13,m'),(4,m')]) n' (o'+5)) (Q (.exit 0) (puts e [(5,(e 4)),(6,(e 0)),(7,a'),(8,b'),(9,c'),(10,d'),(11,e')]) h (nx+7))
@[irreducible] def xK (ro:Ro) (v0:Value) (h:T Obj) (nx:Nat) (K:KV):Prop:=dZ (s7 ro) (puts (fT [v0]) [(2,(Value.int IntKind.i64 0)),(3,(Value.int IntKind.i64 0)),(4,(Value.int IntKind.i64 0))]) h (nx+3) fun x20 e17 h18 n19=>gI x20 (kP ro K e17 h18 n19) (fun i21=>dH (Nat.beq i21 0) (kP ro K e17 h18 n19) (False)) (∃ h22,aZ h22 h18∧K (e17 2) h22 n19)
theorem aBB {ro:Ro}{v0:Value}{h:T Obj}{nx:Nat}{K:KV} (hw:xK ro v0 h nx K):aO Tryz.prog ro oX [v0] h nx K:=zzO (fn:=Tryz.f29) hw
@[irreducible] def tA (ro:Ro) (v0:Value) (h:T Obj) (nx:Nat) (K:KV):Prop:=aB (bF v0) fun a'=>aB (aT 14 a') fun b'=>aB (load1 ro h b') fun c'=>aW c' (∃ h4,aZ h4 h∧K (Value.int IntKind.i64 180) h4 (nx+6)) (aB (bF v0) fun d'=>aB (aT 13 d') fun e'=>aB (load1 ro h e') fun f'=>aW f' (∃ h8,aZ h8 h∧K (Value.int IntKind.i64 181) h8 (nx+10)) (∃ h9,aZ h9 h∧K (Value.int IntKind.i64 0) h9 (nx+10)))
theorem zG {ro:Ro}{v0:Value}{h:T Obj}{nx:Nat}{K:KV} (hw:tA ro v0 h nx K):aO Tryz.prog ro jF [v0] h nx K:=zzO (fn:=Tryz.f48) hw
@[irreducible] def jT (ro:Ro) (K:KV):dL→T Obj→Nat→Prop:=fun e h nx=>∃ h1,aZ h1 h∧K (e 3) h1 (nx+2)
@[irreducible] def sG (ro:Ro):PT:=fun e h nx Q=>aB (bF (e 0)) fun d'=>aB (aT 6 d') fun e'=>aB (load1 ro h e') fun f'=>aB (bS f') fun g'=>aB (aQ .gtr g' (Value.int IntKind.i64 0)) fun b'=>bA b' true h (nx+7) (fun k7=>k7 (e 0) h (nx+8)) fun h' h9 G'=>bA b' true h9 G' (fun Z'=>aO Tryz.prog ro oY [h'] h9 (G'+1) fun aa' ab' ac'=>Z' aa' ab' ac') fun i' H' I'=>aB (cS b' i' (Value.bool false)) fun j'=>aW j' (aO Tryz.prog ro pT [(e 0)] H' (I'+3) fun m' ad' c'=>aB (nF Tryz.prog a9) fun ae'=>dM ad' c' (.cells ae'.cells a9) fun af'=>aB (bU 3 af' (ptr c') m') fun n'=>aB (aT 0 (ptr c')) fun o'=>aB (load1 ro n' o') fun p'=>aB (aQ .lss p' (Value.int IntKind.i64 0)) fun a'=>bA a' false n' (c'+17) (fun ag'=>ag' (e 0) n' (c'+17)) fun q' J' K'=>bA a' false J' K' (fun ah'=>aB (bF q') fun ai'=>ah' ai' J' K') fun r' L' M'=>bA a' false L' M' (fun aj'=>aB (aT 0 r') fun ak'=>aj' ak' L' M') fun s' N' O'=>bA a' false N' O' (fun al'=>aB (aT 1 s') fun am'=>al' am' N' O') fun t' u' P'=>bA a' false u' P' (fun an'=>aB (load1 ro u' t') fun ao'=>an' ao' u' P') fun v' Q' R'=>bA a' false Q' R' (fun ap'=>aB (aT 0 (ptr c')) fun aq'=>ap' aq' Q' R') fun w' x' S'=>bA a' false x' S' (fun ar'=>aB (load1 ro x' w') fun as'=>ar' as' x' S') fun y' T' U'=>bA a' false T' U' (fun at'=>aB (cQ 1 v' y') fun au'=>at' au' T' U') fun z' A' V'=>bA a' false A' V' (fun av'=>aB (load1 ro A' z') fun aw'=>av' aw' A' V') fun B' W' X'=>bA a' false W' X' (fun ax'=>aB (aFk .neq B' (Value.string { data:=#[] })) fun ay'=>ax' ay' W' X') fun C' D' k'=>aB (cS a' (Value.bool true) C') fun E'=>aW E' (aB (loadA ro D' 3 (ptr c')) fun Y'=>aB (b7 Tryz.prog fE (k'+2) 1 [(0,Y')]) fun F'=>eR D' (k'+2) F'.2 fun az'=>aB (cZ Tryz.prog ro az' (k'+4) #[fE,fE] [(e 3),F'.1]) fun l'=>Q .normal (puts e [(5,(e 0)),(6,d'),(7,e'),(8,f'),(9,g'),(10,b'),(11,b'),(12,h'),(13,i'),(14,j'),(15,(e 0)),(16,m'),(4,(ptr c')),(17,o'),(18,p'),(19,a'),(20,a'),(21,q'),(22,r'),(23,s'),(24,t'),(25,v'),(26,w'),(27,y'),(28,z'),(29,B'),(30,C'),(31,E'),(32,(e 3)),(33,Y'),(34,F'.1),(35,l'.1),(3,l'.1)]) l'.2.1 (l'.2.2+1)) (Q .normal (puts e [(5,(e 0)),(6,d'),(7,e'),(8,f'),(9,g'),(10,b'),(11,b'),(12,h'),(13,i'),(14,j'),(15,(e 0)),(16,m'),(4,(ptr c')),(17,o'),(18,p'),(19,a'),(20,a'),(21,q'),(22,r'),(23,s'),(24,t'),(25,v'),(26,w'),(27,y'),(28,z'),(29,B'),(30,C'),(31,E')]) D' k')) (Q (.exit 0) (puts e [(5,(e 0)),(6,d'),(7,e'),(8,f'),(9,g'),(10,b'),(11,b'),(12,h'),(13,i'),(14,j')]) H' (I'+1))
@[irreducible] def vA (ro:Ro) (v0:Value) (h:T Obj) (nx:Nat) (K:KV):Prop:=dZ (sG ro) (puts (fT [v0]) [(2,(Value.slice none 0 0)),(3,(Value.slice none 0 0))]) h (nx+2) fun x85 e82 h83 n84=>gI x85 (jT ro K e82 h83 n84) (fun i86=>dH (Nat.beq i86 0) (jT ro K e82 h83 n84) (False)) (∃ h87,aZ h87 h83∧K (e82 2) h87 n84)
theorem aA6 {ro:Ro}{v0:Value}{h:T Obj}{nx:Nat}{K:KV} (hw:vA ro v0 h nx K):aO Tryz.prog ro kI [v0] h nx K:=zzO (fn:=Tryz.f49) hw
@[irreducible] def kR (ro:Ro) (K:KV):dL→T Obj→Nat→Prop:=fun e h nx=>aB (bF (e 0)) fun b'=>aB (aT 13 b') fun c'=>aB (load1 ro h c') fun d'=>∃ a',aZ a' h∧K d' a' (nx+5)
@[irreducible] def s9 (ro:Ro):PT:=fun e h nx Q=>aB (bF (e 0)) fun b'=>aB (aT 10 b') fun c'=>aB (load1 ro h c') fun d'=>aB (bF (e 0)) fun e'=>aB (aT 6 e') fun f'=>aB (load1 ro h f') fun g'=>aB (bS g') fun h'=>aB (aQ .lss d' h') fun i'=>aW i' (aB (bF (e 0)) fun j'=>aB (aT 10 j') fun k'=>aB (load1 ro h k') fun l'=>aB (aQ .add l' (Value.int IntKind.i64 1)) fun m'=>aB (bF (e 0)) fun n'=>aB (aT 10 n') fun o'=>aB (bU 1 h o' m') fun J'=>aB (bF (e 0)) fun p'=>aB (aT 15 p') fun q'=>aB (load1 ro J' q') fun r'=>aB (aQ .add r' (Value.int IntKind.i64 1)) fun s'=>aB (bF (e 0)) fun t'=>aB (aT 15 t') fun u'=>aB (bU 1 J' u' s') fun v'=>aB (bF (e 0)) fun w'=>aB (aT 6 w') fun x'=>aB (load1 ro v' x') fun y'=>aB (bF (e 0)) fun z'=>aB (aT 10 z') fun A'=>aB (load1 ro v' A') fun B'=>aB (aQ .sub B' (Value.int IntKind.i64 1)) fun C'=>aB (cQ 1 y' C') fun D'=>aB (load1 ro v' D') fun E'=>aO Tryz.prog ro oV [(e 3),E'] v' (nx+40) fun F' K' L'=>aB (unV .not F') fun G'=>aW G' (Q .ret (puts e [(20,(e 0)),(21,b'),(22,c'),(23,d'),(24,(e 0)),(25,e'),(26,f'),(27,g'),(28,h'),(29,i'),(30,(e 0)),(31,j'),(32,k'),(33,l'),(34,m'),(35,n'),(36,o'),(37,(e 0)),(38,p'),(39,q'),(40,r'),(41,s'),(42,t'),(43,u'),(44,(e 3)),(45,(e 0)),(46,w'),(47,x'),(48,y'),(49,(e 0)),(50,z'),(51,A'),(52,B'),(53,C'),(54,D'),(55,E'),(56,F'),(57,G'),(2,(Value.bool true))]) K' (L'+1)) (aO Tryz.prog ro oU [(e 3)] K' (L'+2) fun a' H' M'=>aB (aQ .geq a' (Value.int IntKind.i64 0)) fun I'=>aW I' (aB (bF (e 0)) fun N'=>aB (aT 10 N') fun O'=>aB (load1 ro H' O') fun P'=>aB (bF (e 0)) fun Q'=>aB (aT 11 Q') fun R'=>aB (bU 1 H' R' P') fun U'=>aB (bF (e 0)) fun S'=>aB (aT 12 S') fun T'=>aB (bU 1 U' T' a') fun V'=>Q .normal (puts e [(20,(e 0)),(21,b'),(22,c'),(23,d'),(24,(e 0)),(25,e'),(26,f'),(27,g'),(28,h'),(29,i'),(30,(e 0)),(31,j'),(32,k'),(33,l'),(34,m'),(35,n'),(36,o'),(37,(e 0)),(38,p'),(39,q'),(40,r'),(41,s'),(42,t'),(43,u'),(44,(e 3)),(45,(e 0)),(46,w'),(47,x'),(48,y'),(49,(e 0)),(50,z'),(51,A'),(52,B'),(53,C'),(54,D'),(55,E'),(56,F'),(57,G'),(58,(e 3)),(59,a'),(4,a'),(60,a'),(61,I'),(62,(e 0)),(63,(e 0)),(64,N'),(65,O'),(66,P'),(67,Q'),(68,R'),(69,(e 0)),(70,a'),(71,S'),(72,T')]) V' (M'+16)) (Q .normal (puts e [(20,(e 0)),(21,b'),(22,c'),(23,d'),(24,(e 0)),(25,e'),(26,f'),(27,g'),(28,h'),(29,i'),(30,(e 0)),(31,j'),(32,k'),(33,l'),(34,m'),(35,n'),(36,o'),(37,(e 0)),(38,p'),(39,q'),(40,r'),(41,s'),(42,t'),(43,u'),(44,(e 3)),(45,(e 0)),(46,w'),(47,x'),(48,y'),(49,(e 0)),(50,z'),(51,A'),(52,B'),(53,C'),(54,D'),(55,E'),(56,F'),(57,G'),(58,(e 3)),(59,a'),(4,a'),(60,a'),(61,I')]) H' (M'+3)))) (Q (.exit 0) (puts e [(20,(e 0)),(21,b'),(22,c'),(23,d'),(24,(e 0)),(25,e'),(26,f'),(27,g'),(28,h'),(29,i')]) h (nx+10))
@[irreducible] def kQ (ro:Ro) (K:KV):dL→T Obj→Nat→Prop:=fun e h nx=>dZ (s9 ro) e h nx fun x64 e61 h62 n63=>gI x64 (kR ro K e61 h62 n63) (fun i65=>dH (Nat.beq i65 0) (kR ro K e61 h62 n63) (False)) (∃ h66,aZ h66 h62∧K (e61 2) h66 n63)
@[irreducible] def xL (ro:Ro) (v0:Value) (h:T Obj) (nx:Nat) (K:KV):Prop:=aB (bF v0) fun c'=>aB (aT 4 c') fun b'=>aB (load1 ro h b') fun d'=>aO Tryz.prog ro kH [v0] h (nx+10) fun e' h5 n6=>(gZ b' h h5)∧(aB (cQ 1 d' e') fun f'=>aB (load1 ro h5 f') fun a'=>aB (bF v0) fun g'=>aB (aT 10 g') fun h'=>aB (load1 ro h5 h') fun i'=>aB (aQ .eql i' (Value.int IntKind.i64 0)) fun j'=>aW j' (aO Tryz.prog ro nS [a'] h5 (n6+7) fun k' l' m'=>kQ ro K (puts (fT [v0]) [(2,(Value.bool false)),(5,v0),(6,c'),(7,b'),(8,d'),(9,v0),(10,e'),(11,f'),(12,a'),(3,a'),(13,v0),(14,g'),(15,h'),(16,i'),(17,j'),(18,a'),(19,k')]) l' m') (kQ ro K (puts (fT [v0]) [(2,(Value.bool false)),(5,v0),(6,c'),(7,b'),(8,d'),(9,v0),(10,e'),(11,f'),(12,a'),(3,a'),(13,v0),(14,g'),(15,h'),(16,i'),(17,j')]) h5 (n6+5)))
theorem aBC {ro:Ro}{v0:Value}{h:T Obj}{nx:Nat}{K:KV} (hw:xL ro v0 h nx K):aO Tryz.prog ro oY [v0] h nx K:=zzO (fn:=Tryz.f86) hw
@[irreducible] def lO (ro:Ro) (K:KV):dL→T Obj→Nat→Prop:=fun e h nx=>aB (bF (e 0)) fun d'=>aB (aT 10 d') fun e'=>aB (bU 1 h e' (Value.int IntKind.i64 0)) fun f'=>aB (bF (e 0)) fun g'=>aB (aT 11 g') fun h'=>aB (bU 1 f' h' (Value.int IntKind.i64 0)) fun i'=>aB (bF (e 0)) fun j'=>aB (aT 12 j') fun k'=>aB (bU 1 i' k' (Value.int IntKind.i64 (-1))) fun a'=>aB (loadA ro a' 3 (e 3)) fun l'=>aB (bU 3 a' (e 2) l') fun b'=>aB (loadA ro b' 3 (e 2)) fun m'=>∃ c',aZ c' b'∧K m' c' (nx+14)
@[irreducible] def lN (ro:Ro) (K:KV):dL→T Obj→Nat→Prop:=fun e h nx=>aB (aT 2 (e 3)) fun f'=>aB (load1 ro h f') fun g'=>aB (aT 1 (e 3)) fun h'=>aB (load1 ro h h') fun i'=>aB (aQ .sub g' i') fun b'=>aB (bF (e 0)) fun j'=>aB (aT 6 j') fun k'=>aB (load1 ro h k') fun l'=>aB (aQ .sub b' (Value.int IntKind.i64 1)) fun m'=>aB (cQ 1 l' m') fun n'=>aB (load1 ro h n') fun o'=>aB (bF (e 0)) fun p'=>aB (aT 8 p') fun q'=>aB (bU 1 h q' o') fun au'=>aB (b7 Tryz.prog bO (nx+19) 0 []) fun e'=>eR au' (nx+19) e'.2 fun S'=>aB (bF (e 0)) fun r'=>aB (aT 6 r') fun s'=>aB (load1 ro S' s') fun t'=>aB (nX Tryz.prog bO t' (some b') none none) fun u'=>aB (cZ Tryz.prog ro S' (nx+27) #[bO,bO] [e'.1,u']) fun c'=>aB (bF (e 0)) fun v'=>aB (aT 6 v') fun w'=>aB (bU 1 c'.2.1 w' c'.1) fun T'=>aB (aT 2 (e 3)) fun x'=>aB (load1 ro T' x') fun y'=>aB (bF (e 0)) fun z'=>aB (aT 7 z') fun A'=>aB (bU 1 T' A' y') fun B'=>aB (aT 0 (e 3)) fun C'=>aB (load1 ro B' C') fun D'=>aB (aQ .geq D' (Value.int IntKind.i64 0)) fun a'=>bA a' true B' (c'.2.2+24) (fun av'=>av' (e 0) B' (c'.2.2+24)) fun E' U' V'=>bA a' true U' V' (fun aw'=>aB (bF E') fun ax'=>aw' ax' U' V') fun F' W' X'=>bA a' true W' X' (fun ay'=>aB (aT 0 F') fun az'=>ay' az' W' X') fun G' Y' Z'=>bA a' true Y' Z' (fun aA'=>aB (aT 2 G') fun aB'=>aA' aB' Y' Z') fun H' I' aa'=>bA a' true I' aa' (fun aC'=>aB (load1 ro I' H') fun aD'=>aC' aD' I' aa') fun J' ab' ac'=>bA a' true ab' ac' (fun aE'=>aB (aT 0 (e 3)) fun aF'=>aE' aF' ab' ac') fun K' L' ad'=>bA a' true L' ad' (fun aG'=>aB (load1 ro L' K') fun aH'=>aG' aH' L' ad') fun M' ae' af'=>bA a' true ae' af' (fun aI'=>aB (cQ 1 J' M') fun aJ'=>aI' aJ' ae' af') fun N' O' ag'=>bA a' true O' ag' (fun aK'=>aB (load1 ro O' N') fun aL'=>aK' aL' O' ag') fun P' ah' ai'=>bA a' true ah' ai' (fun aM'=>aB (aQ .geq P' (Value.int IntKind.i64 0)) fun aN'=>aM' aN' ah' ai') fun Q' d' aj'=>aB (cS a' Q' (Value.bool false)) fun R'=>aW R' (aB (bF (e 0)) fun ak'=>aB (aT 0 ak') fun al'=>aB (aT 2 al') fun am'=>aB (load1 ro d' am') fun an'=>aB (aT 0 (e 3)) fun ao'=>aB (load1 ro d' ao') fun ap'=>aB (cQ 1 an' ap') fun aq'=>aB (load1 ro d' aq') fun ar'=>aB (bF (e 0)) fun as'=>aB (aT 9 as') fun at'=>aB (bU 1 d' at' ar') fun aO'=>lO ro K (puts e [(47,f'),(48,g'),(49,h'),(50,i'),(51,b'),(4,b'),(52,(e 0)),(53,(e 0)),(54,j'),(55,k'),(56,l'),(57,b'),(58,m'),(59,n'),(60,o'),(61,p'),(62,q'),(63,(e 0)),(64,e'.1),(65,(e 0)),(66,r'),(67,s'),(68,t'),(69,b'),(70,u'),(71,c'.1),(72,v'),(73,w'),(74,(e 0)),(75,x'),(76,y'),(77,z'),(78,A'),(79,C'),(80,D'),(81,a'),(82,a'),(83,E'),(84,F'),(85,G'),(86,H'),(87,J'),(88,K'),(89,M'),(90,N'),(91,P'),(92,Q'),(93,R'),(94,(e 0)),(95,(e 0)),(96,ak'),(97,al'),(98,am'),(99,an'),(100,ao'),(101,ap'),(102,aq'),(103,ar'),(104,as'),(105,at')]) aO' (aj'+13)) (lO ro K (puts e [(47,f'),(48,g'),(49,h'),(50,i'),(51,b'),(4,b'),(52,(e 0)),(53,(e 0)),(54,j'),(55,k'),(56,l'),(57,b'),(58,m'),(59,n'),(60,o'),(61,p'),(62,q'),(63,(e 0)),(64,e'.1),(65,(e 0)),(66,r'),(67,s'),(68,t'),(69,b'),(70,u'),(71,c'.1),(72,v'),(73,w'),(74,(e 0)),(75,x'),(76,y'),(77,z'),(78,A'),(79,C'),(80,D'),(81,a'),(82,a'),(83,E'),(84,F'),(85,G'),(86,H'),(87,J'),(88,K'),(89,M'),(90,N'),(91,P'),(92,Q'),(93,R')]) d' aj')
@[irreducible] def yI (ro:Ro) (v0:Value) (h:T Obj) (nx:Nat) (K:KV):Prop:=aB (nF Tryz.prog a9) fun z1=>dM h nx (.cells z1.cells a9) fun h2=>aB (bF v0) fun c'=>aB (aT 7 c') fun d'=>aB (load1 ro h2 d') fun e'=>aB (bF v0) fun f'=>aB (aT 7 f') fun g'=>aB (load1 ro h2 g') fun h'=>aB (aQ .add h' (Value.int IntKind.i64 1)) fun i'=>aB (fG Tryz.prog a9 [(0,(Value.int IntKind.i64 (-1))),(1,e'),(2,i')]) fun j'=>aB (nF Tryz.prog a9) fun L'=>dM h2 (nx+11) (.cells L'.cells a9) fun M'=>aB (bU 3 M' (ptr (nx+11)) j') fun a'=>aB (bF v0) fun k'=>aB (aT 12 k') fun l'=>aB (load1 ro a' l') fun m'=>aB (aQ .geq m' (Value.int IntKind.i64 0)) fun n'=>aW n' (aB (bF v0) fun r'=>aB (aT 0 r') fun s'=>aB (aT 3 s') fun o'=>aB (load1 ro a' o') fun t'=>aO Tryz.prog ro kH [v0] a' (nx+36) fun u' b' N'=>(gZ o' a' b')∧(aB (cQ 260 t' u') fun v'=>aB (aT 259 v') fun w'=>aB (load1 ro b' w') fun x'=>aB (bF v0) fun y'=>aB (aT 12 y') fun p'=>aB (load1 ro b' p') fun z'=>(gZ p' a' b')∧(aB (cQ 1 x' z') fun A'=>aB (load1 ro b' A') fun B'=>aB (aT 0 (ptr (nx+11))) fun C'=>aB (bU 1 b' C' B') fun q'=>aB (bF v0) fun D'=>aB (aT 7 D') fun E'=>aB (load1 ro q' E') fun F'=>aB (bF v0) fun G'=>aB (aT 11 G') fun H'=>aB (load1 ro q' H') fun I'=>aB (aQ .add F' I') fun J'=>aB (aT 2 (ptr (nx+11))) fun K'=>aB (bU 1 q' K' J') fun O'=>lN ro K (puts (fT [v0]) [(2,(ptr nx)),(5,v0),(6,c'),(7,d'),(8,e'),(9,v0),(10,f'),(11,g'),(12,h'),(13,i'),(14,j'),(3,(ptr (nx+11))),(15,v0),(16,k'),(17,l'),(18,m'),(19,n'),(20,v0),(21,r'),(22,s'),(23,o'),(24,t'),(25,v0),(26,u'),(27,v'),(28,w'),(29,x'),(30,v0),(31,y'),(32,p'),(33,z'),(34,A'),(35,B'),(36,C'),(37,v0),(38,D'),(39,E'),(40,F'),(41,v0),(42,G'),(43,H'),(44,I'),(45,J'),(46,K')]) O' (N'+11)))) (lN ro K (puts (fT [v0]) [(2,(ptr nx)),(5,v0),(6,c'),(7,d'),(8,e'),(9,v0),(10,f'),(11,g'),(12,h'),(13,i'),(14,j'),(3,(ptr (nx+11))),(15,v0),(16,k'),(17,l'),(18,m'),(19,n')]) a' (nx+18))
theorem aBu {ro:Ro}{v0:Value}{h:T Obj}{nx:Nat}{K:KV} (hw:yI ro v0 h nx K):aO Tryz.prog ro pT [v0] h nx K:=zzO (fn:=Tryz.f87) hw
@[irreducible] def u7 (ro:Ro) (v0:Value) (h:T Obj) (nx:Nat) (K:KV):Prop:=aB (bF v0) fun c'=>aB (aT 8 c') fun d'=>aB (load1 ro h d') fun e'=>aB (aQ .eql e' (Value.int IntKind.u8 10)) fun f'=>aW f' (aB (bF v0) fun g'=>aB (aT 9 g') fun h'=>aB (load1 ro h h') fun i'=>aB (aQ .mul (Value.int IntKind.i64 2) i') fun j'=>aB (aQ .add j' (Value.int IntKind.i64 1)) fun k'=>∃ a',aZ a' h∧K k' a' (nx+13)) (aB (bF v0) fun l'=>aB (aT 9 l') fun m'=>aB (load1 ro h m') fun n'=>aB (aQ .mul (Value.int IntKind.i64 2) n') fun o'=>∃ b',aZ b' h∧K o' b' (nx+12))
theorem aA5 {ro:Ro}{v0:Value}{h:T Obj}{nx:Nat}{K:KV} (hw:u7 ro v0 h nx K):aO Tryz.prog ro kH [v0] h nx K:=zzO (fn:=Tryz.f128) hw
end V
end Go.Proofs.YtcaccnneblghgaaGreat
namespace Go.Proofs.YtcaccnneblghgaaGreat
namespace V
attribute [local irreducible] aB bA aW dM eR gI dH
structure WsX (ro:Ro) (h:T Obj) (X:List Nat) (qs:List oI) (ds:List AutoD) (ms:List MacD):Prop where
 lq:qs.length=ds.length
 lm:ms.length=ds.length
 at_:∀ (i:Nat) q d m,qs[i]?=some q→ds[i]?=some d→ms[i]?=some m→MW ro h X q.1 q.2 d m
 dis:∀ (i j:Nat) q r,qs[i]?=some q→qs[j]?=some r→i≠j→∀ k∈kU q,k ∉ kU r
section
variable {ro:Ro}{h h':T Obj}{X X':List Nat}{qs:List oI}{ds:List AutoD}{ms:List MacD}{nx nx':Nat}
theorem MX.tyW {p:Nat}{ps:List (Nat × Nat)}{d:AutoD}{m:MacD} (hm:MW ro h X p ps d m):∀ k∈p::iD ps,∃ c e,h.get k=some (.cells c e)∧(e=bN∨e=cG∨e=jK):=fun k hk=>by
 obtain⟨cv,sv,rv,g1,g2,g3,g4,g5,g6,g7⟩:=hm
 rcases List.mem_cons.1 hk with rfl | hk
 ·exact⟨_,_,g1,.inl rfl⟩
 ·obtain⟨q,hq,h9⟩:=jN.1 hk
  obtain⟨⟨c1,t1⟩,c2,t2⟩:=g4.ty rH q hq
  rcases h9 with rfl | rfl
  ·exact⟨_,_,t1,.inr (.inl rfl)⟩
  ·exact⟨_,_,t2,.inr (.inr rfl)⟩
theorem WsX.nil:WsX ro h X [] [] []:=⟨rfl,rfl,fun i q d m h1=>by simp at h1,fun i j q r h1=>by simp at h1⟩
theorem WsX.get (hm:WsX ro h X qs ds ms) {i:Nat}{q:oI} (hq:qs[i]?=some q):∃ d m,ds[i]?=some d∧ms[i]?=some m∧MW ro h X q.1 q.2 d m:=by
 have hl:=(List.getElem?_eq_some_iff.1 hq).1
 have e1:ds[i]?=some (ds[i]'(by rw[← hm.lq]; exact hl)):=List.getElem?_eq_getElem _
 have e2:ms[i]?=some (ms[i]'(by rw[hm.lm,← hm.lq]; exact hl)):=List.getElem?_eq_getElem _
 exact⟨_,_,e1,e2,hm.at_ i q _ _ hq e1 e2⟩
theorem WsX.blk (hm:WsX ro h X qs ds ms):∀ q∈qs,∀ k∈kU q,k∈X∧∃ c e,h.get k=some (.cells c e)∧(e=bN∨e=cG∨e=jK):=fun q hq k hk=>by
 obtain⟨i,hi⟩:=List.getElem?_of_mem hq
 obtain⟨d,m,_,_,h9⟩:=hm.get hi
 exact⟨h9.inX k hk,h9.tyW k hk⟩
theorem WsX.neB (hm:WsX ro h X qs ds ms) {k:Nat}{c:Array Value}{e:TypeId} (hk:h.get k=some (.cells c e)) (he:e≠bN∧e≠cG∧e≠jK):∀ q∈qs,k ∉ kU q:=fun q hq h9=>by
 obtain⟨_,c2,e2,g1,g2⟩:=hm.blk q hq k h9
 rw[hk] at g1
 simp only[Option.some.injEq,Obj.cells.injEq] at g1
 rcases g2 with g2 | g2 | g2
 ·exact he.1 (g1.2.1.trans g2)
 ·exact he.2.1 (g1.2.1.trans g2)
 ·exact he.2.2 (g1.2.1.trans g2)
theorem WsX.keep {ids:List Nat} (hm:WsX ro h X qs ds ms) (hs:eB ids h h') (h1:∀ k∈ids,k∈X) (h2:∀ q∈qs,∀ k∈ids,k ∉ kU q) (h3:∀ k∈X',k∈X∨h.get k=none) (h4:∀ k∈X,k∈X'):WsX ro h' X' qs ds ms :=
 ⟨hm.lq,hm.lm,fun i q d m g1 g2 g3=>(hm.at_ i q d m g1 g2 g3).keep rH hs h1 (fun k hk=>by
  have:=h2 q (List.mem_of_getElem? g1) k hk
  exact⟨fun e=>this (by rw[e]; exact List.mem_cons_self ..),fun e=>this (List.mem_cons_of_mem _ e)⟩) h3 h4,hm.dis⟩
theorem WsX.shrink (hm:WsX ro h X qs ds ms) (hX:∀ k∈X',k∈X) (hp:∀ q∈qs,∀ k∈kU q,k∈X'):WsX ro h X' qs ds ms :=
 ⟨hm.lq,hm.lm,fun i q d m h1 h2 h3=>(hm.at_ i q d m h1 h2 h3).shrink hX (hp q (List.mem_of_getElem? h1)),hm.dis⟩
theorem WsX.snoc (hm:WsX ro h X qs ds ms) {q:oI}{d:AutoD}{m:MacD} (hn:MW ro h X q.1 q.2 d m) (hd:∀ r∈qs,∀ k∈kU r,k ∉ kU q):WsX ro h X (qs++[q]) (ds++[d]) (ms++[m]):=by
 have l1:=hm.lq
 have l2:=hm.lm
 refine⟨by simp[l1],by simp[l2],fun i q2 d2 m2 g1 g2 g3=>?_,fun i j q2 r g1 g2 hij k hk=>?_⟩
 ·rcases Nat.lt_or_ge i qs.length with hi | hi
  ·rw[List.getElem?_append_left hi] at g1
   rw[List.getElem?_append_left (by omega)] at g2 g3
   exact hm.at_ i q2 d2 m2 g1 g2 g3
  ·rw[List.getElem?_append_right hi] at g1
   rw[List.getElem?_append_right (by omega)] at g2 g3
   have hi0:i - qs.length=0:=by
    rcases Nat.eq_zero_or_pos (i - qs.length) with h0 | h0
    ·exact h0
    ·rw[List.getElem?_eq_none (by simp; omega)] at g1; cases g1
   rw[hi0] at g1
   rw[show i - ds.length=0 by omega] at g2
   rw[show i - ms.length=0 by omega] at g3
   simp at g1 g2 g3
   subst g1; subst g2; subst g3
   exact hn
 ·have key:∀ {i:Nat} {q2:oI},(qs++[q])[i]?=some q2→(i < qs.length∧qs[i]?=some q2)∨(i=qs.length∧q2=q):=fun {i q2} g=>by
   rcases Nat.lt_or_ge i qs.length with hi | hi
   ·rw[List.getElem?_append_left hi] at g; exact .inl ⟨hi,g⟩
   ·rw[List.getElem?_append_right hi] at g
    rcases Nat.eq_zero_or_pos (i - qs.length) with h0 | h0
    ·rw[h0] at g; simp at g; exact .inr ⟨by omega,g.symm⟩
    ·rw[List.getElem?_eq_none (by simp; omega)] at g; cases g
  rcases key g1 with ⟨i1,i2⟩ | ⟨i1,rfl⟩
  ·rcases key g2 with ⟨j1,j2⟩ | ⟨j1,rfl⟩
   ·exact hm.dis i j q2 r i2 j2 hij k hk
   ·exact hd q2 (List.mem_of_getElem? i2) k hk
  ·rcases key g2 with ⟨j1,j2⟩ | ⟨j1,_⟩
   ·intro hk2
    exact hd r (List.mem_of_getElem? j2) k hk2 hk
   ·omega
theorem WsX.step (hm:WsX ro h X qs ds ms) (hf:Fr h nx) {i:Nat}{q:oI}{d:AutoD}{m':MacD}{ps':List (Nat × Nat)} (hq:qs[i]?=some q) (hd:ds[i]?=some d) (hl:aDa ro h nx X q.1 q.2 d m' h' nx' X' ps') :
  WsX ro h' (X++iD ps') (qs.set i (q.1,ps')) ds (ms.set i m')∧(∀ k∈X++iD ps',k∈X∨h.get k=none)∧(∀ k∈iD ps',k∈X∨nx≤k∧k < nx'):=by
 obtain⟨l1,l2,l3,l4,l5,l6,l7⟩:=hl
 have hlq:=(List.getElem?_eq_some_iff.1 hq).1
 obtain⟨d9,m9,e1,e2,hMW⟩:=hm.get hq
 rw[hd] at e1
 cases e1
 have hlt:=l7.lt rH l2
 have hb:∀ k∈iD ps',k∈X∨nx≤k∧k < nx':=fun k hk=>by
  rcases l6 k hk with h9 | h9
  ·exact .inl (hMW.inX k (List.mem_cons_of_mem _ h9))
  ·exact .inr ⟨h9,hlt.2 k hk⟩
 have hXn:∀ k∈X++iD ps',k∈X∨h.get k=none:=fun k hk=>by
  rcases List.mem_append.1 hk with hk | hk
  ·exact .inl hk
  ·rcases hb k hk with h9 | h9
   ·exact .inl h9
   ·exact .inr (hf k h9.1)
 have hX1:∀ k∈q.1::iD q.2,k∈X:=hMW.inX
 have hold:∀ k,k∈kU (q.1,ps')→k∈kU q∨nx≤k:=fun k hk=>by
  rcases List.mem_cons.1 hk with rfl | hk
  ·exact .inl (List.mem_cons_self ..)
  ·rcases l6 k hk with h9 | h9
   ·exact .inl (List.mem_cons_of_mem _ h9)
   ·exact .inr h9
 have hlt2:∀ (j:Nat) r,qs[j]?=some r→∀ k∈kU r,k < nx:=fun j r hr k hk=>by
  obtain⟨_,c,e,g1,_⟩:=hm.blk r (List.mem_of_getElem? hr) k hk
  exact hf.lt' g1
 refine⟨⟨by rw[List.length_set]; exact hm.lq,by rw[List.length_set]; exact hm.lm,fun j r d2 m2 g1 g2 g3=>?_,fun j k2 q2 r g1 g2 hij k hk=>?_⟩,hXn,hb⟩
 ·by_cases hij:i=j
  ·subst hij
   rw[List.getElem?_set_self (by rw[hm.lm,← hm.lq]; exact hlq)] at g3
   rw[List.getElem?_set_self hlq] at g1
   rw[hd] at g2
   cases g1; cases g2; cases g3
   refine l7.shrink (fun k hk=>?_) fun k hk=>?_
   ·rcases List.mem_append.1 hk with hk | hk
    ·exact l5 k hk
    ·exact l7.inX k (List.mem_cons_of_mem _ hk)
   ·rcases List.mem_cons.1 hk with rfl | hk
    ·exact List.mem_append_left _ (hX1 _ (List.mem_cons_self ..))
    ·exact List.mem_append_right _ hk
  ·rw[List.getElem?_set_ne hij] at g1 g3
   refine (hm.at_ j r d2 m2 g1 g2 g3).keep rH l3 hX1 (fun k hk2=>?_) hXn fun k hk2=>List.mem_append_left _ hk2
   have:=hm.dis i j q r hq g1 hij k hk2
   exact⟨fun e=>this (by rw[e]; exact List.mem_cons_self ..),fun e=>this (List.mem_cons_of_mem _ e)⟩
 ·by_cases h1:i=j
  ·subst h1
   rw[List.getElem?_set_self hlq] at g1
   cases g1
   rw[List.getElem?_set_ne hij] at g2
   rcases hold k hk with h9 | h9
   ·exact hm.dis i k2 q r hq g2 hij k h9
   ·intro h8
    have:=hlt2 k2 r g2 k h8
    omega
  ·rw[List.getElem?_set_ne h1] at g1
   by_cases h2:i=k2
   ·subst h2
    rw[List.getElem?_set_self hlq] at g2
    cases g2
    intro h8
    rcases hold k h8 with h9 | h9
    ·exact hm.dis j i q2 q g1 hq hij k hk h9
    ·have:=hlt2 j q2 g1 k hk
     omega
   ·rw[List.getElem?_set_ne h2] at g2
    exact hm.dis j k2 q2 r g1 g2 hij k hk
end
def iQ (cv kv tv ev mv:Value) (most:Int) (bv:Value) (ah:Nat) (s:ScD) (er_:Int):List Value :=
 [cv,kv,tv,ev,mv,.int .i64 most,bv,.int .i64 (s.at_:Int),.int .u8 (ah:Int),.int .i64 (s.cond:Int),.int .i64 (s.took:Int),.int .i64 (s.held:Int),.int .i64 s.rule,.bool s.closed,.bool (decide (er_=180)),.int .i64 (s.steps:Int)]
structure RyV (ro:Ro) (h:V.T Obj) (X:List Nat) (p:Nat) (qs:List oI) (T:TabD) (most er_:Int) (cv kv tv ev mv bv:Value) (ah:Nat) (s:ScD):Prop where
 g:h.get p=some (.cells (iQ cv kv tv ev mv most bv ah s er_).toArray aY)
 k:iO ro (del h X) kv 1 aAH T.kinds
 t:Sl ro (del h X) tv 1 (lL T.to)
 e:iO ro (del h X) ev 260 (qH ro (del h X)) T.entries
 mv':Sl ro (del h X) mv 1 (mK qs)
 b:Sl ro (del h X) bv 1 (cC s.kept)
 w:WsX ro h X qs (T.entries.map (·.a)) s.ms
 px:p∈X
 pq:∀ q∈qs,p ∉ kU q
 ln:s.line=decide (ah=10)
section
variable {ro:Ro}{h h':T Obj}{nx nx':Nat}{X X':List Nat}{p:Nat}{qs:List oI}{T:TabD}{most er_ er':Int}{cv kv tv ev mv bv:Value}{ah:Nat}{s s':ScD}
theorem RyV.keep {ids:List Nat} (hm:RyV ro h X p qs T most er_ cv kv tv ev mv bv ah s) (hs:eB ids h h') (h1:∀ k∈ids,k∈X) (h2:∀ k∈ids,k ∉ iB p qs) (h3:∀ k∈X',k∈X∨h.get k=none) (h4:∀ k∈X,k∈X'):RyV ro h' X' p qs T most er_ cv kv tv ev mv bv ah s:=by
 obtain⟨g1,g2,g3,g4,g5,g6,g7,g8,g9,g10⟩:=hm
 have hD:aZ (del h X) (del h' X'):=hs.del h1 h3
 exact⟨hs _ _ g1 fun h9=>h2 p h9 (List.mem_cons_self ..),g2.sub hD fun _ _ h=>h,g3.sub hD,g4.sub hD (qH.sub hD),g5.sub hD,g6.sub hD,g7.keep hs h1 (fun q hq k hk h9=>h2 k hk (zB hq k h9)) h3 h4,h4 p g8,g9,g10⟩
theorem RyV.sub (hm:RyV ro h X p qs T most er_ cv kv tv ev mv bv ah s) (hs:aZ h h'):RyV ro h' X p qs T most er_ cv kv tv ev mv bv ah s:=hm.keep (ids:=[]) hs.keepL (fun k hk=>by cases hk) (fun k hk=>by cases hk) (fun k hk=>.inl hk) fun k hk=>hk
theorem RyV.fin {bv':Value}{ah':Nat} (hm:RyV ro h X p qs T most er_ cv kv tv ev mv bv ah s) (hk:eB [p] h h') (hg:h'.get p=some (.cells (iQ cv kv tv ev mv most bv' ah' s' er').toArray aY)) (hms:s'.ms=s.ms) (hb:Sl ro (del h' X) bv' 1 (cC s'.kept)) (hl:s'.line=decide (ah'=10)):RyV ro h' X p qs T most er' cv kv tv ev mv bv' ah' s':=by
 obtain⟨g1,g2,g3,g4,g5,g6,g7,g8,g9,g10⟩:=hm
 have hX:∀ k∈[p],k∈X:=fun k hk=>by simp at hk; subst hk; exact g8
 have hD:aZ (del h X) (del h' X):=hk.del hX fun k hk=>.inl hk
 refine⟨hg,g2.sub hD fun _ _ h=>h,g3.sub hD,g4.sub hD (qH.sub hD),g5.sub hD,hb,?_,g8,g9,hl⟩
 rw[hms]
 exact g7.keep hk hX (fun q hq k hk=>by simp at hk; subst hk; exact g9 q hq) (fun k hk=>.inl hk) fun k hk=>hk
theorem RyV.upd (hm:RyV ro h X p qs T most er_ cv kv tv ev mv bv ah s) (hms:s'.ms=s.ms) (hb:s'.kept=s.kept) (hl:s'.line=s.line):RyV ro (h.upd p (some (.cells (iQ cv kv tv ev mv most bv ah s' er').toArray aY))) X p qs T most er' cv kv tv ev mv bv ah s':=by
 have hk:eB [p] h (h.upd p (some (.cells (iQ cv kv tv ev mv most bv ah s' er').toArray aY))):=(aZ.refl _).keepL.upd (by simp)
 refine hm.fin hk (V.T.get_upd_same _ _ _) hms ?_ (by rw[hl]; exact hm.ln)
 rw[hb]
 exact hm.b.sub (hk.del (fun k hk=>by simp at hk; subst hk; exact hm.px) fun k hk=>.inl hk)
theorem RyV.step {i:Nat}{q:oI}{d:AutoD}{m':MacD}{ps':List (Nat × Nat)}{X9:List Nat} (hm:RyV ro h X p qs T most er_ cv kv tv ev mv bv ah s) (hf:Fr h nx) (hq:qs[i]?=some q) (hd:(T.entries.map (·.a))[i]?=some d) (hl:aDa ro h nx X q.1 q.2 d m' h' nx' X9 ps') :
  RyV ro h' (X++iD ps') p (qs.set i (q.1,ps')) T most er_ cv kv tv ev mv bv ah { s with ms:=s.ms.set i m' }∧(∀ k∈X++iD ps',k∈X∨h.get k=none)∧(∀ k∈iD ps',k∈X∨nx≤k∧k < nx')∧(∀ k∈iB p (qs.set i (q.1,ps')),k∈iB p qs∨nx≤k):=by
 obtain⟨g1,g2,g3,g4,g5,g6,g7,g8,g9,g10⟩:=hm
 obtain⟨w1,w2,w3⟩:=g7.step hf hq hd hl
 obtain⟨l1,l2,l3,l4,l5,l6,l7⟩:=hl
 obtain⟨_,_,_,_,hMW⟩:=g7.get hq
 have hX:=hMW.inX
 have hD:aZ (del h X) (del h' (X++iD ps')):=l3.del hX w2
 have hqm:=List.mem_of_getElem? hq
 have hpq:=g9 q hqm
 have hset:mK (qs.set i (q.1,ps'))=mK qs:=by
  unfold mK
  apply List.ext_getElem?
  intro j
  rw[List.getElem?_map,List.getElem?_map]
  by_cases hj:i=j
  ·subst hj
   rw[List.getElem?_set_self (List.getElem?_eq_some_iff.1 hq).1,hq]; rfl
  ·rw[List.getElem?_set_ne hj]
 have hmem:∀ r∈qs.set i (q.1,ps'),r∈qs∨r=(q.1,ps'):=fun r hr=>List.mem_or_eq_of_mem_set hr
 refine⟨⟨l3 p _ g1 hpq,g2.sub hD fun _ _ h=>h,g3.sub hD,g4.sub hD (qH.sub hD),by rw[hset]; exact g5.sub hD,g6.sub hD,w1,List.mem_append_left _ g8,fun r hr h9=>?_,g10⟩,w2,w3,fun k hk=>?_⟩
 ·rcases hmem r hr with hr | rfl
  ·exact g9 r hr h9
  ·rcases List.mem_cons.1 h9 with h8 | h9
   ·exact hpq (by rw[h8]; exact List.mem_cons_self ..)
   ·rcases l6 p h9 with h8 | h8
    ·exact hpq (List.mem_cons_of_mem _ h8)
    ·have:=hf.lt' g1; omega
 ·rcases List.mem_cons.1 hk with rfl | hk
  ·exact .inl (List.mem_cons_self ..)
  ·obtain⟨r,hr,hk⟩:=List.mem_flatMap.1 hk
   rcases hmem r hr with hr | rfl
   ·exact .inl (zB hr k hk)
   ·rcases List.mem_cons.1 hk with rfl | hk
    ·exact .inl (zB hqm _ (List.mem_cons_self ..))
    ·rcases l6 k hk with h8 | h8
     ·exact .inl (zB hqm k (List.mem_cons_of_mem _ h8))
     ·exact .inr h8
theorem RyV.at (hm:RyV ro h X p qs T most er_ cv kv tv ev mv bv ah s) {i:Nat}{e:EntD}{m:MacD} (he:T.entries[i]?=some e) (hs:s.ms[i]?=some m):∃ q,qs[i]?=some q∧MW ro h X q.1 q.2 e.a m∧(T.entries.map (·.a))[i]?=some e.a:=by
 have l1:=hm.w.lq
 rw[List.length_map] at l1
 have hi:=(List.getElem?_eq_some_iff.1 he).1
 have e3:(T.entries.map (·.a))[i]?=some e.a:=by rw[List.getElem?_map,he]; rfl
 exact⟨_,List.getElem?_eq_getElem (by omega),hm.w.at_ i _ _ _ (List.getElem?_eq_getElem (by omega)) e3 hs,e3⟩
end
def RyX (ro:Ro) (h:V.T Obj) (X:List Nat) (p:Nat) (qs:List oI) (T:TabD) (most er_:Int) (s:ScD):Prop:=∃ cv kv tv ev mv bv ah,RyV ro h X p qs T most er_ cv kv tv ev mv bv ah s
structure RyB (h:V.T Obj) (nx:Nat) (X:List Nat) (p:Nat) (qs:List oI) (h':V.T Obj) (nx':Nat) (X':List Nat) (qs':List oI):Prop where
 le:nx≤nx'
 frr:Fr h' nx'
 kp:eB (iB p qs) h h'
 xs:∀ k∈X,k∈X'
 xb:∀ k∈X',k∈X∨nx≤k∧k < nx'
 qn:∀ k∈iB p qs',k∈iB p qs∨nx≤k
section
variable {ro:Ro}{h h1 h2:V.T Obj}{nx n1 n2 n3:Nat}{X X1 X2:List Nat}{p:Nat}{qs qs1 qs2:List oI}{T:TabD}{most er_:Int}{cv kv tv ev mv bv:Value}{ah:Nat}{s:ScD}
theorem RyB.refl (hf:Fr h n1) (hn:nx≤n1):RyB h nx X p qs h n1 X qs:=⟨hn,hf,(aZ.refl _).keepL,fun k hk=>hk,fun k hk=>.inl hk,fun k hk=>.inl hk⟩
theorem RyB.mono (hb:RyB h nx X p qs h1 n1 X1 qs1) (hn:n1≤n2):RyB h nx X p qs h1 n2 X1 qs1:=⟨by have:=hb.le; omega,hb.frr.mono hn,hb.kp,hb.xs,fun k hk=>(hb.xb k hk).imp id fun h9=>by omega,hb.qn⟩
theorem RyB.trans (hf:Fr h nx) (ha:RyB h nx X p qs h1 n1 X1 qs1) (hb:RyB h1 n1 X1 p qs1 h2 n2 X2 qs2):RyB h nx X p qs h2 n2 X2 qs2:=by
 have l1:=ha.le
 have l2:=hb.le
 refine⟨by omega,hb.frr,fun k o hk hn=>hb.kp k o (ha.kp k o hk hn) fun h9=>?_,fun k hk=>hb.xs k (ha.xs k hk),fun k hk=>?_,fun k hk=>?_⟩
 ·rcases ha.qn k h9 with h8 | h8
  ·exact hn h8
  ·have:=hf.lt' hk; omega
 ·rcases hb.xb k hk with h9 | h9
  ·rcases ha.xb k h9 with h8 | h8
   ·exact .inl h8
   ·right; omega
  ·right; omega
 ·rcases hb.qn k hk with h9 | h9
  ·exact ha.qn k h9
  ·right; omega
theorem RyB.upd {o:Obj} (hb:RyB h nx X p qs h1 n1 X1 qs1) (hp:p < n1):RyB h nx X p qs (h1.upd p (some o)) n1 X1 qs1:=⟨hb.le,hb.frr.upd (Nat.le_refl _) hp,hb.kp.upd (List.mem_cons_self ..),hb.xs,hb.xb,hb.qn⟩
theorem RyB.step {i:Nat}{q:oI}{d:AutoD}{m':MacD}{ps':List (Nat × Nat)}{X9:List Nat} (hf:Fr h nx) (hb:RyB h nx X p qs h1 n1 X1 qs1) (hm:RyV ro h1 X1 p qs1 T most er_ cv kv tv ev mv bv ah s) (hq:qs1[i]?=some q) (hd:(T.entries.map (·.a))[i]?=some d) (hn:n1≤n3) (hf3:Fr h1 n3) (hl:aDa ro h1 n3 X1 q.1 q.2 d m' h2 n2 X9 ps') :
  RyB h nx X p qs h2 n2 (X1++iD ps') (qs1.set i (q.1,ps'))∧RyV ro h2 (X1++iD ps') p (qs1.set i (q.1,ps')) T most er_ cv kv tv ev mv bv ah { s with ms:=s.ms.set i m' }∧(qs1.set i (q.1,ps'))[i]?=some (q.1,ps'):=by
 obtain⟨s1,s2,s3,s4⟩:=hm.step hf3 hq hd hl
 obtain⟨l1,l2,l3,l4,l5,l6,l7⟩:=hl
 refine⟨hb.trans hf ⟨by omega,l2,l3.mono (zB (List.mem_of_getElem? hq)),fun k hk=>List.mem_append_left _ hk,fun k hk=>?_,fun k hk=>?_⟩,s1,List.getElem?_set_self (List.getElem?_eq_some_iff.1 hq).1⟩
 ·rcases List.mem_append.1 hk with hk | hk
  ·exact .inl hk
  ·rcases s3 k hk with h9 | h9
   ·exact .inl h9
   ·right; omega
 ·rcases s4 k hk with h9 | h9
  ·exact .inl h9
  ·right; omega
end
def RyL (ro:Ro) (h:V.T Obj) (nx:Nat) (X:List Nat) (p:Nat) (qs:List oI) (T:TabD) (most er':Int) (s':ScD) (h':V.T Obj) (nx':Nat) (X':List Nat) (qs':List oI):Prop:=RyB h nx X p qs h' nx' X' qs'∧RyX ro h' X' p qs' T most er' s'
end V
end Go.Proofs.YtcaccnneblghgaaGreat
namespace Go.Proofs.YtcaccnneblghgaaGreat
namespace V
attribute [local irreducible] aB bA aW dM eR gI dH
section
variable {ro:Ro}{h:T Obj}{nx:Nat}{K:KV}{x:List Value}{d:AutoD}
set_option maxRecDepth 8000 in
set_option maxHeartbeats 1000000 in
theorem aLp {X0:List Nat} (hf:Fr h nx) (hd0:sR ro (del h X0) x d) (hK0:fF d=false→∀ nx',nx≤nx'→K (.tuple #[.pointer none,.int .i64 1]) h nx')
  (hX0:∀ k∈X0,k < nx)
  (hK1:fF d=true→∀ p ps X h' nx',nx≤nx'→Fr h' nx'→aZ h h'→(∀ k∈X,nx≤k∧k < nx')→X=p::iD ps→MW ro h' (X0++X) p ps d (aAw d)→K (.tuple #[ptr p,.int .i64 0]) h' nx'):aO Tryz.prog ro aB3 [.agg x.toArray] h nx K:=by
 have hd:=hd0.sub (cX h X0)
 obtain⟨cv,sv,hxe,hc,hclt,hcv,hS,hb1,hb2⟩:=id hd
 have m7:=mQ (n:=d.many) (cv:=cv) (sv:=sv) hc
 apply aJu
 unfold aIu
 refine eZ hf (Nat.le_refl _) fun h1 hs1 hf1 g1 _=>?_
 have g1:h1.get nx=some (.cells x.toArray cD):=g1
 have hxl:x.length=259:=by rw[hxe]; exact d5 hc
 have LA:=dW (ro:=ro) (z:=0) (n:=259) (l:=x) g1 hxl
 refine aA LA ?_
 refine aCn (hf1.mono (by omega)) (hd.sub hs1) fun n1 hn1=>?_
 cases hok:fF d with
 | false =>
  (repeat refine zzC ?_)
  exact⟨h,hs1,hK0 hok _ (by omega)⟩
 | true =>
  have hC512:=(eV hok).2.1
  (repeat refine zzC ?_)
  refine aA LA ?_
  subst hxe
  have hfC:Fr h1 (n1+3):=hf1.mono (by omega)
  refine aA (aM7 hc) (aDV hfC (Nat.le_refl _) fun h2 hs2 hf2 g2 _=>?_)
  have g2:h2.get (n1+3)=some (.cells (dV d.c d.many cv sv 0 dU 0).toArray bN):=g2
  have hNI0:NI WJ bN cG gU h1 (n1+3) (n1+3) d.c d.many cv sv d.counts 0 h2 (n1+4) [] dU:=⟨g2,eD.nil,rfl,⟨rfl,rfl,fun i p c r hp=>by simp at hp⟩,Dst.nil,(fun q hq=>by simp[iD] at hq),hs2,hf2,hfC,by omega,by omega⟩
  refine bM (fun j e h' nx'=>∃ (k:Nat) (ps:List (Nat × Nat)) (rv:Value),k+j=d.counts.length∧n1+4≤nx'∧e 1=ptr nx∧e 4=ptr (n1+3)∧e 5=.int .i64 k∧NI WJ bN cG gU h1 (n1+3) (n1+3) d.c d.many cv sv d.counts k h' nx' ps rv) ?_ (n:=d.counts.length) ⟨0,[],dU,by omega,by omega,rfl,rfl,rfl,hNI0.mono (by omega)⟩
  rintro j e h' nx' ⟨k,ps,rv,hj,hnx,e1,e4,e5,hi⟩ Q' hq hx
  have hfh:=hi.2.2.2.2.2.2.2.1
  have hsh:=hi.2.2.2.2.2.2.1
  have g1':=hsh _ _ g1
  have hcvh:=hcv.sub (hs1.trans hsh) fun _ _ h=>h
  have hcl:=hcvh.len
  unfold aEM
  rw[e1,e4,e5]
  (repeat refine zzC ?_)
  refine aA (aV g1' m7) (aA hcl ?_)
  refine dS (fun hk=>?_) (fun hk=>?_)
  ·have hk:k < d.counts.length:=by omega
   obtain⟨b1,b2,b3⟩:=aGU hok hk
   have hix:=hcvh.ix .i64 hk
   obtain⟨y,hy1,hy2,hy3,hy4,hy5⟩:=hcvh.at hk
   have hck:d.counts[k]?=some d.counts[k]:=List.getElem?_eq_getElem _
   have ha1:V.ixArr 2 1 (i3 2 cv k) (.int .i64 1)=some (mT 2 cv k 1):=hcvh.sl' hk 2 1 .i64 (j:=1) (by omega) (by omega)
   generalize d.counts[k]=cc at b1 b2 b3 hy1 hck
   obtain rfl:y=[.int .i64 cc.1,.int .i64 cc.2]:=hy1
   have hl1:=hy5 1 _ rfl
   have m0:=lB (n:=d.many) (cv:=cv) (sv:=sv) (cur:=0) (rv:=rv) (steps:=0) hc
   (have zz:=@aR;repeat refine zzCz ?_)
   refine aA (aV hi.1 m0) ?_
   (repeat refine zzC ?_)
   refine aA (aV g1' m7) (aA hix (aA ha1 (aA hl1 ?_)))
   rw[← b3]
   refine aLl (hfh.mono (by omega)) b1 b2 fun p' a' h4 n4 hp' ha' hn4 hs4 hf4 hR4=>?_
   refine⟨eL hi.1 (hs4 _ _ hi.1),?_⟩
   have hi4:=hi.sub (n':=n4) rH hs4 hf4 (by omega)
   have hRJ:WJ h4 p' a' cc.2.toNat [] 0:=⟨hR4,List.Pairwise.nil,fun x hx=>by cases hx⟩
   obtain⟨i,t1,t2,t3⟩:=aTY
   have hplen:ps.length≤1000000:=by have:=hi.2.2.1; omega
   have hrvlt:∀ q,jU rv=some q→q < nx':=fun q e=>hfh.lt' (hi.2.1.blk e).2
   refine yR (z:=1) (l:=mJ ps) (y:=[ptr p']) (aSy _ _) rfl hi4.2.1 aSQ t1 (by omega) (by omega) aT7 rfl rfl (by rw[gN,t3]; unfold oG; omega) (by rw[gN]; unfold oG; omega) hf4 (by omega) (by omega) (fun e=>by have:=hrvlt _ e; omega) fun h5 ho5 hk5 hf5=>?_
   generalize hnv:Value.slice (some (own n4 1)) (mJ ps++[[ptr p']]).length (mJ ps++[[ptr p']]).length=rv2 at ho5
   have hsb:jU rv2=some n4:=by rw[← hnv]; rfl
   have g5:=hk5 _ _ hi4.1 (by have:=hfh.lt' hi.1; omega) (hi4.2.1.ne hi4.1 (by decide))
   have hlt4:=hi.2.2.2.1.lt rH hfh
   have hfin:=hi4.step (h':=h5) (q:=(p',a')) (cc:=cc) (rv2:=rv2) (n1:=nx'+17) (n2:=n4) (lo:=n1+3) rH (by decide) (by decide) (by decide) (by decide) (by decide) hc hck hRJ (fun r hr=>by have:=hlt4 r hr; show r.1 < p'∧r.2 < a'; omega) (by show n1+3≤p'∧n1+3≤a'; omega) ⟨by have:=hfh.lt' hi.1; omega,fun r hr=>by
    rcases List.mem_append.1 hr with hr | hr
    ·have:=hlt4 r hr; omega
    ·simp at hr; subst hr; show p'≠_∧a'≠_; omega,by omega⟩ ho5 hsb (Nat.le_refl _) hk5 hf5
   dsimp only
   (have zz:=@aR;repeat refine zzCz ?_)
   refine aA (bX g5 (by rw[pJ hc]; omega) ho5.ok (by rw[← hnv]; rfl)) ?_
   rw[aDy hc]
   (repeat refine zzC ?_)
   exact hq (j - 1) _ _ _ _ (by omega) ⟨k+1,ps++[(p',a')],rv2,by omega,by omega,e1,e4,rfl,hfin.mono (by omega)⟩ (aZ.refl _)
  ·(repeat refine zzC ?_)
   refine hx _ _ _ _ (fun e=>by cases e) (eE (dG ?_))
   obtain rfl:k=d.counts.length:=by omega
   have hMX:=NI.fin (ro:=ro) (d:=d) (X0:=X0) rH (by decide) (by decide) (by decide) (fun k hk=>by have:=hX0 k hk; omega) hi (hd0.sub ((aZ.keepL hs1:eB [] h h1).del (fun k hk=>by cases hk) fun k hk=>.inl hk))
   have hend:∀ (e':dL) n',e' 4=ptr (n1+3)→nx'≤n'→vS ro K e' h' n':=by
    intro e' n' f4 hn'
    unfold vS
    rw[f4]
    refine⟨h',aZ.refl _,hK1 hok _ ps _ h' _ (by omega) (hfh.mono (by omega)) (hs1.trans hsh) (fun k hk=>?_) rfl hMX⟩
    have hlt9:=hMX.lt rH hfh
    rcases List.mem_cons.1 hk with rfl | hk
    ·have:=hlt9.1; omega
    ·have:=hi.2.2.2.2.2.1 k hk; have:=hlt9.2 k hk; omega
   exact hend _ _ e4 (by omega)
end
theorem aOk (id p:Nat):b7 Tryz.prog gH id 1 [(0,ptr p)]=some (.slice (some (own id 1)) 1 1,some (.cells [ptr p].toArray fX)):=by kernel_rfl
theorem aN4:iM Tryz.prog gH=some (.slice fX):=by kernel_rfl
theorem aPJ:∃ i,tin Tryz.prog fX=some i∧i.size=1∧i.bytes=8:=yP (by kernel_rfl)
theorem aPS:nF Tryz.prog fX=some (.pointer none):=by kernel_rfl
theorem aP7 (a b c d:Value) (m:Int):fG Tryz.prog aY [(0,.agg #[a,b,c,d]),(2,.int .i64 m),(5,.int .u8 10),(9,.int .i64 (-1))]=some (.agg #[a,b,c,d,dU,.int .i64 m,dU,.int .i64 0,.int .u8 10,.int .i64 0,.int .i64 0,.int .i64 0,.int .i64 (-1),.bool false,.bool false,.int .i64 0]):=by kernel_rfl
structure NyI (ro:Ro) (X0:List Nat) (hC:V.T Obj) (nC p:Nat) (Tb:TabD) (most:Int) (cv kv tv ev:Value) (i:Nat) (h:V.T Obj) (nx:Nat) (X:List Nat) (qs:List oI) (mv:Value):Prop where
 cell:h.get p=some (.cells (iQ cv kv tv ev mv most dU 10 (nK Tb) 0).toArray aY)
 mo:eD h mv 1 fX (mK qs) nC
 mq:WsX ro h X qs ((Tb.entries.map (·.a)).take i) ((Tb.entries.map fun e=>aAw e.a).take i)
 xl:∀ b∈X,b < nx
 xc:∀ b∈X,b∈X0∨nC≤b
 pc:nC≤p
 ql:∀ q∈qs,∀ b∈kU q,nC≤b
 x0:∀ b∈X0,b∈X
 xp:p∈X
 xm:∀ b∈kV mv,b∈X
 sb:aZ hC h
 frr:Fr h nx
 frC:Fr hC nC
section
variable {ro:Ro}{hC h h' h1 h2:T Obj}{nC p nx n1 n2 l1 k:Nat}{Tb:TabD}{most:Int}{cv kv tv ev mv mv2:Value}{X0 X X2:List Nat}{qs:List oI}
theorem NyI.mono (hi:NyI ro X0 hC nC p Tb most cv kv tv ev k h nx X qs mv) (hf:Fr h n1) (hn:nx≤n1):NyI ro X0 hC nC p Tb most cv kv tv ev k h n1 X qs mv :=
 ⟨hi.cell,hi.mo,hi.mq,fun b hb=>by have:=hi.xl b hb; omega,hi.xc,hi.pc,hi.ql,hi.x0,hi.xp,hi.xm,hi.sb,hf,hi.frC⟩
theorem NyI.del (hi:NyI ro X0 hC nC p Tb most cv kv tv ev k h nx X qs mv):aZ (V.del hC X0) (V.del h X):=fun b o hb=>by
 rw[lD] at hb
 split at hb
 ·cases hb
 ·rename_i hn
  refine jL (hi.sb b o hb) fun h9=>?_
  have:=hi.frC.lt' hb
  rcases hi.xc b h9 with h8 | h8
  ·exact hn h8
  ·omega
theorem NyI.mach (hi0:NyI ro X0 hC nC p Tb most cv kv tv ev k h nx X qs mv) {q:oI}{e:EntD} (he:Tb.entries[k]?=some e) (hn:MW ro h1 (X++X2) q.1 q.2 e.a (aAw e.a)) (hs:aZ h h1) (hf1:Fr h1 n1) (hb:∀ b∈X2,nx≤b∧b < n1) (hnx:nx≤n1) (hqb:∀ b∈kU q,nx≤b)
  (ho:eD h2 mv2 1 fX (mK qs++[[ptr q.1]]) nC) (hsb:jU mv2=some n2) (hg:∀ b o,h1.get b=some o→b≠l1→jU mv≠some b→h2.get b=some o) (hl1:n1≤l1) (hn2:n1≤n2) (hf2:Fr h2 (n2+1)) :
  NyI ro X0 hC nC p Tb most cv kv tv ev (k+1) (h2.upd p (some (.cells (iQ cv kv tv ev mv2 most dU 10 (nK Tb) 0).toArray aY))) (n2+1) (X++X2++[n2]) (qs++[q]) mv2:=by
 have hp1:=hi0.xl p hi0.xp
 have hp2:=hi0.pc
 have hkk:eB (kV mv) h1 h2:=fun b o hb hn=>hg b o hb (by have:=hf1.lt' hb; omega) fun e=>hn (eW.2 e)
 have hK:eB (p::kV mv) h1 (h2.upd p (some (.cells (iQ cv kv tv ev mv2 most dU 10 (nK Tb) 0).toArray aY))):=(hkk.mono fun b hb=>List.mem_cons_of_mem _ hb).upd (List.mem_cons_self ..)
 have hidX:∀ b∈p::kV mv,b∈X:=fun b hb=>by
  rcases List.mem_cons.1 hb with rfl | hb
  ·exact hi0.xp
  ·exact hi0.xm b hb
 have hX2:∀ b∈X++X2++[n2],b∈X++X2∨h1.get b=none:=fun b hb=>by
  rcases List.mem_append.1 hb with hb | hb
  ·exact .inl hb
  ·simp at hb; subst hb; exact .inr (hf1 _ (by omega))
 have hX3:∀ b∈X++X2++[n2],b∈X∨h.get b=none:=fun b hb'=>by
  rcases List.mem_append.1 hb' with hb' | hb'
  ·rcases List.mem_append.1 hb' with hb' | hb'
   ·exact .inl hb'
   ·exact .inr (hi0.frr _ (hb b hb').1)
  ·simp at hb'; subst hb'; exact .inr (hi0.frr _ (by omega))
 have hX4:∀ b∈X,b∈X++X2++[n2]:=fun b hb=>List.mem_append_left _ (List.mem_append_left _ hb)
 have hgA:=hs.keepL (ids:=p::kV mv) |>.trans hK
 have hne:∀ b∈p::kV mv,∃ c e,h.get b=some (.cells c e)∧e≠bN∧e≠cG∧e≠jK:=fun b hb=>by
  rcases List.mem_cons.1 hb with rfl | hb
  ·exact⟨_,_,hi0.cell,by decide,by decide,by decide⟩
  ·exact⟨_,_,(hi0.mo.blk (eW.1 hb)).2,by decide,by decide,by decide⟩
 have hmq:=hi0.mq.keep hgA hidX (fun r hr b hb'=>by
  obtain⟨c,e9,g1,g2⟩:=hne b hb'
  exact hi0.mq.neB g1 g2 r hr) hX3 hX4
 have hnq:MW ro _ (X++X2++[n2]) q.1 q.2 e.a (aAw e.a):=hn.keep (X':=X++X2++[n2]) rH hK (fun b hb'=>List.mem_append_left _ (hidX b hb')) (fun b hb'=>by
  have h9:=hi0.xl b (hidX b hb')
  exact⟨fun e=>by have:=hqb q.1 (List.mem_cons_self ..); omega,fun e=>by have:=hqb b (List.mem_cons_of_mem _ e); omega⟩) hX2 fun b hb'=>List.mem_append_left _ hb'
 have hlen:k < Tb.entries.length:=(List.getElem?_eq_some_iff.1 he).1
 have hget:=(List.getElem?_eq_some_iff.1 he).2
 have hpm:jU mv2≠some p:=by rw[hsb]; intro e9; cases e9; omega
 refine⟨T.get_upd_same _ _ _,?_,?_,fun b hb'=>?_,fun b hb'=>?_,hi0.pc,fun r hr b hb'=>?_,fun b hb'=>hX4 b (hi0.x0 b hb'),hX4 p hi0.xp,fun b hb'=>?_,fun b o hb'=>?_,hf2.upd (Nat.le_refl _) (by omega),hi0.frC⟩
 ·rw[aHB]
  exact ho.keepK (ids:=[p]) ((aZ.refl _).keepL.upd (by simp)) fun id hid hm=>by simp at hm; subst hm; exact hpm hid
 ·have t1:(Tb.entries.map (·.a)).take (k+1)=(Tb.entries.map (·.a)).take k++[e.a]:=by
   rw[List.take_succ_eq_append_getElem (by rw[List.length_map]; exact hlen),List.getElem_map,hget]
  have t2:(Tb.entries.map fun e=>aAw e.a).take (k+1)=(Tb.entries.map fun e=>aAw e.a).take k++[aAw e.a]:=by
   rw[List.take_succ_eq_append_getElem (by rw[List.length_map]; exact hlen),List.getElem_map,hget]
  rw[t1,t2]
  refine hmq.snoc hnq fun r hr b hb' hb9=>?_
  have g1:=hqb b hb9
  have g2:=hi0.xl b (hi0.mq.blk r hr b hb').1
  omega
 ·rcases List.mem_append.1 hb' with hb' | hb'
  ·rcases List.mem_append.1 hb' with hb' | hb'
   ·have:=hi0.xl b hb'; omega
   ·have:=hb b hb'; omega
  ·simp at hb'; subst hb'; omega
 ·rcases List.mem_append.1 hb' with hb' | hb'
  ·rcases List.mem_append.1 hb' with hb' | hb'
   ·exact hi0.xc b hb'
   ·have:=hb b hb'; right; omega
  ·simp at hb'; subst hb'; right; omega
 ·rcases List.mem_append.1 hr with hr | hr
  ·exact hi0.ql r hr b hb'
  ·simp at hr; subst hr
   have:=hqb b hb'
   omega
 ·have:=eW.1 hb'
  rw[hsb] at this
  cases this
  exact List.mem_append_right _ (by simp)
 ·have h9:=hi0.sb b o hb'
  have hlt:=hi0.frC.lt' hb'
  rw[T.get_upd_ne _ _ (by omega)]
  refine hg b o (hs b o h9) (by have:=hi0.frr.lt' h9; omega) fun e9=>?_
  have:=(hi0.mo.blk e9).1
  omega
theorem NyI.fin (hi:NyI ro X0 hC nC p Tb most cv kv tv ev Tb.entries.length h nx X qs mv) (hX0:∀ b∈X0,b < nC) (hk:iO ro (V.del hC X0) kv 1 aAH Tb.kinds) (ht:Sl ro (V.del hC X0) tv 1 (lL Tb.to)) (he:iO ro (V.del hC X0) ev 260 (qH ro (V.del hC X0)) Tb.entries) :
  RyX ro h (X0++iB p qs) p qs Tb most 0 (nK Tb)∧∀ b∈iB p qs,nC≤b∧b < nx:=by
 have hsub:∀ b∈X0++iB p qs,b∈X:=fun b hb=>by
  rcases List.mem_append.1 hb with hb | hb
  ·exact hi.x0 b hb
  ·rcases List.mem_cons.1 hb with rfl | hb
   ·exact hi.xp
   ·obtain⟨q,hq,hb⟩:=List.mem_flatMap.1 hb
    exact (hi.mq.blk q hq b hb).1
 have hD:aZ (V.del h X) (V.del h (X0++iB p qs)):=t7 hsub
 have hDC:=hi.del.trans hD
 refine⟨⟨cv,kv,tv,ev,mv,dU,10,hi.cell,hk.sub hDC fun _ _ h=>h,ht.sub hDC,he.sub hDC (qH.sub hDC),(hi.mo.del fun id hid hm=>?_).sl,Sl.nil,?_,List.mem_append_right _ (List.mem_cons_self ..),hi.mq.neB hi.cell ⟨by decide,by decide,by decide⟩,rfl⟩,fun b hb=>⟨?_,hi.xl b (hsub b (List.mem_append_right _ hb))⟩⟩
 ·obtain⟨g1,g2⟩:=hi.mo.blk hid
  rcases List.mem_append.1 hm with hm | hm
  ·have:=hX0 id hm; omega
  ·rcases List.mem_cons.1 hm with rfl | hm
   ·exact hi.mo.ne hi.cell (by decide) hid
   ·obtain⟨q,hq,hm⟩:=List.mem_flatMap.1 hm
    exact hi.mq.neB g2 ⟨by decide,by decide,by decide⟩ q hq hm
 ·have hq:=hi.mq
  rw[List.take_of_length_le (by simp),List.take_of_length_le (by simp)] at hq
  exact hq.shrink hsub fun q hq9 b hb=>List.mem_append_right _ (zB hq9 b hb)
 ·rcases List.mem_cons.1 hb with rfl | hb
  ·exact hi.pc
  ·obtain⟨q,hq,hb⟩:=List.mem_flatMap.1 hb
   exact hi.ql q hq b hb
end
section
variable {ro:Ro}{h:T Obj}{nx:Nat}{K:KV}
set_option maxRecDepth 8000 in
set_option maxHeartbeats 2000000 in
theorem aF3 {X0:List Nat}{x:List Value}{Tb:TabD}{most:Int} (hf:Fr h nx) (hd0:aE2 ro (del h X0) x Tb) (hX0:∀ b∈X0,b < nx)
  (hK0:most < 1∨gC Tb=false→∀ nx',nx≤nx'→K (.tuple #[.pointer none,.int .i64 1]) h nx')
  (hK1:1≤most→gC Tb=true→∀ p qs h' nx',nx≤nx'→Fr h' nx'→aZ h h'→(∀ b∈iB p qs,nx≤b∧b < nx')→RyX ro h' (X0++iB p qs) p qs Tb most 0 (nK Tb)→K (.tuple #[ptr p,.int .i64 0]) h' nx'):aO Tryz.prog ro aB4 [.agg x.toArray,.int .i64 most] h nx K:=by
 have hd:=hd0.sub (cX h X0)
 obtain⟨cv,kv,tv,ev,rfl,q1,q2,q3,q4,_⟩:=id hd0
 apply aKA
 unfold aIv
 refine eZ hf (Nat.le_refl _) fun h1 hs1 hf1 g1 _=>?_
 have g1:h1.get nx=some (.cells [cv,kv,tv,ev].toArray d4):=g1
 have LA:=dW (ro:=ro) (z:=0) (n:=4) (l:=[cv,kv,tv,ev]) g1 rfl
 refine aA LA ?_
 refine aIJ (hf1.mono (by omega)) (hd.sub hs1) fun n1 hn1=>?_
 cases hr:gC Tb with
 | false =>
  (repeat refine zzC ?_)
  exact⟨h,hs1,hK0 (.inr hr) _ (by omega)⟩
 | true =>
  have hT:=hd.right hr
  obtain⟨_,_,_,hTl,_⟩:=aEm hr
  by_cases hm1:most < 1
  ·(repeat refine zzC ?_)
   exact⟨h,hs1,hK0 (.inl hm1) _ (by omega)⟩
  ·(repeat refine zzC ?_)
   refine aA LA ?_
   refine aA (aP7 _ _ _ _ _) ?_
   refine aDV (m:=nx+1) hf1 (by omega) fun h2 hs2 hf2 g2 _=>?_
   have hD1:aZ (del h X0) (del h1 X0):=eB.del (ids:=[]) hs1.keepL (fun k hk=>by cases hk) fun k hk=>.inl hk
   have hev1:=q4.sub hD1 (qH.sub hD1)
   have g12:=hs2 _ _ g1
   have hpX:∀ b∈X0,b < nx+1:=fun b hb=>by have:=hX0 b hb; omega
   have hNI0:NyI ro X0 h1 (nx+1) (n1+3+1+4) Tb most cv kv tv ev 0 h2 (n1+3+1+4+1) (X0++[n1+3+1+4]) [] dU:=by
    refine⟨g2,eD.nil,WsX.nil,fun b hb=>?_,fun b hb=>?_,by omega,(fun q hq=>by cases hq),fun b hb=>List.mem_append_left _ hb,by simp,(fun b hb=>by cases hb),hs2,hf2,hf1⟩
    ·rcases List.mem_append.1 hb with hb | hb
     ·have:=hX0 b hb; omega
     ·simp at hb; omega
    ·rcases List.mem_append.1 hb with hb | hb
     ·exact .inl hb
     ·simp at hb; right; omega
   refine bM (fun j e h' nx'=>∃ (k:Nat) (X:List Nat) (qs:List oI) (mv:Value),k+j=Tb.entries.length∧n1+3+1+7≤nx'∧e 2=ptr nx∧e 6=ptr (n1+3+1+4)∧e 7=.int .i64 k∧NyI ro X0 h1 (nx+1) (n1+3+1+4) Tb most cv kv tv ev k h' nx' X qs mv) ?_ (n:=Tb.entries.length) ⟨0,_,[],dU,by omega,by omega,rfl,rfl,rfl,hNI0.mono (hf2.mono (by omega)) (by omega)⟩
   generalize n1+3+1+4=p at *
   rintro j e h' nx' ⟨k,X,qs,mv,hj,hnx,e2,e6,e7,hi⟩ Q' hq hx
   have hfh:=hi.frr
   have hDh:=hi.del
   have hev:=hev1.sub hDh (qH.sub hDh)
   have hevh:=hev.sub (cX h' X) (qH.sub (cX h' X))
   have hevl:=hevh.len
   have gt:=hi.sb _ _ g1
   have lt3:=aV (ro:=ro) (z:=0) gt (show [cv,kv,tv,ev][3]?=some ev from rfl)
   unfold aEP
   rw[e2,e6,e7]
   (have zz:=And.intro lt3 hevl;repeat refine zzCz ?_)
   refine dS (fun hk=>?_) (fun hk=>?_)
   ·have hk:k < Tb.entries.length:=by omega
    have hix:=hevh.ix .i64 hk
    have hek:Tb.entries[k]?=some Tb.entries[k]:=List.getElem?_eq_getElem _
    have hemem:=List.getElem_mem hk
    obtain⟨y,hy1,hy2⟩:=hev.loadAK hk
    generalize Tb.entries[k]=ee at hy1 hek hemem
    obtain⟨cv9,sv9,rv9,hye,c258,c259,htk,hA,hS,hSl,hR,hRl⟩:=hy1.cells
    have hyl:=hy1.len
    have LB:=vZ (cX h' X) (hy2 0 259 (by omega))
    rw[List.drop_zero,htk] at LB
    obtain⟨cs9,hc1,hc2,hc3⟩:=id hevh
    have hfw:=V.Sl.fwd hc1 (i:=k) (by omega) 0
    (have zz:=lt3;repeat refine zzCz ?_)
    refine aA hix (aA hfw (aA LB ?_))
    refine aLp (X0:=X) (hfh.mono (by omega)) hA (fun h9=>by rw[hT.ok ee hemem] at h9; cases h9) (fun b hb=>by have:=hi.xl b hb; omega) fun _ p2 ps X2 h7 n7 hn7 hf7 hs7 hX2 hX2e hMW=>?_
    subst hX2e
    refine aA (aGs _ _) (aA (aGt _ _) ?_)
    have c7:=hs7 _ _ hi.cell
    have l4:=aV (ro:=ro) (z:=0) c7 (show (iQ cv kv tv ev mv most dU 10 (nK Tb) 0)[4]?=some mv from rfl)
    (have zz:=@aR;repeat refine zzCz ?_)
    refine aA l4 ?_
    obtain⟨i9,t1,t2,t3⟩:=aPJ
    have hql:qs.length≤1000:=by have:=hi.mq.lq; simp at this; omega
    have mo7:=hi.mo.keepS hs7
    have hqb:∀ b∈p2::iD ps,nx'≤b:=fun b hb=>by have:=hX2 b hb; omega
    refine yR (z:=1) (l:=mK qs) (y:=[ptr p2]) (aOk _ _) rfl mo7 aN4 t1 (by omega) (by omega) aPS rfl rfl (by rw[nP,t3]; unfold oG; omega) (by rw[nP]; unfold oG; omega) (hf7.mono (by omega)) (by omega) (by omega) (fun e=>by have:=hf7.lt' (mo7.blk e).2; omega) fun h8 ho8 hk8 hf8=>?_
    generalize hnv:Value.slice (some (own (n7+13) 1)) (mK qs++[[ptr p2]]).length (mK qs++[[ptr p2]]).length=mv2 at ho8
    have hsb:jU mv2=some (n7+13):=by rw[← hnv]; rfl
    have hi8:=hi.mach (q:=(p2,ps)) (X2:=p2::iD ps) (l1:=n7+11) hek hMW hs7 hf7 (fun b hb=>by have:=hX2 b hb; omega) (by omega) hqb ho8 hsb hk8 (by omega) (by omega) hf8
    have g8:=hk8 _ _ c7 (by have:=hf7.lt' c7; omega) (mo7.ne c7 (by decide))
    dsimp only
    (have zz:=@aR;repeat refine zzCz ?_)
    refine aA (bX g8 (by simp[iQ]) ho8.ok (by rw[← hnv]; rfl)) ?_
    have hov2:(iQ cv kv tv ev mv most dU 10 (nK Tb) 0).set 4 mv2=iQ cv kv tv ev mv2 most dU 10 (nK Tb) 0:=rfl
    rw[hov2]
    (repeat refine zzC ?_)
    exact hq (j - 1) _ _ _ _ (by omega) ⟨k+1,_,_,mv2,by omega,by omega,e2,e6,rfl,hi8.mono (hi8.frr.mono (by omega)) (by omega)⟩ (aZ.refl _)
   ·(repeat refine zzC ?_)
    refine hx _ _ _ _ (fun e=>by cases e) (eE (dG ?_))
    obtain rfl:k=Tb.entries.length:=by omega
    obtain⟨hfin,hbl⟩:=hi.fin hpX (q2.sub hD1 fun _ _ h=>h) (q3.sub hD1) hev1
    have hend:∀ (e':dL) n',e' 6=ptr p→nx'≤n'→vT ro K e' h' n':=by
     intro e' n' f6 hn'
     unfold vT
     rw[f6]
     exact⟨h',aZ.refl _,hK1 (by omega) hr p qs h' _ (by omega) (hfh.mono (by omega)) (hs1.trans hi.sb) (fun b hb=>by have:=hbl b hb; omega) hfin⟩
    refine hend _ _ e6 ?_
    omega
end
end V
end Go.Proofs.YtcaccnneblghgaaGreat
namespace Go.Proofs.YtcaccnneblghgaaGreat
namespace V
theorem aOP {m:MacD}{B:Nat} (h:WLe B m.rs) (hl:m.rs.length≤512):jY m≤m.steps+B*512:=by
 have h1:=aKL (l:=m.rs.map (·.2)) (B:=B) fun x hx=>by
  obtain⟨r,hr,rfl⟩:=List.mem_map.1 hx
  exact h r hr
 rw[List.length_map] at h1
 have:=Nat.mul_le_mul_left B hl
 unfold jY
 omega
section
variable {T:TabD}
def wkS (s:ScD):Nat:=(s.ms.map jY).sum
end
end V
end Go.Proofs.YtcaccnneblghgaaGreat
namespace Go.Proofs.YtcaccnneblghgaaGreat
namespace V
attribute [local irreducible] aB bA aW dM eR gI dH
theorem aJA {l:List MacD}{i:Nat} (hi:i < l.length):((l.take (i+1)).map jY).sum=((l.take i).map jY).sum+jY l[i]:=by
 rw[List.take_succ_eq_append_getElem hi,List.map_append,List.sum_append]; simp
section
variable {ro:Ro}{h:T Obj}{nx:Nat}{K:KV}{X:List Nat}{p:Nat}{qs:List oI}{T:TabD}{most er_:Int}{s:ScD}
theorem aEv {B:Nat}:∀ {l:List MacD},(∀ m∈l,jY m≤B)→(l.map jY).sum≤l.length*B
 | [],_=>by simp
 | m::l,h=>by
  have h1:=h m (by simp)
  have h2:=aEv (l:=l) fun x hx=>h x (by simp[hx])
  rw[List.map_cons,List.sum_cons,List.length_cons,Nat.succ_mul]
  omega
set_option maxRecDepth 8000 in
set_option maxHeartbeats 1000000 in
theorem aMK (hm:ScX ro h X p qs T most er_ s) (hT:TabR T) (hI:ScI T s) (hTl:T.entries.length≤1000) (hsz:s.steps≤90000) (hK:∀ nx',nx≤nx'→K (.int .i64 (wkS s:Nat)) h nx'):aO Tryz.prog ro pW [ptr p] h nx K:=by
 obtain⟨kv,tv,ev,mv,bv,hv⟩:=id hm
 have hv:ScV ro h X p qs T most er_ kv tv ev mv bv s:=hv
 have g1:=hv.1
 have hml:=hI.ok.len
 have hmv:Sl ro h mv 1 (mK qs):=hv.2.2.2.2.1.sub (cX h X)
 have hql:qs.length=T.entries.length:=by have:=hv.2.2.2.2.2.2.1.lq; rw[List.length_map] at this; exact this
 have hwb:∀ m∈s.ms,jY m≤1000000000:=fun m hm9=>by
  obtain⟨i,hi⟩:=List.getElem?_of_mem hm9
  have hil:=(List.getElem?_eq_some_iff.1 hi).1
  have he:T.entries[i]?=some T.entries[i]:=List.getElem?_eq_getElem (by omega)
  obtain⟨m1,m2,m3⟩:=hI.ms i _ m he hi
  have hC:=(eV (hT.ok _ (List.getElem_mem (show i < T.entries.length by omega)))).2.1
  have:=aOP m2 (by rw[m1.2]; exact hC)
  have:10*s.steps*512≤10*90000*512:=Nat.mul_le_mul_right _ (by omega)
  omega
 have hsum:∀ i,((s.ms.take i).map jY).sum≤1000000000000:=fun i=>by
  have h1:=aEv (B:=1000000000) (l:=s.ms.take i) fun m hm9=>hwb m (List.mem_of_mem_take hm9)
  have h2:(s.ms.take i).length≤1000:=by rw[List.length_take]; omega
  have:(s.ms.take i).length*1000000000≤1000*1000000000:=Nat.mul_le_mul_right _ h2
  omega
 apply aCB
 unfold yM
 have l4:=aV (ro:=ro) (z:=0) g1 (show (gS kv tv ev mv most bv s er_)[4]?=some mv from rfl)
 (have zz:=And.intro @aJd (And.intro @aR l4);repeat refine zzCz ?_)
 have hlen:=hmv.len
 rw[nP,hql] at hlen
 refine aA hlen ?_
 refine bM (fun j e h' nx'=>∃ i:Nat,i+j=T.entries.length∧nx≤nx'∧h'=h∧e 3=.int .i64 (((s.ms.take i).map jY).sum:Nat)∧e 11=mv∧e 12=.int .i64 T.entries.length∧e 13=.int .i64 i) ?_ (n:=T.entries.length) ⟨0,by omega,by omega,rfl,rfl,rfl,rfl,rfl⟩
 rintro j e h' nx' ⟨i,hj,hnx,rfl,e3,e11,e12,e13⟩ Q' hq hx
 unfold uI
 rw[e3,e11,e12,e13]
 refine dS (fun hk=>?_) (fun hk=>?_)
 ·have hk:i < T.entries.length:=by omega
  have hek:T.entries[i]?=some T.entries[i]:=List.getElem?_eq_getElem hk
  have hmi:i < s.ms.length:=by omega
  have hmk:s.ms[i]?=some s.ms[i]:=List.getElem?_eq_getElem hmi
  obtain⟨q,hq9,hMI,_⟩:=hv.at hek hmk
  obtain⟨m1,m2,m3⟩:=hI.ms i _ _ hek hmk
  have hC:(er T.entries[i].a).counts.length≤512:=(eV (hT.ok _ (List.getElem_mem hk))).2.1
  have hql2:=(List.getElem?_eq_some_iff.1 hq9).1
  have hqe:=(List.getElem?_eq_some_iff.1 hq9).2
  have hld:=hmv.load1 (aCX hql2)
  rw[hqe] at hld
  have hst:=aJA hmi
  have hs1:=hsum (i+1)
  have hs0:=hsum i
  (repeat refine zzC ?_)
  refine aA (hmv.ix .i64 (by rw[nP]; omega)) (aA hld ?_)
  refine aKr hMI (aJE m1) hC m2 (by omega) (by omega) fun n2 hn2=>?_
  have hadd:aQ .add (.int .i64 ((((s.ms.take i).map jY).sum:Nat):Int)) (.int .i64 ((jY s.ms[i]:Nat):Int))=some (.int .i64 ((((s.ms.take (i+1)).map jY).sum:Nat):Int)):=by
   rw[cH,hst,show ((((s.ms.take i).map jY).sum:Nat):Int)+((jY s.ms[i]:Nat):Int)=((((s.ms.take i).map jY).sum+jY s.ms[i]:Nat):Int) by omega,dT (by omega) (by omega)]
  refine aA hadd ?_
  (repeat refine zzC ?_)
  exact hq (j - 1) _ _ _ _ (by omega) ⟨i+1,by omega,by omega,rfl,rfl,e11,e12,rfl⟩ (aZ.refl _)
 ·(repeat refine zzC ?_)
  refine hx _ _ _ _ (fun e=>by cases e) (eE (dG ?_))
  obtain rfl:i=T.entries.length:=by omega
  rw[List.take_of_length_le (by omega)] at e3
  have hfin:∀ (e':dL) n',e' 3=.int .i64 (wkS s:Nat)→nx'≤n'→lQ ro K e' h' n':=by
   intro e' n' d3 dn
   unfold lQ
   rw[d3]
   exact⟨h',aZ.refl _,hK _ (by omega)⟩
  refine hfin _ _ e3 ?_
  omega
end
end V
end Go.Proofs.YtcaccnneblghgaaGreat
namespace Go.Proofs.YtcaccnneblghgaaGreat
namespace V
attribute [local irreducible] aB bA aW dM eR gI dH
section
variable {ro:Ro}{h:T Obj}{nx:Nat}{K:KV}{X:List Nat}{p:Nat}{qs:List oI}{T:TabD}{most er_:Int}{cv kv tv ev mv bv:Value}{ah:Nat}{s:ScD}
theorem aCu (hm:RyV ro h X p qs T most er_ cv kv tv ev mv bv ah s) (hc:s.cond≤1000000) (hK:∀ nx',nx≤nx'→K (.int .i64 (nG s:Nat)) h nx'):aO Tryz.prog ro kH [ptr p] h nx K:=by
 have g1:=hm.g
 apply aA5
 unfold u7
 have l8:=aV (ro:=ro) (z:=0) g1 (show (iQ cv kv tv ev mv most bv ah s er_)[8]?=some (.int .u8 (ah:Int)) from rfl)
 have l9:=aV (ro:=ro) (z:=0) g1 (show (iQ cv kv tv ev mv most bv ah s er_)[9]?=some (.int .i64 (s.cond:Int)) from rfl)
 by_cases ha:ah=10
 ·have hl:s.line=true:=by rw[hm.ln,decide_eq_true ha]
  have:((nG s:Nat):Int)=2*(s.cond:Int)+1:=by unfold nG; rw[hl]; simp
  rw[this] at hK
  (have zz:=And.intro @aR (And.intro l8 l9);repeat refine zzCz ?_)
  exact⟨h,aZ.refl _,hK _ (by omega)⟩
 ·have hl:s.line=false:=by rw[hm.ln,decide_eq_false ha]
  have:((nG s:Nat):Int)=2*(s.cond:Int):=by unfold nG; rw[hl]; simp
  rw[this] at hK
  (have zz:=And.intro @aR (And.intro l8 l9);repeat refine zzCz ?_)
  exact⟨h,aZ.refl _,hK _ (by omega)⟩
theorem qG (hm:RyV ro h X p qs T most er_ cv kv tv ev mv bv ah s) (he2:er_=0∨er_=180) (hK:∀ nx',nx≤nx'→K (.int .i64 (nW er_ s.closed)) h nx'):aO Tryz.prog ro jF [ptr p] h nx K:=by
 have g1:=hm.g
 apply zG
 unfold tA
 have l13:=aV (ro:=ro) (z:=0) g1 (show (iQ cv kv tv ev mv most bv ah s er_)[13]?=some (.bool s.closed) from rfl)
 have l14:=aV (ro:=ro) (z:=0) g1 (show (iQ cv kv tv ev mv most bv ah s er_)[14]?=some (.bool (decide (er_=180))) from rfl)
 rcases he2 with rfl | rfl
 ·have l14:load1 ro h (at_ p 14 0)=some (.bool false):=l14
  cases hc:s.closed with
  | true =>
   rw[hc] at l13
   have:nW 0 s.closed=181:=by unfold nW; rw[if_pos ⟨rfl,hc⟩]
   rw[hc] at this
   rw[hc,this] at hK
   (have zz:=And.intro @aR (And.intro l13 l14);repeat refine zzCz ?_)
   exact⟨h,aZ.refl _,hK _ (by omega)⟩
  | false =>
   rw[hc] at l13
   have:nW 0 s.closed=0:=by unfold nW; rw[if_neg fun e=>by rw[hc] at e; exact absurd e.2 (by decide)]
   rw[hc] at this
   rw[hc,this] at hK
   (have zz:=And.intro @aR (And.intro l13 l14);repeat refine zzCz ?_)
   exact⟨h,aZ.refl _,hK _ (by omega)⟩
 ·have l14:load1 ro h (at_ p 14 0)=some (.bool true):=l14
  have:nW 180 s.closed=180:=by unfold nW; rw[if_neg (by omega)]
  rw[this] at hK
  (have zz:=And.intro @aR (And.intro l13 l14);repeat refine zzCz ?_)
  exact⟨h,aZ.refl _,hK _ (by omega)⟩
set_option maxRecDepth 8000 in
set_option maxHeartbeats 2000000 in
theorem aIx {h0:V.T Obj}{nx0:Nat}{X0:List Nat}{qs0:List oI}{q:oI}{t0:TryD}{e0:dL} (hT:TabR T) (hI:ScI T s) (hf0:Fr h0 nx0) (hb:RyB h0 nx0 X0 p qs0 h nx X qs) (hv:RyV ro h X p qs T most er_ cv kv tv ev mv bv ah (bZ s t0)) (hq:qs[nG s]?=some q) (ht1:t0.took=s.took) (ht2:t0.steps=s.steps) (hlk:LkOk (s.steps+1) (oN T s) t0)
  (heq:aAr (oN T s).a (s.kept.drop s.took) t0=oM T s) (hsz:s.steps+s.kept.length≤90000) (f0:e0 0=ptr p) (f3:e0 3=ptr q.1)
  (hK:∀ h' nx' X' qs',RyL ro h0 nx0 X0 p qs0 T most er_ (dN T s).2 h' nx' X' qs'→K (.bool (dN T s).1) h' nx'):kQ ro K e0 h nx:=by
 obtain⟨he1,he2,m9,hm9,_⟩:=hI.at
 generalize hD:(oN T s).a=D at *
 have hok:fF D=true:=by rw[← hD]; exact hT.ok _ he2
 have htk:=hI.ok.took
 have hrlen:(s.kept.drop s.took).length=s.kept.length - s.took:=List.length_drop
 have hrb:∀ x∈s.kept,x < 256:=hI.kb
 unfold kQ
 obtain⟨q1,q2⟩:=q
 refine bM (fun j e h' nx'=>∃ (i:Nat) (t:TryD) (X':List Nat) (qs':List oI) (ps':List (Nat × Nat)),s.took+i+j=s.kept.length∧e 0=ptr p∧e 3=ptr q1∧RyB h0 nx0 X0 p qs0 h' nx' X' qs'∧RyV ro h' X' p qs' T most er_ cv kv tv ev mv bv ah (bZ s t)∧qs'[nG s]?=some (q1,ps') ∧
   t.took=s.took+i∧t.steps=s.steps+i∧LkOk (s.steps+1) (oN T s) t∧aAr D (s.kept.drop (s.took+i)) t=oM T s) ?_ (n:=s.kept.length - s.took)
  ⟨0,t0,X,qs,q2,by omega,f0,f3,hb,hv,hq,by omega,by omega,hlk,heq⟩
 rintro j e h' nx' ⟨i,t,X',qs',ps',hj,e00,e03,hb',hv',hq',htt,hts,hlk',hend⟩ Q' hc hx
 have hf':=hb'.frr
 have g1:=hv'.g
 have hplt:=hf'.lt' g1
 have hms:(bZ s t).ms[nG s]?=some t.m:=by
  show (s.ms.set (nG s) t.m)[nG s]?=_
  rw[List.getElem?_set_self (List.getElem?_eq_some_iff.1 hm9).1]
 unfold s9
 rw[e00,e03]
 have l10:=aV (ro:=ro) (z:=0) g1 (show (iQ cv kv tv ev mv most bv ah (bZ s t) er_)[10]?=some (.int .i64 (t.took:Int)) from rfl)
 have l6:=aV (ro:=ro) (z:=0) g1 (show (iQ cv kv tv ev mv most bv ah (bZ s t) er_)[6]?=some bv from rfl)
 have hbv:Sl ro (del h' X') bv 1 (cC s.kept):=hv'.b
 have hbvh:=hbv.sub (cX h' X')
 have hbl:=hbvh.len
 rw[dJ] at hbl
 (have zz:=And.intro @aR (And.intro l10 (And.intro l6 hbl));repeat refine zzCz ?_)
 refine dS (fun hk=>?_) (fun hk=>?_)
 ·have hk:s.took+i < s.kept.length:=by omega
  have hbb:=hrb _ (List.getElem_mem hk)
  have hdrp:s.kept.drop (s.took+i)=s.kept[s.took+i]::s.kept.drop (s.took+i+1):=List.drop_eq_getElem_cons hk
  rw[hdrp,aCO] at hend
  have hbg:=qI hk
  generalize s.kept[s.took+i]=b at hbg hbb hend
  have hlt:t.took < 90000∧t.steps < 90000:=by omega
  have hov1:(iQ cv kv tv ev mv most bv ah (bZ s t) er_).set 10 (.int .i64 ((t.took:Int)+1))=iQ cv kv tv ev mv most bv ah (bZ s { t with took:=t.took+1 }) er_:=rfl
  have hv1:=hv'.upd (s':=bZ s { t with took:=t.took+1 }) (er':=er_) rfl rfl rfl
  have hb1:=hb'.upd (o:=.cells (iQ cv kv tv ev mv most bv ah (bZ s { t with took:=t.took+1 }) er_).toArray aY) hplt
  have hov2:(iQ cv kv tv ev mv most bv ah (bZ s { t with took:=t.took+1 }) er_).set 15 (.int .i64 ((t.steps:Int)+1))=iQ cv kv tv ev mv most bv ah (bZ s { t with took:=t.took+1,steps:=t.steps+1 }) er_:=rfl
  generalize hh1:h'.upd p (some (.cells (iQ cv kv tv ev mv most bv ah (bZ s { t with took:=t.took+1 }) er_).toArray aY))=h1 at hv1 hb1
  have l15:=aV (ro:=ro) (z:=0) hv1.g (show (iQ cv kv tv ev mv most bv ah (bZ s { t with took:=t.took+1 }) er_)[15]?=some (.int .i64 (t.steps:Int)) from rfl)
  have hv2:=hv1.upd (s':=bZ s { t with took:=t.took+1,steps:=t.steps+1 }) (er':=er_) rfl rfl rfl
  have hb2:=hb1.upd (o:=.cells (iQ cv kv tv ev mv most bv ah (bZ s { t with took:=t.took+1,steps:=t.steps+1 }) er_).toArray aY) hplt
  (have zz:=And.intro @aR l10;repeat refine zzCz ?_)
  refine aA (bX g1 (by simp[iQ]) rfl rfl) ?_
  rw[hov1,hh1]
  (have zz:=And.intro @aR l15;repeat refine zzCz ?_)
  refine aA (bX hv1.g (by simp[iQ]) rfl rfl) ?_
  rw[hov2]
  generalize hh2:h1.upd p (some (.cells (iQ cv kv tv ev mv most bv ah (bZ s { t with took:=t.took+1,steps:=t.steps+1 }) er_).toArray aY))=h2 at hv2 hb2
  have l62:=aV (ro:=ro) (z:=0) hv2.g (show (iQ cv kv tv ev mv most bv ah (bZ s { t with took:=t.took+1,steps:=t.steps+1 }) er_)[6]?=some bv from rfl)
  have l102:=aV (ro:=ro) (z:=0) hv2.g (show (iQ cv kv tv ev mv most bv ah (bZ s { t with took:=t.took+1,steps:=t.steps+1 }) er_)[10]?=some (.int .i64 ((t.took+1:Nat):Int)) from rfl)
  have hbv2:Sl ro h2 bv 1 (cC s.kept):=hv2.b.sub (cX h2 X')
  have hsub:aQ .sub (.int .i64 ((t.took+1:Nat):Int)) (.int .i64 1)=some (.int .i64 ((s.took+i:Nat):Int)):=by
   rw[dK,show ((t.took+1:Nat):Int) - 1=((s.took+i:Nat):Int) by omega,dT (by omega) (by omega)]
  (have zz:=And.intro @aR l62;repeat refine zzCz ?_)
  refine aA l102 (aA hsub ?_)
  refine aA (hbv2.ix .i64 (by rw[dJ]; exact hk)) (aA (hbv2.load1 hbg) ?_)
  obtain⟨q9,hq9,hMW,hmap⟩:=hv2.at (m:=t.m) he1 hms
  rw[hq'] at hq9
  cases hq9
  rw[hD] at hMW hmap
  have hst:=hlk'.st
  refine aJw hMW hok (by rw[← hD]; exact hlk'.mok) hbb (hb2.frr.mono (by omega)) hlk'.w (by omega) (by omega) fun h3 n3 X3 ps3 hl3=>?_
  obtain⟨hb3,hv3,hq3⟩:=hb2.step hf0 hv2 hq' hmap (by omega) (hb2.frr.mono (by omega)) hl3
  have h8:{ (bZ s { t with took:=t.took+1,steps:=t.steps+1 }) with ms:=(bZ s { t with took:=t.took+1,steps:=t.steps+1 }).ms.set (nG s) (jX D t.m b) }=bZ s (tk0 D t b):=by
   unfold bZ tk0
   simp only[List.set_set]
  rw[h8] at hv3
  generalize X'++iD ps3=X3 at hb3 hv3
  generalize qs'.set (nG s) (q1,ps3)=qs3 at hb3 hv3 hq3
  have hlk0:=hlk'.tk0 hT he2 hbb
  have hlk1:=hlk'.tk1 hT he2 hbb
  rw[hD] at hlk0 hlk1
  cases hon:onM D t.m b with
  | false =>
   rw[hon] at hend
   have hend:(true,tk0 D t b)=oM T s:=hend
   (repeat refine zzC ?_)
   refine hx _ _ _ _ (fun e=>by cases e) (fP ?_)
   refine⟨h3,aZ.refl _,?_⟩
   have e1:(dN T s).2=bZ s (tk0 D t b):=by show bZ s (oM T s).2=_; rw[← hend]
   have e2:(dN T s).1=true:=by show ((oM T s).1 || s.closed)=true; rw[← hend]; rfl
   rw[e1,e2] at hK
   exact hK h3 _ X3 qs3 ⟨hb3.mono (by omega),_,_,_,_,_,_,_,hv3⟩
  | true =>
   rw[hon,if_pos rfl] at hend
   (repeat refine zzC ?_)
   obtain⟨q9,hq9,hMW3,hmap3⟩:=hv3.at (m:=(tk0 D t b).m) he1 (by
    show (s.ms.set (nG s) (tk0 D t b).m)[nG s]?=_
    rw[List.getElem?_set_self (List.getElem?_eq_some_iff.1 hm9).1])
   rw[hq3] at hq9
   cases hq9
   rw[hD] at hMW3
   have hmok3:MOk D (tk0 D t b).m:=by rw[← hD]; rw[← hD] at hlk0; exact hlk0.mok
   refine aJv hMW3 hok hmok3 (hb3.frr.mono (by omega)) fun n4 hn4=>?_
   have hru:nL D (tk0 D t b).m=nL D (jX D t.m b):=rfl
   rw[hru]
   have hrge:nL D (jX D t.m b)=-1∨0≤nL D (jX D t.m b):=by
    rw[← hD] at hlk0
    have h9:=aOG hT he2 hlk0.mok
    rw[hD] at h9
    rcases h9 with h9 | h9
    ·exact .inl h9
    ·exact .inr h9.1
   have hnext:∀ (e':dL) (h':V.T Obj) (n':Nat),e' 0=ptr p→e' 3=ptr q1→RyB h0 nx0 X0 p qs0 h' n' X3 qs3→RyV ro h' X3 p qs3 T most er_ cv kv tv ev mv bv ah (bZ s (tk1 D t b))→Q' .normal e' h' n':=by
    intro e' h' n' d0 d3 db dv
    exact hc (j - 1) _ _ _ _ (by omega) ⟨i+1,tk1 D t b,X3,qs3,ps3,by omega,d0,d3,db,dv,hq3,by rw[aHa]; omega,by rw[aEy]; omega,hlk1,hend⟩ (aZ.refl _)
   by_cases hr:nL D (jX D t.m b)=-1
   ·have e1:tk1 D t b=tk0 D t b:=by unfold tk1; rw[if_pos hr]
    refine aGd (by omega) ?_
    (repeat refine zzC ?_)
    refine hnext _ _ _ e00 e03 (hb3.mono ?_) (by rw[e1]; exact hv3)
    omega
   ·have e1:tk1 D t b=⟨t.took+1,t.took+1,nL D (jX D t.m b),t.steps+1,jX D t.m b⟩:=by unfold tk1; rw[if_neg hr]
    refine aGe (by omega) ?_
    have hp3:=hb3.frr.lt' hv3.g
    have l10b:=aV (ro:=ro) (z:=0) hv3.g (show (iQ cv kv tv ev mv most bv ah (bZ s (tk0 D t b)) er_)[10]?=some (.int .i64 ((t.took+1:Nat):Int)) from rfl)
    have hov4:(iQ cv kv tv ev mv most bv ah (bZ s (tk0 D t b)) er_).set 11 (.int .i64 ((t.took+1:Nat):Int))=iQ cv kv tv ev mv most bv ah (bZ s { tk0 D t b with held:=t.took+1 }) er_:=rfl
    have hv4:=hv3.upd (s':=bZ s { tk0 D t b with held:=t.took+1 }) (er':=er_) rfl rfl rfl
    have hb4:=hb3.upd (o:=.cells (iQ cv kv tv ev mv most bv ah (bZ s { tk0 D t b with held:=t.took+1 }) er_).toArray aY) hp3
    generalize hh4:h3.upd p (some (.cells (iQ cv kv tv ev mv most bv ah (bZ s { tk0 D t b with held:=t.took+1 }) er_).toArray aY))=h4 at hv4 hb4
    have hov5:(iQ cv kv tv ev mv most bv ah (bZ s { tk0 D t b with held:=t.took+1 }) er_).set 12 (.int .i64 (nL D (jX D t.m b)))=iQ cv kv tv ev mv most bv ah (bZ s (tk1 D t b)) er_:=by rw[e1]; rfl
    have hv5:=hv4.upd (s':=bZ s (tk1 D t b)) (er':=er_) (by rw[e1]; rfl) (by rw[e1]; rfl) (by rw[e1]; rfl)
    have hb5:=hb4.upd (o:=.cells (iQ cv kv tv ev mv most bv ah (bZ s (tk1 D t b)) er_).toArray aY) hp3
    (have zz:=And.intro @aR l10b;repeat refine zzCz ?_)
    refine aA (bX hv3.g (by simp[iQ]) rfl rfl) ?_
    rw[hov4,hh4]
    (have zz:=@aR;repeat refine zzCz ?_)
    refine aA (bX hv4.g (by simp[iQ]) rfl rfl) ?_
    rw[hov5]
    refine hnext _ _ _ e00 e03 (hb5.mono ?_) hv5
    omega
 ·(repeat refine zzC ?_)
  refine hx _ _ _ _ (fun e=>by cases e) (eE (dG ?_))
  have hil:s.took+i=s.kept.length:=by omega
  rw[hil,List.drop_length] at hend
  have hend:(false,t)=oM T s:=hend
  have hfin:∀ (e':dL) n',e' 0=ptr p→nx'≤n'→kR ro K e' h' n':=by
   intro e' n' d0 dn
   unfold kR
   rw[d0]
   have l13:=aV (ro:=ro) (z:=0) g1 (show (iQ cv kv tv ev mv most bv ah (bZ s t) er_)[13]?=some (.bool s.closed) from rfl)
   (have zz:=And.intro @aR l13;repeat refine zzCz ?_)
   refine⟨h',aZ.refl _,?_⟩
   have e1:(dN T s).2=bZ s t:=by show bZ s (oM T s).2=_; rw[← hend]
   have e2:(dN T s).1=s.closed:=by show ((oM T s).1 || s.closed)=_; rw[← hend]; rfl
   rw[e1,e2] at hK
   exact hK h' _ X' qs' ⟨hb'.mono (by omega),_,_,_,_,_,_,_,hv'⟩
  refine hfin _ _ e00 ?_
  omega
set_option maxRecDepth 8000 in
set_option maxHeartbeats 1000000 in
theorem aKC (hm:RyX ro h X p qs T most er_ s) (hT:TabR T) (hI:ScI T s) (hTl:T.entries.length≤1000) (hsz:s.steps+s.kept.length≤90000) (hf:Fr h nx)
  (hK:∀ h' nx' X' qs',RyL ro h nx X p qs T most er_ (dN T s).2 h' nx' X' qs'→K (.bool (dN T s).1) h' nx'):aO Tryz.prog ro oY [ptr p] h nx K:=by
 obtain⟨cv,kv,tv,ev,mv,bv,ah,hv⟩:=id hm
 obtain⟨he1,he2,m,hm9,hm8⟩:=hI.at
 obtain⟨q,hq,hMW,hmap⟩:=hv.at he1 hm9
 have hc:=hI.c
 have hok:=hT.ok _ he2
 obtain⟨mk1,mk2,mk3⟩:=hI.ms _ _ _ he1 hm9
 have hC512:(oN T s).a.counts.length≤512:=(eV hok).2.1
 have g1:=hv.g
 apply aBC
 unfold xL
 have l4:=aV (ro:=ro) (z:=0) g1 (show (iQ cv kv tv ev mv most bv ah s er_)[4]?=some mv from rfl)
 have l10:=aV (ro:=ro) (z:=0) g1 (show (iQ cv kv tv ev mv most bv ah s er_)[10]?=some (.int .i64 (s.took:Int)) from rfl)
 have hmv:Sl ro h mv 1 (mK qs):=hv.mv'.sub (cX h X)
 (have zz:=@aR;repeat refine zzCz ?_)
 refine aA l4 ?_
 refine aCu hv (by omega) fun n1 hn1=>⟨eL g1 g1,?_⟩
 have hql:=(List.getElem?_eq_some_iff.1 hq).1
 have hqe:=(List.getElem?_eq_some_iff.1 hq).2
 refine aA (hmv.ix .i64 (by rw[nP]; exact hql)) ?_
 have hld:=hmv.load1 (aCX hql)
 rw[hqe] at hld
 refine aA hld ?_
 (have zz:=And.intro @aR l10;repeat refine zzCz ?_)
 by_cases ht:s.took=0
 ·refine aI5 (by omega) ?_
  (repeat refine zzC ?_)
  refine aII hMW mk1 hC512 (hf.mono (by omega)) mk2 (by omega) fun h2 n2 X2 ps2 hl2=>?_
  have hb0:RyB h nx X p qs h (n1+1) X qs:=RyB.refl (hf.mono (by omega)) (by omega)
  obtain⟨hb2,hv2,hq2⟩:=hb0.step hf hv hq hmap (by omega) (hf.mono (by omega)) hl2
  have hts:tM s=⟨s.took,s.held,s.rule,s.steps,aBv m⟩:=by unfold tM; rw[if_pos ht,hm8]
  refine aIx (t0:=tM s) (cv:=cv) (kv:=kv) (tv:=tv) (ev:=ev) (mv:=mv) (bv:=bv) (ah:=ah) hT hI hf hb2 ?_ hq2 rfl rfl (hI.lk hT) rfl hsz rfl rfl hK
  rw[hts]
  exact hv2
 ·refine aI3 (by omega) ?_
  (repeat refine zzC ?_)
  have hts:tM s=⟨s.took,s.held,s.rule,s.steps,m⟩:=by unfold tM; rw[if_neg ht,hm8]
  refine aIx (t0:=tM s) (cv:=cv) (kv:=kv) (tv:=tv) (ev:=ev) (mv:=mv) (bv:=bv) (ah:=ah) hT hI hf (RyB.refl (hf.mono (by omega)) (by omega)) ?_ hq rfl rfl (hI.lk hT) rfl hsz rfl rfl hK
  rw[hts]
  have:bZ s ⟨s.took,s.held,s.rule,s.steps,m⟩=s:=by
   unfold bZ
   simp only[aMP hm9]
  rw[this]
  exact hv
end
end V
end Go.Proofs.YtcaccnneblghgaaGreat
namespace Go.Proofs.YtcaccnneblghgaaGreat
namespace V
attribute [local irreducible] aB bA aW dM eR gI dH
theorem aGE {ro:Ro}{h:T Obj}{nx n0:Nat}{v x:Value}{m l:List Nat} (ho:eD h v 1 cI (cC m) n0) (hx:Sl ro h x 1 (cC l)) (hl:m.length+l.length≤100000) (hf:Fr h nx) (hn:n0≤nx):∃ r h' n',cZ Tryz.prog ro h nx #[bO,bO] [v,x]=some (r,h',n')∧eD h' r 1 cI (cC (m++l)) n0∧Kp v h h'∧nx≤n'∧Fr h' n':=by
 obtain⟨i9,t1,t2,t3⟩:=aEx
 obtain⟨r,h',n',p1,p2,p3,p4,p5,_⟩:=aGF (P:=Tryz.prog) (ro:=ro) (nx:=nx) ho hx nE t1 t2 (by omega) aKR rfl (by rw[aFu]; exact aQx _) (by rw[dJ,dJ,t3]; unfold oG; omega) (by rw[dJ,dJ]; unfold oG; omega) hn hf
 have hc:cC m++cC l=cC (m++l):=by simp[cC]
 rw[hc] at p2
 exact⟨r,h',n',p1,p2,p3,p4,p5⟩
theorem aLI {h h':T Obj}{id:Nat} (hh:h.upd id (some (.cells #[] cI))=h'):eD h' (.slice (some (own id 1)) 0 0) 1 cI (cC []) id:=.inr ⟨id,Nat.le_refl _,rfl,(fun x hx=>by cases hx),by rw[← hh,T.get_upd_same]; rfl⟩
section
variable {ro:Ro}{h h0 h':T Obj}{nx nx0:Nat}{K:KV}{X:List Nat}{p:Nat}{qs:List oI}{T:TabD}{most er_ er':Int}{cv kv tv ev mv bv:Value}{ah:Nat}{s s':ScD}
set_option maxRecDepth 8000 in
set_option maxHeartbeats 2000000 in
theorem aMB {tb rb:Nat}{e0:dL} (hv:RyV ro h0 X p qs T most er_ cv kv tv ev mv bv ah s) (hT:TabR T) (hI:ScI T s) (hk:s.kept≠[]) (hsz:s.at_+s.kept.length≤90000) (hX:∀ k∈X,k < nx0) (hf:Fr h nx) (hf0:Fr h0 nx0) (hs:aZ h0 h) (htb:nx0≤tb∧tb < nx) (hrb:nx0≤rb∧rb < nx) (hne:rb≠tb)
  (gt:h.get tb=some (.cells (i0 (jQ T s)).toArray a9)) (gr:h.get rb=some (.cells [Value.int .i64 0,.int .i64 0,.int .i64 0].toArray a9)) (f0:e0 0=ptr p) (f2:e0 2=ptr rb) (f3:e0 3=ptr tb) (hn:nx0≤nx)
  (hK:∀ h' nx',nx≤nx'→Fr h' nx'→eB [p] h0 h'→RyX ro h' X p qs T most er_ (kY T s)→K (.agg (i0 (jQ T s)).toArray) h' nx'):lN ro K e0 h nx:=by
 obtain⟨hl1,hl2⟩:=aAY hI.ok hk
 have g10:=hv.g
 have g1:=hs _ _ g10
 have hplt:=hf0.lt' g10
 have hbv:Sl ro (del h0 X) bv 1 (cC s.kept):=hv.b
 have hpX:p∈X:=hv.px
 have hbvh:=(hbv.sub (cX h0 X)).sub hs
 unfold lN
 rw[f0,f3]
 have t0:=aV (ro:=ro) (z:=0) gt (show (i0 (jQ T s))[0]?=some (.int .i64 (gR T s)) from rfl)
 have t1:=aV (ro:=ro) (z:=0) gt (show (i0 (jQ T s))[1]?=some (.int .i64 (s.at_:Int)) from rfl)
 have t2:=aV (ro:=ro) (z:=0) gt (show (i0 (jQ T s))[2]?=some (.int .i64 ((s.at_+eC s:Nat):Int)) from rfl)
 have l6:=aV (ro:=ro) (z:=0) g1 (show (iQ cv kv tv ev mv most bv ah s er_)[6]?=some bv from rfl)
 (repeat refine zzC ?_)
 refine aA t2 ?_
 (repeat refine zzC ?_)
 refine aA t1 ?_
 have hsub1:aQ .sub (.int .i64 ((s.at_+eC s:Nat):Int)) (.int .i64 (s.at_:Int))=some (.int .i64 (eC s:Int)):=by
  rw[dK,show ((s.at_+eC s:Nat):Int) - (s.at_:Int)=(eC s:Int) by omega,dT (by omega) (by omega)]
 refine aA hsub1 ?_
 (have zz:=And.intro @aR l6;repeat refine zzCz ?_)
 rw[show ((eC s:Nat):Int) - 1=((eC s - 1:Nat):Int) by omega]
 have hll:eC s - 1 < s.kept.length:=by omega
 refine aA (hbvh.ix .i64 (by rw[dJ]; omega)) ?_
 refine aA (hbvh.load1 (qI hll)) ?_
 have hline:decide (s.kept.getD (eC s - 1) 0=10)=decide (s.kept[eC s - 1]=10):=by
  rw[List.getD_eq_getElem?_getD,List.getElem?_eq_getElem hll]; rfl
 generalize s.kept[eC s - 1]=ah2 at hline
 (have zz:=@aR;repeat refine zzCz ?_)
 refine aA (bX g1 (by simp[iQ]) rfl rfl) ?_
 have hov1:(iQ cv kv tv ev mv most bv ah s er_).set 8 (.int .u8 (ah2:Int))=iQ cv kv tv ev mv most bv ah2 s er_:=rfl
 rw[hov1]
 generalize hh1:h.upd p (some (.cells (iQ cv kv tv ev mv most bv ah2 s er_).toArray aY))=h1
 have g2:h1.get p=some (.cells (iQ cv kv tv ev mv most bv ah2 s er_).toArray aY):=by rw[← hh1,V.T.get_upd_same]
 have gt1:h1.get tb=some (.cells (i0 (jQ T s)).toArray a9):=by rw[← hh1,V.T.get_upd_ne _ _ (by omega)]; exact gt
 have gr1:h1.get rb=some (.cells [Value.int .i64 0,.int .i64 0,.int .i64 0].toArray a9):=by rw[← hh1,V.T.get_upd_ne _ _ (by omega)]; exact gr
 have hk1:eB [p] h0 h1:=by rw[← hh1]; exact hs.keepL.upd (by simp)
 have hf1:Fr h1 nx:=by rw[← hh1]; exact hf.upd (Nat.le_refl _) (by omega)
 refine aA (aJ9 _) (aF ?_)
 generalize hh2:h1.upd (nx+19) (some (.cells #[] cI))=h2
 have hlit:=aLI hh2
 have hs2:aZ h1 h2:=by rw[← hh2]; exact (aZ.refl _).new hf1 (by omega)
 have hf2:Fr h2 (nx+27):=by rw[← hh2]; exact (hf1.mono (by omega)).upd (Nat.le_refl _) (by omega)
 have l62:=aV (ro:=ro) (z:=0) (hs2 _ _ g2) (show (iQ cv kv tv ev mv most bv ah2 s er_)[6]?=some bv from rfl)
 (have zz:=And.intro @aR l62;repeat refine zzCz ?_)
 have hbv2:Sl ro h2 bv 1 (cC s.kept):=(hbv.sub (hk1.delS fun k hk=>by simp at hk; subst hk; exact hpX)).sub hs2
 obtain⟨rv,hrv1,hrv2⟩:=Sl.drop (P:=Tryz.prog) hbv2 nE aHZ (n:=eC s) (by rw[dJ]; exact hl2) .i64
 have hdr:(cC s.kept).drop (eC s)=cC (s.kept.drop (eC s)):=by simp[cC]
 rw[hdr] at hrv2
 refine aA hrv1 ?_
 obtain⟨r3,h3,n3,p1,p2,p3,p4,p5⟩:=aGE (nx:=nx+27) hlit hrv2 (by simp; omega) hf2 (by omega)
 rw[List.nil_append] at p2
 have hs3:aZ h1 h3:=fun k o hk=>p3 k o (hs2 k o hk) (by intro h9; have:=hf1.lt' hk; have h8:nx+19=k:=Option.some.inj h9; omega)
 refine aA p1 ?_
 have hrf:=p2.form
 have g3:=hs3 _ _ g2
 have gt3:=hs3 _ _ gt1
 have gr3:=hs3 _ _ gr1
 have hk3:eB [p] h0 h3:=hk1.trans hs3.keepL
 dsimp only
 (have zz:=@aR;repeat refine zzCz ?_)
 refine aA (bX g3 (by simp[iQ]) p2.ok (by obtain⟨o,n,c,h9⟩:=hrf; rw[h9]; rfl)) ?_
 have hov2:(iQ cv kv tv ev mv most bv ah2 s er_).set 6 r3=iQ cv kv tv ev mv most r3 ah2 { s with kept:=s.kept.drop (eC s) } er_:=rfl
 rw[hov2]
 have hr3p:jU r3≠some p:=fun e9=>by have:=(p2.blk e9).1; omega
 generalize hh4:h3.upd p (some (.cells (iQ cv kv tv ev mv most r3 ah2 { s with kept:=s.kept.drop (eC s) } er_).toArray aY))=h4
 have g4:h4.get p=some (.cells (iQ cv kv tv ev mv most r3 ah2 { s with kept:=s.kept.drop (eC s) } er_).toArray aY):=by rw[← hh4,V.T.get_upd_same]
 have gt4:h4.get tb=some (.cells (i0 (jQ T s)).toArray a9):=by rw[← hh4,V.T.get_upd_ne _ _ (by omega)]; exact gt3
 have gr4:h4.get rb=some (.cells [Value.int .i64 0,.int .i64 0,.int .i64 0].toArray a9):=by rw[← hh4,V.T.get_upd_ne _ _ (by omega)]; exact gr3
 have hk4:eB [p] h0 h4:=by rw[← hh4]; exact hk3.upd (by simp)
 have hf4:Fr h4 n3:=by rw[← hh4]; exact p5.upd (Nat.le_refl _) (by omega)
 have ho4:eD h4 r3 1 cI (cC (s.kept.drop (eC s))) (nx+19):=by
  rw[← hh4]
  exact p2.keepK (ids:=[p]) ((aZ.refl _).keepL.upd (by simp)) fun id hid hm=>by simp at hm; subst hm; exact hr3p hid
 have t21:=aV (ro:=ro) (z:=0) gt4 (show (i0 (jQ T s))[2]?=some (.int .i64 ((s.at_+eC s:Nat):Int)) from rfl)
 (repeat refine zzC ?_)
 refine aA t21 ?_
 (have zz:=@aR;repeat refine zzCz ?_)
 refine aA (bX g4 (by simp[iQ]) rfl rfl) ?_
 have hov3:(iQ cv kv tv ev mv most r3 ah2 { s with kept:=s.kept.drop (eC s) } er_).set 7 (.int .i64 ((s.at_+eC s:Nat):Int))=iQ cv kv tv ev mv most r3 ah2 { s with kept:=s.kept.drop (eC s),at_:=s.at_+eC s } er_:=rfl
 rw[hov3]
 generalize hh5:h4.upd p (some (.cells (iQ cv kv tv ev mv most r3 ah2 { s with kept:=s.kept.drop (eC s),at_:=s.at_+eC s } er_).toArray aY))=h5
 have g5:h5.get p=some (.cells (iQ cv kv tv ev mv most r3 ah2 { s with kept:=s.kept.drop (eC s),at_:=s.at_+eC s } er_).toArray aY):=by rw[← hh5,V.T.get_upd_same]
 have gt5:h5.get tb=some (.cells (i0 (jQ T s)).toArray a9):=by rw[← hh5,V.T.get_upd_ne _ _ (by omega)]; exact gt4
 have gr5:h5.get rb=some (.cells [Value.int .i64 0,.int .i64 0,.int .i64 0].toArray a9):=by rw[← hh5,V.T.get_upd_ne _ _ (by omega)]; exact gr4
 have hk5:eB [p] h0 h5:=by rw[← hh5]; exact hk4.upd (by simp)
 have hf5:Fr h5 n3:=by rw[← hh5]; exact hf4.upd (Nat.le_refl _) (by omega)
 have ho5:eD h5 r3 1 cI (cC (s.kept.drop (eC s))) (nx+19):=by
  rw[← hh5]
  exact ho4.keepK (ids:=[p]) ((aZ.refl _).keepL.upd (by simp)) fun id hid hm=>by simp at hm; subst hm; exact hr3p hid
 have hj2:∀ (e':dL) (h6:V.T Obj) (n':Nat) (s6:ScD),e' 0=ptr p→e' 2=ptr rb→e' 3=ptr tb→n3≤n'→Fr h6 n'→eB [p] h0 h6→h6.get tb=some (.cells (i0 (jQ T s)).toArray a9)→h6.get rb=some (.cells [Value.int .i64 0,.int .i64 0,.int .i64 0].toArray a9) →
   eD h6 r3 1 cI (cC (s.kept.drop (eC s))) (nx+19)→h6.get p=some (.cells (iQ cv kv tv ev mv most r3 ah2 s6 er_).toArray aY)→{ s6 with took:=0,held:=0,rule:=-1,line:=decide (s.kept.getD (eC s - 1) 0=10) }=kY T s→lO ro K e' h6 n':=by
  intro e' h6 n' s6 d0 d2 d3 dn df dk dt dr do_ dp ds
  unfold lO
  rw[d0,d2,d3]
  (have zz:=@aR;repeat refine zzCz ?_)
  refine aA (bX dp (by simp[iQ]) rfl rfl) ?_
  have ov1:(iQ cv kv tv ev mv most r3 ah2 s6 er_).set 10 (.int .i64 0)=iQ cv kv tv ev mv most r3 ah2 { s6 with took:=0 } er_:=rfl
  rw[ov1]
  generalize hha:h6.upd p (some (.cells (iQ cv kv tv ev mv most r3 ah2 { s6 with took:=0 } er_).toArray aY))=ha
  have ga:ha.get p=some (.cells (iQ cv kv tv ev mv most r3 ah2 { s6 with took:=0 } er_).toArray aY):=by rw[← hha,V.T.get_upd_same]
  have hnea:∀ k,k≠p→ha.get k=h6.get k:=fun k hk=>by rw[← hha,V.T.get_upd_ne _ _ hk]
  (have zz:=@aR;repeat refine zzCz ?_)
  refine aA (bX ga (by simp[iQ]) rfl rfl) ?_
  have ov2:(iQ cv kv tv ev mv most r3 ah2 { s6 with took:=0 } er_).set 11 (.int .i64 0)=iQ cv kv tv ev mv most r3 ah2 { s6 with took:=0,held:=0 } er_:=rfl
  rw[ov2]
  generalize hhb:ha.upd p (some (.cells (iQ cv kv tv ev mv most r3 ah2 { s6 with took:=0,held:=0 } er_).toArray aY))=hb
  have gb:hb.get p=some (.cells (iQ cv kv tv ev mv most r3 ah2 { s6 with took:=0,held:=0 } er_).toArray aY):=by rw[← hhb,V.T.get_upd_same]
  have hneb:∀ k,k≠p→hb.get k=h6.get k:=fun k hk=>by rw[← hhb,V.T.get_upd_ne _ _ hk]; exact hnea k hk
  (have zz:=@aR;repeat refine zzCz ?_)
  refine aA (bX gb (by simp[iQ]) rfl rfl) ?_
  have ov3:(iQ cv kv tv ev mv most r3 ah2 { s6 with took:=0,held:=0 } er_).set 12 (.int .i64 (-1))=iQ cv kv tv ev mv most r3 ah2 (kY T s) er_:=by rw[← ds]; rfl
  rw[ov3]
  generalize hh7:hb.upd p (some (.cells (iQ cv kv tv ev mv most r3 ah2 (kY T s) er_).toArray aY))=h7
  have hne7:∀ k,k≠p→h7.get k=h6.get k:=fun k hk=>by rw[← hh7,V.T.get_upd_ne _ _ hk]; exact hneb k hk
  have g7:h7.get p=some (.cells (iQ cv kv tv ev mv most r3 ah2 (kY T s) er_).toArray aY):=by rw[← hh7,V.T.get_upd_same]
  have dt7:h7.get tb=some (.cells (i0 (jQ T s)).toArray a9):=by rw[hne7 tb (by omega)]; exact dt
  have dr7:h7.get rb=some (.cells [Value.int .i64 0,.int .i64 0,.int .i64 0].toArray a9):=by rw[hne7 rb (by omega)]; exact dr
  refine aA (dW dt7 rfl) ?_
  refine aA (nD (vs:=i0 (jQ T s)) dr7 rfl rfl rfl rfl) ?_
  refine aA (dW (by rw[V.T.get_upd_same]) rfl) ?_
  have hk7:eB [p] h0 (h7.upd rb (some (.cells (i0 (jQ T s)).toArray a9))):=fun k o hko hnk=>by
   have:=hf0.lt' hko
   rw[V.T.get_upd_ne _ _ (by omega),hne7 k (by simpa using hnk)]
   exact dk k o hko hnk
  have ho7:eD (h7.upd rb (some (.cells (i0 (jQ T s)).toArray a9))) r3 1 cI (cC (s.kept.drop (eC s))) (nx+19):=by
   rcases do_ with ⟨w1,w2⟩ | ⟨id,w1,w2,w3,w4⟩
   ·exact .inl ⟨w1,w2⟩
   ·refine .inr ⟨id,w1,w2,w3,?_⟩
    rw[V.T.get_upd_ne _ _ (by omega),hne7 id (by omega)]
    exact w4
  refine⟨_,aZ.refl _,hK _ _ (by omega) ?_ hk7 ⟨cv,kv,tv,ev,mv,r3,ah2,hv.fin hk7 ?_ rfl (ho7.del fun id hid hm=>?_).sl ?_⟩⟩
  ·have h7f:Fr h7 n':=fun k hk=>by rw[hne7 k (by omega)]; exact df k hk
   exact (h7f.mono (by omega)).upd (Nat.le_refl _) (by omega)
  ·rw[V.T.get_upd_ne _ _ (by omega)]; exact g7
  ·have:=(ho7.blk hid).1
   have:=hX id hm
   omega
  ·rw[← ds]; exact hline
 have t04:=aV (ro:=ro) (z:=0) gt5 (show (i0 (jQ T s))[0]?=some (.int .i64 (gR T s)) from rfl)
 (repeat refine zzC ?_)
 refine aA t04 ?_
 obtain⟨he1,he2,m9,hm9,_⟩:=hI.at
 have hrng:gR T s=-1∨0≤gR T s∧gR T s < T.kinds.length:=by
  by_cases hsr:s.rule=-1
  ·left; unfold gR; rw[if_pos hsr]
  ·right
   have h9:=hI.ru.resolve_left hsr
   unfold gR
   rw[if_neg hsr,List.getD_eq_getElem?_getD,List.getElem?_eq_getElem (show s.rule.toNat < (oN T s).rules.length by omega)]
   exact hT.rk _ he2 _ (List.getElem_mem _)
 rcases hrng with hr | hrng
 ·refine aGd (by omega) ?_
  (repeat refine zzC ?_)
  refine hj2 _ _ _ _ f0 f2 f3 ?_ ?_ hk5 gt5 gr5 ho5 g5 ?_
  ·omega
  ·exact hf5.mono (by omega)
  ·unfold kY aCa
   rw[if_neg (by rw[hr]; simp)]
 ·have hr:gR T s≠-1:=by omega
  have htl:(gR T s).toNat < T.to.length:=by rw[hT.to]; omega
  have htv:Sl ro h5 tv 1 (lL T.to):=hv.t.sub (hk5.delS fun k hk=>by simp at hk; subst hk; exact hpX)
  have hix:=Sl.ixI htv .i64 hrng.1 (by rw[fB]; omega)
  have hld:=htv.load1 (j6 htl)
  have htb9:=hT.tb _ (List.getElem_mem htl)
  have hcl:=hT.len
  have hgd:T.to.getD (gR T s).toNat 0=T.to[(gR T s).toNat]:=by rw[List.getD_eq_getElem?_getD,List.getElem?_eq_getElem htl]; rfl
  generalize T.to[(gR T s).toNat]=tv9 at hld htb9 hgd
  have l24:=aV (ro:=ro) (z:=0) g5 (show (iQ cv kv tv ev mv most r3 ah2 { s with kept:=s.kept.drop (eC s),at_:=s.at_+eC s } er_)[2]?=some tv from rfl)
  refine aGe hrng.1 ?_
  (have zz:=And.intro @aR (And.intro l24 t04);repeat refine zzCz ?_)
  refine aA hix ?_
  (repeat refine zzC ?_)
  refine aA hld ?_
  (repeat refine zzC ?_)
  by_cases htv0:0≤tv9
  ·refine aGe htv0 ?_
   (have zz:=And.intro @aR (And.intro l24 t04);repeat refine zzCz ?_)
   refine aA hix ?_
   (repeat refine zzC ?_)
   refine aA hld ?_
   (have zz:=@aR;repeat refine zzCz ?_)
   refine aA (bX g5 (by simp[iQ]) rfl rfl) ?_
   have hov5:(iQ cv kv tv ev mv most r3 ah2 { s with kept:=s.kept.drop (eC s),at_:=s.at_+eC s } er_).set 9 (.int .i64 tv9)=iQ cv kv tv ev mv most r3 ah2 { s with kept:=s.kept.drop (eC s),at_:=s.at_+eC s,cond:=tv9.toNat } er_:=by
    obtain⟨n9,rfl⟩:∃ n9:Nat,tv9=(n9:Int):=⟨tv9.toNat,by omega⟩
    rfl
   rw[hov5]
   refine hj2 _ _ _ { s with kept:=s.kept.drop (eC s),at_:=s.at_+eC s,cond:=tv9.toNat } f0 f2 f3 ?_ ?_ ?_ ?_ ?_ ?_ (V.T.get_upd_same _ _ _) ?_
   ·omega
   ·exact (hf5.mono (by omega)).upd (Nat.le_refl _) (by omega)
   ·exact hk5.upd (by simp)
   ·rw[V.T.get_upd_ne _ _ (by omega)]; exact gt5
   ·rw[V.T.get_upd_ne _ _ (by omega)]; exact gr5
   ·exact ho5.keepK (ids:=[p]) ((aZ.refl _).keepL.upd (by simp)) fun id hid hm=>by simp at hm; subst hm; exact hr3p hid
   ·unfold kY aCa
    rw[hgd,if_pos ⟨hr,htv0⟩]
  ·refine aGd (by omega) ?_
   (repeat refine zzC ?_)
   refine hj2 _ _ _ _ f0 f2 f3 ?_ ?_ hk5 gt5 gr5 ho5 g5 ?_
   ·omega
   ·exact hf5.mono (by omega)
   ·unfold kY aCa
    rw[hgd,if_neg (fun e=>htv0 e.2)]
set_option maxRecDepth 8000 in
set_option maxHeartbeats 2000000 in
theorem aLs (hm:RyX ro h X p qs T most er_ s) (hT:TabR T) (hI:ScI T s) (hTl:T.entries.length≤1000) (hk:s.kept≠[]) (hsz:s.at_+s.kept.length≤90000) (hX:∀ k∈X,k < nx) (hf:Fr h nx)
  (hK:∀ h' nx',nx≤nx'→Fr h' nx'→eB [p] h h'→RyX ro h' X p qs T most er_ (kY T s)→K (.agg (i0 (jQ T s)).toArray) h' nx'):aO Tryz.prog ro pT [ptr p] h nx K:=by
 obtain⟨cv,kv,tv,ev,mv,bv,ah,hv⟩:=id hm
 obtain⟨he1,he2,m9,hm9,_⟩:=hI.at
 have g0:=hv.g
 have hpl:=hf.lt' g0
 have hc:=hI.c
 have hat:s.at_≤90000:=by omega
 have hkl:0 < s.kept.length:=List.length_pos_iff.2 hk
 apply aBu
 unfold yI
 refine aA yQ ?_
 refine aDV (m:=nx) hf (Nat.le_refl _) fun h1 hs1 hf1 g1 _=>?_
 have g1:h1.get nx=some (.cells [Value.int .i64 0,.int .i64 0,.int .i64 0].toArray a9):=g1
 have g01:=hs1 _ _ g0
 have l7:=aV (ro:=ro) (z:=0) g01 (show (iQ cv kv tv ev mv most bv ah s er_)[7]?=some (.int .i64 (s.at_:Int)) from rfl)
 (have zz:=And.intro @aR l7;repeat refine zzCz ?_)
 refine aA (aIW _ _ _) ?_
 refine jB (x:=[.int .i64 (-1),.int .i64 (s.at_:Int),.int .i64 ((s.at_:Int)+1)]) (n:=3) yQ rfl rfl rfl rfl hf1 (by omega) fun h2 hs2 hf2 g2 _=>?_
 have g02:=hs2 _ _ g01
 have g12:=hs2 _ _ g1
 have l12:=aV (ro:=ro) (z:=0) g02 (show (iQ cv kv tv ev mv most bv ah s er_)[12]?=some (.int .i64 s.rule) from rfl)
 (have zz:=And.intro @aR l12;repeat refine zzCz ?_)
 by_cases hr:s.rule=-1
 ·refine aGd (by omega) ?_
  (repeat refine zzC ?_)
  have htok:i0 (jQ T s)=[.int .i64 (-1),.int .i64 (s.at_:Int),.int .i64 ((s.at_:Int)+1)]:=by
   unfold jQ i0 gR eC
   rw[if_pos hr,if_pos hr]; rfl
  refine aMB (tb:=nx+11) (rb:=nx) hv hT hI hk hsz hX ?_ hf (hs1.trans hs2) (by omega) (by omega) (by omega) (by rw[htok]; exact g2) g12 rfl rfl rfl (by omega) fun h' n' h3 h4 h5 h6=>hK h' n' (by omega) h4 h5 h6
  exact hf2.mono (by omega)
 ·have hru:=hI.ru.resolve_left hr
  refine aGe hru.1 ?_
  have hev2:iO ro h2 ev 260 (qH ro h2) T.entries:=hv.e.sub ((cX h X).trans (hs1.trans hs2)) (qH.sub ((cX h X).trans (hs1.trans hs2)))
  have l3:=aV (ro:=ro) (z:=0) g02 (show (iQ cv kv tv ev mv most bv ah s er_)[3]?=some ev from rfl)
  (have zz:=And.intro @aR l3;repeat refine zzCz ?_)
  refine aCu (hv.sub (hs1.trans hs2)) (by omega) fun n1 hn1=>⟨eL g02 g02,?_⟩
  have hel:=(List.getElem?_eq_some_iff.1 he1).1
  have hee:=(List.getElem?_eq_some_iff.1 he1).2
  obtain⟨y,hy1,hy2,hy3,hy4,hy5⟩:=hev2.at hel
  obtain⟨cv9,sv9,rv,hye,_,hy0,_,_,_,_,hrv,_⟩:=hy1.cells
  rw[hee] at hrv
  refine aA (hev2.ix .i64 hel) ?_
  refine aA (hy4 259) ?_
  refine aA (hy5 259 _ hy0) ?_
  have l11:=aV (ro:=ro) (z:=0) g02 (show (iQ cv kv tv ev mv most bv ah s er_)[11]?=some (.int .i64 (s.held:Int)) from rfl)
  have l72:=aV (ro:=ro) (z:=0) g02 (show (iQ cv kv tv ev mv most bv ah s er_)[7]?=some (.int .i64 (s.at_:Int)) from rfl)
  (have zz:=And.intro @aR l12;repeat refine zzCz ?_)
  refine⟨eL g02 g02,?_⟩
  refine aA (Sl.ixI hrv .i64 hru.1 (by rw[fB]; exact hru.2)) ?_
  have hrl:s.rule.toNat < (oN T s).rules.length:=by omega
  refine aA (hrv.load1 (j6 hrl)) ?_
  have hhl:s.held≤s.kept.length:=Nat.le_trans hI.ok.held hI.ok.took
  have hpne:p≠nx+11:=by omega
  (repeat refine zzC ?_)
  refine aA (bX g2 (Nat.zero_lt_succ _) rfl rfl) ?_
  generalize hh3:h2.upd (nx+11) (some (.cells (([Value.int .i64 (-1),.int .i64 (s.at_:Int),.int .i64 ((s.at_:Int)+1)]).set 0 (.int .i64 (oN T s).rules[s.rule.toNat])).toArray a9))=h3
  have g3:h3.get (nx+11)=some (.cells (([Value.int .i64 (-1),.int .i64 (s.at_:Int),.int .i64 ((s.at_:Int)+1)]).set 0 (.int .i64 (oN T s).rules[s.rule.toNat])).toArray a9):=by rw[← hh3,V.T.get_upd_same]
  have hne3:∀ k,k≠nx+11→h3.get k=h2.get k:=fun k hk=>by rw[← hh3,V.T.get_upd_ne _ _ hk]
  have g03:h3.get p=some (.cells (iQ cv kv tv ev mv most bv ah s er_).toArray aY):=by rw[hne3 p hpne]; exact g02
  have l73:=aV (ro:=ro) (z:=0) g03 (show (iQ cv kv tv ev mv most bv ah s er_)[7]?=some (.int .i64 (s.at_:Int)) from rfl)
  have l113:=aV (ro:=ro) (z:=0) g03 (show (iQ cv kv tv ev mv most bv ah s er_)[11]?=some (.int .i64 (s.held:Int)) from rfl)
  have hadd:aQ .add (.int .i64 (s.at_:Int)) (.int .i64 (s.held:Int))=some (.int .i64 ((s.at_+s.held:Nat):Int)):=by
   rw[cH,show (s.at_:Int)+(s.held:Int)=((s.at_+s.held:Nat):Int) by omega,dT (by omega) (by omega)]
  (have zz:=And.intro @aR l73;repeat refine zzCz ?_)
  refine aA l113 (aA hadd ?_)
  (repeat refine zzC ?_)
  refine aA (bX g3 (by rw[List.length_set]; exact Nat.lt_succ_self _) rfl rfl) ?_
  have htok:i0 (jQ T s)=((([Value.int .i64 (-1),.int .i64 (s.at_:Int),.int .i64 ((s.at_:Int)+1)]).set 0 (.int .i64 (oN T s).rules[s.rule.toNat])).set 2 (.int .i64 ((s.at_+s.held:Nat):Int))):=by
   unfold jQ i0 gR eC
   rw[if_neg hr,if_neg hr,List.getD_eq_getElem?_getD,List.getElem?_eq_getElem hrl]; rfl
  rw[← htok]
  have hf3:Fr h3 (nx+11+1):=fun k hk=>by rw[hne3 k (by omega)]; exact hf2 k hk
  refine aMB (tb:=nx+11) (rb:=nx) hv hT hI hk hsz hX ?_ hf ?_ (by omega) (by omega) (by omega) (V.T.get_upd_same _ _ _) ?_ rfl rfl rfl (by omega) fun h' n' h3 h4 h5 h6=>hK h' n' (by omega) h4 h5 h6
  ·exact (hf3.mono (by omega)).upd (Nat.le_refl _) (by omega)
  ·intro k o hko
   have:=hf.lt' hko
   rw[V.T.get_upd_ne _ _ (by omega),hne3 k (by omega)]
   exact hs2 _ _ (hs1 _ _ hko)
  ·rw[V.T.get_upd_ne _ _ (by omega),hne3 nx (by omega)]
   exact g12
end
end V
end Go.Proofs.YtcaccnneblghgaaGreat
namespace Go.Proofs.YtcaccnneblghgaaGreat
namespace V
attribute [local irreducible] aB bA aW dM eR gI dH
section
variable {ro:Ro}{h h':V.T Obj}{nx n1:Nat}{K:KV}{X X':List Nat}{p:Nat}{qs:List oI}{T:TabD}{most er_ er':Int}{s s':ScD}
theorem RyX.keep {ids:List Nat} (hm:RyX ro h X p qs T most er_ s) (hs:eB ids h h') (h1:∀ k∈ids,k∈X) (h2:∀ k∈ids,k ∉ iB p qs) (h3:∀ k∈X',k∈X∨h.get k=none) (h4:∀ k∈X,k∈X'):RyX ro h' X' p qs T most er_ s:=by
 obtain⟨cv,kv,tv,ev,mv,bv,ah,hv⟩:=hm
 exact⟨_,_,_,_,_,_,_,hv.keep hs h1 h2 h3 h4⟩
theorem RyX.sub (hm:RyX ro h X p qs T most er_ s) (hs:aZ h h'):RyX ro h' X p qs T most er_ s:=hm.keep (ids:=[]) hs.keepL (fun k hk=>by cases hk) (fun k hk=>by cases hk) (fun k hk=>.inl hk) fun k hk=>hk
theorem RyX.own (hm:RyX ro h X p qs T most er_ s):∀ k∈iB p qs,k∈X∧∃ c e,h.get k=some (.cells c e)∧(e=aY∨e=bN∨e=cG∨e=jK):=fun k hk=>by
 obtain⟨cv,kv,tv,ev,mv,bv,ah,hv⟩:=hm
 rcases List.mem_cons.1 hk with rfl | hk
 ·exact⟨hv.px,_,_,hv.g,.inl rfl⟩
 ·obtain⟨q,hq,hk⟩:=List.mem_flatMap.1 hk
  obtain⟨h1,c,e,h2,h3⟩:=hv.w.blk q hq k hk
  exact⟨h1,c,e,h2,.inr h3⟩
theorem RyX.neT (hm:RyX ro h X p qs T most er_ s) {k:Nat}{c:Array Value}{e:TypeId} (hk:h.get k=some (.cells c e)) (he:e≠aY∧e≠bN∧e≠cG∧e≠jK):k ∉ iB p qs:=fun h9=>by
 obtain⟨_,c2,e2,g1,g2⟩:=hm.own k h9
 rw[hk] at g1
 simp only[Option.some.injEq,Obj.cells.injEq] at g1
 rcases g2 with g2 | g2 | g2 | g2
 ·exact he.1 (g1.2.1.trans g2)
 ·exact he.2.1 (g1.2.1.trans g2)
 ·exact he.2.2.1 (g1.2.1.trans g2)
 ·exact he.2.2.2 (g1.2.1.trans g2)
structure TmI (ro:Ro) (X:List Nat) (p:Nat) (qs:List oI) (T:TabD) (most er_:Int) (h:V.T Obj) (nx:Nat) (s:ScD) (h':V.T Obj) (nx' m:Nat) (s':ScD) (acc:List TokD) (out:Value) (X':List Nat) (qs':List oI):Prop where
 km:s'.kept.length≤m
 rb:RyB h nx X p qs h' nx' X' qs'
 sc:RyX ro h' X' p qs' T most er_ s'
 oo:eD h' out 3 a9 (iX acc) nx
 ob:∀ b∈kV out,b∈X'
 ii:ScI T s'
 at':s'.at_+s'.kept.length=s.at_+s.kept.length
 eqT:hJ T s.kept.length s=(acc++(hJ T m s').1,(hJ T m s').2)
 al:acc.length+s'.kept.length≤s.kept.length
set_option maxRecDepth 8000 in
set_option maxHeartbeats 2000000 in
theorem aCv (hm:RyX ro h X p qs T most er_ s) (hT:TabR T) (hI:ScI T s) (hTl:T.entries.length≤1000) (hsz:s.at_+s.kept.length≤400) (hX:∀ k∈X,k < nx) (hf:Fr h nx)
  (hK:∀ r h' nx' X' qs',RyL ro h nx X p qs T most er_ (hJ T s.kept.length s).2 h' nx' X' qs'→eD h' r 3 a9 (iX (hJ T s.kept.length s).1) nx→K r h' nx'):aO Tryz.prog ro kI [ptr p] h nx K:=by
 apply aA6
 unfold vA
 refine bM (fun j e h' nx'=>∃ s' acc out X' qs',e 0=ptr p∧e 3=out∧TmI ro X p qs T most er_ h nx s h' nx' j s' acc out X' qs') ?_ (n:=s.kept.length)
  ⟨s,[],.slice none 0 0,X,qs,rfl,rfl,Nat.le_refl _,RyB.refl (hf.mono (by omega)) (by omega),hm,eD.nil,(fun b hb=>by cases hb),hI,rfl,rfl,by simp⟩
 rintro j e h' nx' ⟨s',acc,out,X',qs',e0,e3,ti⟩ Q' hq hx
 obtain⟨km,rb,sc,oo,ob,ii,at',eqT,al⟩:=ti
 have fr':=rb.frr
 have le:=rb.le
 obtain⟨cv,kv,tv,ev,mv,bv,ah,hv⟩:=id sc
 have g1:=hv.g
 unfold sG
 rw[e0,e3]
 have l6:=aV (ro:=ro) (z:=0) g1 (show (iQ cv kv tv ev mv most bv ah s' er_)[6]?=some bv from rfl)
 have hbl:=(hv.b.sub (cX h' X')).len
 rw[dJ] at hbl
 have hexit:∀ (e':dL) (h2:V.T Obj) (n':Nat) (s2:ScD) (X2:List Nat) (qs2:List oI),e' 3=out→RyB h nx X p qs h2 n' X2 qs2→RyX ro h2 X2 p qs2 T most er_ s2→eD h2 out 3 a9 (iX acc) nx→hJ T s.kept.length s=(acc,s2)→jT ro K e' h2 n':=by
  intro e' h2 n' s2 X2 qs2 d3 db ds dout deq
  unfold jT
  rw[d3]
  refine⟨h2,aZ.refl _,hK out h2 _ X2 qs2 ⟨db.mono (by omega),?_⟩ ?_⟩
  ·rw[deq]; exact ds
  ·rw[deq]; exact dout
 (have zz:=And.intro @aR l6;repeat refine zzCz ?_)
 refine aA hbl ?_
 by_cases hk:s'.kept=[]
 ·refine aI9 (by rw[hk]; simp) ?_
  (repeat refine zzC ?_)
  refine hx _ _ _ _ (fun e=>by cases e) (eE (dG ?_))
  have h9:hJ T s.kept.length s=(acc,s'):=by rw[eqT,aCI _ hk]; simp
  refine hexit _ _ _ s' X' qs' ?_ (rb.mono ?_) sc oo h9
  ·exact e3
  ·omega
 ·have hkl:0 < s'.kept.length:=List.length_pos_iff.2 hk
  have hst:=aH2 ii
  rw[at'] at hst
  have hst2:(s.at_+s.kept.length)*(s.at_+s.kept.length+1)≤400*401:=Nat.mul_le_mul hsz (by omega)
  refine aIa (by omega) ?_
  (repeat refine zzC ?_)
  refine aKC sc hT ii hTl (by omega) (fr'.mono (by omega)) fun h2 n2 X2 qs2 hl2=>?_
  obtain⟨hb2,hs2⟩:=hl2
  have hn2:=hb2.le
  have hf2:=hb2.frr
  have hB2:=(rb.mono (by omega)).trans hf hb2
  have hI2:=aJS hT ii hk
  have hout2:eD h2 out 3 a9 (iX acc) nx:=oo.keepK hb2.kp fun id hid hm9=>by
   have g9:=(oo.blk hid).2
   exact sc.neT g9 ⟨by decide,by decide,by decide,by decide⟩ hm9
  have ob2:∀ b∈kV out,b∈X2:=fun b hb=>hb2.xs b (ob b hb)
  obtain⟨m,rfl⟩:∃ m,j=m+1:=⟨j - 1,by omega⟩
  rw[tL,if_neg hk] at eqT
  cases hB:(dN T s').1 with
  | false =>
   rw[hB] at eqT
   simp only[Bool.false_eq_true,if_false,List.append_nil] at eqT
   (repeat refine zzC ?_)
   refine hx _ _ _ _ (fun e=>by cases e) (eE (dG ?_))
   refine hexit _ _ _ _ X2 qs2 ?_ (hB2.mono ?_) hs2 hout2 eqT
   ·exact e3
   ·omega
  | true =>
   rw[hB] at eqT
   simp only[if_true] at eqT
   have hkE:(dN T s').2.kept=s'.kept:=rfl
   have hatE:(dN T s').2.at_=s'.at_:=rfl
   have hX2:∀ k∈X2,k < n2:=fun k hk=>by
    rcases hB2.xb k hk with h9 | h9
    ·have:=hX k h9; omega
    ·omega
   (repeat refine zzC ?_)
   refine aLs hs2 hT hI2 hTl (by rw[hkE]; exact hk) (by rw[hkE,hatE,at']; omega) (fun k hk=>by have:=hX2 k hk; omega) (hf2.mono (by omega)) fun h3 n3 hn3 hf3 hk3 hs3=>?_
   have hB3:RyB h nx X p qs h3 n3 X2 qs2:=(hB2.mono (by omega)).trans hf ⟨hn3,hf3,hk3.mono fun b hb=>by simp at hb; subst hb; exact List.mem_cons_self ..,fun k hk=>hk,fun k hk=>.inl hk,fun k hk=>.inl hk⟩
   obtain⟨hL1,hL2⟩:=aAY hI2.ok (by rw[hkE]; exact hk)
   rw[hkE] at hL2
   have hI3:=aNh hT hI2 (by rw[hkE]; exact hk)
   have hclen:(kY T (dN T s').2).kept.length=s'.kept.length - eC (dN T s').2:=by rw[aDi,hkE]
   have hcat:(kY T (dN T s').2).at_=s'.at_+eC (dN T s').2:=rfl
   have hrt:(jQ T (dN T s').2).rule=-1∨0≤(jQ T (dN T s').2).rule∧(jQ T (dN T s').2).rule < T.kinds.length:=by
    show gR T (dN T s').2=-1∨0≤gR T (dN T s').2∧gR T (dN T s').2 < T.kinds.length
    obtain⟨he1,he2,_⟩:=hI2.at
    by_cases hsr:(dN T s').2.rule=-1
    ·left; unfold gR; rw[if_pos hsr]
    ·right
     have h9:=hI2.ru.resolve_left hsr
     unfold gR
     rw[if_neg hsr,List.getD_eq_getElem?_getD,List.getElem?_eq_getElem (show (dN T s').2.rule.toNat < (oN T (dN T s').2).rules.length by omega)]
     exact hT.rk _ he2 _ (List.getElem_mem _)
   generalize jQ T (dN T s').2=t at *
   generalize kY T (dN T s').2=sC at *
   refine jB (x:=i0 t) (n:=3) yQ rfl rfl rfl rfl hf3 (Nat.le_refl _) fun h4 hs4 hf4 g4 _=>?_
   have hout4:eD h4 out 3 a9 (iX acc) nx:=(hout2.keepK hk3 fun id hid hm9=>by
    simp at hm9
    subst hm9
    exact hs2.neT (hout2.blk hid).2 ⟨by decide,by decide,by decide,by decide⟩ (List.mem_cons_self ..)).keepS hs4
   have hB4:RyB h nx X p qs h4 (n3+1) X2 qs2:=(hB3.mono (by omega)).trans hf ⟨Nat.le_refl _,hf4,hs4.keepL,fun k hk=>hk,fun k hk=>.inl hk,fun k hk=>.inl hk⟩
   have hs4x:RyX ro h4 X2 p qs2 T most er_ sC:=hs3.sub hs4
   have happ:∀ (n75:Nat) (F:Value→Value × Option Obj→Value × V.T Obj × Nat→dL),n3+1≤n75→(∀ x y z,F x y z 0=ptr p)→(∀ x y z,F x y z 3=z.1)→wV T t=true →
     aB (loadA ro h4 3 (ptr n3)) fun t33=>aB (b7 Tryz.prog fE (n75+2) 1 [(0,t33)]) fun r79=>eR h4 (n75+2) r79.2 fun h80=>aB (cZ Tryz.prog ro h80 (n75+4) #[fE,fE] [out,r79.1]) fun r81=>Q' .normal (F t33 r79 r81) r81.2.1 (r81.2.2+1):=by
    intro n75 F hn75 f0 f3 hkT
    refine aA (dW g4 rfl) ?_
    obtain⟨i9,t1,t2,t3⟩:=aOL
    refine yR (z:=3) (l:=iX acc) (y:=i0 t) (aNu _ _ _ _) rfl hout4 aMY t1 (by omega) (by omega) yQ rfl rfl (by rw[tK,t3]; unfold oG; omega) (by rw[tK]; unfold oG; omega) (hf4.mono (by omega)) (by omega) (by omega) (fun e9=>by have:=hf4.lt' (hout4.blk e9).2; omega) fun h5 ho5 hk5 hf5=>?_
    generalize hnv:Value.slice (some (own (n75+4) 3)) (iX acc++[i0 t]).length (iX acc++[i0 t]).length=out2 at ho5
    have hsb:jU out2=some (n75+4):=by rw[← hnv]; rfl
    have hkk:eB (kV out) h4 h5:=fun b o hb hn9=>hk5 b o hb (by have:=hf4.lt' hb; omega) fun e9=>hn9 (eW.2 e9)
    have hkO:∀ b∈kV out,b ∉ iB p qs2:=fun b hb=>hs4x.neT (hout4.blk (eW.1 hb)).2 ⟨by decide,by decide,by decide,by decide⟩
    show Q' .normal (F _ _ (out2,h5,n75+4+1)) h5 (n75+4+1+1)
    have hB5:RyB h nx X p qs h5 (n75+4+1+1) (X2++[n75+4]) qs2:=by
     refine⟨by omega,hf5.mono (by omega),fun b o hb hn9=>hkk b o (hB4.kp b o hb hn9) fun h9=>?_,fun k hk=>List.mem_append_left _ (hB4.xs k hk),fun k hk=>?_,hB4.qn⟩
     ·have:=hf.lt' hb
      have:=(oo.blk (eW.1 h9)).1
      omega
     ·rcases List.mem_append.1 hk with hk | hk
      ·rcases hB4.xb k hk with h9 | h9
       ·exact .inl h9
       ·right; omega
      ·simp at hk; subst hk; right; omega
    refine hq m _ _ _ _ (by omega) ⟨sC,acc++[t],out2,X2++[n75+4],qs2,f0 _ _ _,f3 _ _ _,by omega,hB5,?_,by rw[aHc]; exact ho5,fun b hb=>?_,hI3,by rw[hclen,hcat]; omega,?_,by rw[List.length_append,hclen]; show acc.length+1+_≤_; omega⟩ (aZ.refl _)
    ·refine hs4x.keep hkk ob2 hkO (fun b hb=>?_) fun b hb=>List.mem_append_left _ hb
     rcases List.mem_append.1 hb with hb | hb
     ·exact .inl hb
     ·simp at hb; subst hb; exact .inr (hf4 _ (by omega))
    ·have:=eW.1 hb
     rw[hsb] at this
     cases this
     exact List.mem_append_right _ (by simp)
    ·rw[eqT]
     unfold aJg
     rw[if_pos hkT,List.append_assoc]
   have hnok:∀ (e':dL) (n':Nat),e' 0=ptr p→e' 3=out→n3+1≤n'→wV T t=false→Q' .normal e' h4 n':=by
    intro e' n' f0 f3 hn' hkT
    refine hq m _ _ _ _ (by omega) ⟨sC,acc,out,X2,qs2,f0,f3,by omega,hB4.mono hn',hs4x,hout4,ob2,hI3,by rw[hclen,hcat]; omega,?_,by rw[hclen]; omega⟩ (aZ.refl _)
    rw[eqT]
    unfold aJg
    rw[if_neg (by rw[hkT]; decide),List.nil_append]
   have t0:=aV (ro:=ro) (z:=0) g4 (show (i0 t)[0]?=some (.int .i64 t.rule) from rfl)
   (repeat refine zzC ?_)
   refine aA t0 ?_
   rcases hrt with hr | hrr
   ·have hkT:wV T t=true:=by unfold wV; rw[decide_eq_true hr]; rfl
    refine aLP (by omega) ?_
    (repeat refine zzC ?_)
    refine happ _ _ ?_ ?_ ?_ hkT
    ·omega
    ·intro x y z; exact e0
    ·intro x y z; rfl
   ·have hr:t.rule≠-1:=by omega
    obtain⟨cv4,kv4,tv4,ev4,mv4,bv4,ah4,hv4⟩:=id hs4x
    have l1:=aV (ro:=ro) (z:=0) hv4.g (show (iQ cv4 kv4 tv4 ev4 mv4 most bv4 ah4 sC er_)[1]?=some kv4 from rfl)
    have hkv:=hv4.k.sub (cX h4 X2) (fun _ _ h=>h)
    have hix:=hkv.ixI .i64 hrr.1 hrr.2
    have hkl9:t.rule.toNat < T.kinds.length:=by omega
    obtain⟨hld,_⟩:=aAH.load hkv hkl9
    have hgd:T.kinds.getD t.rule.toNat .empty=T.kinds[t.rule.toNat]:=by rw[List.getD_eq_getElem?_getD,List.getElem?_eq_getElem hkl9]; rfl
    have hkT:wV T t=!decide (T.kinds[t.rule.toNat]=.empty):=by
     unfold wV
     rw[decide_eq_false hr,hgd]
     generalize T.kinds[t.rule.toNat]=b9
     have:(b9.size≠0) ↔ ¬ (b9=.empty):=by
      constructor
      ·intro h9 e9; rw[e9] at h9; exact h9 rfl
      ·intro h9 e9
       apply h9
       obtain⟨⟨l9⟩⟩:=b9
       have:l9=[]:=List.length_eq_zero_iff.1 e9
       rw[this]; rfl
     by_cases h9:b9=.empty<;>simp[this,h9]
    generalize T.kinds[t.rule.toNat]=ks at hld hkT
    refine aLO (by omega) ?_
    (have zz:=And.intro @aR (And.intro l1 t0);repeat refine zzCz ?_)
    refine aA hix ?_
    (repeat refine zzC ?_)
    refine aA hld ?_
    (repeat refine zzC ?_)
    refine aA (aAD ks .empty) ?_
    rw[← hkT]
    cases hkk:wV T t with
    | true =>
     (repeat refine zzC ?_)
     refine happ _ _ ?_ ?_ ?_ hkk
     ·omega
     ·intro x y z; exact e0
     ·intro x y z; rfl
    | false =>
     (repeat refine zzC ?_)
     refine hnok _ _ ?_ ?_ ?_ hkk
     ·exact e0
     ·exact e3
     ·omega
end
end V
end Go.Proofs.YtcaccnneblghgaaGreat
namespace Go.Proofs.YtcaccnneblghgaaGreat
namespace V
attribute [local irreducible] aB bA aW dM eR gI dH
section
variable {ro:Ro}{h h':V.T Obj}{nx n1:Nat}{K:KV}{X X':List Nat}{p:Nat}{qs:List oI}{T:TabD}{most er_ er':Int}{s s':ScD}
theorem aNR {b:Value} (hm:RyX ro h X p qs T most er_ s) (he2:er_=0∨er_=180) (hr:nW er_ s.closed≠0) (hK:∀ nx',nx≤nx'→K (.tuple #[.slice none 0 0,.int .i64 (nW er_ s.closed)]) h nx'):aO Tryz.prog ro i8 [ptr p,b] h nx K:=by
 obtain⟨cv,kv,tv,ev,mv,bv,ah,hv⟩:=hm
 apply s5
 unfold qR
 refine qG hv he2 fun n1 hn1=>?_
 refine aBa hr ?_
 (repeat refine zzC ?_)
 exact⟨h,aZ.refl _,hK _ (by omega)⟩
theorem aMA (hm:RyX ro h X p qs T most er_ s) (he2:er_=0∨er_=180) (hr:nW er_ s.closed≠0) (hK:∀ nx',nx≤nx'→K (.tuple #[.slice none 0 0,.int .i64 (nW er_ s.closed)]) h nx'):aO Tryz.prog ro iH [ptr p] h nx K:=by
 obtain⟨cv,kv,tv,ev,mv,bv,ah,hv⟩:=hm
 apply sF
 unfold pY
 refine qG hv he2 fun n1 hn1=>?_
 refine aBa hr ?_
 (repeat refine zzC ?_)
 exact⟨h,aZ.refl _,hK _ (by omega)⟩
set_option maxRecDepth 8000 in
set_option maxHeartbeats 1000000 in
theorem aIM (hm:RyX ro h X p qs T most 0 s) (hT:TabR T) (hI:ScI T s) (hTl:T.entries.length≤1000) (hcl:s.closed=false) (hsz:s.at_+s.kept.length≤400) (hX:∀ k∈X,k < nx) (hf:Fr h nx)
  (hK:∀ r h' nx' X' qs',RyL ro h nx X p qs T most 0 (oK T s).2 h' nx' X' qs'→eD h' r 3 a9 (iX (oK T s).1) nx→K (.tuple #[r,.int .i64 0]) h' nx'):aO Tryz.prog ro iH [ptr p] h nx K:=by
 have hr:nW 0 s.closed=0:=by unfold nW; rw[if_neg (by rw[hcl]; simp)]
 obtain⟨cv,kv,tv,ev,mv,bv,ah,hv⟩:=id hm
 apply sF
 unfold pY
 refine qG hv (.inl rfl) fun n1 hn1=>?_
 refine zX hr ?_
 have g1:=hv.g
 have hpl:=hf.lt' g1
 (have zz:=@aR;repeat refine zzCz ?_)
 refine aA (bX g1 (by simp[iQ]) rfl rfl) ?_
 have hov:(iQ cv kv tv ev mv most bv ah s 0).set 13 (.bool true)=iQ cv kv tv ev mv most bv ah { s with closed:=true } 0:=rfl
 rw[hov]
 have hv1:=hv.upd (s':={ s with closed:=true }) (er':=0) rfl rfl rfl
 have hb1:RyB h nx X p qs (h.upd p (some (.cells (iQ cv kv tv ev mv most bv ah { s with closed:=true } 0).toArray aY))) (n1+9) X qs:=(RyB.refl (hf.mono (by omega)) (by omega)).upd (by omega)
 refine aCv ⟨_,_,_,_,_,_,_,hv1⟩ hT (aGT hI) hTl hsz (fun k hk=>by have:=hX k hk; omega) hb1.frr fun r h2 n2 X2 qs2 hl2 ho2=>?_
 (repeat refine zzC ?_)
 exact⟨h2,aZ.refl _,hK r h2 _ X2 qs2 ⟨(hb1.trans hf hl2.1).mono (by omega),hl2.2⟩ (ho2.mono (by omega))⟩
set_option maxRecDepth 8000 in
set_option maxHeartbeats 1000000 in
theorem aJz {bb:Value}{b:List Nat} (hm:RyX ro h X p qs T most 0 s) (hT:TabR T) (hI:ScI T s) (hTl:T.entries.length≤1000) (hcl:s.closed=false) (hX:∀ k∈X,k < nx) (hb:Sl ro h bb 1 (cC b)) (hb2:∀ x∈b,x < 256) (hsz:s.at_+s.kept.length+b.length≤400) (hf:Fr h nx)
  (hK:∀ r h' nx' X' qs',RyL ro h nx X p qs T most (x9 most (fR T s b).2) (fR T s b).2 h' nx' X' qs'→eD h' r 3 a9 (iX (fR T s b).1) nx→K (.tuple #[r,.int .i64 (x9 most (fR T s b).2)]) h' nx'):aO Tryz.prog ro i8 [ptr p,bb] h nx K:=by
 have hr:nW 0 s.closed=0:=by unfold nW; rw[if_neg (by rw[hcl]; simp)]
 obtain⟨cv,kv,tv,ev,mv,bv,ah,hv⟩:=id hm
 have g1:=hv.g
 have hpl:=hf.lt' g1
 have hbv:Sl ro h bv 1 (cC s.kept):=hv.b.sub (cX h X)
 apply s5
 unfold qR
 refine qG hv (.inl rfl) fun n1 hn1=>?_
 refine zX hr ?_
 (repeat refine zzC ?_)
 refine aA (aJ9 _) (aF ?_)
 generalize hh1:h.upd (n1+4) (some (.cells #[] cI))=h1
 have hlit:=aLI hh1
 have hs1:aZ h h1:=by rw[← hh1]; exact (aZ.refl _).new hf (by omega)
 have hf1:Fr h1 (n1+10):=by rw[← hh1]; exact (hf.mono (by omega)).upd (Nat.le_refl _) (by omega)
 have l6:=aV (ro:=ro) (z:=0) (hs1 _ _ g1) (show (iQ cv kv tv ev mv most bv ah s 0)[6]?=some bv from rfl)
 (have zz:=@aR;repeat refine zzCz ?_)
 refine aA l6 ?_
 obtain⟨r2,h2,n2,p1,p2,p3,p4,p5⟩:=aGE (nx:=n1+10) hlit (hbv.sub hs1) (by simp; omega) hf1 (by omega)
 rw[List.nil_append] at p2
 have hs2:aZ h h2:=fun k o hk=>p3 k o (hs1 k o hk) (by intro h9; have:=hf.lt' hk; have h8:n1+4=k:=Option.some.inj h9; omega)
 refine aA p1 ?_
 dsimp only
 obtain⟨r3,h3,n3,u1,u2,u3,u4,u5⟩:=aGE (nx:=n2+2) p2 (hb.sub hs2) (by omega) (p5.mono (by omega)) (by omega)
 have hs3:aZ h h3:=fun k o hk=>u3 k o (hs2 k o hk) (by intro h9; have:=hf.lt' hk; have:=(p2.blk h9).1; omega)
 refine aA u1 ?_
 have hrf:=u2.form
 have g3:=hs3 _ _ g1
 dsimp only
 (have zz:=@aR;repeat refine zzCz ?_)
 refine aA (bX g3 (by simp[iQ]) u2.ok (by obtain⟨o,n,c,h9⟩:=hrf; rw[h9]; rfl)) ?_
 have hov:(iQ cv kv tv ev mv most bv ah s 0).set 6 r3=iQ cv kv tv ev mv most r3 ah (qV s b) 0:=rfl
 rw[hov]
 have hk4:eB [p] h (h3.upd p (some (.cells (iQ cv kv tv ev mv most r3 ah (qV s b) 0).toArray aY))):=hs3.keepL.upd (by simp)
 have ho4:eD (h3.upd p (some (.cells (iQ cv kv tv ev mv most r3 ah (qV s b) 0).toArray aY))) r3 1 cI (cC (s.kept++b)) (n1+4):=u2.keepK (ids:=[p]) ((aZ.refl _).keepL.upd (by simp)) fun id hid hm=>by simp at hm; subst hm; have:=(u2.blk hid).1; omega
 have hv4:RyV ro (h3.upd p (some (.cells (iQ cv kv tv ev mv most r3 ah (qV s b) 0).toArray aY))) X p qs T most 0 cv kv tv ev mv r3 ah (qV s b):=hv.fin hk4 (V.T.get_upd_same _ _ _) rfl (ho4.del fun id hid hm=>by
  have:=hX id hm
  have:=(ho4.blk hid).1
  omega).sl hv.ln
 have hb4:RyB h nx X p qs (h3.upd p (some (.cells (iQ cv kv tv ev mv most r3 ah (qV s b) 0).toArray aY))) (n3+5) X qs:=⟨by omega,(u5.mono (by omega)).upd (Nat.le_refl _) (by omega),hk4.mono fun k hk=>by simp at hk; subst hk; exact List.mem_cons_self ..,fun k hk=>hk,fun k hk=>.inl hk,fun k hk=>.inl hk⟩
 have hlen9:(qV s b).kept.length=s.kept.length+b.length:=List.length_append
 refine aCv ⟨_,_,_,_,_,_,_,hv4⟩ hT (aNa hI hb2) hTl (by rw[hlen9]; show s.at_+_≤400; omega) (fun k hk=>by have:=hX k hk; omega) hb4.frr fun r5 h5 n5 X5 qs5 hl5 ho5=>?_
 rw[hlen9] at hl5 ho5
 obtain⟨hb5,hs5⟩:=hl5
 have hs5:RyX ro h5 X5 p qs5 T most 0 (fR T s b).2:=hs5
 have ho5:eD h5 r5 3 a9 (iX (fR T s b).1) nx:=ho5.mono (by omega)
 have hb5:=hb4.trans hf hb5
 obtain⟨cv5,kv5,tv5,ev5,mv5,bv5,ah5,hv5⟩:=id hs5
 have hbl:=(hv5.b.sub (cX h5 X5)).len
 rw[dJ] at hbl
 have l65:=aV (ro:=ro) (z:=0) hv5.g (show (iQ cv5 kv5 tv5 ev5 mv5 most bv5 ah5 (fR T s b).2 0)[6]?=some bv5 from rfl)
 have l55:=aV (ro:=ro) (z:=0) hv5.g (show (iQ cv5 kv5 tv5 ev5 mv5 most bv5 ah5 (fR T s b).2 0)[5]?=some (.int .i64 most) from rfl)
 (have zz:=And.intro @aR l65;repeat refine zzCz ?_)
 refine aA hbl ?_
 (have zz:=And.intro @aR l55;repeat refine zzCz ?_)
 by_cases hmo:most < ((fR T s b).2.kept.length:Int)
 ·have hE:x9 most (fR T s b).2=180:=by unfold x9; rw[if_pos hmo]
  rw[hE] at hK
  refine aIa hmo ?_
  (have zz:=@aR;repeat refine zzCz ?_)
  refine aA (bX hv5.g (by simp[iQ]) rfl rfl) ?_
  have hov5:(iQ cv5 kv5 tv5 ev5 mv5 most bv5 ah5 (fR T s b).2 0).set 14 (.bool true)=iQ cv5 kv5 tv5 ev5 mv5 most bv5 ah5 (fR T s b).2 180:=rfl
  rw[hov5]
  have hp5:=hb5.frr.lt' hv5.g
  refine⟨_,aZ.refl _,hK r5 _ _ X5 qs5 ⟨(hb5.upd hp5).mono ?_,_,_,_,_,_,_,_,hv5.upd (er':=180) rfl rfl rfl⟩ ?_⟩
  ·omega
  ·exact ho5.keepK (ids:=[p]) ((aZ.refl _).keepL.upd (by simp)) fun id hid hm=>by
    simp at hm; subst hm
    have:=(ho5.blk hid).1
    omega
 ·have hE:x9 most (fR T s b).2=0:=by unfold x9; rw[if_neg hmo]
  rw[hE] at hK
  refine aI9 (by omega) ?_
  (repeat refine zzC ?_)
  exact⟨h5,aZ.refl _,hK r5 h5 _ X5 qs5 ⟨hb5.mono (by omega),hs5⟩ ho5⟩
set_option maxRecDepth 8000 in
set_option maxHeartbeats 1000000 in
theorem aKB (hm:RyX ro h X p qs T most er_ s) (hT:TabR T) (hI:ScI T s) (hTl:T.entries.length≤1000) (hsz:s.steps≤90000) (hK:∀ nx',nx≤nx'→K (.int .i64 (wkS s:Nat)) h nx'):aO Tryz.prog ro oX [ptr p] h nx K:=by
 obtain⟨cv,kv,tv,ev,mv,bv,ah,hv⟩:=id hm
 have g1:=hv.g
 have hml:=hI.ok.len
 have hmv:Sl ro h mv 1 (mK qs):=hv.mv'.sub (cX h X)
 have hql:qs.length=T.entries.length:=by have:=hv.w.lq; rw[List.length_map] at this; exact this
 have hwb:∀ m∈s.ms,jY m≤1000000000:=fun m hm9=>by
  obtain⟨i,hi⟩:=List.getElem?_of_mem hm9
  have hil:=(List.getElem?_eq_some_iff.1 hi).1
  have he:T.entries[i]?=some T.entries[i]:=List.getElem?_eq_getElem (by omega)
  obtain⟨m1,m2,m3⟩:=hI.ms i _ m he hi
  have hC:=(eV (hT.ok _ (List.getElem_mem (show i < T.entries.length by omega)))).2.1
  have:=aOP m2 (by rw[m1.2]; exact hC)
  have:10*s.steps*512≤10*90000*512:=Nat.mul_le_mul_right _ (by omega)
  omega
 have hsum:∀ i,((s.ms.take i).map jY).sum≤1000000000000:=fun i=>by
  have h1:=aEv (B:=1000000000) (l:=s.ms.take i) fun m hm9=>hwb m (List.mem_of_mem_take hm9)
  have h2:(s.ms.take i).length≤1000:=by rw[List.length_take]; omega
  have:(s.ms.take i).length*1000000000≤1000*1000000000:=Nat.mul_le_mul_right _ h2
  omega
 apply aBB
 unfold xK
 have l4:=aV (ro:=ro) (z:=0) g1 (show (iQ cv kv tv ev mv most bv ah s er_)[4]?=some mv from rfl)
 have hlen:=hmv.len
 rw[nP,hql] at hlen
 refine bM (fun j e h' nx'=>∃ i:Nat,i+j=T.entries.length∧nx≤nx'∧h'=h∧e 0=ptr p∧e 3=.int .i64 (((s.ms.take i).map jY).sum:Nat)∧e 4=.int .i64 i) ?_ (n:=T.entries.length) ⟨0,by omega,by omega,rfl,rfl,rfl,rfl⟩
 rintro j e h' nx' ⟨i,hj,hnx,rfl,e0,e3,e4⟩ Q' hq hx
 unfold s7
 rw[e0,e3,e4]
 (have zz:=And.intro @aR (And.intro l4 hlen);repeat refine zzCz ?_)
 refine dS (fun hk=>?_) (fun hk=>?_)
 ·have hk:i < T.entries.length:=by omega
  have hek:T.entries[i]?=some T.entries[i]:=List.getElem?_eq_getElem hk
  have hmi:i < s.ms.length:=by omega
  have hmk:s.ms[i]?=some s.ms[i]:=List.getElem?_eq_getElem hmi
  obtain⟨q,hq9,hMW,_⟩:=hv.at hek hmk
  obtain⟨m1,m2,m3⟩:=hI.ms i _ _ hek hmk
  have hC:T.entries[i].a.counts.length≤512:=(eV (hT.ok _ (List.getElem_mem hk))).2.1
  have hql2:=(List.getElem?_eq_some_iff.1 hq9).1
  have hqe:=(List.getElem?_eq_some_iff.1 hq9).2
  have hld:=hmv.load1 (aCX hql2)
  rw[hqe] at hld
  have hst:=aJA hmi
  have hs1:=hsum (i+1)
  have hs0:=hsum i
  (have zz:=And.intro @aR l4;repeat refine zzCz ?_)
  refine aA (hmv.ix .i64 (by rw[nP]; omega)) (aA hld ?_)
  refine aJx hMW m1 hC m2 (by omega) (by omega) fun n2 hn2=>?_
  have hadd:aQ .add (.int .i64 ((((s.ms.take i).map jY).sum:Nat):Int)) (.int .i64 ((jY s.ms[i]:Nat):Int))=some (.int .i64 ((((s.ms.take (i+1)).map jY).sum:Nat):Int)):=by
   rw[cH,hst,show ((((s.ms.take i).map jY).sum:Nat):Int)+((jY s.ms[i]:Nat):Int)=((((s.ms.take i).map jY).sum+jY s.ms[i]:Nat):Int) by omega,dT (by omega) (by omega)]
  refine aA hadd ?_
  (repeat refine zzC ?_)
  exact hq (j - 1) _ _ _ _ (by omega) ⟨i+1,by omega,by omega,rfl,e0,rfl,rfl⟩ (aZ.refl _)
 ·(repeat refine zzC ?_)
  refine hx _ _ _ _ (fun e=>by cases e) (eE (dG ?_))
  obtain rfl:i=T.entries.length:=by omega
  rw[List.take_of_length_le (by omega)] at e3
  have hfin:∀ (e':dL) n',e' 3=.int .i64 (wkS s:Nat)→nx'≤n'→kP ro K e' h' n':=by
   intro e' n' d3 dn
   unfold kP
   rw[d3]
   exact⟨h',aZ.refl _,hK _ (by omega)⟩
  refine hfin _ _ e3 ?_
  omega
end
end V
end Go.Proofs.YtcaccnneblghgaaGreat
namespace Go.Proofs.YtcaccnneblghgaaGreat
namespace V
attribute [local irreducible] aB bA aW dM eR gI dH
def qP (ls:List (List Nat)):List (List Nat):=(ls.take 12).map (·.take 20)
theorem aDX (ls:List (List Nat)):(qP ls).length=min 12 ls.length:=by simp[qP]
theorem aNC {ls:List (List Nat)}{i:Nat} (hi:i < ls.length) (h12:i < 12):(qP ls)[i]?=some (ls[i].take 20):=by
 unfold qP
 rw[List.getElem?_map,List.getElem?_take_of_lt h12,List.getElem?_eq_getElem hi]; rfl
theorem aNq:∀ {l:List (List Nat)}{n:Nat},(∀ x∈l,x.length≤n)→l.flatten.length≤l.length*n
 | [],n,_=>by simp
 | x::l,n,h=>by
  rw[List.flatten_cons,List.length_append,List.length_cons,Nat.succ_mul]
  have:=h x (by simp)
  have:=aNq (l:=l) (n:=n) fun y hy=>h y (by simp[hy])
  omega
theorem aND (ls:List (List Nat)):(qP ls).flatten.length≤240:=by
 have h1:=aNq (l:=qP ls) (n:=20) fun x hx=>by
  unfold qP at hx
  obtain⟨y,_,rfl⟩:=List.mem_map.1 hx
  exact List.length_take_le ..
 have h2:=aDX ls
 have:(qP ls).length*20≤12*20:=Nat.mul_le_mul_right _ (by omega)
 omega
theorem aQb {ls:List (List Nat)} (h:∀ b∈ls,∀ x∈b,x < 256):∀ b∈qP ls,∀ x∈b,x < 256:=fun b hb x hx=>by
 unfold qP at hb
 obtain⟨y,hy,rfl⟩:=List.mem_map.1 hb
 exact h y (List.mem_of_mem_take hy) x (List.mem_of_mem_take hx)
theorem aSz (id:Nat) (o1:Option Addr) (l1 c1:Nat):b7 Tryz.prog iA id 1 [(0,.slice o1 l1 c1)]=some (.slice (some (own id 1)) 1 1,some (.cells [Value.slice o1 l1 c1].toArray bO)):=by kernel_rfl
theorem aT2:iM Tryz.prog iA=some (.slice bO):=by kernel_rfl
theorem aTZ:∃ i,tin Tryz.prog bO=some i∧i.size=1∧i.bytes=24:=yP (by kernel_rfl)
theorem aT8:nF Tryz.prog bO=some (.slice none 0 0):=by kernel_rfl
section
variable {ro:Ro}{h:T Obj}{nx:Nat}{K:KV}{X:List Nat}
set_option maxRecDepth 8000 in
set_option maxHeartbeats 1000000 in
theorem aHw {v:Value}{ls:List (List Nat)} (hv:iO ro (del h X) v 1 (RB ro (del h X)) ls) (hl:ls.length≤nJ) (hlb:∀ b∈ls,b.length≤nJ) (hX:∀ k∈X,k < nx) (hf:Fr h nx)
  (hK:∀ r h' nx',nx≤nx'→Fr h' nx'→aZ h h'→iO ro (del h' X) r 1 (RB ro (del h' X)) (qP ls)→K r h' nx'):aO Tryz.prog ro yY [v] h nx K:=by
 have hvh:=hv.sub (cX h X) (RB.sub (cX h X))
 have hvl:=hvh.len
 have hl9:ls.length≤9223372036854775807:=hl
 apply aGl
 unfold aFN
 refine aA hvl ?_
 refine bM (fun j e h' nx'=>∃ (k:Nat) (out:Value) (cs:List (List Value)),k+j=ls.length∧nx+5≤nx'∧aZ h h'∧Fr h' nx'∧e 3=out∧e 6=v∧e 7=.int .i64 ls.length∧e 8=.int .i64 k∧eD h' out 1 bO cs nx∧cs.length=min 12 k ∧
   ∀ (i:Nat) x d,cs[i]?=some x→(qP ls)[i]?=some d→RB ro (del h X) x d) ?_ (n:=ls.length) ⟨0,.slice none 0 0,[],by omega,by omega,aZ.refl _,hf.mono (by omega),rfl,rfl,rfl,rfl,eD.nil,rfl,fun i x d hx=>by simp at hx⟩
 rintro j e h' nx' ⟨k,out,cs,hj,hnx,hs,hf',e3,e6,e7,e8,ho,hcl,hcs⟩ Q' hq hx
 unfold aB8
 rw[e3,e6,e7,e8]
 refine dS (fun hk=>?_) (fun hk=>?_)
 ·have hk:k < ls.length:=by omega
  have hv2:=hvh.sub hs (RB.sub hs)
  obtain⟨w,⟨w',hw,hwl⟩,hld⟩:=hv2.at1 hk
  cases hw
  have hj2:∀ (e':dL) (h2:T Obj) (n':Nat) (out':Value) (cs':List (List Value)),e' 3=out'→e' 6=v→e' 7=.int .i64 ls.length→e' 8=.int .i64 k→nx'≤n'→aZ h h2→Fr h2 n'→eD h2 out' 1 bO cs' nx→cs'.length=min 12 (k+1) →
    (∀ (i:Nat) x d,cs'[i]?=some x→(qP ls)[i]?=some d→RB ro (del h X) x d)→rT ro Q' e' h2 n':=by
   intro e' h2 n' out' cs' d3 d6 d7 d8 dn ds df do_ dl dc
   unfold rT
   rw[d8]
   (repeat refine zzC ?_)
   exact hq (j - 1) _ _ _ _ (by omega) ⟨k+1,out',cs',by omega,by omega,ds,df.mono (by omega),d3,d6,d7,rfl,do_,dl,dc⟩ (aZ.refl _)
  (repeat refine zzC ?_)
  refine aA (hv2.ix .i64 hk) (aA hld ?_)
  by_cases h12:k < 12
  ·refine aLP (by omega) ?_
   (repeat refine zzC ?_)
   obtain⟨w2,⟨w3,hw3,hwl3⟩,hld3⟩:=hv.at1 hk
   cases hw3
   have hww:w2=w:=by
    have h9:=nO ((cX h X).trans hs) hld3
    rw[hld] at h9
    exact (Option.some.inj h9).symm
   subst hww
   have hlen:=hwl3.len
   rw[dJ] at hlen
   have hbl9:ls[k].length≤9223372036854775807:=hlb _ (List.getElem_mem hk)
   refine aA hlen (aA (aQZ _ _ _) ?_)
   have hmin:(if (20:Int) < (ls[k].length:Int) then (20:Int) else (ls[k].length:Int))=((min 20 ls[k].length:Nat):Int):=by split<;>omega
   rw[hmin]
   obtain⟨xv,hx1,hx2⟩:=Sl.take (P:=Tryz.prog) hwl3 nE aHZ (by omega) (n:=min 20 ls[k].length) (by rw[dJ]; omega) .i64
   have htk:(cC ls[k]).take (min 20 ls[k].length)=cC (ls[k].take 20):=by
    rw[List.take_eq_take_min (i:=20)]
    simp only[cC,List.map_take]
   rw[htk] at hx2
   refine aA hx1 ?_
   obtain⟨o1,m1,c1,e1⟩:=hx2.form
   obtain⟨i9,t1,t2,t3⟩:=aTZ
   refine yR (z:=1) (l:=cs) (y:=[xv]) (by rw[e1]; exact aSz _ _ _ _) rfl ho aT2 t1 (by omega) (by omega) aT8 rfl (by simp only[List.all_cons,List.all_nil,hx2.ok,Bool.and_true]) (by rw[t3]; unfold oG; omega) (by unfold oG; omega) (hf'.mono (by omega)) (by omega) (by omega) (fun e9=>by have:=hf'.lt' (ho.blk e9).2; omega) fun h5 ho5 hk5 hf5=>?_
   refine hj2 _ _ _ _ (cs++[[xv]]) rfl e6 e7 e8 ?_ ?_ ?_ ho5 ?_ ?_
   ·dsimp only; omega
   ·intro b o hb
    have hlt:=hf.lt' hb
    refine hk5 b o (hs b o hb) (by omega) fun e9=>?_
    have:=(ho.blk e9).1
    omega
   ·exact hf5.mono (by dsimp only; omega)
   ·rw[List.length_append,hcl]; show min 12 k+1=_; omega
   ·intro i x d hxi hdi
    rcases Nat.lt_or_ge i cs.length with hi | hi
    ·rw[List.getElem?_append_left hi] at hxi
     exact hcs i x d hxi hdi
    ·rw[List.getElem?_append_right hi] at hxi
     have hi0:i - cs.length=0:=by
      rcases Nat.eq_zero_or_pos (i - cs.length) with h0 | h0
      ·exact h0
      ·rw[List.getElem?_eq_none (by simp; omega)] at hxi; cases hxi
     rw[hi0] at hxi
     cases hxi
     rw[show i=k by omega,aNC hk h12] at hdi
     cases hdi
     exact⟨xv,rfl,hx2⟩
  ·refine aLO (by omega) ?_
   (repeat refine zzC ?_)
   refine hj2 _ _ _ out cs e3 e6 e7 e8 ?_ hs ?_ ho ?_ hcs
   ·omega
   ·exact hf'.mono (by omega)
   ·omega
 ·(repeat refine zzC ?_)
  refine hx _ _ _ _ (fun e=>by cases e) (eE (dG ?_))
  obtain rfl:k=ls.length:=by omega
  have hfin:∀ (e':dL) n',e' 3=out→nx'≤n'→rS ro K e' h' n':=by
   intro e' n' d3 dn
   unfold rS
   rw[d3]
   have hD:aZ (del h X) (del h' X):=eB.del (ids:=[]) hs.keepL (fun k hk=>by cases hk) fun k hk=>.inl hk
   refine⟨h',aZ.refl _,hK out h' _ (by omega) (hf'.mono (by omega)) hs ⟨cs,(ho.del fun id hid hm=>?_).sl,by rw[hcl,aDX],fun i x d hx hd=>RB.sub hD x d (hcs i x d hx hd)⟩⟩
   have:=(ho.blk hid).1
   have:=hX id hm
   omega
  refine hfin _ _ e3 ?_
  omega
end
end V
end Go.Proofs.YtcaccnneblghgaaGreat
namespace Go.Proofs.YtcaccnneblghgaaGreat
namespace V
attribute [local irreducible] aB bA aW dM eR gI dH
section
variable {T:TabD}
theorem aD6 (hT:TabR T):∀ (n:Nat) (s:ScD),ScI T s→(hJ T n s).1.length+(hJ T n s).2.kept.length≤s.kept.length
 | 0,s,h=>by show 0+s.kept.length≤_; omega
 | n+1,s,h=>by
  by_cases hk:s.kept=[]
  ·rw[aCI _ hk]; show 0+s.kept.length≤_; omega
  ·have h1:=aJS hT h hk
   rw[tL,if_neg hk]
   split
   ·have h2:=aD6 hT n _ (aNh hT h1 (by rw[tE]; exact hk))
    obtain⟨l1,l2⟩:=aAY h1.ok (by rw[tE]; exact hk)
    rw[aDi,tE] at h2
    rw[tE] at l2
    have h3:(aJg T (jQ T (dN T s).2)).length≤1:=by unfold aJg; split<;>simp
    show (aJg T (jQ T (dN T s).2)++(hJ T n (kY T (dN T s).2)).1).length+(hJ T n (kY T (dN T s).2)).2.kept.length≤_
    rw[List.length_append]
    omega
   ·show 0+(dN T s).2.kept.length≤_
    rw[tE]; omega
theorem aOd (hT:TabR T) {s:ScD} (h:ScI T s) (hcl:s.closed=false) (b:List Nat) (hb:∀ x∈b,x < 256):ScI T (fR T s b).2∧(fR T s b).2.closed=false∧(fR T s b).2.at_+(fR T s b).2.kept.length=s.at_+s.kept.length+b.length∧(fR T s b).1.length+(fR T s b).2.kept.length≤s.kept.length+b.length:=by
 obtain⟨h1,h2,h3,h4,h5,h6⟩:=aR2 hT.tok h.ok h.c hcl b
 have h7:=aD6 hT (s.kept.length+b.length) (qV s b) (aNa h hb)
 rw[aFp] at h7
 exact⟨aPw hT h hb,h3,by omega,h7⟩
end
section
variable {ro:Ro}{h:T Obj}{nx:Nat}{K:KV}{X:List Nat}{p:Nat}{qs:List oI}{T:TabD}{most:Int}{s:ScD}
end
end V
end Go.Proofs.YtcaccnneblghgaaGreat
namespace Go.Proofs.YtcaccnneblghgaaGreat
namespace V
attribute [local irreducible] aB bA aW dM eR gI dH
def fdS (T:TabD) (most er_:Int) (s:ScD) (b:List Nat):List TokD × Int × ScD × Int:=if nW er_ s.closed=0 then ((fR T s b).1,x9 most (fR T s b).2,(fR T s b).2,x9 most (fR T s b).2) else ([],nW er_ s.closed,s,er_)
def clS (T:TabD) (er_:Int) (s:ScD):List TokD × Int × ScD × Int:=if nW er_ s.closed=0 then ((oK T s).1,0,(oK T s).2,0) else ([],nW er_ s.closed,s,er_)
theorem aQi {er_:Int}{c:Bool} (h:nW er_ c=0):er_=0∧c=false:=by
 unfold nW at h
 split at h
 ·omega
 ·rename_i h9
  refine⟨h,?_⟩
  cases c with
  | false=>rfl
  | true=>exact absurd ⟨h,rfl⟩ h9
theorem aR1 {T:TabD} (hT:TabR T) {s:ScD}{most er_:Int} (h:ScI T s) (he:er_=0∨er_=180) {b:List Nat} (hb:∀ x∈b,x < 256):ScI T (fdS T most er_ s b).2.2.1∧((fdS T most er_ s b).2.2.2=0∨(fdS T most er_ s b).2.2.2=180)∧(fdS T most er_ s b).2.2.1.at_+(fdS T most er_ s b).2.2.1.kept.length≤s.at_+s.kept.length+b.length∧(fdS T most er_ s b).1.length≤s.kept.length+b.length:=by
 unfold fdS
 split
 ·rename_i h0
  obtain⟨h1,h2⟩:=aQi h0
  obtain⟨f1,f2,f3,f4⟩:=aOd hT h h2 b hb
  refine⟨f1,?_,by show (fR T s b).2.at_+(fR T s b).2.kept.length≤_; omega,by show (fR T s b).1.length≤_; omega⟩
  unfold x9
  split
  ·exact .inr rfl
  ·exact .inl rfl
 ·exact⟨h,he,by show s.at_+s.kept.length≤_; omega,by simp⟩
theorem aRS {T:TabD} (hT:TabR T) {s:ScD}{er_:Int} (h:ScI T s) (he:er_=0∨er_=180):ScI T (clS T er_ s).2.2.1∧((clS T er_ s).2.2.2=0∨(clS T er_ s).2.2.2=180)∧(clS T er_ s).2.2.1.at_+(clS T er_ s).2.2.1.kept.length≤s.at_+s.kept.length∧(clS T er_ s).1.length≤s.kept.length:=by
 unfold clS
 split
 ·obtain⟨c1,c2⟩:=aMd hT.tok h.ok h.c
  have hcc:=aD6 hT s.kept.length { s with closed:=true } (aGT h)
  have hcc:(oK T s).1.length+(oK T s).2.kept.length≤s.kept.length:=hcc
  exact⟨aRT hT h,.inl rfl,by show (oK T s).2.at_+(oK T s).2.kept.length≤_; rw[c1,c2]; simp,by show (oK T s).1.length≤_; omega⟩
 ·exact⟨h,he,Nat.le_refl _,by simp⟩
section
variable {ro:Ro}{h h':V.T Obj}{nx n1:Nat}{K:KV}{X X':List Nat}{p:Nat}{qs:List oI}{T:TabD}{most er_ er':Int}{s s':ScD}
theorem fdA {bb:Value}{b:List Nat} (hm:ScX ro h X p qs T most er_ s) (hT:TabR T) (hI:ScI T s) (hTl:T.entries.length≤1000) (hX:∀ k∈X,k < nx) (hb:Sl ro h bb 1 (cC b)) (hb2:∀ x∈b,x < 256) (hsz:s.at_+s.kept.length+b.length≤400) (hf:Fr h nx)
  (hK:∀ r h' nx',nx≤nx'→Fr h' nx'→eB (iB p qs) h h'→ScX ro h' X p qs T most (fdS T most er_ s b).2.2.2 (fdS T most er_ s b).2.2.1→eD h' r 3 a9 (iX (fdS T most er_ s b).1) nx→K (.tuple #[r,.int .i64 (fdS T most er_ s b).2.1]) h' nx'):aO Tryz.prog ro jM [ptr p,bb] h nx K:=by
 unfold fdS at hK
 by_cases h0:nW er_ s.closed=0
 ·obtain⟨rfl,h2⟩:=aQi h0
  simp only[if_pos h0] at hK
  exact aMG hm hT hI hTl h2 hX hb hb2 hsz hf hK
 ·simp only[if_neg h0] at hK
  exact aPx hm h0 fun nx' hn=>hK _ h nx' hn (hf.mono hn) (aZ.refl _).keepL hm eD.nil
theorem clA (hm:ScX ro h X p qs T most er_ s) (hT:TabR T) (hI:ScI T s) (hTl:T.entries.length≤1000) (hsz:s.at_+s.kept.length≤400) (hf:Fr h nx)
  (hK:∀ r h' nx',nx≤nx'→Fr h' nx'→eB (iB p qs) h h'→ScX ro h' X p qs T most (clS T er_ s).2.2.2 (clS T er_ s).2.2.1→eD h' r 3 a9 (iX (clS T er_ s).1) nx→K (.tuple #[r,.int .i64 (clS T er_ s).2.1]) h' nx'):aO Tryz.prog ro jA [ptr p] h nx K:=by
 unfold clS at hK
 by_cases h0:nW er_ s.closed=0
 ·obtain⟨rfl,h2⟩:=aQi h0
  simp only[if_pos h0] at hK
  exact aKH hm hT hI hTl h2 hsz hf hK
 ·simp only[if_neg h0] at hK
  exact aO2 hm h0 fun nx' hn=>hK _ h nx' hn (hf.mono hn) (aZ.refl _).keepL hm eD.nil
theorem fdW {bb:Value}{b:List Nat} (hm:RyX ro h X p qs T most er_ s) (he:er_=0∨er_=180) (hT:TabR T) (hI:ScI T s) (hTl:T.entries.length≤1000) (hX:∀ k∈X,k < nx) (hb:Sl ro h bb 1 (cC b)) (hb2:∀ x∈b,x < 256) (hsz:s.at_+s.kept.length+b.length≤400) (hf:Fr h nx)
  (hK:∀ r h' nx' X' qs',RyL ro h nx X p qs T most (fdS T most er_ s b).2.2.2 (fdS T most er_ s b).2.2.1 h' nx' X' qs'→eD h' r 3 a9 (iX (fdS T most er_ s b).1) nx→K (.tuple #[r,.int .i64 (fdS T most er_ s b).2.1]) h' nx'):aO Tryz.prog ro i8 [ptr p,bb] h nx K:=by
 unfold fdS at hK
 by_cases h0:nW er_ s.closed=0
 ·obtain⟨rfl,h2⟩:=aQi h0
  simp only[if_pos h0] at hK
  exact aJz hm hT hI hTl h2 hX hb hb2 hsz hf hK
 ·simp only[if_neg h0] at hK
  exact aNR hm he h0 fun nx' hn=>hK _ h nx' X qs ⟨RyB.refl (hf.mono hn) hn,hm⟩ eD.nil
theorem clW (hm:RyX ro h X p qs T most er_ s) (he:er_=0∨er_=180) (hT:TabR T) (hI:ScI T s) (hTl:T.entries.length≤1000) (hsz:s.at_+s.kept.length≤400) (hX:∀ k∈X,k < nx) (hf:Fr h nx)
  (hK:∀ r h' nx' X' qs',RyL ro h nx X p qs T most (clS T er_ s).2.2.2 (clS T er_ s).2.2.1 h' nx' X' qs'→eD h' r 3 a9 (iX (clS T er_ s).1) nx→K (.tuple #[r,.int .i64 (clS T er_ s).2.1]) h' nx'):aO Tryz.prog ro iH [ptr p] h nx K:=by
 unfold clS at hK
 by_cases h0:nW er_ s.closed=0
 ·obtain⟨rfl,h2⟩:=aQi h0
  simp only[if_pos h0] at hK
  exact aIM hm hT hI hTl h2 hsz hX hf hK
 ·simp only[if_neg h0] at hK
  exact aMA hm he h0 fun nx' hn=>hK _ h nx' X qs ⟨RyB.refl (hf.mono hn) hn,hm⟩ eD.nil
end
structure PI (ro:Ro) (X:List Nat) (pa:Nat) (qa:List oI) (pw:Nat) (qw:List oI) (T:TabD) (most er_:Int) (xv:Value) (xs:List (List Nat)) (h:V.T Obj) (nx:Nat) (s:ScD):Prop where
 a:ScX ro h X pa qa T most er_ s
 w:RyX ro h X pw qw T most er_ s
 x:iO ro (del h X) xv 1 (RB ro (del h X)) xs
 ii:ScI T s
 er2:er_=0∨er_=180
 dis:∀ k∈iB pa qa,k ∉ iB pw qw
 xl:∀ k∈X,k < nx
 frr:Fr h nx
section
variable {ro:Ro}{h h2 h3:V.T Obj}{nx n2 n3:Nat}{X X':List Nat}{pa pw:Nat}{qa qw qw':List oI}{T:TabD}{most er_ er':Int}{xv:Value}{xs:List (List Nat)}{s s':ScD}
theorem PI.w2 (hi:PI ro X pa qa pw qw T most er_ xv xs h nx s) (hk2:eB (iB pa qa) h h2):RyX ro h2 X pw qw T most er_ s:=hi.w.keep hk2 (fun k hk=>(hi.a.own k hk).1) hi.dis (fun k hk=>.inl hk) fun k hk=>hk
theorem PI.go (hi:PI ro X pa qa pw qw T most er_ xv xs h nx s) (hk2:eB (iB pa qa) h h2) (hf2:Fr h2 n2) (hn2:nx≤n2) (ha:ScX ro h2 X pa qa T most er' s') (hl:RyL ro h2 n2 X pw qw T most er' s' h3 n3 X' qw') (hI':ScI T s') (he:er'=0∨er'=180):PI ro X' pa qa pw qw' T most er' xv xs h3 n3 s':=by
 obtain⟨hb,hw⟩:=hl
 have hw2:=hi.w2 hk2
 have hown:∀ k∈iB pw qw,k∈X:=fun k hk=>(hw2.own k hk).1
 have hXn:∀ k∈X',k∈X∨h2.get k=none:=fun k hk=>(hb.xb k hk).imp id fun h9=>hf2 k h9.1
 have hD:=(hk2.del (fun k hk=>(hi.a.own k hk).1) fun k hk=>.inl hk:aZ (del h X) (del h2 X)).trans (hb.kp.del hown hXn)
 have hle:=hb.le
 refine⟨ha.keep hb.kp hown (fun k hk h9=>hi.dis k h9 hk) hXn hb.xs,hw,hi.x.sub hD (RB.sub hD),hI',he,fun k hk h9=>?_,fun k hk=>?_,hb.frr⟩
 ·have h8:=ha.ownLt hf2 k hk
  rcases hb.qn k h9 with h7 | h7
  ·exact hi.dis k hk h7
  ·omega
 ·rcases hb.xb k hk with h9 | h9
  ·have:=hi.xl k h9; omega
  ·omega
theorem PI.mono (hi:PI ro X pa qa pw qw T most er_ xv xs h nx s) (hn:nx≤n2):PI ro X pa qa pw qw T most er_ xv xs h n2 s:=⟨hi.a,hi.w,hi.x,hi.ii,hi.er2,hi.dis,fun k hk=>by have:=hi.xl k hk; omega,hi.frr.mono hn⟩
end
end V
end Go.Proofs.YtcaccnneblghgaaGreat
namespace Go.Proofs.YtcaccnneblghgaaGreat
namespace V
abbrev b0:Value:=.int .u8 0
abbrev b1:Value:=.int .u8 1
abbrev j0:Value:=.int .i64 0
abbrev jm:Value:=.int .i64 (-1)
abbrev s0:Value:=.slice none 0 0
def aS (o:Obj):T Obj:=.n .e (some o) .e
def aN (x:T Obj):T Obj:=.n x none .e
def aD (x:T Obj):T Obj:=.n .e none x
def aU (x y:T Obj):T Obj:=.n x none y
def kTn (x:T Obj) (o:Obj) (y:T Obj):T Obj:=.n x (some o) y
set_option maxRecDepth 1000000
def kO0:Obj:=.cells ⟨[.slice (some ⟨1009,0,(some 1)⟩) 1 1,.bool false,.bool false,.string ⟨⟨[65]⟩⟩,jm,.int .i64 11,.slice (some ⟨1706,0,(some 9)⟩) 2 2]⟩ 90
def eN:Obj:=.cells ⟨[j0]⟩ 3
def kO2:Obj:=.cells ⟨[.string ⟨⟨[115,116,97,114,116]⟩⟩]⟩ 9
def kO3:Obj:=.cells ⟨[.int .u8 2,.int .u64 0,.int .u64 8589934592,.int .u64 0,.int .u64 0,s0,j0,j0,.string ⟨⟨[]⟩⟩,.int .u8 5,.int .u64 0,.int .u64 0,.int .u64 0,.int .u64 0,.slice (some ⟨1688,0,(some 1)⟩) 1 1,.int .i64 1,jm,.string ⟨⟨[]⟩⟩]⟩ 86
def kV4:List Value:=[.string ⟨⟨[114,117,108,101,32,42,32,45,32,65,32,97,43]⟩⟩]
def kV5:Value:=.tuple ⟨[.agg ⟨[.slice (some ⟨8,0,(some 1)⟩) 1 1,s0,.slice (some ⟨1915,0,(some 7)⟩) 1 1]⟩,j0,j0]⟩
def wI:Cp where
 f:=aHu
 args:=kV4
 h:=.e
 nx:=2
 v:=kV5
 h':=aU (aU (aD (aD (aD (aD (aD (aN (aD (aD (aS kO0))))))))) (aN (aN (aD (aD (aD (aD (aD (aS eN))))))))) (aU (aN (kTn .e kO2 (aD (aN (aN (aD (aN (aD (aS eN))))))))) (aN (aD (aN (aD (aN (aD (aN (aD (aS kO3))))))))))
 nx':=2425
theorem lC:wA Tryz.prog wI:=xZ mY (l:=[]) mS (k:=200) fun ro=>by kernel_rfl
end V
end Go.Proofs.YtcaccnneblghgaaGreat
namespace Go.Proofs.YtcaccnneblghgaaGreat
namespace V
set_option maxRecDepth 1000000
def oH:Obj:=.cells ⟨[.slice (some ⟨8,0,(some 1)⟩) 1 1,s0,.slice (some ⟨1915,0,(some 7)⟩) 1 1]⟩ 26
def kO7:Obj:=.cells ⟨[s0,s0,s0,s0]⟩ 34
def kV8:List Value:=[.agg ⟨[.slice (some ⟨8,0,(some 1)⟩) 1 1,s0,.slice (some ⟨1915,0,(some 7)⟩) 1 1]⟩]
def aAh:Cp where
 f:=aHv
 args:=kV8
 h:=aU (aU (aD (aU (aN (aN (aN (aD (aD (aN (aN (aS oH)))))))) (aD (aD (aD (aN (aD (aD (aS kO0))))))))) (aU (aN (aD (aD (aD (aD (aD (aS eN))))))) (aD (aD (aD (aD (aN (aD (aN (aN (aS oH))))))))))) (aU (aU (kTn .e kO2 (aD (aN (aN (aD (aN (aD (aS eN)))))))) (aN (aN (aN (aN (aD (aD (aN (aN (aS kO7)))))))))) (aN (aD (aN (aD (aN (aD (aN (aD (aS kO3))))))))))
 nx:=2441
 v:=.bool true
 h':=aU (aU (aD (aU (aN (aN (aN (aD (aD (aN (aN (aS oH)))))))) (aD (aD (aD (aN (aD (aD (aS kO0))))))))) (aU (aN (aD (aD (aD (aD (aD (aS eN))))))) (aD (aD (aD (aD (aN (aD (aN (aN (aS oH))))))))))) (aU (aU (kTn .e kO2 (aD (aN (aN (aD (aN (aD (aS eN)))))))) (aN (aN (aN (aN (aD (aD (aN (aN (aS kO7)))))))))) (aN (aD (aN (aD (aN (aD (aN (aD (aS kO3))))))))))
 nx':=3274
theorem oL:wA Tryz.prog aAh:=xZ mY (l:=[wI]) (bV lC mS) (k:=200) fun ro=>by kernel_rfl
end V
end Go.Proofs.YtcaccnneblghgaaGreat