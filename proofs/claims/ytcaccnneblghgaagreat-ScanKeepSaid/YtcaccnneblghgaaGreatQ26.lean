/- Texts laid one behind the other: SR, ST, SU, SV, SW, YA, S1, S3, S4, S5, GT, S2, S6, S7, S8, S9, T0, T2, T3, TD, K1, K2, K3, K4, K5, K6, K7, K8, K9, KA.
   No condition. -/
import Derived.KernelRfl
import Derived.Test.YtcaccnneblghgaaGreatQ25
set_option linter.unusedVariables false
set_option linter.unusedSimpArgs false
namespace Go.Proofs.YtcaccnneblghgaaGreat
namespace V
attribute [local irreducible] aB ifP aS cS eT exP cM
section
variable {ro:Ro} {h:T Obj} {nx:Nat} {K:KV}
set_option maxRecDepth 8000 in
theorem aGN {lv rv uv nv xrv:Value} {s:StateD} {x:List Value} {rules:List Int} {i1:Nat} (hne:s.rule≠[]) (hsl:s.rule.length≤1000000) (hf:Fr h nx) (g1:h.get i1=some (.cells x.toArray cK)) (m1:x[259]?=some xrv) (hrl:Sl ro h xrv 1 (kC rules)) (hru:rules.length≤kO) (hu:ZI ro h uv s.rule)
  (hK:∀ nx',nx≤nx'→K (.bool (s.rule.any fun r=>decide ((rules.length:Int)≤r))) h nx'):aN Tryz.prog ro vR [.agg #[lv,rv,uv,nv],ptr i1] h nx K:=by
 have hru:rules.length≤9223372036854775807:=hru
 apply aEr
 unfold aDf
 refine eE hf (Nat.le_refl _) fun h1 hs1 hf1 g3 _=>?_
 have g3:h1.get nx=some (.cells [lv,rv,uv,nv].toArray a9):=g3
 have m2:[lv,rv,uv,nv][2]?=some uv:=rfl
 have g1':=hs1 _ _ g1
 have hlen:=(hrl.sub hs1).len
 rw [eM] at hlen
 (repeat(first|refine aA (by simp (disch:=first|omega|exact nnN _|assumption) only [BB,B2,↓reduceIte,Nat.reduceLeDiff,Nat.reduceAdd,CC]<;>rfl) ?_|apply aD|apply aE|with_reducible first|apply aG|apply aF|apply aK|apply aH|apply aJ|apply aI|apply aL|apply aC))
 refine aA (aU g3 m2) ?_
 cases hq:s.rule with
 | nil=>exact absurd hq hne
 | cons y r =>
  rw [hq] at hsl
  have hu1:Sl ro h1 uv 1 (kC (y::r)):=by rw [← hq]; exact (hu.sub hs1:ZI ro h1 uv s.rule)
  refine aGq (by rw [List.length_cons] at hsl; omega) hu1 fun n2 hn2=>?_
  have hany:(s.rule.any fun r=>decide ((rules.length:Int)≤r))=decide ((rules.length:Int)≤r.foldl max y):=by
   rw [hq,List.any_cons,aHc]
  rw [hany] at hK
  (repeat(first|refine aA (by simp (disch:=first|omega|exact nnN _|assumption) only [BB,B2,↓reduceIte,Nat.reduceLeDiff,Nat.reduceAdd,CC]<;>rfl) ?_|apply aD|apply aE|with_reducible first|apply aG|apply aF|apply aK|apply aH|apply aJ|apply aI|apply aL|apply aC))
  refine aA (aU g1' m1) ⟨fN g1' g1',aA hlen ?_⟩
  by_cases hc:(rules.length:Int)≤r.foldl max y
  ·rw [decide_eq_true hc] at hK
   (repeat(first|refine aA (by simp (disch:=first|omega|exact nnN _|assumption) only [BB,B2,↓reduceIte,Nat.reduceLeDiff,Nat.reduceAdd,CC]<;>rfl) ?_|apply aD|apply aE|with_reducible first|apply aG|apply aF|apply aK|apply aH|apply aJ|apply aI|apply aL|apply aC))
   exact ⟨h,hs1,hK _ (by omega)⟩
  ·rw [decide_eq_false hc] at hK
   (repeat(first|refine aA (by simp (disch:=first|omega|exact nnN _|assumption) only [BB,B2,↓reduceIte,Nat.reduceLeDiff,Nat.reduceAdd,CC]<;>rfl) ?_|apply aD|apply aE|with_reducible first|apply aG|apply aF|apply aK|apply aH|apply aJ|apply aI|apply aL|apply aC))
   exact ⟨h,hs1,hK _ (by omega)⟩
theorem aJy {m:Nat} (h:m≤3):jU (m:Int)≤27:=by
 have:m=0∨m=1∨m=2∨m=3:=by omega
 rcases this with rfl | rfl | rfl | rfl<;>decide
theorem aOx {m:Nat} (h:m≤3):1≤jU (m:Int):=by
 have:m=0∨m=1∨m=2∨m=3:=by omega
 rcases this with rfl | rfl | rfl | rfl<;>decide
theorem aFr {α:Type} {p q:α→Bool}:∀ {l:List α},(∀ x∈l,q x=!p x)→l.all p=!(l.any q)
 | [],_=>rfl
 | y::l,hpq=>by
  rw [List.all_cons,List.any_cons,hpq y (by simp),aFr fun x hx=>hpq x (by simp [hx])]
  cases p y<;>simp
set_option maxRecDepth 8000 in
set_option maxHeartbeats 1000000 in
theorem aJK {x:List Value} {e:EntD} {many:Nat} (hmb:many≤1000000) (hf:Fr h nx) (hd:uN ro h x e) (hK:∀ nx',nx≤nx'→K (.bool (lE many e)) h nx'):aN Tryz.prog ro aA4 [.agg x.toArray,.int .i64 (many:Int)] h nx K:=by
 obtain ⟨cv,sv,rv,hxe,c258,c259,htk,hA,hS,hSl,hR,hRl⟩:=hd.cells
 have hRl9:e.rules.length≤9223372036854775807:=hRl
 have hcl:e.a.c.length=256:=by obtain ⟨_,_,_,hc,_⟩:=id hA; exact hc
 apply aHg
 unfold aHf
 refine eE hf (Nat.le_refl _) fun h1 hs1 hf1 g1 _=>?_
 have g1:h1.get nx=some (.cells x.toArray cK):=g1
 have hR1:=hR.sub hs1
 have hlen:=hR1.len
 rw [eM] at hlen
 (repeat(first|refine aA (by simp (disch:=first|omega|exact nnN _|assumption) only [BB,B2,↓reduceIte,Nat.reduceLeDiff,Nat.reduceAdd,CC]<;>rfl) ?_|apply aD|apply aE|with_reducible first|apply aG|apply aF|apply aK|apply aH|apply aJ|apply aI|apply aL|apply aC))
 refine aA (aU g1 c259) (aA hlen ?_)
 refine bA (fun j ev h' nx'=>∃ (k:Nat) (la:Int),k+j=e.rules.length∧nx+1≤nx'∧h'=h1∧ev 1=.int .i64 (many:Int)∧ev 2=ptr nx∧ev 5=.int .i64 la∧ev 9=rv∧ev 10=.int .i64 e.rules.length∧ev 11=.int .i64 k∧rz (-1) many e.rules=rz la many (e.rules.drop k)) ?_ (n:=e.rules.length)
  ⟨0,-1,by omega,by omega,rfl,rfl,rfl,rfl,rfl,rfl,rfl,rfl⟩
 rintro j ev h' nx' ⟨k,la,hj,hnx,rfl,e1,e2,e5,e9,e10,e11,hr⟩ Q' hq hx
 unfold aCT
 rw [e1,e5,e9,e10,e11]
 refine cU (fun hk=>?_) (fun hk=>?_)
 ·have hk:k < e.rules.length:=by omega
  have hix:=hR1.ix .i64 (i:=k) (by rw [eM]; exact hk)
  have hld:=hR1.load1 (jX (l:=e.rules) (i:=k) hk)
  rw [bT hk] at hr
  generalize e.rules[k]=y at hr hld
  have hr:rz (-1) many e.rules=(decide (la < y)&&(decide (y < many)&&rz y many (e.rules.drop (k+1)))):=hr
  have hno:rz (-1) many e.rules=false→∀ n',nx≤n'→∃ h9,Sub h9 h'∧K (.bool false) h9 n':=fun hz n' hn=>⟨h,hs1,by
   have:lE many e=false:=by unfold lE; rw [hz]; rfl
   rw [← this]; exact hK _ hn⟩
  by_cases c1:y≤la
  ·rw [decide_eq_false (show ¬la < y by omega),Bool.false_and] at hr
   (repeat(first|refine aA (by simp (disch:=first|omega|exact nnN _|assumption) only [BB,B2,↓reduceIte,Nat.reduceLeDiff,Nat.reduceAdd,CC,hix,hld]<;>rfl) ?_|apply aD|apply aE|with_reducible first|apply aG|apply aF|apply aK|apply aH|apply aJ|apply aI|apply aL|apply aC))
   refine hx _ _ _ _ (fun e=>by cases e) (eW ?_)
   exact hno hr _ (by omega)
  ·rw [decide_eq_true (show la < y by omega),Bool.true_and] at hr
   by_cases c2:(many:Int)≤y
   ·rw [decide_eq_false (show ¬y < (many:Int) by omega),Bool.false_and] at hr
    (repeat(first|refine aA (by simp (disch:=first|omega|exact nnN _|assumption) only [BB,B2,↓reduceIte,Nat.reduceLeDiff,Nat.reduceAdd,CC,hix,hld]<;>rfl) ?_|apply aD|apply aE|with_reducible first|apply aG|apply aF|apply aK|apply aH|apply aJ|apply aI|apply aL|apply aC))
    refine hx _ _ _ _ (fun e=>by cases e) (eW ?_)
    exact hno hr _ (by omega)
   ·rw [decide_eq_true (show y < (many:Int) by omega),Bool.true_and] at hr
    (repeat(first|refine aA (by simp (disch:=first|omega|exact nnN _|assumption) only [BB,B2,↓reduceIte,Nat.reduceLeDiff,Nat.reduceAdd,CC,hix,hld]<;>rfl) ?_|apply aD|apply aE|with_reducible first|apply aG|apply aF|apply aK|apply aH|apply aJ|apply aI|apply aL|apply aC))
    exact hq (j - 1) _ _ _ _ (by omega) ⟨k+1,y,by omega,by omega,rfl,e1,e2,rfl,e9,e10,rfl,hr⟩ (Sub.refl _)
 ·have hr1:rz (-1) many e.rules=true:=by rw [hr,List.drop_of_length_le (by omega)]; rfl
  have hfit:lE many e=(fE e.a&&e.a.states.all fun s=>s.rule.all fun r=>decide (r < e.rules.length)):=by unfold lE; rw [hr1,Bool.true_and]
  (repeat(first|refine aA (by simp (disch:=first|omega|exact nnN _|assumption) only [BB,B2,↓reduceIte,Nat.reduceLeDiff,Nat.reduceAdd,CC]<;>rfl) ?_|apply aD|apply aE|with_reducible first|apply aG|apply aF|apply aK|apply aH|apply aJ|apply aI|apply aL|apply aC))
  refine hx _ _ _ _ (fun e=>by cases e) (d4 (cO ?_))
  have hend:∀ (ev':Env) n',nx+1≤n'→ev' 2=ptr nx→tK ro K ev' h' n':=by
   intro ev' n' hn f2
   unfold tK
   rw [f2]
   have hld:loadA ro h' 259 (at_ nx 0 0)=some (.agg (dW e.a.c e.a.many cv sv).toArray):=by
    rw [bZ,g1,bF]
    simp only [Option.bind_some,tl]
    rw [if_pos (by rw [hd.len]; omega),List.drop_zero,htk]
   (repeat(first|refine aA (by simp (disch:=first|omega|exact nnN _|assumption) only [BB,B2,↓reduceIte,Nat.reduceLeDiff,Nat.reduceAdd,CC]<;>rfl) ?_|apply aD|apply aE|with_reducible first|apply aG|apply aF|apply aK|apply aH|apply aJ|apply aI|apply aL|apply aC))
   refine aA hld ?_
   refine aAn (hf1.mono (by omega)) (hA.sub hs1) fun n2 hn2=>?_
   cases hok:fE e.a with
   | false =>
    rw [hok,Bool.false_and] at hfit
    (repeat(first|refine aA (by simp (disch:=first|omega|exact nnN _|assumption) only [BB,B2,↓reduceIte,Nat.reduceLeDiff,Nat.reduceAdd,CC]<;>rfl) ?_|apply aD|apply aE|with_reducible first|apply aG|apply aF|apply aK|apply aH|apply aJ|apply aI|apply aL|apply aC))
    refine ⟨h,hs1,?_⟩
    rw [← hfit]; exact hK _ (by omega)
   | true =>
    rw [hok,Bool.true_and] at hfit
    obtain ⟨_,_,_,k4,_,k6⟩:=fR hok
    (repeat(first|refine aA (by simp (disch:=first|omega|exact nnN _|assumption) only [BB,B2,↓reduceIte,Nat.reduceLeDiff,Nat.reduceAdd,CC]<;>rfl) ?_|apply aD|apply aE|with_reducible first|apply aG|apply aF|apply aK|apply aH|apply aJ|apply aI|apply aL|apply aC))
    refine aA (aU g1 c258) ?_
    refine qA (q:=fun s=>s.rule.any fun r=>decide ((e.rules.length:Int)≤r)) (by omega) (hS.sub hs1 (eC.sub hs1)) (fun i hi y n' K' hy hn' hk'=>?_) fun n' hn'=>?_
    ·obtain ⟨lv,rv',uv,nv,rfl,w1,w2,w3,w4,w5⟩:=hy
     have hso:=k6 _ (List.getElem_mem hi)
     obtain ⟨p1,p2,p3,p4,p5⟩:=qB hso
     have hcd:=aJy p1
     exact aGN (fun e9=>by have:=aOx p1; rw [e9] at p2; have p2:(0:Int)=_:=p2; omega) (by omega) (hf1.mono (by omega)) g1 c259 hR1 hRl w3 hk'
    ·have hall:(e.a.states.all fun s=>s.rule.all fun r=>decide (r < (e.rules.length:Int)))=!(e.a.states.any fun s=>s.rule.any fun r=>decide ((e.rules.length:Int)≤r)):=aFr fun s _=>by
      rw [aFr (q:=fun r=>decide ((e.rules.length:Int)≤r)) fun r _=>by
       by_cases h9:r < (e.rules.length:Int)
       ·rw [decide_eq_true h9,decide_eq_false (by omega)]; rfl
       ·rw [decide_eq_false h9,decide_eq_true (by omega)]; rfl]
      simp
     rw [hall] at hfit
     (repeat(first|refine aA (by simp (disch:=first|omega|exact nnN _|assumption) only [BB,B2,↓reduceIte,Nat.reduceLeDiff,Nat.reduceAdd,CC]<;>rfl) ?_|apply aD|apply aE|with_reducible first|apply aG|apply aF|apply aK|apply aH|apply aJ|apply aI|apply aL|apply aC))
     refine ⟨h,hs1,?_⟩
     rw [← hfit]; exact hK _ (by omega)
  exact hend _ _ (by omega) e2
end
end V
end Go.Proofs.YtcaccnneblghgaaGreat
namespace Go.Proofs.YtcaccnneblghgaaGreat
namespace V
attribute [local irreducible] aB ifP aS cS eT exP cM
section
variable {ro:Ro} {h:T Obj} {nx:Nat} {K:KV}
set_option maxRecDepth 8000 in
set_option maxHeartbeats 2000000 in
theorem aGh {x:List Value} {e:EntD} {many:Nat} (hmb:many≤1000000) (hf:Fr h nx) (hd:uN ro h x e) (hK:∀ nx',nx≤nx'→K (.bool (lE many e)) h nx'):aN Tryz.prog ro vV [.agg x.toArray,.int .i64 (many:Int)] h nx K:=by
 obtain ⟨cv,sv,rv,hxe,c258,c259,htk,hA,hS,hSl,hR,hRl⟩:=hd.cells
 have hRl9:e.rules.length≤9223372036854775807:=hRl
 have hcl:e.a.c.length=256:=by obtain ⟨_,_,_,hc,_⟩:=id hA; exact hc
 apply aFH
 unfold aEP
 refine eE hf (Nat.le_refl _) fun h1 hs1 hf1 g1 _=>?_
 have g1:h1.get nx=some (.cells x.toArray cK):=g1
 have hld:loadA ro h1 259 (at_ nx 0 0)=some (.agg (dW e.a.c e.a.many cv sv).toArray):=by
  rw [bZ,g1,bF]
  simp only [Option.bind_some,tl]
  rw [if_pos (by rw [hd.len]; omega),List.drop_zero,htk]
 have hR1:=hR.sub hs1
 have hS1:=hS.sub hs1 (eC.sub hs1)
 have hlen:=hR1.len
 rw [eM] at hlen
 have hSlen:=hS1.len
 have l259:=aU (ro:=ro) (z:=0) g1 c259
 have l258:=aU (ro:=ro) (z:=0) g1 c258
 (repeat(first|refine aA (by simp (disch:=first|omega|exact nnN _|assumption) only [BB,B2,↓reduceIte,Nat.reduceLeDiff,Nat.reduceAdd,CC]<;>rfl) ?_|apply aD|apply aE|with_reducible first|apply aG|apply aF|apply aK|apply aH|apply aJ|apply aI|apply aL|apply aC))
 refine aA hld ?_
 refine aFD (hf1.mono (by omega)) (hA.sub hs1) fun n2 hn2=>?_
 have hno:lE many e=false→∀ n',nx≤n'→∃ h9,Sub h9 h1∧K (.bool false) h9 n':=fun hz n' hn=>⟨h,hs1,by rw [← hz]; exact hK _ hn⟩
 cases hok:fE e.a with
 | false =>
  (repeat(first|refine aA (by simp (disch:=first|omega|exact nnN _|assumption) only [BB,B2,↓reduceIte,Nat.reduceLeDiff,Nat.reduceAdd,CC]<;>rfl) ?_|apply aD|apply aE|with_reducible first|apply aG|apply aF|apply aK|apply aH|apply aJ|apply aI|apply aL|apply aC))
  exact hno (by unfold lE; rw [hok]; simp) _ (by omega)
 | true =>
  obtain ⟨_,_,_,k4,_,k6⟩:=fR hok
  (repeat(first|refine aA (by simp (disch:=first|omega|exact nnN _|assumption) only [BB,B2,↓reduceIte,Nat.reduceLeDiff,Nat.reduceAdd,CC]<;>rfl) ?_|apply aD|apply aE|with_reducible first|apply aG|apply aF|apply aK|apply aH|apply aJ|apply aI|apply aL|apply aC))
  refine bA (fun j ev h' nx'=>∃ (k:Nat) (la:Int),k+j=e.rules.length∧nx+1≤nx'∧h'=h1∧ev 1=.int .i64 (many:Int)∧ev 2=ptr nx∧ev 5=.int .i64 k∧-1≤la∧(∀ (hk:0 < k),∃ hl:k - 1 < e.rules.length,e.rules[k - 1]=la∧0≤la)∧(k=0→la=-1)∧rz (-1) many e.rules=rz la many (e.rules.drop k)) ?_ (n:=e.rules.length)
   ⟨0,-1,by omega,by omega,rfl,rfl,rfl,rfl,by omega,fun hk=>by omega,fun _=>rfl,rfl⟩
  rintro j ev h' nx' ⟨k,la,hj,hnx,rfl,e1,e2,e5,hla,hprev,hla0,hr⟩ Q' hq hx
  unfold aAJ
  rw [e1,e2,e5]
  (repeat(first|refine aA (by simp (disch:=first|omega|exact nnN _|assumption) only [BB,B2,↓reduceIte,Nat.reduceLeDiff,Nat.reduceAdd,CC]<;>rfl) ?_|apply aD|apply aE|with_reducible first|apply aG|apply aF|apply aK|apply aH|apply aJ|apply aI|apply aL|apply aC))
  refine aA l259 (aA hlen ?_)
  refine cU (fun hk=>?_) (fun hk=>?_)
  ·have hk:k < e.rules.length:=by omega
   have hix:=hR1.ix .i64 (i:=k) (by rw [eM]; exact hk)
   have hldk:=hR1.load1 (jX (l:=e.rules) (i:=k) hk)
   rw [bT hk] at hr
   have hyk:e.rules[k]=e.rules[k]:=rfl
   generalize hy:e.rules[k]=y at hr hldk
   have hr:rz (-1) many e.rules=(decide (la < y)&&(decide (y < many)&&rz y many (e.rules.drop (k+1)))):=hr
   have hbad:rz (-1) many e.rules=false→∀ n',nx≤n'→∃ h9,Sub h9 h'∧K (.bool false) h9 n':=fun hz n' hn=>hno (by unfold lE; rw [hz]; rfl) n' hn
   by_cases c1:y < 0
   ·have hz:rz (-1) many e.rules=false:=by
     by_cases c2:la < y
     ·by_cases hk0:k=0
      ·have:=hla0 hk0; omega
      ·obtain ⟨_,_,h0⟩:=hprev (by omega); omega
     ·rw [hr,decide_eq_false c2]; rfl
    (repeat(first|refine aA (by simp (disch:=first|omega|exact nnN _|assumption) only [BB,B2,↓reduceIte,Nat.reduceLeDiff,Nat.reduceAdd,CC,l259,hix,hldk]<;>rfl) ?_|apply aD|apply aE|with_reducible first|apply aG|apply aF|apply aK|apply aH|apply aJ|apply aI|apply aL|apply aC))
    refine hx _ _ _ _ (fun e=>by cases e) (eW ?_)
    exact hbad hz _ (by omega)
   ·by_cases c2:(many:Int)≤y
    ·have hz:rz (-1) many e.rules=false:=by rw [hr,decide_eq_false (show ¬y < (many:Int) by omega)]; simp
     (repeat(first|refine aA (by simp (disch:=first|omega|exact nnN _|assumption) only [BB,B2,↓reduceIte,Nat.reduceLeDiff,Nat.reduceAdd,CC,l259,hix,hldk]<;>rfl) ?_|apply aD|apply aE|with_reducible first|apply aG|apply aF|apply aK|apply aH|apply aJ|apply aI|apply aL|apply aC))
     refine hx _ _ _ _ (fun e=>by cases e) (eW ?_)
     exact hbad hz _ (by omega)
    ·by_cases hk0:k=0
     ·have hl0:=hla0 hk0
      rw [decide_eq_true (show la < y by omega),decide_eq_true (show y < (many:Int) by omega),Bool.true_and,Bool.true_and] at hr
      (repeat(first|refine aA (by simp (disch:=first|omega|exact nnN _|assumption) only [BB,B2,↓reduceIte,Nat.reduceLeDiff,Nat.reduceAdd,CC,l259,hix,hldk]<;>rfl) ?_|apply aD|apply aE|with_reducible first|apply aG|apply aF|apply aK|apply aH|apply aJ|apply aI|apply aL|apply aC))
      exact hq (j - 1) _ _ _ _ (by omega) ⟨k+1,y,by omega,by omega,rfl,e1,e2,rfl,by omega,fun _=>⟨by omega,by show e.rules[k]=y; exact hy,by omega⟩,fun h9=>by omega,hr⟩ (Sub.refl _)
     ·obtain ⟨hkl,hp1,hp0⟩:=hprev (by omega)
      have hixp:=hR1.ix .i64 (i:=k - 1) (by rw [eM]; exact hkl)
      have hldp:=hR1.load1 (jX (l:=e.rules) (i:=k - 1) hkl)
      rw [hp1] at hldp
      rw [show ((k - 1:Nat):Int)=(k:Int) - 1 by omega] at hixp
      by_cases c3:y≤la
      ·have hz:rz (-1) many e.rules=false:=by rw [hr,decide_eq_false (show ¬la < y by omega)]; rfl
       (repeat(first|refine aA (by simp (disch:=first|omega|exact nnN _|assumption) only [BB,B2,↓reduceIte,Nat.reduceLeDiff,Nat.reduceAdd,CC,l259,hix,hldk,hixp,hldp]<;>rfl) ?_|apply aD|apply aE|with_reducible first|apply aG|apply aF|apply aK|apply aH|apply aJ|apply aI|apply aL|apply aC))
       refine hx _ _ _ _ (fun e=>by cases e) (eW ?_)
       exact hbad hz _ (by omega)
      ·rw [decide_eq_true (show la < y by omega),decide_eq_true (show y < (many:Int) by omega),Bool.true_and,Bool.true_and] at hr
       (repeat(first|refine aA (by simp (disch:=first|omega|exact nnN _|assumption) only [BB,B2,↓reduceIte,Nat.reduceLeDiff,Nat.reduceAdd,CC,l259,hix,hldk,hixp,hldp]<;>rfl) ?_|apply aD|apply aE|with_reducible first|apply aG|apply aF|apply aK|apply aH|apply aJ|apply aI|apply aL|apply aC))
       exact hq (j - 1) _ _ _ _ (by omega) ⟨k+1,y,by omega,by omega,rfl,e1,e2,rfl,by omega,fun _=>⟨by omega,by show e.rules[k]=y; exact hy,by omega⟩,fun h9=>by omega,hr⟩ (Sub.refl _)
  ·have hr1:rz (-1) many e.rules=true:=by rw [hr,List.drop_of_length_le (by omega)]; rfl
   have hfit:lE many e=(e.a.states.all fun s=>s.rule.all fun r=>decide (r < e.rules.length)):=by unfold lE; rw [hr1,hok]; rfl
   (repeat(first|refine aA (by simp (disch:=first|omega|exact nnN _|assumption) only [BB,B2,↓reduceIte,Nat.reduceLeDiff,Nat.reduceAdd,CC]<;>rfl) ?_|apply aD|apply aE|with_reducible first|apply aG|apply aF|apply aK|apply aH|apply aJ|apply aI|apply aL|apply aC))
   refine hx _ _ _ _ (fun e=>by cases e) (d4 (cO ?_))
   have key:∀ (ev':Env) n',nx+1≤n'→ev' 2=ptr nx→pI ro K ev' h' n':=by
    intro ev' n' hn f2
    unfold pI
    generalize hB:(e.a.states.all fun s=>s.rule.all fun r=>decide (r < (e.rules.length:Int)))=B at hfit
    refine bA (fun j e0 h'' nx2=>∃ (k:Nat),k+j=e.a.states.length∧nx+1≤nx2∧h''=h'∧e0 2=ptr nx∧e0 6=.int .i64 k∧((e.a.states.drop k).all fun s=>s.rule.all fun r=>decide (r < (e.rules.length:Int)))=B) ?_ (n:=e.a.states.length)
     ⟨0,by omega,by omega,rfl,f2,rfl,hB⟩
    rintro j2 e0 h'' nx2 ⟨k2,hj2,hnx2,rfl,f2,f6,hr2⟩ Q2 hq2 hx2
    unfold aAH
    rw [f2,f6]
    (repeat(first|refine aA (by simp (disch:=first|omega|exact nnN _|assumption) only [BB,B2,↓reduceIte,Nat.reduceLeDiff,Nat.reduceAdd,CC]<;>rfl) ?_|apply aD|apply aE|with_reducible first|apply aG|apply aF|apply aK|apply aH|apply aJ|apply aI|apply aL|apply aC))
    refine aA l258 (aA hSlen ?_)
    refine cU (fun hk2=>?_) (fun hk2=>?_)
    ·have hk2:k2 < e.a.states.length:=by omega
     rw [bT hk2,List.all_cons] at hr2
     have six:=hS1.ix .i64 hk2
     obtain ⟨y,hy1,hy2,hy3,hy4,hy5⟩:=hS1.at hk2
     have hso:=k6 _ (List.getElem_mem hk2)
     generalize e.a.states[k2]=st at hr2 hy1 hso
     obtain ⟨lv,rv',uv,nv,rfl,w1,w2,w3,w4,w5⟩:=hy1
     obtain ⟨p1,p2,p3,p4,p5⟩:=qB hso
     have hcd:=aJy p1
     have y2:=hy5 2 uv rfl
     have y2p:=hy4 2
     have w3:Sl ro h'' uv 1 (kC st.rule):=w3
     have ulen:=w3.len
     rw [eM] at ulen
     (repeat(first|refine aA (by simp (disch:=first|omega|exact nnN _|assumption) only [BB,B2,↓reduceIte,Nat.reduceLeDiff,Nat.reduceAdd,CC]<;>rfl) ?_|apply aD|apply aE|with_reducible first|apply aG|apply aF|apply aK|apply aH|apply aJ|apply aI|apply aL|apply aC))
     generalize hB2:(st.rule.all fun r=>decide (r < (e.rules.length:Int)))=Bq at hr2
     refine bA (fun j3 e3 h3 nx3=>∃ (k3:Nat),k3+j3=st.rule.length∧nx+1≤nx3∧h3=h''∧e3 2=ptr nx∧e3 6=.int .i64 k2∧e3 7=.int .i64 k3∧((st.rule.drop k3).all fun r=>decide (r < (e.rules.length:Int)))=Bq) ?_ (n:=st.rule.length)
      ⟨0,by omega,by omega,rfl,f2,f6,rfl,hB2⟩
     rintro j3 e3 h3 nx3 ⟨k3,hj3,hnx3,rfl,f2,f6,f7,hr3⟩ Q3 hq3 hx3
     unfold aAI
     rw [f2,f6,f7]
     (repeat(first|refine aA (by simp (disch:=first|omega|exact nnN _|assumption) only [BB,B2,↓reduceIte,Nat.reduceLeDiff,Nat.reduceAdd,CC,six,y2p]<;>rfl) ?_|apply aD|apply aE|with_reducible first|apply aG|apply aF|apply aK|apply aH|apply aJ|apply aI|apply aL|apply aC))
     refine aA l258 ?_
     (repeat(first|refine aA (by simp (disch:=first|omega|exact nnN _|assumption) only [BB,B2,↓reduceIte,Nat.reduceLeDiff,Nat.reduceAdd,CC,six,y2p]<;>rfl) ?_|apply aD|apply aE|with_reducible first|apply aG|apply aF|apply aK|apply aH|apply aJ|apply aI|apply aL|apply aC))
     refine aA y2 (aA ulen ?_)
     refine cU (fun hk3=>?_) (fun hk3=>?_)
     ·have hk3:k3 < st.rule.length:=by omega
      have uix:=w3.ix .i64 (i:=k3) (by rw [eM]; exact hk3)
      have uld:=w3.load1 (jX (l:=st.rule) (i:=k3) hk3)
      rw [bT hk3,List.all_cons] at hr3
      generalize st.rule[k3]=u at hr3 uld
      have hcount:∀ b:Bool,decide (u < (e.rules.length:Int))=b→True:=fun _ _=>trivial
      (repeat(first|refine aA (by simp (disch:=first|omega|exact nnN _|assumption) only [BB,B2,↓reduceIte,Nat.reduceLeDiff,Nat.reduceAdd,CC,l258,l259,six,y2p,y2,uix,uld,hlen]<;>rfl) ?_|apply aD|apply aE|with_reducible first|apply aG|apply aF|apply aK|apply aH|apply aJ|apply aI|apply aL|apply aC))
      by_cases hc:(e.rules.length:Int)≤u
      ·rw [decide_eq_false (show ¬u < (e.rules.length:Int) by omega),Bool.false_and] at hr3
       (repeat(first|refine aA (by simp (disch:=first|omega|exact nnN _|assumption) only [BB,B2,↓reduceIte,Nat.reduceLeDiff,Nat.reduceAdd,CC]<;>rfl) ?_|apply aD|apply aE|with_reducible first|apply aG|apply aF|apply aK|apply aH|apply aJ|apply aI|apply aL|apply aC))
       refine hx3 _ _ _ _ (fun e=>by cases e) (eW ?_)
       refine hx2 _ _ _ _ (fun e=>by cases e) (eW ?_)
       refine hno ?_ _ (by omega)
       rw [hfit,← hr2,← hr3]; rfl
      ·rw [decide_eq_true (show u < (e.rules.length:Int) by omega),Bool.true_and] at hr3
       (repeat(first|refine aA (by simp (disch:=first|omega|exact nnN _|assumption) only [BB,B2,↓reduceIte,Nat.reduceLeDiff,Nat.reduceAdd,CC]<;>rfl) ?_|apply aD|apply aE|with_reducible first|apply aG|apply aF|apply aK|apply aH|apply aJ|apply aI|apply aL|apply aC))
       exact hq3 (j3 - 1) _ _ _ _ (by omega) ⟨k3+1,by omega,by omega,rfl,f2,f6,rfl,hr3⟩ (Sub.refl _)
     ·have hb2:Bq=true:=by rw [← hr3,List.drop_of_length_le (by omega)]; rfl
      rw [hb2,Bool.true_and] at hr2
      (repeat(first|refine aA (by simp (disch:=first|omega|exact nnN _|assumption) only [BB,B2,↓reduceIte,Nat.reduceLeDiff,Nat.reduceAdd,CC]<;>rfl) ?_|apply aD|apply aE|with_reducible first|apply aG|apply aF|apply aK|apply aH|apply aJ|apply aI|apply aL|apply aC))
      refine hx3 _ _ _ _ (fun e=>by cases e) (d4 (cO ?_))
      have hj:∀ (e9:Env) n9,nx+1≤n9→e9 2=ptr nx→e9 6=.int .i64 k2→mR ro Q2 e9 h3 n9:=by
       intro e9 n9 hn9 f2 f6
       unfold mR
       rw [f6]
       have hk29:k2 < 256:=by omega
       (repeat(first|refine aA (by simp (disch:=first|omega|exact nnN _|assumption) only [BB,B2,↓reduceIte,Nat.reduceLeDiff,Nat.reduceAdd,CC]<;>rfl) ?_|apply aD|apply aE|with_reducible first|apply aG|apply aF|apply aK|apply aH|apply aJ|apply aI|apply aL|apply aC))
       exact hq2 (j2 - 1) _ _ _ _ (by omega) ⟨k2+1,by omega,by omega,rfl,f2,rfl,hr2⟩ (Sub.refl _)
      exact hj _ _ (by omega) f2 f6
    ·have hb:B=true:=by rw [← hr2,List.drop_of_length_le (by omega)]; rfl
     (repeat(first|refine aA (by simp (disch:=first|omega|exact nnN _|assumption) only [BB,B2,↓reduceIte,Nat.reduceLeDiff,Nat.reduceAdd,CC]<;>rfl) ?_|apply aD|apply aE|with_reducible first|apply aG|apply aF|apply aK|apply aH|apply aJ|apply aI|apply aL|apply aC))
     refine hx2 _ _ _ _ (fun e=>by cases e) (d4 (cO ?_))
     have hj:∀ (e9:Env) n9,nx≤n9→pJ ro K e9 h'' n9:=by
      intro e9 n9 hn9
      unfold pJ
      refine ⟨h,hs1,?_⟩
      rw [← hb,← hfit]; exact hK _ (by omega)
     exact hj _ _ (by omega)
   exact key _ _ (by omega) e2
end
end V
end Go.Proofs.YtcaccnneblghgaaGreat
namespace Go.Proofs.YtcaccnneblghgaaGreat
namespace V
attribute [local irreducible] aB ifP aS cS eT exP cM
theorem aK6 (a b:ByteArray):(a.data.toList==b.data.toList)=decide (a=b):=by
 by_cases h:a=b
 ·subst h; simp
 ·rw [decide_eq_false h,beq_eq_false_iff_ne]
  intro he
  apply h
  have:a.data=b.data:=Array.toList_inj.1 he
  cases a; cases b
  simp only at this
  rw [this]
theorem aE1 (a b:ByteArray):aCC .eql (.string a) (.string b)=some (.bool (decide (a=b))):=by
 rw [← aK6]; rfl
theorem yZ (a b:ByteArray):aCC .neq (.string a) (.string b)=some (.bool (!decide (a=b))):=by
 rw [← aK6]; rfl
theorem aCR {D:Type} {q:D→Bool}:∀ {l:List D} {k:Int} {i:Nat} {x:D},0≤k→l[i]?=some x→q x=true→decide (oV q k l=k+i)=!((l.take i).any q)
 | [],k,i,x,_,h,_=>by simp at h
 | y::l,k,0,x,_,h,hq=>by
  simp at h
  subst h
  rw [mZ,if_pos hq]
  simp
 | y::l,k,i+1,x,hk,h,hq=>by
  rw [mZ,List.take_succ_cons,List.any_cons]
  by_cases hy:q y=true
  ·rw [if_pos hy,hy,Bool.true_or,decide_eq_false (by omega)]; rfl
  ·rw [if_neg hy]
   have:=aCR (l:=l) (k:=k+1) (i:=i) (by omega) (by simpa using h) hq
   have hyf:q y=false:=by simpa using hy
   rw [hyf,Bool.false_or,← this]
   congr 1
   have e:k+1+(i:Int)=k+((i+1:Nat):Int):=by omega
   rw [e]
section
variable {ro:Ro} {h:T Obj} {nx:Nat} {K:KV}
theorem xH.load {v:Value} {l:List ByteArray} (hv:SlR ro h v 1 xH l) {i:Nat} (hi:i < l.length):load1 ro h (i6 1 v i)=some (.string l[i])∧l[i].size≤kO:=by
 obtain ⟨w,h1,h2⟩:=hv.at1 hi
 obtain ⟨h3,h4⟩:=h1
 have:w=.string l[i]:=by simpa using h3
 rw [this] at h2
 exact ⟨h2,h4⟩
set_option maxRecDepth 4000 in
theorem aEX {v:Value} {l:List ByteArray} {s:ByteArray} (hlen:l.length≤1000000) (hv:SlR ro h v 1 xH l) (hK:∀ nx',nx≤nx'→K (.int .i64 (oV (fun t=>decide (s=t)) 0 l)) h nx'):aN Tryz.prog ro hG [v,.string s] h nx K:=by
 apply p9
 unfold lU
 generalize hR:oV (fun t=>decide (s=t)) 0 l=r at hK
 refine aA hv.len ?_
 refine bA (fun j e h' nx'=>∃ (k:Nat),k+j=l.length∧nx≤nx'∧h'=h∧e 0=v∧e 1=.string s∧e 7=.int .i64 l.length∧e 8=.int .i64 k∧oV (fun t=>decide (s=t)) k (l.drop k)=r) ?_ (n:=l.length) ⟨0,by omega,by omega,rfl,rfl,rfl,rfl,rfl,hR⟩
 rintro j e h' nx' ⟨k,hj,hnx,rfl,e0,e1,e7,e8,hr⟩ Q' hq hx
 unfold kE
 rw [e0,e1,e7,e8]
 refine cU (fun hk=>?_) (fun hk=>?_)
 ·have hk:k < l.length:=by omega
  have hix:=hv.ix .i64 hk
  obtain ⟨hld,_⟩:=xH.load hv hk
  rw [bT hk,mZ] at hr
  generalize l[k]=y at hr hld
  have hsb:=aE1 s y
  by_cases hc:s=y
  ·rw [decide_eq_true hc] at hsb
   rw [if_pos (decide_eq_true hc)] at hr
   (repeat(first|refine aA (by simp (disch:=first|omega|exact nnN _|assumption) only [BB,B2,↓reduceIte,Nat.reduceLeDiff,Nat.reduceAdd,CC,hix,hld,hsb]<;>rfl) ?_|apply aD|apply aE|with_reducible first|apply aG|apply aF|apply aK|apply aH|apply aJ|apply aI|apply aL|apply aC))
   refine hx _ _ _ _ (fun e=>by cases e) (eW ?_)
   refine ⟨_,Sub.refl _,?_⟩
   show K (.int .i64 (k:Int)) h' _
   rw [hr]; exact hK _ (by omega)
  ·rw [decide_eq_false hc] at hsb
   rw [if_neg (by rw [decide_eq_false hc]; decide)] at hr
   (repeat(first|refine aA (by simp (disch:=first|omega|exact nnN _|assumption) only [BB,B2,↓reduceIte,Nat.reduceLeDiff,Nat.reduceAdd,CC,hix,hld,hsb]<;>rfl) ?_|apply aD|apply aE|with_reducible first|apply aG|apply aF|apply aK|apply aH|apply aJ|apply aI|apply aL|apply aC))
   exact hq (j - 1) _ _ _ _ (by omega) ⟨k+1,by omega,by omega,rfl,e0,e1,e7,rfl,by rw [← hr]; rfl⟩ (Sub.refl _)
 ·rw [List.drop_of_length_le (by omega)] at hr
  (repeat(first|refine aA (by simp (disch:=first|omega|exact nnN _|assumption) only [BB,B2,↓reduceIte,Nat.reduceLeDiff,Nat.reduceAdd,CC]<;>rfl) ?_|apply aD|apply aE|with_reducible first|apply aG|apply aF|apply aK|apply aH|apply aJ|apply aI|apply aL|apply aC))
  refine hx _ _ _ _ (fun e=>by cases e) (d4 (cO ?_))
  unfold gV
  refine ⟨_,Sub.refl _,?_⟩
  have hr:(-1:Int)=r:=hr
  rw [hr]; exact hK _ (by omega)
end
end V
end Go.Proofs.YtcaccnneblghgaaGreat
namespace Go.Proofs.YtcaccnneblghgaaGreat
namespace V
attribute [local irreducible] aB ifP aS cS eT exP cM
theorem rK:yX={ data:=#[115,116,97,114,116] }:=by decide
theorem rH:(ByteArray.empty:ByteArray)={ data:=#[] }:=rfl
theorem aDv (seen:List ByteArray) (s:ByteArray) (r:List ByteArray):wR seen (s::r)=(jY s&&!(seen.any fun t=>decide (s=t))&&wR (seen++[s]) r):=rfl
section
variable {ro:Ro} {h:T Obj} {nx:Nat} {K:KV}
set_option maxRecDepth 8000 in
theorem aEq {x y:List Value} {T:TabD} {e:EntD} {i1:Nat} (hf:Fr h nx) (g1:h.get i1=some (.cells x.toArray dC)) (hd:aCd ro h x T) (hk:T.kinds.length≤1000000) (he:uN ro h y e)
  (hK:∀ nx',nx≤nx'→K (.bool (!lE T.kinds.length e)) h nx'):aN Tryz.prog ro t5 [.agg y.toArray,ptr i1] h nx K:=by
 obtain ⟨cv,kv,tv,ev,rfl,q1,q2,q3,q4,q5,q6,q7,q8⟩:=id hd
 apply aDe
 unfold aCS
 refine eE hf (Nat.le_refl _) fun h1 hs1 hf1 g2 _=>?_
 have g2:h1.get nx=some (.cells y.toArray cK):=g2
 have m1:[cv,kv,tv,ev][1]?=some kv:=rfl
 have g1':=hs1 _ _ g1
 have klen:=(q2.sub hs1 fun _ _ h=>h).len
 refine aA (dG (ro:=ro) (z:=0) (n:=260) (l:=y) g2 he.len) ?_
 (repeat(first|refine aA (by simp (disch:=first|omega|exact nnN _|assumption) only [BB,B2,↓reduceIte,Nat.reduceLeDiff,Nat.reduceAdd,CC]<;>rfl) ?_|apply aD|apply aE|with_reducible first|apply aG|apply aF|apply aK|apply aH|apply aJ|apply aI|apply aL|apply aC))
 refine aA (aU g1' m1) (aA klen ?_)
 refine aJK hk (hf1.mono (by omega)) (he.sub hs1 |> fun z=>z) fun n2 hn2=>?_
 cases hb:lE T.kinds.length e with
 | true =>
  rw [hb] at hK
  (repeat(first|refine aA (by simp (disch:=first|omega|exact nnN _|assumption) only [BB,B2,↓reduceIte,Nat.reduceLeDiff,Nat.reduceAdd,CC]<;>rfl) ?_|apply aD|apply aE|with_reducible first|apply aG|apply aF|apply aK|apply aH|apply aJ|apply aI|apply aL|apply aC))
  exact ⟨h,hs1,hK _ (by omega)⟩
 | false =>
  rw [hb] at hK
  (repeat(first|refine aA (by simp (disch:=first|omega|exact nnN _|assumption) only [BB,B2,↓reduceIte,Nat.reduceLeDiff,Nat.reduceAdd,CC]<;>rfl) ?_|apply aD|apply aE|with_reducible first|apply aG|apply aF|apply aK|apply aH|apply aJ|apply aI|apply aL|apply aC))
  exact ⟨h,hs1,hK _ (by omega)⟩
set_option maxRecDepth 16000 in
set_option maxHeartbeats 4000000 in
theorem aHe {x:List Value} {T:TabD} (hf:Fr h nx) (hd:aCd ro h x T) (hK:∀ nx',nx≤nx'→K (.bool (fQ T)) h nx'):aN Tryz.prog ro xV [.agg x.toArray] h nx K:=by
 obtain ⟨cv,kv,tv,ev,rfl,q1,q2,q3,q4,q5,q6,q7,q8⟩:=id hd
 have q5:T.conds.length≤9223372036854775807:=q5
 have q6:T.kinds.length≤9223372036854775807:=q6
 have q7:T.to.length≤9223372036854775807:=q7
 have q8:T.entries.length≤9223372036854775807:=q8
 apply aGM
 unfold aF1
 refine eE hf (Nat.le_refl _) fun h1 hs1 hf1 g1 _=>?_
 have g1:h1.get nx=some (.cells [cv,kv,tv,ev].toArray dC):=g1
 have l0:=aU (ro:=ro) (z:=0) g1 (show [cv,kv,tv,ev][0]?=some cv from rfl)
 have l1:=aU (ro:=ro) (z:=0) g1 (show [cv,kv,tv,ev][1]?=some kv from rfl)
 have l2:=aU (ro:=ro) (z:=0) g1 (show [cv,kv,tv,ev][2]?=some tv from rfl)
 have l3:=aU (ro:=ro) (z:=0) g1 (show [cv,kv,tv,ev][3]?=some ev from rfl)
 have q1':=q1.sub hs1 fun _ _ h=>h
 have q2':=q2.sub hs1 fun _ _ h=>h
 have q3':=q3.sub hs1
 have q4':=q4.sub hs1 (uN.sub hs1)
 have hd1:=hd.sub hs1
 have clen:=q1'.len
 have klen:=q2'.len
 have tlen:=q3'.len
 rw [eM] at tlen
 have elen:=q4'.len
 have hno:fQ T=false→∀ n',nx≤n'→∃ h9,Sub h9 h1∧K (.bool false) h9 n':=fun hz n' hn=>⟨h,hs1,by rw [← hz]; exact hK _ hn⟩
 by_cases c1:1≤T.conds.length
 case neg =>
  (repeat(first|refine aA (by simp (disch:=first|omega|exact nnN _|assumption) only [BB,B2,↓reduceIte,Nat.reduceLeDiff,Nat.reduceAdd,CC,l0,clen]<;>rfl) ?_|apply aD|apply aE|with_reducible first|apply aG|apply aF|apply aK|apply aH|apply aJ|apply aI|apply aL|apply aC))
  exact hno (by unfold fQ; rw [decide_eq_false c1]; rfl) _ (by omega)
 by_cases c2:T.conds.length≤8
 case neg =>
  (repeat(first|refine aA (by simp (disch:=first|omega|exact nnN _|assumption) only [BB,B2,↓reduceIte,Nat.reduceLeDiff,Nat.reduceAdd,CC,l0,clen]<;>rfl) ?_|apply aD|apply aE|with_reducible first|apply aG|apply aF|apply aK|apply aH|apply aJ|apply aI|apply aL|apply aC))
  exact hno (by unfold fQ; rw [decide_eq_true c1,decide_eq_false c2]; rfl) _ (by omega)
 have hix0:=q1'.ix .i64 (i:=0) (by omega)
 have hz0:((0:Nat):Int)=0:=rfl
 rw [hz0] at hix0
 obtain ⟨hld0,_⟩:=xH.load q1' (i:=0) (by omega)
 have hsb:=yZ T.conds[0] yX
 have hhd:T.conds.head?=some T.conds[0]:=by rw [List.head?_eq_getElem?,List.getElem?_eq_getElem (by omega)]
 rw [rK] at hsb
 by_cases c3:T.conds[0]=yX
 case neg =>
  have c3':=c3
  rw [rK] at c3'
  rw [decide_eq_false c3',Bool.not_false] at hsb
  (repeat(first|refine aA (by simp (disch:=first|omega|exact nnN _|assumption) only [BB,B2,↓reduceIte,Nat.reduceLeDiff,Nat.reduceAdd,CC,l0,clen,hix0,hld0,hsb]<;>rfl) ?_|apply aD|apply aE|with_reducible first|apply aG|apply aF|apply aK|apply aH|apply aJ|apply aI|apply aL|apply aC))
  exact hno (by unfold fQ; rw [decide_eq_true c1,decide_eq_true c2,hhd,decide_eq_false (fun e=>c3 (Option.some.inj e))]; rfl) _ (by omega)
 have c3':=c3
 rw [rK] at c3'
 rw [decide_eq_true c3',Bool.not_true] at hsb
 have hr3:decide (T.conds.head?=some yX)=true:=decide_eq_true (by rw [hhd,c3])
 by_cases c4:T.kinds.length≤64
 case neg =>
  (repeat(first|refine aA (by simp (disch:=first|omega|exact nnN _|assumption) only [BB,B2,↓reduceIte,Nat.reduceLeDiff,Nat.reduceAdd,CC,l0,l1,clen,klen,hix0,hld0,hsb]<;>rfl) ?_|apply aD|apply aE|with_reducible first|apply aG|apply aF|apply aK|apply aH|apply aJ|apply aI|apply aL|apply aC))
  exact hno (by unfold fQ; rw [decide_eq_true c1,decide_eq_true c2,hr3,decide_eq_false c4]; rfl) _ (by omega)
 by_cases c5:T.to.length=T.kinds.length
 case neg =>
  (repeat(first|refine aA (by simp (disch:=first|omega|exact nnN _|assumption) only [BB,B2,↓reduceIte,Nat.reduceLeDiff,Nat.reduceAdd,CC,l0,l1,l2,clen,klen,tlen,hix0,hld0,hsb]<;>rfl) ?_|apply aD|apply aE|with_reducible first|apply aG|apply aF|apply aK|apply aH|apply aJ|apply aI|apply aL|apply aC))
  exact hno (by unfold fQ; rw [decide_eq_true c1,decide_eq_true c2,hr3,decide_eq_true c4,decide_eq_false c5]; rfl) _ (by omega)
 by_cases c6:T.entries.length=2*T.conds.length
 case neg =>
  (repeat(first|refine aA (by simp (disch:=first|omega|exact nnN _|assumption) only [BB,B2,↓reduceIte,Nat.reduceLeDiff,Nat.reduceAdd,CC,l0,l1,l2,l3,clen,klen,tlen,elen,hix0,hld0,hsb]<;>rfl) ?_|apply aD|apply aE|with_reducible first|apply aG|apply aF|apply aK|apply aH|apply aJ|apply aI|apply aL|apply aC))
  exact hno (by unfold fQ; rw [decide_eq_true c1,decide_eq_true c2,hr3,decide_eq_true c4,decide_eq_true c5,decide_eq_false c6]; rfl) _ (by omega)
 have hrt:fQ T=(wR [] T.conds&&((List.zip T.kinds T.to).all (fun x=>jN T.conds.length x.1 x.2)&&T.entries.all (lE T.kinds.length))):=by
  unfold fQ
  rw [decide_eq_true c1,decide_eq_true c2,hr3,decide_eq_true c4,decide_eq_true c5,decide_eq_true c6]; rfl
 (repeat(first|refine aA (by simp (disch:=first|omega|exact nnN _|assumption) only [BB,B2,↓reduceIte,Nat.reduceLeDiff,Nat.reduceAdd,CC,l0,l1,l2,l3,clen,klen,tlen,elen,hix0,hld0,hsb]<;>rfl) ?_|apply aD|apply aE|with_reducible first|apply aG|apply aF|apply aK|apply aH|apply aJ|apply aI|apply aL|apply aC))
 refine bA (fun j e h' nx'=>∃ (k:Nat),k+j=T.conds.length∧nx+1≤nx'∧h'=h1∧e 1=ptr nx∧e 50=cv∧e 51=.int .i64 T.conds.length∧e 52=.int .i64 k∧wR [] T.conds=wR (T.conds.take k) (T.conds.drop k)) ?_ (n:=T.conds.length)
  ⟨0,by omega,by omega,rfl,rfl,rfl,rfl,rfl,rfl⟩
 rintro j e h' nx' ⟨k,hj,hnx,rfl,e1,e50,e51,e52,hr⟩ Q' hq hx
 unfold aBD
 rw [e1,e50,e51,e52]
 refine cU (fun hk=>?_) (fun hk=>?_)
 ·have hk:k < T.conds.length:=by omega
  have hix:=q1'.ix .i64 hk
  obtain ⟨hld,hsz⟩:=xH.load q1' hk
  rw [bT hk,aDv] at hr
  have htk:T.conds.take (k+1)=T.conds.take k++[T.conds[k]]:=List.take_succ_eq_append_getElem hk
  have hfi:=aCR (q:=fun t=>decide (T.conds[k]=t)) (l:=T.conds) (k:=0) (i:=k) (by omega) (List.getElem?_eq_getElem hk) (decide_eq_true rfl)
  rw [← htk] at hr
  generalize T.conds[k]=s at hr hld hsz hfi
  have hsz:s.size≤9223372036854775807:=hsz
  (repeat(first|refine aA (by simp (disch:=first|omega|exact nnN _|assumption) only [BB,B2,↓reduceIte,Nat.reduceLeDiff,Nat.reduceAdd,CC,hix,hld]<;>rfl) ?_|apply aD|apply aE|with_reducible first|apply aG|apply aF|apply aK|apply aH|apply aJ|apply aI|apply aL|apply aC))
  refine aAR hsz fun n2 hn2=>?_
  cases hnm:jY s with
  | false =>
   rw [hnm] at hr
   (repeat(first|refine aA (by simp (disch:=first|omega|exact nnN _|assumption) only [BB,B2,↓reduceIte,Nat.reduceLeDiff,Nat.reduceAdd,CC]<;>rfl) ?_|apply aD|apply aE|with_reducible first|apply aG|apply aF|apply aK|apply aH|apply aJ|apply aI|apply aL|apply aC))
   refine hx _ _ _ _ (fun e=>by cases e) (eW ?_)
   exact hno (by rw [hrt,hr]; rfl) _ (by omega)
  | true =>
   rw [hnm,Bool.true_and] at hr
   (repeat(first|refine aA (by simp (disch:=first|omega|exact nnN _|assumption) only [BB,B2,↓reduceIte,Nat.reduceLeDiff,Nat.reduceAdd,CC,l0]<;>rfl) ?_|apply aD|apply aE|with_reducible first|apply aG|apply aF|apply aK|apply aH|apply aJ|apply aI|apply aL|apply aC))
   refine aEX (by omega) q1' fun n3 hn3=>?_
   generalize oV (fun t=>decide (s=t)) 0 T.conds=fi at hfi
   cases hct:(T.conds.take k).any (fun t=>decide (s=t)) with
   | true =>
    rw [hct,Bool.not_true] at hfi hr
    have hfi:=of_decide_eq_false hfi
    (repeat(first|refine aA (by simp (disch:=first|omega|exact nnN _|assumption) only [BB,B2,↓reduceIte,Nat.reduceLeDiff,Nat.reduceAdd,CC]<;>rfl) ?_|apply aD|apply aE|with_reducible first|apply aG|apply aF|apply aK|apply aH|apply aJ|apply aI|apply aL|apply aC))
    refine hx _ _ _ _ (fun e=>by cases e) (eW ?_)
    exact hno (by rw [hrt,hr]; rfl) _ (by omega)
   | false =>
    rw [hct,Bool.not_false] at hfi hr
    have hfi:=of_decide_eq_true hfi
    (repeat(first|refine aA (by simp (disch:=first|omega|exact nnN _|assumption) only [BB,B2,↓reduceIte,Nat.reduceLeDiff,Nat.reduceAdd,CC]<;>rfl) ?_|apply aD|apply aE|with_reducible first|apply aG|apply aF|apply aK|apply aH|apply aJ|apply aI|apply aL|apply aC))
    exact hq (j - 1) _ _ _ _ (by omega) ⟨k+1,by omega,by omega,rfl,e1,e50,e51,rfl,hr⟩ (Sub.refl _)
 ·have hr1:wR [] T.conds=true:=by rw [hr,List.drop_of_length_le (by omega)]; rfl
  rw [hr1,Bool.true_and] at hrt
  (repeat(first|refine aA (by simp (disch:=first|omega|exact nnN _|assumption) only [BB,B2,↓reduceIte,Nat.reduceLeDiff,Nat.reduceAdd,CC]<;>rfl) ?_|apply aD|apply aE|with_reducible first|apply aG|apply aF|apply aK|apply aH|apply aJ|apply aI|apply aL|apply aC))
  refine hx _ _ _ _ (fun e=>by cases e) (d4 (cO ?_))
  have hj1:∀ (ev1:Env) n',nx+1≤n'→ev1 1=ptr nx→qR ro K ev1 h' n':=by
   intro ev1 n' hn f1
   unfold qR
   rw [f1]
   (repeat(first|refine aA (by simp (disch:=first|omega|exact nnN _|assumption) only [BB,B2,↓reduceIte,Nat.reduceLeDiff,Nat.reduceAdd,CC,l1,klen]<;>rfl) ?_|apply aD|apply aE|with_reducible first|apply aG|apply aF|apply aK|apply aH|apply aJ|apply aI|apply aL|apply aC))
   refine bA (fun j e h2 nx2=>∃ (k:Nat),k+j=T.kinds.length∧nx+1≤nx2∧h2=h'∧e 1=ptr nx∧e 70=kv∧e 71=.int .i64 T.kinds.length∧e 72=.int .i64 k∧(List.zip T.kinds T.to).all (fun x=>jN T.conds.length x.1 x.2)=((List.zip T.kinds T.to).drop k).all (fun x=>jN T.conds.length x.1 x.2)) ?_ (n:=T.kinds.length)
    ⟨0,by omega,by omega,rfl,f1,rfl,rfl,rfl,rfl⟩
   rintro j2 e2 h2 nx2 ⟨k2,hj2,hnx2,rfl,f1,f70,f71,f72,hr2⟩ Q2 hq2 hx2
   unfold aBC
   rw [f1,f70,f71,f72]
   refine cU (fun hk2=>?_) (fun hk2=>?_)
   ·have hk2:k2 < T.kinds.length:=by omega
    have hkt:k2 < T.to.length:=by omega
    have hix:=q2'.ix .i64 hk2
    obtain ⟨hld,hsz⟩:=xH.load q2' hk2
    have tix:=q3'.ix .i64 (i:=k2) (by rw [eM]; exact hkt)
    have tld:=q3'.load1 (jX (l:=T.to) (i:=k2) hkt)
    have hzl:k2 < (List.zip T.kinds T.to).length:=by rw [List.length_zip]; omega
    rw [bT hzl,List.all_cons,List.getElem_zip] at hr2
    generalize T.kinds[k2]=s at hr2 hld hsz
    generalize T.to[k2]=t at hr2 tld
    have hsz:s.size≤9223372036854775807:=hsz
    have hse:=yZ s .empty
    rw [rH] at hse
    have hbad:jN T.conds.length s t=false→∀ n',nx≤n'→∃ h9,Sub h9 h2∧K (.bool false) h9 n':=fun hz n' hn=>hno (by rw [hrt,hr2,hz]; rfl) n' hn
    have hgo:jN T.conds.length s t=true→∀ (e9:Env) n9,nx+1≤n9→e9 1=ptr nx→e9 70=kv→e9 71=.int .i64 T.kinds.length→e9 72=.int .i64 ((k2:Int)+1)→Q2 .normal e9 h2 n9:=by
     intro hz e9 n9 hn9 u1 u70 u71 u72
     rw [hz,Bool.true_and] at hr2
     exact hq2 (j2 - 1) _ _ _ _ (by omega) ⟨k2+1,by omega,by omega,rfl,u1,u70,u71,u72,hr2⟩ (Sub.refl _)
    by_cases hs0:s=.empty
    ·have hs0':=hs0
     rw [rH] at hs0'
     rw [decide_eq_true hs0',Bool.not_true] at hse
     (repeat(first|refine aA (by simp (disch:=first|omega|exact nnN _|assumption) only [BB,B2,↓reduceIte,Nat.reduceLeDiff,Nat.reduceAdd,CC,hix,hld,hse]<;>rfl) ?_|apply aD|apply aE|with_reducible first|apply aG|apply aF|apply aK|apply aH|apply aJ|apply aI|apply aL|apply aC))
     by_cases d1:t < -1
     ·(repeat(first|refine aA (by simp (disch:=first|omega|exact nnN _|assumption) only [BB,B2,↓reduceIte,Nat.reduceLeDiff,Nat.reduceAdd,CC,l2,tix,tld]<;>rfl) ?_|apply aD|apply aE|with_reducible first|apply aG|apply aF|apply aK|apply aH|apply aJ|apply aI|apply aL|apply aC))
      refine hx2 _ _ _ _ (fun e=>by cases e) (eW ?_)
      exact hbad (by unfold jN; rw [decide_eq_false (show ¬-1≤t by omega)]; simp) _ (by omega)
     ·by_cases d2:(T.conds.length:Int)≤t
      ·(repeat(first|refine aA (by simp (disch:=first|omega|exact nnN _|assumption) only [BB,B2,↓reduceIte,Nat.reduceLeDiff,Nat.reduceAdd,CC,l2,tix,tld,l0,clen]<;>rfl) ?_|apply aD|apply aE|with_reducible first|apply aG|apply aF|apply aK|apply aH|apply aJ|apply aI|apply aL|apply aC))
       refine hx2 _ _ _ _ (fun e=>by cases e) (eW ?_)
       exact hbad (by unfold jN; rw [decide_eq_false (show ¬t < (T.conds.length:Int) by omega)]; simp) _ (by omega)
      ·(repeat(first|refine aA (by simp (disch:=first|omega|exact nnN _|assumption) only [BB,B2,↓reduceIte,Nat.reduceLeDiff,Nat.reduceAdd,CC,l2,tix,tld,l0,clen]<;>rfl) ?_|apply aD|apply aE|with_reducible first|apply aG|apply aF|apply aK|apply aH|apply aJ|apply aI|apply aL|apply aC))
       exact hgo (by unfold jN; rw [decide_eq_true hs0,decide_eq_true (show -1≤t by omega),decide_eq_true (show t < (T.conds.length:Int) by omega)]; simp) _ _ (by omega) f1 f70 f71 rfl
    ·have hs0':=hs0
     rw [rH] at hs0'
     rw [decide_eq_false hs0',Bool.not_false] at hse
     (repeat(first|refine aA (by simp (disch:=first|omega|exact nnN _|assumption) only [BB,B2,↓reduceIte,Nat.reduceLeDiff,Nat.reduceAdd,CC,hix,hld,hse]<;>rfl) ?_|apply aD|apply aE|with_reducible first|apply aG|apply aF|apply aK|apply aH|apply aJ|apply aI|apply aL|apply aC))
     refine aAR hsz fun n2 hn2=>?_
     cases hnm:jY s with
     | false =>
      (repeat(first|refine aA (by simp (disch:=first|omega|exact nnN _|assumption) only [BB,B2,↓reduceIte,Nat.reduceLeDiff,Nat.reduceAdd,CC]<;>rfl) ?_|apply aD|apply aE|with_reducible first|apply aG|apply aF|apply aK|apply aH|apply aJ|apply aI|apply aL|apply aC))
      refine hx2 _ _ _ _ (fun e=>by cases e) (eW ?_)
      exact hbad (by unfold jN; rw [decide_eq_false hs0,hnm]; rfl) _ (by omega)
     | true =>
      (repeat(first|refine aA (by simp (disch:=first|omega|exact nnN _|assumption) only [BB,B2,↓reduceIte,Nat.reduceLeDiff,Nat.reduceAdd,CC]<;>rfl) ?_|apply aD|apply aE|with_reducible first|apply aG|apply aF|apply aK|apply aH|apply aJ|apply aI|apply aL|apply aC))
      by_cases d1:t < -1
      ·(repeat(first|refine aA (by simp (disch:=first|omega|exact nnN _|assumption) only [BB,B2,↓reduceIte,Nat.reduceLeDiff,Nat.reduceAdd,CC,l2,tix,tld]<;>rfl) ?_|apply aD|apply aE|with_reducible first|apply aG|apply aF|apply aK|apply aH|apply aJ|apply aI|apply aL|apply aC))
       refine hx2 _ _ _ _ (fun e=>by cases e) (eW ?_)
       exact hbad (by unfold jN; rw [decide_eq_false (show ¬-1≤t by omega)]; simp) _ (by omega)
      ·by_cases d2:(T.conds.length:Int)≤t
       ·(repeat(first|refine aA (by simp (disch:=first|omega|exact nnN _|assumption) only [BB,B2,↓reduceIte,Nat.reduceLeDiff,Nat.reduceAdd,CC,l2,tix,tld,l0,clen]<;>rfl) ?_|apply aD|apply aE|with_reducible first|apply aG|apply aF|apply aK|apply aH|apply aJ|apply aI|apply aL|apply aC))
        refine hx2 _ _ _ _ (fun e=>by cases e) (eW ?_)
        exact hbad (by unfold jN; rw [decide_eq_false (show ¬t < (T.conds.length:Int) by omega)]; simp) _ (by omega)
       ·(repeat(first|refine aA (by simp (disch:=first|omega|exact nnN _|assumption) only [BB,B2,↓reduceIte,Nat.reduceLeDiff,Nat.reduceAdd,CC,l2,tix,tld,l0,clen]<;>rfl) ?_|apply aD|apply aE|with_reducible first|apply aG|apply aF|apply aK|apply aH|apply aJ|apply aI|apply aL|apply aC))
        exact hgo (by unfold jN; rw [hnm,decide_eq_true (show -1≤t by omega),decide_eq_true (show t < (T.conds.length:Int) by omega)]; simp) _ _ (by omega) f1 f70 f71 rfl
   ·have hall:(List.zip T.kinds T.to).all (fun x=>jN T.conds.length x.1 x.2)=true:=by rw [hr2,List.drop_of_length_le (by rw [List.length_zip]; omega)]; rfl
    rw [hall,Bool.true_and] at hrt
    (repeat(first|refine aA (by simp (disch:=first|omega|exact nnN _|assumption) only [BB,B2,↓reduceIte,Nat.reduceLeDiff,Nat.reduceAdd,CC]<;>rfl) ?_|apply aD|apply aE|with_reducible first|apply aG|apply aF|apply aK|apply aH|apply aJ|apply aI|apply aL|apply aC))
    refine hx2 _ _ _ _ (fun e=>by cases e) (d4 (cO ?_))
    have hj2:∀ (ev2:Env) n',nx+1≤n'→ev2 1=ptr nx→qS ro K ev2 h2 n':=by
     intro ev2 n' hn f1
     unfold qS
     rw [f1]
     (repeat(first|refine aA (by simp (disch:=first|omega|exact nnN _|assumption) only [BB,B2,↓reduceIte,Nat.reduceLeDiff,Nat.reduceAdd,CC]<;>rfl) ?_|apply aD|apply aE|with_reducible first|apply aG|apply aF|apply aK|apply aH|apply aJ|apply aI|apply aL|apply aC))
     refine aA l3 ?_
     refine xP (q:=fun e=>!lE T.kinds.length e) (by omega) q4' (fun i hi y n9 K9 hy hn9 hk9=>?_) fun n9 hn9=>?_
     ·exact aEq (hf1.mono (by omega)) g1 hd1 (by omega) hy hk9
     ·have ha:=aFs (lE T.kinds.length) T.entries
      rw [hrt,← ha] at hK
      (repeat(first|refine aA (by simp (disch:=first|omega|exact nnN _|assumption) only [BB,B2,↓reduceIte,Nat.reduceLeDiff,Nat.reduceAdd,CC]<;>rfl) ?_|apply aD|apply aE|with_reducible first|apply aG|apply aF|apply aK|apply aH|apply aJ|apply aI|apply aL|apply aC))
      exact ⟨h,hs1,hK _ (by omega)⟩
    exact hj2 _ _ (by omega) f1
  exact hj1 _ _ (by omega) e1
end
end V
end Go.Proofs.YtcaccnneblghgaaGreat
namespace Go.Proofs.YtcaccnneblghgaaGreat
namespace V
attribute [local irreducible] aB ifP aS cS eT exP cM
section
variable {ro:Ro} {h:T Obj} {nx:Nat} {K:KV}
set_option maxRecDepth 16000 in
set_option maxHeartbeats 4000000 in
theorem aFG {x:List Value} {T:TabD} (hf:Fr h nx) (hd:aCd ro h x T) (hK:∀ nx',nx≤nx'→K (.bool (fQ T)) h nx'):aN Tryz.prog ro uE [.agg x.toArray] h nx K:=by
 obtain ⟨cv,kv,tv,ev,rfl,q1,q2,q3,q4,q5,q6,q7,q8⟩:=id hd
 have q5:T.conds.length≤9223372036854775807:=q5
 have q6:T.kinds.length≤9223372036854775807:=q6
 have q7:T.to.length≤9223372036854775807:=q7
 have q8:T.entries.length≤9223372036854775807:=q8
 apply aEO
 unfold aC8
 refine eE hf (Nat.le_refl _) fun h1 hs1 hf1 g1 _=>?_
 have g1:h1.get nx=some (.cells [cv,kv,tv,ev].toArray dC):=g1
 have l0:=aU (ro:=ro) (z:=0) g1 (show [cv,kv,tv,ev][0]?=some cv from rfl)
 have l1:=aU (ro:=ro) (z:=0) g1 (show [cv,kv,tv,ev][1]?=some kv from rfl)
 have l2:=aU (ro:=ro) (z:=0) g1 (show [cv,kv,tv,ev][2]?=some tv from rfl)
 have l3:=aU (ro:=ro) (z:=0) g1 (show [cv,kv,tv,ev][3]?=some ev from rfl)
 have q1':=q1.sub hs1 fun _ _ h=>h
 have q2':=q2.sub hs1 fun _ _ h=>h
 have q3':=q3.sub hs1
 have q4':=q4.sub hs1 (uN.sub hs1)
 have hd1:=hd.sub hs1
 have clen:=q1'.len
 have klen:=q2'.len
 have tlen:=q3'.len
 rw [eM] at tlen
 have elen:=q4'.len
 have hno:fQ T=false→∀ n',nx≤n'→∃ h9,Sub h9 h1∧K (.bool false) h9 n':=fun hz n' hn=>⟨h,hs1,by rw [← hz]; exact hK _ hn⟩
 by_cases c1:1≤T.conds.length
 case neg =>
  (repeat(first|refine aA (by simp (disch:=first|omega|exact nnN _|assumption) only [BB,B2,↓reduceIte,Nat.reduceLeDiff,Nat.reduceAdd,CC,l0,clen]<;>rfl) ?_|apply aD|apply aE|with_reducible first|apply aG|apply aF|apply aK|apply aH|apply aJ|apply aI|apply aL|apply aC))
  exact hno (by unfold fQ; rw [decide_eq_false c1]; rfl) _ (by omega)
 by_cases c2:T.conds.length≤8
 case neg =>
  (repeat(first|refine aA (by simp (disch:=first|omega|exact nnN _|assumption) only [BB,B2,↓reduceIte,Nat.reduceLeDiff,Nat.reduceAdd,CC,l0,clen]<;>rfl) ?_|apply aD|apply aE|with_reducible first|apply aG|apply aF|apply aK|apply aH|apply aJ|apply aI|apply aL|apply aC))
  exact hno (by unfold fQ; rw [decide_eq_true c1,decide_eq_false c2]; rfl) _ (by omega)
 have hix0:=q1'.ix .i64 (i:=0) (by omega)
 have hz0:((0:Nat):Int)=0:=rfl
 rw [hz0] at hix0
 obtain ⟨hld0,_⟩:=xH.load q1' (i:=0) (by omega)
 have hsb:=yZ T.conds[0] yX
 have hhd:T.conds.head?=some T.conds[0]:=by rw [List.head?_eq_getElem?,List.getElem?_eq_getElem (by omega)]
 rw [rK] at hsb
 by_cases c3:T.conds[0]=yX
 case neg =>
  have c3':=c3
  rw [rK] at c3'
  rw [decide_eq_false c3',Bool.not_false] at hsb
  (repeat(first|refine aA (by simp (disch:=first|omega|exact nnN _|assumption) only [BB,B2,↓reduceIte,Nat.reduceLeDiff,Nat.reduceAdd,CC,l0,clen,hix0,hld0,hsb]<;>rfl) ?_|apply aD|apply aE|with_reducible first|apply aG|apply aF|apply aK|apply aH|apply aJ|apply aI|apply aL|apply aC))
  exact hno (by unfold fQ; rw [decide_eq_true c1,decide_eq_true c2,hhd,decide_eq_false (fun e=>c3 (Option.some.inj e))]; rfl) _ (by omega)
 have c3':=c3
 rw [rK] at c3'
 rw [decide_eq_true c3',Bool.not_true] at hsb
 have hr3:decide (T.conds.head?=some yX)=true:=decide_eq_true (by rw [hhd,c3])
 by_cases c4:T.kinds.length≤64
 case neg =>
  (repeat(first|refine aA (by simp (disch:=first|omega|exact nnN _|assumption) only [BB,B2,↓reduceIte,Nat.reduceLeDiff,Nat.reduceAdd,CC,l0,l1,clen,klen,hix0,hld0,hsb]<;>rfl) ?_|apply aD|apply aE|with_reducible first|apply aG|apply aF|apply aK|apply aH|apply aJ|apply aI|apply aL|apply aC))
  exact hno (by unfold fQ; rw [decide_eq_true c1,decide_eq_true c2,hr3,decide_eq_false c4]; rfl) _ (by omega)
 by_cases c5:T.to.length=T.kinds.length
 case neg =>
  (repeat(first|refine aA (by simp (disch:=first|omega|exact nnN _|assumption) only [BB,B2,↓reduceIte,Nat.reduceLeDiff,Nat.reduceAdd,CC,l0,l1,l2,clen,klen,tlen,hix0,hld0,hsb]<;>rfl) ?_|apply aD|apply aE|with_reducible first|apply aG|apply aF|apply aK|apply aH|apply aJ|apply aI|apply aL|apply aC))
  exact hno (by unfold fQ; rw [decide_eq_true c1,decide_eq_true c2,hr3,decide_eq_true c4,decide_eq_false c5]; rfl) _ (by omega)
 by_cases c6:T.entries.length=2*T.conds.length
 case neg =>
  (repeat(first|refine aA (by simp (disch:=first|omega|exact nnN _|assumption) only [BB,B2,↓reduceIte,Nat.reduceLeDiff,Nat.reduceAdd,CC,l0,l1,l2,l3,clen,klen,tlen,elen,hix0,hld0,hsb]<;>rfl) ?_|apply aD|apply aE|with_reducible first|apply aG|apply aF|apply aK|apply aH|apply aJ|apply aI|apply aL|apply aC))
  exact hno (by unfold fQ; rw [decide_eq_true c1,decide_eq_true c2,hr3,decide_eq_true c4,decide_eq_true c5,decide_eq_false c6]; rfl) _ (by omega)
 have hrt:fQ T=(wR [] T.conds&&((List.zip T.kinds T.to).all (fun x=>jN T.conds.length x.1 x.2)&&T.entries.all (lE T.kinds.length))):=by
  unfold fQ
  rw [decide_eq_true c1,decide_eq_true c2,hr3,decide_eq_true c4,decide_eq_true c5,decide_eq_true c6]; rfl
 (repeat(first|refine aA (by simp (disch:=first|omega|exact nnN _|assumption) only [BB,B2,↓reduceIte,Nat.reduceLeDiff,Nat.reduceAdd,CC,l0,l1,l2,l3,clen,klen,tlen,elen,hix0,hld0,hsb]<;>rfl) ?_|apply aD|apply aE|with_reducible first|apply aG|apply aF|apply aK|apply aH|apply aJ|apply aI|apply aL|apply aC))
 refine bA (fun j e h' nx'=>∃ (k:Nat),k+j=T.conds.length∧nx+1≤nx'∧h'=h1∧e 1=ptr nx∧e 3=.int .i64 k∧wR [] T.conds=wR (T.conds.take k) (T.conds.drop k)) ?_ (n:=T.conds.length)
  ⟨0,by omega,by omega,rfl,rfl,rfl,rfl⟩
 rintro j e h' nx' ⟨k,hj,hnx,rfl,e1,e3,hr⟩ Q' hq hx
 unfold yN
 rw [e1,e3]
 (repeat(first|refine aA (by simp (disch:=first|omega|exact nnN _|assumption) only [BB,B2,↓reduceIte,Nat.reduceLeDiff,Nat.reduceAdd,CC,l0,clen]<;>rfl) ?_|apply aD|apply aE|with_reducible first|apply aG|apply aF|apply aK|apply aH|apply aJ|apply aI|apply aL|apply aC))
 refine cU (fun hk=>?_) (fun hk=>?_)
 ·have hk:k < T.conds.length:=by omega
  have hix:=q1'.ix .i64 hk
  obtain ⟨hld,hsz⟩:=xH.load q1' hk
  rw [bT hk,aDv] at hr
  have htk:T.conds.take (k+1)=T.conds.take k++[T.conds[k]]:=List.take_succ_eq_append_getElem hk
  rw [← htk] at hr
  generalize hsk:T.conds[k]=s at hr hld hsz
  have hsz:s.size≤9223372036854775807:=hsz
  (repeat(first|refine aA (by simp (disch:=first|omega|exact nnN _|assumption) only [BB,B2,↓reduceIte,Nat.reduceLeDiff,Nat.reduceAdd,CC,l0,hix,hld]<;>rfl) ?_|apply aD|apply aE|with_reducible first|apply aG|apply aF|apply aK|apply aH|apply aJ|apply aI|apply aL|apply aC))
  refine aBX hsz fun n2 hn2=>?_
  cases hnm:jY s with
  | false =>
   rw [hnm] at hr
   (repeat(first|refine aA (by simp (disch:=first|omega|exact nnN _|assumption) only [BB,B2,↓reduceIte,Nat.reduceLeDiff,Nat.reduceAdd,CC]<;>rfl) ?_|apply aD|apply aE|with_reducible first|apply aG|apply aF|apply aK|apply aH|apply aJ|apply aI|apply aL|apply aC))
   refine hx _ _ _ _ (fun e=>by cases e) (eW ?_)
   exact hno (by rw [hrt,hr]; rfl) _ (by omega)
  | true =>
   rw [hnm,Bool.true_and] at hr
   (repeat(first|refine aA (by simp (disch:=first|omega|exact nnN _|assumption) only [BB,B2,↓reduceIte,Nat.reduceLeDiff,Nat.reduceAdd,CC]<;>rfl) ?_|apply aD|apply aE|with_reducible first|apply aG|apply aF|apply aK|apply aH|apply aJ|apply aI|apply aL|apply aC))
   generalize hBq:(T.conds.take k).any (fun t=>decide (s=t))=Bq at hr
   refine bA (fun j3 e9 h3 nx3=>∃ (m:Nat),m+j3=k∧nx+1≤nx3∧h3=h'∧e9 1=ptr nx∧e9 3=.int .i64 k∧e9 4=.int .i64 m∧((T.conds.take k).drop m).any (fun t=>decide (s=t))=Bq) ?_ (n:=k)
    ⟨0,by omega,by omega,rfl,e1,e3,rfl,hBq⟩
   rintro j3 e9 h3 nx3 ⟨m,hj3,hnx3,rfl,f1,f3,f4,hr3⟩ Q3 hq3 hx3
   unfold yO
   rw [f1,f3,f4]
   refine cU (fun hm=>?_) (fun hm=>?_)
   ·have hm:m < k:=by omega
    have hmc:m < T.conds.length:=by omega
    have hixm:=q1'.ix .i64 hmc
    obtain ⟨hldm,_⟩:=xH.load q1' hmc
    have hmt:m < (T.conds.take k).length:=by rw [List.length_take]; omega
    rw [bT hmt,List.any_cons,List.getElem_take] at hr3
    generalize T.conds[m]=t at hr3 hldm
    have hse:=aE1 t s
    by_cases hts:s=t
    ·rw [decide_eq_true hts,Bool.true_or] at hr3
     rw [decide_eq_true hts.symm] at hse
     (repeat(first|refine aA (by simp (disch:=first|omega|exact nnN _|assumption) only [BB,B2,↓reduceIte,Nat.reduceLeDiff,Nat.reduceAdd,CC,l0,hix,hld,hixm,hldm,hse]<;>rfl) ?_|apply aD|apply aE|with_reducible first|apply aG|apply aF|apply aK|apply aH|apply aJ|apply aI|apply aL|apply aC))
     refine hx3 _ _ _ _ (fun e=>by cases e) (eW ?_)
     refine hx _ _ _ _ (fun e=>by cases e) (eW ?_)
     exact hno (by rw [hrt,hr,← hr3]; rfl) _ (by omega)
    ·rw [decide_eq_false hts,Bool.false_or] at hr3
     rw [decide_eq_false (fun e=>hts e.symm)] at hse
     (repeat(first|refine aA (by simp (disch:=first|omega|exact nnN _|assumption) only [BB,B2,↓reduceIte,Nat.reduceLeDiff,Nat.reduceAdd,CC,l0,hix,hld,hixm,hldm,hse]<;>rfl) ?_|apply aD|apply aE|with_reducible first|apply aG|apply aF|apply aK|apply aH|apply aJ|apply aI|apply aL|apply aC))
     exact hq3 (j3 - 1) _ _ _ _ (by omega) ⟨m+1,by omega,by omega,rfl,f1,f3,rfl,hr3⟩ (Sub.refl _)
   ·have hb:Bq=false:=by rw [← hr3,List.drop_of_length_le (by rw [List.length_take]; omega)]; rfl
    rw [hb,Bool.not_false,Bool.true_and] at hr
    (repeat(first|refine aA (by simp (disch:=first|omega|exact nnN _|assumption) only [BB,B2,↓reduceIte,Nat.reduceLeDiff,Nat.reduceAdd,CC]<;>rfl) ?_|apply aD|apply aE|with_reducible first|apply aG|apply aF|apply aK|apply aH|apply aJ|apply aI|apply aL|apply aC))
    refine hx3 _ _ _ _ (fun e=>by cases e) (d4 (cO ?_))
    have hj4:∀ (e9:Env) n9,nx+1≤n9→e9 1=ptr nx→e9 3=.int .i64 k→lP ro Q' e9 h3 n9:=by
     intro e9 n9 hn9 f1 f3
     unfold lP
     rw [f3]
     (repeat(first|refine aA (by simp (disch:=first|omega|exact nnN _|assumption) only [BB,B2,↓reduceIte,Nat.reduceLeDiff,Nat.reduceAdd,CC]<;>rfl) ?_|apply aD|apply aE|with_reducible first|apply aG|apply aF|apply aK|apply aH|apply aJ|apply aI|apply aL|apply aC))
     exact hq (j - 1) _ _ _ _ (by omega) ⟨k+1,by omega,by omega,rfl,f1,rfl,hr⟩ (Sub.refl _)
    exact hj4 _ _ (by omega) f1 f3
 ·have hr1:wR [] T.conds=true:=by rw [hr,List.drop_of_length_le (by omega)]; rfl
  rw [hr1,Bool.true_and] at hrt
  (repeat(first|refine aA (by simp (disch:=first|omega|exact nnN _|assumption) only [BB,B2,↓reduceIte,Nat.reduceLeDiff,Nat.reduceAdd,CC]<;>rfl) ?_|apply aD|apply aE|with_reducible first|apply aG|apply aF|apply aK|apply aH|apply aJ|apply aI|apply aL|apply aC))
  refine hx _ _ _ _ (fun e=>by cases e) (d4 (cO ?_))
  have hj1:∀ (ev1:Env) n',nx+1≤n'→ev1 1=ptr nx→oG ro K ev1 h' n':=by
   intro ev1 n' hn f1
   unfold oG
   refine bA (fun j e h2 nx2=>∃ (k:Nat),k+j=T.kinds.length∧nx+1≤nx2∧h2=h'∧e 1=ptr nx∧e 5=.int .i64 k∧(List.zip T.kinds T.to).all (fun x=>jN T.conds.length x.1 x.2)=((List.zip T.kinds T.to).drop k).all (fun x=>jN T.conds.length x.1 x.2)) ?_ (n:=T.kinds.length)
    ⟨0,by omega,by omega,rfl,f1,rfl,rfl⟩
   rintro j2 e2 h2 nx2 ⟨k2,hj2,hnx2,rfl,f1,f5,hr2⟩ Q2 hq2 hx2
   unfold yM
   rw [f1,f5]
   (repeat(first|refine aA (by simp (disch:=first|omega|exact nnN _|assumption) only [BB,B2,↓reduceIte,Nat.reduceLeDiff,Nat.reduceAdd,CC,l1,klen]<;>rfl) ?_|apply aD|apply aE|with_reducible first|apply aG|apply aF|apply aK|apply aH|apply aJ|apply aI|apply aL|apply aC))
   refine cU (fun hk2=>?_) (fun hk2=>?_)
   ·have hk2:k2 < T.kinds.length:=by omega
    have hkt:k2 < T.to.length:=by omega
    have hix:=q2'.ix .i64 hk2
    obtain ⟨hld,hsz⟩:=xH.load q2' hk2
    have tix:=q3'.ix .i64 (i:=k2) (by rw [eM]; exact hkt)
    have tld:=q3'.load1 (jX (l:=T.to) (i:=k2) hkt)
    have hzl:k2 < (List.zip T.kinds T.to).length:=by rw [List.length_zip]; omega
    rw [bT hzl,List.all_cons,List.getElem_zip] at hr2
    generalize T.kinds[k2]=s at hr2 hld hsz
    generalize T.to[k2]=t at hr2 tld
    have hsz:s.size≤9223372036854775807:=hsz
    have hse:=yZ s .empty
    rw [rH] at hse
    have hbad:jN T.conds.length s t=false→∀ n',nx≤n'→∃ h9,Sub h9 h2∧K (.bool false) h9 n':=fun hz n' hn=>hno (by rw [hrt,hr2,hz]; rfl) n' hn
    have hgo:jN T.conds.length s t=true→∀ (e9:Env) n9,nx+1≤n9→e9 1=ptr nx→e9 5=.int .i64 ((k2:Int)+1)→Q2 .normal e9 h2 n9:=by
     intro hz e9 n9 hn9 u1 u72
     rw [hz,Bool.true_and] at hr2
     exact hq2 (j2 - 1) _ _ _ _ (by omega) ⟨k2+1,by omega,by omega,rfl,u1,u72,hr2⟩ (Sub.refl _)
    by_cases hs0:s=.empty
    ·have hs0':=hs0
     rw [rH] at hs0'
     rw [decide_eq_true hs0',Bool.not_true] at hse
     (repeat(first|refine aA (by simp (disch:=first|omega|exact nnN _|assumption) only [BB,B2,↓reduceIte,Nat.reduceLeDiff,Nat.reduceAdd,CC,l1,hix,hld,hse]<;>rfl) ?_|apply aD|apply aE|with_reducible first|apply aG|apply aF|apply aK|apply aH|apply aJ|apply aI|apply aL|apply aC))
     by_cases d1:t < -1
     ·(repeat(first|refine aA (by simp (disch:=first|omega|exact nnN _|assumption) only [BB,B2,↓reduceIte,Nat.reduceLeDiff,Nat.reduceAdd,CC,l2,tix,tld]<;>rfl) ?_|apply aD|apply aE|with_reducible first|apply aG|apply aF|apply aK|apply aH|apply aJ|apply aI|apply aL|apply aC))
      refine hx2 _ _ _ _ (fun e=>by cases e) (eW ?_)
      exact hbad (by unfold jN; rw [decide_eq_false (show ¬-1≤t by omega)]; simp) _ (by omega)
     ·by_cases d2:(T.conds.length:Int)≤t
      ·(repeat(first|refine aA (by simp (disch:=first|omega|exact nnN _|assumption) only [BB,B2,↓reduceIte,Nat.reduceLeDiff,Nat.reduceAdd,CC,l2,tix,tld,l0,clen]<;>rfl) ?_|apply aD|apply aE|with_reducible first|apply aG|apply aF|apply aK|apply aH|apply aJ|apply aI|apply aL|apply aC))
       refine hx2 _ _ _ _ (fun e=>by cases e) (eW ?_)
       exact hbad (by unfold jN; rw [decide_eq_false (show ¬t < (T.conds.length:Int) by omega)]; simp) _ (by omega)
      ·(repeat(first|refine aA (by simp (disch:=first|omega|exact nnN _|assumption) only [BB,B2,↓reduceIte,Nat.reduceLeDiff,Nat.reduceAdd,CC,l2,tix,tld,l0,clen]<;>rfl) ?_|apply aD|apply aE|with_reducible first|apply aG|apply aF|apply aK|apply aH|apply aJ|apply aI|apply aL|apply aC))
       exact hgo (by unfold jN; rw [decide_eq_true hs0,decide_eq_true (show -1≤t by omega),decide_eq_true (show t < (T.conds.length:Int) by omega)]; simp) _ _ (by omega) f1 rfl
    ·have hs0':=hs0
     rw [rH] at hs0'
     rw [decide_eq_false hs0',Bool.not_false] at hse
     (repeat(first|refine aA (by simp (disch:=first|omega|exact nnN _|assumption) only [BB,B2,↓reduceIte,Nat.reduceLeDiff,Nat.reduceAdd,CC,l1,hix,hld,hse]<;>rfl) ?_|apply aD|apply aE|with_reducible first|apply aG|apply aF|apply aK|apply aH|apply aJ|apply aI|apply aL|apply aC))
     refine aBX hsz fun n2 hn2=>?_
     cases hnm:jY s with
     | false =>
      (repeat(first|refine aA (by simp (disch:=first|omega|exact nnN _|assumption) only [BB,B2,↓reduceIte,Nat.reduceLeDiff,Nat.reduceAdd,CC]<;>rfl) ?_|apply aD|apply aE|with_reducible first|apply aG|apply aF|apply aK|apply aH|apply aJ|apply aI|apply aL|apply aC))
      refine hx2 _ _ _ _ (fun e=>by cases e) (eW ?_)
      exact hbad (by unfold jN; rw [decide_eq_false hs0,hnm]; rfl) _ (by omega)
     | true =>
      (repeat(first|refine aA (by simp (disch:=first|omega|exact nnN _|assumption) only [BB,B2,↓reduceIte,Nat.reduceLeDiff,Nat.reduceAdd,CC]<;>rfl) ?_|apply aD|apply aE|with_reducible first|apply aG|apply aF|apply aK|apply aH|apply aJ|apply aI|apply aL|apply aC))
      by_cases d1:t < -1
      ·(repeat(first|refine aA (by simp (disch:=first|omega|exact nnN _|assumption) only [BB,B2,↓reduceIte,Nat.reduceLeDiff,Nat.reduceAdd,CC,l2,tix,tld]<;>rfl) ?_|apply aD|apply aE|with_reducible first|apply aG|apply aF|apply aK|apply aH|apply aJ|apply aI|apply aL|apply aC))
       refine hx2 _ _ _ _ (fun e=>by cases e) (eW ?_)
       exact hbad (by unfold jN; rw [decide_eq_false (show ¬-1≤t by omega)]; simp) _ (by omega)
      ·by_cases d2:(T.conds.length:Int)≤t
       ·(repeat(first|refine aA (by simp (disch:=first|omega|exact nnN _|assumption) only [BB,B2,↓reduceIte,Nat.reduceLeDiff,Nat.reduceAdd,CC,l2,tix,tld,l0,clen]<;>rfl) ?_|apply aD|apply aE|with_reducible first|apply aG|apply aF|apply aK|apply aH|apply aJ|apply aI|apply aL|apply aC))
        refine hx2 _ _ _ _ (fun e=>by cases e) (eW ?_)
        exact hbad (by unfold jN; rw [decide_eq_false (show ¬t < (T.conds.length:Int) by omega)]; simp) _ (by omega)
       ·(repeat(first|refine aA (by simp (disch:=first|omega|exact nnN _|assumption) only [BB,B2,↓reduceIte,Nat.reduceLeDiff,Nat.reduceAdd,CC,l2,tix,tld,l0,clen]<;>rfl) ?_|apply aD|apply aE|with_reducible first|apply aG|apply aF|apply aK|apply aH|apply aJ|apply aI|apply aL|apply aC))
        exact hgo (by unfold jN; rw [hnm,decide_eq_true (show -1≤t by omega),decide_eq_true (show t < (T.conds.length:Int) by omega)]; simp) _ _ (by omega) f1 rfl
   ·have hall:(List.zip T.kinds T.to).all (fun x=>jN T.conds.length x.1 x.2)=true:=by rw [hr2,List.drop_of_length_le (by rw [List.length_zip]; omega)]; rfl
    rw [hall,Bool.true_and] at hrt
    (repeat(first|refine aA (by simp (disch:=first|omega|exact nnN _|assumption) only [BB,B2,↓reduceIte,Nat.reduceLeDiff,Nat.reduceAdd,CC]<;>rfl) ?_|apply aD|apply aE|with_reducible first|apply aG|apply aF|apply aK|apply aH|apply aJ|apply aI|apply aL|apply aC))
    refine hx2 _ _ _ _ (fun e=>by cases e) (d4 (cO ?_))
    have hj2:∀ (ev2:Env) n',nx+1≤n'→ev2 1=ptr nx→oH ro K ev2 h2 n':=by
     intro ev2 n' hn f1
     unfold oH
     refine bA (fun j e h4 nx4=>∃ (k:Nat),k+j=T.entries.length∧nx+1≤nx4∧h4=h2∧e 1=ptr nx∧e 6=.int .i64 k∧T.entries.all (lE T.kinds.length)=(T.entries.drop k).all (lE T.kinds.length)) ?_ (n:=T.entries.length)
      ⟨0,by omega,by omega,rfl,f1,rfl,rfl⟩
     rintro j4 e4 h4 nx4 ⟨k4,hj4,hnx4,rfl,f1,f6,hr4⟩ Q4 hq4 hx4
     unfold yL
     rw [f1,f6]
     (repeat(first|refine aA (by simp (disch:=first|omega|exact nnN _|assumption) only [BB,B2,↓reduceIte,Nat.reduceLeDiff,Nat.reduceAdd,CC]<;>rfl) ?_|apply aD|apply aE|with_reducible first|apply aG|apply aF|apply aK|apply aH|apply aJ|apply aI|apply aL|apply aC))
     refine aA l3 (aA elen ?_)
     refine cU (fun hk4=>?_) (fun hk4=>?_)
     ·have hk4:k4 < T.entries.length:=by omega
      have eix:=q4'.ix .i64 hk4
      obtain ⟨y,hy1,hy2,hy3,hy4,hy5⟩:=q4'.at hk4
      rw [bT hk4,List.all_cons] at hr4
      generalize T.entries[k4]=ee at hr4 hy1
      (repeat(first|refine aA (by simp (disch:=first|omega|exact nnN _|assumption) only [BB,B2,↓reduceIte,Nat.reduceLeDiff,Nat.reduceAdd,CC,l3,eix,hy3,l1,klen]<;>rfl) ?_|apply aD|apply aE|with_reducible first|apply aG|apply aF|apply aK|apply aH|apply aJ|apply aI|apply aL|apply aC))
      refine aGh (by omega) (hf1.mono (by omega)) hy1 fun n5 hn5=>?_
      cases hft:lE T.kinds.length ee with
      | false =>
       rw [hft] at hr4
       (repeat(first|refine aA (by simp (disch:=first|omega|exact nnN _|assumption) only [BB,B2,↓reduceIte,Nat.reduceLeDiff,Nat.reduceAdd,CC]<;>rfl) ?_|apply aD|apply aE|with_reducible first|apply aG|apply aF|apply aK|apply aH|apply aJ|apply aI|apply aL|apply aC))
       refine hx4 _ _ _ _ (fun e=>by cases e) (eW ?_)
       exact hno (by rw [hrt,hr4]; rfl) _ (by omega)
      | true =>
       rw [hft,Bool.true_and] at hr4
       (repeat(first|refine aA (by simp (disch:=first|omega|exact nnN _|assumption) only [BB,B2,↓reduceIte,Nat.reduceLeDiff,Nat.reduceAdd,CC]<;>rfl) ?_|apply aD|apply aE|with_reducible first|apply aG|apply aF|apply aK|apply aH|apply aJ|apply aI|apply aL|apply aC))
       exact hq4 (j4 - 1) _ _ _ _ (by omega) ⟨k4+1,by omega,by omega,rfl,f1,rfl,hr4⟩ (Sub.refl _)
     ·have hb:fQ T=true:=by rw [hrt,hr4,List.drop_of_length_le (by omega)]; rfl
      (repeat(first|refine aA (by simp (disch:=first|omega|exact nnN _|assumption) only [BB,B2,↓reduceIte,Nat.reduceLeDiff,Nat.reduceAdd,CC]<;>rfl) ?_|apply aD|apply aE|with_reducible first|apply aG|apply aF|apply aK|apply aH|apply aJ|apply aI|apply aL|apply aC))
      refine hx4 _ _ _ _ (fun e=>by cases e) (d4 (cO ?_))
      have hj3:∀ (e9:Env) n9,nx≤n9→oI ro K e9 h4 n9:=by
       intro e9 n9 hn9
       unfold oI
       refine ⟨h,hs1,?_⟩
       rw [← hb]; exact hK _ (by omega)
      exact hj3 _ _ (by omega)
    exact hj2 _ _ (by omega) f1
  exact hj1 _ _ (by omega) e1
end
end V
end Go.Proofs.YtcaccnneblghgaaGreat
namespace Go.Proofs.YtcaccnneblghgaaGreat
namespace V
attribute [local irreducible] aB ifP aS cS eT exP cM
def NI (RR:RgP) (tm tp te:TypeId) (hC:T Obj) (nC p:Nat) (c:List Nat) (many:Int) (cv sv:Value) (C:List (Int × Int)) (k:Nat) (h:T Obj) (nx:Nat) (ps:List (Nat × Nat)) (rv:Value):Prop :=
 h.get p=some (.cells (dZ c many cv sv 0 rv 0).toArray tm)∧dF h rv 1 te (mQ ps) nC∧ps.length=k∧RsX RR h ps (C.take k) (List.replicate k noR)∧Dst ps∧(∀ q∈jT ps,nC≤q)∧Sub hC h∧Fr h nx∧Fr hC nC∧nC≤p∧nC≤nx
section
variable {RR:RgP} {tm tp ta te:TypeId} {ro:Ro} {hC h h':T Obj} {nC p nx n1 n2 k:Nat} {c:List Nat} {many:Int} {cv sv rv:Value} {C:List (Int × Int)} {ps:List (Nat × Nat)}
theorem NI.mono {n':Nat} (hi:NI RR tm tp te hC nC p c many cv sv C k h nx ps rv) (hn:nx≤n'):NI RR tm tp te hC nC p c many cv sv C k h n' ps rv:=by
 obtain ⟨g1,g2,g3,g4,g5,g6,g7,g8,g9,g10,g11⟩:=hi
 exact ⟨g1,g2,g3,g4,g5,g6,g7,g8.mono hn,g9,g10,by omega⟩
theorem NI.sub {n':Nat} (hk:RgOk RR tp ta) (hi:NI RR tm tp te hC nC p c many cv sv C k h nx ps rv) (hs:Sub h h') (hf:Fr h' n') (hn:nx≤n'):NI RR tm tp te hC nC p c many cv sv C k h' n' ps rv:=by
 obtain ⟨g1,g2,g3,g4,g5,g6,g7,g8,g9,g10,g11⟩:=hi
 exact ⟨hs _ _ g1,g2.keepS hs,g3,g4.sub hk hs,g5,g6,g7.trans hs,hf,g9,g10,by omega⟩
theorem NI.step {q:Nat × Nat} {cc:Int × Int} {rv2:Value} {lo:Nat} (hk:RgOk RR tp ta) (e1:tp≠te) (e2:ta≠te) (e3:tm≠tp) (e4:tm≠ta) (e5:tm≠te) (hi:NI RR tm tp te hC nC p c many cv sv C k h nx ps rv) (hcl:c.length=256) (hc:C[k]?=some cc) (hR:RR h q.1 q.2 cc.2.toNat [] 0) (hq1:∀ r∈ps,r.1 < q.1∧r.2 < q.2) (hq2:nC≤q.1∧nC≤q.2) (hn1:n1≠p∧(∀ r∈ps++[q],r.1≠n1∧r.2≠n1)∧nC≤n1)
  (ho:dF h' rv2 1 te (mQ ps++[[ptr q.1]]) nC) (hsb:iW rv2=some n2) (hn2:nx≤n2) (hg:∀ k o,h.get k=some o→k≠n1→iW rv≠some k→h'.get k=some o) (hf:Fr h' (n2+1)) :
  NI RR tm tp te hC nC p c many cv sv C (k+1) (h'.upd p (some (.cells (dZ c many cv sv 0 rv2 0).toArray tm))) (n2+1) (ps++[q]) rv2:=by
 obtain ⟨g1,g2,g3,g4,g5,g6,g7,g8,g9,g10,g11⟩:=hi
 have hp:=g8.lt' g1
 have hr:=g4.snoc hR (r:=noR)
 have hgk:∀ {k:Nat} {cs:Array Value} {e:TypeId},h.get k=some (.cells cs e)→e≠te→k≠n1→h'.get k=some (.cells cs e):=fun hk9 he hne=>hg _ _ hk9 hne (g2.ne hk9 he)
 have hgp:h'.get p=some (.cells (dZ c many cv sv 0 rv 0).toArray tm):=hgk g1 e5 (Ne.symm hn1.1)
 have hty:=hr.ty hk
 refine ⟨T.get_upd_same _ _ _,?_,by simp [g3],?_,g5.snoc fun r hr=>?_,fun k hk=>?_,fun k o hk=>?_,hf.upd (Nat.le_refl _) (by omega),g9,g10,by omega⟩
 ·rw [aJ2]
  exact ho.keepK (ids:=[p]) (fun k o hk hn=>by rw [T.get_upd_ne _ _ (by simpa using hn)]; exact hk) fun id hid hm=>by rw [hsb] at hid; cases hid; simp at hm; omega
 ·rw [List.take_succ_eq_append_getElem (List.getElem?_eq_some_iff.1 hc).1,(List.getElem?_eq_some_iff.1 hc).2,List.replicate_succ']
  refine hr.keep hk fun r hr9=>?_
  obtain ⟨⟨c1,t1⟩,c2,t2⟩:=hty r hr9
  rw [T.get_upd_ne _ _ (fun e=>by rw [e,g1] at t1; simp only [Option.some.injEq,Obj.cells.injEq] at t1; exact e3 t1.2.1),T.get_upd_ne _ _ (fun e=>by rw [e,g1] at t2; simp only [Option.some.injEq,Obj.cells.injEq] at t2; exact e4 t2.2.1),hgk t1 e1 (hn1.2.1 r hr9).1,hgk t2 e2 (hn1.2.1 r hr9).2,t1,t2]
  exact ⟨rfl,rfl⟩
 ·have:=hq1 r hr; omega
 ·obtain ⟨r,hr,h9⟩:=iK.1 hk
  rcases List.mem_append.1 hr with hr | hr
  ·exact g6 k (iK.2 ⟨r,hr,h9⟩)
  ·simp at hr; subst hr; omega
 ·have hlt:=g9.lt' hk
  have h9:=g7 k o hk
  rw [T.get_upd_ne _ _ (by omega)]
  refine hg k o h9 (by have:=hn1.2.2; omega) fun e=>?_
  have:=(g2.blk e).1
  omega
theorem NI.fin {d:AutoD} (hk:RgOk RR tp ta) (e1:tp≠te) (e2:ta≠te) (e5:tm≠te) {X0:List Nat} (hX0:∀ k∈X0,k < nC) (hi:NI RR tm tp te hC nC p d.c d.many cv sv d.counts d.counts.length h nx ps rv) (hA:qJ ro (del hC X0) (dW d.c d.many cv sv) d):MX RR tm ro h (X0++(p::jT ps)) p ps d (aDt d):=by
 obtain ⟨g1,g2,g3,g4,g5,g6,g7,g8,g9,g10,g11⟩:=hi
 have hX:∀ k∈p::jT ps,nC≤k:=fun k hk=>by
  rcases List.mem_cons.1 hk with rfl | hk
  ·exact g10
  ·exact g6 k hk
 have hrs:(aDt d).rs=List.replicate d.counts.length noR:=List.map_const' ..
 rw [List.take_length] at g4
 have hsub:Sub (del hC X0) (del h (X0++(p::jT ps))):=fun k o hk=>by
  rw [jP] at hk
  split at hk
  ·cases hk
  ·rename_i hn
   have:=g9.lt' hk
   exact jV (g7 k o hk) fun hm=>by
    rcases List.mem_append.1 hm with hm | hm
    ·exact hn hm
    ·have:=hX k hm; omega
 refine ⟨cv,sv,rv,g1,hA.sub hsub,(g2.del fun id hid hm=>?_).sl,by rw [hrs]; exact g4,g5,List.mem_append.2 (.inr (List.mem_cons_self ..)),fun k hk=>List.mem_append.2 (.inr (List.mem_cons_of_mem _ hk))⟩
 rcases List.mem_append.1 hm with hm | hm
 ·have:=hX0 id hm; have:=(g2.blk hid).1; omega
 rcases List.mem_cons.1 hm with rfl | hm
 ·exact g2.ne g1 e5 hid
 ·obtain ⟨r,hr,h9⟩:=iK.1 hm
  obtain ⟨⟨c1,t1⟩,c2,t2⟩:=g4.ty hk r hr
  rcases h9 with rfl | rfl
  ·exact g2.ne t1 e1 hid
  ·exact g2.ne t2 e2 hid
end
section
variable {ro:Ro} {h:T Obj} {nx:Nat} {K:KV} {x:List Value} {d:AutoD}
theorem aJA (ha:fE d=true) {k:Nat} (hk:k < d.counts.length):1≤(d.counts[k]).2.toNat∧(d.counts[k]).2.toNat≤4096∧((d.counts[k]).2.toNat:Int)=(d.counts[k]).2:=by
 have:=(fR ha).2.2.2.2.1 _ (List.getElem_mem hk)
 omega
set_option maxRecDepth 8000 in
set_option maxHeartbeats 1000000 in
theorem aJH {X0:List Nat} (hf:Fr h nx) (hd:qJ ro h x d) (hK0:fE d=false→∀ nx',nx≤nx'→K (.tuple #[.pointer none,.int .i64 1]) h nx')
  (hX0:∀ k∈X0,k < nx)
  (hK1:fE d=true→∀ p ps X h' nx',nx≤nx'→Fr h' nx'→Sub h h'→(∀ k∈X,nx≤k∧k < nx')→X=p::jT ps→MI ro h' (X0++X) p ps (er d) (aDt d)→K (.tuple #[ptr p,.int .i64 0]) h' nx'):aN Tryz.prog ro aA3 [.agg x.toArray] h nx K:=by
 obtain ⟨cv,sv,hxe,hc,hclt,hcv,hS,hb1,hb2⟩:=id hd
 have m7:=lA (n:=d.many) (cv:=cv) (sv:=sv) hc
 apply aH6
 unfold aH5
 refine eE hf (Nat.le_refl _) fun h1 hs1 hf1 g1 _=>?_
 have g1:h1.get nx=some (.cells x.toArray bI):=g1
 have hxl:x.length=259:=by rw [hxe]; exact cR hc
 have LA:=dG (ro:=ro) (z:=0) (n:=259) (l:=x) g1 hxl
 refine aA LA ?_
 refine aAn (hf1.mono (by omega)) (hd.sub hs1) fun n1 hn1=>?_
 cases hok:fE d with
 | false =>
  (repeat(first|refine aA (by simp (disch:=first|omega|exact nnN _|assumption) only [BB,B2,↓reduceIte,Nat.reduceLeDiff,Nat.reduceAdd,CC]<;>rfl) ?_|apply aD|apply aE|with_reducible first|apply aG|apply aF|apply aK|apply aH|apply aJ|apply aI|apply aL|apply aC))
  exact ⟨h,hs1,hK0 hok _ (by omega)⟩
 | true =>
  have hfit:=aP2 hok hc
  have hC512:=(fR hok).2.1
  (repeat(first|refine aA (by simp (disch:=first|omega|exact nnN _|assumption) only [BB,B2,↓reduceIte,Nat.reduceLeDiff,Nat.reduceAdd,CC]<;>rfl) ?_|apply aD|apply aE|with_reducible first|apply aG|apply aF|apply aK|apply aH|apply aJ|apply aI|apply aL|apply aC))
  refine aA LA ?_
  refine aEp (X0:=X0) (hf1.mono (by omega)) (fun k hk=>by have:=hX0 k hk; omega) (hd.sub hs1) hfit fun cv2 sv2 hC nC hnC hfC hsC hAC=>?_
  refine aA (aIt hc) (aG2 hfC (by omega) fun h2 hs2 hf2 g2 _=>?_)
  have g2:h2.get (nC+1)=some (.cells (dZ d.c d.many cv2 sv2 0 cT 0).toArray bG):=g2
  have g12:=hs2 _ _ (hsC _ _ g1)
  have hcv2:=hcv.sub ((hs1.trans hsC).trans hs2) fun _ _ h=>h
  (repeat(first|refine aA (by simp (disch:=first|omega|exact nnN _|assumption) only [BB,B2,↓reduceIte,Nat.reduceLeDiff,Nat.reduceAdd,CC]<;>rfl) ?_|apply aD|apply aE|with_reducible first|apply aG|apply aF|apply aK|apply aH|apply aJ|apply aI|apply aL|apply aC))
  refine aA (aU g12 (by rw [hxe]; exact m7)) ?_
  refine aA hcv2.len ?_
  have hNI0:NI RI bG bL kR hC nC (nC+1) d.c d.many cv2 sv2 d.counts 0 h2 (nC+2) [] cT:=⟨g2,dF.nil,rfl,⟨rfl,rfl,fun i p c r hp=>by simp at hp⟩,Dst.nil,(fun q hq=>by simp [jT] at hq),hs2,hf2,hfC,by omega,by omega⟩
  refine bA (fun j e h' nx'=>∃ (k:Nat) (ps:List (Nat × Nat)) (rv:Value),k+j=d.counts.length∧nC+2≤nx'∧e 4=ptr (nC+1)∧e 17=cv∧e 18=.int .i64 d.counts.length∧e 19=.int .i64 k∧NI RI bG bL kR hC nC (nC+1) d.c d.many cv2 sv2 d.counts k h' nx' ps rv) ?_ (n:=d.counts.length) ⟨0,[],cT,by omega,by omega,rfl,rfl,rfl,rfl,hNI0.mono (by omega)⟩
  rintro j e h' nx' ⟨k,ps,rv,hj,hnx,e4,e17,e18,e19,hi⟩ Q' hq hx
  have hfh:=hi.2.2.2.2.2.2.2.1
  have hsh:=hi.2.2.2.2.2.2.1
  unfold aCM
  rw [e4,e17,e18,e19]
  refine cU (fun hk=>?_) (fun hk=>?_)
  ·have hk:k < d.counts.length:=by omega
   obtain ⟨b1,b2,b3⟩:=aJA hok hk
   have hcvh:=hcv.sub ((hs1.trans hsC).trans hsh) fun _ _ h=>h
   have hix:=hcvh.ix .i64 hk
   obtain ⟨y,hy1,hy2,hy3,hy4,hy5⟩:=hcvh.at hk
   have hck:d.counts[k]?=some d.counts[k]:=List.getElem?_eq_getElem _
   generalize d.counts[k]=cc at b1 b2 b3 hy1 hck
   obtain rfl:y=[.int .i64 cc.1,.int .i64 cc.2]:=hy1
   (repeat(first|refine aA (by simp (disch:=first|omega|exact nnN _|assumption) only [BB,B2,↓reduceIte,Nat.reduceLeDiff,Nat.reduceAdd,CC]<;>rfl) ?_|apply aD|apply aE|with_reducible first|apply aG|apply aF|apply aK|apply aH|apply aJ|apply aI|apply aL|apply aC))
   refine aA hix (aA hy3 ?_)
   refine jD (x:=[.int .i64 cc.1,.int .i64 cc.2]) aGw rfl rfl rfl rfl hfh (by omega) fun h3 hs3 hf3 g3 _=>?_
   (repeat(first|refine aA (by simp (disch:=first|omega|exact nnN _|assumption) only [BB,B2,↓reduceIte,Nat.reduceLeDiff,Nat.reduceAdd,CC,g3]<;>rfl) ?_|apply aD|apply aE|with_reducible first|apply aG|apply aF|apply aK|apply aH|apply aJ|apply aI|apply aL|apply aC))
   rw [← b3]
   refine aJa (hf3.mono (by omega)) b1 b2 fun p' a' h4 n4 hp' ha' hn4 hs4 hf4 hR4=>?_
   refine aA (aLJ _ _) (aA (aLK _ _) ?_)
   have hi4:=hi.sub (n':=n4) jM (hs3.trans hs4) hf4 (by omega)
   have m0:=u0 (n:=d.many) (cv:=cv2) (sv:=sv2) (cur:=0) (rv:=rv) (steps:=0) hc
   refine aBO rfl ?_
   (repeat(first|refine aA (by simp (disch:=first|omega|exact nnN _|assumption) only [BB,B2,↓reduceIte,Nat.reduceLeDiff,Nat.reduceAdd,CC,a8]<;>rfl) ?_|apply aD|apply aE|with_reducible first|apply aG|apply aF|apply aK|apply aH|apply aJ|apply aI|apply aL|apply aC))
   refine aA (aU hi4.1 m0) ?_
   obtain ⟨i,t1,t2,t3⟩:=aPi
   have hplen:ps.length≤1000000:=by have:=hi.2.2.1; omega
   refine aAW (z:=1) (l:=mQ ps) (y:=[ptr p']) (aPQ _ _) rfl hi4.2.1 aO4 t1 (by omega) (by omega) aPp rfl rfl (by rw [o7,t3]; unfold big; omega) (by rw [o7]; unfold big; omega) (hf4.mono (by omega)) (by omega) (by omega) (fun e=>by have:=hf4.lt' (hi4.2.1.blk e).2; omega) fun h5 ho5 hk5 hf5=>?_
   generalize hnv:Value.slice (some (own (n4+15) 1)) (mQ ps++[[ptr p']]).length (mQ ps++[[ptr p']]).length=rv2 at ho5
   have hsb:iW rv2=some (n4+15):=by rw [← hnv]; rfl
   have g5:=hk5 _ _ hi4.1 (by have:=hf4.lt' hi4.1; omega) (hi4.2.1.ne hi4.1 (by decide))
   have hlt4:=hi.2.2.2.1.lt jM hfh
   have hfin:=hi4.step (h':=h5) (q:=(p',a')) (cc:=cc) (rv2:=rv2) (n1:=n4+13) (n2:=n4+15) (lo:=nC) jM (by decide) (by decide) (by decide) (by decide) (by decide) hc hck hR4 (fun r hr=>by have:=hlt4 r hr; show r.1 < p'∧r.2 < a'; omega) (by show nC≤p'∧nC≤a'; omega) ⟨by have:=hf4.lt' hi4.1; omega,fun r hr=>by
    rcases List.mem_append.1 hr with hr | hr
    ·have:=hlt4 r hr; omega
    ·simp at hr; subst hr; have:=jM.p hR4; have:=jM.a hR4; obtain ⟨c1,t8⟩:=jM.p hR4; obtain ⟨c2,t9⟩:=jM.a hR4; have:=hf4.lt' t8; have:=hf4.lt' t9; show p'≠_∧a'≠_; omega,by omega⟩ ho5 hsb (by omega) hk5 hf5
   dsimp only
   (repeat(first|refine aA (by simp (disch:=first|omega|exact nnN _|assumption) only [BB,B2,↓reduceIte,Nat.reduceLeDiff,Nat.reduceAdd,CC,a8]<;>rfl) ?_|apply aD|apply aE|with_reducible first|apply aG|apply aF|apply aK|apply aH|apply aJ|apply aI|apply aL|apply aC))
   refine aA (dD g5 (by rw [u7 hc]; omega) ho5.ok (by rw [← hnv]; rfl)) ?_
   rw [aGV hc]
   (repeat(first|refine aA (by simp (disch:=first|omega|exact nnN _|assumption) only [BB,B2,↓reduceIte,Nat.reduceLeDiff,Nat.reduceAdd,CC]<;>rfl) ?_|apply aD|apply aE|with_reducible first|apply aG|apply aF|apply aK|apply aH|apply aJ|apply aI|apply aL|apply aC))
   exact hq (j - 1) _ _ _ _ (by omega) ⟨k+1,ps++[(p',a')],rv2,by omega,by omega,e4,e17,e18,rfl,hfin.mono (by omega)⟩ (Sub.refl _)
  ·(repeat(first|refine aA (by simp (disch:=first|omega|exact nnN _|assumption) only [BB,B2,↓reduceIte,Nat.reduceLeDiff,Nat.reduceAdd,CC]<;>rfl) ?_|apply aD|apply aE|with_reducible first|apply aG|apply aF|apply aK|apply aH|apply aJ|apply aI|apply aL|apply aC))
   refine hx _ _ _ _ (fun e=>by cases e) (d4 (cO ?_))
   obtain rfl:k=d.counts.length:=by omega
   have hMX:=NI.fin (ro:=ro) (d:=er d) (X0:=X0) jM (by decide) (by decide) (by decide) (fun k hk=>by have:=hX0 k hk; omega) hi hAC
   have hend:∀ (e':Env) n',e' 4=ptr (nC+1)→nx'≤n'→tJ ro K e' h' n':=by
    intro e' n' f4 hn'
    unfold tJ
    rw [f4]
    refine ⟨h',Sub.refl _,hK1 hok _ ps _ h' _ (by omega) (hfh.mono (by omega)) ((hs1.trans hsC).trans hsh) (fun k hk=>?_) rfl hMX⟩
    have hlt9:=hMX.lt jM hfh
    rcases List.mem_cons.1 hk with rfl | hk
    ·have:=hlt9.1; omega
    ·have:=hi.2.2.2.2.2.1 k hk; have:=hlt9.2 k hk; omega
   exact hend _ _ e4 (by omega)
end
end V
end Go.Proofs.YtcaccnneblghgaaGreat
namespace Go.Proofs.YtcaccnneblghgaaGreat
namespace V
attribute [local irreducible] aB ifP aS cS eT exP cM
theorem aM8 (id:Nat):bQ Tryz.prog jL id 0 []=some (.slice (some (own id 1)) 0 0,some (.cells #[] oR)):=by kernel_rfl
theorem aNV:und Tryz.prog jL=some (.slice oR):=by kernel_rfl
theorem aOZ:∃ i,tin Tryz.prog oR=some i∧i.size=1∧i.bytes=16:=wU (by kernel_rfl)
theorem aOd:zer Tryz.prog oR=some (.string .empty):=by kernel_rfl
theorem aLb:und Tryz.prog iO=some (.slice iE):=by kernel_rfl
theorem aNM:∃ i,tin Tryz.prog iE=some i∧i.size=1∧i.bytes=8:=wU (by kernel_rfl)
theorem aN1:zer Tryz.prog iE=some (.pointer none):=by kernel_rfl
theorem aM9 (id p:Nat):bQ Tryz.prog iO id 1 [(0,ptr p)]=some (.slice (some (own id 1)) 1 1,some (.cells [ptr p].toArray iE)):=by kernel_rfl
theorem aNT:und Tryz.prog iC=some (.slice cK):=by kernel_rfl
theorem aOX:∃ i,tin Tryz.prog cK=some i∧i.size=260∧i.bytes=336:=wU (by kernel_rfl)
theorem aKf (o:Option Addr) (l c:Nat):fF Tryz.prog cK [(1,.slice o l c)]=some (.agg (vL++[Value.slice o l c]).toArray):=by kernel_rfl
theorem aNr (id:Nat) (o:Option Addr) (l c:Nat):bQ Tryz.prog iC id 1 [(0,.agg (vL++[Value.slice o l c]).toArray)]=some (.slice (some (own id 260)) 1 1,some (.cells (vL++[Value.slice o l c]).toArray cK)):=by kernel_rfl
theorem aBa:fF Tryz.prog j9 [(2,.int .i64 (-1))]=some (.agg #[.int .i64 0,.int .i64 0,.int .i64 (-1)]):=by kernel_rfl
theorem aIu (m:Int):fF Tryz.prog aQ [(2,.int .i64 m),(5,.bool true),(7,.agg #[.int .i64 0,.int .i64 0,.int .i64 (-1)])]=some (.agg #[cT,cT,cT,cT,cT,.int .i64 m,cT,.int .i64 0,.bool true,.int .i64 0,.int .i64 0,.int .i64 0,.int .i64 (-1),.int .i64 0,.bool false,.int .i64 0]):=by kernel_rfl
theorem MX.shrink {RR:RgP} {ty:TypeId} {ro:Ro} {h:T Obj} {X X':List Nat} {p:Nat} {ps:List (Nat × Nat)} {d:AutoD} {m:MacD} (hm:MX RR ty ro h X p ps d m) (hX:∀ k∈X',k∈X) (hp:∀ k∈p::jT ps,k∈X'):MX RR ty ro h X' p ps d m:=by
 obtain ⟨cv,sv,rv,g1,g2,g3,g4,g5,g6,g7⟩:=hm
 have hD:Sub (del h X) (del h X'):=fun k o hk=>by
  rw [jP] at hk
  split at hk
  ·cases hk
  ·rename_i hn
   exact jV hk fun e=>hn (hX k e)
 exact ⟨cv,sv,rv,g1,g2.sub hD,g3.sub hD,g4,g5,hp p (List.mem_cons_self ..),fun k hk=>hp k (List.mem_cons_of_mem _ hk)⟩
theorem MsX.shrink {ro:Ro} {h:T Obj} {X X':List Nat} {qs:List MqD} {ds:List AutoD} {ms:List MacD} (hm:MsX ro h X qs ds ms) (hX:∀ k∈X',k∈X) (hp:∀ q∈qs,∀ k∈mO q,k∈X'):MsX ro h X' qs ds ms :=
 ⟨hm.lq,hm.lm,fun i q d m h1 h2 h3=>(hm.at_ i q d m h1 h2 h3).shrink hX (hp q (List.mem_of_getElem? h1)),hm.dis⟩
section
variable {ro:Ro} {h:T Obj} {nx:Nat} {K:KV}
theorem aHO {v:Value} {l:List ByteArray} (hv:SlR ro h v 1 xH l) (hl:l.length≤1000000) (hf:Fr h nx) (hK:∀ r h' n',nx≤n'→Fr h' n'→Sub h h'→dF h' r 1 oR (aAQ l) nx→K r h' n'):aN Tryz.prog ro gZ [v] h nx K:=by
 apply p7
 unfold lS
 obtain ⟨i,g1,g2,g3⟩:=aOZ
 obtain ⟨cs,h1,h2,h3⟩:=hv
 have hcs:cs=aAQ l:=by
  apply List.ext_getElem?
  intro k
  rcases Nat.lt_or_ge k l.length with hk | hk
  ·have e1:cs[k]?=some (cs[k]'(by omega)):=List.getElem?_eq_getElem _
   have e2:l[k]?=some l[k]:=List.getElem?_eq_getElem _
   have:=(h3 k _ _ e1 e2).1
   rw [e1,this,aFo hk]
  ·rw [List.getElem?_eq_none (by omega),List.getElem?_eq_none (by rw [zI]; omega)]
 subst hcs
 exact rU h1 aM8 aNV g1 (by omega) (by omega) aOd rfl (by simp [aAQ,cP]) (by rw [zI,g3]; unfold big; omega) (by rw [zI]; unfold big; omega) hf hK
end
end V
end Go.Proofs.YtcaccnneblghgaaGreat
namespace Go.Proofs.YtcaccnneblghgaaGreat
namespace V
attribute [local irreducible] aB ifP aS cS eT exP cM
theorem MX.ty {ro:Ro} {h:T Obj} {X:List Nat} {p:Nat} {ps:List (Nat × Nat)} {d:AutoD} {m:MacD} (hm:MI ro h X p ps d m):∀ k∈p::jT ps,∃ c e,h.get k=some (.cells c e)∧(e=bG∨e=bL∨e=dK):=fun k hk=>by
 obtain ⟨cv,sv,rv,g1,g2,g3,g4,g5,g6,g7⟩:=hm
 rcases List.mem_cons.1 hk with rfl | hk
 ·exact ⟨_,_,g1,.inl rfl⟩
 ·obtain ⟨q,hq,h9⟩:=iK.1 hk
  obtain ⟨⟨c1,t1⟩,c2,t2⟩:=g4.ty jM q hq
  rcases h9 with rfl | rfl
  ·exact ⟨_,_,t1,.inr (.inl rfl)⟩
  ·exact ⟨_,_,t2,.inr (.inr rfl)⟩
theorem MX.neB {ro:Ro} {h:T Obj} {X:List Nat} {p:Nat} {ps:List (Nat × Nat)} {d:AutoD} {m:MacD} (hm:MI ro h X p ps d m) {k:Nat} {c:Array Value} {e:TypeId} (hk:h.get k=some (.cells c e)) (he:e≠bG∧e≠bL∧e≠dK):k ∉ p::jT ps:=fun h9=>by
 obtain ⟨c2,e2,g1,g2⟩:=hm.ty k h9
 rw [hk] at g1
 simp only [Option.some.injEq,Obj.cells.injEq] at g1
 rcases g2 with g2 | g2 | g2
 ·exact he.1 (g1.2.1.trans g2)
 ·exact he.2.1 (g1.2.1.trans g2)
 ·exact he.2.2 (g1.2.1.trans g2)
theorem MsX.neB {ro:Ro} {h:T Obj} {X:List Nat} {qs:List MqD} {ds:List AutoD} {ms:List MacD} (hm:MsX ro h X qs ds ms) {k:Nat} {c:Array Value} {e:TypeId} (hk:h.get k=some (.cells c e)) (he:e≠bG∧e≠bL∧e≠dK):∀ q∈qs,k ∉ mO q:=fun q hq=>by
 obtain ⟨i,hi⟩:=List.getElem?_of_mem hq
 have hl:=(List.getElem?_eq_some_iff.1 hi).1
 exact (hm.at_ i q _ _ hi (List.getElem?_eq_getElem (by rw [← hm.lq]; exact hl)) (List.getElem?_eq_getElem (by rw [hm.lm,← hm.lq]; exact hl))).neB hk he
structure NwI (ro:Ro) (X0:List Nat) (hC:T Obj) (nC p:Nat) (Tb:TabD) (most:Int) (kv tv:Value) (i j:Nat) (h:T Obj) (nx:Nat) (X:List Nat) (qs:List MqD) (mv ev:Value) (es:List (List Value)):Prop where
 cell:h.get p=some (.cells (scL kv tv ev mv most cT (gJ Tb) 0).toArray aQ)
 mo:dF h mv 1 iE (sN qs) nC
 eo:dF h ev 260 cK es nC
 el:es.length=j
 erd:∀ (k:Nat) x e,es[k]?=some x→Tb.entries[k]?=some e→pK ro (del h X) x e
 kr:Sl ro (del h X) kv 1 (aAQ Tb.kinds)
 tr:Sl ro (del h X) tv 1 (kC Tb.to)
 mq:MsX ro h X qs ((Tb.entries.map (·.a)).take i) ((Tb.entries.map fun e=>aDt e.a).take i)
 xl:∀ b∈X,b < nx
 pc:nC≤p
 ql:∀ q∈qs,∀ b∈mO q,nC≤b
 x0:∀ b∈X0,b∈X
 xp:p∈X
 xm:∀ b∈kF mv,b∈X
 xe:∀ b∈kF ev,b∈X
 sb:Sub hC h
 frr:Fr h nx
 frC:Fr hC nC
section
variable {ro:Ro} {hC h h' h1 h2:T Obj} {nC p nx n1 n2 l1 i j k:Nat} {Tb:TabD} {most:Int} {kv tv mv ev mv2 ev2:Value} {X0 X:List Nat} {qs:List MqD} {es:List (List Value)}
theorem NwI.nle (hi:NwI ro X0 hC nC p Tb most kv tv i j h nx X qs mv ev es):nC≤p∧p < nx:=⟨hi.pc,hi.xl p hi.xp⟩
theorem NwI.subs (hi:NwI ro X0 hC nC p Tb most kv tv i j h nx X qs mv ev es) (hs:Sub h h') (hf:Fr h' n1) (hn:nx≤n1):NwI ro X0 hC nC p Tb most kv tv i j h' n1 X qs mv ev es:=by
 have hD:Sub (del h X) (del h' X):=dL.del (ids:=[]) hs.keepL (fun k hk=>by cases hk) fun k hk=>.inl hk
 exact ⟨hs _ _ hi.cell,hi.mo.keepS hs,hi.eo.keepS hs,hi.el,fun k x e h1 h2=>(hi.erd k x e h1 h2).sub hD,hi.kr.sub hD,hi.tr.sub hD,hi.mq.subX hs,fun b hb=>by have:=hi.xl b hb; omega,hi.pc,hi.ql,hi.x0,hi.xp,hi.xm,hi.xe,hi.sb.trans hs,hf,hi.frC⟩
theorem NwI.neM (hi:NwI ro X0 hC nC p Tb most kv tv i j h nx X qs mv ev es):∀ b∈p::kF mv,(∃ c e,h.get b=some (.cells c e)∧e≠bG∧e≠bL∧e≠dK):=fun b hb=>by
 rcases List.mem_cons.1 hb with rfl | hb
 ·exact ⟨_,_,hi.cell,by decide,by decide,by decide⟩
 ·exact ⟨_,_,(hi.mo.blk (eK.1 hb)).2,by decide,by decide,by decide⟩
theorem NwI.neE (hi:NwI ro X0 hC nC p Tb most kv tv i j h nx X qs mv ev es):∀ b∈p::kF ev,(∃ c e,h.get b=some (.cells c e)∧e≠bG∧e≠bL∧e≠dK):=fun b hb=>by
 rcases List.mem_cons.1 hb with rfl | hb
 ·exact ⟨_,_,hi.cell,by decide,by decide,by decide⟩
 ·exact ⟨_,_,(hi.eo.blk (eK.1 hb)).2,by decide,by decide,by decide⟩
theorem aJ3 (qs:List MqD) (q:MqD):sN (qs++[q])=sN qs++[[ptr q.1]]:=by simp [sN]
theorem NwI.mach (hi0:NwI ro X0 hC nC p Tb most kv tv k j h nx X qs mv ev es) {q:MqD} {e:EntD} (he:Tb.entries[k]?=some e) (hn:MI ro h1 (X++mO q) q.1 q.2 (er e.a) (aDt e.a)) (hs:Sub h h1) (hf1:Fr h1 n1) (hb:∀ b∈mO q,nx≤b∧b < n1) (hnx:nx≤n1)
  (ho:dF h2 mv2 1 iE (sN qs++[[ptr q.1]]) nC) (hsb:iW mv2=some n2) (hg:∀ b o,h1.get b=some o→b≠l1→iW mv≠some b→h2.get b=some o) (hl1:n1≤l1) (hn2:n1≤n2) (hf2:Fr h2 (n2+1)) :
  NwI ro X0 hC nC p Tb most kv tv (k+1) j (h2.upd p (some (.cells (scL kv tv ev mv2 most cT (gJ Tb) 0).toArray aQ))) (n2+1) (X++mO q++[n2]) (qs++[q]) mv2 ev es:=by
 have hpx:=hi0.nle
 have hi:=hi0.subs hs hf1 hnx
 have hkk:dL (kF mv) h1 h2:=fun b o hb hn=>hg b o hb (by have:=hf1.lt' hb; omega) fun e=>hn (eK.2 e)
 have hK:dL (p::kF mv) h1 (h2.upd p (some (.cells (scL kv tv ev mv2 most cT (gJ Tb) 0).toArray aQ))):=(hkk.mono fun b hb=>List.mem_cons_of_mem _ hb).upd (List.mem_cons_self ..)
 have hidX:∀ b∈p::kF mv,b∈X:=fun b hb=>by
  rcases List.mem_cons.1 hb with rfl | hb
  ·exact hi.xp
  ·exact hi.xm b hb
 have hX2:∀ b∈X++mO q++[n2],b∈X++mO q∨h1.get b=none:=fun b hb=>by
  rcases List.mem_append.1 hb with hb | hb
  ·exact .inl hb
  ·simp at hb; subst hb; exact .inr (hf1 _ (by omega))
 have hX3:∀ b∈X++mO q++[n2],b∈X∨h.get b=none:=fun b hb'=>by
  rcases List.mem_append.1 hb' with hb' | hb'
  ·rcases List.mem_append.1 hb' with hb' | hb'
   ·exact .inl hb'
   ·exact .inr (hi0.frr _ (hb b hb').1)
  ·simp at hb'; subst hb'; exact .inr (hi0.frr _ (by omega))
 have hX4:∀ b∈X,b∈X++mO q++[n2]:=fun b hb=>List.mem_append_left _ (List.mem_append_left _ hb)
 have hgA:=hs.keepL (ids:=p::kF mv) |>.trans hK
 have hD:Sub (del h X) (del (h2.upd p (some (.cells (scL kv tv ev mv2 most cT (gJ Tb) 0).toArray aQ))) (X++mO q++[n2])):=hgA.del hidX hX3
 have hneM:=hi.neM
 have hdis:∀ b∈p::kF mv,∀ r∈qs,b ∉ mO r:=fun b hb' r hr=>by
  obtain ⟨c,e9,g1,g2⟩:=hneM b hb'
  exact hi.mq.neB g1 g2 r hr
 have hdq:∀ b∈p::kF mv,b ∉ mO q:=fun b hb'=>by
  obtain ⟨c,e9,g1,g2⟩:=hneM b hb'
  exact hn.neB g1 g2
 have hmq:=hi0.mq.keep hgA hidX (fun r hr b hb'=>hdis b hb' r hr) hX3 hX4
 have hnq:=hn.keep (X':=X++mO q++[n2]) jM hK (fun b hb'=>List.mem_append_left _ (hidX b hb')) (fun b hb'=>by
  have:=hdq b hb'
  exact ⟨fun e=>this (by rw [e]; exact List.mem_cons_self ..),fun e=>this (List.mem_cons_of_mem _ e)⟩) hX2 fun b hb'=>List.mem_append_left _ hb'
 have hlen:k < Tb.entries.length:=(List.getElem?_eq_some_iff.1 he).1
 have hget:=(List.getElem?_eq_some_iff.1 he).2
 have hpe:iW ev≠some p:=hi.eo.ne hi.cell (by decide)
 have hpm:iW mv2≠some p:=by rw [hsb]; intro e9; cases e9; omega
 have hem:∀ b,iW ev=some b→iW mv≠some b:=fun b hb' e9=>by
  have g1:=(hi.eo.blk hb').2
  have g2:=(hi.mo.blk e9).2
  rw [g1] at g2
  simp only [Option.some.injEq,Obj.cells.injEq] at g2
  exact absurd g2.2.1 (by decide)
 refine ⟨T.get_upd_same _ _ _,?_,?_,hi.el,fun k x e h1 h2=>(hi0.erd k x e h1 h2).sub hD,hi0.kr.sub hD,hi0.tr.sub hD,?_,fun b hb'=>?_,hi.pc,fun r hr b hb'=>?_,fun b hb'=>hX4 b (hi.x0 b hb'),hX4 p hi.xp,fun b hb'=>?_,fun b hb'=>hX4 b (hi.xe b hb'),fun b o hb'=>?_,hf2.upd (Nat.le_refl _) (by omega),hi.frC⟩
 ·rw [aJ3]
  exact ho.keepK (ids:=[p]) ((Sub.refl _).keepL.upd (by simp)) fun id hid hm=>by simp at hm; subst hm; exact hpm hid
 ·exact hi.eo.keepK (ids:=p::kF mv) hK fun id hid hm=>by
   rcases List.mem_cons.1 hm with rfl | hm
   ·exact hpe hid
   ·exact hem id hid (eK.1 hm)
 ·have t1:(Tb.entries.map (·.a)).take (k+1)=(Tb.entries.map (·.a)).take k++[e.a]:=by
   rw [List.take_succ_eq_append_getElem (by rw [List.length_map]; exact hlen),List.getElem_map,hget]
  have t2:(Tb.entries.map fun e=>aDt e.a).take (k+1)=(Tb.entries.map fun e=>aDt e.a).take k++[aDt e.a]:=by
   rw [List.take_succ_eq_append_getElem (by rw [List.length_map]; exact hlen),List.getElem_map,hget]
  rw [t1,t2]
  refine hmq.snoc hnq fun r hr b hb' hb9=>?_
  have g1:=(hb b hb9).1
  obtain ⟨i9,hi9⟩:=List.getElem?_of_mem hr
  have g2:=hi0.xl b (hi0.mq.inX hi9 b hb')
  omega
 ·have hx:=hi0.nle
  rcases List.mem_append.1 hb' with hb' | hb'
  ·rcases List.mem_append.1 hb' with hb' | hb'
   ·have:=hi0.xl b hb'; omega
   ·have:=hb b hb'; omega
  ·simp at hb'; subst hb'; omega
 ·rcases List.mem_append.1 hr with hr | hr
  ·exact hi.ql r hr b hb'
  ·simp at hr; subst hr
   have:=(hb b hb').1
   omega
 ·have:=eK.1 hb'
  rw [hsb] at this
  cases this
  exact List.mem_append_right _ (by simp)
 ·have h9:=hi.sb b o hb'
  have hlt:=hi.frC.lt' hb'
  rw [T.get_upd_ne _ _ (by omega)]
  refine hg b o h9 (by omega) fun e9=>?_
  have:=(hi.mo.blk e9).1
  omega
theorem NwI.ent (hi0:NwI ro X0 hC nC p Tb most kv tv i k h nx X qs mv ev es) {n0:Nat} {rv:Value} {e:EntD} (he:Tb.entries[k]?=some e) (hs:Sub h h1) (hrv:dF h1 rv 1 dK (kC e.rules) n0) (hn0:nx≤l1) (hl0:l1 < n0)
  (ho:dF h2 ev2 260 cK (es++[vL++[rv]]) nC) (hsb:iW ev2=some n2) (hg:∀ b o,h1.get b=some o→b≠l1→iW ev≠some b→h2.get b=some o) (hn2:n0≤n2) (hf1:Fr h1 n2) (hf2:Fr h2 (n2+1)) :
  NwI ro X0 hC nC p Tb most kv tv i (k+1) (h2.upd p (some (.cells (scL kv tv ev2 mv most cT (gJ Tb) 0).toArray aQ))) (n2+1) (X++[n2]) qs mv ev2 (es++[vL++[rv]]):=by
 have hpx:=hi0.nle
 have hgA:dL (p::kF ev) h (h2.upd p (some (.cells (scL kv tv ev2 mv most cT (gJ Tb) 0).toArray aQ))):=fun b o hb hn=>by
  have hlt:=hi0.frr.lt' hb
  rw [T.get_upd_ne _ _ fun e9=>hn (by rw [e9]; exact List.mem_cons_self ..)]
  exact hg b o (hs b o hb) (by omega) fun e9=>hn (List.mem_cons_of_mem _ (eK.2 e9))
 have hidX:∀ b∈p::kF ev,b∈X:=fun b hb=>by
  rcases List.mem_cons.1 hb with rfl | hb
  ·exact hi0.xp
  ·exact hi0.xe b hb
 have hX3:∀ b∈X++[n2],b∈X∨h.get b=none:=fun b hb'=>by
  rcases List.mem_append.1 hb' with hb' | hb'
  ·exact .inl hb'
  ·simp at hb'; subst hb'; exact .inr (hi0.frr _ (by omega))
 have hX4:∀ b∈X,b∈X++[n2]:=fun b hb=>List.mem_append_left _ hb
 have hD:=hgA.del hidX hX3
 have hneE:=hi0.neE
 have hmq:=hi0.mq.keep hgA hidX (fun r hr b hb'=>by
  obtain ⟨c,e9,g1,g2⟩:=hneE b hb'
  exact hi0.mq.neB g1 g2 r hr) hX3 hX4
 have hpm:iW mv≠some p:=hi0.mo.ne hi0.cell (by decide)
 have hpe:iW ev2≠some p:=by rw [hsb]; intro e9; cases e9; omega
 have hem:∀ b,iW mv=some b→iW ev≠some b:=fun b hb' e9=>by
  have g1:=(hi0.mo.blk hb').2
  have g2:=(hi0.eo.blk e9).2
  rw [g1] at g2
  simp only [Option.some.injEq,Obj.cells.injEq] at g2
  exact absurd g2.2.1 (by decide)
 have hel:=hi0.el
 have hrv2:Sl ro (del (h2.upd p (some (.cells (scL kv tv ev2 mv most cT (gJ Tb) 0).toArray aQ))) (X++[n2])) rv 1 (kC e.rules):=by
  have h9:dF (h2.upd p (some (.cells (scL kv tv ev2 mv most cT (gJ Tb) 0).toArray aQ))) rv 1 dK (kC e.rules) n0:=by
   rcases hrv with h9 | ⟨id,r1,r2,r3,r4⟩
   ·exact .inl h9
   ·refine .inr ⟨id,r1,r2,r3,?_⟩
    rw [T.get_upd_ne _ _ (by omega)]
    refine hg _ _ r4 (by omega) fun e9=>?_
    have:=hi0.xl _ (hi0.xe _ (eK.2 e9))
    omega
  refine (h9.del fun id hid hm=>?_).sl
  have g1:=(h9.blk hid).1
  rcases List.mem_append.1 hm with hm | hm
  ·have:=hi0.xl id hm; omega
  ·simp at hm; subst hm
   have g2:h1.get id=none:=hf1 _ (Nat.le_refl _)
   rcases hrv with ⟨r1,_⟩ | ⟨id2,r1,r2,r3,r4⟩
   ·rw [r1] at hid; cases hid
   ·rw [r2] at hid
    cases hid
    have g3:h1.get id2=none:=g2
    rw [r4] at g3; cases g3
 refine ⟨T.get_upd_same _ _ _,?_,?_,by simp [hel],fun j x e9 hx1 hx2=>?_,hi0.kr.sub hD,hi0.tr.sub hD,hmq,fun b hb'=>?_,hi0.pc,hi0.ql,fun b hb'=>hX4 b (hi0.x0 b hb'),hX4 p hi0.xp,fun b hb'=>hX4 b (hi0.xm b hb'),fun b hb'=>?_,fun b o hb'=>?_,hf2.upd (Nat.le_refl _) (by omega),hi0.frC⟩
 ·exact hi0.mo.keepK hgA fun id hid hm=>by
   rcases List.mem_cons.1 hm with rfl | hm
   ·exact hpm hid
   ·exact hem id hid (eK.1 hm)
 ·exact ho.keepK (ids:=[p]) ((Sub.refl _).keepL.upd (by simp)) fun id hid hm=>by simp at hm; subst hm; exact hpe hid
 ·rcases Nat.lt_or_ge j es.length with hj | hj
  ·rw [List.getElem?_append_left hj] at hx1
   exact (hi0.erd j x e9 hx1 hx2).sub hD
  ·rw [List.getElem?_append_right hj] at hx1
   have hj0:j - es.length=0:=by
    rcases Nat.eq_zero_or_pos (j - es.length) with h0 | h0
    ·exact h0
    ·rw [List.getElem?_eq_none (by simp; omega)] at hx1; cases hx1
   rw [hj0] at hx1
   simp only [List.getElem?_cons_zero,Option.some.injEq] at hx1
   subst hx1
   rw [show j=k by omega,he] at hx2
   cases hx2
   refine ⟨rv,?_,hrv2⟩
   rw [List.getElem?_append_right (by rw [rR]; omega),rR]; rfl
 ·rcases List.mem_append.1 hb' with hb' | hb'
  ·have:=hi0.xl b hb'; omega
  ·simp at hb'; subst hb'; omega
 ·have:=eK.1 hb'
  rw [hsb] at this
  cases this
  exact List.mem_append_right _ (by simp)
 ·have h9:=hi0.sb b o hb'
  have hlt:=hi0.frC.lt' hb'
  have hlt2:=hi0.frr.lt' h9
  rw [T.get_upd_ne _ _ (by omega)]
  refine hg b o (hs b o h9) (by omega) fun e9=>?_
  have:=(hi0.eo.blk e9).1
  omega
theorem NwI.fin (hi:NwI ro X0 hC nC p Tb most kv tv Tb.entries.length Tb.entries.length h nx X qs mv ev es) (hX0:∀ b∈X0,b < nC):ScX ro h (X0++(p::qs.flatMap mO)) p qs Tb most 0 (gJ Tb)∧∀ b∈p::qs.flatMap mO,nC≤b∧b < nx:=by
 have hsub:∀ b∈X0++(p::qs.flatMap mO),b∈X:=fun b hb=>by
  rcases List.mem_append.1 hb with hb | hb
  ·exact hi.x0 b hb
  ·rcases List.mem_cons.1 hb with rfl | hb
   ·exact hi.xp
   ·obtain ⟨q,hq,hb⟩:=List.mem_flatMap.1 hb
    obtain ⟨j,hj⟩:=List.getElem?_of_mem hq
    exact hi.mq.inX hj b hb
 have hD:Sub (del h X) (del h (X0++(p::qs.flatMap mO))):=rW hsub
 have hne:∀ {v:Value} {z:Nat} {e:TypeId} {l:List (List Value)},dF h v z e l nC→e≠aQ→e≠bG∧e≠bL∧e≠dK→∀ id,iW v=some id→id ∉ X0++(p::qs.flatMap mO):=fun {v z e l} ho he1 he2 id hid hm=>by
  obtain ⟨g1,g2⟩:=ho.blk hid
  rcases List.mem_append.1 hm with hm | hm
  ·have:=hX0 id hm; omega
  ·rcases List.mem_cons.1 hm with rfl | hm
   ·exact ho.ne hi.cell (Ne.symm he1) hid
   ·obtain ⟨q,hq,hm⟩:=List.mem_flatMap.1 hm
    exact hi.mq.neB g2 he2 q hq hm
 refine ⟨⟨kv,tv,ev,mv,cT,hi.cell,hi.kr.sub hD,hi.tr.sub hD,⟨es,(hi.eo.del (hne hi.eo (by decide) ⟨by decide,by decide,by decide⟩)).sl,hi.el,fun j x e h1 h2=>(hi.erd j x e h1 h2).sub hD⟩,(hi.mo.del (hne hi.mo (by decide) ⟨by decide,by decide,by decide⟩)).sl,Sl.nil,?_,List.mem_append_right _ (List.mem_cons_self ..),hi.mq.neB hi.cell ⟨by decide,by decide,by decide⟩⟩,fun b hb=>⟨?_,hi.xl b (hsub b (List.mem_append_right _ hb))⟩⟩
 ·have hq:=hi.mq
  rw [List.take_of_length_le (by simp),List.take_of_length_le (by simp)] at hq
  exact hq.shrink hsub fun q hq9 b hb=>List.mem_append_right _ (List.mem_cons_of_mem _ (List.mem_flatMap.2 ⟨q,hq9,hb⟩))
 ·rcases List.mem_cons.1 hb with rfl | hb
  ·exact hi.pc
  ·obtain ⟨q,hq,hb⟩:=List.mem_flatMap.1 hb
   exact hi.ql q hq b hb
end
end V
end Go.Proofs.YtcaccnneblghgaaGreat
namespace Go.Proofs.YtcaccnneblghgaaGreat
namespace V
attribute [local irreducible] aB ifP aS cS eT exP cM
theorem aND:∀ {l:List Int} {a m:Int},rz a m l=true→a < m→(l.length:Int)≤m - a - 1
 | [],a,m,_,h=>by simp; omega
 | x::r,a,m,h,hm=>by
  rw [aDD] at h
  simp only [Bool.and_eq_true,decide_eq_true_eq] at h
  have:=aND h.2.2 h.2.1
  rw [List.length_cons]
  omega
theorem aFk {T:TabD} (h:fQ T=true):T.conds.length≤8∧T.kinds.length≤64∧T.to.length≤64∧T.entries.length≤16∧∀ e∈T.entries,e.rules.length≤64:=by
 unfold fQ at h
 simp only [Bool.and_eq_true,decide_eq_true_eq] at h
 obtain ⟨h1,h2,_,h4,h5,h6,_,h8,h9⟩:=h
 refine ⟨h2,h4,by omega,by omega,fun e he=>?_⟩
 have:=List.all_eq_true.1 h9 e he
 unfold lE at this
 simp only [Bool.and_eq_true] at this
 have:=aND this.1 (by omega)
 omega
theorem aKg (o1 o2:Option Addr) (l1 c1 l2 c2:Nat):fF Tryz.prog dC [(1,.slice o1 l1 c1),(2,.slice o2 l2 c2)]=some (.agg #[cT,.slice o1 l1 c1,.slice o2 l2 c2,cT]):=by kernel_rfl
theorem dF.form {h:T Obj} {v:Value} {z:Nat} {e:TypeId} {l:List (List Value)} {lo:Nat} (ho:dF h v z e l lo):∃ o n c,v=.slice o n c:=by
 rcases ho with ⟨h1,_⟩ | ⟨id,_,h1,_⟩
 ·exact ⟨_,_,_,h1⟩
 ·exact ⟨_,_,_,h1⟩
theorem aE0 {h:T Obj} {id off z n:Nat} {v:Value} {l vs:List Value} {e:TypeId} {f:Nat × Nat} (hg:h.get id=some (.cells l.toArray e f)) (hc:v.cells=vs.toArray) (hn:vs.length=n) (hl:off+n≤l.length) (hv:vs.all cP=true) :
  bS n h (at_ id off z) v=some (h.upd id (some (.cells (over l off vs).toArray e f))):=by
 rw [bX,hc,hg,if_pos (by simpa using hn),bP (by simp; omega) (by simpa using hv)]
 rfl
theorem aDp {ro:Ro} {h:T Obj} {id off z n:Nat} {l:List Value} {e:TypeId} {f:Nat × Nat} (hg:h.get id=some (.cells l.toArray e f)) (hl:off+n≤l.length):loadA ro h n (at_ id off z)=some (.agg ((l.drop off).take n).toArray):=by
 rw [bZ,hg]
 show (if off+n≤l.length then _ else _)=_
 rw [if_pos hl]
section
variable {ro:Ro} {h:T Obj} {nx:Nat} {K:KV}
set_option maxRecDepth 8000 in
set_option maxHeartbeats 1000000 in
theorem aJg {X0:List Nat} {x:List Value} {Tb:TabD} {most:Int} (hf:Fr h nx) (hd:aCd ro h x Tb) (hX0:∀ b∈X0,b < nx)
  (hK0:most < 1∨fQ Tb=false→∀ nx',nx≤nx'→K (.tuple #[.pointer none,.int .i64 1]) h nx')
  (hK1:1≤most→fQ Tb=true→∀ p qs h' nx',nx≤nx'→Fr h' nx'→Sub h h'→(∀ b∈p::qs.flatMap mO,nx≤b∧b < nx')→ScX ro h' (X0++(p::qs.flatMap mO)) p qs Tb most 0 (gJ Tb)→K (.tuple #[ptr p,.int .i64 0]) h' nx'):aN Tryz.prog ro vW [.agg x.toArray,.int .i64 most] h nx K:=by
 obtain ⟨cv,kv0,tv0,ev0,rfl,q1,q2,q3,q4,q5,q6,q7,q8⟩:=id hd
 apply aIa
 unfold aI9
 refine eE hf (Nat.le_refl _) fun h1 hs1 hf1 g1 _=>?_
 have g1:h1.get nx=some (.cells [cv,kv0,tv0,ev0].toArray dC):=g1
 by_cases hm1:most < 1
 ·(repeat(first|refine aA (by simp (disch:=first|omega|exact nnN _|assumption) only [BB,B2,↓reduceIte,Nat.reduceLeDiff,Nat.reduceAdd,CC]<;>rfl) ?_|apply aD|apply aE|with_reducible first|apply aG|apply aF|apply aK|apply aH|apply aJ|apply aI|apply aL|apply aC))
  exact ⟨h,hs1,hK0 (.inl hm1) _ (by omega)⟩
 ·have LA:=dG (ro:=ro) (z:=0) (n:=4) (l:=[cv,kv0,tv0,ev0]) g1 rfl
  (repeat(first|refine aA (by simp (disch:=first|omega|exact nnN _|assumption) only [BB,B2,↓reduceIte,Nat.reduceLeDiff,Nat.reduceAdd,CC]<;>rfl) ?_|apply aD|apply aE|with_reducible first|apply aG|apply aF|apply aK|apply aH|apply aJ|apply aI|apply aL|apply aC))
  refine aA LA ?_
  (repeat(first|refine aA (by simp (disch:=first|omega|exact nnN _|assumption) only [BB,B2,↓reduceIte,Nat.reduceLeDiff,Nat.reduceAdd,CC]<;>rfl) ?_|apply aD|apply aE|with_reducible first|apply aG|apply aF|apply aK|apply aH|apply aJ|apply aI|apply aL|apply aC))
  refine aHe (hf1.mono (by omega)) (hd.sub hs1) fun n1 hn1=>?_
  cases hr:fQ Tb with
  | false =>
   (repeat(first|refine aA (by simp (disch:=first|omega|exact nnN _|assumption) only [BB,B2,↓reduceIte,Nat.reduceLeDiff,Nat.reduceAdd,CC]<;>rfl) ?_|apply aD|apply aE|with_reducible first|apply aG|apply aF|apply aK|apply aH|apply aJ|apply aI|apply aL|apply aC))
   exact ⟨h,hs1,hK0 (.inr hr) _ (by omega)⟩
  | true =>
   have hc256:∀ e∈Tb.entries,e.a.c.length=256:=fun e he=>by
    obtain ⟨j,hj⟩:=List.getElem?_of_mem he
    obtain ⟨hlt,rfl⟩:=List.getElem?_eq_some_iff.1 hj
    obtain ⟨y,⟨ax,rv,_,hA,_⟩,_⟩:=q4.at hlt
    obtain ⟨cv9,sv9,_,hc9,_⟩:=hA
    exact hc9
   have hT:=(aI0 hr hc256).1
   obtain ⟨_,hl1,hl2,hl3,hl4⟩:=aFk hr
   (repeat(first|refine aA (by simp (disch:=first|omega|exact nnN _|assumption) only [BB,B2,↓reduceIte,Nat.reduceLeDiff,Nat.reduceAdd,CC]<;>rfl) ?_|apply aD|apply aE|with_reducible first|apply aG|apply aF|apply aK|apply aH|apply aJ|apply aI|apply aL|apply aC))
   refine aA aBa ?_
   refine aA (aIu _) ?_
   refine aG2 (m:=nx+1) hf1 (by omega) fun h2 hs2 hf2 g2 _=>?_
   have g2:h2.get (n1+1+4)=some (.cells (scL cT cT cT cT most cT (gJ Tb) 0).toArray aQ):=g2
   have g12:=hs2 _ _ g1
   have m1:[cv,kv0,tv0,ev0][1]?=some kv0:=rfl
   have m2:[cv,kv0,tv0,ev0][2]?=some tv0:=rfl
   have m3:[cv,kv0,tv0,ev0][3]?=some ev0:=rfl
   (repeat(first|refine aA (by simp (disch:=first|omega|exact nnN _|assumption) only [BB,B2,↓reduceIte,Nat.reduceLeDiff,Nat.reduceAdd,CC]<;>rfl) ?_|apply aD|apply aE|with_reducible first|apply aG|apply aF|apply aK|apply aH|apply aJ|apply aI|apply aL|apply aC))
   refine aA (aU g12 m1) ?_
   refine aHO (q2.sub (hs1.trans hs2) fun _ _ h=>h) (by omega) (hf2.mono (by omega)) fun kv h3 n3 hn3 hf3 hs3 hkv=>?_
   have g13:=hs3 _ _ g12
   have l2:=aU (ro:=ro) (z:=0) g13 m2
   (repeat(first|refine aA (by simp (disch:=first|omega|exact nnN _|assumption) only [BB,B2,↓reduceIte,Nat.reduceLeDiff,Nat.reduceAdd,CC]<;>rfl) ?_|apply aD|apply aE|with_reducible first|apply aG|apply aF|apply aK|apply aH|apply aJ|apply aI|apply aL|apply aC))
   refine aA l2 ⟨fN g12 g13,?_⟩
   refine tD (q3.sub ((hs1.trans hs2).trans hs3)) (by omega) hf3 fun tv h4 n4 hn4 hf4 hs4 htv=>?_
   obtain ⟨ko,kn,kc,hkf⟩:=hkv.form
   obtain ⟨to_,tn,tc,htf⟩:=htv.form
   have g24:=hs4 _ _ (hs3 _ _ g2)
   have g14:=hs4 _ _ g13
   refine aA (by rw [hkf,htf]; exact aKg _ _ _ _ _ _) ?_
   (repeat(first|refine aA (by simp (disch:=first|omega|exact nnN _|assumption) only [BB,B2,↓reduceIte,Nat.reduceLeDiff,Nat.reduceAdd,CC,a8]<;>rfl) ?_|apply aD|apply aE|with_reducible first|apply aG|apply aF|apply aK|apply aH|apply aJ|apply aI|apply aL|apply aC))
   refine aA (aE0 (vs:=[cT,kv,tv,cT]) g24 (by rw [hkf,htf]; rfl) rfl (by simp [scL]) (by simp only [List.all_cons,List.all_nil,hkv.ok,htv.ok,Bool.and_true]; rfl)) ?_
   have hov:over (scL cT cT cT cT most cT (gJ Tb) 0) 0 [cT,kv,tv,cT]=scL kv tv cT cT most cT (gJ Tb) 0:=rfl
   rw [hov]
   generalize hh5:h4.upd (n1+1+4) (some (.cells (scL kv tv cT cT most cT (gJ Tb) 0).toArray aQ))=h5
   have g15:h5.get nx=some (.cells [cv,kv0,tv0,ev0].toArray dC):=by rw [← hh5,T.get_upd_ne _ _ (by omega)]; exact g14
   (repeat(first|refine aA (by simp (disch:=first|omega|exact nnN _|assumption) only [BB,B2,↓reduceIte,Nat.reduceLeDiff,Nat.reduceAdd,CC]<;>rfl) ?_|apply aD|apply aE|with_reducible first|apply aG|apply aF|apply aK|apply aH|apply aJ|apply aI|apply aL|apply aC))
   refine aA (aU g15 m3) ?_
   have hs14:Sub h1 h4:=(hs2.trans hs3).trans hs4
   refine aA q4.len ?_
   have hkK:dL [n1+1+4] h4 h5:=by rw [← hh5]; exact (Sub.refl _).keepL.upd (by simp)
   have hkv5:=(hkv.keepS hs4).keepK hkK fun id hid hm=>by simp at hm; have:=(hkv.blk hid).1; omega
   have htv5:=htv.keepK hkK fun id hid hm=>by simp at hm; have:=(htv.blk hid).1; omega
   have hNI0:NwI ro X0 h1 (nx+1) (n1+1+4) Tb most kv tv 0 0 h5 n4 (X0++[n1+1+4]) [] cT cT []:=by
    refine ⟨by rw [← hh5]; exact T.get_upd_same _ _ _,dF.nil,dF.nil,rfl,(fun k x e hx=>by simp at hx),?_,?_,MsX.nil,fun b hb=>?_,by omega,(fun q hq=>by cases hq),fun b hb=>List.mem_append_left _ hb,by simp,(fun b hb=>by cases hb),(fun b hb=>by cases hb),fun b o hb=>?_,?_,hf1⟩
    ·refine (hkv5.del fun id hid hm=>?_).sl
     have g:=(hkv.blk hid).1
     rcases List.mem_append.1 hm with hm | hm
     ·have:=hX0 id hm; omega
     ·simp at hm; omega
    ·refine (htv5.del fun id hid hm=>?_).sl
     have g:=(htv.blk hid).1
     rcases List.mem_append.1 hm with hm | hm
     ·have:=hX0 id hm; omega
     ·simp at hm; omega
    ·rcases List.mem_append.1 hb with hb | hb
     ·have:=hX0 b hb; omega
     ·simp at hb; omega
    ·have hlt:=hf1.lt' hb
     rw [← hh5,T.get_upd_ne _ _ (by omega)]
     exact hs14 b o hb
    ·rw [← hh5]; exact hf4.upd (Nat.le_refl _) (by omega)
   refine bA (fun j e h' nx'=>∃ (k:Nat) (X:List Nat) (qs:List MqD) (mv ev:Value) (es:List (List Value)),k+j=Tb.entries.length∧n4+4≤nx'∧e 6=ptr (n1+1+4)∧e 33=ev0∧e 34=.int .i64 Tb.entries.length∧e 35=.int .i64 k∧NwI ro X0 h1 (nx+1) (n1+1+4) Tb most kv tv k k h' nx' X qs mv ev es) ?_ (n:=Tb.entries.length) ⟨0,_,[],cT,cT,[],by omega,by omega,rfl,rfl,rfl,rfl,hNI0.subs (Sub.refl _) (hNI0.frr.mono (by omega)) (by omega)⟩
   generalize n1+1+4=p at *
   rintro j e h' nx' ⟨k,X,qs,mv,ev,es,hj,hnx,e6,e33,e34,e35,hi⟩ Q' hq hx
   have hfh:=hi.frr
   have hsh:=hi.sb
   unfold aC9
   rw [e6,e33,e34,e35]
   refine cU (fun hk=>?_) (fun hk=>?_)
   ·have hk:k < Tb.entries.length:=by omega
    have hev:=q4.sub hs1 (uN.sub hs1)
    have hix:=hev.ix .i64 hk
    obtain ⟨y,hy1,hy2,hy3,hy4,hy5⟩:=hev.at hk
    have hy3:=aBp hsh hy3
    have hek:Tb.entries[k]?=some Tb.entries[k]:=List.getElem?_eq_getElem _
    have hemem:=List.getElem_mem hk
    generalize Tb.entries[k]=ee at hy1 hek hemem
    obtain ⟨cv9,sv9,rv9,hye,c258,c259,htk,hA,hS,hSl,hR,hRl⟩:=hy1.cells
    (repeat(first|refine aA (by simp (disch:=first|omega|exact nnN _|assumption) only [BB,B2,↓reduceIte,Nat.reduceLeDiff,Nat.reduceAdd,CC]<;>rfl) ?_|apply aD|apply aE|with_reducible first|apply aG|apply aF|apply aK|apply aH|apply aJ|apply aI|apply aL|apply aC))
    refine aA hix (aA hy3 ?_)
    refine jD (x:=y) (n:=260) aGv (by show aKr.toArray.size=260; rw [List.size_toArray,aD2]) rfl hy2 hy1.okL hfh (by omega) fun h6 hs6 hf6 g6 _=>?_
    have LB:=aDp (ro:=ro) (z:=0) (off:=0) (n:=259) g6 (by omega)
    rw [List.drop_zero,htk] at LB
    (repeat(first|refine aA (by simp (disch:=first|omega|exact nnN _|assumption) only [BB,B2,↓reduceIte,Nat.reduceLeDiff,Nat.reduceAdd,CC]<;>rfl) ?_|apply aD|apply aE|with_reducible first|apply aG|apply aF|apply aK|apply aH|apply aJ|apply aI|apply aL|apply aC))
    refine aA LB ?_
    refine aJH (X0:=X) (hf6.mono (by omega)) (hA.sub (hsh.trans hs6)) (fun h9=>by rw [hT.ok ee hemem] at h9; cases h9) (fun b hb=>by have:=hi.xl b hb; omega) fun _ p2 ps X2 h7 n7 hn7 hf7 hs7 hX2 hX2e hMI=>?_
    subst hX2e
    refine aA (aLJ _ _) (aA (aLK _ _) ?_)
    refine aBO rfl ?_
    (repeat(first|refine aA (by simp (disch:=first|omega|exact nnN _|assumption) only [BB,B2,↓reduceIte,Nat.reduceLeDiff,Nat.reduceAdd,CC,a8]<;>rfl) ?_|apply aD|apply aE|with_reducible first|apply aG|apply aF|apply aK|apply aH|apply aJ|apply aI|apply aL|apply aC))
    have hi6:=hi.subs hs6 (hf6.mono (show nx'+3+1≤nx'+8 by omega)) (by omega)
    have hi7:=hi6.subs hs7 hf7 (by omega)
    have m4:(scL kv tv ev mv most cT (gJ Tb) 0)[4]?=some mv:=rfl
    refine aA (aU hi7.cell m4) ?_
    obtain ⟨i9,t1,t2,t3⟩:=aNM
    have hql:qs.length≤1000:=by have:=hi.mq.lq; simp at this; omega
    refine aAW (z:=1) (l:=sN qs) (y:=[ptr p2]) (aM9 _ _) rfl hi7.mo aLb t1 (by omega) (by omega) aN1 rfl rfl (by rw [aBt,t3]; unfold big; omega) (by rw [aBt]; unfold big; omega) (hf7.mono (by omega)) (by omega) (by omega) (fun e=>by have:=hf7.lt' (hi7.mo.blk e).2; omega) fun h8 ho8 hk8 hf8=>?_
    generalize hnv:Value.slice (some (own (n7+15) 1)) (sN qs++[[ptr p2]]).length (sN qs++[[ptr p2]]).length=mv2 at ho8
    have hsb:iW mv2=some (n7+15):=by rw [← hnv]; rfl
    have hi8:=hi6.mach (q:=(p2,ps)) (l1:=n7+13) hek hMI hs7 hf7 hX2 (by omega) ho8 hsb hk8 (by omega) (by omega) hf8
    have g8:=hk8 _ _ hi7.cell (by have:=hf7.lt' hi7.cell; omega) (hi7.mo.ne hi7.cell (by decide))
    dsimp only
    (repeat(first|refine aA (by simp (disch:=first|omega|exact nnN _|assumption) only [BB,B2,↓reduceIte,Nat.reduceLeDiff,Nat.reduceAdd,CC,a8]<;>rfl) ?_|apply aD|apply aE|with_reducible first|apply aG|apply aF|apply aK|apply aH|apply aJ|apply aI|apply aL|apply aC))
    refine aA (dD g8 (by simp [scL]) ho8.ok (by rw [← hnv]; rfl)) ?_
    have hov2:(scL kv tv ev mv most cT (gJ Tb) 0).set 4 mv2=scL kv tv ev mv2 most cT (gJ Tb) 0:=rfl
    rw [hov2]
    generalize hh8:h8.upd p (some (.cells (scL kv tv ev mv2 most cT (gJ Tb) 0).toArray aQ))=h9 at hi8
    have g69:h9.get (nx'+3)=some (.cells y.toArray cK):=by
     have hp6:=hi.xl _ hi.xp
     rw [← hh8,T.get_upd_ne _ _ (by omega)]
     refine hk8 _ _ (hs7 _ _ g6) (by omega) fun e9=>?_
     have:=hi.xl _ (hi.xm _ (eK.2 e9))
     omega
    have m3':(scL kv tv ev mv2 most cT (gJ Tb) 0)[3]?=some ev:=rfl
    (repeat(first|refine aA (by simp (disch:=first|omega|exact nnN _|assumption) only [BB,B2,↓reduceIte,Nat.reduceLeDiff,Nat.reduceAdd,CC,a8]<;>rfl) ?_|apply aD|apply aE|with_reducible first|apply aG|apply aF|apply aK|apply aH|apply aJ|apply aI|apply aL|apply aC))
    refine aA (aU hi8.cell m3') ?_
    (repeat(first|refine aA (by simp (disch:=first|omega|exact nnN _|assumption) only [BB,B2,↓reduceIte,Nat.reduceLeDiff,Nat.reduceAdd,CC]<;>rfl) ?_|apply aD|apply aE|with_reducible first|apply aG|apply aF|apply aK|apply aH|apply aJ|apply aI|apply aL|apply aC))
    refine aA (aU g69 c259) ?_
    refine tD (hR.sub hi8.sb) (by have:=hl4 ee hemem; omega) (hi8.frr.mono (by omega)) fun rv h10 n10 hn10 hf10 hs10 hrv=>?_
    refine ⟨fN hi8.cell (hs10 _ _ hi8.cell),?_⟩
    obtain ⟨ro1,rn,rc,hrf⟩:=hrv.form
    refine aA (by rw [hrf]; exact aKf _ _ _) ?_
    have hi10:=hi8.subs hs10 hf10 (by omega)
    obtain ⟨i10,u1,u2,u3⟩:=aOX
    have hesl:es.length≤1000:=by have:=hi8.el; omega
    refine aAW (z:=260) (l:=es) (y:=vL++[rv]) (by rw [hrf]; exact aNr _ _ _ _) (by rw [List.length_append,rR]; rfl) hi10.eo aNT u1 (by omega) (by omega) aGv (by show aKr.toArray.size=260; rw [List.size_toArray,aD2]) (by rw [List.all_append]; simp [hrv.ok]; decide) (by rw [u3]; unfold big; omega) (by unfold big; omega) (hf10.mono (by omega)) (by omega) (by omega) (fun e=>by have:=hi8.xl _ (hi8.xe _ (eK.2 e)); omega) fun h11 ho11 hk11 hf11=>?_
    generalize hnv2:Value.slice (some (own n10 260)) (es++[vL++[rv]]).length (es++[vL++[rv]]).length=ev2 at ho11
    have hsb2:iW ev2=some n10:=by rw [← hnv2]; rfl
    have hi11:=(hi8.subs (Sub.refl _) (hi8.frr.mono (show n7+15+1≤n7+15+1+13 by omega)) (by omega)).ent (l1:=n7+15+1+13) hek hs10 hrv (Nat.le_refl _) (by omega) ho11 hsb2 hk11 (by omega) hf10 hf11
    have g11:=hk11 _ _ hi10.cell (by have:=hi8.frr.lt' hi8.cell; omega) (hi10.eo.ne hi10.cell (by decide))
    dsimp only
    (repeat(first|refine aA (by simp (disch:=first|omega|exact nnN _|assumption) only [BB,B2,↓reduceIte,Nat.reduceLeDiff,Nat.reduceAdd,CC,a8]<;>rfl) ?_|apply aD|apply aE|with_reducible first|apply aG|apply aF|apply aK|apply aH|apply aJ|apply aI|apply aL|apply aC))
    refine aA (dD g11 (by simp [scL]) ho11.ok (by rw [← hnv2]; rfl)) ?_
    have hov3:(scL kv tv ev mv2 most cT (gJ Tb) 0).set 3 ev2=scL kv tv ev2 mv2 most cT (gJ Tb) 0:=rfl
    rw [hov3]
    (repeat(first|refine aA (by simp (disch:=first|omega|exact nnN _|assumption) only [BB,B2,↓reduceIte,Nat.reduceLeDiff,Nat.reduceAdd,CC]<;>rfl) ?_|apply aD|apply aE|with_reducible first|apply aG|apply aF|apply aK|apply aH|apply aJ|apply aI|apply aL|apply aC))
    exact hq (j - 1) _ _ _ _ (by omega) ⟨k+1,_,_,mv2,ev2,_,by omega,by omega,e6,e33,e34,rfl,hi11.subs (Sub.refl _) (hi11.frr.mono (by omega)) (by omega)⟩ (Sub.refl _)
   ·(repeat(first|refine aA (by simp (disch:=first|omega|exact nnN _|assumption) only [BB,B2,↓reduceIte,Nat.reduceLeDiff,Nat.reduceAdd,CC]<;>rfl) ?_|apply aD|apply aE|with_reducible first|apply aG|apply aF|apply aK|apply aH|apply aJ|apply aI|apply aL|apply aC))
    refine hx _ _ _ _ (fun e=>by cases e) (d4 (cO ?_))
    obtain rfl:k=Tb.entries.length:=by omega
    obtain ⟨hfin,hbl⟩:=hi.fin fun b hb=>by have:=hX0 b hb; omega
    have hend:∀ (e':Env) n',e' 6=ptr p→nx'≤n'→tQ ro K e' h' n':=by
     intro e' n' f6 hn'
     unfold tQ
     rw [f6]
     exact ⟨h',Sub.refl _,hK1 (by omega) hr p qs h' _ (by omega) (hfh.mono (by omega)) (hs1.trans hsh) (fun b hb=>by have:=hbl b hb; omega) hfin⟩
    exact hend _ _ e6 (by omega)
end
end V
end Go.Proofs.YtcaccnneblghgaaGreat
namespace Go.Proofs.YtcaccnneblghgaaGreat
namespace V
attribute [local irreducible] aB ifP aS cS eT exP cM
theorem aLP:dU Tryz.prog 20 j9=some [1,1,1]:=by kernel_rfl
theorem aOu:aIp [1,1,1] .eql (.agg #[.int .i64 0,.int .i64 0,.int .i64 (-1)]) (.agg #[.int .i64 0,.int .i64 0,.int .i64 (-1)])=some (.bool true):=by kernel_rfl
theorem aOv {a b c:Int} (ha:a≠0):aIp [1,1,1] .eql (.agg #[.int .i64 a,.int .i64 b,.int .i64 c]) (.agg #[.int .i64 0,.int .i64 0,.int .i64 (-1)])=some (.bool false):=by
 simp [aIp,dM,i0,ha]
def ScV (ro:Ro) (h:T Obj) (X:List Nat) (p:Nat) (qs:List MqD) (T:TabD) (most er_:Int) (kv tv ev mv bv:Value) (s:ScD):Prop:=h.get p=some (.cells (scL kv tv ev mv most bv s er_).toArray aQ) ∧
 Sl ro (del h X) kv 1 (aAQ T.kinds)∧Sl ro (del h X) tv 1 (kC T.to)∧SlR ro (del h X) ev 260 (pK ro (del h X)) T.entries∧Sl ro (del h X) mv 1 (sN qs)∧Sl ro (del h X) bv 1 (bY s.kept)∧MsX ro h X qs (T.entries.map (·.a)) s.ms∧p∈X∧∀ q∈qs,p ∉ mO q
section
variable {ro:Ro} {h h':T Obj} {nx:Nat} {X X':List Nat} {p:Nat} {qs:List MqD} {T:TabD} {most er_ er':Int} {kv tv ev mv bv:Value} {s s':ScD}
theorem ScV.x (hm:ScV ro h X p qs T most er_ kv tv ev mv bv s):ScX ro h X p qs T most er_ s:=⟨kv,tv,ev,mv,bv,hm⟩
theorem ScV.keep {ids:List Nat} (hm:ScV ro h X p qs T most er_ kv tv ev mv bv s) (hs:dL ids h h') (h1:∀ k∈ids,k∈X) (h2:∀ q∈qs,∀ k∈ids,k ∉ mO q) (h0:p ∉ ids) (h3:∀ k∈X',k∈X∨h.get k=none) (h4:∀ k∈X,k∈X'):ScV ro h' X' p qs T most er_ kv tv ev mv bv s:=by
 obtain ⟨g1,g2,g3,g4,g5,g6,g7,g8,g9⟩:=hm
 have hD:Sub (del h X) (del h' X'):=hs.del h1 h3
 exact ⟨hs _ _ g1 h0,g2.sub hD,g3.sub hD,g4.sub hD (pK.sub hD),g5.sub hD,g6.sub hD,g7.keep hs h1 h2 h3 h4,h4 p g8,g9⟩
theorem ScV.sub (hm:ScV ro h X p qs T most er_ kv tv ev mv bv s) (hs:Sub h h'):ScV ro h' X p qs T most er_ kv tv ev mv bv s:=hm.keep (ids:=[]) hs.keepL (fun k hk=>by cases hk) (fun q hq k hk=>by cases hk) (fun hk=>by cases hk) (fun k hk=>.inl hk) fun k hk=>hk
theorem ScV.upd (hm:ScV ro h X p qs T most er_ kv tv ev mv bv s) (hms:s'.ms=s.ms) (hb:s'.kept=s.kept):ScV ro (h.upd p (some (.cells (scL kv tv ev mv most bv s' er').toArray aQ))) X p qs T most er' kv tv ev mv bv s':=by
 obtain ⟨g1,g2,g3,g4,g5,g6,g7,g8,g9⟩:=hm
 have hk:dL [p] h (h.upd p (some (.cells (scL kv tv ev mv most bv s' er').toArray aQ))):=((Sub.refl _).keepL).upd (by simp)
 have hX:∀ k∈[p],k∈X:=fun k hk=>by simp at hk; subst hk; exact g8
 have hD:Sub (del h X) (del (h.upd p (some (.cells (scL kv tv ev mv most bv s' er').toArray aQ))) X):=hk.del hX fun k hk=>.inl hk
 refine ⟨V.T.get_upd_same _ _ _,g2.sub hD,g3.sub hD,g4.sub hD (pK.sub hD),g5.sub hD,by rw [hb]; exact g6.sub hD,?_,g8,g9⟩
 rw [hms]
 exact g7.keep hk hX (fun q hq k hk=>by simp at hk; subst hk; exact g9 q hq) (fun k hk=>.inl hk) fun k hk=>hk
theorem ScV.updB {bv':Value} (hm:ScV ro h X p qs T most er_ kv tv ev mv bv s) (hms:s'.ms=s.ms) (hb:Sl ro (del h X) bv' 1 (bY s'.kept)):ScV ro (h.upd p (some (.cells (scL kv tv ev mv most bv' s' er').toArray aQ))) X p qs T most er' kv tv ev mv bv' s':=by
 obtain ⟨g1,g2,g3,g4,g5,g6,g7,g8,g9⟩:=hm
 have hk:dL [p] h (h.upd p (some (.cells (scL kv tv ev mv most bv' s' er').toArray aQ))):=((Sub.refl _).keepL).upd (by simp)
 have hX:∀ k∈[p],k∈X:=fun k hk=>by simp at hk; subst hk; exact g8
 have hD:Sub (del h X) (del (h.upd p (some (.cells (scL kv tv ev mv most bv' s' er').toArray aQ))) X):=hk.del hX fun k hk=>.inl hk
 refine ⟨V.T.get_upd_same _ _ _,g2.sub hD,g3.sub hD,g4.sub hD (pK.sub hD),g5.sub hD,hb.sub hD,?_,g8,g9⟩
 rw [hms]
 exact g7.keep hk hX (fun q hq k hk=>by simp at hk; subst hk; exact g9 q hq) (fun k hk=>.inl hk) fun k hk=>hk
theorem ScV.step {i:Nat} {q:MqD} {d:AutoD} {m':MacD} (hm:ScV ro h X p qs T most er_ kv tv ev mv bv s) (hq:qs[i]?=some q) (hd:(T.entries.map (·.a))[i]?=some d) (hk:dL (q.1::jT q.2) h h') (hn:MI ro h' X q.1 q.2 (er d) m'):ScV ro h' X p qs T most er_ kv tv ev mv bv { s with ms:=s.ms.set i m' }:=by
 obtain ⟨g1,g2,g3,g4,g5,g6,g7,g8,g9⟩:=hm
 have hX:=g7.inX hq
 have hD:Sub (del h X) (del h' X):=hk.del hX fun k hk=>.inl hk
 exact ⟨hk p _ g1 (g9 q (List.mem_of_getElem? hq)),g2.sub hD,g3.sub hD,g4.sub hD (pK.sub hD),g5.sub hD,g6.sub hD,g7.step hq hd hk hX hn,g8,g9⟩
theorem ScV.at (hm:ScV ro h X p qs T most er_ kv tv ev mv bv s) {i:Nat} {e:EntD} {m:MacD} (he:T.entries[i]?=some e) (hs:s.ms[i]?=some m):∃ q,qs[i]?=some q∧MI ro h X q.1 q.2 (er e.a) m∧(T.entries.map (·.a))[i]?=some e.a:=by
 obtain ⟨g1,g2,g3,g4,g5,g6,g7,g8,g9⟩:=hm
 have l1:=g7.lq
 rw [List.length_map] at l1
 have hi:=(List.getElem?_eq_some_iff.1 he).1
 have e3:(T.entries.map (·.a))[i]?=some e.a:=by rw [List.getElem?_map,he]; rfl
 exact ⟨_,List.getElem?_eq_getElem (by omega),g7.at_ i _ _ _ (List.getElem?_eq_getElem (by omega)) e3 hs,e3⟩
end
def lM (p:Nat) (qs:List MqD):List Nat:=p::qs.flatMap mO
theorem aG9 {p:Nat} {qs:List MqD} {q:MqD} (hq:q∈qs):∀ k∈q.1::jT q.2,k∈lM p qs:=fun k hk=>List.mem_cons_of_mem _ (List.mem_flatMap.2 ⟨q,hq,hk⟩)
theorem aGp:siz Tryz.prog b8=some 1:=by kernel_rfl
theorem aNG {l:List MacD} {i:Nat} {m:MacD} (h:l[i]?=some m):l.set i m=l:=by
 apply List.ext_getElem?
 intro j
 by_cases hj:i=j
 ·subst hj; rw [List.getElem?_set_self (List.getElem?_eq_some_iff.1 h).1,h]
 ·rw [List.getElem?_set_ne hj]
section
variable {ro:Ro} {h:T Obj} {nx:Nat} {K:KV} {X:List Nat} {p:Nat} {qs:List MqD} {T:TabD} {most er_:Int} {kv tv ev mv bv:Value} {s:ScD}
set_option maxRecDepth 8000 in
set_option maxHeartbeats 2000000 in
theorem aKG {K0:Nat} {q:MqD} {t0:TryD} {e0:Env} (hT:TabR T) (hI:ScI T s) (hv:ScV ro h X p qs T most er_ kv tv ev mv bv (cV s t0)) (hf:Fr h nx) (hq:qs[qP s]?=some q) (ht1:t0.took=s.took) (ht2:t0.steps=s.steps) (hlk:LkOk (s.steps+1) (pN T s) t0)
  (heq:zL (pN T s).a (s.kept.drop s.took) t0=o5 T s) (hsz:s.steps+s.kept.length≤90000) (f0:e0 0=ptr p) (f3:e0 3=ptr q.1)
  (hK:∀ h' nx',nx≤nx'→Fr h' nx'→dL (lM p qs) h h'→ScX ro h' X p qs T most er_ (cN T s).2→K (.bool (cN T s).1) h' nx'):jF ro K e0 h nx:=by
 obtain ⟨he1,he2,m9,hm9,_⟩:=hI.at
 generalize hD:(pN T s).a=D at *
 have hok:fE D=true:=by rw [← hD]; exact hT.ok _ he2
 have hokE:=aKc hok
 have g1:=hv.1
 have g6:Sl ro (del h X) bv 1 (bY s.kept):=hv.2.2.2.2.2.1
 have hpX:p∈X:=hv.2.2.2.2.2.2.2.1
 have htk:=hI.ok.took
 unfold jF
 rw [f0]
 have l6:=aU (ro:=ro) (z:=0) g1 (show (scL kv tv ev mv most bv (cV s t0) er_)[6]?=some bv from rfl)
 have l10:=aU (ro:=ro) (z:=0) g1 (show (scL kv tv ev mv most bv (cV s t0) er_)[10]?=some (.int .i64 (t0.took:Int)) from rfl)
 rw [ht1] at l10
 obtain ⟨rv,hrv1,hrv2⟩:=Sl.drop (P:=Tryz.prog) g6 mC aGp (n:=s.took) (by rw [dT]; exact htk) .i64
 have hdr:(bY s.kept).drop s.took=bY (s.kept.drop s.took):=by simp [bY]
 rw [hdr] at hrv2
 (repeat(first|refine aA (by simp (disch:=first|omega|exact nnN _|assumption) only [BB,B2,↓reduceIte,Nat.reduceLeDiff,Nat.reduceAdd,CC,a8,l6,l10]<;>rfl) ?_|apply aD|apply aE|with_reducible first|apply aG|apply aF|apply aK|apply aH|apply aJ|apply aI|apply aL|apply aC))
 refine aA hrv1 ?_
 have hrl:=(hrv2.sub (eX h X)).len
 rw [dT] at hrl
 refine aA hrl ?_
 have hrlen:(s.kept.drop s.took).length=s.kept.length - s.took:=List.length_drop
 have hrb:∀ x∈s.kept.drop s.took,x < 256:=fun x hx=>hI.kb x (List.mem_of_mem_drop hx)
 generalize s.kept.drop s.took=rest at *
 refine bA (fun j e h' nx'=>∃ (i:Nat) (t:TryD),i+j=rest.length∧nx≤nx'∧e 0=ptr p∧e 3=ptr q.1∧e 32=rv∧e 33=.int .i64 rest.length∧e 34=.int .i64 i∧dL (lM p qs) h h'∧Fr h' nx'∧ScV ro h' X p qs T most er_ kv tv ev mv bv (cV s t) ∧
   Sl ro (del h' X) rv 1 (bY rest)∧t.took=s.took+i∧t.steps=s.steps+i∧LkOk (s.steps+1) (pN T s) t∧zL D (rest.drop i) t=o5 T s) ?_ (n:=rest.length)
  ⟨0,t0,by omega,by omega,f0,f3,rfl,rfl,rfl,(Sub.refl _).keepL,hf.mono (by omega),hv,hrv2,by omega,by omega,hlk,by rw [List.drop_zero]; exact heq⟩
 rintro j e h' nx' ⟨i,t,hj,hnx,e00,e03,e32,e33,e34,hkp,hf',hv',hrv',htt,hts,hlk',hend⟩ Q' hc hx
 have g1':=hv'.1
 have hms:(cV s t).ms[qP s]?=some t.m:=by
  show (s.ms.set (qP s) t.m)[qP s]?=_
  rw [List.getElem?_set_self (List.getElem?_eq_some_iff.1 hm9).1]
 unfold pY
 rw [e00,e03,e32,e33,e34]
 refine cU (fun hk=>?_) (fun hk=>?_)
 ·have hk:i < rest.length:=by omega
  have hrvh:=hrv'.sub (eX h' X)
  have hix:=hrvh.ix .i64 (i:=i) (by rw [dT]; exact hk)
  have hld:=hrvh.load1 (rT hk)
  have hbb:=hrb _ (List.getElem_mem hk)
  have hdrp:rest.drop i=rest[i]::rest.drop (i+1):=List.drop_eq_getElem_cons hk
  rw [hdrp,aBd] at hend
  generalize rest[i]=b at hld hbb hend
  have l10:=aU (ro:=ro) (z:=0) g1' (show (scL kv tv ev mv most bv (cV s t) er_)[10]?=some (.int .i64 (t.took:Int)) from rfl)
  have hlt:t.took < 90000∧t.steps < 90000:=by omega
  have hov1:(scL kv tv ev mv most bv (cV s t) er_).set 10 (.int .i64 ((t.took:Int)+1))=scL kv tv ev mv most bv (cV s { t with took:=t.took+1 }) er_:=rfl
  have hv1:=hv'.upd (s':=cV s { t with took:=t.took+1 }) (er':=er_) rfl rfl
  have hov2:(scL kv tv ev mv most bv (cV s { t with took:=t.took+1 }) er_).set 15 (.int .i64 ((t.steps:Int)+1))=scL kv tv ev mv most bv (cV s { t with took:=t.took+1,steps:=t.steps+1 }) er_:=rfl
  have hf1:Fr (h'.upd p (some (.cells (scL kv tv ev mv most bv (cV s { t with took:=t.took+1 }) er_).toArray aQ))) nx':=hf'.upd (Nat.le_refl _) (hf'.lt' g1')
  have hkp1:dL (lM p qs) h (h'.upd p (some (.cells (scL kv tv ev mv most bv (cV s { t with took:=t.took+1 }) er_).toArray aQ))):=hkp.upd (List.mem_cons_self ..)
  have hD1:Sub (del h' X) (del (h'.upd p (some (.cells (scL kv tv ev mv most bv (cV s { t with took:=t.took+1 }) er_).toArray aQ))) X):=dL.del (ids:=[p]) ((Sub.refl _).keepL.upd (by simp)) (fun k hk=>by simp at hk; subst hk; exact hpX) fun k hk=>.inl hk
  generalize hh1:h'.upd p (some (.cells (scL kv tv ev mv most bv (cV s { t with took:=t.took+1 }) er_).toArray aQ))=h1 at hv1 hf1 hkp1 hD1
  have l15:=aU (ro:=ro) (z:=0) hv1.1 (show (scL kv tv ev mv most bv (cV s { t with took:=t.took+1 }) er_)[15]?=some (.int .i64 (t.steps:Int)) from rfl)
  have hv2:=hv1.upd (s':=cV s { t with took:=t.took+1,steps:=t.steps+1 }) (er':=er_) rfl rfl
  have hf2:Fr (h1.upd p (some (.cells (scL kv tv ev mv most bv (cV s { t with took:=t.took+1,steps:=t.steps+1 }) er_).toArray aQ))) nx':=hf1.upd (Nat.le_refl _) (hf'.lt' g1')
  have hkp2:dL (lM p qs) h (h1.upd p (some (.cells (scL kv tv ev mv most bv (cV s { t with took:=t.took+1,steps:=t.steps+1 }) er_).toArray aQ))):=hkp1.upd (List.mem_cons_self ..)
  have hD2:Sub (del h1 X) (del (h1.upd p (some (.cells (scL kv tv ev mv most bv (cV s { t with took:=t.took+1,steps:=t.steps+1 }) er_).toArray aQ))) X):=dL.del (ids:=[p]) ((Sub.refl _).keepL.upd (by simp)) (fun k hk=>by simp at hk; subst hk; exact hpX) fun k hk=>.inl hk
  (repeat(first|refine aA (by simp (disch:=first|omega|exact nnN _|assumption) only [BB,B2,↓reduceIte,Nat.reduceLeDiff,Nat.reduceAdd,CC]<;>rfl) ?_|apply aD|apply aE|with_reducible first|apply aG|apply aF|apply aK|apply aH|apply aJ|apply aI|apply aL|apply aC))
  refine aA hix (aA hld ?_)
  (repeat(first|refine aA (by simp (disch:=first|omega|exact nnN _|assumption) only [BB,B2,↓reduceIte,Nat.reduceLeDiff,Nat.reduceAdd,CC,a8,l10]<;>rfl) ?_|apply aD|apply aE|with_reducible first|apply aG|apply aF|apply aK|apply aH|apply aJ|apply aI|apply aL|apply aC))
  refine aA (dD g1' (by simp [scL]) rfl rfl) ?_
  rw [hov1,hh1]
  (repeat(first|refine aA (by simp (disch:=first|omega|exact nnN _|assumption) only [BB,B2,↓reduceIte,Nat.reduceLeDiff,Nat.reduceAdd,CC,a8,l15]<;>rfl) ?_|apply aD|apply aE|with_reducible first|apply aG|apply aF|apply aK|apply aH|apply aJ|apply aI|apply aL|apply aC))
  refine aA (dD hv1.1 (by simp [scL]) rfl rfl) ?_
  rw [hov2]
  generalize hh2:h1.upd p (some (.cells (scL kv tv ev mv most bv (cV s { t with took:=t.took+1,steps:=t.steps+1 }) er_).toArray aQ))=h2 at hv2 hf2 hkp2 hD2
  obtain ⟨q2,hq2,hMI,hmap⟩:=hv2.at (m:=t.m) he1 hms
  rw [hq] at hq2
  cases hq2
  rw [hD] at hMI hmap
  have hst:=hlk'.st
  refine aH8 hMI hokE (aIo (by rw [← hD]; exact hlk'.mok)) hbb (hf2.mono (by omega)) hlk'.w (by omega) (by omega) fun h3 n3 hn3 hf3 hk3 hM3=>?_
  rw [aP3]
  rw [aNI] at hM3
  have hv3:ScV ro h3 X p qs T most er_ kv tv ev mv bv (cV s (tk0 D t b)):=by
   have h9:=hv2.step hq hmap hk3 hM3
   have h8:{ (cV s { t with took:=t.took+1,steps:=t.steps+1 }) with ms:=(cV s { t with took:=t.took+1,steps:=t.steps+1 }).ms.set (qP s) (mE D t.m b) }=cV s (tk0 D t b):=by
    unfold cV tk0
    simp only [List.set_set]
   rw [h8] at h9
   exact h9
  have hqX:=hv2.2.2.2.2.2.2.1.inX hq
  have hkp3:dL (lM p qs) h h3:=hkp2.trans (hk3.mono (aG9 (List.mem_of_getElem? hq)))
  have hD3:Sub (del h2 X) (del h3 X):=hk3.del hqX fun k hk=>.inl hk
  have hrv3:=hrv'.sub ((hD1.trans hD2).trans hD3)
  have hlk0:=hlk'.tk0 hT he2 hbb
  have hlk1:=hlk'.tk1 hT he2 hbb
  rw [hD] at hlk0 hlk1
  cases hon:onM D t.m b with
  | false =>
   rw [hon] at hend
   have hend:(true,tk0 D t b)=o5 T s:=hend
   (repeat(first|refine aA (by simp (disch:=first|omega|exact nnN _|assumption) only [BB,B2,↓reduceIte,Nat.reduceLeDiff,Nat.reduceAdd,CC]<;>rfl) ?_|apply aD|apply aE|with_reducible first|apply aG|apply aF|apply aK|apply aH|apply aJ|apply aI|apply aL|apply aC))
   refine hx _ _ _ _ (fun e=>by cases e) (eW ?_)
   refine ⟨h3,Sub.refl _,?_⟩
   have h9:=hK h3 (n3+2) (by omega) (hf3.mono (by omega)) hkp3
   have e1:(cN T s).2=cV s (tk0 D t b):=by show cV s (o5 T s).2=_; rw [← hend]
   have e2:(cN T s).1=true:=by show ((o5 T s).1 || s.closed)=true; rw [← hend]; rfl
   rw [e1,e2] at h9
   exact h9 hv3.x
  | true =>
   rw [hon,if_pos rfl] at hend
   (repeat(first|refine aA (by simp (disch:=first|omega|exact nnN _|assumption) only [BB,B2,↓reduceIte,Nat.reduceLeDiff,Nat.reduceAdd,CC]<;>rfl) ?_|apply aD|apply aE|with_reducible first|apply aG|apply aF|apply aK|apply aH|apply aJ|apply aI|apply aL|apply aC))
   have hM3':MI ro h3 X q.1 q.2 (er D) (tk0 D t b).m:=hM3
   have hmok3:MOk D (tk0 D t b).m:=by rw [← hD]; rw [← hD] at hlk0; exact hlk0.mok
   refine aH7 hM3' hokE (aIo hmok3) (hf3.mono (by omega)) fun n4 hn4=>?_
   rw [aNB]
   have hru:qL D (tk0 D t b).m=qL D (mE D t.m b):=rfl
   rw [hru]
   have hnext:∀ (e':Env) (h':V.T Obj) (n':Nat),e' 0=ptr p→e' 3=ptr q.1→e' 32=rv→e' 33=.int .i64 rest.length→e' 34=.int .i64 i→nx≤n'→dL (lM p qs) h h'→Fr h' n'→ScV ro h' X p qs T most er_ kv tv ev mv bv (cV s (tk1 D t b))→Sl ro (del h' X) rv 1 (bY rest)→jH ro Q' e' h' n':=by
    intro e' h' n' d0 d3 d32 d33 d34 dn dk df dv ds
    unfold jH
    rw [d34]
    (repeat(first|refine aA (by simp (disch:=first|omega|exact nnN _|assumption) only [BB,B2,↓reduceIte,Nat.reduceLeDiff,Nat.reduceAdd,CC]<;>rfl) ?_|apply aD|apply aE|with_reducible first|apply aG|apply aF|apply aK|apply aH|apply aJ|apply aI|apply aL|apply aC))
    exact hc (j - 1) _ _ _ _ (by omega) ⟨i+1,tk1 D t b,by omega,by omega,d0,d3,d32,d33,rfl,dk,df.mono (by omega),dv,ds,by rw [aIk]; omega,by rw [aFp]; omega,hlk1,hend⟩ (Sub.refl _)
   by_cases hr:qL D (mE D t.m b)=-1
   ·have e1:tk1 D t b=tk0 D t b:=by unfold tk1; rw [if_pos hr]
    refine aBO (by omega) ?_
    (repeat(first|refine aA (by simp (disch:=first|omega|exact nnN _|assumption) only [BB,B2,↓reduceIte,Nat.reduceLeDiff,Nat.reduceAdd,CC]<;>rfl) ?_|apply aD|apply aE|with_reducible first|apply aG|apply aF|apply aK|apply aH|apply aJ|apply aI|apply aL|apply aC))
    refine hnext _ _ _ e00 e03 e32 e33 e34 ?_ hkp3 ?_ (by rw [e1]; exact hv3) hrv3
    ·omega
    ·exact hf3.mono (by omega)
   ·have e1:tk1 D t b=⟨t.took+1,t.took+1,qL D (mE D t.m b),t.steps+1,mE D t.m b⟩:=by unfold tk1; rw [if_neg hr]
    refine aIA (by omega) ?_
    have l10b:=aU (ro:=ro) (z:=0) hv3.1 (show (scL kv tv ev mv most bv (cV s (tk0 D t b)) er_)[10]?=some (.int .i64 ((t.took+1:Nat):Int)) from rfl)
    have hov4:(scL kv tv ev mv most bv (cV s (tk0 D t b)) er_).set 11 (.int .i64 ((t.took+1:Nat):Int))=scL kv tv ev mv most bv (cV s { tk0 D t b with held:=t.took+1 }) er_:=rfl
    have hv4:=hv3.upd (s':=cV s { tk0 D t b with held:=t.took+1 }) (er':=er_) rfl rfl
    have hf4:Fr (h3.upd p (some (.cells (scL kv tv ev mv most bv (cV s { tk0 D t b with held:=t.took+1 }) er_).toArray aQ))) n3:=hf3.upd (Nat.le_refl _) (hf3.lt' hv3.1)
    have hkp4:dL (lM p qs) h (h3.upd p (some (.cells (scL kv tv ev mv most bv (cV s { tk0 D t b with held:=t.took+1 }) er_).toArray aQ))):=hkp3.upd (List.mem_cons_self ..)
    have hD4:Sub (del h3 X) (del (h3.upd p (some (.cells (scL kv tv ev mv most bv (cV s { tk0 D t b with held:=t.took+1 }) er_).toArray aQ))) X):=dL.del (ids:=[p]) ((Sub.refl _).keepL.upd (by simp)) (fun k hk=>by simp at hk; subst hk; exact hpX) fun k hk=>.inl hk
    generalize hh4:h3.upd p (some (.cells (scL kv tv ev mv most bv (cV s { tk0 D t b with held:=t.took+1 }) er_).toArray aQ))=h4 at hv4 hf4 hkp4 hD4
    have hov5:(scL kv tv ev mv most bv (cV s { tk0 D t b with held:=t.took+1 }) er_).set 12 (.int .i64 (qL D (mE D t.m b)))=scL kv tv ev mv most bv (cV s (tk1 D t b)) er_:=by rw [e1]; rfl
    have hv5:=hv4.upd (s':=cV s (tk1 D t b)) (er':=er_) (by rw [e1]; rfl) (by rw [e1]; rfl)
    have hf5:Fr (h4.upd p (some (.cells (scL kv tv ev mv most bv (cV s (tk1 D t b)) er_).toArray aQ))) n3:=hf4.upd (Nat.le_refl _) (hf3.lt' hv3.1)
    have hkp5:dL (lM p qs) h (h4.upd p (some (.cells (scL kv tv ev mv most bv (cV s (tk1 D t b)) er_).toArray aQ))):=hkp4.upd (List.mem_cons_self ..)
    have hD5:Sub (del h4 X) (del (h4.upd p (some (.cells (scL kv tv ev mv most bv (cV s (tk1 D t b)) er_).toArray aQ))) X):=dL.del (ids:=[p]) ((Sub.refl _).keepL.upd (by simp)) (fun k hk=>by simp at hk; subst hk; exact hpX) fun k hk=>.inl hk
    (repeat(first|refine aA (by simp (disch:=first|omega|exact nnN _|assumption) only [BB,B2,↓reduceIte,Nat.reduceLeDiff,Nat.reduceAdd,CC,a8,l10b]<;>rfl) ?_|apply aD|apply aE|with_reducible first|apply aG|apply aF|apply aK|apply aH|apply aJ|apply aI|apply aL|apply aC))
    refine aA (dD hv3.1 (by simp [scL]) rfl rfl) ?_
    rw [hov4,hh4]
    (repeat(first|refine aA (by simp (disch:=first|omega|exact nnN _|assumption) only [BB,B2,↓reduceIte,Nat.reduceLeDiff,Nat.reduceAdd,CC,a8]<;>rfl) ?_|apply aD|apply aE|with_reducible first|apply aG|apply aF|apply aK|apply aH|apply aJ|apply aI|apply aL|apply aC))
    refine aA (dD hv4.1 (by simp [scL]) rfl rfl) ?_
    rw [hov5]
    refine hnext _ _ _ e00 e03 e32 e33 e34 ?_ hkp5 ?_ hv5 ((hrv3.sub hD4).sub hD5)
    ·omega
    ·exact hf5.mono (by omega)
 ·(repeat(first|refine aA (by simp (disch:=first|omega|exact nnN _|assumption) only [BB,B2,↓reduceIte,Nat.reduceLeDiff,Nat.reduceAdd,CC]<;>rfl) ?_|apply aD|apply aE|with_reducible first|apply aG|apply aF|apply aK|apply aH|apply aJ|apply aI|apply aL|apply aC))
  refine hx _ _ _ _ (fun e=>by cases e) (d4 (cO ?_))
  have hil:i=rest.length:=by omega
  rw [hil,List.drop_length] at hend
  have hend:(false,t)=o5 T s:=hend
  have hfin:∀ (e':Env) n',e' 0=ptr p→nx'≤n'→jG ro K e' h' n':=by
   intro e' n' d0 dn
   unfold jG
   rw [d0]
   have l14:=aU (ro:=ro) (z:=0) g1' (show (scL kv tv ev mv most bv (cV s t) er_)[14]?=some (.bool s.closed) from rfl)
   (repeat(first|refine aA (by simp (disch:=first|omega|exact nnN _|assumption) only [BB,B2,↓reduceIte,Nat.reduceLeDiff,Nat.reduceAdd,CC,a8,l14]<;>rfl) ?_|apply aD|apply aE|with_reducible first|apply aG|apply aF|apply aK|apply aH|apply aJ|apply aI|apply aL|apply aC))
   refine ⟨h',Sub.refl _,?_⟩
   have h9:=hK h' (n'+5) (by omega) (hf'.mono (by omega)) hkp
   have e1:(cN T s).2=cV s t:=by show cV s (o5 T s).2=_; rw [← hend]
   have e2:(cN T s).1=s.closed:=by show ((o5 T s).1 || s.closed)=_; rw [← hend]; rfl
   rw [e1,e2] at h9
   exact h9 hv'.x
  exact hfin _ _ e00 (by omega)
set_option maxRecDepth 8000 in
set_option maxHeartbeats 1000000 in
theorem aIb (hm:ScX ro h X p qs T most er_ s) (hT:TabR T) (hI:ScI T s) (hTl:T.entries.length≤1000) (hsz:s.steps+s.kept.length≤90000) (hf:Fr h nx)
  (hK:∀ h' nx',nx≤nx'→Fr h' nx'→dL (lM p qs) h h'→ScX ro h' X p qs T most er_ (cN T s).2→K (.bool (cN T s).1) h' nx'):aN Tryz.prog ro mK [ptr p] h nx K:=by
 obtain ⟨kv,tv,ev,mv,bv,hv⟩:=id hm
 have hv:ScV ro h X p qs T most er_ kv tv ev mv bv s:=hv
 obtain ⟨he1,he2,m,hm9,hm8⟩:=hI.at
 obtain ⟨q,hq,hMI,hmap⟩:=hv.at he1 hm9
 have hc:=hI.c
 have hok:=hT.ok _ he2
 obtain ⟨mk1,mk2,mk3⟩:=hI.ms _ _ _ he1 hm9
 have hC512:(er (pN T s).a).counts.length≤512:=(fR hok).2.1
 have g1:=hv.1
 apply yT
 unfold tT
 have l4:=aU (ro:=ro) (z:=0) g1 (show (scL kv tv ev mv most bv s er_)[4]?=some mv from rfl)
 have hmv:Sl ro h mv 1 (sN qs):=hv.2.2.2.2.1.sub (eX h X)
 (repeat(first|refine aA (by simp (disch:=first|omega|exact nnN _|assumption) only [BB,B2,↓reduceIte,Nat.reduceLeDiff,Nat.reduceAdd,CC,a8]<;>rfl) ?_|apply aD|apply aE|with_reducible first|apply aG|apply aF|apply aK|apply aH|apply aJ|apply aI|apply aL|apply aC))
 refine aA l4 ?_
 refine aB1 hm (by omega) fun n1 hn1=>⟨fN g1 g1,?_⟩
 have hql:=(List.getElem?_eq_some_iff.1 hq).1
 have hqe:=(List.getElem?_eq_some_iff.1 hq).2
 refine aA (hmv.ix .i64 (by rw [aBt]; exact hql)) ?_
 have hld:=hmv.load1 (aLV hql)
 rw [hqe] at hld
 refine aA hld ?_
 have LA:=aDp (ro:=ro) (z:=0) (off:=10) (n:=3) g1 (by simp [scL])
 have hdt:((scL kv tv ev mv most bv s er_).drop 10).take 3=[.int .i64 (s.took:Int),.int .i64 (s.held:Int),.int .i64 s.rule]:=rfl
 rw [hdt] at LA
 (repeat(first|refine aA (by simp (disch:=first|omega|exact nnN _|assumption) only [BB,B2,↓reduceIte,Nat.reduceLeDiff,Nat.reduceAdd,CC,a8]<;>rfl) ?_|apply aD|apply aE|with_reducible first|apply aG|apply aF|apply aK|apply aH|apply aJ|apply aI|apply aL|apply aC))
 refine aA LA ?_
 refine aA aBa ?_
 refine aA aLP ?_
 by_cases ht:s.took=0
 ·have hh0:s.held=0:=by have:=hI.ok.held; omega
  have hr0:s.rule=-1:=by
   by_cases hr:s.rule=-1
   ·exact hr
   ·have:=hI.ok.some hr; omega
  rw [ht,hh0,hr0]
  refine aA aOu ?_
  (repeat(first|refine aA (by simp (disch:=first|omega|exact nnN _|assumption) only [BB,B2,↓reduceIte,Nat.reduceLeDiff,Nat.reduceAdd,CC]<;>rfl) ?_|apply aD|apply aE|with_reducible first|apply aG|apply aF|apply aK|apply aH|apply aJ|apply aI|apply aL|apply aC))
  refine aGH hMI (aIo mk1) hC512 (hf.mono (by omega)) mk2 (by omega) fun h2 n2 hn2 hf2 hk2 hM2=>?_
  have hv2:=hv.step hq hmap hk2 hM2
  have hts:s9 s=⟨s.took,s.held,s.rule,s.steps,aEQ m⟩:=by unfold s9; rw [if_pos ht,hm8]
  refine aKG (K0:=0) (kv:=kv) (tv:=tv) (ev:=ev) (mv:=mv) (bv:=bv) (q:=q) (t0:=s9 s) hT hI ?_ hf2 hq rfl rfl (hI.lk hT) rfl hsz rfl rfl fun h' n' h3 h4 h5 h6=>hK h' n' (by omega) h4 ((hk2.mono (aG9 (List.mem_of_getElem? hq))).trans h5) h6
  rw [hts]
  exact hv2
 ·refine aA (aOv (by omega)) ?_
  (repeat(first|refine aA (by simp (disch:=first|omega|exact nnN _|assumption) only [BB,B2,↓reduceIte,Nat.reduceLeDiff,Nat.reduceAdd,CC]<;>rfl) ?_|apply aD|apply aE|with_reducible first|apply aG|apply aF|apply aK|apply aH|apply aJ|apply aI|apply aL|apply aC))
  have hts:s9 s=⟨s.took,s.held,s.rule,s.steps,m⟩:=by unfold s9; rw [if_neg ht,hm8]
  refine aKG (K0:=0) (kv:=kv) (tv:=tv) (ev:=ev) (mv:=mv) (bv:=bv) (q:=q) (t0:=s9 s) hT hI ?_ (hf.mono (by omega)) hq rfl rfl (hI.lk hT) rfl hsz rfl rfl fun h' n' h3 h4 h5 h6=>hK h' n' (by omega) h4 h5 h6
  rw [hts]
  have:cV s ⟨s.took,s.held,s.rule,s.steps,m⟩=s:=by
   unfold cV
   simp only [aNG hm9]
  rw [this]
  exact hv
end
end V
end Go.Proofs.YtcaccnneblghgaaGreat
namespace Go.Proofs.YtcaccnneblghgaaGreat
namespace V
attribute [local irreducible] tC aN aB
@[irreducible] def qY (ro:Ro) (K:KV):Env→T Obj→Nat→Prop:=fun e h nx=>aN Tryz.prog ro lJ [(e 0)] h (nx+2) fun a' h2 n3=>aB (nth 0 a') fun b'=>aB (nth 1 a') fun c'=>aB (b7 Tryz.prog ro h2 (n3+8) #[eB,eB] [(e 6),b']) fun r6=>∃ h7,Sub h7 r6.2.1∧K (.tuple #[r6.1,c']) h7 (r6.2.2+3)
@[irreducible] def aBK (ro:Ro):PT:=fun e h nx Q=>aB (aO .lss (e 15) (e 14)) fun f'=>aS f' (aB (cJ 1 (e 13) (e 15)) fun g'=>aB (load1 ro h g') fun c'=>aN Tryz.prog ro mI [(e 0),c'] h (nx+7) fun e' j' k'=>aB (nth 0 e') fun d'=>aB (nth 1 e') fun b'=>aB (b7 Tryz.prog ro j' (k'+8) #[eB,eB] [(e 6),d']) fun a'=>aB (aO .neq b' (Value.int IntKind.i64 0)) fun h'=>aS h' (Q .ret (puts e [(16,f'),(17,g'),(18,c'),(8,c'),(20,(e 0)),(21,c'),(22,e'),(19,e'),(23,d'),(24,b'),(9,d'),(10,b'),(25,(e 6)),(26,d'),(27,a'.1),(6,a'.1),(28,b'),(29,h'),(30,a'.1),(31,b'),(4,a'.1),(5,b')]) a'.2.1 (a'.2.2+7)) (aB (aO .add (e 15) (Value.int IntKind.i64 1)) fun i'=>Q .normal (puts e [(16,f'),(17,g'),(18,c'),(8,c'),(20,(e 0)),(21,c'),(22,e'),(19,e'),(23,d'),(24,b'),(9,d'),(10,b'),(25,(e 6)),(26,d'),(27,a'.1),(6,a'.1),(28,b'),(29,h'),(32,i'),(15,i')]) a'.2.1 (a'.2.2+5))) (Q (.exit 0) (puts e [(16,f')]) h (nx+1))
@[irreducible] def aF4 (ro:Ro) (v0 v1:Value) (h:T Obj) (nx:Nat) (K:KV):Prop:=aB (bH v1) fun e'=>dN (aBK ro) (puts (gI [v0,v1]) [(4,(Value.slice none 0 0)),(5,(Value.int IntKind.i64 0)),(6,(Value.slice none 0 0)),(13,v1),(14,e'),(15,(Value.int IntKind.i64 0))]) h (nx+6) fun f' a' b' c'=>exP f' (qY ro K a' b' c') (fun g'=>cM (Nat.beq g' 0) (qY ro K a' b' c') (False)) (∃ d',Sub d' b'∧K (.tuple #[(a' 4),(a' 5)]) d' c')
theorem aGS {ro:Ro} {v0 v1:Value} {h:T Obj} {nx:Nat} {K:KV} (hw:aF4 ro v0 v1 h nx K):aN Tryz.prog ro xW [v0,v1] h nx K:=a7 (P:=Tryz.prog) (fn:=Tryz.f16) (by kernel_rfl) (by kernel_rfl) (by kernel_rfl) (Eq.mpr (by kernel_rfl) hw)
end V
end Go.Proofs.YtcaccnneblghgaaGreat
namespace Go.Proofs.YtcaccnneblghgaaGreat
namespace V
attribute [local irreducible] aB ifP aS cS eT exP cM
def nP (t:TokD):List Value:=[.int .i64 t.rule,.int .i64 (t.from_:Int),.int .i64 (t.to:Int)]
def iX (l:List TokD):List (List Value):=l.map nP
theorem nL (l:List TokD):(iX l).length=l.length:=by simp [iX]
theorem aLa {l:List TokD} {i:Nat} (hi:i < l.length):(iX l)[i]?=some (nP l[i]):=by simp [iX,hi]
section
variable {ro:Ro} {h:T Obj} {nx:Nat} {K:KV}
end
end V
end Go.Proofs.YtcaccnneblghgaaGreat
namespace Go.Proofs.YtcaccnneblghgaaGreat
namespace V
attribute [local irreducible] aB ifP aS cS eT exP cM
theorem zK:zer Tryz.prog bE=some (.agg #[.int .i64 0,.int .i64 0,.int .i64 0]):=by kernel_rfl
theorem aKh (a b c:Int):fF Tryz.prog bE [(0,.int .i64 a),(1,.int .i64 b),(2,.int .i64 c)]=some (.agg #[.int .i64 a,.int .i64 b,.int .i64 c]):=by kernel_rfl
section
variable {ro:Ro} {h h0 h':T Obj} {nx nx0:Nat} {K:KV} {X:List Nat} {p:Nat} {qs:List MqD} {T:TabD} {most er_ er':Int} {kv tv ev mv bv:Value} {s s':ScD}
theorem ScV.fin {bv':Value} (hm:ScV ro h0 X p qs T most er_ kv tv ev mv bv s) (hk:dL [p] h0 h') (hg:h'.get p=some (.cells (scL kv tv ev mv most bv' s' er').toArray aQ)) (hms:s'.ms=s.ms) (hb:Sl ro (del h0 X) bv' 1 (bY s'.kept)):ScV ro h' X p qs T most er' kv tv ev mv bv' s':=by
 obtain ⟨g1,g2,g3,g4,g5,g6,g7,g8,g9⟩:=hm
 have hX:∀ k∈[p],k∈X:=fun k hk=>by simp at hk; subst hk; exact g8
 have hD:Sub (del h0 X) (del h' X):=hk.del hX fun k hk=>.inl hk
 refine ⟨hg,g2.sub hD,g3.sub hD,g4.sub hD (pK.sub hD),g5.sub hD,hb.sub hD,?_,g8,g9⟩
 rw [hms]
 exact g7.keep hk hX (fun q hq k hk=>by simp at hk; subst hk; exact g9 q hq) (fun k hk=>.inl hk) fun k hk=>hk
set_option maxRecDepth 8000 in
set_option maxHeartbeats 2000000 in
theorem aMF {tb rb:Nat} {e0:Env} (hv:ScV ro h0 X p qs T most er_ kv tv ev mv bv s) (hT:TabR T) (hI:ScI T s) (hk:s.kept≠[]) (hsz:s.at_+s.kept.length≤90000) (hf:Fr h nx) (hf0:Fr h0 nx0) (hs:Sub h0 h) (htb:nx0≤tb) (hrb:nx0≤rb) (hne:rb≠tb)
  (gt:h.get tb=some (.cells (nP (oP T s)).toArray bE)) (gr:h.get rb=some (.cells [Value.int .i64 0,.int .i64 0,.int .i64 0].toArray bE)) (f0:e0 0=ptr p) (f2:e0 2=ptr rb) (f3:e0 3=ptr tb) (hn:nx0≤nx)
  (hK:∀ h' nx',nx≤nx'→Fr h' nx'→dL [p] h0 h'→ScX ro h' X p qs T most er_ (kX T s)→K (.agg (nP (oP T s)).toArray) h' nx'):jR ro K e0 h nx:=by
 obtain ⟨hl1,hl2⟩:=zE hI.ok hk
 have g10:=hv.1
 have g1:=hs _ _ g10
 have hplt:=hf0.lt' g10
 have hbv:Sl ro (del h0 X) bv 1 (bY s.kept):=hv.2.2.2.2.2.1
 have hpX:p∈X:=hv.2.2.2.2.2.2.2.1
 have hbvh:=(hbv.sub (eX h0 X)).sub hs
 unfold jR
 rw [f0,f3]
 have t0:=aU (ro:=ro) (z:=0) gt (show (nP (oP T s))[0]?=some (.int .i64 (kD T s)) from rfl)
 have t1:=aU (ro:=ro) (z:=0) gt (show (nP (oP T s))[1]?=some (.int .i64 (s.at_:Int)) from rfl)
 have t2:=aU (ro:=ro) (z:=0) gt (show (nP (oP T s))[2]?=some (.int .i64 ((s.at_+fA s:Nat):Int)) from rfl)
 have l6:=aU (ro:=ro) (z:=0) g1 (show (scL kv tv ev mv most bv s er_)[6]?=some bv from rfl)
 (repeat(first|refine aA (by simp (disch:=first|omega|exact nnN _|assumption) only [BB,B2,↓reduceIte,Nat.reduceLeDiff,Nat.reduceAdd,CC]<;>rfl) ?_|apply aD|apply aE|with_reducible first|apply aG|apply aF|apply aK|apply aH|apply aJ|apply aI|apply aL|apply aC))
 refine aA t2 ?_
 (repeat(first|refine aA (by simp (disch:=first|omega|exact nnN _|assumption) only [BB,B2,↓reduceIte,Nat.reduceLeDiff,Nat.reduceAdd,CC]<;>rfl) ?_|apply aD|apply aE|with_reducible first|apply aG|apply aF|apply aK|apply aH|apply aJ|apply aI|apply aL|apply aC))
 refine aA t1 ?_
 have hsub1:aO .sub (.int .i64 ((s.at_+fA s:Nat):Int)) (.int .i64 (s.at_:Int))=some (.int .i64 (fA s:Int)):=by
  rw [dR,show ((s.at_+fA s:Nat):Int) - (s.at_:Int)=(fA s:Int) by omega,eN (by omega) (by omega)]
 refine aA hsub1 ?_
 (repeat(first|refine aA (by simp (disch:=first|omega|exact nnN _|assumption) only [BB,B2,↓reduceIte,Nat.reduceLeDiff,Nat.reduceAdd,CC,a8,l6]<;>rfl) ?_|apply aD|apply aE|with_reducible first|apply aG|apply aF|apply aK|apply aH|apply aJ|apply aI|apply aL|apply aC))
 rw [show ((fA s:Nat):Int) - 1=((fA s - 1:Nat):Int) by omega]
 refine aA (hbvh.ix .i64 (by rw [dT]; omega)) ?_
 refine aA (hbvh.load1 (rT (show fA s - 1 < s.kept.length by omega))) ?_
 have hline:aO .eql (.int .u8 (s.kept[fA s - 1]:Nat)) (.int .u8 10)=some (.bool (decide (s.kept.getD (fA s - 1) 0=10))):=by
  rw [aT,List.getD_eq_getElem?_getD,List.getElem?_eq_getElem (show fA s - 1 < s.kept.length by omega)]
  have:(((s.kept[fA s - 1]:Nat):Int)=10) ↔ ((some s.kept[fA s - 1]).getD 0=10):=by
   show (((s.kept[fA s - 1]:Nat):Int)=10) ↔ (s.kept[fA s - 1]=10)
   omega
  simp only [this]
 refine aA hline ?_
 (repeat(first|refine aA (by simp (disch:=first|omega|exact nnN _|assumption) only [BB,B2,↓reduceIte,Nat.reduceLeDiff,Nat.reduceAdd,CC,a8]<;>rfl) ?_|apply aD|apply aE|with_reducible first|apply aG|apply aF|apply aK|apply aH|apply aJ|apply aI|apply aL|apply aC))
 generalize hL:decide (s.kept.getD (fA s - 1) 0=10)=L
 refine aA (dD g1 (by simp [scL]) rfl rfl) ?_
 have hov1:(scL kv tv ev mv most bv s er_).set 8 (.bool L)=scL kv tv ev mv most bv { s with line:=L } er_:=rfl
 rw [hov1]
 generalize hh1:h.upd p (some (.cells (scL kv tv ev mv most bv { s with line:=L } er_).toArray aQ))=h1
 have g2:h1.get p=some (.cells (scL kv tv ev mv most bv { s with line:=L } er_).toArray aQ):=by rw [← hh1,V.T.get_upd_same]
 have gt1:h1.get tb=some (.cells (nP (oP T s)).toArray bE):=by rw [← hh1,V.T.get_upd_ne _ _ (by omega)]; exact gt
 have gr1:h1.get rb=some (.cells [Value.int .i64 0,.int .i64 0,.int .i64 0].toArray bE):=by rw [← hh1,V.T.get_upd_ne _ _ (by omega)]; exact gr
 have hk1:dL [p] h0 h1:=by rw [← hh1]; exact hs.keepL.upd (by simp)
 have hf1:Fr h1 nx:=by rw [← hh1]; exact hf.upd (Nat.le_refl _) (by omega)
 have l62:=aU (ro:=ro) (z:=0) g2 (show (scL kv tv ev mv most bv { s with line:=L } er_)[6]?=some bv from rfl)
 (repeat(first|refine aA (by simp (disch:=first|omega|exact nnN _|assumption) only [BB,B2,↓reduceIte,Nat.reduceLeDiff,Nat.reduceAdd,CC,a8,l62]<;>rfl) ?_|apply aD|apply aE|with_reducible first|apply aG|apply aF|apply aK|apply aH|apply aJ|apply aI|apply aL|apply aC))
 obtain ⟨rv,hrv1,hrv2⟩:=Sl.drop (P:=Tryz.prog) hbv mC aGp (n:=fA s) (by rw [dT]; exact hl2) .i64
 have hdr:(bY s.kept).drop (fA s)=bY (s.kept.drop (fA s)):=by simp [bY]
 rw [hdr] at hrv2
 refine aA hrv1 ?_
 have t21:=aU (ro:=ro) (z:=0) gt1 (show (nP (oP T s))[2]?=some (.int .i64 ((s.at_+fA s:Nat):Int)) from rfl)
 (repeat(first|refine aA (by simp (disch:=first|omega|exact nnN _|assumption) only [BB,B2,↓reduceIte,Nat.reduceLeDiff,Nat.reduceAdd,CC]<;>rfl) ?_|apply aD|apply aE|with_reducible first|apply aG|apply aF|apply aK|apply aH|apply aJ|apply aI|apply aL|apply aC))
 refine aA t21 ?_
 have hrvf:∃ o n c,rv=.slice o n c:=by
  rcases hrv2 with ⟨h9,_⟩ | ⟨a,c,h9,_⟩
  ·exact ⟨_,_,_,h9⟩
  ·exact ⟨_,_,_,h9⟩
 (repeat(first|refine aA (by simp (disch:=first|omega|exact nnN _|assumption) only [BB,B2,↓reduceIte,Nat.reduceLeDiff,Nat.reduceAdd,CC,a8]<;>rfl) ?_|apply aD|apply aE|with_reducible first|apply aG|apply aF|apply aK|apply aH|apply aJ|apply aI|apply aL|apply aC))
 refine aA (dD g2 (by simp [scL]) hrv2.ok (by obtain ⟨o,n,c,h9⟩:=hrvf; rw [h9]; rfl)) ?_
 have hov2:(scL kv tv ev mv most bv { s with line:=L } er_).set 6 rv=scL kv tv ev mv most rv { s with line:=L,kept:=s.kept.drop (fA s) } er_:=rfl
 rw [hov2]
 generalize hh2:h1.upd p (some (.cells (scL kv tv ev mv most rv { s with line:=L,kept:=s.kept.drop (fA s) } er_).toArray aQ))=h2
 have g3:h2.get p=some (.cells (scL kv tv ev mv most rv { s with line:=L,kept:=s.kept.drop (fA s) } er_).toArray aQ):=by rw [← hh2,V.T.get_upd_same]
 have gt2:h2.get tb=some (.cells (nP (oP T s)).toArray bE):=by rw [← hh2,V.T.get_upd_ne _ _ (by omega)]; exact gt1
 have gr2:h2.get rb=some (.cells [Value.int .i64 0,.int .i64 0,.int .i64 0].toArray bE):=by rw [← hh2,V.T.get_upd_ne _ _ (by omega)]; exact gr1
 have hk2:dL [p] h0 h2:=by rw [← hh2]; exact hk1.upd (by simp)
 have hf2:Fr h2 nx:=by rw [← hh2]; exact hf1.upd (Nat.le_refl _) (by omega)
 refine ⟨fN gt1 gt2,?_⟩
 (repeat(first|refine aA (by simp (disch:=first|omega|exact nnN _|assumption) only [BB,B2,↓reduceIte,Nat.reduceLeDiff,Nat.reduceAdd,CC,a8]<;>rfl) ?_|apply aD|apply aE|with_reducible first|apply aG|apply aF|apply aK|apply aH|apply aJ|apply aI|apply aL|apply aC))
 refine aA (dD g3 (by simp [scL]) rfl rfl) ?_
 have hov3:(scL kv tv ev mv most rv { s with line:=L,kept:=s.kept.drop (fA s) } er_).set 7 (.int .i64 ((s.at_+fA s:Nat):Int))=scL kv tv ev mv most rv { s with line:=L,kept:=s.kept.drop (fA s),at_:=s.at_+fA s } er_:=rfl
 rw [hov3]
 generalize hh3:h2.upd p (some (.cells (scL kv tv ev mv most rv { s with line:=L,kept:=s.kept.drop (fA s),at_:=s.at_+fA s } er_).toArray aQ))=h3
 have g4:h3.get p=some (.cells (scL kv tv ev mv most rv { s with line:=L,kept:=s.kept.drop (fA s),at_:=s.at_+fA s } er_).toArray aQ):=by rw [← hh3,V.T.get_upd_same]
 have gt3:h3.get tb=some (.cells (nP (oP T s)).toArray bE):=by rw [← hh3,V.T.get_upd_ne _ _ (by omega)]; exact gt2
 have gr3:h3.get rb=some (.cells [Value.int .i64 0,.int .i64 0,.int .i64 0].toArray bE):=by rw [← hh3,V.T.get_upd_ne _ _ (by omega)]; exact gr2
 have hk3:dL [p] h0 h3:=by rw [← hh3]; exact hk2.upd (by simp)
 have hf3:Fr h3 nx:=by rw [← hh3]; exact hf2.upd (Nat.le_refl _) (by omega)
 refine aA aBa ?_
 (repeat(first|refine aA (by simp (disch:=first|omega|exact nnN _|assumption) only [BB,B2,↓reduceIte,Nat.reduceLeDiff,Nat.reduceAdd,CC,a8]<;>rfl) ?_|apply aD|apply aE|with_reducible first|apply aG|apply aF|apply aK|apply aH|apply aJ|apply aI|apply aL|apply aC))
 refine aA (aE0 (vs:=[.int .i64 0,.int .i64 0,.int .i64 (-1)]) g4 rfl rfl (by simp [scL]) rfl) ?_
 have hov4:over (scL kv tv ev mv most rv { s with line:=L,kept:=s.kept.drop (fA s),at_:=s.at_+fA s } er_) 10 [.int .i64 0,.int .i64 0,.int .i64 (-1)]=scL kv tv ev mv most rv { s with line:=L,kept:=s.kept.drop (fA s),at_:=s.at_+fA s,took:=0,held:=0,rule:=-1 } er_:=rfl
 rw [hov4]
 generalize hh4:h3.upd p (some (.cells (scL kv tv ev mv most rv { s with line:=L,kept:=s.kept.drop (fA s),at_:=s.at_+fA s,took:=0,held:=0,rule:=-1 } er_).toArray aQ))=h4
 have g5:h4.get p=some (.cells (scL kv tv ev mv most rv { s with line:=L,kept:=s.kept.drop (fA s),at_:=s.at_+fA s,took:=0,held:=0,rule:=-1 } er_).toArray aQ):=by rw [← hh4,V.T.get_upd_same]
 have gt4:h4.get tb=some (.cells (nP (oP T s)).toArray bE):=by rw [← hh4,V.T.get_upd_ne _ _ (by omega)]; exact gt3
 have gr4:h4.get rb=some (.cells [Value.int .i64 0,.int .i64 0,.int .i64 0].toArray bE):=by rw [← hh4,V.T.get_upd_ne _ _ (by omega)]; exact gr3
 have hk4:dL [p] h0 h4:=by rw [← hh4]; exact hk3.upd (by simp)
 have hf4:Fr h4 nx:=by rw [← hh4]; exact hf3.upd (Nat.le_refl _) (by omega)
 have hj2:∀ (e':Env) (h5:V.T Obj) (n':Nat),e' 2=ptr rb→e' 3=ptr tb→nx≤n'→Fr h5 n'→dL [p] h0 h5→h5.get tb=some (.cells (nP (oP T s)).toArray bE)→h5.get rb=some (.cells [Value.int .i64 0,.int .i64 0,.int .i64 0].toArray bE) →
   h5.get p=some (.cells (scL kv tv ev mv most rv (kX T s) er_).toArray aQ)→jS ro K e' h5 n':=by
  intro e' h5 n' d2 d3 dn df dk dt dr dp
  unfold jS
  rw [d2,d3]
  refine aA (dG dt rfl) ?_
  refine aA (lV (vs:=nP (oP T s)) dr rfl rfl rfl rfl) ?_
  refine aA (dG (by rw [V.T.get_upd_same]) rfl) ?_
  refine ⟨_,Sub.refl _,hK _ _ (by omega) ((df.mono (by omega)).upd (Nat.le_refl _) (by have:=df.lt' dr; omega)) ?_ ?_⟩
  ·intro k o hko hnk
   have:=hf0.lt' hko
   rw [V.T.get_upd_ne _ _ (by omega)]
   exact dk k o hko hnk
  ·refine (ScV.fin hv (bv':=rv) (s':=kX T s) (er':=er_) ?_ ?_ rfl hrv2).x
   ·intro k o hko hnk
    have:=hf0.lt' hko
    rw [V.T.get_upd_ne _ _ (by omega)]
    exact dk k o hko hnk
   ·rw [V.T.get_upd_ne _ _ (by omega)]
    exact dp
 have t04:=aU (ro:=ro) (z:=0) gt4 (show (nP (oP T s))[0]?=some (.int .i64 (kD T s)) from rfl)
 (repeat(first|refine aA (by simp (disch:=first|omega|exact nnN _|assumption) only [BB,B2,↓reduceIte,Nat.reduceLeDiff,Nat.reduceAdd,CC]<;>rfl) ?_|apply aD|apply aE|with_reducible first|apply aG|apply aF|apply aK|apply aH|apply aJ|apply aI|apply aL|apply aC))
 refine aA t04 ?_
 by_cases hr:kD T s=-1
 ·have hcut:kX T s={ s with line:=L,kept:=s.kept.drop (fA s),at_:=s.at_+fA s,took:=0,held:=0,rule:=-1 }:=by
   unfold kX aDV
   rw [hL,if_neg (by rw [hr]; simp)]
  refine aBO hr ?_
  (repeat(first|refine aA (by simp (disch:=first|omega|exact nnN _|assumption) only [BB,B2,↓reduceIte,Nat.reduceLeDiff,Nat.reduceAdd,CC]<;>rfl) ?_|apply aD|apply aE|with_reducible first|apply aG|apply aF|apply aK|apply aH|apply aJ|apply aI|apply aL|apply aC))
  refine hj2 _ _ _ f2 f3 ?_ ?_ hk4 gt4 gr4 (by rw [hcut]; exact g5)
  ·omega
  ·exact hf4.mono (by omega)
 ·obtain ⟨he1,he2,m9,hm9,_⟩:=hI.at
  have hrng:0≤kD T s∧kD T s < T.kinds.length:=by
   have hsr:s.rule≠-1:=fun e=>hr (by unfold kD; rw [if_pos e])
   have h9:=hI.ru.resolve_left hsr
   unfold kD
   rw [if_neg hsr,List.getD_eq_getElem?_getD,List.getElem?_eq_getElem (show s.rule.toNat < (pN T s).rules.length by omega)]
   exact hT.rk _ he2 _ (List.getElem_mem _)
  have htl:(kD T s).toNat < T.to.length:=by rw [hT.to]; omega
  have htv:Sl ro h4 tv 1 (kC T.to):=hv.2.2.1.sub (hk4.delS fun k hk=>by simp at hk; subst hk; exact hpX)
  have hix:=Sl.ixI htv .i64 hrng.1 (by rw [eM]; omega)
  have hld:=htv.load1 (jX htl)
  have htb9:=hT.tb _ (List.getElem_mem htl)
  have hcl:=hT.len
  have hgd:T.to.getD (kD T s).toNat 0=T.to[(kD T s).toNat]:=by rw [List.getD_eq_getElem?_getD,List.getElem?_eq_getElem htl]; rfl
  generalize T.to[(kD T s).toNat]=tv9 at hld htb9 hgd
  have l24:=aU (ro:=ro) (z:=0) g5 (show (scL kv tv ev mv most rv { s with line:=L,kept:=s.kept.drop (fA s),at_:=s.at_+fA s,took:=0,held:=0,rule:=-1 } er_)[2]?=some tv from rfl)
  refine aIA hr ?_
  (repeat(first|refine aA (by simp (disch:=first|omega|exact nnN _|assumption) only [BB,B2,↓reduceIte,Nat.reduceLeDiff,Nat.reduceAdd,CC,a8,l24,t04]<;>rfl) ?_|apply aD|apply aE|with_reducible first|apply aG|apply aF|apply aK|apply aH|apply aJ|apply aI|apply aL|apply aC))
  refine aA hix ?_
  (repeat(first|refine aA (by simp (disch:=first|omega|exact nnN _|assumption) only [BB,B2,↓reduceIte,Nat.reduceLeDiff,Nat.reduceAdd,CC]<;>rfl) ?_|apply aD|apply aE|with_reducible first|apply aG|apply aF|apply aK|apply aH|apply aJ|apply aI|apply aL|apply aC))
  refine aA hld ?_
  (repeat(first|refine aA (by simp (disch:=first|omega|exact nnN _|assumption) only [BB,B2,↓reduceIte,Nat.reduceLeDiff,Nat.reduceAdd,CC]<;>rfl) ?_|apply aD|apply aE|with_reducible first|apply aG|apply aF|apply aK|apply aH|apply aJ|apply aI|apply aL|apply aC))
  by_cases htv0:0≤tv9
  ·refine aOm htv0 ?_
   (repeat(first|refine aA (by simp (disch:=first|omega|exact nnN _|assumption) only [BB,B2,↓reduceIte,Nat.reduceLeDiff,Nat.reduceAdd,CC,a8,l24,t04]<;>rfl) ?_|apply aD|apply aE|with_reducible first|apply aG|apply aF|apply aK|apply aH|apply aJ|apply aI|apply aL|apply aC))
   refine aA hix ?_
   (repeat(first|refine aA (by simp (disch:=first|omega|exact nnN _|assumption) only [BB,B2,↓reduceIte,Nat.reduceLeDiff,Nat.reduceAdd,CC]<;>rfl) ?_|apply aD|apply aE|with_reducible first|apply aG|apply aF|apply aK|apply aH|apply aJ|apply aI|apply aL|apply aC))
   refine aA hld ?_
   (repeat(first|refine aA (by simp (disch:=first|omega|exact nnN _|assumption) only [BB,B2,↓reduceIte,Nat.reduceLeDiff,Nat.reduceAdd,CC,a8]<;>rfl) ?_|apply aD|apply aE|with_reducible first|apply aG|apply aF|apply aK|apply aH|apply aJ|apply aI|apply aL|apply aC))
   have hcut:kX T s={ s with line:=L,kept:=s.kept.drop (fA s),at_:=s.at_+fA s,took:=0,held:=0,rule:=-1,cond:=tv9.toNat }:=by
    unfold kX aDV
    rw [hL,hgd,if_pos ⟨hr,htv0⟩]
   refine aA (dD g5 (by simp [scL]) rfl rfl) ?_
   have hov5:(scL kv tv ev mv most rv { s with line:=L,kept:=s.kept.drop (fA s),at_:=s.at_+fA s,took:=0,held:=0,rule:=-1 } er_).set 9 (.int .i64 tv9)=scL kv tv ev mv most rv (kX T s) er_:=by
    rw [hcut]
    obtain ⟨n9,rfl⟩:∃ n9:Nat,tv9=(n9:Int):=⟨tv9.toNat,by omega⟩
    rfl
   rw [hov5]
   refine hj2 _ _ _ f2 f3 ?_ ?_ ?_ ?_ ?_ ?_
   ·omega
   ·exact (hf4.mono (by omega)).upd (Nat.le_refl _) (by omega)
   ·exact hk4.upd (by simp)
   ·rw [V.T.get_upd_ne _ _ (by omega)]; exact gt4
   ·rw [V.T.get_upd_ne _ _ (by omega)]; exact gr4
   ·rw [V.T.get_upd_same]
  ·refine aOl (by omega) ?_
   (repeat(first|refine aA (by simp (disch:=first|omega|exact nnN _|assumption) only [BB,B2,↓reduceIte,Nat.reduceLeDiff,Nat.reduceAdd,CC]<;>rfl) ?_|apply aD|apply aE|with_reducible first|apply aG|apply aF|apply aK|apply aH|apply aJ|apply aI|apply aL|apply aC))
   have hcut:kX T s={ s with line:=L,kept:=s.kept.drop (fA s),at_:=s.at_+fA s,took:=0,held:=0,rule:=-1 }:=by
    unfold kX aDV
    rw [hL,hgd,if_neg (fun e=>htv0 e.2)]
   refine hj2 _ _ _ f2 f3 ?_ ?_ hk4 gt4 gr4 (by rw [hcut]; exact g5)
   ·omega
   ·exact hf4.mono (by omega)
set_option maxRecDepth 8000 in
set_option maxHeartbeats 2000000 in
theorem aJh (hm:ScX ro h X p qs T most er_ s) (hT:TabR T) (hI:ScI T s) (hTl:T.entries.length≤1000) (hk:s.kept≠[]) (hsz:s.at_+s.kept.length≤90000) (hf:Fr h nx)
  (hK:∀ h' nx',nx≤nx'→Fr h' nx'→dL [p] h h'→ScX ro h' X p qs T most er_ (kX T s)→K (.agg (nP (oP T s)).toArray) h' nx'):aN Tryz.prog ro m5 [ptr p] h nx K:=by
 obtain ⟨kv,tv,ev,mv,bv,hv⟩:=id hm
 have hv:ScV ro h X p qs T most er_ kv tv ev mv bv s:=hv
 obtain ⟨he1,he2,m9,hm9,_⟩:=hI.at
 have g0:=hv.1
 have hpl:=hf.lt' g0
 have hc:=hI.c
 have hat:s.at_≤90000:=by omega
 have hkl:0 < s.kept.length:=List.length_pos_iff.2 hk
 apply zO
 unfold vB
 refine aA zK ?_
 refine aG2 (m:=nx) hf (Nat.le_refl _) fun h1 hs1 hf1 g1 _=>?_
 have g1:h1.get nx=some (.cells [Value.int .i64 0,.int .i64 0,.int .i64 0].toArray bE):=g1
 have g01:=hs1 _ _ g0
 have l7:=aU (ro:=ro) (z:=0) g01 (show (scL kv tv ev mv most bv s er_)[7]?=some (.int .i64 (s.at_:Int)) from rfl)
 (repeat(first|refine aA (by simp (disch:=first|omega|exact nnN _|assumption) only [BB,B2,↓reduceIte,Nat.reduceLeDiff,Nat.reduceAdd,CC,a8,l7]<;>rfl) ?_|apply aD|apply aE|with_reducible first|apply aG|apply aF|apply aK|apply aH|apply aJ|apply aI|apply aL|apply aC))
 refine aA (aKh _ _ _) ?_
 refine jD (x:=[.int .i64 (-1),.int .i64 (s.at_:Int),.int .i64 ((s.at_:Int)+1)]) (n:=3) zK rfl rfl rfl rfl hf1 (by omega) fun h2 hs2 hf2 g2 _=>?_
 have g02:=hs2 _ _ g01
 have g12:=hs2 _ _ g1
 have l12:=aU (ro:=ro) (z:=0) g02 (show (scL kv tv ev mv most bv s er_)[12]?=some (.int .i64 s.rule) from rfl)
 (repeat(first|refine aA (by simp (disch:=first|omega|exact nnN _|assumption) only [BB,B2,↓reduceIte,Nat.reduceLeDiff,Nat.reduceAdd,CC,a8,l12]<;>rfl) ?_|apply aD|apply aE|with_reducible first|apply aG|apply aF|apply aK|apply aH|apply aJ|apply aI|apply aL|apply aC))
 by_cases hr:s.rule=-1
 ·refine aBO hr ?_
  (repeat(first|refine aA (by simp (disch:=first|omega|exact nnN _|assumption) only [BB,B2,↓reduceIte,Nat.reduceLeDiff,Nat.reduceAdd,CC]<;>rfl) ?_|apply aD|apply aE|with_reducible first|apply aG|apply aF|apply aK|apply aH|apply aJ|apply aI|apply aL|apply aC))
  have htok:nP (oP T s)=[.int .i64 (-1),.int .i64 (s.at_:Int),.int .i64 ((s.at_:Int)+1)]:=by
   unfold oP nP kD fA
   rw [if_pos hr,if_pos hr]; rfl
  refine aMF (kv:=kv) (tv:=tv) (ev:=ev) (mv:=mv) (bv:=bv) (tb:=nx+11) (rb:=nx) hv hT hI hk hsz ?_ hf (hs1.trans hs2) (by omega) (by omega) (by omega) (by rw [htok]; exact g2) g12 rfl rfl rfl (by omega) fun h' n' h3 h4 h5 h6=>hK h' n' (by omega) h4 h5 h6
  exact hf2.mono (by omega)
 ·refine aIA hr ?_
  have hru:=hI.ru.resolve_left hr
  have hev:=hv.2.2.2.1
  have hev2:SlR ro h2 ev 260 (pK ro h2) T.entries:=hev.sub ((eX h X).trans (hs1.trans hs2)) (pK.sub ((eX h X).trans (hs1.trans hs2)))
  have l3:=aU (ro:=ro) (z:=0) g02 (show (scL kv tv ev mv most bv s er_)[3]?=some ev from rfl)
  (repeat(first|refine aA (by simp (disch:=first|omega|exact nnN _|assumption) only [BB,B2,↓reduceIte,Nat.reduceLeDiff,Nat.reduceAdd,CC,a8,l3]<;>rfl) ?_|apply aD|apply aE|with_reducible first|apply aG|apply aF|apply aK|apply aH|apply aJ|apply aI|apply aL|apply aC))
  have hm2:ScX ro h2 X p qs T most er_ s:=(hv.sub (hs1.trans hs2)).x
  refine aB1 hm2 (by omega) fun n1 hn1=>⟨fN g02 g02,?_⟩
  have hel:=(List.getElem?_eq_some_iff.1 he1).1
  have hee:=(List.getElem?_eq_some_iff.1 he1).2
  obtain ⟨y,⟨rv,hy0,hrv⟩,hy2,hy3,hy4,hy5⟩:=hev2.at hel
  rw [hee] at hrv
  refine aA (hev2.ix .i64 hel) ?_
  refine aA (hy4 259) ?_
  refine aA (hy5 259 _ hy0) ?_
  have l11:=aU (ro:=ro) (z:=0) g02 (show (scL kv tv ev mv most bv s er_)[11]?=some (.int .i64 (s.held:Int)) from rfl)
  have l72:=aU (ro:=ro) (z:=0) g02 (show (scL kv tv ev mv most bv s er_)[7]?=some (.int .i64 (s.at_:Int)) from rfl)
  (repeat(first|refine aA (by simp (disch:=first|omega|exact nnN _|assumption) only [BB,B2,↓reduceIte,Nat.reduceLeDiff,Nat.reduceAdd,CC,a8,l12]<;>rfl) ?_|apply aD|apply aE|with_reducible first|apply aG|apply aF|apply aK|apply aH|apply aJ|apply aI|apply aL|apply aC))
  refine ⟨fN g02 g02,?_⟩
  refine aA (Sl.ixI hrv .i64 hru.1 (by rw [eM]; exact hru.2)) ?_
  have hrl:s.rule.toNat < (pN T s).rules.length:=by omega
  refine aA (hrv.load1 (jX hrl)) ?_
  (repeat(first|refine aA (by simp (disch:=first|omega|exact nnN _|assumption) only [BB,B2,↓reduceIte,Nat.reduceLeDiff,Nat.reduceAdd,CC,a8,l72]<;>rfl) ?_|apply aD|apply aE|with_reducible first|apply aG|apply aF|apply aK|apply aH|apply aJ|apply aI|apply aL|apply aC))
  refine ⟨fN g02 g02,?_⟩
  (repeat(first|refine aA (by simp (disch:=first|omega|exact nnN _|assumption) only [BB,B2,↓reduceIte,Nat.reduceLeDiff,Nat.reduceAdd,CC,a8,l11]<;>rfl) ?_|apply aD|apply aE|with_reducible first|apply aG|apply aF|apply aK|apply aH|apply aJ|apply aI|apply aL|apply aC))
  refine ⟨fN g02 g02,?_⟩
  have hhl:s.held≤s.kept.length:=Nat.le_trans hI.ok.held hI.ok.took
  have hadd:aO .add (.int .i64 (s.at_:Int)) (.int .i64 (s.held:Int))=some (.int .i64 ((s.at_+s.held:Nat):Int)):=by
   rw [c7,show (s.at_:Int)+(s.held:Int)=((s.at_+s.held:Nat):Int) by omega,eN (by omega) (by omega)]
  refine aA hadd ?_
  (repeat(first|refine aA (by simp (disch:=first|omega|exact nnN _|assumption) only [BB,B2,↓reduceIte,Nat.reduceLeDiff,Nat.reduceAdd,CC]<;>rfl) ?_|apply aD|apply aE|with_reducible first|apply aG|apply aF|apply aK|apply aH|apply aJ|apply aI|apply aL|apply aC))
  refine aA (dD g2 (Nat.zero_lt_succ _) rfl rfl) ?_
  have hpne:p≠nx+11:=by omega
  have g03:(h2.upd (nx+11) (some (.cells (([Value.int .i64 (-1),.int .i64 (s.at_:Int),.int .i64 ((s.at_:Int)+1)]).set 0 (.int .i64 (pN T s).rules[s.rule.toNat])).toArray bE))).get p=some (.cells (scL kv tv ev mv most bv s er_).toArray aQ):=by
   rw [V.T.get_upd_ne _ _ hpne]; exact g02
  refine ⟨fN g02 g03,fN g02 g03,?_⟩
  (repeat(first|refine aA (by simp (disch:=first|omega|exact nnN _|assumption) only [BB,B2,↓reduceIte,Nat.reduceLeDiff,Nat.reduceAdd,CC]<;>rfl) ?_|apply aD|apply aE|with_reducible first|apply aG|apply aF|apply aK|apply aH|apply aJ|apply aI|apply aL|apply aC))
  have htok:nP (oP T s)=over (([Value.int .i64 (-1),.int .i64 (s.at_:Int),.int .i64 ((s.at_:Int)+1)]).set 0 (.int .i64 (pN T s).rules[s.rule.toNat])) 2 [.int .i64 ((s.at_+s.held:Nat):Int)]:=by
   unfold oP nP kD fA
   rw [if_neg hr,if_neg hr,List.getD_eq_getElem?_getD,List.getElem?_eq_getElem hrl]; rfl
  rw [← htok]
  refine aMF (kv:=kv) (tv:=tv) (ev:=ev) (mv:=mv) (bv:=bv) (tb:=nx+11) (rb:=nx) hv hT hI hk hsz ?_ hf ?_ (by omega) (by omega) (by omega) (V.T.get_upd_same _ _ _) ?_ rfl rfl rfl (by omega) fun h' n' h3 h4 h5 h6=>hK h' n' (by omega) h4 h5 h6
  ·exact ((hf2.mono (by omega)).upd (Nat.le_refl _) (by omega)).upd (Nat.le_refl _) (by omega)
  ·intro k o hko
   have:=hf.lt' hko
   rw [V.T.get_upd_ne _ _ (by omega),V.T.get_upd_ne _ _ (by omega)]
   exact hs2 _ _ (hs1 _ _ hko)
  ·rw [V.T.get_upd_ne _ _ (by omega),V.T.get_upd_ne _ _ (by omega)]
   exact g12
end
end V
end Go.Proofs.YtcaccnneblghgaaGreat
namespace Go.Proofs.YtcaccnneblghgaaGreat
namespace V
attribute [local irreducible] aB ifP aS cS eT exP cM
theorem aNs (id:Nat) (a b c:Int):bQ Tryz.prog eB id 1 [(0,.agg [Value.int .i64 a,.int .i64 b,.int .i64 c].toArray)]=some (.slice (some (own id 3)) 1 1,some (.cells [Value.int .i64 a,.int .i64 b,.int .i64 c].toArray bE)):=by kernel_rfl
theorem aIl:und Tryz.prog eB=some (.slice bE):=by kernel_rfl
theorem aK7:∃ i,tin Tryz.prog bE=some i∧i.size=3∧i.bytes=24:=wU (by kernel_rfl)
section
variable {ro:Ro} {h h':T Obj} {nx:Nat} {K:KV} {X X':List Nat} {p:Nat} {qs:List MqD} {T:TabD} {most er_ er':Int} {s s':ScD}
theorem ScX.shrink (hm:ScX ro h X p qs T most er_ s) (hX:∀ k∈X',k∈X) (hp:∀ k∈lM p qs,k∈X'):ScX ro h X' p qs T most er_ s:=by
 obtain ⟨kv,tv,ev,mv,bv,g1,g2,g3,g4,g5,g6,g7,g8,g9⟩:=hm
 have hD:Sub (del h X) (del h X'):=rW hX
 exact ⟨kv,tv,ev,mv,bv,g1,g2.sub hD,g3.sub hD,g4.sub hD (pK.sub hD),g5.sub hD,g6.sub hD,g7.shrink hX fun q hq k hk=>hp k (aG9 hq k hk),hp p (List.mem_cons_self ..),g9⟩
theorem ScX.keep {ids:List Nat} (hm:ScX ro h X p qs T most er_ s) (hs:dL ids h h') (h1:∀ k∈ids,k∈X) (h2:∀ k∈ids,k ∉ lM p qs) (h3:∀ k∈X',k∈X∨h.get k=none) (h4:∀ k∈X,k∈X'):ScX ro h' X' p qs T most er_ s:=by
 obtain ⟨kv,tv,ev,mv,bv,hv⟩:=hm
 have hv:ScV ro h X p qs T most er_ kv tv ev mv bv s:=hv
 exact (hv.keep hs h1 (fun q hq k hk h9=>h2 k hk (aG9 hq k h9)) (fun h9=>h2 p h9 (List.mem_cons_self ..)) h3 h4).x
theorem ScX.own (hm:ScX ro h X p qs T most er_ s):∀ k∈lM p qs,k∈X∧∃ o,h.get k=some o:=fun k hk=>by
 obtain ⟨kv,tv,ev,mv,bv,g1,g2,g3,g4,g5,g6,g7,g8,g9⟩:=hm
 rcases List.mem_cons.1 hk with rfl | hk
 ·exact ⟨g8,_,g1⟩
 ·obtain ⟨q,hq,hk⟩:=List.mem_flatMap.1 hk
  obtain ⟨i,hi⟩:=List.getElem?_of_mem hq
  have hl:=(List.getElem?_eq_some_iff.1 hi).1
  obtain ⟨c,e,h9,_⟩:=(g7.at_ i q _ _ hi (List.getElem?_eq_getElem (by rw [← g7.lq]; exact hl)) (List.getElem?_eq_getElem (by rw [g7.lm,← g7.lq]; exact hl))).ty k hk
  exact ⟨g7.inX hi k hk,_,h9⟩
theorem ScX.ownLt (hm:ScX ro h X p qs T most er_ s) (hf:Fr h nx):∀ k∈lM p qs,k < nx:=fun k hk=>by
 obtain ⟨_,o,h9⟩:=hm.own k hk
 exact hf.lt' h9
theorem aJn (l:List TokD) (t:TokD):iX (l++[t])=iX l++[nP t]:=by simp [iX]
structure TkI (ro:Ro) (X:List Nat) (p:Nat) (qs:List MqD) (T:TabD) (most er_:Int) (h:V.T Obj) (nx:Nat) (s:ScD) (h':V.T Obj) (nx' m:Nat) (s':ScD) (acc:List TokD) (out:Value) (Y:List Nat):Prop where
 km:s'.kept.length≤m
 kp:dL (lM p qs) h h'
 fr':Fr h' nx'
 sc:ScX ro h' (X++Y) p qs T most er_ s'
 oo:dF h' out 3 bE (iX acc) nx
 ob:∀ b∈kF out,b∈Y
 yn:∀ b∈Y,nx≤b
 ii:ScI T s'
 at':s'.at_+s'.kept.length=s.at_+s.kept.length
 eqT:fO T s.kept.length s=(acc++(fO T m s').1,(fO T m s').2)
 al:acc.length+s'.kept.length≤s.kept.length
 le:nx≤nx'
set_option maxRecDepth 8000 in
set_option maxHeartbeats 2000000 in
theorem aAP (hm:ScX ro h X p qs T most er_ s) (hT:TabR T) (hI:ScI T s) (hTl:T.entries.length≤1000) (hsz:s.at_+s.kept.length≤400) (hf:Fr h nx)
  (hK:∀ r h' nx',nx≤nx'→Fr h' nx'→dL (lM p qs) h h'→ScX ro h' X p qs T most er_ (fO T s.kept.length s).2→dF h' r 3 bE (iX (fO T s.kept.length s).1) nx→K r h' nx'):aN Tryz.prog ro iR [ptr p] h nx K:=by
 have hown:=hm.ownLt hf
 apply wG
 unfold qM
 refine bA (fun j e h' nx'=>∃ s' acc out Y,e 0=ptr p∧e 3=out∧TkI ro X p qs T most er_ h nx s h' nx' j s' acc out Y) ?_ (n:=s.kept.length)
  ⟨s,[],.slice none 0 0,[],rfl,rfl,Nat.le_refl _,(Sub.refl _).keepL,hf.mono (by omega),by rw [List.append_nil]; exact hm,dF.nil,(fun b hb=>by cases hb),(fun b hb=>by cases hb),hI,rfl,rfl,by simp,by omega⟩
 rintro j e h' nx' ⟨s',acc,out,Y,e0,e3,ti⟩ Q' hq hx
 obtain ⟨km,kp,fr',sc,oo,ob,yn,ii,at',eqT,al,le⟩:=ti
 obtain ⟨kv,tv,ev,mv,bv,hv⟩:=id sc
 have hv:ScV ro h' (X++Y) p qs T most er_ kv tv ev mv bv s':=hv
 have g1:=hv.1
 unfold oL
 rw [e0,e3]
 have l6:=aU (ro:=ro) (z:=0) g1 (show (scL kv tv ev mv most bv s' er_)[6]?=some bv from rfl)
 have hbl:=(hv.2.2.2.2.2.1.sub (eX h' (X++Y))).len
 rw [dT] at hbl
 have hexit:∀ (e':Env) (h2:V.T Obj) (n':Nat) (s2:ScD),e' 3=out→nx≤n'→Fr h2 n'→dL (lM p qs) h h2→ScX ro h2 (X++Y) p qs T most er_ s2→dF h2 out 3 bE (iX acc) nx→fO T s.kept.length s=(acc,s2)→iA ro K e' h2 n':=by
  intro e' h2 n' s2 d3 dn df dk ds dout deq
  unfold iA
  rw [d3]
  refine ⟨h2,Sub.refl _,hK out h2 _ (by omega) (df.mono (by omega)) dk ?_ ?_⟩
  ·rw [deq]
   exact ds.shrink (fun k hk=>List.mem_append_left _ hk) fun k hk=>(hm.own k hk).1
  ·rw [deq]; exact dout
 (repeat(first|refine aA (by simp (disch:=first|omega|exact nnN _|assumption) only [BB,B2,↓reduceIte,Nat.reduceLeDiff,Nat.reduceAdd,CC,a8,l6]<;>rfl) ?_|apply aD|apply aE|with_reducible first|apply aG|apply aF|apply aK|apply aH|apply aJ|apply aI|apply aL|apply aC))
 refine aA hbl ?_
 by_cases hk:s'.kept=[]
 ·refine aKP (by rw [hk]; simp) ?_
  (repeat(first|refine aA (by simp (disch:=first|omega|exact nnN _|assumption) only [BB,B2,↓reduceIte,Nat.reduceLeDiff,Nat.reduceAdd,CC]<;>rfl) ?_|apply aD|apply aE|with_reducible first|apply aG|apply aF|apply aK|apply aH|apply aJ|apply aI|apply aL|apply aC))
  refine hx _ _ _ _ (fun e=>by cases e) (d4 (cO ?_))
  have h9:fO T s.kept.length s=(acc,s'):=by rw [eqT,vG _ hk]; simp
  refine hexit _ _ _ s' ?_ ?_ ?_ kp sc oo h9
  ·exact e3
  ·omega
  ·exact fr'.mono (by omega)
 ·have hkl:0 < s'.kept.length:=List.length_pos_iff.2 hk
  have hst:=aNJ ii
  rw [at'] at hst
  have hst2:(s.at_+s.kept.length)*(s.at_+s.kept.length+1)≤400*401:=Nat.mul_le_mul hsz (by omega)
  refine aKQ (by omega) ?_
  (repeat(first|refine aA (by simp (disch:=first|omega|exact nnN _|assumption) only [BB,B2,↓reduceIte,Nat.reduceLeDiff,Nat.reduceAdd,CC]<;>rfl) ?_|apply aD|apply aE|with_reducible first|apply aG|apply aF|apply aK|apply aH|apply aJ|apply aI|apply aL|apply aC))
  refine aIb sc hT ii hTl (by omega) (fr'.mono (by omega)) fun h2 n2 hn2 hf2 hk2 hs2=>?_
  have hI2:=aD1 hT ii hk
  have hout2:dF h2 out 3 bE (iX acc) nx:=oo.keepK hk2 fun id hid hm9=>by
   have:=hown id hm9
   have:=(oo.blk hid).1
   omega
  obtain ⟨m,rfl⟩:∃ m,j=m+1:=⟨j - 1,by omega⟩
  rw [nD,if_neg hk] at eqT
  cases hB:(cN T s').1 with
  | false =>
   rw [hB] at eqT
   simp only [Bool.false_eq_true,if_false,List.append_nil] at eqT
   (repeat(first|refine aA (by simp (disch:=first|omega|exact nnN _|assumption) only [BB,B2,↓reduceIte,Nat.reduceLeDiff,Nat.reduceAdd,CC]<;>rfl) ?_|apply aD|apply aE|with_reducible first|apply aG|apply aF|apply aK|apply aH|apply aJ|apply aI|apply aL|apply aC))
   refine hx _ _ _ _ (fun e=>by cases e) (d4 (cO ?_))
   refine hexit _ _ _ _ ?_ ?_ ?_ (kp.trans hk2) hs2 hout2 eqT
   ·exact e3
   ·omega
   ·exact hf2.mono (by omega)
  | true =>
   rw [hB] at eqT
   simp only [if_true] at eqT
   have hkE:(cN T s').2.kept=s'.kept:=rfl
   have hatE:(cN T s').2.at_=s'.at_:=rfl
   (repeat(first|refine aA (by simp (disch:=first|omega|exact nnN _|assumption) only [BB,B2,↓reduceIte,Nat.reduceLeDiff,Nat.reduceAdd,CC]<;>rfl) ?_|apply aD|apply aE|with_reducible first|apply aG|apply aF|apply aK|apply aH|apply aJ|apply aI|apply aL|apply aC))
   refine aJh hs2 hT hI2 hTl (by rw [hkE]; exact hk) (by rw [hkE,hatE,at']; omega) (hf2.mono (by omega)) fun h3 n3 hn3 hf3 hk3 hs3=>?_
   obtain ⟨hL1,hL2⟩:=zE hI2.ok (by rw [hkE]; exact hk)
   rw [hkE] at hL2
   have hI3:=aHY hT hI2 (by rw [hkE]; exact hk)
   have hclen:(kX T (cN T s').2).kept.length=s'.kept.length - fA (cN T s').2:=by rw [aCy,hkE]
   have hcat:(kX T (cN T s').2).at_=s'.at_+fA (cN T s').2:=rfl
   have hrt:(oP T (cN T s').2).rule=-1∨0≤(oP T (cN T s').2).rule∧(oP T (cN T s').2).rule < T.kinds.length:=by
    show kD T (cN T s').2=-1∨0≤kD T (cN T s').2∧kD T (cN T s').2 < T.kinds.length
    obtain ⟨he1,he2,_⟩:=hI2.at
    by_cases hsr:(cN T s').2.rule=-1
    ·left; unfold kD; rw [if_pos hsr]
    ·right
     have h9:=hI2.ru.resolve_left hsr
     unfold kD
     rw [if_neg hsr,List.getD_eq_getElem?_getD,List.getElem?_eq_getElem (show (cN T s').2.rule.toNat < (pN T (cN T s').2).rules.length by omega)]
     exact hT.rk _ he2 _ (List.getElem_mem _)
   generalize oP T (cN T s').2=t at *
   generalize kX T (cN T s').2=sC at *
   refine jD (x:=nP t) (n:=3) zK rfl rfl rfl rfl hf3 (Nat.le_refl _) fun h4 hs4 hf4 g4 _=>?_
   have hout4:dF h4 out 3 bE (iX acc) nx:=(hout2.keepK hk3 fun id hid hm9=>by
    simp at hm9
    subst hm9
    have:=hown id (List.mem_cons_self ..)
    have:=(oo.blk hid).1
    omega).keepS hs4
   have hkp4:dL (lM p qs) h h4:=((kp.trans hk2).trans (hk3.mono fun b hb=>by simp at hb; subst hb; exact List.mem_cons_self ..)).trans hs4.keepL
   have hs4x:ScX ro h4 (X++Y) p qs T most er_ sC:=hs3.keep (ids:=[]) hs4.keepL (fun k hk=>by cases hk) (fun k hk=>by cases hk) (fun k hk=>.inl hk) fun k hk=>hk
   have happ:∀ (n75:Nat) (F:Value→Value × Option Obj→Value × V.T Obj × Nat→Env),n3+1≤n75→(∀ x y z,F x y z 0=ptr p)→(∀ x y z,F x y z 3=z.1)→aBI T t=true →
     aB (loadA ro h4 3 (ptr n3)) fun t33=>aB (bQ Tryz.prog eB (n75+2) 1 [(0,t33)]) fun r79=>eT h4 (n75+2) r79.2 fun h80=>aB (b7 Tryz.prog ro h80 (n75+4) #[eB,eB] [out,r79.1]) fun r81=>Q' .normal (F t33 r79 r81) r81.2.1 (r81.2.2+1):=by
    intro n75 F hn75 f0 f3 hkT
    refine aA (dG g4 rfl) ?_
    obtain ⟨i9,t1,t2,t3⟩:=aK7
    refine aAW (z:=3) (l:=iX acc) (y:=nP t) (aNs _ _ _ _) rfl hout4 aIl t1 (by omega) (by omega) zK rfl rfl (by rw [nL,t3]; unfold big; omega) (by rw [nL]; unfold big; omega) (hf4.mono (by omega)) (by omega) (by omega) (fun e9=>by have:=hf4.lt' (hout4.blk e9).2; omega) fun h5 ho5 hk5 hf5=>?_
    generalize hnv:Value.slice (some (own (n75+4) 3)) (iX acc++[nP t]).length (iX acc++[nP t]).length=out2 at ho5
    have hsb:iW out2=some (n75+4):=by rw [← hnv]; rfl
    have hkk:dL (kF out) h4 h5:=fun b o hb hn9=>hk5 b o hb (by have:=hf4.lt' hb; omega) fun e9=>hn9 (eK.2 e9)
    have hkO:∀ b∈kF out,b ∉ lM p qs:=fun b hb h9=>by
     have:=hown b h9
     have:=yn b (ob b hb)
     omega
    show Q' .normal (F _ _ (out2,h5,n75+4+1)) h5 (n75+4+1+1)
    refine hq m _ _ _ _ (by omega) ⟨sC,acc++[t],out2,Y++[n75+4],f0 _ _ _,f3 _ _ _,by omega,fun b o hb hn9=>?_,hf5.mono (by omega),?_,by rw [aJn]; exact ho5,fun b hb=>?_,fun b hb=>?_,hI3,by rw [hclen,hcat]; omega,?_,by rw [List.length_append,hclen]; show acc.length+1+_≤_; omega,by omega⟩ (Sub.refl _)
    ·refine hkk b o (hkp4 b o hb hn9) fun h9=>?_
     have:=hf.lt' hb
     have:=yn b (ob b h9)
     omega
    ·refine hs4x.keep hkk (fun b hb=>List.mem_append_right _ (ob b hb)) hkO (fun b hb=>?_) fun b hb=>?_
     ·rcases List.mem_append.1 hb with hb | hb
      ·exact .inl (List.mem_append_left _ hb)
      ·rcases List.mem_append.1 hb with hb | hb
       ·exact .inl (List.mem_append_right _ hb)
       ·simp at hb; subst hb; exact .inr (hf4 _ (by omega))
     ·rw [← List.append_assoc]; exact List.mem_append_left _ hb
    ·have:=eK.1 hb
     rw [hsb] at this
     cases this
     exact List.mem_append_right _ (by simp)
    ·rcases List.mem_append.1 hb with hb | hb
     ·exact yn b hb
     ·simp at hb; omega
    ·rw [eqT]
     unfold aEu
     rw [if_pos hkT,List.append_assoc]
   have hnok:∀ (e':Env) (n':Nat),e' 0=ptr p→e' 3=out→n3+1≤n'→aBI T t=false→Q' .normal e' h4 n':=by
    intro e' n' f0 f3 hn' hkT
    refine hq m _ _ _ _ (by omega) ⟨sC,acc,out,Y,f0,f3,by omega,hkp4,hf4.mono hn',hs4x,hout4,ob,yn,hI3,by rw [hclen,hcat]; omega,?_,by rw [hclen]; omega,by omega⟩ (Sub.refl _)
    rw [eqT]
    unfold aEu
    rw [if_neg (by rw [hkT]; decide),List.nil_append]
   have t0:=aU (ro:=ro) (z:=0) g4 (show (nP t)[0]?=some (.int .i64 t.rule) from rfl)
   (repeat(first|refine aA (by simp (disch:=first|omega|exact nnN _|assumption) only [BB,B2,↓reduceIte,Nat.reduceLeDiff,Nat.reduceAdd,CC]<;>rfl) ?_|apply aD|apply aE|with_reducible first|apply aG|apply aF|apply aK|apply aH|apply aJ|apply aI|apply aL|apply aC))
   refine aA t0 ?_
   by_cases hr:t.rule=-1
   ·have hkT:aBI T t=true:=by unfold aBI; rw [decide_eq_true hr]; rfl
    refine aKJ hr ?_
    (repeat(first|refine aA (by simp (disch:=first|omega|exact nnN _|assumption) only [BB,B2,↓reduceIte,Nat.reduceLeDiff,Nat.reduceAdd,CC]<;>rfl) ?_|apply aD|apply aE|with_reducible first|apply aG|apply aF|apply aK|apply aH|apply aJ|apply aI|apply aL|apply aC))
    refine happ _ _ ?_ ?_ ?_ hkT
    ·omega
    ·intro x y z; exact e0
    ·intro x y z; rfl
   ·have hrr:=hrt.resolve_left hr
    obtain ⟨kv4,tv4,ev4,mv4,bv4,hv4⟩:=id hs4x
    have hv4:ScV ro h4 (X++Y) p qs T most er_ kv4 tv4 ev4 mv4 bv4 sC:=hv4
    have l1:=aU (ro:=ro) (z:=0) hv4.1 (show (scL kv4 tv4 ev4 mv4 most bv4 sC er_)[1]?=some kv4 from rfl)
    have hkv:=hv4.2.1.sub (eX h4 (X++Y))
    have hix:=Sl.ixI hkv .i64 hrr.1 (by rw [zI]; exact hrr.2)
    have hkl9:t.rule.toNat < T.kinds.length:=by omega
    have hld:=hkv.load1 (aFo hkl9)
    have hgd:T.kinds.getD t.rule.toNat .empty=T.kinds[t.rule.toNat]:=by rw [List.getD_eq_getElem?_getD,List.getElem?_eq_getElem hkl9]; rfl
    have hkT:aBI T t=!decide (T.kinds[t.rule.toNat]=.empty):=by
     unfold aBI
     rw [decide_eq_false hr,hgd]
     generalize T.kinds[t.rule.toNat]=b9
     have:(b9.size≠0) ↔ ¬ (b9=.empty):=by
      constructor
      ·intro h9 e9; rw [e9] at h9; exact h9 rfl
      ·intro h9 e9
       apply h9
       obtain ⟨⟨l9⟩⟩:=b9
       have:l9=[]:=List.length_eq_zero_iff.1 e9
       rw [this]; rfl
     by_cases h9:b9=.empty<;>simp [this,h9]
    generalize T.kinds[t.rule.toNat]=ks at hld hkT
    refine aKI hr ?_
    (repeat(first|refine aA (by simp (disch:=first|omega|exact nnN _|assumption) only [BB,B2,↓reduceIte,Nat.reduceLeDiff,Nat.reduceAdd,CC,a8,l1,t0]<;>rfl) ?_|apply aD|apply aE|with_reducible first|apply aG|apply aF|apply aK|apply aH|apply aJ|apply aI|apply aL|apply aC))
    refine aA hix ?_
    (repeat(first|refine aA (by simp (disch:=first|omega|exact nnN _|assumption) only [BB,B2,↓reduceIte,Nat.reduceLeDiff,Nat.reduceAdd,CC]<;>rfl) ?_|apply aD|apply aE|with_reducible first|apply aG|apply aF|apply aK|apply aH|apply aJ|apply aI|apply aL|apply aC))
    refine aA hld ?_
    (repeat(first|refine aA (by simp (disch:=first|omega|exact nnN _|assumption) only [BB,B2,↓reduceIte,Nat.reduceLeDiff,Nat.reduceAdd,CC]<;>rfl) ?_|apply aD|apply aE|with_reducible first|apply aG|apply aF|apply aK|apply aH|apply aJ|apply aI|apply aL|apply aC))
    refine aA (yZ ks .empty) ?_
    rw [← hkT]
    cases hkk:aBI T t with
    | true =>
     (repeat(first|refine aA (by simp (disch:=first|omega|exact nnN _|assumption) only [BB,B2,↓reduceIte,Nat.reduceLeDiff,Nat.reduceAdd,CC]<;>rfl) ?_|apply aD|apply aE|with_reducible first|apply aG|apply aF|apply aK|apply aH|apply aJ|apply aI|apply aL|apply aC))
     refine happ _ _ ?_ ?_ ?_ hkk
     ·omega
     ·intro x y z; exact e0
     ·intro x y z; rfl
    | false =>
     (repeat(first|refine aA (by simp (disch:=first|omega|exact nnN _|assumption) only [BB,B2,↓reduceIte,Nat.reduceLeDiff,Nat.reduceAdd,CC]<;>rfl) ?_|apply aD|apply aE|with_reducible first|apply aG|apply aF|apply aK|apply aH|apply aJ|apply aI|apply aL|apply aC))
     refine hnok _ _ ?_ ?_ ?_ hkk
     ·exact e0
     ·exact e3
     ·omega
end
end V
end Go.Proofs.YtcaccnneblghgaaGreat
namespace Go.Proofs.YtcaccnneblghgaaGreat
namespace V
attribute [local irreducible] aB ifP aS cS eT exP cM
def u8L (l:List Nat):List Value:=l.map fun b:Nat=>Value.int .u8 (b:Int)
theorem wJ (l:List Nat):(u8L l).length=l.length:=by simp [u8L]
theorem aO1 (l m:List Nat):u8L (l++m)=u8L l++u8L m:=by simp [u8L]
theorem aGL:∀ l:List Nat,(bY l).flatten=u8L l
 | []=>rfl
 | x::r=>by
  have:=aGL r
  simp only [bY,List.map_cons,List.flatten_cons] at this ⊢
  rw [this]; rfl
theorem aPm (l:List Nat):(u8L l).all cP=true:=by simp [u8L,cP]
theorem aOf (n:Nat):aFL Tryz.prog b8 n=some (List.replicate n (Value.int .u8 0)):=by
 cases n with
 | zero=>rfl
 | succ n =>
  obtain ⟨i,h1,h2,h3⟩:=aE8
  have hz:∀ k,s7 [Value.int .u8 0] k=List.replicate k (Value.int .u8 0):=fun k=>by
   induction k with
   | zero=>rfl
   | succ k ih=>rw [List.replicate_succ,← ih]; rfl
  simp only [aFL,aJq,aGp,Option.bind,cQ]
  show some (s7 [Value.int .u8 0] (n+1))=_
  rw [hz]
section
variable {ro:Ro} {h:T Obj} {nx:Nat} {K:KV}
theorem aLm {x:Value} (hx:Sl ro h x 1 (bY [])):b7 Tryz.prog ro h nx #[bC,bC] [.slice none 0 0,x]=some (.slice none 0 0,h,nx):=by
 obtain ⟨i,h1,h2,h3⟩:=aE8
 have hs:xC Tryz.prog ro h b8 i.size i.bytes bC x=some (0,[]):=by
  rcases hx with ⟨rfl,_⟩ | ⟨a,c,rfl,_,_,_,h9⟩
  ·simp only [xC,mC]
  ·have h9:cellsAt ro h a 0=some []:=by simpa [bY] using h9
   simp only [xC,mC,bY,List.map_nil,List.length_nil,Nat.zero_mul,h9,Option.bind]
 simp only [b7,List.getElem?_toArray,List.getElem?_cons_zero,List.getElem?_cons_succ,mC,h1,Option.bind,hs]
theorem aOt {x:Value} {id len cap:Nat} {C:List Value} {l:List Nat} (hg:h.get id=some (.cells C.toArray b8)) (hC:C.length=cap) (hx:Sl ro h x 1 (bY l)) (hle:len+l.length≤cap) :
  ∃ h',b7 Tryz.prog ro h nx #[bC,bC] [.slice (some (own id 1)) len cap,x]=some (.slice (some (own id 1)) (len+l.length) cap,h',nx)∧h'.get id=some (.cells (over C len (u8L l)).toArray b8)∧∀ k,k≠id→h'.get k=h.get k:=by
 obtain ⟨i,h1,h2,h3⟩:=aE8
 have hs:xC Tryz.prog ro h b8 i.size i.bytes bC x=some (l.length,u8L l):=by
  rcases hx with ⟨rfl,h9⟩ | ⟨a,c,rfl,_,_,_,h9⟩
  ·have:l=[]:=by
    cases l with
    | nil=>rfl
    | cons a r=>simp [bY] at h9
   subst this
   simp only [xC,mC]; rfl
  ·rw [aGL,dT] at h9
   simp only [xC,mC,dT,h2,h9,Option.bind]
 have hb1:Nat.ble (len+l.length) cap=true:=Nat.ble_eq_true_of_le hle
 cases l with
 | nil =>
  refine ⟨h,?_,?_,fun k _=>rfl⟩
  ·rw [List.length_nil] at hb1 hs
   simp only [b7,List.getElem?_toArray,List.getElem?_cons_zero,List.getElem?_cons_succ,mC,h1,Option.bind,hs,hb1,List.length_nil]; rfl
  ·rw [hg]; simp [over,u8L]
 | cons a r =>
  refine ⟨h.upd id (some (.cells (over C len (u8L (a::r))).toArray b8)),?_,T.get_upd_same _ _ _,fun k hk=>T.get_upd_ne _ _ hk⟩
  have hst:jI h (fwd (own id 1) (len*i.size)) (u8L (a::r))=some (h.upd id (some (.cells (over C len (u8L (a::r))).toArray b8))):=by
   unfold jI
   simp only [own,fwd,hg,aPm,h2,Nat.mul_one,Nat.zero_add]
   have:Nat.ble (len+(u8L (a::r)).length) C.toArray.size=true:=Nat.ble_eq_true_of_le (by rw [wJ,List.size_toArray]; omega)
   simp only [this]
  rw [List.length_cons] at hb1 hs
  simp only [b7,List.getElem?_toArray,List.getElem?_cons_zero,List.getElem?_cons_succ,mC,h1,Option.bind,hs,hb1,hst]
  simp only [own,h2,Nat.beq_refl,List.length_cons]
theorem aJw:eD Tryz.prog h .cap #[bC] [.slice none 0 0]=some (.int .i64 0):=by
 simp only [eD,List.getElem?_toArray,List.getElem?_cons_zero,Option.bind,mC]; rfl
theorem aOS:lR Tryz.prog bC (.slice none 0 0) none (some (.int .i64 0)) none=some (.slice none 0 0):=by kernel_rfl
theorem aO2:und Tryz.prog dK=some (.int .i64):=by kernel_rfl
theorem aLl {n:Nat} (h0:0 < n) (hn:n≤1000000):b7 Tryz.prog ro h nx #[bC,dK] [.slice none 0 0,.int .i64 (n:Int)]=some (.slice (some (own nx 1)) n n,h.upd nx (some (.cells (List.replicate n (Value.int .u8 0)).toArray b8)),nx+1):=by
 obtain ⟨i,h1,h2,h3⟩:=aE8
 have hb1:Nat.ble (n*1) big=true:=Nat.ble_eq_true_of_le (by unfold big; omega)
 have hb2:Nat.ble (0+n) big=true:=Nat.ble_eq_true_of_le (by unfold big; omega)
 have hb3:Nat.ble ((0+n)*1) big=true:=Nat.ble_eq_true_of_le (by unfold big; omega)
 have hb4:Nat.ble (0+n) 0=false:=by
  cases hq:Nat.ble (0+n) 0 with
  | false=>rfl
  | true=>have:=Nat.le_of_ble_eq_true hq; omega
 have hs:xC Tryz.prog ro h b8 1 1 dK (.int .i64 (n:Int))=some (n,List.replicate n (Value.int .u8 0)):=by
  simp only [xC,aO2,decide_eq_true (show (0:Int)≤n by omega),decide_eq_true (show (n:Int)≤70368744177664 by omega),Int.toNat_natCast,hb1,aOf,Option.bind]
 have hok:(List.replicate n (Value.int .u8 0)).all cP=true:=by simp [cP]
 simp only [b7,List.getElem?_toArray,List.getElem?_cons_zero,List.getElem?_cons_succ,mC,h1,Option.bind,h2,h3,hs,hb4,aJq,hb3,hb2,cQ,hok,aG4]
 simp
 rfl
set_option maxRecDepth 8000 in
theorem aNj {n:Nat} {e:Env} (f0:e 0=.slice none 0 0) (f1:e 1=.int .i64 (n:Int)) (hn:n≤1000000) (hf:Fr h nx) (hK0:n=0→∀ nx',nx≤nx'→K (.slice none 0 0) h nx') (hK1:0 < n→∀ id h' nx',nx≤id→id < nx'→Fr h' nx'→Sub h h'→h'.get id=some (.cells (List.replicate n (Value.int .u8 0)).toArray b8)→K (.slice (some (own id 1)) 0 n) h' nx'):jK ro K e h nx:=by
 unfold jK
 rw [f0,f1]
 have hj2:∀ (e':Env) (h':T Obj) (n':Nat) (v:Value),e' 0=v→K v h' (n'+2)→gQ ro K e' h' n':=by
  intro e' h' n' v d0 dk
  unfold gQ
  rw [d0]
  exact ⟨h',Sub.refl _,dk⟩
 refine aA aJw ?_
 (repeat(first|refine aA (by simp (disch:=first|omega|exact nnN _|assumption) only [BB,B2,↓reduceIte,Nat.reduceLeDiff,Nat.reduceAdd,CC]<;>rfl) ?_|apply aD|apply aE|with_reducible first|apply aG|apply aF|apply aK|apply aH|apply aJ|apply aI|apply aL|apply aC))
 by_cases h0:n=0
 ·subst h0
  refine aKP (by omega) ?_
  (repeat(first|refine aA (by simp (disch:=first|omega|exact nnN _|assumption) only [BB,B2,↓reduceIte,Nat.reduceLeDiff,Nat.reduceAdd,CC]<;>rfl) ?_|apply aD|apply aE|with_reducible first|apply aG|apply aF|apply aK|apply aH|apply aJ|apply aI|apply aL|apply aC))
  refine hj2 _ _ _ (.slice none 0 0) f0 (hK0 rfl _ ?_)
  omega
 ·refine aKQ (by omega) ?_
  (repeat(first|refine aA (by simp (disch:=first|omega|exact nnN _|assumption) only [BB,B2,↓reduceIte,Nat.reduceLeDiff,Nat.reduceAdd,CC]<;>rfl) ?_|apply aD|apply aE|with_reducible first|apply aG|apply aF|apply aK|apply aH|apply aJ|apply aI|apply aL|apply aC))
  refine aA aJw (aA aOS ?_)
  refine aA (aLl (by omega) hn) ?_
  dsimp only
  (repeat(first|refine aA (by simp (disch:=first|omega|exact nnN _|assumption) only [BB,B2,↓reduceIte,Nat.reduceLeDiff,Nat.reduceAdd,CC]<;>rfl) ?_|apply aD|apply aE|with_reducible first|apply aG|apply aF|apply aK|apply aH|apply aJ|apply aI|apply aL|apply aC))
  refine hj2 _ _ _ (.slice (some (own (nx+16) 1)) 0 n) (by kernel_rfl) (hK1 (by omega) _ _ _ ?_ ?_ ?_ (((Sub.refl h).new hf (by omega))) (T.get_upd_same _ _ _))
  ·omega
  ·omega
  ·exact (hf.mono (by omega)).upd (Nat.le_refl _) (by omega)
theorem aPD {n:Nat} (hn:n≤1000000) (hf:Fr h nx) (hK0:n=0→∀ nx',nx≤nx'→K (.slice none 0 0) h nx') (hK1:0 < n→∀ id h' nx',nx≤id→id < nx'→Fr h' nx'→Sub h h'→h'.get id=some (.cells (List.replicate n (Value.int .u8 0)).toArray b8)→K (.slice (some (own id 1)) 0 n) h' nx'):aN Tryz.prog ro jW [.slice none 0 0,.int .i64 (n:Int)] h nx K:=by
 apply uJ
 unfold oX
 (repeat(first|refine aA (by simp (disch:=first|omega|exact nnN _|assumption) only [BB,B2,↓reduceIte,Nat.reduceLeDiff,Nat.reduceAdd,CC]<;>rfl) ?_|apply aD|apply aE|with_reducible first|apply aG|apply aF|apply aK|apply aH|apply aJ|apply aI|apply aL|apply aC))
 exact aNj rfl rfl hn (hf.mono (by omega)) (fun h0 n' hn'=>hK0 h0 n' (by omega)) fun h0 id h' n' h1 h2 h3 h4 h5=>hK1 h0 id h' n' (by omega) h2 h3 h4 h5
def RB (ro:Ro) (h:V.T Obj) (x:List Value) (l:List Nat):Prop:=∃ w,x=[w]∧Sl ro h w 1 (bY l)
theorem RB.sub {h':V.T Obj} (hs:Sub h h'):∀ x l,RB ro h x l→RB ro h' x l:=fun x l ⟨w,h1,h2⟩=>⟨w,h1,h2.sub hs⟩
theorem zC {α:Type} {ls:List (List α)} {i:Nat} (hi:i < ls.length):(ls.take (i+1)).flatten=(ls.take i).flatten++ls[i]:=by
 rw [List.take_succ_eq_append_getElem hi,List.flatten_append]; simp
theorem qQ {α:Type} {ls:List (List α)} (i:Nat):(ls.take i).flatten.length≤ls.flatten.length:=by
 have h9:ls.flatten=(ls.take i).flatten++(ls.drop i).flatten:=by rw [← List.flatten_append,List.take_append_drop]
 rw [h9,List.length_append]; omega
theorem aJY (l m:List Nat) {k:Nat} (hk:m.length≤k):over (u8L l++List.replicate k (Value.int .u8 0)) l.length (u8L m)=u8L (l++m)++List.replicate (k - m.length) (Value.int .u8 0):=by
 unfold over
 rw [List.take_append_of_le_length (by rw [wJ]; exact Nat.le_refl _),List.take_of_length_le (by rw [wJ]; exact Nat.le_refl _),wJ,List.drop_append,wJ,List.drop_of_length_le (by rw [wJ]; omega),List.nil_append,Nat.add_sub_cancel_left,List.drop_replicate,aO1]
def aLd (h:V.T Obj) (nx N:Nat) (pre:List Nat) (w:Value) (h':V.T Obj):Prop:=Sub h h'∧((N=0∧w=.slice none 0 0)∨∃ id,nx≤id∧w=.slice (some (own id 1)) pre.length N∧h'.get id=some (.cells (u8L pre++List.replicate (N - pre.length) (Value.int .u8 0)).toArray b8))
set_option maxRecDepth 8000 in
theorem aLd.step {N n1:Nat} {pre l:List Nat} {w x:Value} {h':V.T Obj} (hc:aLd h nx N pre w h') (hf:Fr h nx) (hx:Sl ro h' x 1 (bY l)) (hle:pre.length+l.length≤N) {m:Nat} (hf':Fr h' m):∃ w2 h2,b7 Tryz.prog ro h' n1 #[bC,bC] [w,x]=some (w2,h2,n1)∧aLd h nx N (pre++l) w2 h2∧Fr h2 m:=by
 obtain ⟨hs,⟨h0,rfl⟩ | ⟨id,h1,rfl,h2⟩⟩:=hc
 ·have hl:l=[]:=List.length_eq_zero_iff.1 (by omega)
  subst hl
  exact ⟨_,_,aLm hx,⟨hs,.inl ⟨h0,rfl⟩⟩,hf'⟩
 ·obtain ⟨h3,g1,g2,g3⟩:=aOt (nx:=n1) h2 (cap:=N) (by rw [List.length_append,wJ,List.length_replicate]; omega) hx hle
  refine ⟨_,_,g1,⟨fun k o hk=>?_,.inr ⟨id,h1,by rw [List.length_append],?_⟩⟩,fun k hk=>?_⟩
  ·have:=hf.lt' hk
   rw [g3 k (by omega)]
   exact hs k o hk
  ·rw [g2,aJY pre l (by omega),List.length_append,show N - pre.length - l.length=N - (pre.length+l.length) by omega]
  ·have:=hf'.lt' h2
   rw [g3 k (by omega)]
   exact hf' k hk
set_option maxRecDepth 8000 in
set_option maxHeartbeats 1000000 in
theorem aLx {v:Value} {ls:List (List Nat)} (hv:SlR ro h v 1 (RB ro h) ls) (hlen:ls.length≤1000) (hsum:ls.flatten.length≤100000) (hf:Fr h nx) (hK:∀ r h' nx',nx≤nx'→Fr h' nx'→Sub h h'→dF h' r 1 b8 (bY ls.flatten) nx→K r h' nx'):aN Tryz.prog ro i3 [v] h nx K:=by
 have hvl:=hv.len
 apply s3
 unfold nI
 refine aA hvl ?_
 refine bA (fun j e h' nx'=>∃ i:Nat,i+j=ls.length∧nx+5≤nx'∧h'=h∧e 0=v∧e 3=.int .i64 ((ls.take i).flatten.length:Nat)∧e 9=v∧e 10=.int .i64 ls.length∧e 11=.int .i64 i) ?_ (n:=ls.length) ⟨0,by omega,by omega,rfl,rfl,rfl,rfl,rfl,rfl⟩
 rintro j e h' nx' ⟨i,hj,hnx,rfl,e0,e3,e9,e10,e11⟩ Q' hq hx
 unfold lT
 rw [e3,e9,e10,e11]
 refine cU (fun hk=>?_) (fun hk=>?_)
 ·have hk:i < ls.length:=by omega
  obtain ⟨w,⟨w',hw,hwl⟩,hld⟩:=hv.at1 hk
  cases hw
  have hle:=qQ (ls:=ls) (i+1)
  have hfs:=zC hk
  have hwn:=hwl.len
  rw [dT] at hwn
  rw [hfs,List.length_append] at hle
  (repeat(first|refine aA (by simp (disch:=first|omega|exact nnN _|assumption) only [BB,B2,↓reduceIte,Nat.reduceLeDiff,Nat.reduceAdd,CC]<;>rfl) ?_|apply aD|apply aE|with_reducible first|apply aG|apply aF|apply aK|apply aH|apply aJ|apply aI|apply aL|apply aC))
  refine aA (hv.ix .i64 hk) (aA hld (aA hwn ?_))
  have hadd:aO .add (.int .i64 (((ls.take i).flatten.length:Nat):Int)) (.int .i64 ((ls[i].length:Nat):Int))=some (.int .i64 (((ls.take (i+1)).flatten.length:Nat):Int)):=by
   rw [c7,hfs,List.length_append,show (((ls.take i).flatten.length:Nat):Int)+((ls[i].length:Nat):Int)=(((ls.take i).flatten.length+ls[i].length:Nat):Int) by omega,eN (by omega) (by omega)]
  refine aA hadd ?_
  (repeat(first|refine aA (by simp (disch:=first|omega|exact nnN _|assumption) only [BB,B2,↓reduceIte,Nat.reduceLeDiff,Nat.reduceAdd,CC]<;>rfl) ?_|apply aD|apply aE|with_reducible first|apply aG|apply aF|apply aK|apply aH|apply aJ|apply aI|apply aL|apply aC))
  have hj3:∀ (e':Env) n',e' 0=v→e' 3=.int .i64 ((ls.take (i+1)).flatten.length:Nat)→e' 9=v→e' 10=.int .i64 ls.length→e' 11=.int .i64 i→nx'≤n'→iM ro Q' e' h' n':=by
   intro e' n' d0 d3 d9 d10 d11 dn
   unfold iM
   rw [d11]
   (repeat(first|refine aA (by simp (disch:=first|omega|exact nnN _|assumption) only [BB,B2,↓reduceIte,Nat.reduceLeDiff,Nat.reduceAdd,CC]<;>rfl) ?_|apply aD|apply aE|with_reducible first|apply aG|apply aF|apply aK|apply aH|apply aJ|apply aI|apply aL|apply aC))
   exact hq (j - 1) _ _ _ _ (by omega) ⟨i+1,by omega,by omega,rfl,d0,d3,d9,d10,rfl⟩ (Sub.refl _)
  refine hj3 _ _ e0 rfl e9 e10 e11 ?_
  omega
 ·(repeat(first|refine aA (by simp (disch:=first|omega|exact nnN _|assumption) only [BB,B2,↓reduceIte,Nat.reduceLeDiff,Nat.reduceAdd,CC]<;>rfl) ?_|apply aD|apply aE|with_reducible first|apply aG|apply aF|apply aK|apply aH|apply aJ|apply aI|apply aL|apply aC))
  refine hx _ _ _ _ (fun e=>by cases e) (d4 (cO ?_))
  obtain rfl:i=ls.length:=by omega
  rw [List.take_length] at e3
  have hj1:∀ (e':Env) n',e' 0=v→e' 3=.int .i64 (ls.flatten.length:Nat)→nx'≤n'→fZ ro K e' h' n':=by
   intro e' n' d0 d3 dn
   unfold fZ
   rw [d0,d3]
   have hfin:∀ (w0:Value) (h1:V.T Obj) (n1:Nat) (e1:Env),e1 0=v→e1 6=w0→e1 25=v→e1 26=.int .i64 ls.length→e1 27=.int .i64 0→nx≤n1→Fr h1 n1→aLd h' nx ls.flatten.length [] w0 h1 →
     dN (iL ro) e1 h1 n1 fun x14 e11 h12 n13=>exP x14 (eA ro K e11 h12 n13) (fun i15=>cM (Nat.beq i15 2) (eA ro K e11 h12 n13) (False)) (∃ h16,Sub h16 h12∧K (e11 2) h16 n13):=by
    intro w0 h1 n1 e1 b0 b6 b25 b26 b27 bn bf bc
    refine bA (fun j e h2 n2=>∃ (i:Nat) (w:Value),i+j=ls.length∧nx≤n2∧Fr h2 n2∧e 6=w∧e 25=v∧e 26=.int .i64 ls.length∧e 27=.int .i64 i∧aLd h' nx ls.flatten.length (ls.take i).flatten w h2) ?_ (n:=ls.length) ⟨0,w0,by omega,bn,bf,b6,b25,b26,b27,bc⟩
    rintro j e h2 n2 ⟨i,w,hj,hn2,hf2,c6,c25,c26,c27,hcat⟩ Q' hq hx
    unfold iL
    rw [c6,c25,c26,c27]
    refine cU (fun hk=>?_) (fun hk=>?_)
    ·have hk:i < ls.length:=by omega
     have hv2:=hv.sub hcat.1 (RB.sub hcat.1)
     obtain ⟨w9,⟨w',hw,hwl⟩,hld⟩:=hv2.at1 hk
     cases hw
     have hle:=qQ (ls:=ls) (i+1)
     have hfs:=zC hk
     rw [hfs,List.length_append] at hle
     obtain ⟨w2,h3,p1,p2,p3⟩:=hcat.step (n1:=n2+7) hf hwl hle hf2
     rw [← hfs] at p2
     (repeat(first|refine aA (by simp (disch:=first|omega|exact nnN _|assumption) only [BB,B2,↓reduceIte,Nat.reduceLeDiff,Nat.reduceAdd,CC]<;>rfl) ?_|apply aD|apply aE|with_reducible first|apply aG|apply aF|apply aK|apply aH|apply aJ|apply aI|apply aL|apply aC))
     refine aA (hv2.ix .i64 hk) (aA hld (aA p1 ?_))
     (repeat(first|refine aA (by simp (disch:=first|omega|exact nnN _|assumption) only [BB,B2,↓reduceIte,Nat.reduceLeDiff,Nat.reduceAdd,CC]<;>rfl) ?_|apply aD|apply aE|with_reducible first|apply aG|apply aF|apply aK|apply aH|apply aJ|apply aI|apply aL|apply aC))
     dsimp only
     exact hq (j - 1) _ _ _ _ (by omega) ⟨i+1,w2,by omega,by omega,p3.mono (by omega),rfl,c25,c26,rfl,p2⟩ (Sub.refl _)
    ·(repeat(first|refine aA (by simp (disch:=first|omega|exact nnN _|assumption) only [BB,B2,↓reduceIte,Nat.reduceLeDiff,Nat.reduceAdd,CC]<;>rfl) ?_|apply aD|apply aE|with_reducible first|apply aG|apply aF|apply aK|apply aH|apply aJ|apply aI|apply aL|apply aC))
     refine hx _ _ _ _ (fun e=>by cases e) (d4 (cO ?_))
     obtain rfl:i=ls.length:=by omega
     rw [List.take_length] at hcat
     have hj2:∀ (e':Env) n',e' 6=w→n2≤n'→eA ro K e' h2 n':=by
      intro e' n' d6 dn
      unfold eA
      rw [d6]
      refine ⟨h2,Sub.refl _,hK w h2 _ (by omega) (hf2.mono (by omega)) hcat.1 ?_⟩
      obtain ⟨_,⟨q1,q2⟩ | ⟨id,q1,q2,q3⟩⟩:=hcat
      ·refine .inl ⟨q2,?_⟩
       rw [List.length_eq_zero_iff.1 q1]; rfl
      ·refine .inr ⟨id,q1,?_,(fun x hx=>by unfold bY at hx; obtain ⟨b,_,rfl⟩:=List.mem_map.1 hx; rfl),?_⟩
       ·rw [q2,dT]
       ·rw [q3,aGL,Nat.sub_self]; simp
     refine hj2 _ _ c6 ?_
     omega
   refine aPD (n:=ls.flatten.length) (by omega) (hf.mono (by omega)) (fun h0 n1 hn1=>?_) fun h0 id h1 n1 hn1 hn2 hf1 hs1 hg1=>?_
   ·(repeat(first|refine aA (by simp (disch:=first|omega|exact nnN _|assumption) only [BB,B2,↓reduceIte,Nat.reduceLeDiff,Nat.reduceAdd,CC]<;>rfl) ?_|apply aD|apply aE|with_reducible first|apply aG|apply aF|apply aK|apply aH|apply aJ|apply aI|apply aL|apply aC))
    refine aA hvl ?_
    refine hfin _ _ _ _ d0 rfl rfl rfl rfl ?_ ?_ ⟨Sub.refl _,.inl ⟨h0,rfl⟩⟩
    ·omega
    ·exact hf.mono (by omega)
   ·(repeat(first|refine aA (by simp (disch:=first|omega|exact nnN _|assumption) only [BB,B2,↓reduceIte,Nat.reduceLeDiff,Nat.reduceAdd,CC]<;>rfl) ?_|apply aD|apply aE|with_reducible first|apply aG|apply aF|apply aK|apply aH|apply aJ|apply aI|apply aL|apply aC))
    refine aA hvl ?_
    refine hfin _ _ _ _ d0 rfl rfl rfl rfl ?_ ?_ ⟨hs1,.inr ⟨id,?_,rfl,?_⟩⟩
    ·omega
    ·exact hf1.mono (by omega)
    ·omega
    ·rw [hg1]; rfl
  refine hj1 _ _ e0 e3 ?_
  omega
end
end V
end Go.Proofs.YtcaccnneblghgaaGreat
namespace Go.Proofs.YtcaccnneblghgaaGreat
namespace V
attribute [local irreducible] aB ifP aS cS eT exP cM
theorem aPT (id:Nat) (o1 o2:Option Addr) (l1 c1 l2 c2:Nat):bQ Tryz.prog gD id 2 [(0,.slice o1 l1 c1),(1,.slice o2 l2 c2)]=some (.slice (some (own id 1)) 2 2,some (.cells [Value.slice o1 l1 c1,.slice o2 l2 c2].toArray bC)):=by kernel_rfl
theorem Sl.form {ro:Ro} {h:T Obj} {v:Value} {z:Nat} {l:List (List Value)} (hl:Sl ro h v z l):∃ o n c,v=.slice o n c:=by
 rcases hl with ⟨h1,_⟩ | ⟨a,c,h1,_⟩
 ·exact ⟨_,_,_,h1⟩
 ·exact ⟨_,_,_,h1⟩
def aD8 (most:Int) (s':ScD):Int:=if most < (s'.kept.length:Int) then 180 else 0
section
variable {ro:Ro} {h h':T Obj} {nx:Nat} {K:KV} {X X':List Nat} {p:Nat} {qs:List MqD} {T:TabD} {most er_ er':Int} {s s':ScD}
theorem aAr (h:ScI T s):ScI T { s with closed:=true }:=⟨⟨h.ok.lt,h.ok.len,h.ok.took,h.ok.held,h.ok.none,h.ok.some⟩,h.c,h.ms,h.ru,h.kb,h.st⟩
set_option maxRecDepth 8000 in
set_option maxHeartbeats 1000000 in
theorem aGn (hm:ScX ro h X p qs T most 0 s) (hT:TabR T) (hI:ScI T s) (hTl:T.entries.length≤1000) (hcl:s.closed=false) (hsz:s.at_+s.kept.length≤400) (hf:Fr h nx)
  (hK:∀ r h' nx',nx≤nx'→Fr h' nx'→dL (lM p qs) h h'→ScX ro h' X p qs T most 0 (kG T s).2→dF h' r 3 bE (iX (kG T s).1) nx→K (.tuple #[r,.int .i64 0]) h' nx'):aN Tryz.prog ro lJ [ptr p] h nx K:=by
 have hr:aIY 0 s.closed=0:=by unfold aIY; rw [if_neg (by rw [hcl]; simp)]
 apply w7
 unfold sX
 refine yU hm fun n1 hn1=>?_
 refine aBO hr ?_
 obtain ⟨kv,tv,ev,mv,bv,hv⟩:=id hm
 have hv:ScV ro h X p qs T most 0 kv tv ev mv bv s:=hv
 have g1:=hv.1
 (repeat(first|refine aA (by simp (disch:=first|omega|exact nnN _|assumption) only [BB,B2,↓reduceIte,Nat.reduceLeDiff,Nat.reduceAdd,CC,a8]<;>rfl) ?_|apply aD|apply aE|with_reducible first|apply aG|apply aF|apply aK|apply aH|apply aJ|apply aI|apply aL|apply aC))
 refine aA (dD g1 (by simp [scL]) rfl rfl) ?_
 have hov:(scL kv tv ev mv most bv s 0).set 14 (.bool true)=scL kv tv ev mv most bv { s with closed:=true } 0:=rfl
 rw [hov]
 have hv1:=hv.upd (s':={ s with closed:=true }) (er':=0) rfl rfl
 have hk1:dL (lM p qs) h (h.upd p (some (.cells (scL kv tv ev mv most bv { s with closed:=true } 0).toArray aQ))):=(Sub.refl _).keepL.upd (List.mem_cons_self ..)
 refine aAP hv1.x hT (aAr hI) hTl hsz ((hf.mono (by omega)).upd (Nat.le_refl _) (by have:=hf.lt' g1; omega)) fun r h2 n2 hn2 hf2 hk2 hs2 ho2=>?_
 (repeat(first|refine aA (by simp (disch:=first|omega|exact nnN _|assumption) only [BB,B2,↓reduceIte,Nat.reduceLeDiff,Nat.reduceAdd,CC]<;>rfl) ?_|apply aD|apply aE|with_reducible first|apply aG|apply aF|apply aK|apply aH|apply aJ|apply aI|apply aL|apply aC))
 refine ⟨h2,Sub.refl _,?_⟩
 exact hK r h2 _ (by omega) (hf2.mono (by omega)) (hk1.trans hk2) hs2 (ho2.mono (by omega))
set_option maxRecDepth 8000 in
set_option maxHeartbeats 1000000 in
theorem aI7 {bb:Value} {b:List Nat} (hm:ScX ro h X p qs T most 0 s) (hT:TabR T) (hI:ScI T s) (hTl:T.entries.length≤1000) (hcl:s.closed=false) (hX:∀ k∈X,k < nx) (hb:Sl ro h bb 1 (bY b)) (hb2:∀ x∈b,x < 256) (hsz:s.at_+s.kept.length+b.length≤400) (hf:Fr h nx)
  (hK:∀ r h' nx',nx≤nx'→Fr h' nx'→dL (lM p qs) h h'→ScX ro h' X p qs T most (aD8 most (dY T s b).2) (dY T s b).2→dF h' r 3 bE (iX (dY T s b).1) nx→K (.tuple #[r,.int .i64 (aD8 most (dY T s b).2)]) h' nx'):aN Tryz.prog ro mI [ptr p,bb] h nx K:=by
 have hr:aIY 0 s.closed=0:=by unfold aIY; rw [if_neg (by rw [hcl]; simp)]
 apply yR
 unfold tR
 refine yU hm fun n1 hn1=>?_
 refine aBO hr ?_
 obtain ⟨kv,tv,ev,mv,bv,hv⟩:=id hm
 have hv:ScV ro h X p qs T most 0 kv tv ev mv bv s:=hv
 have g1:=hv.1
 have hpl:=hf.lt' g1
 have hbv:Sl ro h bv 1 (bY s.kept):=hv.2.2.2.2.2.1.sub (eX h X)
 have l6:=aU (ro:=ro) (z:=0) g1 (show (scL kv tv ev mv most bv s 0)[6]?=some bv from rfl)
 (repeat(first|refine aA (by simp (disch:=first|omega|exact nnN _|assumption) only [BB,B2,↓reduceIte,Nat.reduceLeDiff,Nat.reduceAdd,CC,a8,l6]<;>rfl) ?_|apply aD|apply aE|with_reducible first|apply aG|apply aF|apply aK|apply aH|apply aJ|apply aI|apply aL|apply aC))
 obtain ⟨o1,m1,c1,e1⟩:=hbv.form
 obtain ⟨o2,m2,c2,e2⟩:=hb.form
 refine aA (by rw [e1,e2]; exact aPT _ _ _ _ _ _ _) (aE ?_)
 rw [← e1,← e2]
 generalize hh1:h.upd (n1+9) (some (.cells [bv,bb].toArray bC))=h1
 have hs1:Sub h h1:=by rw [← hh1]; exact (Sub.refl h).new hf (by omega)
 have hf1:Fr h1 (n1+11):=by rw [← hh1]; exact (hf.mono (by omega)).upd (Nat.le_refl _) (by omega)
 have hlist:SlR ro h1 (.slice (some (own (n1+9) 1)) 2 2) 1 (RB ro h1) [s.kept,b]:=by
  refine ⟨[[bv],[bb]],Sl.own (l:=[[bv],[bb]]) (e:=bC) (f:=(0,0)) (by rw [← hh1,V.T.get_upd_same]; rfl) (by simp) (Nat.le_refl _),rfl,fun i x d hx hd=>?_⟩
  match i,hx,hd with
  | 0,hx,hd=>cases hx; cases hd; exact ⟨bv,rfl,hbv.sub hs1⟩
  | 1,hx,hd=>cases hx; cases hd; exact ⟨bb,rfl,hb.sub hs1⟩
  | i+2,hx,hd=>cases hx
 refine aLx hlist (by show 2≤1000; decide) (by simp; omega) hf1 fun r2 h2 n2 hn2 hf2 hs2 ho2=>?_
 have hfl:[s.kept,b].flatten=s.kept++b:=by simp
 rw [hfl] at ho2
 have hv2:=(hv.sub hs1).sub hs2
 (repeat(first|refine aA (by simp (disch:=first|omega|exact nnN _|assumption) only [BB,B2,↓reduceIte,Nat.reduceLeDiff,Nat.reduceAdd,CC,a8]<;>rfl) ?_|apply aD|apply aE|with_reducible first|apply aG|apply aF|apply aK|apply aH|apply aJ|apply aI|apply aL|apply aC))
 obtain ⟨o3,m3,c3,e3⟩:=ho2.form
 refine aA (dD hv2.1 (by simp [scL]) ho2.ok (by rw [e3]; rfl)) ?_
 have hov:(scL kv tv ev mv most bv s 0).set 6 r2=scL kv tv ev mv most r2 (uO s b) 0:=rfl
 rw [hov]
 have hv3:=hv2.updB (s':=uO s b) (bv':=r2) (er':=0) rfl (ho2.del fun id hid hm9=>by
  have:=hX id hm9
  have:=(ho2.blk hid).1
  omega).sl
 generalize hh3:h2.upd p (some (.cells (scL kv tv ev mv most r2 (uO s b) 0).toArray aQ))=h3 at hv3
 have hk3:dL (lM p qs) h h3:=by rw [← hh3]; exact (hs1.trans hs2).keepL.upd (List.mem_cons_self ..)
 have hf3:Fr h3 n2:=by rw [← hh3]; exact hf2.upd (Nat.le_refl _) (by omega)
 have hlen9:(uO s b).kept.length=s.kept.length+b.length:=List.length_append
 refine aAP hv3.x hT (aHB hI hb2) hTl (by rw [hlen9]; show s.at_+_≤400; omega) (hf3.mono (by omega)) fun r4 h4 n4 hn4 hf4 hk4 hs4 ho4=>?_
 rw [hlen9] at hs4 ho4
 have hs4:ScX ro h4 X p qs T most 0 (dY T s b).2:=hs4
 have ho4:dF h4 r4 3 bE (iX (dY T s b).1) (n2+5):=ho4
 have hI4:=aJJ hT hI hb2
 obtain ⟨kv4,tv4,ev4,mv4,bv4,hv4⟩:=id hs4
 have hv4:ScV ro h4 X p qs T most 0 kv4 tv4 ev4 mv4 bv4 (dY T s b).2:=hv4
 have hbl:=(hv4.2.2.2.2.2.1.sub (eX h4 X)).len
 rw [dT] at hbl
 have l64:=aU (ro:=ro) (z:=0) hv4.1 (show (scL kv4 tv4 ev4 mv4 most bv4 (dY T s b).2 0)[6]?=some bv4 from rfl)
 have l54:=aU (ro:=ro) (z:=0) hv4.1 (show (scL kv4 tv4 ev4 mv4 most bv4 (dY T s b).2 0)[5]?=some (.int .i64 most) from rfl)
 have hj1:∀ (e':Env) (h5:V.T Obj) (n':Nat) (er':Int),e' 0=ptr p→e' 7=r4→er'=aD8 most (dY T s b).2→n4≤n'→Fr h5 n'→dL (lM p qs) h h5→ScV ro h5 X p qs T most er' kv4 tv4 ev4 mv4 bv4 (dY T s b).2→dF h5 r4 3 bE (iX (dY T s b).1) (n2+5)→jE ro K e' h5 n':=by
  intro e' h5 n' er' d0 d7 de dn df dk dv do_
  unfold jE
  rw [d0,d7]
  have l13:=aU (ro:=ro) (z:=0) dv.1 (show (scL kv4 tv4 ev4 mv4 most bv4 (dY T s b).2 er')[13]?=some (.int .i64 er') from rfl)
  (repeat(first|refine aA (by simp (disch:=first|omega|exact nnN _|assumption) only [BB,B2,↓reduceIte,Nat.reduceLeDiff,Nat.reduceAdd,CC,a8,l13]<;>rfl) ?_|apply aD|apply aE|with_reducible first|apply aG|apply aF|apply aK|apply aH|apply aJ|apply aI|apply aL|apply aC))
  rw [← de] at hK
  exact ⟨h5,Sub.refl _,hK r4 h5 _ (by omega) (df.mono (by omega)) dk dv.x (do_.mono (by omega))⟩
 (repeat(first|refine aA (by simp (disch:=first|omega|exact nnN _|assumption) only [BB,B2,↓reduceIte,Nat.reduceLeDiff,Nat.reduceAdd,CC,a8,l64]<;>rfl) ?_|apply aD|apply aE|with_reducible first|apply aG|apply aF|apply aK|apply aH|apply aJ|apply aI|apply aL|apply aC))
 refine aA hbl ?_
 (repeat(first|refine aA (by simp (disch:=first|omega|exact nnN _|assumption) only [BB,B2,↓reduceIte,Nat.reduceLeDiff,Nat.reduceAdd,CC,a8,l54]<;>rfl) ?_|apply aD|apply aE|with_reducible first|apply aG|apply aF|apply aK|apply aH|apply aJ|apply aI|apply aL|apply aC))
 by_cases hmo:most < ((dY T s b).2.kept.length:Int)
 ·refine aKQ hmo ?_
  (repeat(first|refine aA (by simp (disch:=first|omega|exact nnN _|assumption) only [BB,B2,↓reduceIte,Nat.reduceLeDiff,Nat.reduceAdd,CC,a8]<;>rfl) ?_|apply aD|apply aE|with_reducible first|apply aG|apply aF|apply aK|apply aH|apply aJ|apply aI|apply aL|apply aC))
  refine aA (dD hv4.1 (by simp [scL]) rfl rfl) ?_
  have hov4:(scL kv4 tv4 ev4 mv4 most bv4 (dY T s b).2 0).set 13 (.int .i64 180)=scL kv4 tv4 ev4 mv4 most bv4 (dY T s b).2 180:=rfl
  rw [hov4]
  have hp4:=hf4.lt' hv4.1
  refine hj1 _ _ _ 180 rfl rfl (by unfold aD8; rw [if_pos hmo]) ?_ ?_ ((hk3.trans hk4).upd (List.mem_cons_self ..)) (hv4.upd rfl rfl) (ho4.keepK (ids:=[p]) ((Sub.refl _).keepL.upd (by simp)) fun id hid hm9=>by simp at hm9; subst hm9; have:=(ho4.blk hid).1; omega)
  ·omega
  ·exact (hf4.mono (by omega)).upd (Nat.le_refl _) (by omega)
 ·refine aKP (by omega) ?_
  (repeat(first|refine aA (by simp (disch:=first|omega|exact nnN _|assumption) only [BB,B2,↓reduceIte,Nat.reduceLeDiff,Nat.reduceAdd,CC]<;>rfl) ?_|apply aD|apply aE|with_reducible first|apply aG|apply aF|apply aK|apply aH|apply aJ|apply aI|apply aL|apply aC))
  refine hj1 _ _ _ 0 rfl rfl (by unfold aD8; rw [if_neg hmo]) ?_ ?_ (hk3.trans hk4) hv4 ho4
  ·omega
  ·exact hf4.mono (by omega)
end
end V
end Go.Proofs.YtcaccnneblghgaaGreat
namespace Go.Proofs.YtcaccnneblghgaaGreat
namespace V
attribute [local irreducible] aB ifP aS cS eT exP cM
theorem aMi (h:T Obj) (a b:Int):eD Tryz.prog h .min #[dK,dK] [.int .i64 a,.int .i64 b]=some (.int .i64 (if b < a then b else a)):=by
 simp only [eD,aGX,aHy]
 by_cases hb:b < a<;>simp [hb]
theorem aOq {ro:Ro} {h:T Obj} {v:Value} {l:List Nat} (hv:SlR ro h v 1 RU8 l):Sl ro h v 1 (bY l)∧∀ x∈l,x < 256:=by
 obtain ⟨cs,h1,h2,h3⟩:=hv
 have e:cs=bY l:=by
  apply List.ext_getElem?
  intro i
  rcases Nat.lt_or_ge i l.length with hi | hi
  ·have hx:cs[i]?=some (cs[i]'(by omega)):=List.getElem?_eq_getElem _
   have:=(h3 i _ _ hx (List.getElem?_eq_getElem hi)).1
   rw [hx,this,rT hi]
  ·rw [List.getElem?_eq_none (by omega),List.getElem?_eq_none (by rw [dT]; omega)]
 refine ⟨by rw [← e]; exact h1,fun x hx=>?_⟩
 obtain ⟨i,hi⟩:=List.getElem?_of_mem hx
 have hl:=(List.getElem?_eq_some_iff.1 hi).1
 exact (h3 i _ x (List.getElem?_eq_getElem (by omega)) hi).2
theorem dL.base {ids:List Nat} {h0 h h':T Obj} {n0:Nat} (hk:dL ids h h') (hs:Sub h0 h) (hf:Fr h0 n0) (hi:∀ k∈ids,n0≤k):Sub h0 h':=fun k o hk0=>hk k o (hs k o hk0) fun h9=>by
 have:=hf.lt' hk0
 have:=hi k h9
 omega
theorem aCd.right {ro:Ro} {h:T Obj} {x:List Value} {Tb:TabD} (hd:aCd ro h x Tb) (hr:fQ Tb=true):TabR Tb:=by
 obtain ⟨cv,kv0,tv0,ev0,rfl,q1,q2,q3,q4,q5,q6,q7,q8⟩:=id hd
 refine (aI0 hr fun e he=>?_).1
 obtain ⟨j,hj⟩:=List.getElem?_of_mem he
 obtain ⟨hlt,rfl⟩:=List.getElem?_eq_some_iff.1 hj
 obtain ⟨y,⟨ax,rv,_,hA,_⟩,_⟩:=q4.at hlt
 obtain ⟨cv9,sv9,_,hc9,_⟩:=hA
 exact hc9
end V
end Go.Proofs.YtcaccnneblghgaaGreat
namespace Go.Proofs.YtcaccnneblghgaaGreat
namespace V
attribute [local irreducible] aB ifP aS cS eT exP cM
def mL (ls:List (List Nat)):List (List Nat):=(ls.take 12).map (·.take 20)
theorem aAb (ls:List (List Nat)):(mL ls).length=min 12 ls.length:=by simp [mL]
theorem aJZ {ls:List (List Nat)} {i:Nat} (hi:i < ls.length) (h12:i < 12):(mL ls)[i]?=some (ls[i].take 20):=by
 unfold mL
 rw [List.getElem?_map,List.getElem?_take_of_lt h12,List.getElem?_eq_getElem hi]; rfl
theorem aKN:∀ {l:List (List Nat)} {n:Nat},(∀ x∈l,x.length≤n)→l.flatten.length≤l.length*n
 | [],n,_=>by simp
 | x::l,n,h=>by
  rw [List.flatten_cons,List.length_append,List.length_cons,Nat.succ_mul]
  have:=h x (by simp)
  have:=aKN (l:=l) (n:=n) fun y hy=>h y (by simp [hy])
  omega
theorem aJ0 (ls:List (List Nat)):(mL ls).flatten.length≤240:=by
 have h1:=aKN (l:=mL ls) (n:=20) fun x hx=>by
  unfold mL at hx
  obtain ⟨y,_,rfl⟩:=List.mem_map.1 hx
  exact List.length_take_le ..
 have h2:=aAb ls
 have:(mL ls).length*20≤12*20:=Nat.mul_le_mul_right _ (by omega)
 omega
theorem aMt {ls:List (List Nat)} (h:∀ b∈ls,∀ x∈b,x < 256):∀ b∈mL ls,∀ x∈b,x < 256:=fun b hb x hx=>by
 unfold mL at hb
 obtain ⟨y,hy,rfl⟩:=List.mem_map.1 hb
 exact h y (List.mem_of_mem_take hy) x (List.mem_of_mem_take hx)
theorem aPR (id:Nat) (o1:Option Addr) (l1 c1:Nat):bQ Tryz.prog gD id 1 [(0,.slice o1 l1 c1)]=some (.slice (some (own id 1)) 1 1,some (.cells [Value.slice o1 l1 c1].toArray bC)):=by kernel_rfl
theorem aPn:und Tryz.prog gD=some (.slice bC):=by kernel_rfl
theorem aPj:∃ i,tin Tryz.prog bC=some i∧i.size=1∧i.bytes=24:=wU (by kernel_rfl)
theorem aPq:zer Tryz.prog bC=some (.slice none 0 0):=by kernel_rfl
section
variable {ro:Ro} {h:T Obj} {nx:Nat} {K:KV} {X:List Nat}
set_option maxRecDepth 8000 in
set_option maxHeartbeats 1000000 in
theorem z8 {v:Value} {ls:List (List Nat)} (hv:SlR ro (del h X) v 1 (RB ro (del h X)) ls) (hl:ls.length≤kO) (hlb:∀ b∈ls,b.length≤kO) (hX:∀ k∈X,k < nx) (hf:Fr h nx)
  (hK:∀ r h' nx',nx≤nx'→Fr h' nx'→Sub h h'→SlR ro (del h' X) r 1 (RB ro (del h' X)) (mL ls)→K r h' nx'):aN Tryz.prog ro pA [v] h nx K:=by
 have hvh:=hv.sub (eX h X) (RB.sub (eX h X))
 have hvl:=hvh.len
 have hl9:ls.length≤9223372036854775807:=hl
 apply aDm
 unfold aCU
 refine aA hvl ?_
 refine bA (fun j e h' nx'=>∃ (k:Nat) (out:Value) (cs:List (List Value)),k+j=ls.length∧nx+5≤nx'∧Sub h h'∧Fr h' nx'∧e 3=out∧e 6=v∧e 7=.int .i64 ls.length∧e 8=.int .i64 k∧dF h' out 1 bC cs nx∧cs.length=min 12 k ∧
   ∀ (i:Nat) x d,cs[i]?=some x→(mL ls)[i]?=some d→RB ro (del h X) x d) ?_ (n:=ls.length) ⟨0,.slice none 0 0,[],by omega,by omega,Sub.refl _,hf.mono (by omega),rfl,rfl,rfl,rfl,dF.nil,rfl,fun i x d hx=>by simp at hx⟩
 rintro j e h' nx' ⟨k,out,cs,hj,hnx,hs,hf',e3,e6,e7,e8,ho,hcl,hcs⟩ Q' hq hx
 unfold x6
 rw [e3,e6,e7,e8]
 refine cU (fun hk=>?_) (fun hk=>?_)
 ·have hk:k < ls.length:=by omega
  have hv2:=hvh.sub hs (RB.sub hs)
  obtain ⟨w,⟨w',hw,hwl⟩,hld⟩:=hv2.at1 hk
  cases hw
  have hj2:∀ (e':Env) (h2:T Obj) (n':Nat) (out':Value) (cs':List (List Value)),e' 3=out'→e' 6=v→e' 7=.int .i64 ls.length→e' 8=.int .i64 k→nx'≤n'→Sub h h2→Fr h2 n'→dF h2 out' 1 bC cs' nx→cs'.length=min 12 (k+1) →
    (∀ (i:Nat) x d,cs'[i]?=some x→(mL ls)[i]?=some d→RB ro (del h X) x d)→oA ro Q' e' h2 n':=by
   intro e' h2 n' out' cs' d3 d6 d7 d8 dn ds df do_ dl dc
   unfold oA
   rw [d8]
   (repeat(first|refine aA (by simp (disch:=first|omega|exact nnN _|assumption) only [BB,B2,↓reduceIte,Nat.reduceLeDiff,Nat.reduceAdd,CC]<;>rfl) ?_|apply aD|apply aE|with_reducible first|apply aG|apply aF|apply aK|apply aH|apply aJ|apply aI|apply aL|apply aC))
   exact hq (j - 1) _ _ _ _ (by omega) ⟨k+1,out',cs',by omega,by omega,ds,df.mono (by omega),d3,d6,d7,rfl,do_,dl,dc⟩ (Sub.refl _)
  (repeat(first|refine aA (by simp (disch:=first|omega|exact nnN _|assumption) only [BB,B2,↓reduceIte,Nat.reduceLeDiff,Nat.reduceAdd,CC]<;>rfl) ?_|apply aD|apply aE|with_reducible first|apply aG|apply aF|apply aK|apply aH|apply aJ|apply aI|apply aL|apply aC))
  refine aA (hv2.ix .i64 hk) (aA hld ?_)
  by_cases h12:k < 12
  ·refine aOo (by omega) ?_
   (repeat(first|refine aA (by simp (disch:=first|omega|exact nnN _|assumption) only [BB,B2,↓reduceIte,Nat.reduceLeDiff,Nat.reduceAdd,CC]<;>rfl) ?_|apply aD|apply aE|with_reducible first|apply aG|apply aF|apply aK|apply aH|apply aJ|apply aI|apply aL|apply aC))
   obtain ⟨w2,⟨w3,hw3,hwl3⟩,hld3⟩:=hv.at1 hk
   cases hw3
   have hww:w2=w:=by
    have h9:=aBo ((eX h X).trans hs) hld3
    rw [hld] at h9
    exact (Option.some.inj h9).symm
   subst hww
   have hlen:=hwl3.len
   rw [dT] at hlen
   have hbl9:ls[k].length≤9223372036854775807:=hlb _ (List.getElem_mem hk)
   refine aA hlen (aA (aMi _ _ _) ?_)
   have hmin:(if (20:Int) < (ls[k].length:Int) then (20:Int) else (ls[k].length:Int))=((min 20 ls[k].length:Nat):Int):=by split<;>omega
   rw [hmin]
   obtain ⟨xv,hx1,hx2⟩:=Sl.take (P:=Tryz.prog) hwl3 mC aGp (by omega) (n:=min 20 ls[k].length) (by rw [dT]; omega) .i64
   have htk:(bY ls[k]).take (min 20 ls[k].length)=bY (ls[k].take 20):=by
    rw [List.take_eq_take_min (i:=20)]
    simp only [bY,List.map_take]
   rw [htk] at hx2
   refine aA hx1 ?_
   obtain ⟨o1,m1,c1,e1⟩:=hx2.form
   obtain ⟨i9,t1,t2,t3⟩:=aPj
   refine aAW (z:=1) (l:=cs) (y:=[xv]) (by rw [e1]; exact aPR _ _ _ _) rfl ho aPn t1 (by omega) (by omega) aPq rfl (by simp only [List.all_cons,List.all_nil,hx2.ok,Bool.and_true]) (by rw [t3]; unfold big; omega) (by unfold big; omega) (hf'.mono (by omega)) (by omega) (by omega) (fun e9=>by have:=hf'.lt' (ho.blk e9).2; omega) fun h5 ho5 hk5 hf5=>?_
   refine hj2 _ _ _ _ (cs++[[xv]]) rfl e6 e7 e8 ?_ ?_ ?_ ho5 ?_ ?_
   ·dsimp only; omega
   ·intro b o hb
    have hlt:=hf.lt' hb
    refine hk5 b o (hs b o hb) (by omega) fun e9=>?_
    have:=(ho.blk e9).1
    omega
   ·exact hf5.mono (by dsimp only; omega)
   ·rw [List.length_append,hcl]; show min 12 k+1=_; omega
   ·intro i x d hxi hdi
    rcases Nat.lt_or_ge i cs.length with hi | hi
    ·rw [List.getElem?_append_left hi] at hxi
     exact hcs i x d hxi hdi
    ·rw [List.getElem?_append_right hi] at hxi
     have hi0:i - cs.length=0:=by
      rcases Nat.eq_zero_or_pos (i - cs.length) with h0 | h0
      ·exact h0
      ·rw [List.getElem?_eq_none (by simp; omega)] at hxi; cases hxi
     rw [hi0] at hxi
     cases hxi
     rw [show i=k by omega,aJZ hk h12] at hdi
     cases hdi
     exact ⟨xv,rfl,hx2⟩
  ·refine aOn (by omega) ?_
   (repeat(first|refine aA (by simp (disch:=first|omega|exact nnN _|assumption) only [BB,B2,↓reduceIte,Nat.reduceLeDiff,Nat.reduceAdd,CC]<;>rfl) ?_|apply aD|apply aE|with_reducible first|apply aG|apply aF|apply aK|apply aH|apply aJ|apply aI|apply aL|apply aC))
   refine hj2 _ _ _ out cs e3 e6 e7 e8 ?_ hs ?_ ho ?_ hcs
   ·omega
   ·exact hf'.mono (by omega)
   ·omega
 ·(repeat(first|refine aA (by simp (disch:=first|omega|exact nnN _|assumption) only [BB,B2,↓reduceIte,Nat.reduceLeDiff,Nat.reduceAdd,CC]<;>rfl) ?_|apply aD|apply aE|with_reducible first|apply aG|apply aF|apply aK|apply aH|apply aJ|apply aI|apply aL|apply aC))
  refine hx _ _ _ _ (fun e=>by cases e) (d4 (cO ?_))
  obtain rfl:k=ls.length:=by omega
  have hfin:∀ (e':Env) n',e' 3=out→nx'≤n'→nZ ro K e' h' n':=by
   intro e' n' d3 dn
   unfold nZ
   rw [d3]
   have hD:Sub (del h X) (del h' X):=dL.del (ids:=[]) hs.keepL (fun k hk=>by cases hk) fun k hk=>.inl hk
   refine ⟨h',Sub.refl _,hK out h' _ (by omega) (hf'.mono (by omega)) hs ⟨cs,(ho.del fun id hid hm=>?_).sl,by rw [hcl,aAb],fun i x d hx hd=>RB.sub hD x d (hcs i x d hx hd)⟩⟩
   have:=(ho.blk hid).1
   have:=hX id hm
   omega
  refine hfin _ _ e3 ?_
  omega
end
end V
end Go.Proofs.YtcaccnneblghgaaGreat
namespace Go.Proofs.YtcaccnneblghgaaGreat
namespace V
attribute [local irreducible] aB ifP aS cS eT exP cM
def cB (T:TabD):ScD→List (List Nat)→List TokD × ScD
 | s,[]=>([],s)
 | s,b::l=>((dY T s b).1++(cB T (dY T s b).2 l).1,(cB T (dY T s b).2 l).2)
section
variable {T:TabD}
theorem uU:∀ (l:List (List Nat)) (s:ScD),s8 T s l=((cB T s l).1++(kG T (cB T s l).2).1,(kG T (cB T s l).2).2)
 | [],s=>by simp [s8,cB]
 | b::l,s=>by
  show ((dY T s b).1++(s8 T (dY T s b).2 l).1,(s8 T (dY T s b).2 l).2)=_
  rw [uU l]
  simp [cB]
theorem aD9:∀ (l:List (List Nat)) (s:ScD) (b:List Nat),cB T s (l++[b])=((cB T s l).1++(dY T (cB T s l).2 b).1,(dY T (cB T s l).2 b).2)
 | [],s,b=>by simp [cB]
 | c::l,s,b=>by
  rw [List.cons_append]
  show ((dY T s c).1++(cB T (dY T s c).2 (l++[b])).1,(cB T (dY T s c).2 (l++[b])).2)=_
  rw [aD9 l]
  simp [cB]
theorem wI (hT:TabR T):∀ (n:Nat) (s:ScD),ScI T s→(fO T n s).1.length+(fO T n s).2.kept.length≤s.kept.length
 | 0,s,h=>by show 0+s.kept.length≤_; omega
 | n+1,s,h=>by
  by_cases hk:s.kept=[]
  ·rw [vG _ hk]; show 0+s.kept.length≤_; omega
  ·have h1:=aD1 hT h hk
   rw [nD,if_neg hk]
   split
   ·have h2:=wI hT n _ (aHY hT h1 (by rw [o6]; exact hk))
    obtain ⟨l1,l2⟩:=zE h1.ok (by rw [o6]; exact hk)
    rw [aCy,o6] at h2
    rw [o6] at l2
    have h3:(aEu T (oP T (cN T s).2)).length≤1:=by unfold aEu; split<;>simp
    show (aEu T (oP T (cN T s).2)++(fO T n (kX T (cN T s).2)).1).length+(fO T n (kX T (cN T s).2)).2.kept.length≤_
    rw [List.length_append]
    omega
   ·show 0+(cN T s).2.kept.length≤_
    rw [o6]; omega
theorem aBe (hT:TabR T) {s:ScD} (h:ScI T s) (hcl:s.closed=false) (b:List Nat) (hb:∀ x∈b,x < 256):ScI T (dY T s b).2∧(dY T s b).2.closed=false∧(dY T s b).2.at_+(dY T s b).2.kept.length=s.at_+s.kept.length+b.length∧(dY T s b).1.length+(dY T s b).2.kept.length≤s.kept.length+b.length:=by
 obtain ⟨h1,h2,h3,h4,h5,h6⟩:=aKM hT.tok h.ok h.c hcl b
 have h7:=wI hT (s.kept.length+b.length) (uO s b) (aHB h hb)
 rw [aCu] at h7
 exact ⟨aJJ hT h hb,h3,by omega,h7⟩
theorem vP (hT:TabR T):∀ (l:List (List Nat)) (s:ScD),ScI T s→s.closed=false→(∀ b∈l,∀ x∈b,x < 256)→ScI T (cB T s l).2∧(cB T s l).2.closed=false∧(cB T s l).2.at_+(cB T s l).2.kept.length=s.at_+s.kept.length+l.flatten.length∧(cB T s l).1.length+(cB T s l).2.kept.length≤s.kept.length+l.flatten.length
 | [],s,h,hcl,hb=>⟨h,hcl,by simp [cB],by simp [cB]⟩
 | b::l,s,h,hcl,hb=>by
  obtain ⟨h1,h2,h3,h4⟩:=aBe hT h hcl b (hb b (by simp))
  obtain ⟨g1,g2,g3,g4⟩:=vP hT l _ h1 h2 fun c hc=>hb c (by simp [hc])
  rw [List.flatten_cons,List.length_append]
  refine ⟨g1,g2,by show (cB T (dY T s b).2 l).2.at_+(cB T (dY T s b).2 l).2.kept.length=_; omega,?_⟩
  show ((dY T s b).1++(cB T (dY T s b).2 l).1).length+(cB T (dY T s b).2 l).2.kept.length≤_
  rw [List.length_append]
  omega
end
section
variable {ro:Ro} {h:T Obj} {nx:Nat} {K:KV} {X:List Nat} {p:Nat} {qs:List MqD} {T:TabD} {most:Int} {s:ScD}
structure AlI (ro:Ro) (X:List Nat) (p:Nat) (qs:List MqD) (T:TabD) (most:Int) (h:V.T Obj) (nx:Nat) (s:ScD) (pre:List (List Nat)) (h':V.T Obj) (nx':Nat) (out:Value) (Y:List Nat):Prop where
 kp:dL (lM p qs) h h'
 frr:Fr h' nx'
 sc:ScX ro h' (X++Y) p qs T most 0 (cB T s pre).2
 oo:dF h' out 3 bE (iX (cB T s pre).1) nx
 ob:∀ b∈kF out,b∈Y
 yn:∀ b∈Y,nx≤b∧b≤nx'
 le:nx≤nx'
set_option maxRecDepth 8000 in
set_option maxHeartbeats 1000000 in
theorem AlI.app {pre:List (List Nat)} {h' h2:V.T Obj} {nx' n2 n3:Nat} {out r:Value} {Y:List Nat} {er':Int} {s2:ScD} {l:List TokD} (hi:AlI ro X p qs T most h nx s pre h' nx' out Y) (hf:Fr h nx) (hown:∀ k∈lM p qs,k < nx)
  (hk2:dL (lM p qs) h' h2) (hf2:Fr h2 n2) (hn2:nx'≤n2) (hs2:ScX ro h2 (X++Y) p qs T most er' s2) (ho2:dF h2 r 3 bE (iX l) nx') (hb:(cB T s pre).1.length+l.length≤1000000) (hn3:n2≤n3) :
  ∃ r2 h3 n4 Y2,b7 Tryz.prog ro h2 n3 #[eB,eB] [out,r]=some (r2,h3,n4)∧n3≤n4∧dL (lM p qs) h h3∧Fr h3 n4∧ScX ro h3 (X++Y2) p qs T most er' s2∧dF h3 r2 3 bE (iX ((cB T s pre).1++l)) nx∧(∀ b∈kF r2,b∈Y2)∧(∀ b∈Y2,nx≤b∧b≤n4):=by
 obtain ⟨kp,fr',sc,oo,ob,yn,le⟩:=hi
 obtain ⟨i9,t1,t2,t3⟩:=aK7
 have hout2:dF h2 out 3 bE (iX (cB T s pre).1) nx:=oo.keepK hk2 fun id hid hm9=>by
  have:=hown id hm9
  have:=(oo.blk hid).1
  omega
 have htl:∀ m:List TokD,(iX m).flatten.all cP=true:=fun m=>by
  simp only [iX]
  induction m with
  | nil=>rfl
  | cons a m ih=>rw [List.map_cons,List.flatten_cons,List.all_append,ih]; rfl
 obtain ⟨r2,h3,n4,q1,q2,q3,q4,q5,q6⟩:=aDJ (P:=Tryz.prog) (ro:=ro) (nx:=n3) hout2 (ho2.sl (ro:=ro)) aIl t1 t2 (by omega) zK rfl (htl l) (by rw [nL,nL,t3]; unfold big; omega) (by rw [nL,nL]; unfold big; omega) (by omega) (hf2.mono (by omega))
 have hcat:iX (cB T s pre).1++iX l=iX ((cB T s pre).1++l):=by simp [iX]
 rw [hcat] at q2
 have hkk:dL (kF out) h2 h3:=fun b o hb hn=>q3 b o hb fun e=>hn (eK.2 e)
 have hlt2:∀ k∈lM p qs,k < nx:=hown
 refine ⟨r2,h3,n4,Y++[n3],q1,q4,fun b o hb hn=>?_,q5,?_,q2,fun b hb=>?_,fun b hb=>?_⟩
 ·refine hkk b o (hk2 b o (kp b o hb hn) hn) fun h9=>?_
  have:=hf.lt' hb
  have:=(yn b (ob b h9)).1
  omega
 ·refine hs2.keep hkk (fun b hb=>List.mem_append_right _ (ob b hb)) (fun b hb h9=>?_) (fun b hb=>?_) fun b hb=>?_
  ·have:=hown b h9
   have:=(yn b (ob b hb)).1
   omega
  ·rcases List.mem_append.1 hb with hb | hb
   ·exact .inl (List.mem_append_left _ hb)
   ·rcases List.mem_append.1 hb with hb | hb
    ·exact .inl (List.mem_append_right _ hb)
    ·simp at hb; subst hb; exact .inr (hf2 _ (by omega))
  ·rw [← List.append_assoc]; exact List.mem_append_left _ hb
 ·have hb:=eK.1 hb
  rcases q6 with q6 | q6 | q6
  ·rw [q6] at hb; cases hb
  ·rw [q6] at hb; exact List.mem_append_left _ (ob b (eK.2 hb))
  ·rw [q6] at hb; cases hb; exact List.mem_append_right _ (by simp)
 ·rcases List.mem_append.1 hb with hb | hb
  ·have:=yn b hb; omega
  ·simp at hb; subst hb; omega
set_option maxRecDepth 8000 in
set_option maxHeartbeats 1000000 in
theorem aHm {v:Value} {ls:List (List Nat)} (hm:ScX ro h X p qs T most 0 s) (hT:TabR T) (hI:ScI T s) (hTl:T.entries.length≤1000) (hcl:s.closed=false) (hX:∀ k∈X,k < nx) (hv:SlR ro (del h X) v 1 (RB ro (del h X)) ls) (hll:ls.length≤100000) (hlb:∀ b∈ls,∀ x∈b,x < 256) (hsz:s.at_+s.kept.length+ls.flatten.length≤400)
  (hmo:((s.kept.length+ls.flatten.length:Nat):Int)≤most) (hf:Fr h nx)
  (hK:∀ r h' nx',nx≤nx'→Fr h' nx'→dL (lM p qs) h h'→ScX ro h' X p qs T most 0 (s8 T s ls).2→dF h' r 3 bE (iX (s8 T s ls).1) nx→K (.tuple #[r,.int .i64 0]) h' nx'):aN Tryz.prog ro xW [ptr p,v] h nx K:=by
 have hown:=hm.ownLt hf
 have hownX:∀ k∈lM p qs,k∈X:=fun k hk=>(hm.own k hk).1
 have hvl:=(hv.sub (eX h X) (RB.sub (eX h X))).len
 apply aGS
 unfold aF4
 refine aA hvl ?_
 refine bA (fun j e h' nx'=>∃ (i:Nat) (out:Value) (Y:List Nat),i+j=ls.length∧e 0=ptr p∧e 6=out∧e 13=v∧e 14=.int .i64 ls.length∧e 15=.int .i64 i∧AlI ro X p qs T most h nx s (ls.take i) h' nx' out Y) ?_ (n:=ls.length)
  ⟨0,.slice none 0 0,[],by omega,rfl,rfl,rfl,rfl,rfl,(Sub.refl _).keepL,hf.mono (by omega),by rw [List.append_nil]; exact hm,dF.nil,(fun b hb=>by cases hb),(fun b hb=>by cases hb),by omega⟩
 rintro j e h' nx' ⟨i,out,Y,hj,e0,e6,e13,e14,e15,ai⟩ Q' hq hx
 have hkI:=ai
 obtain ⟨kp,fr',sc,oo,ob,yn,le⟩:=ai
 have htake:∀ b∈ls.take i,∀ x∈b,x < 256:=fun b hb=>hlb b (List.mem_of_mem_take hb)
 obtain ⟨k1,k2,k3,k4⟩:=vP hT (ls.take i) s hI hcl htake
 have hD:Sub (del h X) (del h' X):=kp.del hownX fun k hk=>.inl hk
 have hv':=(hv.sub hD (RB.sub hD)).sub (eX h' X) (RB.sub (eX h' X))
 unfold aBK
 rw [e0,e6,e13,e14,e15]
 refine cU (fun hk=>?_) (fun hk=>?_)
 ·have hk:i < ls.length:=by omega
  obtain ⟨w,⟨w',hw,hwl⟩,hld⟩:=hv'.at1 hk
  cases hw
  have hfs:=zC hk
  have hfl:=qQ (ls:=ls) (i+1)
  rw [hfs,List.length_append] at hfl
  have htk:ls.take (i+1)=ls.take i++[ls[i]]:=List.take_succ_eq_append_getElem hk
  (repeat(first|refine aA (by simp (disch:=first|omega|exact nnN _|assumption) only [BB,B2,↓reduceIte,Nat.reduceLeDiff,Nat.reduceAdd,CC]<;>rfl) ?_|apply aD|apply aE|with_reducible first|apply aG|apply aF|apply aK|apply aH|apply aJ|apply aI|apply aL|apply aC))
  refine aA (hv'.ix .i64 hk) (aA hld ?_)
  obtain ⟨f1,f2,f3,f4⟩:=aBe hT k1 k2 ls[i] (hlb _ (List.getElem_mem hk))
  refine aI7 sc hT k1 hTl k2 (fun k hk9=>?_) hwl (hlb _ (List.getElem_mem hk)) (by omega) (fr'.mono (by omega)) fun r h2 n2 hn2 hf2 hk2 hs2 ho2=>?_
  ·rcases List.mem_append.1 hk9 with hk9 | hk9
   ·have:=hX k hk9; omega
   ·have:=yn k hk9; omega
  have hE:aD8 most (dY T (cB T s (ls.take i)).2 ls[i]).2=0:=by
   unfold aD8
   rw [if_neg (by omega)]
  rw [hE] at hs2 ⊢
  refine aA (aLJ _ _) (aA (aLK _ _) ?_)
  obtain ⟨r2,h3,n4,Y2,q1,q2,q3,q4,q5,q6,q7,q8⟩:=hkI.app (n3:=n2+8) hf hown hk2 hf2 (by omega) hs2 (ho2.mono (by omega)) (by omega) (by omega)
  refine aA q1 ?_
  (repeat(first|refine aA (by simp (disch:=first|omega|exact nnN _|assumption) only [BB,B2,↓reduceIte,Nat.reduceLeDiff,Nat.reduceAdd,CC]<;>rfl) ?_|apply aD|apply aE|with_reducible first|apply aG|apply aF|apply aK|apply aH|apply aJ|apply aI|apply aL|apply aC))
  have hsn:=aD9 (T:=T) (ls.take i) s ls[i]
  refine hq (j - 1) _ _ _ _ (by omega) ⟨i+1,r2,Y2,by omega,e0,rfl,e13,e14,rfl,q3,q4.mono ?_,?_,?_,q7,fun b hb=>?_,?_⟩ (Sub.refl _)
  ·dsimp only; omega
  ·rw [htk,hsn]; exact q5
  ·rw [htk,hsn]; exact q6
  ·have:=q8 b hb; dsimp only; omega
  ·dsimp only; omega
 ·(repeat(first|refine aA (by simp (disch:=first|omega|exact nnN _|assumption) only [BB,B2,↓reduceIte,Nat.reduceLeDiff,Nat.reduceAdd,CC]<;>rfl) ?_|apply aD|apply aE|with_reducible first|apply aG|apply aF|apply aK|apply aH|apply aJ|apply aI|apply aL|apply aC))
  refine hx _ _ _ _ (fun e=>by cases e) (d4 (cO ?_))
  obtain rfl:i=ls.length:=by omega
  rw [List.take_length] at k1 k2 k3 k4 sc hkI
  have hj1:∀ (e':Env) n',e' 0=ptr p→e' 6=out→nx'≤n'→qY ro K e' h' n':=by
   intro e' n' d0 d6 dn
   unfold qY
   rw [d0,d6]
   refine aGn sc hT k1 hTl k2 (by omega) (fr'.mono (by omega)) fun r h2 n2 hn2 hf2 hk2 hs2 ho2=>?_
   refine aA (aLJ _ _) (aA (aLK _ _) ?_)
   have hcc:=wI hT (cB T s ls).2.kept.length { (cB T s ls).2 with closed:=true } (aAr k1)
   have hcc:(kG T (cB T s ls).2).1.length+(kG T (cB T s ls).2).2.kept.length≤(cB T s ls).2.kept.length:=hcc
   obtain ⟨r2,h3,n4,Y2,q1,q2,q3,q4,q5,q6,q7,q8⟩:=hkI.app (n3:=n2+8) hf hown hk2 hf2 (by omega) hs2 (ho2.mono (by omega)) (by omega) (by omega)
   refine aA q1 ?_
   refine ⟨h3,Sub.refl _,hK r2 h3 _ ?_ (q4.mono ?_) q3 ?_ ?_⟩
   ·dsimp only; omega
   ·dsimp only; omega
   ·rw [uU]
    exact q5.shrink (fun k hk=>List.mem_append_left _ hk) hownX
   ·rw [uU]; exact q6
  refine hj1 _ _ e0 e6 ?_
  omega
end
end V
end Go.Proofs.YtcaccnneblghgaaGreat
namespace Go.Proofs.YtcaccnneblghgaaGreat
namespace V
section
variable {T:TabD}
def aAU:Nat→List TokD→Prop
 | _,[]=>True
 | a,t::r=>a≤t.from_∧t.from_ < t.to∧aAU t.to r
theorem aAU.mono {a b:Nat}:∀ {l:List TokD},aAU b l→a≤b→aAU a l
 | [],_,_=>trivial
 | t::r,h,hab=>⟨Nat.le_trans hab h.1,h.2⟩
theorem aAU.app {b:Nat}:∀ {l m:List TokD} {a:Nat},aAU a l→(∀ t∈l,t.to≤b)→a≤b→aAU b m→aAU a (l++m)
 | [],m,a,_,_,hab,hm=>hm.mono hab
 | t::r,m,a,h,hl,hab,hm=>⟨h.1,h.2.1,h.2.2.app (fun x hx=>hl x (by simp [hx])) (hl t (by simp)) hm⟩
def aHA (T:TabD) (t:TokD):Prop:=t.rule=-1∨0≤t.rule∧t.rule < T.kinds.length∧(T.kinds.getD t.rule.toNat .empty).size≠0
theorem aNC (hT:TabR T) {s:ScD} (h:ScI T s):kD T s=-1∨0≤kD T s∧kD T s < T.kinds.length:=by
 unfold kD
 split
 ·exact .inl rfl
 ·rename_i hr
  obtain ⟨_,h2,_⟩:=h.at
  have h3:=h.ru.resolve_left hr
  have hi:s.rule.toNat < (pN T s).rules.length:=by omega
  rw [List.getD_eq_getElem?_getD,List.getElem?_eq_getElem hi]
  exact .inr (hT.rk _ h2 _ (List.getElem_mem hi))
theorem aP4 (hT:TabR T) {s:ScD} (h:ScI T s) (hk:s.kept≠[]):aAU s.at_ (aEu T (oP T s))∧∀ t∈aEu T (oP T s),t.to≤s.at_+fA s∧aHA T t:=by
 obtain ⟨h1,_⟩:=zE h.ok hk
 unfold aEu
 split
 ·rename_i hq
  refine ⟨⟨Nat.le_refl _,by show s.at_ < s.at_+fA s; omega,trivial⟩,fun t ht=>?_⟩
  simp at ht
  subst ht
  refine ⟨Nat.le_refl _,?_⟩
  rcases aNC hT h with h3 | ⟨h3,h4⟩
  ·exact .inl h3
  ·refine .inr ⟨h3,h4,?_⟩
   unfold aBI at hq
   rw [Bool.or_eq_true,decide_eq_true_eq,decide_eq_true_eq] at hq
   rcases hq with hq | hq
   ·have h3:0≤(oP T s).rule:=h3
    omega
   ·exact hq
 ·exact ⟨trivial,fun t ht=>by cases ht⟩
theorem aEa (hT:TabR T):∀ (n:Nat) (s:ScD),ScI T s→aAU s.at_ (fO T n s).1∧s.at_≤(fO T n s).2.at_∧∀ t∈(fO T n s).1,t.to≤(fO T n s).2.at_∧aHA T t
 | 0,s,h=>⟨trivial,Nat.le_refl _,fun t ht=>by cases ht⟩
 | n+1,s,h=>by
  by_cases hk:s.kept=[]
  ·rw [vG _ hk]; exact ⟨trivial,Nat.le_refl _,fun t ht=>by cases ht⟩
  ·have h1:=aD1 hT h hk
   rw [nD,if_neg hk]
   split
   ·obtain ⟨o1,o2⟩:=aP4 hT h1 hk
    obtain ⟨q1,q2,q3⟩:=aEa hT n _ (aHY hT h1 hk)
    have e1:(kX T (cN T s).2).at_=(cN T s).2.at_+fA (cN T s).2:=rfl
    have e2:(cN T s).2.at_=s.at_:=rfl
    rw [e2] at o1
    refine ⟨o1.app (fun t ht=>(o2 t ht).1) (by omega) (by rw [← e1]; exact q1),?_,fun t ht=>?_⟩
    ·show s.at_≤(fO T n (kX T (cN T s).2)).2.at_
     omega
    ·show t.to≤(fO T n (kX T (cN T s).2)).2.at_∧aHA T t
     rcases List.mem_append.1 ht with ht | ht
     ·exact ⟨by have:=(o2 t ht).1; omega,(o2 t ht).2⟩
     ·exact q3 t ht
   ·exact ⟨trivial,Nat.le_refl _,fun t ht=>by cases ht⟩
theorem aJu (hT:TabR T):∀ (l:List (List Nat)) (s:ScD),ScI T s→s.closed=false→(∀ b∈l,∀ x∈b,x < 256)→aAU s.at_ (s8 T s l).1∧s.at_≤(s8 T s l).2.at_∧∀ t∈(s8 T s l).1,t.to≤(s8 T s l).2.at_∧aHA T t
 | [],s,h,_,_=>aEa hT s.kept.length { s with closed:=true } ⟨⟨h.ok.lt,h.ok.len,h.ok.took,h.ok.held,h.ok.none,h.ok.some⟩,h.c,h.ms,h.ru,h.kb,h.st⟩
 | b::r,s,h,hcl,hb=>by
  have hb0:=hb b (by simp)
  obtain ⟨q1,q2,q3⟩:=aEa hT _ _ (aHB h hb0)
  have hI:=aJJ hT h hb0
  obtain ⟨_,_,f3,_,_,_⟩:=aKM hT.tok h.ok h.c hcl b
  obtain ⟨r1,r2,r3⟩:=aJu hT r _ hI f3 fun x hx=>hb x (by simp [hx])
  show aAU s.at_ ((dY T s b).1++(s8 T (dY T s b).2 r).1)∧s.at_≤(s8 T (dY T s b).2 r).2.at_∧∀ t∈(dY T s b).1++(s8 T (dY T s b).2 r).1,t.to≤(s8 T (dY T s b).2 r).2.at_∧aHA T t
  have q2:s.at_≤(dY T s b).2.at_:=q2
  refine ⟨aAU.app q1 (fun t ht=>(q3 t ht).1) q2 r1,Nat.le_trans q2 r2,fun t ht=>?_⟩
  rcases List.mem_append.1 ht with ht | ht
  ·exact ⟨Nat.le_trans (q3 t ht).1 r2,(q3 t ht).2⟩
  ·exact r3 t ht
theorem aEZ (hT:TabR T):∀ (n:Nat) (s:ScD),ScI T s→s.at_+s.took≤s.steps→(fO T n s).2.at_+(fO T n s).2.took≤(fO T n s).2.steps
 | 0,s,h,hs=>hs
 | n+1,s,h,hs=>by
  by_cases hk:s.kept=[]
  ·rw [vG _ hk]; exact hs
  ·have h1:=aD1 hT h hk
   obtain ⟨_,e2,_,_,e5,e6⟩:=rI (pN T s).a (s.kept.drop s.took) (s9 s) h.ok.tr
   have e5:(cN T s).2.steps+s.took=s.steps+(cN T s).2.took:=e5
   have e7:(cN T s).2.at_=s.at_:=rfl
   have hge:(cN T s).2.at_+(cN T s).2.took≤(cN T s).2.steps:=by omega
   rw [nD,if_neg hk]
   split
   ·refine aEZ hT n _ (aHY hT h1 hk) ?_
    show (cN T s).2.at_+fA (cN T s).2+0≤(cN T s).2.steps
    have hp:=h1.ok.held
    have hl:0 < s.kept.length:=List.length_pos_iff.2 hk
    have ht:1≤(cN T s).2.took:=by
     rcases Nat.lt_or_ge s.took s.kept.length with h9 | h9
     ·have:=(aGE h.ok).2 hk h9; omega
     ·have e2:s.took≤(cN T s).2.took:=e2
      omega
    unfold fA
    split<;>omega
   ·exact hge
end
end V
end Go.Proofs.YtcaccnneblghgaaGreat
namespace Go.Proofs.YtcaccnneblghgaaGreat
namespace V
abbrev b0:Value:=.int .u8 0
abbrev b1:Value:=.int .u8 1
abbrev j0:Value:=.int .i64 0
abbrev jm:Value:=.int .i64 (-1)
abbrev s0:Value:=.slice none 0 0
def kTf (o:Obj):T Obj:=.n .e (some o) .e
def kTl (x:T Obj):T Obj:=.n x none .e
def kTr (x:T Obj):T Obj:=.n .e none x
def kTb (x y:T Obj):T Obj:=.n x none y
def kTn (x:T Obj) (o:Obj) (y:T Obj):T Obj:=.n x (some o) y
set_option maxRecDepth 1000000
def kO0:Obj:=.cells ⟨[.slice (some ⟨1009,0,(some 1)⟩) 1 1,.bool false,.bool false,.string ⟨⟨[65]⟩⟩,jm,.int .i64 11,.slice (some ⟨1706,0,(some 9)⟩) 2 2]⟩ 90
def kO1:Obj:=.cells ⟨[j0]⟩ 3
def kO2:Obj:=.cells ⟨[.string ⟨⟨[115,116,97,114,116]⟩⟩]⟩ 9
def kO3:Obj:=.cells ⟨[.int .u8 2,.int .u64 0,.int .u64 8589934592,.int .u64 0,.int .u64 0,s0,j0,j0,.string ⟨⟨[]⟩⟩,.int .u8 5,.int .u64 0,.int .u64 0,.int .u64 0,.int .u64 0,.slice (some ⟨1688,0,(some 1)⟩) 1 1,.int .i64 1,jm,.string ⟨⟨[]⟩⟩]⟩ 86
def kV4:List Value:=[.string ⟨⟨[114,117,108,101,32,42,32,45,32,65,32,97,43]⟩⟩]
def kV5:Value:=.tuple ⟨[.agg ⟨[.slice (some ⟨8,0,(some 1)⟩) 1 1,s0,.slice (some ⟨1915,0,(some 7)⟩) 1 1]⟩,j0,j0]⟩
def rV:Cp where
 f:=aEs
 args:=kV4
 h:=.e
 nx:=2
 v:=kV5
 h':=kTb (kTb (kTr (kTr (kTr (kTr (kTr (kTl (kTr (kTr (kTf kO0))))))))) (kTl (kTl (kTr (kTr (kTr (kTr (kTr (kTf kO1))))))))) (kTb (kTl (kTn .e kO2 (kTr (kTl (kTl (kTr (kTl (kTr (kTf kO1))))))))) (kTl (kTr (kTl (kTr (kTl (kTr (kTl (kTr (kTf kO3))))))))))
 nx':=2425
theorem i5:rM Tryz.prog rV:=tE kI (l:=[]) kH (k:=200) fun ro=>by kernel_rfl
end V
end Go.Proofs.YtcaccnneblghgaaGreat
namespace Go.Proofs.YtcaccnneblghgaaGreat
namespace V
set_option maxRecDepth 1000000
def kO6:Obj:=.cells ⟨[.slice (some ⟨8,0,(some 1)⟩) 1 1,s0,.slice (some ⟨1915,0,(some 7)⟩) 1 1]⟩ 26
def kO7:Obj:=.cells ⟨[s0,s0,s0,s0]⟩ 34
def kV8:List Value:=[.agg ⟨[.slice (some ⟨8,0,(some 1)⟩) 1 1,s0,.slice (some ⟨1915,0,(some 7)⟩) 1 1]⟩]
def wO:Cp where
 f:=aEt
 args:=kV8
 h:=kTb (kTb (kTr (kTb (kTl (kTl (kTl (kTr (kTr (kTl (kTl (kTf kO6)))))))) (kTr (kTr (kTr (kTl (kTr (kTr (kTf kO0))))))))) (kTb (kTl (kTr (kTr (kTr (kTr (kTr (kTf kO1))))))) (kTr (kTr (kTr (kTr (kTl (kTr (kTl (kTl (kTf kO6))))))))))) (kTb (kTb (kTn .e kO2 (kTr (kTl (kTl (kTr (kTl (kTr (kTf kO1)))))))) (kTl (kTl (kTl (kTl (kTr (kTr (kTl (kTl (kTf kO7)))))))))) (kTl (kTr (kTl (kTr (kTl (kTr (kTl (kTr (kTf kO3))))))))))
 nx:=2441
 v:=.bool true
 h':=kTb (kTb (kTr (kTb (kTl (kTl (kTl (kTr (kTr (kTl (kTl (kTf kO6)))))))) (kTr (kTr (kTr (kTl (kTr (kTr (kTf kO0))))))))) (kTb (kTl (kTr (kTr (kTr (kTr (kTr (kTf kO1))))))) (kTr (kTr (kTr (kTr (kTl (kTr (kTl (kTl (kTf kO6))))))))))) (kTb (kTb (kTn .e kO2 (kTr (kTl (kTl (kTr (kTl (kTr (kTf kO1)))))))) (kTl (kTl (kTl (kTl (kTr (kTr (kTl (kTl (kTf kO7)))))))))) (kTl (kTr (kTl (kTr (kTl (kTr (kTl (kTr (kTf kO3))))))))))
 nx':=3274
theorem lC:rM Tryz.prog wO:=tE kI (l:=[rV]) (bD i5 kH) (k:=200) fun ro=>by kernel_rfl
end V
end Go.Proofs.YtcaccnneblghgaaGreat
namespace Go.Proofs.YtcaccnneblghgaaGreat
namespace V
set_option maxRecDepth 1000000
def kO9:Obj:=.cells ⟨[.slice (some ⟨3287,0,(some 1)⟩) 1 1,s0,s0,s0]⟩ 34
def vX:Obj:=.cells ⟨[.int .u8 2,.int .u64 0,.int .u64 8589934592,.int .u64 0,.int .u64 0,s0,j0,j0,.string ⟨⟨[]⟩⟩,.int .u8 5,.int .u64 0,.int .u64 0,.int .u64 0,.int .u64 0,.slice (some ⟨4546,0,(some 1)⟩) 1 1,.int .i64 1,jm,.string ⟨⟨[]⟩⟩]⟩ 86
def aQ8:List Value:=[.agg ⟨[.slice (some ⟨8,0,(some 1)⟩) 1 1,s0,.slice (some ⟨1915,0,(some 7)⟩) 1 1]⟩,j0]
def aQ9:Value:=.tuple ⟨[.slice (some ⟨4581,0,(some 9)⟩) 2 2,j0]⟩
def xM:Cp where
 f:=aGP
 args:=aQ8
 h:=kTb (kTb (kTb (kTr (kTr (kTl (kTr (kTr (kTl (kTl (kTr (kTf kO2))))))))) (kTb (kTb (kTl (kTl (kTr (kTr (kTl (kTl (kTf kO6))))))) (kTl (kTr (kTr (kTl (kTl (kTr (kTl .e)))))))) (kTr (kTr (kTr (kTl (kTr (kTr (kTf kO0))))))))) (kTb (kTb (kTr (kTr (kTr (kTr (kTr (kTf kO1)))))) (kTr (kTl (kTr (kTr (kTl (kTl (kTr (kTf kO9))))))))) (kTr (kTr (kTr (kTr (kTl (kTr (kTl (kTl (kTf kO6))))))))))) (kTb (kTb (kTn .e kO2 (kTr (kTl (kTl (kTr (kTl (kTr (kTf kO1)))))))) (kTl (kTl (kTl (kTl (kTr (kTr (kTl (kTl (kTf kO7)))))))))) (kTl (kTr (kTl (kTr (kTl (kTr (kTl (kTr (kTf kO3))))))))))
 nx:=3301
 v:=aQ9
 h':=kTb (kTb (kTb (kTr (kTr (kTl (kTr (kTr (kTl (kTl (kTr (kTf kO2))))))))) (kTb (kTl (kTl (kTl (kTr (kTr (kTl (kTl (kTf kO6)))))))) (kTr (kTr (kTr (kTl (kTr (kTr (kTf kO0))))))))) (kTb (kTb (kTr (kTr (kTr (kTr (kTr (kTf kO1)))))) (kTr (kTl (kTr (kTr (kTl (kTl (kTr (kTf kO9))))))))) (kTb (kTl (kTr (kTr (kTr (kTr (kTl (kTl (kTl (kTf vX))))))))) (kTr (kTr (kTr (kTl (kTr (kTl (kTl (kTf kO6))))))))))) (kTb (kTb (kTn .e kO2 (kTr (kTl (kTl (kTr (kTl (kTr (kTf kO1)))))))) (kTl (kTl (kTl (kTl (kTr (kTr (kTl (kTl (kTf kO7)))))))))) (kTl (kTb (kTl (kTl (kTr (kTr (kTr (kTl (kTl (kTl (kTf kO1))))))))) (kTl (kTr (kTl (kTr (kTl (kTr (kTf kO3))))))))))
 nx':=4609
theorem mP:rM Tryz.prog xM:=tE kI (l:=[rV,wO]) (bD i5 (bD lC kH)) (k:=200) fun ro=>by kernel_rfl
end V
end Go.Proofs.YtcaccnneblghgaaGreat
namespace Go.Proofs.YtcaccnneblghgaaGreat
namespace V
set_option maxRecDepth 1000000
def x3:Obj:=.cells ⟨[.int .u8 2,.int .u64 0,.int .u64 8589934592,.int .u64 0,.int .u64 0,s0,j0,j0,.string ⟨⟨[]⟩⟩,.int .u8 2,.int .u64 0,.int .u64 8589934592,.int .u64 0,.int .u64 0,s0,j0,j0,.string ⟨⟨[]⟩⟩,.int .u8 5,.int .u64 0,.int .u64 0,.int .u64 0,.int .u64 0,.slice (some ⟨5182,0,(some 1)⟩) 1 1,j0,jm,.string ⟨⟨[]⟩⟩,.int .u8 3,.int .u64 0,.int .u64 0,.int .u64 0,.int .u64 0,.slice (some ⟨5215,0,(some 1)⟩) 2 2,j0,j0,.string ⟨⟨[]⟩⟩]⟩ 86
def x4:Obj:=.cells ⟨[j0,.int .i64 2]⟩ 3
def jJ:Obj:=.cells ⟨[.int .i64 1]⟩ 3
def aQa:List Value:=[.slice (some ⟨4581,0,(some 9)⟩) 2 2,.int .i64 9]
def aQb:Value:=.tuple ⟨[.slice (some ⟨5247,0,(some 9)⟩) 4 4,j0]⟩
def zU:Cp where
 f:=aGO
 args:=aQa
 h:=kTb (kTb (kTb (kTr (kTr (kTl (kTr (kTr (kTl (kTl (kTr (kTf kO2))))))))) (kTb (kTl (kTl (kTl (kTr (kTr (kTl (kTl (kTf kO6)))))))) (kTr (kTr (kTr (kTl (kTr (kTr (kTf kO0))))))))) (kTb (kTb (kTr (kTr (kTr (kTr (kTr (kTf kO1)))))) (kTr (kTl (kTr (kTr (kTl (kTl (kTr (kTf kO9))))))))) (kTb (kTl (kTr (kTr (kTr (kTr (kTl (kTl (kTl (kTf vX))))))))) (kTr (kTr (kTr (kTl (kTr (kTl (kTl (kTf kO6))))))))))) (kTb (kTb (kTn .e kO2 (kTr (kTl (kTl (kTr (kTl (kTr (kTf kO1)))))))) (kTl (kTl (kTl (kTl (kTr (kTr (kTl (kTl (kTf kO7)))))))))) (kTl (kTb (kTl (kTl (kTr (kTr (kTr (kTl (kTl (kTl (kTf kO1))))))))) (kTl (kTr (kTl (kTr (kTl (kTr (kTf kO3))))))))))
 nx:=4617
 v:=aQb
 h':=kTb (kTb (kTb (kTb (kTl (kTb (kTl (kTr (kTl (kTl (kTr (kTl (kTf x3))))))) (kTr (kTl (kTl (kTl (kTr (kTl (kTf x4))))))))) (kTr (kTl (kTr (kTr (kTl (kTl (kTr (kTf kO2))))))))) (kTb (kTl (kTl (kTl (kTr (kTr (kTl (kTl (kTf kO6)))))))) (kTr (kTr (kTr (kTl (kTr (kTr (kTf kO0))))))))) (kTb (kTb (kTr (kTr (kTr (kTr (kTr (kTf kO1)))))) (kTr (kTl (kTr (kTr (kTl (kTl (kTr (kTf kO9))))))))) (kTb (kTl (kTr (kTr (kTr (kTr (kTl (kTl (kTl (kTf vX))))))))) (kTr (kTr (kTr (kTl (kTr (kTl (kTl (kTf kO6))))))))))) (kTb (kTb (kTn .e kO2 (kTr (kTl (kTl (kTr (kTl (kTr (kTf kO1)))))))) (kTl (kTl (kTl (kTl (kTr (kTr (kTl (kTl (kTf kO7)))))))))) (kTb (kTb (kTl (kTl (kTr (kTr (kTr (kTl (kTl (kTl (kTf kO1))))))))) (kTl (kTr (kTl (kTr (kTl (kTr (kTf kO3)))))))) (kTr (kTr (kTr (kTl (kTl (kTl (kTl (kTr (kTl (kTf jJ))))))))))))
 nx':=5824
theorem nS:rM Tryz.prog zU:=tE kI (l:=[rV,wO,xM]) (bD i5 (bD lC (bD mP kH))) (k:=200) fun ro=>by kernel_rfl
end V
end Go.Proofs.YtcaccnneblghgaaGreat
namespace Go.Proofs.YtcaccnneblghgaaGreat
namespace V
set_option maxRecDepth 1000000
def aQF (t:List Value):List Value:=b0::b0::b0::b0::b0::b0::b0::b0::b0::b0::b0::b0::b0::b0::b0::b0::b0::b0::b0::b0::b0::b0::b0::b0::b0::b0::b0::b0::b0::b0::b0::b0::b0::b0::b0::b0::b0::b0::b0::b0::b0::b0::b0::b0::b0::b0::b0::b0::b0::b0::b0::b0::b0::b0::b0::b0::b0::b0::b0::b0::b0::b0::b0::b0::b0::b0::b0::b0::b0::b0::b0::b0::b0::b0::b0::b0::b0::b0::b0::b0::b0::b0::b0::b0::b0::b0::b0::b0::b0::b0::b0::b0::b0::b0::b0::b0::b0::b0::b0::b0::b0::b0::b0::b0::b0::b0::b0::b0::b0::b0::b0::b0::b0::b0::b0::b0::b0::b0::b0::b0::b0::b0::b0::b0::b0::b0::b0::b0::b0::b0::b0::b0::b0::b0::b0::b0::b0::b0::b0::b0::b0::b0::b0::b0::b0::b0::b0::b0::b0::b0::b0::b0::b0::b0::b0::b0::b0::b0::b0::b0::b0::b0::b0::b0::b0::b0::b0::b0::b0::b0::b0::b0::b0::b0::b0::b0::b0::b0::b0::b0::b0::b0::b0::b0::b0::b0::b0::b0::b0::b0::b0::b0::b0::b0::b0::b0::b0::b0::b0::b0::b0::b0::b0::b0::b0::b0::b0::b0::b0::b0::b0::b0::b0::b0::b0::b0::b0::b0::b0::b0::b0::b0::b0::b0::b0::b0::b0::b0::b0::b0::b0::b0::b0::b0::b0::b0::b0::b0::b0::b0::b0::b0::b0::b0::b0::b0::b0::b0::b0::b0::b0::b0::b0::b0::b0::b0::t
def gG:Obj:=.cells ⟨[.slice (some ⟨5247,0,(some 9)⟩) 4 4]⟩ 79
def aHk:Obj:=.cells ⟨[.slice (some ⟨3287,0,(some 1)⟩) 1 1,.slice (some ⟨5849,0,(some 1)⟩) 1 1,.slice (some ⟨5862,0,(some 1)⟩) 1 1,s0]⟩ 34
def kY:Obj:=.cells ⟨[.string ⟨⟨[65]⟩⟩]⟩ 9
def aCm:Obj:=.cells ⟨(aQF [j0,s0,s0,s0])⟩ 65
def fM:Obj:=.cells ⟨[jm]⟩ 3
def aMX:Obj:=.cells ⟨[.int .u64 0,.int .u64 8589934592,.int .u64 0,.int .u64 0,.int .i64 1,.int .i64 1,j0,.bool true,.slice (some ⟨7491,0,(some 1)⟩) 1 1,.int .u64 0,.int .u64 8589934592,.int .u64 0,.int .u64 0,.int .i64 1,.int .i64 1,j0,.bool true,.slice (some ⟨7219,0,(some 1)⟩) 1 1]⟩ 192
def aQc:Value:=.tuple ⟨[.agg ⟨[.slice (some ⟨7717,0,(some 1)⟩) 1 1,.slice (some ⟨6903,0,(some 9)⟩) 2 2]⟩,j0]⟩
def aJz:Cp where
 f:=aDh
 args:=[.slice (some ⟨5963,0,(some 1)⟩) 1 1]
 h:=kTb (kTb (kTb (kTb (kTl (kTb (kTl (kTr (kTl (kTl (kTr (kTl (kTf x3))))))) (kTr (kTl (kTl (kTl (kTr (kTl (kTf x4))))))))) (kTr (kTl (kTr (kTr (kTl (kTl (kTr (kTf kO2))))))))) (kTb (kTl (kTl (kTl (kTr (kTr (kTl (kTl (kTf kO6)))))))) (kTb (kTb (kTr (kTb (kTr (kTr (kTr (kTl (kTf gG))))) (kTl (kTr (kTr (kTl (kTf gG))))))) (kTl (kTl (kTr (kTr (kTr (kTl (kTf kO1)))))))) (kTr (kTr (kTl (kTr (kTr (kTf kO0))))))))) (kTb (kTb (kTr (kTr (kTr (kTr (kTr (kTf kO1)))))) (kTb (kTb (kTr (kTb (kTr (kTr (kTr (kTl (kTf gG))))) (kTl (kTr (kTr (kTl (kTf gG))))))) (kTl (kTl (kTr (kTr (kTr (kTl (kTf kO1)))))))) (kTb (kTr (kTr (kTl (kTb (kTr (kTf aHk)) (kTr (kTl (kTf kY))))))) (kTl (kTl (kTr (kTr (kTr (kTl (kTf aCm)))))))))) (kTb (kTb (kTr (kTr (kTr (kTr (kTl (kTl (kTl (kTf vX)))))))) (kTl (kTr (kTr (kTl (kTr (kTr (kTl (kTf kY))))))))) (kTr (kTr (kTr (kTb (kTr (kTl (kTl (kTf kO6)))) (kTl (kTr (kTr (kTl (kTf kO6)))))))))))) (kTb (kTb (kTn .e kO2 (kTr (kTl (kTl (kTr (kTl (kTr (kTf kO1)))))))) (kTl (kTl (kTl (kTl (kTr (kTr (kTl (kTl (kTf kO7)))))))))) (kTb (kTb (kTl (kTb (kTr (kTr (kTr (kTl (kTl (kTl (kTf kO1))))))) (kTr (kTr (kTl (kTr (kTr (kTl (kTf fM))))))))) (kTl (kTr (kTl (kTr (kTl (kTr (kTf kO3)))))))) (kTb (kTl (kTr (kTr (kTr (kTl (kTr (kTr (kTl (kTf fM))))))))) (kTr (kTr (kTl (kTl (kTl (kTl (kTr (kTl (kTf jJ))))))))))))
 nx:=5974
 v:=aQc
 h':=kTb (kTb (kTb (kTb (kTl (kTb (kTl (kTr (kTl (kTl (kTr (kTl (kTf x3))))))) (kTr (kTl (kTl (kTl (kTr (kTl (kTf x4))))))))) (kTr (kTb (kTr (kTr (kTl (kTl (kTr (kTf kO2)))))) (kTr (kTr (kTl (kTr (kTl (kTr (kTf aMX)))))))))) (kTb (kTb (kTl (kTb (kTr (kTr (kTl (kTl (kTf kO6))))) (kTl (kTr (kTl (kTr (kTr (kTf jJ)))))))) (kTr (kTl (kTl (kTl (kTl (kTr (kTr (kTf jJ))))))))) (kTb (kTb (kTr (kTb (kTr (kTr (kTr (kTl (kTf gG))))) (kTl (kTr (kTr (kTl (kTf gG))))))) (kTl (kTl (kTr (kTr (kTr (kTl (kTf kO1)))))))) (kTr (kTr (kTl (kTr (kTr (kTf kO0))))))))) (kTb (kTb (kTr (kTr (kTr (kTr (kTr (kTf kO1)))))) (kTb (kTb (kTr (kTb (kTr (kTr (kTr (kTl (kTf gG))))) (kTl (kTr (kTr (kTl (kTf gG))))))) (kTl (kTl (kTr (kTr (kTr (kTl (kTf kO1)))))))) (kTb (kTr (kTr (kTl (kTb (kTr (kTf aHk)) (kTr (kTl (kTf kY))))))) (kTl (kTl (kTr (kTr (kTr (kTl (kTf aCm)))))))))) (kTb (kTb (kTr (kTb (kTl (kTl (kTr (kTr (kTr (kTf kO1)))))) (kTr (kTr (kTl (kTl (kTl (kTf vX)))))))) (kTl (kTr (kTr (kTl (kTr (kTr (kTl (kTf kY))))))))) (kTr (kTr (kTr (kTb (kTr (kTl (kTl (kTf kO6)))) (kTl (kTr (kTr (kTl (kTf kO6)))))))))))) (kTb (kTb (kTn .e kO2 (kTr (kTl (kTl (kTr (kTl (kTr (kTf kO1)))))))) (kTl (kTl (kTl (kTl (kTr (kTr (kTl (kTl (kTf kO7)))))))))) (kTb (kTb (kTl (kTb (kTr (kTr (kTr (kTl (kTl (kTl (kTf kO1))))))) (kTr (kTr (kTl (kTr (kTr (kTl (kTf fM))))))))) (kTl (kTr (kTl (kTr (kTl (kTr (kTf kO3)))))))) (kTb (kTl (kTr (kTr (kTr (kTl (kTr (kTr (kTl (kTf fM))))))))) (kTr (kTr (kTl (kTl (kTl (kTl (kTr (kTl (kTf jJ))))))))))))
 nx':=7804
theorem aDY:rM Tryz.prog aJz:=tE kI (l:=[rV,wO,xM,zU]) (bD i5 (bD lC (bD mP (bD nS kH)))) (k:=200) fun ro=>by kernel_rfl
end V
end Go.Proofs.YtcaccnneblghgaaGreat
namespace Go.Proofs.YtcaccnneblghgaaGreat
namespace V
set_option maxRecDepth 1000000
def aBH (t:List Value):List Value:=b0::b0::b0::b0::b0::b0::b0::b0::b0::b0::b0::b0::b0::b0::b0::b0::b0::b0::b0::b0::b0::b0::b0::b0::b0::b0::b0::b0::b0::b0::b0::b0::b0::b0::b0::b0::b0::b0::b0::b0::b0::b0::b0::b0::b0::b0::b0::b0::b0::b0::b0::b0::b0::b0::b0::b0::b0::b0::b0::b0::b0::b0::b0::b0::b0::b0::b0::b0::b0::b0::b0::b0::b0::b0::b0::b0::b0::b0::b0::b0::b0::b0::b0::b0::b0::b0::b0::b0::b0::b0::b0::b0::b0::b0::b0::b0::b0::b1::b0::b0::b0::b0::b0::b0::b0::b0::b0::b0::b0::b0::b0::b0::b0::b0::b0::b0::b0::b0::b0::b0::b0::b0::b0::b0::b0::b0::b0::b0::b0::b0::b0::b0::b0::b0::b0::b0::b0::b0::b0::b0::b0::b0::b0::b0::b0::b0::b0::b0::b0::b0::b0::b0::b0::b0::b0::b0::b0::b0::b0::b0::b0::b0::b0::b0::b0::b0::b0::b0::b0::b0::b0::b0::b0::b0::b0::b0::b0::b0::b0::b0::b0::b0::b0::b0::b0::b0::b0::b0::b0::b0::b0::b0::b0::b0::b0::b0::b0::b0::b0::b0::b0::b0::b0::b0::b0::b0::b0::b0::b0::b0::b0::b0::b0::b0::b0::b0::b0::b0::b0::b0::b0::b0::b0::b0::b0::b0::b0::b0::b0::b0::b0::b0::b0::b0::b0::b0::b0::b0::b0::b0::b0::b0::b0::b0::b0::b0::b0::b0::b0::b0::b0::b0::b0::b0::b0::b0::t
def aNn:Obj:=.cells ⟨[.slice (some ⟨7717,0,(some 1)⟩) 1 1,.slice (some ⟨6903,0,(some 9)⟩) 2 2]⟩ 136
def aCn:Obj:=.cells ⟨[jm,s0,.int .i64 2,s0]⟩ 202
def aKy:Obj:=.cells ⟨[jm,s0,.int .i64 1,s0]⟩ 202
def aPF:Obj:=.cells ⟨[.slice (some ⟨42591,0,(some 2)⟩) 2 2]⟩ 200
def aPG:Obj:=.cells ⟨[.slice (some ⟨40887,0,(some 2)⟩) 2 2]⟩ 200
def aPH:Obj:=.cells ⟨[s0,s0,.slice (some ⟨40384,0,(some 1)⟩) 1 1,.slice (some ⟨40909,0,(some 1)⟩) 1 1,.slice (some ⟨40670,0,(some 1)⟩) 1 1,s0,.slice (some ⟨41071,0,(some 1)⟩) 1 1,.slice (some ⟨41768,0,(some 1)⟩) 1 1,.slice (some ⟨41593,0,(some 1)⟩) 1 1,s0,.slice (some ⟨41930,0,(some 1)⟩) 1 1,.slice (some ⟨42613,0,(some 1)⟩) 1 1]⟩ 160
def aPI:Obj:=.cells ⟨[.slice (some ⟨41746,0,(some 2)⟩) 2 2]⟩ 200
def aQd:List Value:=[.agg ⟨[.slice (some ⟨7717,0,(some 1)⟩) 1 1,.slice (some ⟨6903,0,(some 9)⟩) 2 2]⟩]
def aQe:Value:=.tuple ⟨[.agg ⟨(aBH [.int .i64 2,s0,.slice (some ⟨41728,0,(some 4)⟩) 3 3])⟩,j0]⟩
def aLy:Cp where
 f:=aDi
 args:=aQd
 h:=kTb (kTb (kTb (kTb (kTl (kTb (kTl (kTr (kTl (kTb (kTr (kTl (kTf x3))) (kTr (kTr (kTf aNn))))))) (kTr (kTl (kTl (kTl (kTr (kTl (kTf x4))))))))) (kTr (kTb (kTr (kTr (kTl (kTl (kTr (kTf kO2)))))) (kTr (kTr (kTl (kTr (kTl (kTr (kTf aMX)))))))))) (kTb (kTb (kTl (kTb (kTr (kTr (kTl (kTl (kTf kO6))))) (kTl (kTr (kTl (kTr (kTr (kTf jJ)))))))) (kTr (kTl (kTl (kTl (kTl (kTr (kTr (kTf jJ))))))))) (kTb (kTb (kTr (kTb (kTr (kTr (kTr (kTl (kTf gG))))) (kTl (kTr (kTr (kTl (kTf gG))))))) (kTl (kTl (kTr (kTr (kTr (kTl (kTf kO1)))))))) (kTr (kTr (kTl (kTr (kTr (kTf kO0))))))))) (kTb (kTb (kTr (kTr (kTr (kTr (kTr (kTf kO1)))))) (kTb (kTb (kTr (kTb (kTr (kTr (kTr (kTl (kTf gG))))) (kTl (kTr (kTr (kTl (kTf gG))))))) (kTl (kTl (kTr (kTr (kTr (kTl (kTf kO1)))))))) (kTb (kTr (kTr (kTl (kTb (kTr (kTf aHk)) (kTr (kTl (kTf kY))))))) (kTl (kTl (kTr (kTr (kTr (kTl (kTf aCm)))))))))) (kTb (kTb (kTr (kTb (kTl (kTl (kTr (kTr (kTr (kTf kO1)))))) (kTr (kTr (kTl (kTl (kTl (kTf vX)))))))) (kTl (kTr (kTr (kTl (kTr (kTr (kTl (kTf kY))))))))) (kTr (kTr (kTr (kTb (kTr (kTl (kTl (kTf kO6)))) (kTl (kTr (kTr (kTl (kTf kO6)))))))))))) (kTb (kTb (kTn .e kO2 (kTr (kTl (kTl (kTr (kTl (kTr (kTf kO1)))))))) (kTl (kTl (kTl (kTl (kTr (kTr (kTl (kTl (kTf kO7)))))))))) (kTb (kTb (kTl (kTb (kTr (kTr (kTr (kTl (kTl (kTl (kTf kO1))))))) (kTr (kTr (kTl (kTr (kTr (kTl (kTf fM))))))))) (kTl (kTr (kTl (kTr (kTl (kTr (kTf kO3)))))))) (kTb (kTl (kTr (kTr (kTr (kTl (kTr (kTr (kTl (kTf fM))))))))) (kTr (kTr (kTl (kTl (kTl (kTl (kTr (kTl (kTf jJ))))))))))))
 nx:=7814
 v:=aQe
 h':=kTb (kTb (kTb (kTb (kTb (kTb (kTl (kTr (kTl (kTb (kTr (kTl (kTf x3))) (kTr (kTr (kTf aNn))))))) (kTr (kTl (kTl (kTb (kTr (kTl (kTf x4))) (kTr (kTl (kTl (kTr (kTl (kTf aCn))))))))))) (kTr (kTr (kTl (kTl (kTl (kTl (kTl (kTl (kTr (kTl (kTf kO1)))))))))))) (kTr (kTb (kTr (kTr (kTl (kTl (kTr (kTf kO2)))))) (kTb (kTr (kTr (kTr (kTr (kTr (kTr (kTl (kTl (kTf aKy))))))))) (kTr (kTl (kTr (kTl (kTr (kTf aMX)))))))))) (kTb (kTb (kTl (kTb (kTr (kTr (kTl (kTl (kTf kO6))))) (kTl (kTr (kTl (kTr (kTr (kTf jJ)))))))) (kTr (kTl (kTl (kTl (kTl (kTr (kTr (kTf jJ))))))))) (kTb (kTb (kTr (kTb (kTr (kTr (kTr (kTl (kTf gG))))) (kTl (kTr (kTr (kTl (kTf gG))))))) (kTl (kTl (kTr (kTr (kTr (kTl (kTf kO1)))))))) (kTr (kTr (kTl (kTr (kTr (kTf kO0))))))))) (kTb (kTb (kTr (kTr (kTr (kTr (kTr (kTf kO1)))))) (kTb (kTb (kTr (kTb (kTr (kTr (kTr (kTl (kTf gG))))) (kTl (kTr (kTr (kTl (kTf gG))))))) (kTl (kTl (kTr (kTr (kTr (kTl (kTf kO1)))))))) (kTb (kTr (kTr (kTl (kTb (kTr (kTf aHk)) (kTr (kTl (kTf kY))))))) (kTb (kTl (kTr (kTr (kTr (kTl (kTf aCm)))))) (kTl (kTl (kTr (kTl (kTl (kTl (kTr (kTl (kTf jJ))))))))))))) (kTb (kTb (kTr (kTb (kTl (kTl (kTr (kTr (kTr (kTf kO1)))))) (kTr (kTr (kTl (kTl (kTl (kTf vX)))))))) (kTb (kTr (kTr (kTl (kTr (kTr (kTl (kTf kY))))))) (kTr (kTl (kTl (kTr (kTr (kTl (kTl (kTr (kTl (kTf aPF)))))))))))) (kTb (kTl (kTr (kTr (kTr (kTr (kTr (kTr (kTr (kTl (kTl (kTf aPG))))))))))) (kTr (kTr (kTb (kTr (kTl (kTl (kTf kO6)))) (kTl (kTr (kTr (kTl (kTf kO6)))))))))))) (kTb (kTb (kTn (kTl (kTl (kTb (kTl (kTr (kTr (kTl (kTl (kTl (kTr (kTl (kTf aPH))))))))) (kTr (kTr (kTl (kTr (kTr (kTr (kTl (kTl (kTf fM)))))))))))) kO2 (kTb (kTr (kTl (kTl (kTr (kTr (kTl (kTl (kTl (kTr (kTl (kTf aPI))))))))))) (kTl (kTl (kTr (kTl (kTr (kTf kO1)))))))) (kTl (kTl (kTl (kTl (kTr (kTr (kTl (kTl (kTf kO7)))))))))) (kTb (kTb (kTb (kTb (kTr (kTr (kTr (kTl (kTl (kTl (kTf kO1))))))) (kTr (kTr (kTl (kTr (kTr (kTl (kTf fM)))))))) (kTl (kTl (kTl (kTr (kTr (kTl (kTl (kTl (kTr (kTl (kTf aCn)))))))))))) (kTl (kTb (kTr (kTr (kTr (kTr (kTl (kTl (kTl (kTr (kTl (kTf kO1)))))))))) (kTl (kTr (kTl (kTr (kTf kO3)))))))) (kTb (kTl (kTr (kTr (kTr (kTl (kTr (kTr (kTl (kTf fM))))))))) (kTr (kTb (kTr (kTr (kTl (kTr (kTr (kTr (kTr (kTl (kTl (kTf kO1)))))))))) (kTl (kTl (kTl (kTl (kTr (kTl (kTf jJ))))))))))))
 nx':=42658
theorem aHV:rM Tryz.prog aLy:=tE kI (l:=[rV,wO,xM,zU,aJz]) (bD i5 (bD lC (bD mP (bD nS (bD aDY kH))))) (k:=200) fun ro=>by kernel_rfl
end V
end Go.Proofs.YtcaccnneblghgaaGreat
namespace Go.Proofs.YtcaccnneblghgaaGreat
namespace V
set_option maxRecDepth 1000000
def aQC:Obj:=.cells ⟨(aBH [.int .i64 2,s0,.slice (some ⟨41728,0,(some 4)⟩) 3 3])⟩ 63
def uZ:Obj:=.cells ⟨[]⟩ 149
def aBh:Obj:=.cells ⟨[jm,s0,.int .i64 1,.slice (some ⟨62911,0,(some 1)⟩) 0 0]⟩ 202
def aBi:Obj:=.cells ⟨[.slice (some ⟨62919,0,(some 2)⟩) 2 2]⟩ 200
def aBj:Obj:=.cells ⟨[.slice (some ⟨63066,0,(some 2)⟩) 2 2]⟩ 200
def aBk:Obj:=.cells ⟨[jm,s0,.int .i64 1,.slice (some ⟨63058,0,(some 1)⟩) 0 0]⟩ 202
def aBl:Obj:=.cells ⟨[.slice (some ⟨62947,0,(some 1)⟩) 0 0,.slice (some ⟨62951,0,(some 1)⟩) 0 0,.slice (some ⟨62965,0,(some 1)⟩) 1 1,.slice (some ⟨62935,0,(some 1)⟩) 1 1,.slice (some ⟨63112,0,(some 1)⟩) 1 1,.slice (some ⟨63098,0,(some 1)⟩) 0 0,.slice (some ⟨63113,0,(some 1)⟩) 1 1,.slice (some ⟨63082,0,(some 1)⟩) 1 1]⟩ 160
def aQf:List Value:=[.agg ⟨(aBH [.int .i64 2,s0,.slice (some ⟨41728,0,(some 4)⟩) 3 3])⟩]
def aQg:Value:=.tuple ⟨[.agg ⟨(aBH [.int .i64 2,.slice (some ⟨62815,0,(some 2)⟩) 0 0,.slice (some ⟨63322,0,(some 4)⟩) 2 2])⟩,j0]⟩
def aOh:Cp where
 f:=aDj
 args:=aQf
 h:=kTb (kTb (kTb (kTb (kTb (kTb (kTl (kTr (kTl (kTb (kTr (kTl (kTf x3))) (kTr (kTr (kTf aNn))))))) (kTr (kTl (kTl (kTb (kTr (kTl (kTf x4))) (kTr (kTl (kTl (kTr (kTl (kTf aCn))))))))))) (kTr (kTr (kTl (kTl (kTl (kTl (kTl (kTl (kTr (kTl (kTf kO1)))))))))))) (kTr (kTb (kTr (kTr (kTl (kTl (kTr (kTf kO2)))))) (kTb (kTr (kTr (kTr (kTr (kTr (kTr (kTl (kTl (kTf aKy))))))))) (kTr (kTl (kTr (kTl (kTr (kTf aMX)))))))))) (kTb (kTb (kTl (kTb (kTr (kTr (kTl (kTl (kTf kO6))))) (kTl (kTr (kTl (kTr (kTr (kTf jJ)))))))) (kTr (kTl (kTl (kTl (kTl (kTr (kTr (kTf jJ))))))))) (kTb (kTb (kTr (kTb (kTr (kTr (kTr (kTl (kTf gG))))) (kTl (kTr (kTr (kTl (kTf gG))))))) (kTl (kTl (kTr (kTr (kTr (kTl (kTf kO1)))))))) (kTr (kTr (kTl (kTr (kTr (kTf kO0))))))))) (kTb (kTb (kTr (kTr (kTr (kTr (kTr (kTf kO1)))))) (kTb (kTb (kTr (kTb (kTr (kTr (kTr (kTl (kTf gG))))) (kTl (kTr (kTr (kTl (kTf gG))))))) (kTl (kTl (kTr (kTr (kTr (kTl (kTf kO1)))))))) (kTb (kTr (kTr (kTl (kTb (kTr (kTf aHk)) (kTr (kTl (kTf kY))))))) (kTb (kTl (kTr (kTr (kTr (kTl (kTf aCm)))))) (kTl (kTl (kTr (kTl (kTl (kTl (kTr (kTl (kTf jJ))))))))))))) (kTb (kTb (kTr (kTb (kTb (kTl (kTr (kTr (kTr (kTf kO1))))) (kTl (kTr (kTr (kTl (kTl (kTr (kTl (kTf aQC))))))))) (kTr (kTr (kTl (kTl (kTl (kTf vX)))))))) (kTb (kTr (kTr (kTl (kTr (kTr (kTl (kTf kY))))))) (kTr (kTl (kTl (kTr (kTr (kTl (kTl (kTr (kTl (kTf aPF)))))))))))) (kTb (kTl (kTr (kTr (kTr (kTr (kTr (kTr (kTr (kTl (kTl (kTf aPG))))))))))) (kTr (kTr (kTb (kTr (kTl (kTl (kTf kO6)))) (kTl (kTr (kTr (kTl (kTf kO6)))))))))))) (kTb (kTb (kTn (kTl (kTl (kTb (kTl (kTr (kTr (kTl (kTl (kTl (kTr (kTl (kTf aPH))))))))) (kTr (kTr (kTl (kTr (kTr (kTr (kTl (kTl (kTf fM)))))))))))) kO2 (kTb (kTr (kTl (kTl (kTr (kTr (kTl (kTl (kTl (kTr (kTl (kTf aPI))))))))))) (kTl (kTl (kTr (kTl (kTr (kTf kO1)))))))) (kTl (kTl (kTl (kTl (kTr (kTr (kTl (kTl (kTf kO7)))))))))) (kTb (kTb (kTb (kTb (kTr (kTr (kTr (kTl (kTl (kTl (kTf kO1))))))) (kTr (kTr (kTl (kTr (kTr (kTl (kTf fM)))))))) (kTl (kTl (kTl (kTr (kTr (kTl (kTl (kTl (kTr (kTl (kTf aCn)))))))))))) (kTl (kTb (kTr (kTr (kTr (kTr (kTl (kTl (kTl (kTr (kTl (kTf kO1)))))))))) (kTl (kTr (kTl (kTr (kTf kO3)))))))) (kTb (kTl (kTr (kTr (kTr (kTl (kTr (kTr (kTl (kTf fM))))))))) (kTr (kTb (kTr (kTr (kTl (kTr (kTr (kTr (kTr (kTl (kTl (kTf kO1)))))))))) (kTl (kTl (kTl (kTl (kTr (kTl (kTf jJ))))))))))))
 nx:=42668
 v:=aQg
 h':=kTb (kTb (kTb (kTb (kTb (kTb (kTb (kTr (kTl (kTb (kTr (kTl (kTf x3))) (kTr (kTr (kTf aNn)))))) (kTr (kTr (kTl (kTr (kTl (kTr (kTr (kTr (kTf (.cells ⟨[]⟩ 5))))))))))) (kTr (kTl (kTb (kTb (kTr (kTl (kTf x4))) (kTr (kTl (kTl (kTr (kTl (kTf aCn))))))) (kTl (kTr (kTl (kTr (kTr (kTr (kTf uZ))))))))))) (kTr (kTr (kTl (kTl (kTl (kTl (kTl (kTl (kTr (kTl (kTf kO1)))))))))))) (kTb (kTb (kTr (kTr (kTr (kTl (kTr (kTl (kTr (kTr (kTr (kTf aBh)))))))))) (kTr (kTr (kTr (kTl (kTr (kTl (kTr (kTr (kTr (kTf (.cells ⟨[]⟩ 3)))))))))))) (kTb (kTr (kTr (kTb (kTl (kTr (kTf kO2))) (kTl (kTr (kTl (kTr (kTr (kTr (kTf aBi)))))))))) (kTb (kTr (kTr (kTr (kTr (kTr (kTr (kTl (kTl (kTf aKy))))))))) (kTr (kTl (kTr (kTl (kTr (kTf aMX)))))))))) (kTb (kTb (kTb (kTb (kTr (kTr (kTl (kTl (kTf kO6))))) (kTl (kTr (kTl (kTr (kTr (kTf jJ))))))) (kTr (kTr (kTr (kTl (kTr (kTl (kTr (kTr (kTr (kTf (.cells ⟨[]⟩ 3)))))))))))) (kTr (kTl (kTl (kTl (kTl (kTr (kTr (kTf jJ))))))))) (kTb (kTb (kTr (kTb (kTr (kTr (kTr (kTl (kTf gG))))) (kTl (kTr (kTr (kTl (kTf gG))))))) (kTl (kTl (kTr (kTr (kTr (kTl (kTf kO1)))))))) (kTr (kTr (kTl (kTr (kTr (kTf kO0))))))))) (kTb (kTb (kTr (kTr (kTr (kTr (kTr (kTf kO1)))))) (kTb (kTb (kTb (kTr (kTl (kTr (kTr (kTl (kTr (kTr (kTr (kTf kO1))))))))) (kTb (kTr (kTr (kTr (kTl (kTf gG))))) (kTl (kTr (kTr (kTl (kTf gG))))))) (kTl (kTl (kTr (kTr (kTr (kTl (kTf kO1)))))))) (kTb (kTr (kTr (kTl (kTb (kTr (kTf aHk)) (kTr (kTl (kTf kY))))))) (kTb (kTl (kTr (kTr (kTr (kTl (kTf aCm)))))) (kTl (kTl (kTr (kTl (kTl (kTl (kTr (kTl (kTf jJ))))))))))))) (kTb (kTb (kTr (kTb (kTb (kTl (kTr (kTr (kTr (kTf kO1))))) (kTl (kTr (kTr (kTl (kTl (kTr (kTl (kTf aQC))))))))) (kTr (kTr (kTl (kTl (kTl (kTf vX)))))))) (kTb (kTr (kTr (kTl (kTr (kTr (kTl (kTf kY))))))) (kTr (kTb (kTl (kTr (kTr (kTl (kTl (kTr (kTl (kTf aPF)))))))) (kTr (kTl (kTr (kTl (kTr (kTr (kTr (kTf fM)))))))))))) (kTb (kTl (kTr (kTr (kTr (kTr (kTr (kTr (kTr (kTl (kTl (kTf aPG))))))))))) (kTr (kTr (kTb (kTr (kTl (kTl (kTf kO6)))) (kTl (kTr (kTr (kTl (kTf kO6)))))))))))) (kTb (kTb (kTn (kTl (kTl (kTb (kTl (kTr (kTr (kTl (kTl (kTl (kTr (kTl (kTf aPH))))))))) (kTr (kTr (kTl (kTr (kTr (kTr (kTl (kTl (kTf fM)))))))))))) kO2 (kTb (kTb (kTl (kTr (kTl (kTr (kTr (kTl (kTr (kTr (kTr (kTf kO1)))))))))) (kTl (kTl (kTr (kTr (kTl (kTl (kTl (kTr (kTl (kTf aPI))))))))))) (kTl (kTl (kTr (kTl (kTr (kTf kO1)))))))) (kTl (kTl (kTl (kTl (kTr (kTr (kTl (kTl (kTf kO7)))))))))) (kTb (kTb (kTb (kTb (kTr (kTr (kTr (kTl (kTl (kTl (kTf kO1))))))) (kTr (kTr (kTl (kTr (kTr (kTl (kTf fM)))))))) (kTl (kTb (kTl (kTr (kTr (kTl (kTl (kTl (kTr (kTl (kTf aCn))))))))) (kTl (kTl (kTr (kTr (kTl (kTr (kTr (kTr (kTf (.cells ⟨[]⟩ 5))))))))))))) (kTb (kTb (kTr (kTr (kTr (kTr (kTl (kTl (kTl (kTr (kTl (kTf kO1)))))))))) (kTb (kTr (kTl (kTr (kTf kO3)))) (kTl (kTl (kTr (kTr (kTl (kTr (kTr (kTr (kTf aBj))))))))))) (kTb (kTr (kTl (kTb (kTr (kTr (kTl (kTr (kTr (kTr (kTf aBk))))))) (kTr (kTr (kTl (kTr (kTr (kTr (kTf aBl)))))))))) (kTr (kTl (kTl (kTr (kTr (kTl (kTr (kTr (kTr (kTf (.cells ⟨[]⟩ 3)))))))))))))) (kTb (kTl (kTr (kTr (kTr (kTl (kTr (kTr (kTl (kTf fM))))))))) (kTr (kTb (kTr (kTr (kTl (kTr (kTr (kTr (kTr (kTl (kTl (kTf kO1)))))))))) (kTl (kTl (kTl (kTl (kTr (kTl (kTf jJ))))))))))))
 nx':=63333
theorem aLz:rM Tryz.prog aOh:=tE kI (l:=[rV,wO,xM,zU,aJz,aLy]) (bD i5 (bD lC (bD mP (bD nS (bD aDY (bD aHV kH)))))) (k:=200) fun ro=>by kernel_rfl
end V
end Go.Proofs.YtcaccnneblghgaaGreat
namespace Go.Proofs.YtcaccnneblghgaaGreat
namespace V
set_option maxRecDepth 1000000
def aQh:List Value:=[.slice (some ⟨5931,0,(some 1)⟩) 1 1,.slice (some ⟨5835,0,(some 1)⟩) 1 1]
def aQi:Value:=.tuple ⟨[.agg ⟨(aBH [.int .i64 2,.slice (some ⟨62815,0,(some 2)⟩) 0 0,.slice (some ⟨63322,0,(some 4)⟩) 2 2,.slice (some ⟨5931,0,(some 1)⟩) 1 1])⟩,j0]⟩
def aFW:Cp where
 f:=zZ
 args:=aQh
 h:=kTb (kTb (kTb (kTb (kTl (kTb (kTl (kTr (kTl (kTl (kTr (kTl (kTf x3))))))) (kTr (kTl (kTl (kTl (kTr (kTl (kTf x4))))))))) (kTr (kTl (kTr (kTr (kTl (kTl (kTr (kTf kO2))))))))) (kTb (kTl (kTl (kTl (kTr (kTr (kTl (kTl (kTf kO6)))))))) (kTb (kTb (kTr (kTr (kTl (kTr (kTr (kTl (kTf gG))))))) (kTl (kTl (kTr (kTr (kTr (kTl (kTf kO1)))))))) (kTr (kTr (kTl (kTr (kTr (kTf kO0))))))))) (kTb (kTb (kTr (kTr (kTr (kTr (kTr (kTf kO1)))))) (kTb (kTb (kTr (kTr (kTl (kTr (kTr (kTl (kTf gG))))))) (kTl (kTl (kTr (kTr (kTr (kTl (kTf kO1)))))))) (kTl (kTr (kTr (kTl (kTb (kTr (kTf aHk)) (kTr (kTl (kTf kY)))))))))) (kTb (kTb (kTr (kTr (kTr (kTr (kTl (kTl (kTl (kTf vX)))))))) (kTl (kTr (kTr (kTl (kTr (kTr (kTl (kTf kY))))))))) (kTr (kTr (kTr (kTb (kTr (kTl (kTl (kTf kO6)))) (kTl (kTr (kTr (kTl (kTf kO6)))))))))))) (kTb (kTb (kTn .e kO2 (kTr (kTl (kTl (kTr (kTl (kTr (kTf kO1)))))))) (kTl (kTl (kTl (kTl (kTr (kTr (kTl (kTl (kTf kO7)))))))))) (kTb (kTb (kTl (kTb (kTr (kTr (kTr (kTl (kTl (kTl (kTf kO1))))))) (kTr (kTr (kTl (kTr (kTr (kTl (kTf fM))))))))) (kTl (kTr (kTl (kTr (kTl (kTr (kTf kO3)))))))) (kTb (kTl (kTr (kTr (kTr (kTl (kTr (kTr (kTl (kTf fM))))))))) (kTr (kTr (kTl (kTl (kTl (kTl (kTr (kTl (kTf jJ))))))))))))
 nx:=5945
 v:=aQi
 h':=kTb (kTb (kTb (kTb (kTl (kTb (kTb (kTr (kTl (kTl (kTr (kTl (kTf x3)))))) (kTr (kTr (kTl (kTr (kTl (kTr (kTr (kTr (kTf (.cells ⟨[]⟩ 5))))))))))) (kTr (kTl (kTb (kTl (kTr (kTl (kTf x4)))) (kTl (kTr (kTl (kTr (kTr (kTr (kTf uZ)))))))))))) (kTb (kTb (kTr (kTr (kTr (kTl (kTr (kTl (kTr (kTr (kTr (kTf aBh)))))))))) (kTr (kTr (kTr (kTl (kTr (kTl (kTr (kTr (kTr (kTf (.cells ⟨[]⟩ 3)))))))))))) (kTl (kTr (kTr (kTb (kTl (kTr (kTf kO2))) (kTl (kTr (kTl (kTr (kTr (kTr (kTf aBi))))))))))))) (kTb (kTl (kTb (kTl (kTr (kTr (kTl (kTl (kTf kO6)))))) (kTr (kTr (kTr (kTl (kTr (kTl (kTr (kTr (kTr (kTf (.cells ⟨[]⟩ 3))))))))))))) (kTb (kTb (kTr (kTr (kTl (kTr (kTr (kTl (kTf gG))))))) (kTl (kTl (kTr (kTr (kTr (kTl (kTf kO1)))))))) (kTr (kTr (kTl (kTr (kTr (kTf kO0))))))))) (kTb (kTb (kTr (kTr (kTr (kTr (kTr (kTf kO1)))))) (kTb (kTb (kTb (kTr (kTl (kTr (kTr (kTl (kTr (kTr (kTr (kTf kO1))))))))) (kTr (kTl (kTr (kTr (kTl (kTf gG))))))) (kTl (kTl (kTr (kTr (kTr (kTl (kTf kO1)))))))) (kTl (kTr (kTr (kTl (kTb (kTr (kTf aHk)) (kTr (kTl (kTf kY)))))))))) (kTb (kTb (kTr (kTr (kTr (kTr (kTl (kTl (kTl (kTf vX)))))))) (kTb (kTr (kTr (kTl (kTr (kTr (kTl (kTf kY))))))) (kTr (kTr (kTr (kTl (kTr (kTl (kTr (kTr (kTr (kTf fM)))))))))))) (kTr (kTr (kTr (kTb (kTr (kTl (kTl (kTf kO6)))) (kTl (kTr (kTr (kTl (kTf kO6)))))))))))) (kTb (kTb (kTn .e kO2 (kTb (kTl (kTl (kTr (kTl (kTr (kTr (kTl (kTr (kTr (kTr (kTf kO1))))))))))) (kTl (kTl (kTr (kTl (kTr (kTf kO1)))))))) (kTl (kTl (kTl (kTl (kTr (kTr (kTl (kTl (kTf kO7)))))))))) (kTb (kTb (kTb (kTb (kTr (kTr (kTr (kTl (kTl (kTl (kTf kO1))))))) (kTr (kTr (kTl (kTr (kTr (kTl (kTf fM)))))))) (kTl (kTr (kTl (kTl (kTr (kTr (kTl (kTr (kTr (kTr (kTf (.cells ⟨[]⟩ 5))))))))))))) (kTb (kTr (kTb (kTr (kTl (kTr (kTf kO3)))) (kTl (kTl (kTr (kTr (kTl (kTr (kTr (kTr (kTf aBj))))))))))) (kTb (kTr (kTl (kTb (kTr (kTr (kTl (kTr (kTr (kTr (kTf aBk))))))) (kTr (kTr (kTl (kTr (kTr (kTr (kTf aBl)))))))))) (kTr (kTl (kTl (kTr (kTr (kTl (kTr (kTr (kTr (kTf (.cells ⟨[]⟩ 3)))))))))))))) (kTb (kTl (kTr (kTr (kTr (kTl (kTr (kTr (kTl (kTf fM))))))))) (kTr (kTr (kTl (kTl (kTl (kTl (kTr (kTl (kTf jJ))))))))))))
 nx':=63345
theorem xN:rM Tryz.prog aFW:=tE kI (l:=[rV,wO,xM,zU,aJz,aLy,aOh]) (bD i5 (bD lC (bD mP (bD nS (bD aDY (bD aHV (bD aLz kH))))))) (k:=200) fun ro=>by kernel_rfl
end V
end Go.Proofs.YtcaccnneblghgaaGreat
namespace Go.Proofs.YtcaccnneblghgaaGreat
namespace V
set_option maxRecDepth 1000000
def aHl:Obj:=.cells ⟨[.slice (some ⟨3287,0,(some 1)⟩) 1 1,.slice (some ⟨5849,0,(some 1)⟩) 1 1,.slice (some ⟨5862,0,(some 1)⟩) 1 1,.slice (some ⟨63358,0,(some 260)⟩) 1 1]⟩ 34
def qX:Obj:=.cells ⟨(aBH [.int .i64 2,.slice (some ⟨62815,0,(some 2)⟩) 0 0,.slice (some ⟨63322,0,(some 4)⟩) 2 2,.slice (some ⟨5931,0,(some 1)⟩) 1 1])⟩ 65
def aMY:Obj:=.cells ⟨[.int .u64 0,.int .u64 8589934592,.int .u64 0,.int .u64 0,.int .i64 1,.int .i64 1,j0,.bool true,.slice (some ⟨64976,0,(some 1)⟩) 1 1,.int .u64 0,.int .u64 8589934592,.int .u64 0,.int .u64 0,.int .i64 1,.int .i64 1,j0,.bool true,.slice (some ⟨64704,0,(some 1)⟩) 1 1]⟩ 192
def aQj:Value:=.tuple ⟨[.agg ⟨[.slice (some ⟨65202,0,(some 1)⟩) 1 1,.slice (some ⟨64388,0,(some 9)⟩) 2 2]⟩,j0]⟩
def aKA:Cp where
 f:=aDh
 args:=[.slice (some ⟨63448,0,(some 1)⟩) 1 1]
 h:=kTb (kTb (kTb (kTb (kTl (kTb (kTb (kTr (kTl (kTl (kTr (kTl (kTf x3)))))) (kTr (kTr (kTl (kTr (kTl (kTr (kTr (kTr (kTf (.cells ⟨[]⟩ 5))))))))))) (kTr (kTl (kTb (kTl (kTr (kTl (kTf x4)))) (kTl (kTr (kTl (kTr (kTr (kTr (kTf uZ)))))))))))) (kTb (kTb (kTr (kTr (kTr (kTl (kTr (kTl (kTr (kTr (kTr (kTf aBh)))))))))) (kTr (kTr (kTr (kTl (kTr (kTl (kTr (kTr (kTr (kTf (.cells ⟨[]⟩ 3)))))))))))) (kTl (kTr (kTr (kTb (kTl (kTr (kTf kO2))) (kTl (kTr (kTl (kTr (kTr (kTr (kTf aBi))))))))))))) (kTb (kTl (kTb (kTl (kTr (kTr (kTl (kTl (kTf kO6)))))) (kTr (kTr (kTr (kTl (kTr (kTl (kTr (kTr (kTr (kTf (.cells ⟨[]⟩ 3))))))))))))) (kTb (kTb (kTr (kTr (kTl (kTr (kTr (kTl (kTf gG))))))) (kTl (kTl (kTr (kTr (kTr (kTl (kTf kO1)))))))) (kTr (kTr (kTl (kTr (kTr (kTf kO0))))))))) (kTb (kTb (kTr (kTb (kTl (kTr (kTr (kTr (kTr (kTl (kTr (kTr (kTr (kTf kO6)))))))))) (kTr (kTr (kTr (kTf kO1)))))) (kTb (kTb (kTb (kTr (kTl (kTr (kTr (kTl (kTr (kTr (kTr (kTf kO1))))))))) (kTr (kTl (kTr (kTr (kTl (kTf gG))))))) (kTl (kTl (kTr (kTr (kTr (kTl (kTf kO1)))))))) (kTl (kTr (kTr (kTl (kTb (kTr (kTf aHl)) (kTr (kTl (kTf kY)))))))))) (kTb (kTb (kTr (kTr (kTr (kTr (kTl (kTl (kTl (kTf vX)))))))) (kTb (kTr (kTr (kTl (kTr (kTr (kTl (kTf kY))))))) (kTr (kTr (kTr (kTl (kTr (kTl (kTr (kTr (kTr (kTf fM)))))))))))) (kTr (kTr (kTr (kTb (kTr (kTl (kTl (kTf kO6)))) (kTl (kTr (kTr (kTl (kTf kO6)))))))))))) (kTb (kTb (kTn .e kO2 (kTb (kTl (kTl (kTr (kTl (kTr (kTr (kTl (kTr (kTr (kTr (kTf kO1))))))))))) (kTb (kTb (kTr (kTl (kTr (kTf kO1)))) (kTr (kTr (kTr (kTr (kTl (kTr (kTr (kTr (kTf gG)))))))))) (kTl (kTr (kTr (kTr (kTr (kTl (kTr (kTr (kTr (kTf kO1))))))))))))) (kTb (kTb (kTl (kTl (kTr (kTr (kTl (kTl (kTf kO7))))))) (kTr (kTr (kTl (kTr (kTr (kTr (kTl (kTr (kTr (kTr (kTf qX)))))))))))) (kTr (kTr (kTr (kTl (kTr (kTr (kTr (kTl (kTr (kTr (kTr (kTf qX)))))))))))))) (kTb (kTb (kTb (kTb (kTr (kTr (kTr (kTl (kTl (kTl (kTf kO1))))))) (kTr (kTr (kTl (kTr (kTr (kTl (kTf fM)))))))) (kTl (kTr (kTl (kTl (kTr (kTr (kTl (kTr (kTr (kTr (kTf (.cells ⟨[]⟩ 5))))))))))))) (kTb (kTr (kTb (kTr (kTl (kTr (kTf kO3)))) (kTl (kTl (kTr (kTr (kTl (kTr (kTr (kTr (kTf aBj))))))))))) (kTb (kTr (kTl (kTb (kTr (kTr (kTl (kTr (kTr (kTr (kTf aBk))))))) (kTr (kTr (kTl (kTr (kTr (kTr (kTf aBl)))))))))) (kTr (kTl (kTl (kTr (kTr (kTl (kTr (kTr (kTr (kTf (.cells ⟨[]⟩ 3)))))))))))))) (kTb (kTb (kTb (kTr (kTr (kTr (kTr (kTr (kTl (kTr (kTr (kTr (kTf aCm)))))))))) (kTr (kTr (kTl (kTr (kTr (kTl (kTf fM)))))))) (kTb (kTr (kTr (kTr (kTr (kTr (kTl (kTr (kTr (kTr (kTf gG)))))))))) (kTl (kTr (kTr (kTr (kTr (kTl (kTr (kTr (kTr (kTf kO1)))))))))))) (kTr (kTr (kTb (kTl (kTl (kTl (kTr (kTl (kTf jJ)))))) (kTl (kTr (kTr (kTr (kTl (kTr (kTr (kTr (kTf qX)))))))))))))))
 nx:=63459
 v:=aQj
 h':=kTb (kTb (kTb (kTb (kTl (kTb (kTb (kTr (kTl (kTl (kTr (kTl (kTf x3)))))) (kTr (kTr (kTl (kTr (kTl (kTr (kTr (kTr (kTf (.cells ⟨[]⟩ 5))))))))))) (kTr (kTl (kTb (kTl (kTr (kTl (kTf x4)))) (kTl (kTr (kTl (kTr (kTr (kTr (kTf uZ)))))))))))) (kTb (kTb (kTr (kTr (kTr (kTl (kTr (kTl (kTr (kTr (kTr (kTf aBh)))))))))) (kTr (kTr (kTr (kTl (kTr (kTl (kTr (kTr (kTr (kTf (.cells ⟨[]⟩ 3)))))))))))) (kTl (kTr (kTr (kTb (kTl (kTr (kTf kO2))) (kTl (kTr (kTl (kTr (kTr (kTr (kTf aBi))))))))))))) (kTb (kTl (kTb (kTl (kTr (kTr (kTl (kTl (kTf kO6)))))) (kTr (kTr (kTr (kTl (kTr (kTl (kTr (kTr (kTr (kTf (.cells ⟨[]⟩ 3))))))))))))) (kTb (kTb (kTr (kTr (kTl (kTr (kTr (kTl (kTf gG))))))) (kTl (kTl (kTr (kTr (kTr (kTl (kTf kO1)))))))) (kTr (kTr (kTl (kTr (kTr (kTf kO0))))))))) (kTb (kTb (kTr (kTb (kTl (kTr (kTr (kTr (kTr (kTl (kTr (kTr (kTr (kTf kO6)))))))))) (kTr (kTr (kTr (kTf kO1)))))) (kTb (kTb (kTb (kTr (kTl (kTr (kTr (kTl (kTr (kTr (kTr (kTf kO1))))))))) (kTr (kTl (kTr (kTr (kTl (kTf gG))))))) (kTl (kTl (kTr (kTr (kTr (kTl (kTf kO1)))))))) (kTl (kTr (kTr (kTl (kTb (kTr (kTf aHl)) (kTr (kTl (kTf kY)))))))))) (kTb (kTb (kTr (kTr (kTr (kTr (kTl (kTl (kTl (kTf vX)))))))) (kTb (kTr (kTr (kTl (kTr (kTr (kTl (kTf kY))))))) (kTr (kTr (kTr (kTl (kTr (kTl (kTr (kTr (kTr (kTf fM)))))))))))) (kTr (kTr (kTr (kTb (kTr (kTl (kTl (kTf kO6)))) (kTl (kTr (kTr (kTl (kTf kO6)))))))))))) (kTb (kTb (kTn (kTb (kTl (kTr (kTr (kTl (kTl (kTr (kTr (kTr (kTr (kTr (kTf jJ))))))))))) (kTl (kTr (kTr (kTr (kTl (kTr (kTr (kTr (kTr (kTr (kTf jJ)))))))))))) kO2 (kTb (kTl (kTl (kTr (kTl (kTr (kTr (kTl (kTr (kTr (kTr (kTf kO1))))))))))) (kTb (kTb (kTr (kTl (kTr (kTf kO1)))) (kTr (kTr (kTr (kTr (kTl (kTr (kTr (kTr (kTf gG)))))))))) (kTl (kTr (kTr (kTr (kTr (kTl (kTr (kTr (kTr (kTf kO1))))))))))))) (kTb (kTb (kTl (kTl (kTr (kTr (kTb (kTl (kTf kO7)) (kTl (kTr (kTr (kTr (kTr (kTf aMY))))))))))) (kTr (kTr (kTl (kTr (kTr (kTr (kTl (kTr (kTr (kTr (kTf qX)))))))))))) (kTr (kTr (kTr (kTl (kTr (kTr (kTr (kTl (kTr (kTr (kTr (kTf qX)))))))))))))) (kTb (kTb (kTb (kTb (kTr (kTr (kTr (kTl (kTl (kTl (kTf kO1))))))) (kTr (kTr (kTl (kTr (kTr (kTl (kTf fM)))))))) (kTb (kTr (kTl (kTl (kTr (kTr (kTl (kTr (kTr (kTr (kTf (.cells ⟨[]⟩ 5))))))))))) (kTl (kTr (kTl (kTr (kTr (kTr (kTr (kTr (kTr (kTf kO1)))))))))))) (kTb (kTr (kTb (kTr (kTl (kTr (kTf kO3)))) (kTl (kTl (kTr (kTr (kTl (kTr (kTr (kTr (kTf aBj))))))))))) (kTb (kTr (kTl (kTb (kTr (kTr (kTl (kTr (kTr (kTr (kTf aBk))))))) (kTr (kTr (kTl (kTr (kTr (kTr (kTf aBl)))))))))) (kTr (kTl (kTl (kTr (kTr (kTl (kTr (kTr (kTr (kTf (.cells ⟨[]⟩ 3)))))))))))))) (kTb (kTb (kTb (kTr (kTr (kTr (kTr (kTr (kTl (kTr (kTr (kTr (kTf aCm)))))))))) (kTr (kTr (kTl (kTr (kTr (kTl (kTf fM)))))))) (kTb (kTr (kTr (kTr (kTr (kTr (kTl (kTr (kTr (kTr (kTf gG)))))))))) (kTl (kTr (kTr (kTr (kTr (kTl (kTr (kTr (kTr (kTf kO1)))))))))))) (kTr (kTr (kTb (kTl (kTl (kTl (kTr (kTl (kTf jJ)))))) (kTl (kTr (kTr (kTr (kTl (kTr (kTr (kTr (kTf qX)))))))))))))))
 nx':=65289
theorem aDZ:rM Tryz.prog aKA:=tE kI (l:=[rV,wO,xM,zU,aFW]) (bD i5 (bD lC (bD mP (bD nS (bD xN kH))))) (k:=200) fun ro=>by kernel_rfl
end V
end Go.Proofs.YtcaccnneblghgaaGreat
namespace Go.Proofs.YtcaccnneblghgaaGreat
namespace V
set_option maxRecDepth 1000000
def aNo:Obj:=.cells ⟨[.slice (some ⟨65202,0,(some 1)⟩) 1 1,.slice (some ⟨64388,0,(some 9)⟩) 2 2]⟩ 136
def aPJ:Obj:=.cells ⟨[.slice (some ⟨99231,0,(some 2)⟩) 2 2]⟩ 200
def aPK:Obj:=.cells ⟨[s0,s0,.slice (some ⟨97869,0,(some 1)⟩) 1 1,.slice (some ⟨98394,0,(some 1)⟩) 1 1,.slice (some ⟨98155,0,(some 1)⟩) 1 1,s0,.slice (some ⟨98556,0,(some 1)⟩) 1 1,.slice (some ⟨99253,0,(some 1)⟩) 1 1,.slice (some ⟨99078,0,(some 1)⟩) 1 1,s0,.slice (some ⟨99415,0,(some 1)⟩) 1 1,.slice (some ⟨100098,0,(some 1)⟩) 1 1]⟩ 160
def aPL:Obj:=.cells ⟨[.slice (some ⟨100076,0,(some 2)⟩) 2 2]⟩ 200
def aPM:Obj:=.cells ⟨[.slice (some ⟨98372,0,(some 2)⟩) 2 2]⟩ 200
def aQk:List Value:=[.agg ⟨[.slice (some ⟨65202,0,(some 1)⟩) 1 1,.slice (some ⟨64388,0,(some 9)⟩) 2 2]⟩]
def aQl:Value:=.tuple ⟨[.agg ⟨(aBH [.int .i64 2,s0,.slice (some ⟨99213,0,(some 4)⟩) 3 3])⟩,j0]⟩
def aMA:Cp where
 f:=aDi
 args:=aQk
 h:=kTb (kTb (kTb (kTb (kTl (kTb (kTb (kTr (kTl (kTl (kTr (kTl (kTf x3)))))) (kTr (kTr (kTl (kTr (kTl (kTr (kTr (kTr (kTf (.cells ⟨[]⟩ 5))))))))))) (kTr (kTl (kTb (kTl (kTr (kTl (kTf x4)))) (kTl (kTr (kTl (kTr (kTr (kTr (kTf uZ)))))))))))) (kTb (kTb (kTr (kTr (kTr (kTl (kTr (kTl (kTr (kTr (kTr (kTf aBh)))))))))) (kTr (kTr (kTr (kTl (kTr (kTl (kTr (kTr (kTr (kTf (.cells ⟨[]⟩ 3)))))))))))) (kTl (kTr (kTr (kTb (kTl (kTr (kTf kO2))) (kTl (kTr (kTl (kTr (kTr (kTr (kTf aBi))))))))))))) (kTb (kTl (kTb (kTl (kTr (kTr (kTl (kTl (kTf kO6)))))) (kTr (kTr (kTr (kTl (kTr (kTl (kTr (kTr (kTr (kTf (.cells ⟨[]⟩ 3))))))))))))) (kTb (kTb (kTr (kTr (kTl (kTr (kTr (kTl (kTf gG))))))) (kTl (kTl (kTr (kTr (kTr (kTl (kTf kO1)))))))) (kTr (kTr (kTl (kTr (kTr (kTf kO0))))))))) (kTb (kTb (kTr (kTb (kTl (kTr (kTr (kTr (kTr (kTl (kTr (kTr (kTr (kTf kO6)))))))))) (kTr (kTr (kTr (kTf kO1)))))) (kTb (kTb (kTb (kTr (kTl (kTr (kTr (kTl (kTr (kTr (kTr (kTf kO1))))))))) (kTr (kTl (kTr (kTr (kTl (kTf gG))))))) (kTl (kTl (kTr (kTr (kTr (kTl (kTf kO1)))))))) (kTl (kTr (kTr (kTl (kTb (kTr (kTf aHl)) (kTr (kTl (kTf kY)))))))))) (kTb (kTb (kTr (kTr (kTr (kTr (kTl (kTl (kTl (kTf vX)))))))) (kTb (kTr (kTr (kTl (kTr (kTr (kTl (kTf kY))))))) (kTr (kTr (kTr (kTl (kTr (kTl (kTr (kTr (kTr (kTf fM)))))))))))) (kTr (kTr (kTr (kTb (kTr (kTl (kTl (kTf kO6)))) (kTl (kTr (kTr (kTl (kTf kO6)))))))))))) (kTb (kTb (kTn (kTb (kTl (kTr (kTr (kTl (kTl (kTr (kTr (kTr (kTr (kTr (kTf jJ))))))))))) (kTl (kTr (kTr (kTr (kTl (kTr (kTr (kTr (kTr (kTr (kTf jJ)))))))))))) kO2 (kTb (kTl (kTl (kTr (kTl (kTr (kTr (kTl (kTr (kTr (kTr (kTf kO1))))))))))) (kTb (kTb (kTr (kTl (kTr (kTf kO1)))) (kTr (kTr (kTr (kTr (kTl (kTr (kTr (kTr (kTf gG)))))))))) (kTl (kTr (kTr (kTr (kTr (kTl (kTr (kTr (kTr (kTf kO1))))))))))))) (kTb (kTb (kTl (kTl (kTr (kTr (kTb (kTl (kTf kO7)) (kTl (kTr (kTr (kTr (kTr (kTf aMY))))))))))) (kTr (kTr (kTl (kTr (kTr (kTr (kTl (kTr (kTr (kTr (kTf qX)))))))))))) (kTb (kTl (kTl (kTl (kTr (kTr (kTr (kTr (kTr (kTr (kTr (kTf aNo))))))))))) (kTr (kTr (kTl (kTr (kTr (kTr (kTl (kTr (kTr (kTr (kTf qX)))))))))))))) (kTb (kTb (kTb (kTb (kTr (kTr (kTr (kTl (kTl (kTl (kTf kO1))))))) (kTr (kTr (kTl (kTr (kTr (kTl (kTf fM)))))))) (kTb (kTr (kTl (kTl (kTr (kTr (kTl (kTr (kTr (kTr (kTf (.cells ⟨[]⟩ 5))))))))))) (kTl (kTr (kTl (kTr (kTr (kTr (kTr (kTr (kTr (kTf kO1)))))))))))) (kTb (kTr (kTb (kTr (kTl (kTr (kTf kO3)))) (kTl (kTl (kTr (kTr (kTl (kTr (kTr (kTr (kTf aBj))))))))))) (kTb (kTr (kTl (kTb (kTr (kTr (kTl (kTr (kTr (kTr (kTf aBk))))))) (kTr (kTr (kTl (kTr (kTr (kTr (kTf aBl)))))))))) (kTr (kTl (kTl (kTr (kTr (kTl (kTr (kTr (kTr (kTf (.cells ⟨[]⟩ 3)))))))))))))) (kTb (kTb (kTb (kTr (kTr (kTr (kTr (kTr (kTl (kTr (kTr (kTr (kTf aCm)))))))))) (kTr (kTr (kTl (kTr (kTr (kTl (kTf fM)))))))) (kTb (kTr (kTr (kTr (kTr (kTr (kTl (kTr (kTr (kTr (kTf gG)))))))))) (kTl (kTr (kTr (kTr (kTr (kTl (kTr (kTr (kTr (kTf kO1)))))))))))) (kTr (kTr (kTb (kTl (kTl (kTl (kTr (kTl (kTf jJ)))))) (kTl (kTr (kTr (kTr (kTl (kTr (kTr (kTr (kTf qX)))))))))))))))
 nx:=65299
 v:=aQl
 h':=kTb (kTb (kTb (kTb (kTl (kTb (kTb (kTr (kTl (kTl (kTr (kTl (kTf x3)))))) (kTr (kTr (kTl (kTr (kTl (kTr (kTr (kTr (kTf (.cells ⟨[]⟩ 5))))))))))) (kTb (kTr (kTr (kTr (kTl (kTl (kTl (kTl (kTl (kTr (kTf aCn)))))))))) (kTl (kTb (kTl (kTr (kTl (kTf x4)))) (kTl (kTr (kTl (kTr (kTr (kTr (kTf uZ)))))))))))) (kTb (kTb (kTr (kTr (kTr (kTl (kTr (kTl (kTr (kTr (kTr (kTf aBh)))))))))) (kTr (kTr (kTr (kTl (kTr (kTl (kTr (kTr (kTr (kTf (.cells ⟨[]⟩ 3)))))))))))) (kTl (kTr (kTb (kTl (kTl (kTr (kTl (kTl (kTl (kTl (kTr (kTf kO1))))))))) (kTb (kTl (kTr (kTf kO2))) (kTl (kTr (kTl (kTr (kTr (kTr (kTf aBi))))))))))))) (kTb (kTl (kTb (kTl (kTr (kTr (kTl (kTl (kTf kO6)))))) (kTr (kTr (kTr (kTl (kTr (kTl (kTr (kTr (kTr (kTf (.cells ⟨[]⟩ 3))))))))))))) (kTb (kTb (kTr (kTr (kTl (kTr (kTr (kTl (kTf gG))))))) (kTb (kTl (kTr (kTr (kTr (kTl (kTf kO1)))))) (kTl (kTr (kTr (kTr (kTr (kTr (kTr (kTr (kTl (kTf kO1)))))))))))) (kTr (kTr (kTl (kTr (kTr (kTf kO0))))))))) (kTb (kTb (kTr (kTb (kTl (kTr (kTr (kTr (kTr (kTl (kTr (kTr (kTr (kTf kO6)))))))))) (kTr (kTr (kTr (kTf kO1)))))) (kTb (kTb (kTb (kTr (kTl (kTr (kTr (kTl (kTr (kTr (kTr (kTf kO1))))))))) (kTr (kTl (kTr (kTr (kTl (kTf gG))))))) (kTl (kTl (kTr (kTr (kTr (kTl (kTf kO1)))))))) (kTl (kTr (kTr (kTl (kTb (kTr (kTf aHl)) (kTr (kTl (kTf kY)))))))))) (kTb (kTb (kTr (kTr (kTr (kTr (kTl (kTl (kTl (kTf vX)))))))) (kTb (kTr (kTr (kTl (kTr (kTr (kTl (kTf kY))))))) (kTb (kTr (kTr (kTr (kTl (kTl (kTl (kTl (kTl (kTr (kTf aPJ)))))))))) (kTr (kTr (kTl (kTr (kTl (kTr (kTr (kTr (kTf fM)))))))))))) (kTb (kTl (kTb (kTr (kTr (kTr (kTl (kTl (kTl (kTl (kTl (kTr (kTf aPK)))))))))) (kTl (kTl (kTr (kTr (kTr (kTr (kTr (kTr (kTl (kTf fM)))))))))))) (kTr (kTr (kTb (kTr (kTl (kTl (kTf kO6)))) (kTl (kTr (kTr (kTl (kTf kO6)))))))))))) (kTb (kTb (kTn (kTb (kTl (kTr (kTr (kTl (kTl (kTr (kTr (kTr (kTr (kTr (kTf jJ))))))))))) (kTl (kTr (kTr (kTr (kTl (kTr (kTr (kTr (kTr (kTr (kTf jJ)))))))))))) kO2 (kTb (kTl (kTl (kTr (kTl (kTr (kTr (kTl (kTr (kTr (kTr (kTf kO1))))))))))) (kTb (kTb (kTr (kTl (kTr (kTf kO1)))) (kTr (kTr (kTr (kTr (kTl (kTr (kTr (kTr (kTf gG)))))))))) (kTl (kTr (kTr (kTr (kTr (kTl (kTr (kTr (kTr (kTf kO1))))))))))))) (kTb (kTb (kTl (kTb (kTr (kTr (kTb (kTl (kTf kO7)) (kTl (kTr (kTr (kTr (kTr (kTf aMY))))))))) (kTl (kTl (kTl (kTl (kTl (kTl (kTl (kTl (kTr (kTf aKy)))))))))))) (kTr (kTr (kTl (kTr (kTr (kTr (kTl (kTr (kTr (kTr (kTf qX)))))))))))) (kTb (kTb (kTl (kTl (kTr (kTr (kTr (kTr (kTr (kTr (kTr (kTf aNo)))))))))) (kTr (kTr (kTl (kTr (kTr (kTl (kTl (kTl (kTl (kTr (kTf aCn)))))))))))) (kTr (kTr (kTb (kTr (kTr (kTr (kTl (kTr (kTr (kTr (kTf qX)))))))) (kTl (kTl (kTl (kTl (kTl (kTl (kTl (kTr (kTf kO1))))))))))))))) (kTb (kTb (kTb (kTb (kTb (kTl (kTr (kTr (kTr (kTl (kTl (kTl (kTl (kTr (kTf aPL)))))))))) (kTr (kTr (kTl (kTl (kTl (kTf kO1))))))) (kTr (kTr (kTl (kTr (kTr (kTl (kTf fM)))))))) (kTb (kTr (kTl (kTl (kTr (kTr (kTl (kTr (kTr (kTr (kTf (.cells ⟨[]⟩ 5))))))))))) (kTl (kTr (kTl (kTr (kTr (kTr (kTr (kTr (kTr (kTf kO1)))))))))))) (kTb (kTr (kTb (kTr (kTl (kTr (kTf kO3)))) (kTl (kTl (kTr (kTr (kTl (kTr (kTr (kTr (kTf aBj))))))))))) (kTb (kTr (kTl (kTb (kTb (kTl (kTl (kTl (kTl (kTl (kTr (kTf aPM))))))) (kTr (kTl (kTr (kTr (kTr (kTf aBk))))))) (kTr (kTr (kTl (kTr (kTr (kTr (kTf aBl)))))))))) (kTr (kTl (kTl (kTr (kTr (kTl (kTr (kTr (kTr (kTf (.cells ⟨[]⟩ 3)))))))))))))) (kTb (kTb (kTb (kTb (kTl (kTr (kTr (kTl (kTl (kTl (kTl (kTl (kTr (kTf jJ)))))))))) (kTr (kTr (kTr (kTr (kTl (kTr (kTr (kTr (kTf aCm)))))))))) (kTr (kTr (kTl (kTr (kTr (kTl (kTf fM)))))))) (kTb (kTr (kTr (kTr (kTr (kTr (kTl (kTr (kTr (kTr (kTf gG)))))))))) (kTl (kTr (kTr (kTr (kTr (kTl (kTr (kTr (kTr (kTf kO1)))))))))))) (kTr (kTr (kTb (kTl (kTl (kTl (kTr (kTl (kTf jJ)))))) (kTl (kTr (kTr (kTr (kTl (kTr (kTr (kTr (kTf qX)))))))))))))))
 nx':=100143
theorem aHW:rM Tryz.prog aMA:=tE kI (l:=[rV,wO,xM,zU,aFW,aKA]) (bD i5 (bD lC (bD mP (bD nS (bD xN (bD aDZ kH)))))) (k:=200) fun ro=>by kernel_rfl
end V
end Go.Proofs.YtcaccnneblghgaaGreat