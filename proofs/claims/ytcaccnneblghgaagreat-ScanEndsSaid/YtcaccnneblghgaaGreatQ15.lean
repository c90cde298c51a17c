/- Texts laid one behind the other: SA, SB, XC, XD, XE, XG, XH, SC, SE, GA, SN, SO, XI, XM, XU, SP, TO, XW, XX, XY, XZ, GS.
   No condition. -/
import Derived.KernelRfl
import Derived.Test.YtcaccnneblghgaaGreatQ14
set_option linter.unusedVariables false
set_option linter.unusedSimpArgs false
namespace Go.Proofs.YtcaccnneblghgaaGreat
namespace V
structure EntD where
 a:AutoD
 rules:List Int
structure TabD where
 conds:List ByteArray
 kinds:List ByteArray
 to:List Int
 entries:List EntD
structure TokD where
 rule:Int
 from_:Nat
 to:Nat
deriving DecidableEq
structure ScD where
 ms:List MacD
 kept:List Nat
 at_:Nat
 line:Bool
 cond:Nat
 took:Nat
 held:Nat
 rule:Int
 closed:Bool
 steps:Nat
structure TryD where
 took:Nat
 held:Nat
 rule:Int
 steps:Nat
 m:MacD
def noE:EntD:=⟨⟨[],0,[],[]⟩,[]⟩
def aP1:MacD:=⟨0,[],0⟩
def qO (s:ScD):Nat:=2*s.cond+(if s.line then 1 else 0)
def rW (T:TabD) (s:ScD):EntD:=T.entries.getD (qO s) noE
def tk0 (d:AutoD) (t:TryD) (b:Nat):TryD:=⟨t.took+1,t.held,t.rule,t.steps+1,lU d t.m b⟩
def tk1 (d:AutoD) (t:TryD) (b:Nat):TryD:=if qL d (lU d t.m b)=-1 then tk0 d t b else ⟨t.took+1,t.took+1,qL d (lU d t.m b),t.steps+1,lU d t.m b⟩
def aAd (d:AutoD):List Nat→TryD→Bool × TryD
 | [],t=>(false,t)
 | b::r,t=>if onM d t.m b=true then aAd d r (tk1 d t b) else (true,tk0 d t b)
theorem aBp (d:AutoD) (b:Nat) (r:List Nat) (t:TryD):aAd d (b::r) t=if onM d t.m b=true then aAd d r (tk1 d t b) else (true,tk0 d t b):=rfl
def u0 (s:ScD):TryD:=⟨s.took,s.held,s.rule,s.steps,if s.took=0 then aE0 (s.ms.getD (qO s) aP1) else s.ms.getD (qO s) aP1⟩
def cQ (s:ScD) (t:TryD):ScD:={ s with ms:=s.ms.set (qO s) t.m,took:=t.took,held:=t.held,rule:=t.rule,steps:=t.steps }
def rV (T:TabD) (s:ScD):Bool × TryD:=aAd (rW T s).a (s.kept.drop s.took) (u0 s)
def fD (T:TabD) (s:ScD):Bool × ScD:=((rV T s).1 || s.closed,cQ s (rV T s).2)
def lS (T:TabD) (s:ScD):Int:=if s.rule=-1 then -1 else (rW T s).rules.getD s.rule.toNat 0
def fF (s:ScD):Nat:=if s.rule=-1 then 1 else s.held
def aDZ (T:TabD) (c:Nat) (r:Int):Nat:=if r≠-1∧0≤T.to.getD r.toNat 0 then (T.to.getD r.toNat 0).toNat else c
def rG (T:TabD) (s:ScD):TokD:=⟨lS T s,s.at_,s.at_+fF s⟩
def oX (T:TabD) (s:ScD):ScD:={ s with kept:=s.kept.drop (fF s),at_:=s.at_+fF s,line:=decide (s.kept.getD (fF s - 1) 0=10),cond:=aDZ T s.cond (lS T s),took:=0,held:=0,rule:=-1 }
def aC9 (T:TabD) (t:TokD):Bool:=decide (t.rule=-1) || decide ((T.kinds.getD t.rule.toNat .empty).size≠0)
def aOG (T:TabD) (t:TokD):List TokD:=if aC9 T t then [t] else []
def tG (T:TabD):Nat→ScD→List TokD × ScD
 | 0,s=>([],s)
 | n+1,s=>if s.kept=[] then ([],s) else if (fD T s).1=true then (aOG T (rG T (fD T s).2)++(tG T n (oX T (fD T s).2)).1,(tG T n (oX T (fD T s).2)).2) else ([],(fD T s).2)
theorem aEn (T:TabD) (n:Nat) (s:ScD):tG T (n+1) s=if s.kept=[] then ([],s) else if (fD T s).1=true then (aOG T (rG T (fD T s).2)++(tG T n (oX T (fD T s).2)).1,(tG T n (oX T (fD T s).2)).2) else ([],(fD T s).2):=rfl
def aOk (s:ScD) (b:List Nat):ScD:={ s with kept:=s.kept++b }
def aJN (T:TabD) (s:ScD):List TokD × ScD:=tG T s.kept.length { s with closed:=true }
def nG (T:TabD):ScD:=⟨T.entries.map fun e=>aDy e.a,[],0,true,0,0,0,-1,false,0⟩
structure ScOk (T:TabD) (s:ScD):Prop where
 lt:qO s < s.ms.length
 len:s.ms.length=T.entries.length
 took:s.took≤s.kept.length
 held:s.held≤s.took
 none:s.rule=-1→s.held=0
 some:s.rule≠-1→1≤s.held
def aOj (T:TabD):Prop:=∀ c:Nat,∀ r:Int,2*c+1 < T.entries.length→2*aDZ T c r+1 < T.entries.length
section
variable {T:TabD}
theorem aIw (d:AutoD) (t:TryD) (b:Nat):(tk1 d t b).took=t.took+1:=by unfold tk1; split<;>rfl
theorem aGG (d:AutoD) (t:TryD) (b:Nat):(tk1 d t b).steps=t.steps+1:=by unfold tk1; split<;>rfl
structure TryOk (t:TryD):Prop where
 held:t.held≤t.took
 none:t.rule=-1→t.held=0
 some:t.rule≠-1→1≤t.held
theorem aNT {d:AutoD} {t:TryD} (b:Nat) (h:TryOk t):TryOk (tk0 d t b):=⟨Nat.le_succ_of_le h.held,h.none,h.some⟩
theorem aPl {d:AutoD} {t:TryD} (b:Nat) (h:TryOk t):TryOk (tk1 d t b):=by
 unfold tk1
 split
 ·exact aNT b h
 ·rename_i hr
  exact ⟨Nat.le_refl _,fun e=>absurd e hr,fun _=>Nat.succ_le_succ (Nat.zero_le _)⟩
theorem zP (d:AutoD):∀ (l:List Nat) (t:TryD),TryOk t→TryOk (aAd d l t).2∧t.took≤(aAd d l t).2.took∧(aAd d l t).2.took≤t.took+l.length∧((aAd d l t).1=false→(aAd d l t).2.took=t.took+l.length)∧(aAd d l t).2.steps+t.took=t.steps+(aAd d l t).2.took∧(l≠[]→t.took < (aAd d l t).2.took)
 | [],t,h=>⟨h,Nat.le_refl _,Nat.le_refl _,fun _=>rfl,rfl,fun e=>absurd rfl e⟩
 | b::r,t,h=>by
  rw [aBp]
  by_cases hb:onM d t.m b=true
  ·rw [if_pos hb]
   obtain ⟨h1,h2,h3,h4,h5,h6⟩:=zP d r (tk1 d t b) (aPl b h)
   rw [aIw] at h2 h3 h4 h5
   rw [aGG] at h5
   rw [List.length_cons]
   exact ⟨h1,by omega,by omega,fun e=>by rw [h4 e]; omega,by omega,fun _=>by omega⟩
  ·rw [if_neg hb]
   refine ⟨aNT b h,Nat.le_succ _,?_,(fun e=>by cases e),?_,fun _=>Nat.lt_succ_self _⟩
   ·show t.took+1≤t.took+(b::r).length
    rw [List.length_cons]; omega
   ·show t.steps+1+t.took=t.steps+(t.took+1)
    omega
theorem ScOk.tr {s:ScD} (h:ScOk T s):TryOk (u0 s):=⟨h.held,h.none,h.some⟩
theorem aNk {s:ScD} (h:ScOk T s):ScOk T (fD T s).2∧(s.kept≠[]→s.took < s.kept.length→(fD T s).2.took≠0):=by
 obtain ⟨h1,h2,h3,h4,h5,h6⟩:=zP (rW T s).a (s.kept.drop s.took) (u0 s) h.tr
 have ht:=h.took
 rw [List.length_drop] at h3
 have e:(u0 s).took=s.took:=rfl
 rw [e] at h2 h3 h4 h6
 refine ⟨⟨?_,?_,?_,h1.held,h1.none,h1.some⟩,fun hk hlt=>?_⟩
 ·show qO s < (s.ms.set _ _).length
  rw [List.length_set]; exact h.lt
 ·show (s.ms.set _ _).length=_
  rw [List.length_set]; exact h.len
 ·show (rV T s).2.took≤s.kept.length
  unfold rV
  omega
 ·have:s.kept.drop s.took≠[]:=by
   intro e9
   have:=congrArg List.length e9
   rw [List.length_drop,List.length_nil] at this
   omega
  have:=h6 this
  show (rV T s).2.took≠0
  unfold rV
  omega
theorem aGc {s:ScD} (h:ScOk T s) (hk:s.kept≠[]):1≤fF s∧fF s≤s.kept.length:=by
 have hl:0 < s.kept.length:=List.length_pos_iff.2 hk
 unfold fF
 split
 ·omega
 ·rename_i hr
  exact ⟨h.some hr,Nat.le_trans h.held h.took⟩
end
end V
end Go.Proofs.YtcaccnneblghgaaGreat
namespace Go.Proofs.YtcaccnneblghgaaGreat
namespace V
section
variable {T:TabD}
theorem aPC {s:ScD} (hT:aOj T) (he:2*s.cond+1 < T.entries.length) (h:ScOk T s):ScOk T (oX T s)∧2*(oX T s).cond+1 < T.entries.length:=by
 have h2:=hT s.cond (lS T s) he
 refine ⟨⟨?_,h.len,Nat.zero_le _,Nat.le_refl _,fun _=>rfl,fun e=>absurd rfl e⟩,h2⟩
 show 2*aDZ T s.cond (lS T s)+(if decide _=true then 1 else 0) < s.ms.length
 rw [h.len]
 split<;>omega
theorem aKJ {s:ScD}:(oX T s).kept.length=s.kept.length - fF s:=List.length_drop
theorem aNU (n:Nat) {s:ScD} (h:s.kept=[]):tG T n s=([],s):=by
 cases n with
 | zero=>rfl
 | succ n=>rw [aEn,if_pos h]
theorem set_set {s:ScD} (t u:TryD) (b:List Nat):cQ (aOk (cQ s t) b) u=cQ (aOk s b) u:=by
 show (⟨(s.ms.set (qO s) t.m).set (qO s) u.m,_,_,_,_,_,_,_,_,_⟩:ScD)=_
 rw [List.set_set]; rfl
def aQU (s:ScD):Prop:=s.kept=[]∨s.took=s.kept.length
theorem aP0 (hT:2≤T.entries.length):ScOk T (nG T)∧2*(nG T).cond+1 < T.entries.length∧(nG T).closed=false∧aQU (nG T):=by
 have e:(nG T).ms.length=T.entries.length:=List.length_map _
 exact ⟨⟨by rw [e]; show 1 < _; omega,e,Nat.le_refl _,Nat.le_refl _,fun _=>rfl,fun e=>absurd rfl e⟩,by show 1 < _; omega,rfl,.inl rfl⟩
end
end V
end Go.Proofs.YtcaccnneblghgaaGreat
namespace Go.Proofs.YtcaccnneblghgaaGreat
namespace V
attribute [local irreducible] aA ifP aS cM eQ exP cO
def dT (c:List Nat) (n:Int) (cv sv:Value) (cur:Int) (rv:Value) (steps:Nat):List Value:=dQ c n cv sv++[.int .i64 cur,rv,.int .i64 (steps:Int)]
section
variable {c:List Nat} {n cur:Int} {cv sv rv:Value} {steps:Nat}
theorem uS (hc:c.length=256):(dT c n cv sv cur rv steps).length=262:=by simp [dT,cK hc]
theorem aDv {i:Nat} (hc:c.length=256) (hi:i < 259):(dT c n cv sv cur rv steps)[i]?=(dQ c n cv sv)[i]?:=by
 unfold dT
 rw [List.getElem?_append_left (by rw [cK hc]; exact hi)]
theorem aDu (i:Nat) (hc:c.length=256):(dT c n cv sv cur rv steps)[i+259]?=[Value.int .i64 cur,rv,.int .i64 (steps:Int)][i]?:=by
 unfold dT
 rw [List.getElem?_append_right (by rw [cK hc]; omega),cK hc,Nat.add_sub_cancel]
theorem aLK (hc:c.length=256):(dT c n cv sv cur rv steps)[257]?=some cv:=by rw [aDv hc (by omega),kS hc]
theorem aCC (hc:c.length=256):(dT c n cv sv cur rv steps)[258]?=some sv:=by rw [aDv hc (by omega),gY hc]
theorem aCD (hc:c.length=256):(dT c n cv sv cur rv steps)[259]?=some (.int .i64 cur):=aDu 0 hc
theorem uR (hc:c.length=256):(dT c n cv sv cur rv steps)[260]?=some rv:=aDu 1 hc
theorem aLL (hc:c.length=256):(dT c n cv sv cur rv steps)[261]?=some (.int .i64 (steps:Int)):=aDu 2 hc
theorem aNx {b:Nat} (hc:c.length=256) (hb:b < 256):(dT c n cv sv cur rv steps)[b]?=some (.int .u8 (c.getD b 0:Nat)):=by
 rw [aDv hc (by omega)]
 unfold dQ
 rw [List.getElem?_append_left (by rw [dZ hc]; omega),zD (by omega)]
 rw [List.getD_eq_getElem?_getD,List.getElem?_eq_getElem (show b < c.length by omega)]; rfl
theorem aB0 (hc:c.length=256) (k:Int):(dT c n cv sv cur rv steps).set 259 (.int .i64 k)=dT c n cv sv k rv steps:=by
 unfold dT
 rw [List.set_append_right _ _ (by rw [cK hc]; omega),cK hc]; rfl
theorem aGe (hc:c.length=256) (w:Value):(dT c n cv sv cur rv steps).set 260 w=dT c n cv sv cur w steps:=by
 unfold dT
 rw [List.set_append_right _ _ (by rw [cK hc]; omega),cK hc]; rfl
theorem aGf (hc:c.length=256) (k:Nat):(dT c n cv sv cur rv steps).set 261 (.int .i64 (k:Int))=dT c n cv sv cur rv k:=by
 unfold dT
 rw [List.set_append_right _ _ (by rw [cK hc]; omega),cK hc]; rfl
end
theorem Sl.ixArr {ro:Ro} {h:T Obj} {v:Value} {z:Nat} {cs:List (List Value)} (hl:Sl ro h v z cs) {i:Nat} (hi:i < cs.length) (n w:Nat) (k:IntKind) {j:Int} (h0:0≤j) (h1:j < n):V.ixArr n w (iT z v i) (.int k j)=some (oY z v i (j.toNat*w)):=by
 have hn:lO (.int k j)=some j.toNat:=by simp [lO,h0]
 have hb:Nat.blt j.toNat n=true:=by simp [Nat.blt]; omega
 rcases hl with ⟨rfl,rfl⟩ | ⟨a,cap,rfl,h2,h3,h4⟩
 ·simp at hi
 ·simp only [V.ixArr,hn,iT,asP,Option.bind,hb,oY,aKN]
def mG (ps:List (Nat × Nat)):List (List Value):=ps.map fun p=>[ptr p.1]
theorem oZ (ps:List (Nat × Nat)):(mG ps).length=ps.length:=by simp [mG]
abbrev RgP:=T Obj→Nat→Nat→Nat→List Nat→Nat→Prop
structure RgOk (RR:RgP) (tp ta:TypeId):Prop where
 keep:∀ {h h':T Obj} {p a n w:Nat} {L:List Nat},RR h p a n L w→h'.get p=h.get p→h'.get a=h.get a→RR h' p a n L w
 p:∀ {h:T Obj} {p a n w:Nat} {L:List Nat},RR h p a n L w→∃ c,h.get p=some (.cells c tp)
 a:∀ {h:T Obj} {p a n w:Nat} {L:List Nat},RR h p a n L w→∃ c,h.get a=some (.cells c ta)
 ne:tp≠ta
 L:∀ {h:T Obj} {p a n w:Nat} {L:List Nat},RR h p a n L w→L.Pairwise (fun x y=>y < x)∧(∀ x∈L,1≤x∧x≤n)∧1≤n∧n≤4096
theorem jB:RgOk RI bL dW where
 keep:=fun ⟨put,first,now,gp,ga,hr⟩ h1 h2=>⟨put,first,now,by rw [h1]; exact gp,by rw [h2]; exact ga,hr⟩
 p:=fun ⟨put,first,now,gp,ga,hr⟩=>⟨_,gp⟩
 a:=fun ⟨put,first,now,gp,ga,hr⟩=>⟨_,ga⟩
 ne:=by decide
 L:=fun h=>h.in
def WJ:RgP:=fun h p a n L w=>WI h p a n L w∧L.Pairwise (fun x y=>y < x)∧∀ x∈L,1≤x∧x≤n
theorem aDN:RgOk WJ j9 aEp where
 keep:=fun ⟨hw,hr⟩ h1 h2=>⟨⟨by rw [h1]; exact hw.1,by rw [h2]; exact hw.2.1,hw.2.2⟩,hr⟩
 p:=fun ⟨hw,hr⟩=>⟨_,hw.1⟩
 a:=fun ⟨hw,hr⟩=>⟨_,hw.2.1⟩
 ne:=by decide
 L:=fun ⟨hw,hr⟩=>⟨hr.1,hr.2,hw.2.2.2.1,hw.2.2.2.2.1⟩
def RsX (RR:RgP) (h:T Obj) (ps:List (Nat × Nat)) (C:List (Int × Int)) (rs:List RgD):Prop:=ps.length=C.length∧rs.length=C.length∧∀ (i:Nat) p c r,ps[i]?=some p→C[i]?=some c→rs[i]?=some r→RR h p.1 p.2 c.2.toNat r.1 r.2
def Dst (ps:List (Nat × Nat)):Prop:=∀ (i j:Nat) p q,ps[i]?=some p→ps[j]?=some q→i≠j→p.1≠q.1∧p.2≠q.2
section
variable {RR:RgP} {tp ta:TypeId} {h h':T Obj} {ps:List (Nat × Nat)} {C:List (Int × Int)} {rs:List RgD}
theorem RsX.at (hr:RsX RR h ps C rs) {c:Int} (h0:0≤c) (h1:c < C.length):∃ q,ps[c.toNat]?=some q∧RR h q.1 q.2 (oS C c).2.toNat (qZ rs c).1 (qZ rs c).2:=by
 obtain ⟨r1,r2,r3⟩:=hr
 have hi:c.toNat < C.length:=by omega
 have e1:ps[c.toNat]?=some (ps[c.toNat]'(by omega)):=List.getElem?_eq_getElem _
 have e2:C[c.toNat]?=some C[c.toNat]:=List.getElem?_eq_getElem _
 have e3:rs[c.toNat]?=some (rs[c.toNat]'(by omega)):=List.getElem?_eq_getElem _
 refine ⟨_,e1,?_⟩
 have:=r3 _ _ _ _ e1 e2 e3
 unfold oS qZ
 rw [List.getD_eq_getElem?_getD,List.getD_eq_getElem?_getD,e2,e3]
 exact this
theorem RsX.lt (hk:RgOk RR tp ta) (hr:RsX RR h ps C rs) {nx:Nat} (hf:Fr h nx):∀ q∈ps,q.1 < nx∧q.2 < nx:=fun q hq=>by
 obtain ⟨i,hi⟩:=List.getElem?_of_mem hq
 obtain ⟨r1,r2,r3⟩:=hr
 have hl:=(List.getElem?_eq_some_iff.1 hi).1
 have:=r3 i q _ _ hi (List.getElem?_eq_getElem (by omega)) (List.getElem?_eq_getElem (by omega))
 obtain ⟨c1,h1⟩:=hk.p this
 obtain ⟨c2,h2⟩:=hk.a this
 exact ⟨hf.lt' h1,hf.lt' h2⟩
theorem RsX.ty (hk:RgOk RR tp ta) (hr:RsX RR h ps C rs):∀ q∈ps,(∃ c,h.get q.1=some (.cells c tp))∧∃ c,h.get q.2=some (.cells c ta):=fun q hq=>by
 obtain ⟨i,hi⟩:=List.getElem?_of_mem hq
 obtain ⟨r1,r2,r3⟩:=hr
 have hl:=(List.getElem?_eq_some_iff.1 hi).1
 have:=r3 i q _ _ hi (List.getElem?_eq_getElem (by omega)) (List.getElem?_eq_getElem (by omega))
 exact ⟨hk.p this,hk.a this⟩
theorem RsX.keep (hk:RgOk RR tp ta) (hr:RsX RR h ps C rs) (hg:∀ q∈ps,h'.get q.1=h.get q.1∧h'.get q.2=h.get q.2):RsX RR h' ps C rs :=
 ⟨hr.1,hr.2.1,fun i p c r h1 h2 h3=>hk.keep (hr.2.2 i p c r h1 h2 h3) (hg p (List.mem_of_getElem? h1)).1 (hg p (List.mem_of_getElem? h1)).2⟩
theorem RsX.sub (hk:RgOk RR tp ta) (hr:RsX RR h ps C rs) (hs:Sub h h'):RsX RR h' ps C rs:=hr.keep hk fun q hq=>by
 obtain ⟨⟨c1,h1⟩,c2,h2⟩:=hr.ty hk q hq
 rw [h1,h2,hs _ _ h1,hs _ _ h2]; exact ⟨rfl,rfl⟩
theorem RsX.set (hk:RgOk RR tp ta) (hr:RsX RR h ps C rs) (hd:Dst ps) {nx:Nat} (hf:Fr h nx) {i a':Nat} {q:Nat × Nat} {r:RgD} {c:Int × Int} (hq:ps[i]?=some q) (hc:C[i]?=some c) (hn:RR h' q.1 a' c.2.toNat r.1 r.2) (hg:∀ k,k < nx→k≠q.1→k≠q.2→h'.get k=h.get k) :
  RsX RR h' (ps.set i (q.1,a')) C (rs.set i r):=by
 have hlt:=hr.lt hk hf
 have hty:=hr.ty hk
 refine ⟨by rw [List.length_set]; exact hr.1,by rw [List.length_set]; exact hr.2.1,fun j p c2 r2 h1 h2 h3=>?_⟩
 by_cases hij:i=j
 ·subst hij
  have hl:=(List.getElem?_eq_some_iff.1 hq).1
  have hl2:i < rs.length:=by have:=hr.1; have:=hr.2.1; omega
  rw [List.getElem?_set_self hl] at h1
  rw [List.getElem?_set_self hl2] at h3
  rw [hc] at h2
  cases h1; cases h2; cases h3
  exact hn
 ·rw [List.getElem?_set_ne hij] at h1
  rw [List.getElem?_set_ne hij] at h3
  have hd2:=hd i j q p hq h1 hij
  have hm:=List.mem_of_getElem? h1
  have hm2:=List.mem_of_getElem? hq
  obtain ⟨⟨c3,t1⟩,c4,t2⟩:=hty p hm
  obtain ⟨⟨c5,t3⟩,c6,t4⟩:=hty q hm2
  have n1:p.1≠q.2:=fun e=>by rw [e,t4] at t1; simp only [Option.some.injEq,Obj.cells.injEq] at t1; exact hk.ne t1.2.1.symm
  have n2:p.2≠q.1:=fun e=>by rw [e,t3] at t2; simp only [Option.some.injEq,Obj.cells.injEq] at t2; exact hk.ne t2.2.1
  exact hk.keep (hr.2.2 j p c2 r2 h1 h2 h3) (hg _ (hlt p hm).1 (Ne.symm hd2.1) n1) (hg _ (hlt p hm).2 n2 (Ne.symm hd2.2))
theorem Dst.set (hd:Dst ps) {i a':Nat} {q:Nat × Nat} (hq:ps[i]?=some q) (ha:a'=q.2∨∀ p∈ps,p.2 < a'):Dst (ps.set i (q.1,a')):=by
 intro j k p p2 h1 h2 hjk
 have hl:=(List.getElem?_eq_some_iff.1 hq).1
 by_cases hj:i=j
 ·subst hj
  rw [List.getElem?_set_self hl] at h1
  cases h1
  rw [List.getElem?_set_ne hjk] at h2
  have h3:=hd i k q p2 hq h2 hjk
  refine ⟨h3.1,?_⟩
  rcases ha with rfl | ha
  ·exact h3.2
  ·have:=ha p2 (List.mem_of_getElem? h2); show a'≠p2.2; omega
 ·rw [List.getElem?_set_ne hj] at h1
  by_cases hk:i=k
  ·subst hk
   rw [List.getElem?_set_self hl] at h2
   cases h2
   have h3:=hd j i p q h1 hq hjk
   refine ⟨h3.1,?_⟩
   rcases ha with rfl | ha
   ·exact h3.2
   ·have:=ha p (List.mem_of_getElem? h1); show p.2≠a'; omega
  ·rw [List.getElem?_set_ne hk] at h2
   exact hd j k p p2 h1 h2 hjk
theorem aIq {i:Nat} {q:Nat × Nat} (hq:ps[i]?=some q):ps.set i (q.1,q.2)=ps:=by
 apply List.ext_getElem?
 intro j
 by_cases hj:i=j
 ·subst hj
  rw [List.getElem?_set_self (List.getElem?_eq_some_iff.1 hq).1,hq]
 ·rw [List.getElem?_set_ne hj]
theorem aLZ {i a':Nat} {q:Nat × Nat} (hq:ps[i]?=some q):mG (ps.set i (q.1,a'))=mG ps:=by
 unfold mG
 apply List.ext_getElem?
 intro j
 rw [List.getElem?_map,List.getElem?_map]
 by_cases hj:i=j
 ·subst hj
  rw [List.getElem?_set_self (List.getElem?_eq_some_iff.1 hq).1,hq]; rfl
 ·rw [List.getElem?_set_ne hj]
end
def jI (ps:List (Nat × Nat)):List Nat:=ps.flatMap fun q=>[q.1,q.2]
theorem iB {ps:List (Nat × Nat)} {k:Nat}:k∈jI ps ↔ ∃ q∈ps,k=q.1∨k=q.2:=by simp [jI]
def MX (RR:RgP) (ty:TypeId) (ro:Ro) (h:T Obj) (X:List Nat) (p:Nat) (ps:List (Nat × Nat)) (d:AutoD) (m:MacD):Prop:=∃ cv sv rv,h.get p=some (.cells (dT d.c d.many cv sv m.cur rv m.steps).toArray ty)∧qI ro (del h X) (dQ d.c d.many cv sv) d ∧
 Sl ro (del h X) rv 1 (mG ps)∧RsX RR h ps d.counts m.rs∧Dst ps∧p∈X∧∀ k∈jI ps,k∈X
abbrev MI:=MX RI bF
abbrev MW:=MX WJ iK
theorem aMH {h h':T Obj} {X:List Nat} (hs:Sub (del h X) h'):Sub (del h X) (del h' X):=fun k o hk=>by
 have h1:=hk
 rw [jE] at h1
 split at h1
 ·cases h1
 ·rename_i hn; exact kA (hs k o hk) hn
theorem aNi {h h':T Obj} {X X':List Nat} (hs:Sub (del h X) h') (hx:∀ k∈X',k∈X∨h.get k=none):Sub (del h X) (del h' X'):=fun k o hk=>by
 have h1:=hk
 rw [jE] at h1
 split at h1
 ·cases h1
 ·rename_i hn
  refine kA (hs k o hk) fun hm=>?_
  rcases hx k hm with h2 | h2
  ·exact hn h2
  ·rw [h2] at h1; cases h1
section
variable {RR:RgP} {tp ta ty:TypeId} {ro:Ro} {h h':T Obj} {X X':List Nat} {p:Nat} {ps:List (Nat × Nat)} {d:AutoD} {m:MacD}
theorem qI.sub {x:List Value} (hd:qI ro h x d) (hs:Sub h h'):qI ro h' x d:=by
 obtain ⟨cv,sv,h1,h2,h3,h4,h5,h6⟩:=hd
 exact ⟨cv,sv,h1,h2,h3,h4.sub hs fun _ _ h=>h,h5.sub hs (dX.sub hs),h6⟩
theorem MX.keep {ids:List Nat} (hk:RgOk RR tp ta) (hm:MX RR ty ro h X p ps d m) (hs:dU ids h h') (h1:∀ k∈ids,k∈X) (h2:∀ k∈ids,k≠p∧k ∉ jI ps) (h3:∀ k∈X',k∈X∨h.get k=none) (h4:∀ k∈X,k∈X'):MX RR ty ro h' X' p ps d m:=by
 obtain ⟨cv,sv,rv,g1,g2,g3,g4,g5,g6,g7⟩:=hm
 have hD:=hs.del h1 h3
 refine ⟨cv,sv,rv,hs p _ g1 fun hp=>(h2 p hp).1 rfl,g2.sub hD,g3.sub hD,g4.keep hk fun q hq=>?_,g5,h4 p g6,fun k hk=>h4 k (g7 k hk)⟩
 obtain ⟨⟨c1,t1⟩,c2,t2⟩:=g4.ty hk q hq
 rw [t1,t2,hs _ _ t1 fun hm=>(h2 _ hm).2 (iB.2 ⟨q,hq,.inl rfl⟩),hs _ _ t2 fun hm=>(h2 _ hm).2 (iB.2 ⟨q,hq,.inr rfl⟩)]
 exact ⟨rfl,rfl⟩
theorem MX.sub (hk:RgOk RR tp ta) (hm:MX RR ty ro h X p ps d m) (hs:Sub h h') (h3:∀ k∈X',k∈X∨h.get k=none) (h4:∀ k∈X,k∈X'):MX RR ty ro h' X' p ps d m:=hm.keep (ids:=[]) hk hs.keepL (fun k hk=>by cases hk) (fun k hk=>by cases hk) h3 h4
theorem MX.subX (hk:RgOk RR tp ta) (hm:MX RR ty ro h X p ps d m) (hs:Sub h h'):MX RR ty ro h' X p ps d m:=hm.sub hk hs (fun k hk=>.inl hk) fun k hk=>hk
theorem MX.lt (hk:RgOk RR tp ta) (hm:MX RR ty ro h X p ps d m) {nx:Nat} (hf:Fr h nx):p < nx∧∀ k∈jI ps,k < nx:=by
 obtain ⟨cv,sv,rv,g1,g2,g3,g4,g5,g6,g7⟩:=hm
 refine ⟨hf.lt' g1,fun k hk2=>?_⟩
 obtain ⟨q,hq,h1⟩:=iB.1 hk2
 have:=g4.lt hk hf q hq
 omega
end
end V
end Go.Proofs.YtcaccnneblghgaaGreat
namespace Go.Proofs.YtcaccnneblghgaaGreat
namespace V
attribute [local irreducible] aA ifP aS cM eQ exP cO
theorem qI.parts {ro:Ro} {h:T Obj} {d:AutoD} {cv sv:Value} (hd:qI ro h (dQ d.c d.many cv sv) d):d.c.length=256∧(∀ x∈d.c,x < 256)∧SlR ro h cv 2 vB d.counts∧SlR ro h sv 4 (dX ro h) d.states:=by
 obtain ⟨cv',sv',h1,h2,h3,h4,h5,h6⟩:=hd
 unfold dQ at h1
 have:=List.append_cancel_left h1
 simp only [List.cons.injEq,and_true] at this
 obtain ⟨rfl,rfl⟩:=this
 exact ⟨h2,h3,h4,h5⟩
theorem Sl.ixI {ro:Ro} {h:T Obj} {v:Value} {z:Nat} {l:List (List Value)} (hl:Sl ro h v z l) (k:IntKind) {i:Int} (h0:0≤i) (hi:i < l.length):cL z v (.int k i)=some (iT z v i.toNat):=by
 have:=hl.ix k (i:=i.toNat) (by omega)
 rwa [Int.toNat_of_nonneg h0] at this
theorem SlR.sl' {D:Type} {ro:Ro} {h:T Obj} {v:Value} {z:Nat} {R:List Value→D→Prop} {l:List D} (hl:SlR ro h v z R l) {i:Nat} (hi:i < l.length) (n w:Nat) (k:IntKind) {j:Int} (h0:0≤j) (h1:j < n):ixArr n w (iT z v i) (.int k j)=some (oY z v i (j.toNat*w)):=by
 obtain ⟨cs,g1,g2,g3⟩:=hl
 exact g1.ixArr (by omega) n w k h0 h1
theorem aB8 {ps:List (Nat × Nat)} {i:Nat} {q:Nat × Nat} (hq:ps[i]?=some q):(mG ps)[i]?=some [ptr q.1]:=by simp [mG,hq]
theorem aDF {C:List (Int × Int)} {c:Int} (h0:0≤c) (h1:c < C.length):C[c.toNat]'(by omega)=oS C c:=by
 unfold oS
 rw [List.getD_eq_getElem?_getD,List.getElem?_eq_getElem (by omega)]; rfl
section
variable {ro:Ro} {h:T Obj} {nx:Nat} {X:List Nat} {p:Nat} {ps:List (Nat × Nat)} {d:AutoD} {m:MacD} {K:KV}
theorem aBM (hm:MI ro h X p ps d m) (hK:∀ nx',nx≤nx'→K (.int .i64 m.cur) h nx'):aN Tryz.prog ro iW [ptr p] h nx K:=by
 obtain ⟨cv,sv,rv,gp,hA,_⟩:=hm
 have m9:=aCD (n:=d.many) (cv:=cv) (sv:=sv) (cur:=m.cur) (rv:=rv) (steps:=m.steps) hA.parts.1
 apply wT
 unfold mP
 (repeat(first|refine aB (by simp (disch:=first|omega|exact nnN _|assumption) only [BB,B2,↓reduceIte,Nat.reduceLeDiff,Nat.reduceAdd,CC,pQ,bA,gp,m9]<;>rfl) ?_|refine aD ?_|refine aE ?_|with_reducible first|refine aG ?_|refine aF ?_|refine aK ?_|refine aH ?_|refine aJ ?_|refine aI ?_|refine aL ?_|refine aC ?_))
 exact ⟨h,Sub.refl _,hK _ (by omega)⟩
set_option maxRecDepth 8000 in
theorem aG0 {c:Int} (hm:MI ro h X p ps d m) (hc0:0≤c) (hc:c < d.counts.length) (hK:∀ nx',nx≤nx'→K (.int .i64 (aJS d.counts m.rs c:Nat)) h nx'):aN Tryz.prog ro lA [ptr p,.int .i64 c] h nx K:=by
 obtain ⟨cv,sv,rv,gp,hA,hP,hR,hD,hpX,hbX⟩:=hm
 obtain ⟨hcl,hclt,hcv,hsv⟩:=hA.parts
 have hP:=hP.sub (gW h X)
 have hcv:=hcv.sub (gW h X) fun _ _ h=>h
 have m0:=uR (n:=d.many) (cv:=cv) (sv:=sv) (cur:=m.cur) (rv:=rv) (steps:=m.steps) hcl
 have m7:=aLK (n:=d.many) (cv:=cv) (sv:=sv) (cur:=m.cur) (rv:=rv) (steps:=m.steps) hcl
 obtain ⟨q,hq,hri⟩:=hR.at hc0 hc
 have hi:c.toNat < d.counts.length:=by omega
 have hpi:=hP.ixI .i64 hc0 (by rw [oZ,hR.1]; exact hc)
 have hp1:=hP.load1 (aB8 hq)
 have hci:=hcv.ixI .i64 hc0 hc
 obtain ⟨x,hx1,hx2,hx3,hx4,hx5⟩:=hcv.at hi
 rw [aDF hc0 hc] at hx1
 have ha0:V.ixArr 2 1 (iT 2 cv c.toNat) (.int .i64 0)=some (oY 2 cv c.toNat 0):=hcv.sl' hi 2 1 .i64 (j:=0) (by omega) (by omega)
 have ha1:V.ixArr 2 1 (iT 2 cv c.toNat) (.int .i64 1)=some (oY 2 cv c.toNat 1):=hcv.sl' hi 2 1 .i64 (j:=1) (by omega) (by omega)
 obtain rfl:x=[.int .i64 (oS d.counts c).1,.int .i64 (oS d.counts c).2]:=hx1
 have hl0:=hx5 0 _ rfl
 have hl1:=hx5 1 _ rfl
 have hL:=jB.L hri
 apply wV
 unfold mQ
 unfold aJS at hK
 generalize (oS d.counts c)=ct at hri hl0 hl1 hL hK
 generalize (qZ m.rs c)=r at hri hL hK
 (repeat(first|refine aB (by simp (disch:=first|omega|exact nnN _|assumption) only [BB,B2,↓reduceIte,Nat.reduceLeDiff,Nat.reduceAdd,CC,bA,gp,m0,hpi,hp1]<;>rfl) ?_|refine aD ?_|refine aE ?_|with_reducible first|refine aG ?_|refine aF ?_|refine aK ?_|refine aH ?_|refine aJ ?_|refine aI ?_|refine aL ?_|refine aC ?_))
 refine aJk hri fun n1 hn1=>?_
 refine aB (aPT _) (aB (aPU _) ?_)
 (repeat(first|refine aB (by simp (disch:=first|omega|exact nnN _|assumption) only [BB,B2,↓reduceIte,Nat.reduceLeDiff,Nat.reduceAdd,CC,bA,gp,m0,hpi,hp1]<;>rfl) ?_|refine aD ?_|refine aE ?_|with_reducible first|refine aG ?_|refine aF ?_|refine aK ?_|refine aH ?_|refine aJ ?_|refine aI ?_|refine aL ?_|refine aC ?_))
 refine aJj hri fun n2 hn2=>?_
 refine aB (aPH _) (aB (aPI _) ?_)
 have hend:∀ (k:Nat) n,nx≤n→(if r.1.length=0 then 0 else if ((r.1.getD 0 0:Nat):Int) < ct.1 then 0 else if ((r.1.getD (r.1.length - 1) 0:Nat):Int) < ct.2 then 2 else 1)=k→∃ h',Sub h' h∧K (.int .i64 (k:Int)) h' n:=fun k n hn e=>by
  subst e; exact ⟨h,Sub.refl _,hK _ hn⟩
 by_cases h0:r.1.length=0
 ·rw [decide_eq_true h0]
  (repeat(first|refine aB (by simp (disch:=first|omega|exact nnN _|assumption) only [BB,B2,↓reduceIte,Nat.reduceLeDiff,Nat.reduceAdd,CC]<;>rfl) ?_|refine aD ?_|refine aE ?_|with_reducible first|refine aG ?_|refine aF ?_|refine aK ?_|refine aH ?_|refine aJ ?_|refine aI ?_|refine aL ?_|refine aC ?_))
  exact hend 0 _ (by omega) (by rw [if_pos h0])
 ·rw [decide_eq_false h0]
  have e1:aNn r.1=r.1.getD 0 0:=by unfold aNn; rw [if_neg h0]
  have e2:low r.1=r.1.getD (r.1.length - 1) 0:=by unfold low; rw [if_neg h0]
  rw [e1,e2]
  simp only [if_neg h0] at hend
  (repeat(first|refine aB (by simp (disch:=first|omega|exact nnN _|assumption) only [BB,B2,↓reduceIte,Nat.reduceLeDiff,Nat.reduceAdd,CC,bA,gp,m7,hci,ha0,hl0]<;>rfl) ?_|refine aD ?_|refine aE ?_|with_reducible first|refine aG ?_|refine aF ?_|refine aK ?_|refine aH ?_|refine aJ ?_|refine aI ?_|refine aL ?_|refine aC ?_))
  refine dF (fun h1=>?_) (fun h1=>?_)
  ·(repeat(first|refine aB (by simp (disch:=first|omega|exact nnN _|assumption) only [BB,B2,↓reduceIte,Nat.reduceLeDiff,Nat.reduceAdd,CC]<;>rfl) ?_|refine aD ?_|refine aE ?_|with_reducible first|refine aG ?_|refine aF ?_|refine aK ?_|refine aH ?_|refine aJ ?_|refine aI ?_|refine aL ?_|refine aC ?_))
   exact hend 0 _ (by omega) (by rw [if_pos h1])
  ·simp only [if_neg (show ¬ ((r.1.getD 0 0:Nat):Int) < ct.1 by omega)] at hend
   (repeat(first|refine aB (by simp (disch:=first|omega|exact nnN _|assumption) only [BB,B2,↓reduceIte,Nat.reduceLeDiff,Nat.reduceAdd,CC,bA,gp,m7,hci,ha1,hl1]<;>rfl) ?_|refine aD ?_|refine aE ?_|with_reducible first|refine aG ?_|refine aF ?_|refine aK ?_|refine aH ?_|refine aJ ?_|refine aI ?_|refine aL ?_|refine aC ?_))
   refine dF (fun h2=>?_) (fun h2=>?_)
   ·(repeat(first|refine aB (by simp (disch:=first|omega|exact nnN _|assumption) only [BB,B2,↓reduceIte,Nat.reduceLeDiff,Nat.reduceAdd,CC]<;>rfl) ?_|refine aD ?_|refine aE ?_|with_reducible first|refine aG ?_|refine aF ?_|refine aK ?_|refine aH ?_|refine aJ ?_|refine aI ?_|refine aL ?_|refine aC ?_))
    exact hend 2 _ (by omega) (by rw [if_pos h2])
   ·(repeat(first|refine aB (by simp (disch:=first|omega|exact nnN _|assumption) only [BB,B2,↓reduceIte,Nat.reduceLeDiff,Nat.reduceAdd,CC]<;>rfl) ?_|refine aD ?_|refine aE ?_|with_reducible first|refine aG ?_|refine aF ?_|refine aK ?_|refine aH ?_|refine aJ ?_|refine aI ?_|refine aL ?_|refine aC ?_))
    exact hend 1 _ (by omega) (by rw [if_neg (by omega)])
set_option maxRecDepth 8000 in
theorem aC6 {lv rv' uv nv:Value} {R:List Int} (hm:MI ro h X p ps d m) (hf:Fr h nx) (hR3:R.length≤3) (hRl:∀ c∈R,0≤c∧c < d.counts.length) (hr:ZI ro h rv' R) (hK:∀ nx',nx≤nx'→K (.int .i64 (hN d.counts m.rs R:Nat)) h nx'):aN Tryz.prog ro jF [ptr p,.agg #[lv,rv',uv,nv]] h nx K:=by
 apply xS
 unfold nP
 refine dY hf (Nat.le_refl _) fun h1 hs1 hf1 g1 _=>?_
 have g1:h1.get nx=some (.cells #[lv,rv',uv,nv] a8):=g1
 have hr:=hr.sub hs1
 have hrl:=hr.len
 have hm1:=hm.subX jB hs1
 have htot:hN d.counts m.rs R≤26:=by
  have h9:=aC2 (C:=d.counts) (rs:=m.rs) hR3
  have h10:=aBJ (R.length:Int)
  omega
 (repeat(first|refine aB (by simp (disch:=first|omega|exact nnN _|assumption) only [BB,B2,↓reduceIte,Nat.reduceLeDiff,Nat.reduceAdd,CC,g1,hrl]<;>rfl) ?_|refine aD ?_|refine aE ?_|with_reducible first|refine aG ?_|refine aF ?_|refine aK ?_|refine aH ?_|refine aJ ?_|refine aI ?_|refine aL ?_|refine aC ?_))
 generalize hT:hN d.counts m.rs R=tot at hK htot
 refine bC (fun j e h' nx'=>∃ (k n w:Nat),k+j=R.length∧nx≤nx'∧h'=h1∧e 0=ptr p∧e 5=.int .i64 (n:Int)∧e 6=.int .i64 (w:Int)∧e 10=rv'∧e 11=.int .i64 R.length∧e 12=.int .i64 k∧n+w*hN d.counts m.rs (R.drop k)=tot∧(k=0∧w=1∨k=1∧w=3∨k=2∧w=9∨k=3∧w=27)) ?_ (n:=R.length) ⟨0,0,1,by omega,by omega,rfl,rfl,rfl,rfl,rfl,rfl,rfl,by rw [List.drop_zero,hT]; omega,by omega⟩
 rintro j e h' nx' ⟨k,n,w,hj,hnx,rfl,e0,e5,e6,e10,e11,e12,ht,hw⟩ Q' hq hx
 unfold pL
 rw [e0,e5,e6,e10,e11,e12]
 refine dF (fun hk=>?_) (fun hk=>?_)
 ·have hk:k < R.length:=by omega
  rw [bT hk] at ht
  have hcm:=hRl _ (List.getElem_mem hk)
  (repeat(first|refine aB (by simp (disch:=first|omega|exact nnN _|assumption) only [BB,B2,↓reduceIte,Nat.reduceLeDiff,Nat.reduceAdd,CC]<;>rfl) ?_|refine aD ?_|refine aE ?_|with_reducible first|refine aG ?_|refine aF ?_|refine aK ?_|refine aH ?_|refine aJ ?_|refine aI ?_|refine aL ?_|refine aC ?_))
  refine aB (hr.ix _ hk) (aB (hr.load hk) ?_)
  generalize R[k]=c at ht hcm
  refine aG0 hm1 hcm.1 hcm.2 fun n2 hn2=>?_
  change n+w*(aJS d.counts m.rs c+3*hN d.counts m.rs (R.drop (k+1)))=tot at ht
  have hdl:=aKM d.counts m.rs c
  generalize aJS d.counts m.rs c=g at ht hdl
  have hw27:w≤27:=by omega
  have hwg:w*g≤54:=Nat.mul_le_mul hw27 (show g≤2 by omega)
  have hmul:aO .mul (.int .i64 (w:Int)) (.int .i64 (g:Int))=some (.int .i64 ((w*g:Nat):Int)):=by
   rw [dG,← Int.natCast_mul,eP (by omega) (by omega)]
  rw [Nat.mul_add,← Nat.mul_assoc] at ht
  have hadd:aO .add (.int .i64 (n:Int)) (.int .i64 ((w*g:Nat):Int))=some (.int .i64 ((n+w*g:Nat):Int)):=by
   rw [dB,← Int.natCast_add,eP (by omega) (by omega)]
  have hmul3:aO .mul (.int .i64 (w:Int)) (.int .i64 3)=some (.int .i64 ((w*3:Nat):Int)):=by
   rw [dG,eP (by omega) (by omega)]; simp
  refine aB hmul (aB hadd (aB hmul3 ?_))
  (repeat(first|refine aB (by simp (disch:=first|omega|exact nnN _|assumption) only [BB,B2,↓reduceIte,Nat.reduceLeDiff,Nat.reduceAdd,CC]<;>rfl) ?_|refine aD ?_|refine aE ?_|with_reducible first|refine aG ?_|refine aF ?_|refine aK ?_|refine aH ?_|refine aJ ?_|refine aI ?_|refine aL ?_|refine aC ?_))
  exact hq (j - 1) _ _ _ _ (by omega) ⟨k+1,n+w*g,w*3,by omega,by omega,rfl,e0,rfl,rfl,e10,e11,rfl,by omega,by omega⟩ (Sub.refl _)
 ·(repeat(first|refine aB (by simp (disch:=first|omega|exact nnN _|assumption) only [BB,B2,↓reduceIte,Nat.reduceLeDiff,Nat.reduceAdd,CC]<;>rfl) ?_|refine aD ?_|refine aE ?_|with_reducible first|refine aG ?_|refine aF ?_|refine aK ?_|refine aH ?_|refine aJ ?_|refine aI ?_|refine aL ?_|refine aC ?_))
  refine hx _ _ _ _ (fun e=>by cases e) (eB (dA ?_))
  unfold kW
  rw [gB (by omega)] at ht
  have ht:n+w*0=tot:=ht
  have f5:∀ (e':Env) n',e' 5=.int .i64 (n:Int)→nx≤n'→∃ h2,Sub h2 h'∧K (e' 5) h2 n':=fun e' n' h5 hn=>by
   rw [h5]
   exact ⟨h,hs1,ki hK (by omega) hn⟩
  exact f5 _ _ e5 (by omega)
set_option maxRecDepth 8000 in
theorem aHl (hm:MI ro h X p ps d m) (ha:eW d=true) (ho:MOk d m) (hf:Fr h nx) (hK:∀ nx',nx≤nx'→K (.int .i64 (qL d m)) h nx'):aN Tryz.prog ro lW [ptr p] h nx K:=by
 apply xO
 unfold nN
 refine aBM hm fun n1 hn1=>?_
 unfold qL at hK
 by_cases hc:m.cur=-1
 ·rw [if_pos hc] at hK
  refine aKS hc ?_
  (repeat(first|refine aB (by simp (disch:=first|omega|exact nnN _|assumption) only [BB,B2,↓reduceIte,Nat.reduceLeDiff,Nat.reduceAdd,CC]<;>rfl) ?_|refine aD ?_|refine aE ?_|with_reducible first|refine aG ?_|refine aF ?_|refine aK ?_|refine aH ?_|refine aJ ?_|refine aI ?_|refine aL ?_|refine aC ?_))
  exact ⟨h,Sub.refl _,hK _ (by omega)⟩
 ·rw [if_neg hc] at hK
  have hst:=aGD ha ho hc
  obtain ⟨cv,sv,rv,gp,hA,hP,hR,hD,hpX,hbX⟩:=id hm
  obtain ⟨hcl,hclt,hcv,hsv⟩:=hA.parts
  have hsv:=hsv.sub (gW h X) (dX.sub (gW h X))
  have m8:=aCC (n:=d.many) (cv:=cv) (sv:=sv) (cur:=m.cur) (rv:=rv) (steps:=m.steps) hcl
  have m9:=aCD (n:=d.many) (cv:=cv) (sv:=sv) (cur:=m.cur) (rv:=rv) (steps:=m.steps) hcl
  have hcur:0≤m.cur∧m.cur < d.states.length:=by rcases ho.1 with h | h<;>omega
  have hi:m.cur.toNat < d.states.length:=by omega
  have hs:d.states[m.cur.toNat]=f8 d m:=by unfold f8; rw [List.getD_eq_getElem?_getD,List.getElem?_eq_getElem hi]; rfl
  have hsi:=hsv.ixI .i64 hcur.1 hcur.2
  obtain ⟨x,⟨lv,rv',uv,nv,rfl,y1,y2,y3,y4,y5⟩,hx2,hx3,hx4,hx5⟩:=hsv.at hi
  rw [hs] at y1 y2 y3 y4 y5
  generalize f8 d m=s at hst y1 y2 y3 y4 y5 hK
  refine aKR hc ?_
  (repeat(first|refine aB (by simp (disch:=first|omega|exact nnN _|assumption) only [BB,B2,↓reduceIte,Nat.reduceLeDiff,Nat.reduceAdd,CC,bA,gp,m8,m9,hsi,hx3]<;>rfl) ?_|refine aD ?_|refine aE ?_|with_reducible first|refine aG ?_|refine aF ?_|refine aK ?_|refine aH ?_|refine aJ ?_|refine aI ?_|refine aL ?_|refine aC ?_))
  refine jL (x:=[lv,rv',uv,nv]) rK rfl rfl rfl (by simp [y1.ok,y2.ok,y3.ok,SlR.okC y4]) hf (by omega) fun h2 hs2 hf2 g2 _=>?_
  (repeat(first|refine aB (by simp (disch:=first|omega|exact nnN _|assumption) only [BB,B2,↓reduceIte,Nat.reduceLeDiff,Nat.reduceAdd,CC,g2]<;>rfl) ?_|refine aD ?_|refine aE ?_|with_reducible first|refine aG ?_|refine aF ?_|refine aK ?_|refine aH ?_|refine aJ ?_|refine aI ?_|refine aL ?_|refine aC ?_))
  refine aC6 (hm.subX jB hs2) (hf2.mono (by omega)) hst.r3 hst.rl (y2.sub hs2) fun n3 hn3=>?_
  refine ⟨fK g2 g2,?_⟩
  have hkr:=hst.kr
  have y3:=y3.sub hs2
  refine aB (y3.ix _ hkr) (aB (y3.load hkr) ?_)
  refine ⟨h,hs2,?_⟩
  rw [List.getD_eq_getElem?_getD,List.getElem?_eq_getElem hkr] at hK
  exact hK _ (by omega)
end
end V
end Go.Proofs.YtcaccnneblghgaaGreat
namespace Go.Proofs.YtcaccnneblghgaaGreat
namespace V
attribute [local irreducible] aA ifP aS cM eQ exP cO
theorem rM.trans {a b c:T Obj} {p q:Nat} (h1:rM a b p q) (h2:rM b c p q):rM a c p q:=fun k k1 k2=>by rw [h2 k k1 k2,h1 k k1 k2]
theorem rM.get {h h':T Obj} {p a n w k:Nat} {L:List Nat} {c:Array Value} {e:TypeId} (ho:rM h h' p a) (hR:RI h p a n L w) (hg:h.get k=some (.cells c e)) (h1:e≠bL) (h2:e≠dW):h'.get k=some (.cells c e):=by
 obtain ⟨c1,t1⟩:=jB.p hR
 obtain ⟨c2,t2⟩:=jB.a hR
 rw [ho k (jN hg t1 h1) (jN hg t2 h2)]; exact hg
theorem rM.frR {h h':T Obj} {p a n w nx:Nat} {L:List Nat} (ho:rM h h' p a) (hR:RI h p a n L w) (hf:Fr h nx):Fr h' nx:=fun k hk=>by
 obtain ⟨c1,t1⟩:=jB.p hR
 obtain ⟨c2,t2⟩:=jB.a hR
 have:=hf.lt' t1
 have:=hf.lt' t2
 rw [ho k (by omega) (by omega)]; exact hf k hk
theorem aFE {ro:Ro} {h:T Obj} {p a n w o nx:Nat} {L:List Nat} {K:KV} (hR:RI h p a n L w) (ho:1≤o∧o≤3) (hw:w+2≤1000000) (hK:∀ h' nx',nx≤nx'→RI h' p a n (aHE n o (L,w)).1 (aHE n o (L,w)).2→rM h h' p a→K (.tuple #[]) h' nx'):aN Tryz.prog ro tK [ptr p,.int .u8 (o:Int)] h nx K:=by
 apply aDb
 unfold xT
 unfold aHE at hK
 refine rX (fun h3=>?_) (fun h3=>?_)
 ·rw [if_pos (by omega)] at hK
  (repeat(first|refine aB (by simp (disch:=first|omega|exact nnN _|assumption) only [BB,B2,↓reduceIte,Nat.reduceLeDiff,Nat.reduceAdd,CC]<;>rfl) ?_|refine aD ?_|refine aE ?_|with_reducible first|refine aG ?_|refine aF ?_|refine aK ?_|refine aH ?_|refine aJ ?_|refine aI ?_|refine aL ?_|refine aC ?_))
  refine vX hR (by omega) fun h1 n1 hn1 hR1 ho1=>?_
  refine aE3 hR1 (by omega) fun h2 n2 hn2 hR2 ho2=>?_
  exact ⟨_,Sub.refl _,hK _ _ (by omega) hR2 (ho1.trans ho2)⟩
 ·rw [if_neg (by omega)] at hK
  (repeat(first|refine aB (by simp (disch:=first|omega|exact nnN _|assumption) only [BB,B2,↓reduceIte,Nat.reduceLeDiff,Nat.reduceAdd,CC]<;>rfl) ?_|refine aD ?_|refine aE ?_|with_reducible first|refine aG ?_|refine aF ?_|refine aK ?_|refine aH ?_|refine aJ ?_|refine aI ?_|refine aL ?_|refine aC ?_))
  refine rX (fun h2=>?_) (fun h2=>?_)
  ·rw [if_pos (by omega)] at hK
   (repeat(first|refine aB (by simp (disch:=first|omega|exact nnN _|assumption) only [BB,B2,↓reduceIte,Nat.reduceLeDiff,Nat.reduceAdd,CC]<;>rfl) ?_|refine aD ?_|refine aE ?_|with_reducible first|refine aG ?_|refine aF ?_|refine aK ?_|refine aH ?_|refine aJ ?_|refine aI ?_|refine aL ?_|refine aC ?_))
   refine aE1 hR (by omega) fun h1 n1 hn1 hR1 ho1=>?_
   refine aE3 hR1 (by omega) fun h2 n2 hn2 hR2 ho2=>?_
   exact ⟨_,Sub.refl _,hK _ _ (by omega) hR2 (ho1.trans ho2)⟩
  ·rw [if_neg (by omega)] at hK
   (repeat(first|refine aB (by simp (disch:=first|omega|exact nnN _|assumption) only [BB,B2,↓reduceIte,Nat.reduceLeDiff,Nat.reduceAdd,CC]<;>rfl) ?_|refine aD ?_|refine aE ?_|with_reducible first|refine aG ?_|refine aF ?_|refine aK ?_|refine aH ?_|refine aJ ?_|refine aI ?_|refine aL ?_|refine aC ?_))
   refine aE1 hR (by omega) fun h1 n1 hn1 hR1 ho1=>?_
   exact ⟨_,Sub.refl _,hK _ _ (by omega) hR1 ho1⟩
def SIn (D hs:T Obj) (p sb mb:Nat) (pc sc mc:List Value) (ps:List (Nat × Nat)) (C:List (Int × Int)) (h:T Obj) (nx:Nat) (rs:List RgD):Prop :=
 h.get p=some (.cells pc.toArray bF)∧h.get sb=some (.cells sc.toArray a8)∧h.get mb=some (.cells mc.toArray b7)∧Sub D h∧RsX RI h ps C rs∧dU (p::jI ps) hs h∧Fr h nx
theorem rM.subD {h0 h h':T Obj} {p a:Nat} {X:List Nat} (ho:rM h h' p a) (hp:p∈X) (ha:a∈X) (hs:Sub (del h0 X) h):Sub (del h0 X) h':=fun k o hk=>by
 have h1:=hk
 rw [jE] at h1
 split at h1
 ·cases h1
 ·rename_i hn
  rw [ho k (fun e=>hn (by rw [e]; exact hp)) (fun e=>hn (by rw [e]; exact ha))]
  exact hs k o hk
section
variable {ro:Ro} {h0 hs h h':T Obj} {X:List Nat} {p sb mb nx:Nat} {pc sc mc:List Value} {ps:List (Nat × Nat)} {C:List (Int × Int)} {rs:List RgD} {K:KV}
theorem SIn.mono {n':Nat} (hi:SIn (del h0 X) hs p sb mb pc sc mc ps C h nx rs) (hn:nx≤n'):SIn (del h0 X) hs p sb mb pc sc mc ps C h n' rs:=by
 obtain ⟨g1,g2,g3,g4,g5,g6,g7⟩:=hi
 exact ⟨g1,g2,g3,g4,g5,g6,g7.mono hn⟩
theorem SIn.ring {i n':Nat} {q:Nat × Nat} {c:Int × Int} {L:List Nat} {w n:Nat} {r:RgD} (hi:SIn (del h0 X) hs p sb mb pc sc mc ps C h nx rs) (hd:Dst ps) (hX:∀ k∈jI ps,k∈X) (hq:ps[i]?=some q) (hc:C[i]?=some c) (hR:RI h q.1 q.2 n L w) (hR':RI h' q.1 q.2 c.2.toNat r.1 r.2) (ho:rM h h' q.1 q.2) (hn:nx≤n') :
  SIn (del h0 X) hs p sb mb pc sc mc ps C h' n' (rs.set i r):=by
 obtain ⟨g1,g2,g3,g4,g5,g6,g7⟩:=hi
 have hm:=List.mem_of_getElem? hq
 have m1:q.1∈jI ps:=iB.2 ⟨q,hm,.inl rfl⟩
 have m2:q.2∈jI ps:=iB.2 ⟨q,hm,.inr rfl⟩
 have hr:=g5.set jB hd g7 hq hc hR' fun k _ k1 k2=>ho k k1 k2
 rw [aIq hq] at hr
 refine ⟨ho.get hR g1 (by decide) (by decide),ho.get hR g2 (by decide) (by decide),ho.get hR g3 (by decide) (by decide),ho.subD (hX _ m1) (hX _ m2) g4,hr,fun k o hk hn=>?_,(ho.frR hR g7).mono hn⟩
 rw [ho k (fun e=>hn (List.mem_cons_of_mem _ (by rw [e]; exact m1))) (fun e=>hn (List.mem_cons_of_mem _ (by rw [e]; exact m2)))]
 exact g6 k o hk hn
variable {cc:List Nat} {many cur:Int} {cv sv rv:Value} {steps:Nat} {to:Int} {ov nxv:Value} {ops:List Nat} {R:List Int}
set_option maxRecDepth 8000 in
theorem aL9 {e:Env} {B:Nat} (hcl:cc.length=256) (e0:e 0=ptr p) (e6:e 6=ptr mb) (e7:e 7=nxv) (hi:SIn (del h0 X) hs p sb mb (dT cc many cv sv cur rv steps) sc [.int .i64 to,ov] ps C h nx rs) (hd:Dst ps) (hX:∀ k∈jI ps,k∈X) (hP:Sl ro (del h0 X) rv 1 (mG ps))
  (hR:ZI ro (del h0 X) nxv R) (ho:SlR ro (del h0 X) ov 1 RU8 ops) (hl:ops.length=R.length) (hor:∀ o∈ops,1≤o∧o≤3) (hRl:∀ c∈R,0≤c∧c < C.length) (hR3:R.length≤3) (hB:WLe B rs) (hB2:B+8≤1000000)
  (fin:∀ h' n',nx≤n'→SIn (del h0 X) hs p sb mb (dT cc many cv sv cur rv steps) sc [.int .i64 to,ov] ps C h' n' (x8 C R ops rs)→K (.bool (!decide (to=-1))) h' n'):gM ro K e h nx:=by
 unfold gM
 rw [e7]
 refine aB hR.len ?_
 have m0:=uR (n:=many) (cv:=cv) (sv:=sv) (cur:=cur) (rv:=rv) (steps:=steps) hcl
 generalize hF:x8 C R ops rs=fin0 at fin
 refine bC (fun j e h' nx'=>∃ (k:Nat) (rs':List RgD),k+j=R.length∧nx≤nx'∧e 0=ptr p∧e 6=ptr mb∧e 7=nxv∧e 92=nxv∧e 93=.int .i64 R.length∧e 94=.int .i64 k ∧
  SIn (del h0 X) hs p sb mb (dT cc many cv sv cur rv steps) sc [.int .i64 to,ov] ps C h' nx' rs'∧WLe (B+2*k) rs'∧x8 C (R.drop k) (ops.drop k) rs'=fin0) ?_ (n:=R.length) ⟨0,rs,by omega,by omega,e0,e6,e7,rfl,rfl,rfl,hi.mono (by omega),hB.mono (by omega),hF⟩
 rintro j e h' nx' ⟨k,rs',hj,hnx,e0,e6,e7,e92,e93,e94,hi,hw,hF⟩ Q' hq hx
 obtain ⟨g1,g2,g3,g4,g5,g6,g7⟩:=id hi
 unfold pJ
 rw [e0,e6,e92,e93,e94]
 refine dF (fun hk=>?_) (fun hk=>?_)
 ·have hk:k < R.length:=by omega
  have hko:k < ops.length:=by omega
  rw [bT hk,bT hko] at hF
  have hcm:=hRl _ (List.getElem_mem hk)
  have hom:=hor _ (List.getElem_mem hko)
  have hR':=hR.sub g4
  have hP':=hP.sub g4
  have ho':=ho.sub g4 fun _ _ h=>h
  have rix:=hR'.ix .i64 hk
  have rld:=hR'.load hk
  have oix:=ho'.ix .i64 hko
  obtain ⟨w,⟨ow,olt⟩,o1⟩:=ho'.at1 hko
  simp only [List.cons.injEq,and_true] at ow
  subst ow
  generalize R[k]=c at hF hcm rld
  generalize ops[k]=o at hF hom o1 olt
  change x8 C _ _ (rs'.set c.toNat (aHE (oS C c).2.toNat o (qZ rs' c)))=fin0 at hF
  obtain ⟨q,hq',hri⟩:=g5.at hcm.1 hcm.2
  have hpi:=hP'.ixI .i64 hcm.1 (by rw [oZ,g5.1]; exact hcm.2)
  have hp1:=hP'.load1 (aB8 hq')
  have hwc:=hw.at c
  have hci:C[c.toNat]?=some (oS C c):=by rw [← aDF hcm.1 hcm.2]; exact List.getElem?_eq_getElem _
  (repeat(first|refine aB (by simp (disch:=first|omega|exact nnN _|assumption) only [BB,B2,↓reduceIte,Nat.reduceLeDiff,Nat.reduceAdd,CC,bA,rix,rld,g1,m0,hpi,hp1,g3,oix,o1]<;>rfl) ?_|refine aD ?_|refine aE ?_|with_reducible first|refine aG ?_|refine aF ?_|refine aK ?_|refine aH ?_|refine aJ ?_|refine aI ?_|refine aL ?_|refine aC ?_))
  refine aFE hri hom (by omega) fun h2 n2 hn2 hR2 ho2=>?_
  have hwo:=aNE (oS C c).2.toNat o (qZ rs' c)
  (repeat(first|refine aB (by simp (disch:=first|omega|exact nnN _|assumption) only [BB,B2,↓reduceIte,Nat.reduceLeDiff,Nat.reduceAdd,CC]<;>rfl) ?_|refine aD ?_|refine aE ?_|with_reducible first|refine aG ?_|refine aF ?_|refine aK ?_|refine aH ?_|refine aJ ?_|refine aI ?_|refine aL ?_|refine aC ?_))
  exact hq (j - 1) _ _ _ _ (by omega) ⟨k+1,_,by omega,by omega,e0,e6,e7,e92,e93,rfl,hi.ring (r:=aHE (oS C c).2.toNat o (qZ rs' c)) hd hX hq' hci hri hR2 ho2 (by omega),(hw.mono (by omega)).set (by omega),hF⟩ (Sub.refl _)
 ·(repeat(first|refine aB (by simp (disch:=first|omega|exact nnN _|assumption) only [BB,B2,↓reduceIte,Nat.reduceLeDiff,Nat.reduceAdd,CC]<;>rfl) ?_|refine aD ?_|refine aE ?_|with_reducible first|refine aG ?_|refine aF ?_|refine aK ?_|refine aH ?_|refine aJ ?_|refine aI ?_|refine aL ?_|refine aC ?_))
  refine hx _ _ _ _ (fun e=>by cases e) (eB (dA ?_))
  rw [gB (by omega)] at hF
  have hF:rs'=fin0:=hF
  subst hF
  have hj3:∀ (e':Env) n',e' 6=ptr mb→nx'≤n'→iU ro K e' h' n':=by
   intro e' n' f6 hn
   unfold iU
   rw [f6]
   (repeat(first|refine aB (by simp (disch:=first|omega|exact nnN _|assumption) only [BB,B2,↓reduceIte,Nat.reduceLeDiff,Nat.reduceAdd,CC,g3]<;>rfl) ?_|refine aD ?_|refine aE ?_|with_reducible first|refine aG ?_|refine aF ?_|refine aK ?_|refine aH ?_|refine aJ ?_|refine aI ?_|refine aL ?_|refine aC ?_))
   refine aB (aU _ _ _) ?_
   exact ⟨h',Sub.refl _,fin _ _ (by omega) (hi.mono (by omega))⟩
  exact hj3 _ _ e6 (by omega)
set_option maxRecDepth 8000 in
theorem aL8 {e:Env} {B:Nat} {lv rv' uv nv:Value} {S:List Int} (hcl:cc.length=256) (e0:e 0=ptr p) (e5:e 5=ptr sb) (e6:e 6=ptr mb) (e7:e 7=nxv) (hi:SIn (del h0 X) hs p sb mb (dT cc many cv sv cur rv steps) [lv,rv',uv,nv] [.int .i64 to,ov] ps C h nx rs) (hd:Dst ps) (hX:∀ k∈jI ps,k∈X) (hP:Sl ro (del h0 X) rv 1 (mG ps))
  (hS:ZI ro (del h0 X) rv' S) (hSl:∀ c∈S,0≤c∧c < C.length) (hS3:S.length≤3)
  (hR:ZI ro (del h0 X) nxv R) (ho:SlR ro (del h0 X) ov 1 RU8 ops) (hl:ops.length=R.length) (hor:∀ o∈ops,1≤o∧o≤3) (hRl:∀ c∈R,0≤c∧c < C.length) (hR3:R.length≤3) (hB:WLe B rs) (hB2:B+20≤1000000)
  (fin:∀ h' n',nx≤n'→SIn (del h0 X) hs p sb mb (dT cc many cv sv cur rv steps) [lv,rv',uv,nv] [.int .i64 to,ov] ps C h' n' (x8 C R ops (wG R S rs))→K (.bool (!decide (to=-1))) h' n'):gL ro K e h nx:=by
 unfold gL
 rw [e5]
 have g2:=hi.2.1
 have hSh:=(hS.sub hi.2.2.2.1).len
 (repeat(first|refine aB (by simp (disch:=first|omega|exact nnN _|assumption) only [BB,B2,↓reduceIte,Nat.reduceLeDiff,Nat.reduceAdd,CC,g2,hSh]<;>rfl) ?_|refine aD ?_|refine aE ?_|with_reducible first|refine aG ?_|refine aF ?_|refine aK ?_|refine aH ?_|refine aJ ?_|refine aI ?_|refine aL ?_|refine aC ?_))
 have m0:=uR (n:=many) (cv:=cv) (sv:=sv) (cur:=cur) (rv:=rv) (steps:=steps) hcl
 generalize hF:wG R S rs=fin0 at fin
 refine bC (fun j e h' nx'=>∃ (k:Nat) (rs':List RgD),k+j=S.length∧nx≤nx'∧e 0=ptr p∧e 6=ptr mb∧e 7=nxv∧e 73=rv'∧e 74=.int .i64 S.length∧e 75=.int .i64 k ∧
  SIn (del h0 X) hs p sb mb (dT cc many cv sv cur rv steps) [lv,rv',uv,nv] [.int .i64 to,ov] ps C h' nx' rs'∧WLe (B+2*k) rs'∧wG R (S.drop k) rs'=fin0) ?_ (n:=S.length) ⟨0,rs,by omega,by omega,e0,e6,e7,rfl,rfl,rfl,hi.mono (by omega),hB.mono (by omega),hF⟩
 rintro j e h' nx' ⟨k,rs',hj,hnx,e0,e6,e7,e73,e74,e75,hi,hw,hF⟩ Q' hq hx
 obtain ⟨g1,g2,g3,g4,g5,g6,g7⟩:=id hi
 unfold pK
 rw [e0,e7,e73,e74,e75]
 refine dF (fun hk=>?_) (fun hk=>?_)
 ·have hk:k < S.length:=by omega
  rw [bT hk] at hF
  have hcm:=hSl _ (List.getElem_mem hk)
  have hS':=hS.sub g4
  have hR':=hR.sub g4
  have hP':=hP.sub g4
  have six:=hS'.ix .i64 hk
  have sld:=hS'.load hk
  generalize S[k]=c at hF hcm sld
  change wG R _ (if R.contains c then rs' else rs'.set c.toNat (aGV (qZ rs' c)))=fin0 at hF
  obtain ⟨q,hq',hri⟩:=g5.at hcm.1 hcm.2
  have hpi:=hP'.ixI .i64 hcm.1 (by rw [oZ,g5.1]; exact hcm.2)
  have hp1:=hP'.load1 (aB8 hq')
  have hwc:=hw.at c
  have hci:C[c.toNat]?=some (oS C c):=by rw [← aDF hcm.1 hcm.2]; exact List.getElem?_eq_getElem _
  have hj4:∀ (e':Env) h2 n2 rs2,e' 0=ptr p→e' 6=ptr mb→e' 7=nxv→e' 73=rv'→e' 74=.int .i64 S.length→e' 75=.int .i64 k→nx≤n2→SIn (del h0 X) hs p sb mb (dT cc many cv sv cur rv steps) [lv,rv',uv,nv] [.int .i64 to,ov] ps C h2 n2 rs2→WLe (B+2*(k+1)) rs2→wG R (S.drop (k+1)) rs2=fin0→iV ro Q' e' h2 n2:=by
   intro e' h2 n2 rs2 f0 f6 f7 f73 f74 f75 hn hi2 hw2 hF2
   unfold iV
   rw [f75]
   (repeat(first|refine aB (by simp (disch:=first|omega|exact nnN _|assumption) only [BB,B2,↓reduceIte,Nat.reduceLeDiff,Nat.reduceAdd,CC]<;>rfl) ?_|refine aD ?_|refine aE ?_|with_reducible first|refine aG ?_|refine aF ?_|refine aK ?_|refine aH ?_|refine aJ ?_|refine aI ?_|refine aL ?_|refine aC ?_))
   exact hq (j - 1) _ _ _ _ (by omega) ⟨k+1,rs2,by omega,by omega,f0,f6,f7,f73,f74,rfl,hi2.mono (by omega),hw2,hF2⟩ (Sub.refl _)
  (repeat(first|refine aB (by simp (disch:=first|omega|exact nnN _|assumption) only [BB,B2,↓reduceIte,Nat.reduceLeDiff,Nat.reduceAdd,CC,six,sld]<;>rfl) ?_|refine aD ?_|refine aE ?_|with_reducible first|refine aG ?_|refine aF ?_|refine aK ?_|refine aH ?_|refine aJ ?_|refine aI ?_|refine aL ?_|refine aC ?_))
  refine tE (by omega) hR' fun n2 hn2=>?_
  cases hcn:R.contains c with
  | true =>
   rw [hcn,if_pos rfl] at hF
   (repeat(first|refine aB (by simp (disch:=first|omega|exact nnN _|assumption) only [BB,B2,↓reduceIte,Nat.reduceLeDiff,Nat.reduceAdd,CC]<;>rfl) ?_|refine aD ?_|refine aE ?_|with_reducible first|refine aG ?_|refine aF ?_|refine aK ?_|refine aH ?_|refine aJ ?_|refine aI ?_|refine aL ?_|refine aC ?_))
   exact hj4 _ _ _ rs' e0 e6 e7 e73 e74 e75 (by omega) (hi.mono (by omega)) (hw.mono (by omega)) hF
  | false =>
   rw [hcn,if_neg (by decide)] at hF
   (repeat(first|refine aB (by simp (disch:=first|omega|exact nnN _|assumption) only [BB,B2,↓reduceIte,Nat.reduceLeDiff,Nat.reduceAdd,CC,bA,g1,m0,hpi,hp1]<;>rfl) ?_|refine aD ?_|refine aE ?_|with_reducible first|refine aG ?_|refine aF ?_|refine aK ?_|refine aH ?_|refine aJ ?_|refine aI ?_|refine aL ?_|refine aC ?_))
   refine vX hri (by omega) fun h2 n3 hn3 hR2 ho2=>?_
   exact hj4 _ _ _ _ e0 e6 e7 e73 e74 e75 (by omega) (hi.ring (r:=aGV (qZ rs' c)) hd hX hq' hci hri hR2 ho2 (by omega)) ((hw.mono (by omega)).set (by show (qZ rs' c).2+1≤_; omega)) hF
 ·(repeat(first|refine aB (by simp (disch:=first|omega|exact nnN _|assumption) only [BB,B2,↓reduceIte,Nat.reduceLeDiff,Nat.reduceAdd,CC]<;>rfl) ?_|refine aD ?_|refine aE ?_|with_reducible first|refine aG ?_|refine aF ?_|refine aK ?_|refine aH ?_|refine aJ ?_|refine aI ?_|refine aL ?_|refine aC ?_))
  refine hx _ _ _ _ (fun e=>by cases e) (eB (dA ?_))
  rw [gB (by omega)] at hF
  have hF:rs'=fin0:=hF
  subst hF
  have hj2:∀ (e':Env) n',e' 0=ptr p→e' 6=ptr mb→e' 7=nxv→nx'≤n'→gM ro K e' h' n':=fun e' n' f0 f6 f7 hn =>
   aL9 hcl f0 f6 f7 (hi.mono hn) hd hX hP hR ho hl hor hRl hR3 hw (by omega) fun h2 n2 hn2 hi2=>fin h2 n2 (by omega) hi2
  exact hj2 _ _ e0 e6 e7 (by omega)
end
end V
end Go.Proofs.YtcaccnneblghgaaGreat
namespace Go.Proofs.YtcaccnneblghgaaGreat
namespace V
attribute [local irreducible] aA ifP aS cM eQ exP cO
theorem aGr {d:AutoD} {R S:List Int} {m:MoveD} (ha:eW d=true) (h:gT d.states R m=true):m.ops.length=(pO d m.to).length∧(∀ o∈m.ops,1≤o∧o≤3)∧(∀ c∈pO d m.to,0≤c∧c < d.counts.length)∧(pO d m.to).length≤3:=by
 rcases aAl h with ⟨h1,h2⟩ | ⟨h1,h2,h3,h4⟩
 ·unfold pO
  rw [if_pos h1,h2]
  exact ⟨rfl,(fun o ho=>by cases ho),(fun o ho=>by cases ho),by simp⟩
 ·have hne:m.to≠-1:=by omega
  unfold pO
  rw [if_neg hne]
  have hi:m.to.toNat < d.states.length:=by omega
  have hs:d.states.getD m.to.toNat noS=d.states[m.to.toNat]:=by rw [List.getD_eq_getElem?_getD,List.getElem?_eq_getElem hi]; rfl
  have hk:=p9 ((fN ha).2.2.2.2.2 _ (List.getElem_mem hi))
  rw [← hs] at hk
  exact ⟨h3,aFw h4 h3,hk.2.2.2.1,hk.1⟩
theorem aLw {nx:List Int} {B:Nat}:∀ {S:List Int} {rs:List RgD},WLe B rs→WLe (B+S.length) (wG nx S rs)
 | [],rs,h=>h
 | c::r,rs,h=>by
  unfold wG
  have h1:WLe (B+1) (if nx.contains c then rs else rs.set c.toNat (aGV (qZ rs c))):=by
   split
   ·exact h.mono (by omega)
   ·exact (h.mono (by omega)).set (by show (qZ rs c).2+1≤_; have:=h.at c; omega)
  have:=aLw (nx:=nx) (S:=r) h1
  rw [List.length_cons]
  exact this.mono (by omega)
theorem aOt {C:List (Int × Int)} {B:Nat}:∀ {R:List Int} {os:List Nat} {rs:List RgD},WLe B rs→WLe (B+2*R.length) (x8 C R os rs)
 | [],_,rs,h=>by simpa [x8] using h
 | c::r,[],rs,h=>by
  unfold x8; exact h.mono (by omega)
 | c::r,o::os,rs,h=>by
  unfold x8
  have:=aOt (C:=C) (R:=r) (os:=os) (show WLe (B+2) (rs.set c.toNat (aHE (oS C c).2.toNat o (qZ rs c))) from (h.mono (by omega)).set (by have:=h.at c; have:=aNE (oS C c).2.toNat o (qZ rs c); omega))
  rw [List.length_cons]
  exact this.mono (by omega)
theorem aPh {d:AutoD} {m:MacD} {b B:Nat} (ha:eW d=true) (ho:MOk d m) (hcl:d.c.length=256) (hb:b < 256) (h:WLe B m.rs):WLe (B+9) (lU d m b).rs:=by
 unfold lU
 by_cases hc:m.cur=-1
 ·rw [if_pos hc]; exact h.mono (by omega)
 ·rw [if_neg hc]
  have h1:=(aGD ha ho hc).r3
  have h2:=aGr (S:=[]) ha (aGh ha ho hc hcl hb).2
  have h3:=aOt (C:=d.counts) (R:=pO d (pM d m b).to) (os:=(pM d m b).ops) (aLw (nx:=pO d (pM d m b).to) (S:=(f8 d m).r) h)
  exact h3.mono (by omega)
section
variable {ro:Ro} {h:T Obj} {nx:Nat} {X:List Nat} {p:Nat} {ps:List (Nat × Nat)} {d:AutoD} {m:MacD} {K:KV}
set_option maxRecDepth 8000 in
set_option maxHeartbeats 1000000 in
theorem aHm {b B:Nat} (hm:MI ro h X p ps d m) (ha:eW d=true) (ho:MOk d m) (hb:b < 256) (hf:Fr h nx) (hB:WLe B m.rs) (hB2:B+20≤1000000) (hst:m.steps≤1000000000)
  (hK:∀ h' nx',nx≤nx'→Fr h' nx'→dU (p::jI ps) h h'→MI ro h' X p ps d (lU d m b)→K (.bool (onM d m b)) h' nx'):aN Tryz.prog ro lX [ptr p,.int .u8 (b:Int)] h nx K:=by
 apply xQ
 unfold nO
 refine aBM hm fun n1 hn1=>?_
 unfold onM lU at hK
 by_cases hc:m.cur=-1
 ·rw [if_pos hc,decide_eq_true hc] at hK
  refine aKS hc ?_
  (repeat(first|refine aB (by simp (disch:=first|omega|exact nnN _|assumption) only [BB,B2,↓reduceIte,Nat.reduceLeDiff,Nat.reduceAdd,CC]<;>rfl) ?_|refine aD ?_|refine aE ?_|with_reducible first|refine aG ?_|refine aF ?_|refine aK ?_|refine aH ?_|refine aJ ?_|refine aI ?_|refine aL ?_|refine aC ?_))
  exact ⟨h,Sub.refl _,hK _ _ (by omega) (hf.mono (by omega)) (Sub.refl _).keepL hm⟩
 ·rw [if_neg hc,decide_eq_false hc] at hK
  have hsf:=aGD ha ho hc
  obtain ⟨cv,sv,rv,gp,hA,hP,hR,hD,hpX,hbX⟩:=id hm
  obtain ⟨hcl,hclt,hcv,hsv⟩:=hA.parts
  have hmv:=aGh ha ho hc hcl hb
  have hops:=aGr (S:=[]) ha hmv.2
  have hmp:=aAl hmv.2
  have hsvD:=hsv
  have hsv:=hsv.sub (gW h X) (dX.sub (gW h X))
  have m8:=aCC (n:=d.many) (cv:=cv) (sv:=sv) (cur:=m.cur) (rv:=rv) (steps:=m.steps) hcl
  have m9:=aCD (n:=d.many) (cv:=cv) (sv:=sv) (cur:=m.cur) (rv:=rv) (steps:=m.steps) hcl
  have m1:=aLL (n:=d.many) (cv:=cv) (sv:=sv) (cur:=m.cur) (rv:=rv) (steps:=m.steps) hcl
  have mb:=aNx (n:=d.many) (cv:=cv) (sv:=sv) (cur:=m.cur) (rv:=rv) (steps:=m.steps) hcl hb
  have hcur:0≤m.cur∧m.cur < d.states.length:=by rcases ho.1 with h | h<;>omega
  have hi:m.cur.toNat < d.states.length:=by omega
  have hs:d.states[m.cur.toNat]=f8 d m:=by unfold f8; rw [List.getD_eq_getElem?_getD,List.getElem?_eq_getElem hi]; rfl
  have hsi:=hsv.ixI .i64 hcur.1 hcur.2
  obtain ⟨x,⟨lv,rv',uv,nv,rfl,y1,y2,y3,y4,y5⟩,hx2,hx3,hx4,hx5⟩:=hsv.at hi
  obtain ⟨xD,⟨lvD,rvD,uvD,nvD,rfl,z1,z2,z3,z4,z5⟩,w2,w3,w4,w5⟩:=hsvD.at hi
  have hsame:[lv,rv',uv,nv]=[lvD,rvD,uvD,nvD]:=by
   have:=aCB (gW h X) w3
   rw [hx3] at this
   simpa using this
  simp only [List.cons.injEq,and_true] at hsame
  obtain ⟨rfl,rfl,rfl,rfl⟩:=hsame
  rw [hs] at y1 y2 y3 y4 y5 z2 z4
  refine aKR hc ?_
  (repeat(first|refine aB (by simp (disch:=first|omega|exact nnN _|assumption) only [BB,B2,↓reduceIte,Nat.reduceLeDiff,Nat.reduceAdd,CC,bA,gp,m8,m9,hsi,hx3]<;>rfl) ?_|refine aD ?_|refine aE ?_|with_reducible first|refine aG ?_|refine aF ?_|refine aK ?_|refine aH ?_|refine aJ ?_|refine aI ?_|refine aL ?_|refine aC ?_))
  refine jL (x:=[lv,rv',uv,nv]) rK rfl rfl rfl (by simp [y1.ok,y2.ok,y3.ok,SlR.okC y4]) hf (by omega) fun h2 hs2 hf2 g2 _=>?_
  (repeat(first|refine aB (by simp (disch:=first|omega|exact nnN _|assumption) only [BB,B2,↓reduceIte,Nat.reduceLeDiff,Nat.reduceAdd,CC,g2]<;>rfl) ?_|refine aD ?_|refine aE ?_|with_reducible first|refine aG ?_|refine aF ?_|refine aK ?_|refine aH ?_|refine aJ ?_|refine aI ?_|refine aL ?_|refine aC ?_))
  have hm2:=hm.subX jB hs2
  have gp2:=hs2 _ _ gp
  refine aC6 hm2 (hf2.mono (by omega)) hsf.r3 hsf.rl (y2.sub hs2) fun n3 hn3=>?_
  have hkn:=hsf.kn
  have z4':=z4.sub ((gW h X).trans hs2) (rN.sub ((gW h X).trans hs2))
  have nix:=z4'.ix .i64 hkn
  obtain ⟨w,⟨w',hw1,hw2,hw3⟩,hw4⟩:=z4'.at1 hkn
  simp only [List.cons.injEq,and_true] at hw1
  subst hw1
  have hrow:(f8 d m).next[hN d.counts m.rs (f8 d m).r]=(f8 d m).next.getD (hN d.counts m.rs (f8 d m).r) []:=by rw [List.getD_eq_getElem?_getD,List.getElem?_eq_getElem hkn]; rfl
  rw [hrow] at hw2 hw3
  have hrowD:SlR ro (del h X) w 2 (xC ro (del h X)) ((f8 d m).next.getD (hN d.counts m.rs (f8 d m).r) []):=by
   obtain ⟨u,⟨u',hu1,hu2,hu3⟩,hu4⟩:=z4.at1 hkn
   simp only [List.cons.injEq,and_true] at hu1
   subst hu1
   have:=aFo ((gW h X).trans hs2) hu4
   rw [hw4] at this
   cases this
   rw [hrow] at hu2
   exact hu2
  generalize hcb:d.c.getD b 0=cb at mb hmv
  have hci:cb < ((f8 d m).next.getD (hN d.counts m.rs (f8 d m).r) []).length:=hmv.1
  have hmvd:pM d m b=((f8 d m).next.getD (hN d.counts m.rs (f8 d m).r) [])[cb]:=by
   unfold pM
   rw [hcb,List.getD_eq_getElem?_getD (a:=aP2),List.getElem?_eq_getElem hci]; rfl
  refine ⟨fK g2 g2,?_⟩
  have rix:=hw2.ix .u8 hci
  obtain ⟨x,⟨ov,rfl,hov,hol⟩,v2,v3,v4,v5⟩:=hw2.at hci
  obtain ⟨xD,⟨ovD,rfl,hovD,holD⟩,u2,u3,u4,u5⟩:=hrowD.at hci
  have hsame2:[Value.int .i64 ((f8 d m).next.getD (hN d.counts m.rs (f8 d m).r) [])[cb].to,ov]=[Value.int .i64 ((f8 d m).next.getD (hN d.counts m.rs (f8 d m).r) [])[cb].to,ovD]:=by
   have:=aCB ((gW h X).trans hs2) u3
   rw [v3] at this
   simpa using this
  simp only [List.cons.injEq,and_true,true_and] at hsame2
  subst hsame2
  rw [← hmvd] at v3 hovD hov
  refine aB nix (aB hw4 ?_)
  (repeat(first|refine aB (by simp (disch:=first|omega|exact nnN _|assumption) only [BB,B2,↓reduceIte,Nat.reduceLeDiff,Nat.reduceAdd,CC,bA,gp2,mb]<;>rfl) ?_|refine aD ?_|refine aE ?_|with_reducible first|refine aG ?_|refine aF ?_|refine aK ?_|refine aH ?_|refine aJ ?_|refine aI ?_|refine aL ?_|refine aC ?_))
  refine ⟨fK gp2 gp2,?_⟩
  refine aB rix (aB v3 ?_)
  generalize hMV:pM d m b=mv at hK hops hmp hovD hov
  refine jL (x:=[.int .i64 mv.to,ov]) aEr rfl rfl rfl (by simp [show cP ov=true from SlR.okC hov,show cP (Value.int .i64 mv.to)=true from rfl]) hf2 (by omega) fun h3 hs3 hf3 g3 _=>?_
  have gp3:=hs3 _ _ gp2
  have g23:=hs3 _ _ g2
  (repeat(first|refine aB (by simp (disch:=first|omega|exact nnN _|assumption) only [BB,B2,↓reduceIte,Nat.reduceLeDiff,Nat.reduceAdd,CC,bA]<;>rfl) ?_|refine aD ?_|refine aE ?_|with_reducible first|refine aG ?_|refine aF ?_|refine aK ?_|refine aH ?_|refine aJ ?_|refine aI ?_|refine aL ?_|refine aC ?_))
  refine aB (aZ gp3 m1) ?_
  (repeat(first|refine aB (by simp (disch:=first|omega|exact nnN _|assumption) only [BB,B2,↓reduceIte,Nat.reduceLeDiff,Nat.reduceAdd,CC]<;>rfl) ?_|refine aD ?_|refine aE ?_|with_reducible first|refine aG ?_|refine aF ?_|refine aK ?_|refine aH ?_|refine aJ ?_|refine aI ?_|refine aL ?_|refine aC ?_))
  refine aB (aZ (l:=[lv,rv',uv,nv]) g23 rfl) ?_
  refine aB y2.len ?_
  have hr3:=hsf.r3
  (repeat(first|refine aB (by simp (disch:=first|omega|exact nnN _|assumption) only [BB,B2,↓reduceIte,Nat.reduceLeDiff,Nat.reduceAdd,CC,bA]<;>rfl) ?_|refine aD ?_|refine aE ?_|with_reducible first|refine aG ?_|refine aF ?_|refine aK ?_|refine aH ?_|refine aJ ?_|refine aI ?_|refine aL ?_|refine aC ?_))
  have esteps:(m.steps:Int)+(1+((f8 d m).r.length:Int))=((m.steps+1+(f8 d m).r.length:Nat):Int):=by omega
  rw [esteps]
  refine aB (dN (v:=.int .i64 ((m.steps+1+(f8 d m).r.length:Nat):Int)) gp3 (by rw [uS hcl]; omega) rfl rfl) ?_
  rw [aGf hcl]
  have n2lt:=hf.lt' gp
  have gp4:(h3.upd p (some (.cells (dT d.c d.many cv sv m.cur rv (m.steps+1+(f8 d m).r.length)).toArray bF))).get p=some (.cells (dT d.c d.many cv sv m.cur rv (m.steps+1+(f8 d m).r.length)).toArray bF):=T.get_upd_same _ _ _
  have ho4:∀ k,k≠p→(h3.upd p (some (.cells (dT d.c d.many cv sv m.cur rv (m.steps+1+(f8 d m).r.length)).toArray bF))).get k=h3.get k:=fun k hk=>T.get_upd_ne _ _ hk
  generalize (h3.upd p (some (.cells (dT d.c d.many cv sv m.cur rv (m.steps+1+(f8 d m).r.length)).toArray bF)))=h4 at gp4 ho4
  have g24:=(ho4 (n1+12) (by omega)).trans g23
  have g34:=(ho4 (n1+31) (by omega)).trans g3
  (repeat(first|refine aB (by simp (disch:=first|omega|exact nnN _|assumption) only [BB,B2,↓reduceIte,Nat.reduceLeDiff,Nat.reduceAdd,CC]<;>rfl) ?_|refine aD ?_|refine aE ?_|with_reducible first|refine aG ?_|refine aF ?_|refine aK ?_|refine aH ?_|refine aJ ?_|refine aI ?_|refine aL ?_|refine aC ?_))
  refine aB (aZ (l:=[.int .i64 mv.to,ov]) g34 rfl) ?_
  (repeat(first|refine aB (by simp (disch:=first|omega|exact nnN _|assumption) only [BB,B2,↓reduceIte,Nat.reduceLeDiff,Nat.reduceAdd,CC,bA]<;>rfl) ?_|refine aD ?_|refine aE ?_|with_reducible first|refine aG ?_|refine aF ?_|refine aK ?_|refine aH ?_|refine aJ ?_|refine aI ?_|refine aL ?_|refine aC ?_))
  refine aB (dN (v:=.int .i64 mv.to) gp4 (by rw [uS hcl]; omega) rfl rfl) ?_
  rw [aB0 hcl]
  have gp5:(h4.upd p (some (.cells (dT d.c d.many cv sv mv.to rv (m.steps+1+(f8 d m).r.length)).toArray bF))).get p=some (.cells (dT d.c d.many cv sv mv.to rv (m.steps+1+(f8 d m).r.length)).toArray bF):=T.get_upd_same _ _ _
  have ho5:∀ k,k≠p→(h4.upd p (some (.cells (dT d.c d.many cv sv mv.to rv (m.steps+1+(f8 d m).r.length)).toArray bF))).get k=h3.get k:=fun k hk=>(T.get_upd_ne _ _ hk).trans (ho4 k hk)
  generalize (h4.upd p (some (.cells (dT d.c d.many cv sv mv.to rv (m.steps+1+(f8 d m).r.length)).toArray bF)))=h5 at gp5 ho5
  have g25:=(ho5 (n1+12) (by omega)).trans g23
  have g35:=(ho5 (n1+31) (by omega)).trans g3
  have hs5:Sub h h3:=hs2.trans hs3
  have hD5:Sub (del h X) h5:=fun k o hk=>by
   have h9:=hk
   rw [jE] at h9
   split at h9
   ·cases h9
   ·rename_i hn
    rw [ho5 k (fun e=>hn (by rw [e]; exact hpX))]
    exact hs5 _ _ h9
  have hf5:Fr h5 (n1+32):=fun k hk=>by rw [ho5 k (by omega)]; exact hf3 k (by omega)
  have hSI:SIn (del h X) h p (n1+12) (n1+31) (dT d.c d.many cv sv mv.to rv (m.steps+1+(f8 d m).r.length)) [lv,rv',uv,nv] [.int .i64 mv.to,ov] ps d.counts h5 (n1+32) m.rs:=by
   refine ⟨gp5,g25,g35,hD5,hR.keep jB fun q hq=>?_,fun k o hk hn=>?_,hf5⟩
   ·obtain ⟨⟨c1,t1⟩,c2,t2⟩:=hR.ty jB q hq
    rw [ho5 _ (jN t1 gp (by decide)),ho5 _ (jN t2 gp (by decide)),t1,t2,hs5 _ _ t1,hs5 _ _ t2]
    exact ⟨rfl,rfl⟩
   ·rw [ho5 k fun e=>hn (by rw [e]; exact List.mem_cons_self ..)]
    exact hs5 _ _ hk
  have hfin:∀ h' n',n1+32≤n'→SIn (del h X) h p (n1+12) (n1+31) (dT d.c d.many cv sv mv.to rv (m.steps+1+(f8 d m).r.length)) [lv,rv',uv,nv] [.int .i64 mv.to,ov] ps d.counts h' n' (x8 d.counts (pO d mv.to) mv.ops (wG (pO d mv.to) (f8 d m).r m.rs))→K (.bool (!decide (mv.to=-1))) h' n':=by
   intro h' n' hn' hi'
   obtain ⟨q1,q2,q3,q4,q5,q6,q7⟩:=hi'
   have hre:=aMH q4
   have:=hK h' n' (by omega) q7 q6 ⟨cv,sv,rv,q1,hA.sub hre,hP.sub hre,q5,hD,hpX,hbX⟩
   simpa using this
  have hj1:∀ (e':Env) n' nxv,e' 0=ptr p→e' 5=ptr (n1+12)→e' 6=ptr (n1+31)→e' 7=nxv→ZI ro (del h X) nxv (pO d mv.to)→n1+32≤n'→gL ro K e' h5 n':=fun e' n' nxv f0 f5 f6 f7 hz hn' =>
   aL8 hcl f0 f5 f6 f7 (hSI.mono hn') hD hbX hP z2 hsf.rl hsf.r3 hz hovD hops.1 hops.2.1 hops.2.2.1 hops.2.2.2 hB hB2 fun h' n'' hn'' hi'=>hfin h' n'' (by omega) hi'
  have m85:=aCC (n:=d.many) (cv:=cv) (sv:=sv) (cur:=mv.to) (rv:=rv) (steps:=m.steps+1+(f8 d m).r.length) hcl
  (repeat(first|refine aB (by simp (disch:=first|omega|exact nnN _|assumption) only [BB,B2,↓reduceIte,Nat.reduceLeDiff,Nat.reduceAdd,CC]<;>rfl) ?_|refine aD ?_|refine aE ?_|with_reducible first|refine aG ?_|refine aF ?_|refine aK ?_|refine aH ?_|refine aJ ?_|refine aI ?_|refine aL ?_|refine aC ?_))
  refine aB (aZ (l:=[.int .i64 mv.to,ov]) g35 rfl) ?_
  by_cases hto:mv.to=-1
  ·refine aCb hto ?_
   (repeat(first|refine aB (by simp (disch:=first|omega|exact nnN _|assumption) only [BB,B2,↓reduceIte,Nat.reduceLeDiff,Nat.reduceAdd,CC]<;>rfl) ?_|refine aD ?_|refine aE ?_|with_reducible first|refine aG ?_|refine aF ?_|refine aK ?_|refine aH ?_|refine aJ ?_|refine aI ?_|refine aL ?_|refine aC ?_))
   refine hj1 _ _ (.slice none 0 0) rfl rfl rfl rfl ?_ (by omega)
   unfold pO
   rw [if_pos hto]
   exact Sl.nil
  ·refine aDx hto ?_
   have htr:1≤mv.to∧mv.to < d.states.length:=by rcases hmp with h | h<;>omega
   have hti:mv.to.toNat < d.states.length:=by omega
   have hsv5:=hsvD.sub hD5 (dX.sub hD5)
   have tix:=hsv5.ixI .i64 (show 0≤mv.to by omega) htr.2
   obtain ⟨x,⟨lv2,rv2,uv2,nv2,rfl,a1,a2,a3,a4,a5⟩,b2,b3,b4,b5⟩:=hsvD.at hti
   have hl5:=aFo hD5 (b5 1 rv2 rfl)
   have b4':=b4 1
   (repeat(first|refine aB (by simp (disch:=first|omega|exact nnN _|assumption) only [BB,B2,↓reduceIte,Nat.reduceLeDiff,Nat.reduceAdd,CC,bA]<;>rfl) ?_|refine aD ?_|refine aE ?_|with_reducible first|refine aG ?_|refine aF ?_|refine aK ?_|refine aH ?_|refine aJ ?_|refine aI ?_|refine aL ?_|refine aC ?_))
   refine aB (aZ gp5 m85) ?_
   (repeat(first|refine aB (by simp (disch:=first|omega|exact nnN _|assumption) only [BB,B2,↓reduceIte,Nat.reduceLeDiff,Nat.reduceAdd,CC]<;>rfl) ?_|refine aD ?_|refine aE ?_|with_reducible first|refine aG ?_|refine aF ?_|refine aK ?_|refine aH ?_|refine aJ ?_|refine aI ?_|refine aL ?_|refine aC ?_))
   refine aB (aZ (l:=[.int .i64 mv.to,ov]) g35 rfl) ?_
   refine aB tix (aB b4' (aB hl5 ?_))
   refine hj1 _ _ rv2 rfl rfl rfl rfl ?_ (by omega)
   unfold pO
   rw [if_neg hto,List.getD_eq_getElem?_getD,List.getElem?_eq_getElem hti]
   exact a2
end
end V
end Go.Proofs.YtcaccnneblghgaaGreat
namespace Go.Proofs.YtcaccnneblghgaaGreat
namespace V
attribute [local irreducible] aA ifP aS cM eQ exP cO
def bts (s:ByteArray):List Nat:=s.data.toList.map (·.toNat)
theorem aGQ (s:ByteArray):(bts s).length=s.size:=by unfold bts; rw [List.length_map]; rfl
theorem aLs {s:ByteArray}:∀ b∈bts s,b < 256:=fun b hb=>by
 unfold bts at hb
 rw [List.mem_map] at hb
 obtain ⟨x,_,rfl⟩:=hb
 exact x.toNat_lt
theorem aDr (s:ByteArray):vP (.string s)=some (.int .i64 (bts s).length):=by rw [aGQ]; rfl
theorem aFn {s:ByteArray} {k:IntKind} {i:Nat} (hi:i < (bts s).length):aDp (.string s) (.int k (i:Int))=some (.int .u8 ((bts s)[i]:Nat)):=by
 have hn:lO (.int k (i:Int))=some i:=by simp [lO]
 have hl:i < s.data.toList.length:=by simpa [bts] using hi
 unfold aDp
 rw [hn]
 simp only [Option.bind]
 rw [List.getElem?_eq_getElem hl]
 simp [bts]
theorem aJv {d:AutoD} {m:MacD} {b:Nat} (ha:eW d=true) (ho:MOk d m):(lU d m b).steps≤m.steps+4:=by
 unfold lU
 by_cases hc:m.cur=-1
 ·rw [if_pos hc]; omega
 ·rw [if_neg hc]
  have:=(aGD ha ho hc).r3
  show m.steps+1+_≤_
  omega
theorem aOQ {B:Nat} {m:MacD} (h:WLe B m.rs):WLe (B+1) (aE0 m).rs:=fun r hr=>by
 obtain ⟨x,hx,rfl⟩:=List.mem_map.1 hr
 have:=h x hx
 unfold pS
 split
 ·omega
 ·show x.2+1≤_; omega
def SJn (D hs:T Obj) (p:Nat) (pc:List Value) (ps:List (Nat × Nat)) (C:List (Int × Int)) (h:T Obj) (nx:Nat) (rs:List RgD):Prop :=
 h.get p=some (.cells pc.toArray bF)∧Sub D h∧RsX RI h ps C rs∧dU (p::jI ps) hs h∧Fr h nx
section
variable {ro:Ro} {h0 hs h h':T Obj} {X:List Nat} {p nx:Nat} {pc:List Value} {ps:List (Nat × Nat)} {C:List (Int × Int)} {rs:List RgD} {K:KV}
theorem SJn.mono {n':Nat} (hi:SJn (del h0 X) hs p pc ps C h nx rs) (hn:nx≤n'):SJn (del h0 X) hs p pc ps C h n' rs:=by
 obtain ⟨g1,g4,g5,g6,g7⟩:=hi
 exact ⟨g1,g4,g5,g6,g7.mono hn⟩
theorem SJn.ring {i n':Nat} {q:Nat × Nat} {c:Int × Int} {L:List Nat} {w n:Nat} {r:RgD} (hi:SJn (del h0 X) hs p pc ps C h nx rs) (hd:Dst ps) (hX:∀ k∈jI ps,k∈X) (hq:ps[i]?=some q) (hc:C[i]?=some c) (hR:RI h q.1 q.2 n L w) (hR':RI h' q.1 q.2 c.2.toNat r.1 r.2) (ho:rM h h' q.1 q.2) (hn:nx≤n') :
  SJn (del h0 X) hs p pc ps C h' n' (rs.set i r):=by
 obtain ⟨g1,g4,g5,g6,g7⟩:=hi
 have hm:=List.mem_of_getElem? hq
 have m1:q.1∈jI ps:=iB.2 ⟨q,hm,.inl rfl⟩
 have m2:q.2∈jI ps:=iB.2 ⟨q,hm,.inr rfl⟩
 have hr:=g5.set jB hd g7 hq hc hR' fun k _ k1 k2=>ho k k1 k2
 rw [aIq hq] at hr
 refine ⟨ho.get hR g1 (by decide) (by decide),ho.subD (hX _ m1) (hX _ m2) g4,hr,fun k o hk hn=>?_,(ho.frR hR g7).mono hn⟩
 rw [ho k (fun e=>hn (List.mem_cons_of_mem _ (by rw [e]; exact m1))) (fun e=>hn (List.mem_cons_of_mem _ (by rw [e]; exact m2)))]
 exact g6 k o hk hn
end
section
variable {ro:Ro} {h:T Obj} {nx:Nat} {X:List Nat} {p:Nat} {ps:List (Nat × Nat)} {d:AutoD} {m:MacD} {K:KV}
set_option maxRecDepth 8000 in
theorem aGZ {B:Nat} (hm:MI ro h X p ps d m) (ho:MOk d m) (hC:d.counts.length≤512) (hf:Fr h nx) (hB:WLe B m.rs) (hB2:B+1≤1000000)
  (hK:∀ h' nx',nx≤nx'→Fr h' nx'→dU (p::jI ps) h h'→MI ro h' X p ps d (aE0 m)→K (.tuple #[]) h' nx'):aN Tryz.prog ro k9 [ptr p] h nx K:=by
 obtain ⟨cv,sv,rv,gp,hA,hP,hR,hD,hpX,hbX⟩:=id hm
 obtain ⟨hcl,hclt,hcv,hsv⟩:=hA.parts
 have n2lt:=hf.lt' gp
 apply wR
 unfold mO
 refine aB (pQ _ _ _) ?_
 (repeat(first|refine aB (by simp (disch:=first|omega|exact nnN _|assumption) only [BB,B2,↓reduceIte,Nat.reduceLeDiff,Nat.reduceAdd,CC,bA]<;>rfl) ?_|refine aD ?_|refine aE ?_|with_reducible first|refine aG ?_|refine aF ?_|refine aK ?_|refine aH ?_|refine aJ ?_|refine aI ?_|refine aL ?_|refine aC ?_))
 refine aB (dN (v:=.int .i64 0) gp (by rw [uS hcl]; omega) rfl rfl) ?_
 rw [aB0 hcl]
 have gp4:(h.upd p (some (.cells (dT d.c d.many cv sv 0 rv m.steps).toArray bF))).get p=some (.cells (dT d.c d.many cv sv 0 rv m.steps).toArray bF):=T.get_upd_same _ _ _
 have ho4:∀ k,k≠p→(h.upd p (some (.cells (dT d.c d.many cv sv 0 rv m.steps).toArray bF))).get k=h.get k:=fun k hk=>T.get_upd_ne _ _ hk
 generalize (h.upd p (some (.cells (dT d.c d.many cv sv 0 rv m.steps).toArray bF)))=h4 at gp4 ho4
 have m0:=uR (n:=d.many) (cv:=cv) (sv:=sv) (cur:=0) (rv:=rv) (steps:=m.steps) hcl
 have hSJ:SJn (del h X) h p (dT d.c d.many cv sv 0 rv m.steps) ps d.counts h4 nx m.rs:=by
  refine ⟨gp4,fun k o hk=>?_,hR.keep jB fun q hq=>?_,fun k o hk hn=>?_,fun k hk=>by rw [ho4 k (by omega)]; exact hf k hk⟩
  ·have h9:=hk
   rw [jE] at h9
   split at h9
   ·cases h9
   ·rename_i hn
    rw [ho4 k (fun e=>hn (by rw [e]; exact hpX))]; exact h9
  ·obtain ⟨⟨c1,t1⟩,c2,t2⟩:=hR.ty jB q hq
   exact ⟨ho4 _ (jN t1 gp (by decide)),ho4 _ (jN t2 gp (by decide))⟩
  ·rw [ho4 k fun e=>hn (by rw [e]; exact List.mem_cons_self ..)]; exact hk
 have hPh:=hP.sub hSJ.2.1
 have hpl:=hPh.len
 rw [oZ,hR.1] at hpl
 (repeat(first|refine aB (by simp (disch:=first|omega|exact nnN _|assumption) only [BB,B2,↓reduceIte,Nat.reduceLeDiff,Nat.reduceAdd,CC,bA,gp4,m0,hpl]<;>rfl) ?_|refine aD ?_|refine aE ?_|with_reducible first|refine aG ?_|refine aF ?_|refine aK ?_|refine aH ?_|refine aJ ?_|refine aI ?_|refine aL ?_|refine aC ?_))
 have hrl:=ho.2
 have hfin:∀ h' n',nx≤n'→SJn (del h X) h p (dT d.c d.many cv sv 0 rv m.steps) ps d.counts h' n' (m.rs.map pS)→K (.tuple #[]) h' n':=by
  intro h' n' hn' hi'
  obtain ⟨q1,q4,q5,q6,q7⟩:=hi'
  have hre:=aMH q4
  exact hK h' n' hn' q7 q6 ⟨cv,sv,rv,q1,hA.sub hre,hP.sub hre,q5,hD,hpX,hbX⟩
 refine bC (fun j e h' nx'=>∃ (k:Nat),k+j=d.counts.length∧nx≤nx'∧e 12=rv∧e 13=.int .i64 d.counts.length∧e 14=.int .i64 k∧SJn (del h X) h p (dT d.c d.many cv sv 0 rv m.steps) ps d.counts h' nx' ((m.rs.take k).map pS++m.rs.drop k)) ?_ (n:=d.counts.length) ⟨0,by omega,by omega,rfl,rfl,rfl,hSJ.mono (by omega)⟩
 rintro j e h' nx' ⟨k,hj,hnx,e12,e13,e14,hi⟩ Q' hq hx
 obtain ⟨g1,g4,g5,g6,g7⟩:=id hi
 unfold oT
 rw [e12,e13,e14]
 refine dF (fun hk=>?_) (fun hk=>?_)
 ·have hk:k < d.counts.length:=by omega
  have hkr:k < m.rs.length:=by omega
  have hP':=hP.sub g4
  obtain ⟨q,hq',hri⟩:=g5.at (c:=(k:Int)) (by omega) (by omega)
  rw [Int.toNat_natCast] at hq'
  have hlen:((m.rs.take k).map pS).length=k:=by simp; omega
  have hg:qZ ((m.rs.take k).map pS++m.rs.drop k) (k:Int)=m.rs[k]:=by
   unfold qZ
   rw [Int.toNat_natCast,List.getD_eq_getElem?_getD,List.getElem?_append_right (by omega),hlen,Nat.sub_self,List.getElem?_drop,Nat.add_zero,List.getElem?_eq_getElem hkr]; rfl
  rw [hg] at hri
  have hset:∀ x,((m.rs.take k).map pS++m.rs.drop k).set k x=(m.rs.take k).map pS++[x]++m.rs.drop (k+1):=fun x=>by
   rw [List.set_append_right _ _ (by omega),hlen,Nat.sub_self,bT hkr,List.append_assoc]; rfl
  have htk:(m.rs.take (k+1)).map pS=(m.rs.take k).map pS++[pS m.rs[k]]:=by rw [List.take_succ_eq_append_getElem hkr,List.map_append]; rfl
  have hci:d.counts[k]?=some (oS d.counts (k:Int)):=by
   rw [← aDF (by omega) (by omega)]
   simp only [Int.toNat_natCast]
   exact List.getElem?_eq_getElem _
  have hj1:∀ (e':Env) h2 n2,e' 12=rv→e' 13=.int .i64 d.counts.length→e' 14=.int .i64 k→nx'≤n2→SJn (del h X) h p (dT d.c d.many cv sv 0 rv m.steps) ps d.counts h2 n2 ((m.rs.take (k+1)).map pS++m.rs.drop (k+1))→iH ro Q' e' h2 n2:=by
   intro e' h2 n2 f12 f13 f14 hn hi2
   unfold iH
   rw [f14]
   (repeat(first|refine aB (by simp (disch:=first|omega|exact nnN _|assumption) only [BB,B2,↓reduceIte,Nat.reduceLeDiff,Nat.reduceAdd,CC]<;>rfl) ?_|refine aD ?_|refine aE ?_|with_reducible first|refine aG ?_|refine aF ?_|refine aK ?_|refine aH ?_|refine aJ ?_|refine aI ?_|refine aL ?_|refine aC ?_))
   exact hq (j - 1) _ _ _ _ (by omega) ⟨k+1,by omega,by omega,f12,f13,rfl,hi2.mono (by omega)⟩ (Sub.refl _)
  have hdk:m.rs.drop k=[m.rs[k]]++m.rs.drop (k+1):=bT hkr
  have hw:(m.rs[k]).2≤B:=hB _ (List.getElem_mem hkr)
  generalize m.rs[k]=r at hri htk hw hdk
  (repeat(first|refine aB (by simp (disch:=first|omega|exact nnN _|assumption) only [BB,B2,↓reduceIte,Nat.reduceLeDiff,Nat.reduceAdd,CC]<;>rfl) ?_|refine aD ?_|refine aE ?_|with_reducible first|refine aG ?_|refine aF ?_|refine aK ?_|refine aH ?_|refine aJ ?_|refine aI ?_|refine aL ?_|refine aC ?_))
  refine aB (hP'.ix _ (by rw [oZ,hR.1]; exact hk)) (aB (hP'.load1 (aB8 hq')) ?_)
  refine aAt hri fun n2 hn2=>?_
  refine kY (fun hl=>?_) (fun hl=>?_)
  ·have hx1:pS r=aGV r:=if_neg (by omega)
   rw [hx1] at htk
   (repeat(first|refine aB (by simp (disch:=first|omega|exact nnN _|assumption) only [BB,B2,↓reduceIte,Nat.reduceLeDiff,Nat.reduceAdd,CC]<;>rfl) ?_|refine aD ?_|refine aE ?_|with_reducible first|refine aG ?_|refine aF ?_|refine aK ?_|refine aH ?_|refine aJ ?_|refine aI ?_|refine aL ?_|refine aC ?_))
   refine vX hri (by omega) fun h2 n3 hn3 hR2 ho2=>?_
   have:=hi.ring (r:=aGV r) (n':=n3) hD hbX hq' hci hri hR2 ho2 (by omega)
   rw [hset,← htk] at this
   exact hj1 _ _ _ e12 e13 e14 (by omega) this
  ·have hx1:pS r=r:=if_pos (by omega)
   rw [hx1] at htk
   (repeat(first|refine aB (by simp (disch:=first|omega|exact nnN _|assumption) only [BB,B2,↓reduceIte,Nat.reduceLeDiff,Nat.reduceAdd,CC]<;>rfl) ?_|refine aD ?_|refine aE ?_|with_reducible first|refine aG ?_|refine aF ?_|refine aK ?_|refine aH ?_|refine aJ ?_|refine aI ?_|refine aL ?_|refine aC ?_))
   refine hj1 _ _ _ e12 e13 e14 (by omega) ?_
   have e2:(m.rs.take (k+1)).map pS++m.rs.drop (k+1)=(m.rs.take k).map pS++m.rs.drop k:=by
    rw [htk,List.append_assoc,hdk]
   rw [e2]
   exact hi.mono (by omega)
 ·(repeat(first|refine aB (by simp (disch:=first|omega|exact nnN _|assumption) only [BB,B2,↓reduceIte,Nat.reduceLeDiff,Nat.reduceAdd,CC]<;>rfl) ?_|refine aD ?_|refine aE ?_|with_reducible first|refine aG ?_|refine aF ?_|refine aK ?_|refine aH ?_|refine aJ ?_|refine aI ?_|refine aL ?_|refine aC ?_))
  refine hx _ _ _ _ (fun e=>by cases e) (eB (dA ?_))
  rw [List.take_of_length_le (by omega),List.drop_eq_nil_of_le (by omega),List.append_nil] at hi
  exact ⟨h',Sub.refl _,hfin _ _ (by omega) (hi.mono (by omega))⟩
end
end V
end Go.Proofs.YtcaccnneblghgaaGreat
namespace Go.Proofs.YtcaccnneblghgaaGreat
namespace V
section
variable {T:TabD}
def aGJ (s:ScD):Prop:=2*s.steps≤s.at_*(s.at_+2*s.kept.length+1)+2*s.took
theorem aPe {a c e t:Nat} (ht:t≤c+1+e):a*(a+2*(c+1+e)+1)+2*t≤(a+(c+1))*(a+(c+1)+2*e+1):=by
 have h1:a*(a+2*(c+1+e)+1)=a*a+2*(a*c)+2*(a*e)+3*a:=by
  rw [show a+2*(c+1+e)+1=a+(c+c)+(e+e)+3 by omega,Nat.mul_add,Nat.mul_add,Nat.mul_add,Nat.mul_add,Nat.mul_add]; omega
 have h2:(a+(c+1))*(a+(c+1)+2*e+1)=a*a+2*(a*c)+2*(a*e)+3*a+c*c+2*(c*e)+3*c+2*e+2:=by
  rw [show a+(c+1)+2*e+1=a+c+(e+e)+2 by omega,show a+(c+1)=a+c+1 by omega]
  simp only [Nat.mul_add,Nat.add_mul,Nat.one_mul,Nat.mul_one]
  rw [Nat.mul_comm c a]
  omega
 rw [h1,h2]
 have:0≤c*c:=Nat.zero_le _
 omega
theorem aPf {s:ScD} (h:ScOk T s) (hk:s.kept≠[]) (hs:aGJ s):aGJ (oX T s):=by
 obtain ⟨h1,h2⟩:=aGc h hk
 have h3:=h.took
 obtain ⟨c,hc⟩:∃ c,fF s=c+1:=⟨fF s - 1,by omega⟩
 obtain ⟨e,he⟩:∃ e,s.kept.length=c+1+e:=⟨s.kept.length - (c+1),by omega⟩
 unfold aGJ at hs ⊢
 have e1:(oX T s).kept.length=e:=by rw [aKJ]; omega
 have e2:(oX T s).at_=s.at_+(c+1):=by show s.at_+fF s=_; rw [hc]
 have e3:(oX T s).took=0:=rfl
 have e4:(oX T s).steps=s.steps:=rfl
 rw [e1,e2,e3,e4]
 rw [he] at hs
 have:=aPe (a:=s.at_) (c:=c) (e:=e) (t:=s.took) (by omega)
 omega
theorem aOW {s:ScD} (h:ScOk T s) (hs:aGJ s):aGJ (fD T s).2:=by
 obtain ⟨_,_,_,_,h5,_⟩:=zP (rW T s).a (s.kept.drop s.took) (u0 s) h.tr
 have e1:(fD T s).2.steps+s.took=s.steps+(fD T s).2.took:=h5
 have e2:(fD T s).2.kept=s.kept:=rfl
 have e3:(fD T s).2.at_=s.at_:=rfl
 unfold aGJ at hs ⊢
 rw [e2,e3]
 omega
theorem aPg {s:ScD} (h:ScOk T s) (hs:aGJ s):2*s.steps≤(s.at_+s.kept.length)*(s.at_+s.kept.length+1):=by
 unfold aGJ at hs
 have h3:=h.took
 generalize s.at_=a at hs
 generalize s.kept.length=k at hs h3
 have h1:a*(a+2*k+1)=a*a+2*(a*k)+a:=by
  rw [show a+2*k+1=a+k+k+1 by omega]
  simp only [Nat.mul_add,Nat.mul_one]; omega
 have h2:(a+k)*(a+k+1)=a*a+2*(a*k)+k*k+a+k:=by
  simp only [Nat.mul_add,Nat.add_mul,Nat.mul_one,Nat.one_mul]
  rw [Nat.mul_comm k a]; omega
 rw [h1] at hs
 rw [h2]
 have:k≤k*k:=by
  cases k with
  | zero=>exact Nat.le_refl _
  | succ k=>exact Nat.le_mul_of_pos_left _ (Nat.succ_pos _)
 omega
structure TabR (T:TabD):Prop where
 ok:∀ e∈T.entries,eW e.a=true
 c256:∀ e∈T.entries,e.a.c.length=256
 rl:∀ e∈T.entries,∀ s∈e.a.states,∀ ru∈s.rule,ru < e.rules.length
 rk:∀ e∈T.entries,∀ r∈e.rules,0≤r∧r < T.kinds.length
 to:T.to.length=T.kinds.length
 tb:∀ t∈T.to,-1≤t∧t < T.conds.length
 len:T.entries.length=2*T.conds.length
 pos:1≤T.conds.length
theorem TabR.tok (h:TabR T):aOj T:=fun c r hc=>by
 unfold aDZ
 rw [h.len] at hc ⊢
 split
 ·rename_i hr
  by_cases hlt:r.toNat < T.to.length
  ·have hm:=h.tb _ (List.getElem_mem hlt)
   rw [List.getD_eq_getElem?_getD,List.getElem?_eq_getElem hlt]
   show 2*(T.to[r.toNat]).toNat+1 < _
   omega
  ·have hp:=h.pos
   rw [List.getD_eq_getElem?_getD,List.getElem?_eq_none (by omega)]
   show 2*(0:Int).toNat+1 < _
   have:(0:Int).toNat=0:=rfl
   omega
 ·exact hc
def aHP (T:TabD) (ms:List MacD) (n:Nat):Prop:=∀ (i:Nat) e m,T.entries[i]?=some e→ms[i]?=some m→MOk e.a m∧WLe (10*n) m.rs∧m.steps≤4*n
theorem aHP.mono {ms:List MacD} {n n':Nat} (h:aHP T ms n) (hn:n≤n'):aHP T ms n':=fun i e m he hm=>by
 obtain ⟨h1,h2,h3⟩:=h i e m he hm
 exact ⟨h1,h2.mono (by omega),by omega⟩
theorem aHP.set {ms:List MacD} {n j:Nat} {m':MacD} (h:aHP T ms n) (hm':∀ e,T.entries[j]?=some e→MOk e.a m'∧WLe (10*n) m'.rs∧m'.steps≤4*n):aHP T (ms.set j m') n:=fun i e m he hm=>by
 rw [List.getElem?_set] at hm
 split at hm
 ·rename_i hji
  subst hji
  split at hm
  ·cases hm; exact hm' e he
  ·cases hm
 ·exact h i e m he hm
theorem aOS (hT:TabR T) {e:EntD} (he:e∈T.entries) {m:MacD} (hm:MOk e.a m):qL e.a m=-1∨0≤qL e.a m∧qL e.a m < e.rules.length:=by
 unfold qL
 by_cases hc:m.cur=-1
 ·rw [if_pos hc]; exact .inl rfl
 ·rw [if_neg hc]
  have hf:=aGD (hT.ok e he) hm hc
  have h1:=hf.ru
  have hcur:0≤m.cur∧m.cur < e.a.states.length:=by rcases hm.1 with h | h<;>omega
  have hi:m.cur.toNat < e.a.states.length:=by omega
  have hs:f8 e.a m∈e.a.states:=by
   unfold f8
   rw [List.getD_eq_getElem?_getD,List.getElem?_eq_getElem hi]
   exact List.getElem_mem hi
  have h2:(f8 e.a m).rule.getD (hN e.a.counts m.rs (f8 e.a m).r) 0∈(f8 e.a m).rule:=by
   rw [List.getD_eq_getElem?_getD,List.getElem?_eq_getElem hf.kr]
   exact List.getElem_mem hf.kr
  have h3:=hT.rl e he _ hs _ h2
  omega
structure LkOk (K:Nat) (e:EntD) (t:TryD):Prop where
 mok:MOk e.a t.m
 w:WLe (K+9*t.steps) t.m.rs
 st:t.m.steps≤4*t.steps
 ru:t.rule=-1∨0≤t.rule∧t.rule < e.rules.length
theorem LkOk.tk0 (hT:TabR T) {K:Nat} {e:EntD} (he:e∈T.entries) {t:TryD} {b:Nat} (hb:b < 256) (h:LkOk K e t):LkOk K e (tk0 e.a t b):=by
 have h1:=aOX (hT.ok e he) h.mok (hT.c256 e he) hb
 have h2:=aPh (hT.ok e he) h.mok (hT.c256 e he) hb h.w
 have h3:=aJv (b:=b) (hT.ok e he) h.mok
 have h4:=h.st
 exact ⟨h1,h2.mono (by show K+9*t.steps+9≤K+9*(t.steps+1); omega),by show (lU e.a t.m b).steps≤4*(t.steps+1); omega,h.ru⟩
theorem LkOk.tk1 (hT:TabR T) {K:Nat} {e:EntD} (he:e∈T.entries) {t:TryD} {b:Nat} (hb:b < 256) (h:LkOk K e t):LkOk K e (tk1 e.a t b):=by
 have h0:=h.tk0 hT he hb
 unfold V.tk1
 split
 ·exact h0
 ·rename_i hr
  exact ⟨h0.mok,h0.w,h0.st,.inr ((aOS hT he h0.mok).resolve_left hr)⟩
theorem aKO (hT:TabR T) {K:Nat} {e:EntD} (he:e∈T.entries):∀ (l:List Nat) (t:TryD),(∀ b∈l,b < 256)→LkOk K e t→LkOk K e (aAd e.a l t).2
 | [],t,_,h=>h
 | b::r,t,hl,h=>by
  have hb:=hl b (by simp)
  rw [aBp]
  split
  ·exact aKO hT he r _ (fun x hx=>hl x (by simp [hx])) (h.tk1 hT he hb)
  ·exact h.tk0 hT he hb
structure ScI (T:TabD) (s:ScD):Prop where
 ok:ScOk T s
 c:2*s.cond+1 < T.entries.length
 ms:aHP T s.ms s.steps
 ru:s.rule=-1∨0≤s.rule∧s.rule < (rW T s).rules.length
 kb:∀ b∈s.kept,b < 256
 st:aGJ s
theorem ScI.at {s:ScD} (h:ScI T s):T.entries[qO s]?=some (rW T s)∧rW T s∈T.entries∧∃ m,s.ms[qO s]?=some m∧s.ms.getD (qO s) aP1=m:=by
 have h1:=h.ok.lt
 have h2:=h.ok.len
 have h3:T.entries[qO s]?=some (rW T s):=by
  unfold rW
  rw [List.getD_eq_getElem?_getD,List.getElem?_eq_getElem (by omega)]; rfl
 refine ⟨h3,List.mem_of_getElem? h3,s.ms[qO s],List.getElem?_eq_getElem h1,?_⟩
 rw [List.getD_eq_getElem?_getD,List.getElem?_eq_getElem h1]; rfl
theorem ScI.lk (hT:TabR T) {s:ScD} (h:ScI T s):LkOk (s.steps+1) (rW T s) (u0 s):=by
 obtain ⟨h1,h2,m,h3,h4⟩:=h.at
 obtain ⟨m1,m2,m3⟩:=h.ms _ _ _ h1 h3
 unfold u0
 rw [h4]
 split
 ·exact ⟨aND (hT.ok _ h2) m1,(aOQ m2).mono (by show 10*s.steps+1≤s.steps+1+9*s.steps; omega),m3,h.ru⟩
 ·exact ⟨m1,m2.mono (by show 10*s.steps≤s.steps+1+9*s.steps; omega),m3,h.ru⟩
theorem aPD (hT:TabR T) {s:ScD} (h:ScI T s) (hk:s.kept≠[]):ScI T (fD T s).2:=by
 obtain ⟨h1,h2,m,h3,h4⟩:=h.at
 have hl:0 < s.kept.length:=List.length_pos_iff.2 hk
 have htk:=h.ok.took
 have hend:LkOk (s.steps+1) (rW T s) (rV T s).2:=aKO hT h2 _ _ (fun b hb=>h.kb b (List.mem_of_mem_drop hb)) (h.lk hT)
 obtain ⟨_,e2,_,_,e5,e6⟩:=zP (rW T s).a (s.kept.drop s.took) (u0 s) h.ok.tr
 have e5:(rV T s).2.steps+s.took=s.steps+(rV T s).2.took:=e5
 have e2:s.took≤(rV T s).2.took:=e2
 refine ⟨(aNk h.ok).1,h.c,?_,hend.ru,h.kb,aOW h.ok h.st⟩
 show aHP T (s.ms.set (qO s) (rV T s).2.m) (rV T s).2.steps
 refine (h.ms.mono (by omega)).set fun e he=>?_
 rw [h1] at he
 cases he
 by_cases hd:s.kept.drop s.took=[]
 ·have e:rV T s=(false,u0 s):=by unfold rV; rw [hd]; rfl
  have h0:s.took≠0:=fun e0=>by rw [e0,List.drop_zero] at hd; exact hk hd
  obtain ⟨m1,m2,m3⟩:=h.ms _ _ _ h1 h3
  have em:(u0 s).m=m:=by unfold u0; rw [if_neg h0]; exact h4
  rw [e]
  show MOk (rW T s).a (u0 s).m∧WLe (10*s.steps) (u0 s).m.rs∧(u0 s).m.steps≤4*s.steps
  rw [em]
  exact ⟨m1,m2,m3⟩
 ·have e6:s.took < (rV T s).2.took:=e6 hd
  exact ⟨hend.mok,hend.w.mono (by omega),hend.st⟩
theorem aPw (hT:TabR T) {s:ScD} (h:ScI T s) (hk:s.kept≠[]):ScI T (oX T s):=by
 obtain ⟨c1,c2⟩:=aPC hT.tok h.c h.ok
 exact ⟨c1,c2,h.ms,.inl rfl,fun b hb=>h.kb b (List.mem_of_mem_drop hb),aPf h.ok hk h.st⟩
theorem aQJ (hT:TabR T):ScI T (nG T):=by
 have h1:=hT.len
 have h2:=hT.pos
 obtain ⟨n1,n2,_,_⟩:=aP0 (T:=T) (by omega)
 refine ⟨n1,n2,fun i e m he hm=>?_,.inl rfl,(fun b hb=>by cases hb),Nat.zero_le _⟩
 have hm:(T.entries.map fun e=>aDy e.a)[i]?=some m:=hm
 rw [List.getElem?_map,he] at hm
 cases hm
 refine ⟨aPZ (hT.ok e (List.mem_of_getElem? he)),fun r hr=>?_,Nat.zero_le _⟩
 obtain ⟨c9,_,rfl⟩:=List.mem_map.1 hr
 exact Nat.zero_le _
theorem aNN {s:ScD} (h:ScI T s):2*s.steps≤(s.at_+s.kept.length)*(s.at_+s.kept.length+1):=aPg h.ok h.st
end
end V
end Go.Proofs.YtcaccnneblghgaaGreat
namespace Go.Proofs.YtcaccnneblghgaaGreat
namespace V
def aGd (c:Nat):Bool:=decide (97≤c∧c≤122∨65≤c∧c≤90∨c=95)
def aGW (c:Nat):Bool:=decide (48≤c∧c≤57)
def oV:Bool→List Nat→Bool
 | _,[]=>true
 | first,c::r=>(aGd c || !first&&aGW c)&&oV false r
def jM (s:ByteArray):Bool:=oV true (bts s)&&(decide (1≤s.size)&&decide (s.size≤32))
def wL:List ByteArray→List ByteArray→Bool
 | _,[]=>true
 | seen,s::r=>jM s&&!(seen.any fun t=>decide (s=t))&&wL (seen++[s]) r
def jC (n:Nat) (s:ByteArray) (t:Int):Bool:=(decide (s=.empty) || jM s)&&(decide (-1≤t)&&decide (t < n))
def kX (n:Nat) (e:EntD):Bool:=rz (-1) n e.rules&&(eW e.a&&e.a.states.all fun s=>s.rule.all fun r=>decide (r < e.rules.length))
def zG : ByteArray := "start".toUTF8
def fM (T:TabD):Bool :=
 decide (1≤T.conds.length)&&(decide (T.conds.length≤8)&&(decide (T.conds.head?=some zG)&&(decide (T.kinds.length≤64)&&(decide (T.to.length=T.kinds.length)&&(decide (T.entries.length=2*T.conds.length) &&
  (wL [] T.conds&&((List.zip T.kinds T.to).all (fun x=>jC T.conds.length x.1 x.2)&&T.entries.all (kX T.kinds.length))))))))
theorem aIc {T:TabD} (h:fM T=true) (hc:∀ e∈T.entries,e.a.c.length=256):TabR T∧T.kinds.length≤64∧T.conds.length≤8:=by
 unfold fM at h
 simp only [Bool.and_eq_true,decide_eq_true_eq] at h
 obtain ⟨h1,h2,_,h4,h5,h6,_,h8,h9⟩:=h
 have hf:∀ e∈T.entries,rz (-1) T.kinds.length e.rules=true∧eW e.a=true∧∀ s∈e.a.states,∀ r∈s.rule,r < e.rules.length:=fun e he=>by
  have:=List.all_eq_true.1 h9 e he
  unfold kX at this
  simp only [Bool.and_eq_true] at this
  refine ⟨this.1,this.2.1,fun s hs r hr=>?_⟩
  have h3:=List.all_eq_true.1 this.2.2 s hs
  exact of_decide_eq_true (List.all_eq_true.1 h3 r hr)
 refine ⟨⟨fun e he=>(hf e he).2.1,hc,fun e he=>(hf e he).2.2,fun e he r hr=>?_,h5,fun t ht=>?_,h6,h1⟩,h4,h2⟩
 ·have:=aJn (hf e he).1 r hr
  omega
 ·obtain ⟨i,hi⟩:=List.getElem?_of_mem ht
  have hl:=(List.getElem?_eq_some_iff.1 hi).1
  have hz:(List.zip T.kinds T.to)[i]?=some (T.kinds[i]'(by omega),t):=by
   rw [List.getElem?_zip_eq_some]
   exact ⟨List.getElem?_eq_getElem _,hi⟩
  have:=List.all_eq_true.1 h8 _ (List.mem_of_getElem? hz)
  unfold jC at this
  simp only [Bool.and_eq_true,decide_eq_true_eq] at this
  exact this.2
end V
end Go.Proofs.YtcaccnneblghgaaGreat
namespace Go.Proofs.YtcaccnneblghgaaGreat
namespace V
attribute [local irreducible] a9 aN aA
@[irreducible] def qW (ro:Ro) (K:KV):Env→T Obj→Nat→Prop:=fun e h nx=>aA (aQ 3 (e 1)) fun t18_2=>aA (load1 ro h t18_2) fun t19_3=>aA (bI t19_3) fun t20_4=>aA (aO .leq t20_4 (Value.int IntKind.i64 8)) fun t21_5=>∃ h6,Sub h6 h∧K t21_5 h6 (nx+5)
@[irreducible] def aBZ (ro:Ro):PT:=fun e h nx Q=>aA (aO .lss (e 8) (e 7)) fun t9_10=>aS t9_10 (aA (cL 260 (e 6) (e 8)) fun t10_11=>aA (loadA ro h 260 t10_11) fun t11_12=>aA (zer Tryz.prog cH) fun z13=>cM h (nx+3) (.cells z13.cells cH) fun h14=>aA (bV 260 h14 (ptr (nx+3)) t11_12) fun h15=>aA (aQ 0 (ptr (nx+3))) fun t12_16=>aA (aQ 258 t12_16) fun t13_17=>aA (load1 ro h15 t13_17) fun t14_18=>aA (bI t14_18) fun t15_19=>aA (aO .gtr t15_19 (Value.int IntKind.i64 60)) fun t16_20=>aS t16_20 (Q .ret (puts e [(9,t9_10),(10,t10_11),(11,t11_12),(4,(ptr (nx+3))),(12,t12_16),(13,t13_17),(14,t14_18),(15,t15_19),(16,t16_20),(2,(Value.bool false))]) h15 (nx+11)) (aA (aO .add (e 8) (Value.int IntKind.i64 1)) fun t17_21=>Q .normal (puts e [(9,t9_10),(10,t10_11),(11,t11_12),(4,(ptr (nx+3))),(12,t12_16),(13,t13_17),(14,t14_18),(15,t15_19),(16,t16_20),(17,t17_21),(8,t17_21)]) h15 (nx+12))) (Q (.exit 0) (puts e [(9,t9_10)]) h (nx+1))
@[irreducible] def aBz (ro:Ro) (v0:Value) (h:T Obj) (nx:Nat) (K:KV):Prop:=cM h nx (.cells (Value.cells v0) c7) fun h1=>aA (aQ 3 (ptr nx)) fun t5_7=>aA (load1 ro h1 t5_7) fun t6_8=>aA (bI t6_8) fun t7_9=>dS (aBZ ro) (puts (gQ [v0]) [(1,(ptr nx)),(2,(Value.bool false)),(5,t5_7),(6,t6_8),(7,t7_9),(8,(Value.int IntKind.i64 0))]) h1 (nx+6) fun x25 e22 h23 n24=>exP x25 (qW ro K e22 h23 n24) (fun i26=>cO (Nat.beq i26 0) (qW ro K e22 h23 n24) (False)) (∃ h27,Sub h27 h23∧K (e22 2) h27 n24)
theorem aGa (ro:Ro) (v0:Value) (h:T Obj) (nx:Nat) (K:KV):a9 Tryz.prog ro (aN Tryz.prog ro) Tryz.f20 [v0] h nx K=aBz ro v0 h nx K:=by kernel_rfl
theorem aGb {ro:Ro} {v0:Value} {h:T Obj} {nx:Nat} {K:KV} (hw:aBz ro v0 h nx K):aN Tryz.prog ro xZ [v0] h nx K:=a7 (P:=Tryz.prog) (fn:=Tryz.f20) (by kernel_rfl) (by kernel_rfl) (by kernel_rfl) (Eq.mpr (aGa ro v0 h nx K) hw)
@[irreducible] def oC (ro:Ro) (K:KV):Env→T Obj→Nat→Prop:=fun e h nx=>∃ h152,Sub h152 h∧K (Value.bool true) h152 (nx+1)
@[irreducible] def yT (ro:Ro):PT:=fun e h nx Q=>aA (aQ 3 (e 1)) fun t121_153=>aA (load1 ro h t121_153) fun t122_154=>aA (bI t122_154) fun t123_155=>aA (aO .lss (e 6) t123_155) fun t124_156=>aS t124_156 (aA (aQ 3 (e 1)) fun t127_157=>aA (load1 ro h t127_157) fun t128_158=>aA (cL 260 t128_158 (e 6)) fun t130_159=>aA (loadA ro h 260 t130_159) fun t131_160=>aA (aQ 1 (e 1)) fun t132_161=>aA (load1 ro h t132_161) fun t133_162=>aA (bI t133_162) fun t134_163=>aN Tryz.prog ro vN [t131_160,t134_163] h (nx+15) fun t135_164 h165 n166=>aA (unV .not t135_164) fun t136_167=>aS t136_167 (Q .ret (puts e [(120,(e 6)),(121,t121_153),(122,t122_154),(123,t123_155),(124,t124_156),(127,t127_157),(128,t128_158),(129,(e 6)),(130,t130_159),(131,t131_160),(132,t132_161),(133,t133_162),(134,t134_163),(135,t135_164),(136,t136_167),(2,(Value.bool false))]) h165 (n166+1)) (aA (aO .add (e 6) (Value.int IntKind.i64 1)) fun t126_168=>Q .normal (puts e [(120,(e 6)),(121,t121_153),(122,t122_154),(123,t123_155),(124,t124_156),(127,t127_157),(128,t128_158),(129,(e 6)),(130,t130_159),(131,t131_160),(132,t132_161),(133,t133_162),(134,t134_163),(135,t135_164),(136,t136_167),(125,(e 6)),(126,t126_168),(6,t126_168)]) h165 (n166+3))) (Q (.exit 6) (puts e [(120,(e 6)),(121,t121_153),(122,t122_154),(123,t123_155),(124,t124_156)]) h (nx+5))
@[irreducible] def oB (ro:Ro) (K:KV):Env→T Obj→Nat→Prop:=fun e h nx=>dS (yT ro) (puts e [(6,(Value.int IntKind.i64 0))]) h (nx+1) fun x172 e169 h170 n171=>exP x172 (oC ro K e169 h170 n171) (fun i173=>cO (Nat.beq i173 6) (oC ro K e169 h170 n171) (False)) (∃ h174,Sub h174 h170∧K (e169 2) h174 n171)
@[irreducible] def yU (ro:Ro):PT:=fun e h nx Q=>aA (aQ 1 (e 1)) fun t80_175=>aA (load1 ro h t80_175) fun t81_176=>aA (bI t81_176) fun t82_177=>aA (aO .lss (e 5) t82_177) fun t83_178=>aS t83_178 (aA (aQ 1 (e 1)) fun t86_179=>aA (load1 ro h t86_179) fun t87_180=>aA (cL 1 t87_180 (e 5)) fun t89_181=>aA (load1 ro h t89_181) fun t90_182=>aA (aEe .neq t90_182 (Value.string { data:=#[] })) fun t91_183=>ifP t91_183 true h (nx+39) (fun k184=>aA (aQ 1 (e 1)) fun t93_188=>k184 t93_188 h (nx+39)) fun t93_185 h186 n187=>ifP t91_183 true h186 n187 (fun k189=>aA (load1 ro h186 t93_185) fun t94_193=>k189 t94_193 h186 n187) fun t94_190 h191 n192=>ifP t91_183 true h191 n192 (fun k194=>k194 (e 5) h191 n192) fun t95_195 h196 n197=>ifP t91_183 true h196 n197 (fun k198=>aA (cL 1 t94_190 t95_195) fun t96_202=>k198 t96_202 h196 n197) fun t96_199 h200 n201=>ifP t91_183 true h200 n201 (fun k203=>aA (load1 ro h200 t96_199) fun t97_207=>k203 t97_207 h200 n201) fun t97_204 h205 n206=>ifP t91_183 true h205 n206 (fun k208=>aN Tryz.prog ro qU [t97_204] h205 n206 fun t98_212 h213 n214=>k208 t98_212 h213 n214) fun t98_209 h210 n211=>ifP t91_183 true h210 n211 (fun k215=>aA (unV .not t98_209) fun t99_219=>k215 t99_219 h210 n211) fun t99_216 h217 n218=>aA (bH t91_183 t99_216 (Value.bool false)) fun t100_220=>ifP t100_220 false h217 n218 (fun k221=>aA (aQ 2 (e 1)) fun t102_225=>k221 t102_225 h217 n218) fun t102_222 h223 n224=>ifP t100_220 false h223 n224 (fun k226=>aA (load1 ro h223 t102_222) fun t103_230=>k226 t103_230 h223 n224) fun t103_227 h228 n229=>ifP t100_220 false h228 n229 (fun k231=>k231 (e 5) h228 n229) fun t104_232 h233 n234=>ifP t100_220 false h233 n234 (fun k235=>aA (cL 1 t103_227 t104_232) fun t105_239=>k235 t105_239 h233 n234) fun t105_236 h237 n238=>ifP t100_220 false h237 n238 (fun k240=>aA (load1 ro h237 t105_236) fun t106_244=>k240 t106_244 h237 n238) fun t106_241 h242 n243=>ifP t100_220 false h242 n243 (fun k245=>aA (aO .lss t106_241 (Value.int IntKind.i64 (-1))) fun t107_249=>k245 t107_249 h242 n243) fun t107_246 h247 n248=>aA (bH t100_220 (Value.bool true) t107_246) fun t108_250=>ifP t108_250 false h247 n248 (fun k251=>aA (aQ 2 (e 1)) fun t110_255=>k251 t110_255 h247 n248) fun t110_252 h253 n254=>ifP t108_250 false h253 n254 (fun k256=>aA (load1 ro h253 t110_252) fun t111_260=>k256 t111_260 h253 n254) fun t111_257 h258 n259=>ifP t108_250 false h258 n259 (fun k261=>k261 (e 5) h258 n259) fun t112_262 h263 n264=>ifP t108_250 false h263 n264 (fun k265=>aA (cL 1 t111_257 t112_262) fun t113_269=>k265 t113_269 h263 n264) fun t113_266 h267 n268=>ifP t108_250 false h267 n268 (fun k270=>aA (load1 ro h267 t113_266) fun t114_274=>k270 t114_274 h267 n268) fun t114_271 h272 n273=>ifP t108_250 false h272 n273 (fun k275=>aA (aQ 0 (e 1)) fun t115_279=>k275 t115_279 h272 n273) fun t115_276 h277 n278=>ifP t108_250 false h277 n278 (fun k280=>aA (load1 ro h277 t115_276) fun t116_284=>k280 t116_284 h277 n278) fun t116_281 h282 n283=>ifP t108_250 false h282 n283 (fun k285=>aA (bI t116_281) fun t117_289=>k285 t117_289 h282 n283) fun t117_286 h287 n288=>ifP t108_250 false h287 n288 (fun k290=>aA (aO .geq t114_271 t117_286) fun t118_294=>k290 t118_294 h287 n288) fun t118_291 h292 n293=>aA (bH t108_250 (Value.bool true) t118_291) fun t119_295=>aS t119_295 (Q .ret (puts e [(79,(e 5)),(80,t80_175),(81,t81_176),(82,t82_177),(83,t83_178),(86,t86_179),(87,t87_180),(88,(e 5)),(89,t89_181),(90,t90_182),(91,t91_183),(92,t91_183),(93,t93_185),(94,t94_190),(95,t95_195),(96,t96_199),(97,t97_204),(98,t98_209),(99,t99_216),(100,t100_220),(101,t100_220),(102,t102_222),(103,t103_227),(104,t104_232),(105,t105_236),(106,t106_241),(107,t107_246),(108,t108_250),(109,t108_250),(110,t110_252),(111,t111_257),(112,t112_262),(113,t113_266),(114,t114_271),(115,t115_276),(116,t116_281),(117,t117_286),(118,t118_291),(119,t119_295),(2,(Value.bool false))]) h292 (n293+1)) (aA (aO .add (e 5) (Value.int IntKind.i64 1)) fun t85_296=>Q .normal (puts e [(79,(e 5)),(80,t80_175),(81,t81_176),(82,t82_177),(83,t83_178),(86,t86_179),(87,t87_180),(88,(e 5)),(89,t89_181),(90,t90_182),(91,t91_183),(92,t91_183),(93,t93_185),(94,t94_190),(95,t95_195),(96,t96_199),(97,t97_204),(98,t98_209),(99,t99_216),(100,t100_220),(101,t100_220),(102,t102_222),(103,t103_227),(104,t104_232),(105,t105_236),(106,t106_241),(107,t107_246),(108,t108_250),(109,t108_250),(110,t110_252),(111,t111_257),(112,t112_262),(113,t113_266),(114,t114_271),(115,t115_276),(116,t116_281),(117,t117_286),(118,t118_291),(119,t119_295),(84,(e 5)),(85,t85_296),(5,t85_296)]) h292 (n293+3))) (Q (.exit 4) (puts e [(79,(e 5)),(80,t80_175),(81,t81_176),(82,t82_177),(83,t83_178)]) h (nx+5))
@[irreducible] def oA (ro:Ro) (K:KV):Env→T Obj→Nat→Prop:=fun e h nx=>dS (yU ro) (puts e [(5,(Value.int IntKind.i64 0))]) h (nx+1) fun x300 e297 h298 n299=>exP x300 (oB ro K e297 h298 n299) (fun i301=>cO (Nat.beq i301 4) (oB ro K e297 h298 n299) (False)) (∃ h302,Sub h302 h298∧K (e297 2) h302 n299)
@[irreducible] def lF (ro:Ro) (Q:KE):Env→T Obj→Nat→Prop:=fun e h nx=>aA (aO .add (e 3) (Value.int IntKind.i64 1)) fun t55_307=>Q .normal (puts e [(54,(e 3)),(55,t55_307),(3,t55_307)]) h (nx+3)
@[irreducible] def yW (ro:Ro):PT:=fun e h nx Q=>aA (aO .lss (e 4) (e 3)) fun t65_316=>aS t65_316 (aA (aQ 0 (e 1)) fun t68_317=>aA (load1 ro h t68_317) fun t69_318=>aA (cL 1 t69_318 (e 4)) fun t71_319=>aA (load1 ro h t71_319) fun t72_320=>aA (aQ 0 (e 1)) fun t73_321=>aA (load1 ro h t73_321) fun t74_322=>aA (cL 1 t74_322 (e 3)) fun t76_323=>aA (load1 ro h t76_323) fun t77_324=>aA (aEe .eql t72_320 t77_324) fun t78_325=>aS t78_325 (Q .ret (puts e [(63,(e 4)),(64,(e 3)),(65,t65_316),(68,t68_317),(69,t69_318),(70,(e 4)),(71,t71_319),(72,t72_320),(73,t73_321),(74,t74_322),(75,(e 3)),(76,t76_323),(77,t77_324),(78,t78_325),(2,(Value.bool false))]) h (nx+15)) (aA (aO .add (e 4) (Value.int IntKind.i64 1)) fun t67_326=>Q .normal (puts e [(63,(e 4)),(64,(e 3)),(65,t65_316),(68,t68_317),(69,t69_318),(70,(e 4)),(71,t71_319),(72,t72_320),(73,t73_321),(74,t74_322),(75,(e 3)),(76,t76_323),(77,t77_324),(78,t78_325),(66,(e 4)),(67,t67_326),(4,t67_326)]) h (nx+17))) (Q (.exit 2) (puts e [(63,(e 4)),(64,(e 3)),(65,t65_316)]) h (nx+3))
@[irreducible] def yV (ro:Ro):PT:=fun e h nx Q=>aA (aQ 0 (e 1)) fun t50_303=>aA (load1 ro h t50_303) fun t51_304=>aA (bI t51_304) fun t52_305=>aA (aO .lss (e 3) t52_305) fun t53_306=>aS t53_306 (aA (aQ 0 (e 1)) fun t56_308=>aA (load1 ro h t56_308) fun t57_309=>aA (cL 1 t57_309 (e 3)) fun t59_310=>aA (load1 ro h t59_310) fun t60_311=>aN Tryz.prog ro qU [t60_311] h (nx+11) fun t61_312 h313 n314=>aA (unV .not t61_312) fun t62_315=>aS t62_315 (Q .ret (puts e [(49,(e 3)),(50,t50_303),(51,t51_304),(52,t52_305),(53,t53_306),(56,t56_308),(57,t57_309),(58,(e 3)),(59,t59_310),(60,t60_311),(61,t61_312),(62,t62_315),(2,(Value.bool false))]) h313 (n314+2)) (dS (yW ro) (puts e [(49,(e 3)),(50,t50_303),(51,t51_304),(52,t52_305),(53,t53_306),(56,t56_308),(57,t57_309),(58,(e 3)),(59,t59_310),(60,t60_311),(61,t61_312),(62,t62_315),(4,(Value.int IntKind.i64 0))]) h313 (n314+2) fun x330 e327 h328 n329=>exP x330 (lF ro Q e327 h328 n329) (fun i331=>cO (Nat.beq i331 2) (lF ro Q e327 h328 n329) (cO (Nat.beq i331 1) (lF ro Q e327 h328 n329) (Q (.exit i331) e327 h328 n329))) (Q .ret e327 h328 n329))) (Q (.exit 0) (puts e [(49,(e 3)),(50,t50_303),(51,t51_304),(52,t52_305),(53,t53_306)]) h (nx+5))
@[irreducible] def yS (ro:Ro) (v0:Value) (h:T Obj) (nx:Nat) (K:KV):Prop:=cM h nx (.cells (Value.cells v0) c7) fun h1=>aA (aQ 0 (ptr nx)) fun t7_2=>aA (load1 ro h1 t7_2) fun t8_3=>aA (bI t8_3) fun t9_4=>aA (aO .lss t9_4 (Value.int IntKind.i64 1)) fun t10_5=>ifP t10_5 false h1 (nx+7) (fun k6=>aA (aQ 0 (ptr nx)) fun t12_10=>k6 t12_10 h1 (nx+8)) fun t12_7 h8 n9=>ifP t10_5 false h8 n9 (fun k11=>aA (load1 ro h8 t12_7) fun t13_15=>k11 t13_15 h8 (n9+1)) fun t13_12 h13 n14=>ifP t10_5 false h13 n14 (fun k16=>aA (bI t13_12) fun t14_20=>k16 t14_20 h13 (n14+1)) fun t14_17 h18 n19=>ifP t10_5 false h18 n19 (fun k21=>aA (aO .gtr t14_17 (Value.int IntKind.i64 8)) fun t15_25=>k21 t15_25 h18 (n19+1)) fun t15_22 h23 n24=>aA (bH t10_5 (Value.bool true) t15_22) fun t16_26=>ifP t16_26 false h23 (n24+2) (fun k27=>aA (aQ 0 (ptr nx)) fun t18_31=>k27 t18_31 h23 (n24+3)) fun t18_28 h29 n30=>ifP t16_26 false h29 n30 (fun k32=>aA (load1 ro h29 t18_28) fun t19_36=>k32 t19_36 h29 (n30+1)) fun t19_33 h34 n35=>ifP t16_26 false h34 n35 (fun k37=>aA (cL 1 t19_33 (Value.int IntKind.i64 0)) fun t20_41=>k37 t20_41 h34 (n35+1)) fun t20_38 h39 n40=>ifP t16_26 false h39 n40 (fun k42=>aA (load1 ro h39 t20_38) fun t21_46=>k42 t21_46 h39 (n40+1)) fun t21_43 h44 n45=>ifP t16_26 false h44 n45 (fun k47=>aA (aEe .neq t21_43 (Value.string { data:=#[115,116,97,114,116] })) fun t22_51=>k47 t22_51 h44 (n45+1)) fun t22_48 h49 n50=>aA (bH t16_26 (Value.bool true) t22_48) fun t23_52=>ifP t23_52 false h49 (n50+2) (fun k53=>aA (aQ 1 (ptr nx)) fun t25_57=>k53 t25_57 h49 (n50+3)) fun t25_54 h55 n56=>ifP t23_52 false h55 n56 (fun k58=>aA (load1 ro h55 t25_54) fun t26_62=>k58 t26_62 h55 (n56+1)) fun t26_59 h60 n61=>ifP t23_52 false h60 n61 (fun k63=>aA (bI t26_59) fun t27_67=>k63 t27_67 h60 (n61+1)) fun t27_64 h65 n66=>ifP t23_52 false h65 n66 (fun k68=>aA (aO .gtr t27_64 (Value.int IntKind.i64 64)) fun t28_72=>k68 t28_72 h65 (n66+1)) fun t28_69 h70 n71=>aA (bH t23_52 (Value.bool true) t28_69) fun t29_73=>ifP t29_73 false h70 (n71+2) (fun k74=>aA (aQ 2 (ptr nx)) fun t31_78=>k74 t31_78 h70 (n71+3)) fun t31_75 h76 n77=>ifP t29_73 false h76 n77 (fun k79=>aA (load1 ro h76 t31_75) fun t32_83=>k79 t32_83 h76 (n77+1)) fun t32_80 h81 n82=>ifP t29_73 false h81 n82 (fun k84=>aA (bI t32_80) fun t33_88=>k84 t33_88 h81 (n82+1)) fun t33_85 h86 n87=>ifP t29_73 false h86 n87 (fun k89=>aA (aQ 1 (ptr nx)) fun t34_93=>k89 t34_93 h86 (n87+1)) fun t34_90 h91 n92=>ifP t29_73 false h91 n92 (fun k94=>aA (load1 ro h91 t34_90) fun t35_98=>k94 t35_98 h91 (n92+1)) fun t35_95 h96 n97=>ifP t29_73 false h96 n97 (fun k99=>aA (bI t35_95) fun t36_103=>k99 t36_103 h96 (n97+1)) fun t36_100 h101 n102=>ifP t29_73 false h101 n102 (fun k104=>aA (aO .neq t33_85 t36_100) fun t37_108=>k104 t37_108 h101 (n102+1)) fun t37_105 h106 n107=>aA (bH t29_73 (Value.bool true) t37_105) fun t38_109=>ifP t38_109 false h106 (n107+2) (fun k110=>aA (aQ 3 (ptr nx)) fun t40_114=>k110 t40_114 h106 (n107+3)) fun t40_111 h112 n113=>ifP t38_109 false h112 n113 (fun k115=>aA (load1 ro h112 t40_111) fun t41_119=>k115 t41_119 h112 (n113+1)) fun t41_116 h117 n118=>ifP t38_109 false h117 n118 (fun k120=>aA (bI t41_116) fun t42_124=>k120 t42_124 h117 (n118+1)) fun t42_121 h122 n123=>ifP t38_109 false h122 n123 (fun k125=>aA (aQ 0 (ptr nx)) fun t43_129=>k125 t43_129 h122 (n123+1)) fun t43_126 h127 n128=>ifP t38_109 false h127 n128 (fun k130=>aA (load1 ro h127 t43_126) fun t44_134=>k130 t44_134 h127 (n128+1)) fun t44_131 h132 n133=>ifP t38_109 false h132 n133 (fun k135=>aA (bI t44_131) fun t45_139=>k135 t45_139 h132 (n133+1)) fun t45_136 h137 n138=>ifP t38_109 false h137 n138 (fun k140=>aA (aO .mul (Value.int IntKind.i64 2) t45_136) fun t46_144=>k140 t46_144 h137 (n138+1)) fun t46_141 h142 n143=>ifP t38_109 false h142 n143 (fun k145=>aA (aO .neq t42_121 t46_141) fun t47_149=>k145 t47_149 h142 (n143+1)) fun t47_146 h147 n148=>aA (bH t38_109 (Value.bool true) t47_146) fun t48_150=>aS t48_150 (∃ h151,Sub h151 h147∧K (Value.bool false) h151 (n148+2)) (dS (yV ro) (puts (gQ [v0]) [(1,(ptr nx)),(2,(Value.bool false)),(7,t7_2),(8,t8_3),(9,t9_4),(10,t10_5),(11,t10_5),(12,t12_7),(13,t13_12),(14,t14_17),(15,t15_22),(16,t16_26),(17,t16_26),(18,t18_28),(19,t19_33),(20,t20_38),(21,t21_43),(22,t22_48),(23,t23_52),(24,t23_52),(25,t25_54),(26,t26_59),(27,t27_64),(28,t28_69),(29,t29_73),(30,t29_73),(31,t31_75),(32,t32_80),(33,t33_85),(34,t34_90),(35,t35_95),(36,t36_100),(37,t37_105),(38,t38_109),(39,t38_109),(40,t40_111),(41,t41_116),(42,t42_121),(43,t43_126),(44,t44_131),(45,t45_136),(46,t46_141),(47,t47_146),(48,t48_150),(3,(Value.int IntKind.i64 0))]) h147 (n148+2) fun x335 e332 h333 n334=>exP x335 (oA ro K e332 h333 n334) (fun i336=>cO (Nat.beq i336 0) (oA ro K e332 h333 n334) (False)) (∃ h337,Sub h337 h333∧K (e332 2) h337 n334))
theorem aEX (ro:Ro) (v0:Value) (h:T Obj) (nx:Nat) (K:KV):a9 Tryz.prog ro (aN Tryz.prog ro) Tryz.f21 [v0] h nx K=yS ro v0 h nx K:=by kernel_rfl
theorem aEY {ro:Ro} {v0:Value} {h:T Obj} {nx:Nat} {K:KV} (hw:yS ro v0 h nx K):aN Tryz.prog ro tT [v0] h nx K:=a7 (P:=Tryz.prog) (fn:=Tryz.f21) (by kernel_rfl) (by kernel_rfl) (by kernel_rfl) (Eq.mpr (aEX ro v0 h nx K) hw)
@[irreducible] def qQ (ro:Ro) (K:KV):Env→T Obj→Nat→Prop:=fun e h nx=>aA (aQ 3 (e 1)) fun t104_152=>aA (load1 ro h t104_152) fun t105_153=>aN Tryz.prog ro d6 [t105_153,(.func (.func tM) #[] #[(e 1)])] h (nx+4) fun t107_154 h155 n156=>aA (unV .not t107_154) fun t108_157=>∃ h158,Sub h158 h155∧K t108_157 h158 (n156+2)
@[irreducible] def aBR (ro:Ro):PT:=fun e h nx Q=>aA (aO .lss (e 72) (e 71)) fun t73_162=>aS t73_162 (aA (cL 1 (e 70) (e 72)) fun t75_163=>aA (load1 ro h t75_163) fun t76_164=>aA (aEe .neq t76_164 (Value.string { data:=#[] })) fun t78_165=>ifP t78_165 true h (nx+32) (fun k166=>k166 t76_164 h (nx+32)) fun t80_167 h168 n169=>ifP t78_165 true h168 n169 (fun k170=>aN Tryz.prog ro pA [t80_167] h168 n169 fun t81_174 h175 n176=>k170 t81_174 h175 n176) fun t81_171 h172 n173=>ifP t78_165 true h172 n173 (fun k177=>aA (unV .not t81_171) fun t82_181=>k177 t82_181 h172 n173) fun t82_178 h179 n180=>aA (bH t78_165 t82_178 (Value.bool false)) fun t83_182=>ifP t83_182 false h179 n180 (fun k183=>aA (aQ 2 (e 1)) fun t85_187=>k183 t85_187 h179 n180) fun t85_184 h185 n186=>ifP t83_182 false h185 n186 (fun k188=>aA (load1 ro h185 t85_184) fun t86_192=>k188 t86_192 h185 n186) fun t86_189 h190 n191=>ifP t83_182 false h190 n191 (fun k193=>k193 (e 72) h190 n191) fun t87_194 h195 n196=>ifP t83_182 false h195 n196 (fun k197=>aA (cL 1 t86_189 t87_194) fun t88_201=>k197 t88_201 h195 n196) fun t88_198 h199 n200=>ifP t83_182 false h199 n200 (fun k202=>aA (load1 ro h199 t88_198) fun t89_206=>k202 t89_206 h199 n200) fun t89_203 h204 n205=>ifP t83_182 false h204 n205 (fun k207=>aA (aO .lss t89_203 (Value.int IntKind.i64 (-1))) fun t90_211=>k207 t90_211 h204 n205) fun t90_208 h209 n210=>aA (bH t83_182 (Value.bool true) t90_208) fun t91_212=>ifP t91_212 false h209 n210 (fun k213=>aA (aQ 2 (e 1)) fun t93_217=>k213 t93_217 h209 n210) fun t93_214 h215 n216=>ifP t91_212 false h215 n216 (fun k218=>aA (load1 ro h215 t93_214) fun t94_222=>k218 t94_222 h215 n216) fun t94_219 h220 n221=>ifP t91_212 false h220 n221 (fun k223=>k223 (e 72) h220 n221) fun t95_224 h225 n226=>ifP t91_212 false h225 n226 (fun k227=>aA (cL 1 t94_219 t95_224) fun t96_231=>k227 t96_231 h225 n226) fun t96_228 h229 n230=>ifP t91_212 false h229 n230 (fun k232=>aA (load1 ro h229 t96_228) fun t97_236=>k232 t97_236 h229 n230) fun t97_233 h234 n235=>ifP t91_212 false h234 n235 (fun k237=>aA (aQ 0 (e 1)) fun t98_241=>k237 t98_241 h234 n235) fun t98_238 h239 n240=>ifP t91_212 false h239 n240 (fun k242=>aA (load1 ro h239 t98_238) fun t99_246=>k242 t99_246 h239 n240) fun t99_243 h244 n245=>ifP t91_212 false h244 n245 (fun k247=>aA (bI t99_243) fun t100_251=>k247 t100_251 h244 n245) fun t100_248 h249 n250=>ifP t91_212 false h249 n250 (fun k252=>aA (aO .geq t97_233 t100_248) fun t101_256=>k252 t101_256 h249 n250) fun t101_253 h254 n255=>aA (bH t91_212 (Value.bool true) t101_253) fun t102_257=>aS t102_257 (Q .ret (puts e [(73,t73_162),(74,(e 72)),(75,t75_163),(76,t76_164),(5,(e 72)),(6,t76_164),(77,t76_164),(78,t78_165),(79,t78_165),(80,t80_167),(81,t81_171),(82,t82_178),(83,t83_182),(84,t83_182),(85,t85_184),(86,t86_189),(87,t87_194),(88,t88_198),(89,t89_203),(90,t90_208),(91,t91_212),(92,t91_212),(93,t93_214),(94,t94_219),(95,t95_224),(96,t96_228),(97,t97_233),(98,t98_238),(99,t99_243),(100,t100_248),(101,t101_253),(102,t102_257),(2,(Value.bool false))]) h254 (n255+1)) (aA (aO .add (e 72) (Value.int IntKind.i64 1)) fun t103_258=>Q .normal (puts e [(73,t73_162),(74,(e 72)),(75,t75_163),(76,t76_164),(5,(e 72)),(6,t76_164),(77,t76_164),(78,t78_165),(79,t78_165),(80,t80_167),(81,t81_171),(82,t82_178),(83,t83_182),(84,t83_182),(85,t85_184),(86,t86_189),(87,t87_194),(88,t88_198),(89,t89_203),(90,t90_208),(91,t91_212),(92,t91_212),(93,t93_214),(94,t94_219),(95,t95_224),(96,t96_228),(97,t97_233),(98,t98_238),(99,t99_243),(100,t100_248),(101,t101_253),(102,t102_257),(103,t103_258),(72,t103_258)]) h254 (n255+2))) (Q (.exit 2) (puts e [(73,t73_162)]) h (nx+1))
@[irreducible] def qP (ro:Ro) (K:KV):Env→T Obj→Nat→Prop:=fun e h nx=>aA (aQ 1 (e 1)) fun t69_159=>aA (load1 ro h t69_159) fun t70_160=>aA (bI t70_160) fun t71_161=>dS (aBR ro) (puts e [(69,t69_159),(70,t70_160),(71,t71_161),(72,(Value.int IntKind.i64 0))]) h (nx+4) fun x262 e259 h260 n261=>exP x262 (qQ ro K e259 h260 n261) (fun i263=>cO (Nat.beq i263 2) (qQ ro K e259 h260 n261) (False)) (∃ h264,Sub h264 h260∧K (e259 2) h264 n261)
@[irreducible] def aBS (ro:Ro):PT:=fun e h nx Q=>aA (aO .lss (e 52) (e 51)) fun t53_268=>aS t53_268 (aA (cL 1 (e 50) (e 52)) fun t55_269=>aA (load1 ro h t55_269) fun t56_270=>aN Tryz.prog ro pA [t56_270] h (nx+8) fun t58_271 h272 n273=>aA (unV .not t58_271) fun t59_274=>ifP t59_274 false h272 (n273+2) (fun k275=>aA (aQ 0 (e 1)) fun t61_279=>k275 t61_279 h272 (n273+3)) fun t61_276 h277 n278=>ifP t59_274 false h277 n278 (fun k280=>aA (load1 ro h277 t61_276) fun t62_284=>k280 t62_284 h277 (n278+1)) fun t62_281 h282 n283=>ifP t59_274 false h282 n283 (fun k285=>k285 t56_270 h282 (n283+1)) fun t63_286 h287 n288=>ifP t59_274 false h287 n288 (fun k289=>aN Tryz.prog ro gS [t62_281,t63_286] h287 (n288+1) fun t64_293 h294 n295=>k289 t64_293 h294 n295) fun t64_290 h291 n292=>ifP t59_274 false h291 n292 (fun k296=>k296 (e 52) h291 (n292+1)) fun t65_297 h298 n299=>ifP t59_274 false h298 n299 (fun k300=>aA (aO .neq t64_290 t65_297) fun t66_304=>k300 t66_304 h298 (n299+1)) fun t66_301 h302 n303=>aA (bH t59_274 (Value.bool true) t66_301) fun t67_305=>aS t67_305 (Q .ret (puts e [(53,t53_268),(54,(e 52)),(55,t55_269),(56,t56_270),(3,(e 52)),(4,t56_270),(57,t56_270),(58,t58_271),(59,t59_274),(60,t59_274),(61,t61_276),(62,t62_281),(63,t63_286),(64,t64_290),(65,t65_297),(66,t66_301),(67,t67_305),(2,(Value.bool false))]) h302 (n303+2)) (aA (aO .add (e 52) (Value.int IntKind.i64 1)) fun t68_306=>Q .normal (puts e [(53,t53_268),(54,(e 52)),(55,t55_269),(56,t56_270),(3,(e 52)),(4,t56_270),(57,t56_270),(58,t58_271),(59,t59_274),(60,t59_274),(61,t61_276),(62,t62_281),(63,t63_286),(64,t64_290),(65,t65_297),(66,t66_301),(67,t67_305),(68,t68_306),(52,t68_306)]) h302 (n303+3))) (Q (.exit 0) (puts e [(53,t53_268)]) h (nx+1))
@[irreducible] def aBq (ro:Ro) (v0:Value) (h:T Obj) (nx:Nat) (K:KV):Prop:=cM h nx (.cells (Value.cells v0) c7) fun h1=>aA (aQ 0 (ptr nx)) fun t7_2=>aA (load1 ro h1 t7_2) fun t8_3=>aA (bI t8_3) fun t9_4=>aA (aO .lss t9_4 (Value.int IntKind.i64 1)) fun t10_5=>ifP t10_5 false h1 (nx+7) (fun k6=>aA (aQ 0 (ptr nx)) fun t12_10=>k6 t12_10 h1 (nx+8)) fun t12_7 h8 n9=>ifP t10_5 false h8 n9 (fun k11=>aA (load1 ro h8 t12_7) fun t13_15=>k11 t13_15 h8 (n9+1)) fun t13_12 h13 n14=>ifP t10_5 false h13 n14 (fun k16=>aA (bI t13_12) fun t14_20=>k16 t14_20 h13 (n14+1)) fun t14_17 h18 n19=>ifP t10_5 false h18 n19 (fun k21=>aA (aO .gtr t14_17 (Value.int IntKind.i64 8)) fun t15_25=>k21 t15_25 h18 (n19+1)) fun t15_22 h23 n24=>aA (bH t10_5 (Value.bool true) t15_22) fun t16_26=>ifP t16_26 false h23 (n24+2) (fun k27=>aA (aQ 0 (ptr nx)) fun t18_31=>k27 t18_31 h23 (n24+3)) fun t18_28 h29 n30=>ifP t16_26 false h29 n30 (fun k32=>aA (load1 ro h29 t18_28) fun t19_36=>k32 t19_36 h29 (n30+1)) fun t19_33 h34 n35=>ifP t16_26 false h34 n35 (fun k37=>aA (cL 1 t19_33 (Value.int IntKind.i64 0)) fun t20_41=>k37 t20_41 h34 (n35+1)) fun t20_38 h39 n40=>ifP t16_26 false h39 n40 (fun k42=>aA (load1 ro h39 t20_38) fun t21_46=>k42 t21_46 h39 (n40+1)) fun t21_43 h44 n45=>ifP t16_26 false h44 n45 (fun k47=>aA (aEe .neq t21_43 (Value.string { data:=#[115,116,97,114,116] })) fun t22_51=>k47 t22_51 h44 (n45+1)) fun t22_48 h49 n50=>aA (bH t16_26 (Value.bool true) t22_48) fun t23_52=>ifP t23_52 false h49 (n50+2) (fun k53=>aA (aQ 1 (ptr nx)) fun t25_57=>k53 t25_57 h49 (n50+3)) fun t25_54 h55 n56=>ifP t23_52 false h55 n56 (fun k58=>aA (load1 ro h55 t25_54) fun t26_62=>k58 t26_62 h55 (n56+1)) fun t26_59 h60 n61=>ifP t23_52 false h60 n61 (fun k63=>aA (bI t26_59) fun t27_67=>k63 t27_67 h60 (n61+1)) fun t27_64 h65 n66=>ifP t23_52 false h65 n66 (fun k68=>aA (aO .gtr t27_64 (Value.int IntKind.i64 64)) fun t28_72=>k68 t28_72 h65 (n66+1)) fun t28_69 h70 n71=>aA (bH t23_52 (Value.bool true) t28_69) fun t29_73=>ifP t29_73 false h70 (n71+2) (fun k74=>aA (aQ 2 (ptr nx)) fun t31_78=>k74 t31_78 h70 (n71+3)) fun t31_75 h76 n77=>ifP t29_73 false h76 n77 (fun k79=>aA (load1 ro h76 t31_75) fun t32_83=>k79 t32_83 h76 (n77+1)) fun t32_80 h81 n82=>ifP t29_73 false h81 n82 (fun k84=>aA (bI t32_80) fun t33_88=>k84 t33_88 h81 (n82+1)) fun t33_85 h86 n87=>ifP t29_73 false h86 n87 (fun k89=>aA (aQ 1 (ptr nx)) fun t34_93=>k89 t34_93 h86 (n87+1)) fun t34_90 h91 n92=>ifP t29_73 false h91 n92 (fun k94=>aA (load1 ro h91 t34_90) fun t35_98=>k94 t35_98 h91 (n92+1)) fun t35_95 h96 n97=>ifP t29_73 false h96 n97 (fun k99=>aA (bI t35_95) fun t36_103=>k99 t36_103 h96 (n97+1)) fun t36_100 h101 n102=>ifP t29_73 false h101 n102 (fun k104=>aA (aO .neq t33_85 t36_100) fun t37_108=>k104 t37_108 h101 (n102+1)) fun t37_105 h106 n107=>aA (bH t29_73 (Value.bool true) t37_105) fun t38_109=>ifP t38_109 false h106 (n107+2) (fun k110=>aA (aQ 3 (ptr nx)) fun t40_114=>k110 t40_114 h106 (n107+3)) fun t40_111 h112 n113=>ifP t38_109 false h112 n113 (fun k115=>aA (load1 ro h112 t40_111) fun t41_119=>k115 t41_119 h112 (n113+1)) fun t41_116 h117 n118=>ifP t38_109 false h117 n118 (fun k120=>aA (bI t41_116) fun t42_124=>k120 t42_124 h117 (n118+1)) fun t42_121 h122 n123=>ifP t38_109 false h122 n123 (fun k125=>aA (aQ 0 (ptr nx)) fun t43_129=>k125 t43_129 h122 (n123+1)) fun t43_126 h127 n128=>ifP t38_109 false h127 n128 (fun k130=>aA (load1 ro h127 t43_126) fun t44_134=>k130 t44_134 h127 (n128+1)) fun t44_131 h132 n133=>ifP t38_109 false h132 n133 (fun k135=>aA (bI t44_131) fun t45_139=>k135 t45_139 h132 (n133+1)) fun t45_136 h137 n138=>ifP t38_109 false h137 n138 (fun k140=>aA (aO .mul (Value.int IntKind.i64 2) t45_136) fun t46_144=>k140 t46_144 h137 (n138+1)) fun t46_141 h142 n143=>ifP t38_109 false h142 n143 (fun k145=>aA (aO .neq t42_121 t46_141) fun t47_149=>k145 t47_149 h142 (n143+1)) fun t47_146 h147 n148=>aA (bH t38_109 (Value.bool true) t47_146) fun t48_150=>aS t48_150 (∃ h151,Sub h151 h147∧K (Value.bool false) h151 (n148+2)) (aA (aQ 0 (ptr nx)) fun t49_265=>aA (load1 ro h147 t49_265) fun t50_266=>aA (bI t50_266) fun t51_267=>dS (aBS ro) (puts (gQ [v0]) [(1,(ptr nx)),(2,(Value.bool false)),(7,t7_2),(8,t8_3),(9,t9_4),(10,t10_5),(11,t10_5),(12,t12_7),(13,t13_12),(14,t14_17),(15,t15_22),(16,t16_26),(17,t16_26),(18,t18_28),(19,t19_33),(20,t20_38),(21,t21_43),(22,t22_48),(23,t23_52),(24,t23_52),(25,t25_54),(26,t26_59),(27,t27_64),(28,t28_69),(29,t29_73),(30,t29_73),(31,t31_75),(32,t32_80),(33,t33_85),(34,t34_90),(35,t35_95),(36,t36_100),(37,t37_105),(38,t38_109),(39,t38_109),(40,t40_111),(41,t41_116),(42,t42_121),(43,t43_126),(44,t44_131),(45,t45_136),(46,t46_141),(47,t47_146),(48,t48_150),(49,t49_265),(50,t50_266),(51,t51_267),(52,(Value.int IntKind.i64 0))]) h147 (n148+5) fun x310 e307 h308 n309=>exP x310 (qP ro K e307 h308 n309) (fun i311=>cO (Nat.beq i311 0) (qP ro K e307 h308 n309) (False)) (∃ h312,Sub h312 h308∧K (e307 2) h312 n309))
theorem aG3 (ro:Ro) (v0:Value) (h:T Obj) (nx:Nat) (K:KV):a9 Tryz.prog ro (aN Tryz.prog ro) Tryz.f36 [v0] h nx K=aBq ro v0 h nx K:=by kernel_rfl
theorem aG4 {ro:Ro} {v0:Value} {h:T Obj} {nx:Nat} {K:KV} (hw:aBq ro v0 h nx K):aN Tryz.prog ro xY [v0] h nx K:=a7 (P:=Tryz.prog) (fn:=Tryz.f36) (by kernel_rfl) (by kernel_rfl) (by kernel_rfl) (Eq.mpr (aG3 ro v0 h nx K) hw)
@[irreducible] def pE (ro:Ro) (K:KV):Env→T Obj→Nat→Prop:=fun e h nx=>aA (vP (e 0)) fun t27_1=>aA (aO .geq t27_1 (Value.int IntKind.i64 1)) fun t28_2=>ifP t28_2 true h (nx+4) (fun k3=>k3 (e 0) h (nx+5)) fun t30_4 h5 n6=>ifP t28_2 true h5 n6 (fun k7=>aA (vP t30_4) fun t31_11=>k7 t31_11 h5 (n6+1)) fun t31_8 h9 n10=>ifP t28_2 true h9 n10 (fun k12=>aA (aO .leq t31_8 (Value.int IntKind.i64 32)) fun t32_16=>k12 t32_16 h9 (n10+1)) fun t32_13 h14 n15=>aA (bH t28_2 t32_13 (Value.bool false)) fun t33_17=>∃ h18,Sub h18 h14∧K t33_17 h18 (n15+2)
@[irreducible] def aAU (ro:Ro):PT:=fun e h nx Q=>aA (vP (e 0)) fun t6_19=>aA (aO .lss (e 3) t6_19) fun t7_20=>aS t7_20 (aA (aDp (e 0) (e 3)) fun t12_21=>aN Tryz.prog ro sE [t12_21] h (nx+8) fun t13_22 h23 n24=>aA (unV .not t13_22) fun t14_25=>ifP t14_25 true h23 (n24+2) (fun k26=>k26 (e 3) h23 (n24+3)) fun t16_27 h28 n29=>ifP t14_25 true h28 n29 (fun k30=>aA (aO .eql t16_27 (Value.int IntKind.i64 0)) fun t17_34=>k30 t17_34 h28 (n29+1)) fun t17_31 h32 n33=>ifP t14_25 true h32 n33 (fun k35=>k35 t17_31 h32 (n33+1)) fun t18_36 h37 n38=>ifP t18_36 false h37 n38 (fun k39=>k39 (e 0) h37 (n38+1)) fun t19_40 h41 n42=>ifP t18_36 false h41 n42 (fun k43=>k43 (e 3) h41 (n42+1)) fun t20_44 h45 n46=>ifP t18_36 false h45 n46 (fun k47=>aA (aDp t19_40 t20_44) fun t21_51=>k47 t21_51 h45 (n46+1)) fun t21_48 h49 n50=>ifP t18_36 false h49 n50 (fun k52=>aN Tryz.prog ro tP [t21_48] h49 (n50+1) fun t22_56 h57 n58=>k52 t22_56 h57 n58) fun t22_53 h54 n55=>ifP t18_36 false h54 n55 (fun k59=>aA (unV .not t22_53) fun t23_63=>k59 t23_63 h54 (n55+1)) fun t23_60 h61 n62=>ifP t14_25 true h61 n62 (fun k64=>aA (bH t18_36 (Value.bool true) t23_60) fun t24_68=>k64 t24_68 h61 (n62+1)) fun t24_65 h66 n67=>aA (bH t14_25 t24_65 (Value.bool false)) fun t25_69=>aS t25_69 (Q .ret (puts e [(4,(e 3)),(5,(e 0)),(6,t6_19),(7,t7_20),(10,(e 0)),(11,(e 3)),(12,t12_21),(13,t13_22),(14,t14_25),(15,t14_25),(16,t16_27),(17,t17_31),(18,t18_36),(19,t19_40),(20,t20_44),(21,t21_48),(22,t22_53),(23,t23_60),(24,t24_65),(25,t25_69),(2,(Value.bool false))]) h66 (n67+2)) (aA (aO .add (e 3) (Value.int IntKind.i64 1)) fun t9_70=>Q .normal (puts e [(4,(e 3)),(5,(e 0)),(6,t6_19),(7,t7_20),(10,(e 0)),(11,(e 3)),(12,t12_21),(13,t13_22),(14,t14_25),(15,t14_25),(16,t16_27),(17,t17_31),(18,t18_36),(19,t19_40),(20,t20_44),(21,t21_48),(22,t22_53),(23,t23_60),(24,t24_65),(25,t25_69),(8,(e 3)),(9,t9_70),(3,t9_70)]) h66 (n67+4))) (Q (.exit 0) (puts e [(4,(e 3)),(5,(e 0)),(6,t6_19),(7,t7_20)]) h (nx+4))
@[irreducible] def aAp (ro:Ro) (v0:Value) (h:T Obj) (nx:Nat) (K:KV):Prop:=dS (aAU ro) (puts (gQ [v0]) [(2,(Value.bool false)),(3,(Value.int IntKind.i64 0))]) h (nx+2) fun x74 e71 h72 n73=>exP x74 (pE ro K e71 h72 n73) (fun i75=>cO (Nat.beq i75 0) (pE ro K e71 h72 n73) (False)) (∃ h76,Sub h76 h72∧K (e71 2) h76 n73)
theorem aFS (ro:Ro) (v0:Value) (h:T Obj) (nx:Nat) (K:KV):a9 Tryz.prog ro (aN Tryz.prog ro) Tryz.f44 [v0] h nx K=aAp ro v0 h nx K:=by kernel_rfl
theorem aFT {ro:Ro} {v0:Value} {h:T Obj} {nx:Nat} {K:KV} (hw:aAp ro v0 h nx K):aN Tryz.prog ro qU [v0] h nx K:=a7 (P:=Tryz.prog) (fn:=Tryz.f44) (by kernel_rfl) (by kernel_rfl) (by kernel_rfl) (Eq.mpr (aFS ro v0 h nx K) hw)
@[irreducible] def pG (ro:Ro) (K:KV):Env→T Obj→Nat→Prop:=fun e h nx=>∃ h9,Sub h9 h∧K (Value.bool true) h9 (nx+1)
@[irreducible] def mH (ro:Ro) (Q:KE):Env→T Obj→Nat→Prop:=fun e h nx=>aA (aO .add (e 6) (Value.int IntKind.i64 1)) fun t59_15=>Q .normal (puts e [(58,(e 6)),(59,t59_15),(6,t59_15)]) h (nx+3)
@[irreducible] def aAY (ro:Ro):PT:=fun e h nx Q=>aA (aQ 0 (e 2)) fun t61_16=>aA (aQ 258 t61_16) fun t62_17=>aA (load1 ro h t62_17) fun t63_18=>aA (cL 4 t63_18 (e 6)) fun t65_19=>aA (aQ 2 t65_19) fun t66_20=>aA (load1 ro h t66_20) fun t67_21=>aA (bI t67_21) fun t68_22=>aA (aO .lss (e 7) t68_22) fun t69_23=>aS t69_23 (aA (aQ 0 (e 2)) fun t72_24=>aA (aQ 258 t72_24) fun t73_25=>aA (load1 ro h t73_25) fun t74_26=>aA (cL 4 t74_26 (e 6)) fun t76_27=>aA (aQ 2 t76_27) fun t77_28=>aA (load1 ro h t77_28) fun t78_29=>aA (cL 1 t78_29 (e 7)) fun t80_30=>aA (load1 ro h t80_30) fun t81_31=>aA (aQ 259 (e 2)) fun t82_32=>aA (load1 ro h t82_32) fun t83_33=>aA (bI t83_33) fun t84_34=>aA (aO .geq t81_31 t84_34) fun t85_35=>aS t85_35 (Q .ret (puts e [(60,(e 7)),(61,t61_16),(62,t62_17),(63,t63_18),(64,(e 6)),(65,t65_19),(66,t66_20),(67,t67_21),(68,t68_22),(69,t69_23),(72,t72_24),(73,t73_25),(74,t74_26),(75,(e 6)),(76,t76_27),(77,t77_28),(78,t78_29),(79,(e 7)),(80,t80_30),(81,t81_31),(82,t82_32),(83,t83_33),(84,t84_34),(85,t85_35),(4,(Value.bool false))]) h (nx+25)) (aA (aO .add (e 7) (Value.int IntKind.i64 1)) fun t71_36=>Q .normal (puts e [(60,(e 7)),(61,t61_16),(62,t62_17),(63,t63_18),(64,(e 6)),(65,t65_19),(66,t66_20),(67,t67_21),(68,t68_22),(69,t69_23),(72,t72_24),(73,t73_25),(74,t74_26),(75,(e 6)),(76,t76_27),(77,t77_28),(78,t78_29),(79,(e 7)),(80,t80_30),(81,t81_31),(82,t82_32),(83,t83_33),(84,t84_34),(85,t85_35),(70,(e 7)),(71,t71_36),(7,t71_36)]) h (nx+27))) (Q (.exit 4) (puts e [(60,(e 7)),(61,t61_16),(62,t62_17),(63,t63_18),(64,(e 6)),(65,t65_19),(66,t66_20),(67,t67_21),(68,t68_22),(69,t69_23)]) h (nx+10))
@[irreducible] def aAX (ro:Ro):PT:=fun e h nx Q=>aA (aQ 0 (e 2)) fun t53_10=>aA (aQ 258 t53_10) fun t54_11=>aA (load1 ro h t54_11) fun t55_12=>aA (bI t55_12) fun t56_13=>aA (aO .lss (e 6) t56_13) fun t57_14=>aS t57_14 (dS (aAY ro) (puts e [(52,(e 6)),(53,t53_10),(54,t54_11),(55,t55_12),(56,t56_13),(57,t57_14),(7,(Value.int IntKind.i64 0))]) h (nx+7) fun x40 e37 h38 n39=>exP x40 (mH ro Q e37 h38 n39) (fun i41=>cO (Nat.beq i41 4) (mH ro Q e37 h38 n39) (cO (Nat.beq i41 3) (mH ro Q e37 h38 n39) (Q (.exit i41) e37 h38 n39))) (Q .ret e37 h38 n39)) (Q (.exit 2) (puts e [(52,(e 6)),(53,t53_10),(54,t54_11),(55,t55_12),(56,t56_13),(57,t57_14)]) h (nx+6))
@[irreducible] def pF (ro:Ro) (K:KV):Env→T Obj→Nat→Prop:=fun e h nx=>dS (aAX ro) (puts e [(6,(Value.int IntKind.i64 0))]) h (nx+1) fun x45 e42 h43 n44=>exP x45 (pG ro K e42 h43 n44) (fun i46=>cO (Nat.beq i46 2) (pG ro K e42 h43 n44) (False)) (∃ h47,Sub h47 h43∧K (e42 4) h47 n44)
@[irreducible] def aAZ (ro:Ro):PT:=fun e h nx Q=>aA (aQ 259 (e 2)) fun t13_48=>aA (load1 ro h t13_48) fun t14_49=>aA (bI t14_49) fun t15_50=>aA (aO .lss (e 5) t15_50) fun t16_51=>aS t16_51 (aA (aQ 259 (e 2)) fun t19_52=>aA (load1 ro h t19_52) fun t20_53=>aA (cL 1 t20_53 (e 5)) fun t22_54=>aA (load1 ro h t22_54) fun t23_55=>aA (aO .lss t23_55 (Value.int IntKind.i64 0)) fun t24_56=>ifP t24_56 false h (nx+38) (fun k57=>aA (aQ 259 (e 2)) fun t26_61=>k57 t26_61 h (nx+38)) fun t26_58 h59 n60=>ifP t24_56 false h59 n60 (fun k62=>aA (load1 ro h59 t26_58) fun t27_66=>k62 t27_66 h59 n60) fun t27_63 h64 n65=>ifP t24_56 false h64 n65 (fun k67=>k67 (e 5) h64 n65) fun t28_68 h69 n70=>ifP t24_56 false h69 n70 (fun k71=>aA (cL 1 t27_63 t28_68) fun t29_75=>k71 t29_75 h69 n70) fun t29_72 h73 n74=>ifP t24_56 false h73 n74 (fun k76=>aA (load1 ro h73 t29_72) fun t30_80=>k76 t30_80 h73 n74) fun t30_77 h78 n79=>ifP t24_56 false h78 n79 (fun k81=>k81 (e 1) h78 n79) fun t31_82 h83 n84=>ifP t24_56 false h83 n84 (fun k85=>aA (aO .geq t30_77 t31_82) fun t32_89=>k85 t32_89 h83 n84) fun t32_86 h87 n88=>aA (bH t24_56 (Value.bool true) t32_86) fun t33_90=>ifP t33_90 false h87 n88 (fun k91=>k91 (e 5) h87 n88) fun t35_92 h93 n94=>ifP t33_90 false h93 n94 (fun k95=>aA (aO .gtr t35_92 (Value.int IntKind.i64 0)) fun t36_99=>k95 t36_99 h93 n94) fun t36_96 h97 n98=>ifP t33_90 false h97 n98 (fun k100=>k100 t36_96 h97 n98) fun t37_101 h102 n103=>ifP t37_101 true h102 n103 (fun k104=>aA (aQ 259 (e 2)) fun t38_108=>k104 t38_108 h102 n103) fun t38_105 h106 n107=>ifP t37_101 true h106 n107 (fun k109=>aA (load1 ro h106 t38_105) fun t39_113=>k109 t39_113 h106 n107) fun t39_110 h111 n112=>ifP t37_101 true h111 n112 (fun k114=>k114 (e 5) h111 n112) fun t40_115 h116 n117=>ifP t37_101 true h116 n117 (fun k118=>aA (aO .sub t40_115 (Value.int IntKind.i64 1)) fun t41_122=>k118 t41_122 h116 n117) fun t41_119 h120 n121=>ifP t37_101 true h120 n121 (fun k123=>aA (cL 1 t39_110 t41_119) fun t42_127=>k123 t42_127 h120 n121) fun t42_124 h125 n126=>ifP t37_101 true h125 n126 (fun k128=>aA (load1 ro h125 t42_124) fun t43_132=>k128 t43_132 h125 n126) fun t43_129 h130 n131=>ifP t37_101 true h130 n131 (fun k133=>aA (aQ 259 (e 2)) fun t44_137=>k133 t44_137 h130 n131) fun t44_134 h135 n136=>ifP t37_101 true h135 n136 (fun k138=>aA (load1 ro h135 t44_134) fun t45_142=>k138 t45_142 h135 n136) fun t45_139 h140 n141=>ifP t37_101 true h140 n141 (fun k143=>k143 (e 5) h140 n141) fun t46_144 h145 n146=>ifP t37_101 true h145 n146 (fun k147=>aA (cL 1 t45_139 t46_144) fun t47_151=>k147 t47_151 h145 n146) fun t47_148 h149 n150=>ifP t37_101 true h149 n150 (fun k152=>aA (load1 ro h149 t47_148) fun t48_156=>k152 t48_156 h149 n150) fun t48_153 h154 n155=>ifP t37_101 true h154 n155 (fun k157=>aA (aO .geq t43_129 t48_153) fun t49_161=>k157 t49_161 h154 n155) fun t49_158 h159 n160=>ifP t33_90 false h159 n160 (fun k162=>aA (bH t37_101 t49_158 (Value.bool false)) fun t50_166=>k162 t50_166 h159 n160) fun t50_163 h164 n165=>aA (bH t33_90 (Value.bool true) t50_163) fun t51_167=>aS t51_167 (Q .ret (puts e [(12,(e 5)),(13,t13_48),(14,t14_49),(15,t15_50),(16,t16_51),(19,t19_52),(20,t20_53),(21,(e 5)),(22,t22_54),(23,t23_55),(24,t24_56),(25,t24_56),(26,t26_58),(27,t27_63),(28,t28_68),(29,t29_72),(30,t30_77),(31,t31_82),(32,t32_86),(33,t33_90),(34,t33_90),(35,t35_92),(36,t36_96),(37,t37_101),(38,t38_105),(39,t39_110),(40,t40_115),(41,t41_119),(42,t42_124),(43,t43_129),(44,t44_134),(45,t45_139),(46,t46_144),(47,t47_148),(48,t48_153),(49,t49_158),(50,t50_163),(51,t51_167),(4,(Value.bool false))]) h164 (n165+1)) (aA (aO .add (e 5) (Value.int IntKind.i64 1)) fun t18_168=>Q .normal (puts e [(12,(e 5)),(13,t13_48),(14,t14_49),(15,t15_50),(16,t16_51),(19,t19_52),(20,t20_53),(21,(e 5)),(22,t22_54),(23,t23_55),(24,t24_56),(25,t24_56),(26,t26_58),(27,t27_63),(28,t28_68),(29,t29_72),(30,t30_77),(31,t31_82),(32,t32_86),(33,t33_90),(34,t33_90),(35,t35_92),(36,t36_96),(37,t37_101),(38,t38_105),(39,t39_110),(40,t40_115),(41,t41_119),(42,t42_124),(43,t43_129),(44,t44_134),(45,t45_139),(46,t46_144),(47,t47_148),(48,t48_153),(49,t49_158),(50,t50_163),(51,t51_167),(17,(e 5)),(18,t18_168),(5,t18_168)]) h164 (n165+3))) (Q (.exit 0) (puts e [(12,(e 5)),(13,t13_48),(14,t14_49),(15,t15_50),(16,t16_51)]) h (nx+5))
@[irreducible] def aAr (ro:Ro) (v0 v1:Value) (h:T Obj) (nx:Nat) (K:KV):Prop:=cM h nx (.cells (Value.cells v0) cH) fun h1=>aA (aQ 0 (ptr nx)) fun t8_2=>aA (loadA ro h1 259 t8_2) fun t9_3=>aN Tryz.prog ro tR [t9_3] h1 (nx+5) fun t10_4 h5 n6=>aA (unV .not t10_4) fun t11_7=>aS t11_7 (∃ h8,Sub h8 h5∧K (Value.bool false) h8 (n6+2)) (dS (aAZ ro) (puts (gQ [v0,v1]) [(2,(ptr nx)),(4,(Value.bool false)),(8,t8_2),(9,t9_3),(10,t10_4),(11,t11_7),(5,(Value.int IntKind.i64 0))]) h5 (n6+2) fun x172 e169 h170 n171=>exP x172 (pF ro K e169 h170 n171) (fun i173=>cO (Nat.beq i173 0) (pF ro K e169 h170 n171) (False)) (∃ h174,Sub h174 h170∧K (e169 4) h174 n171))
theorem aF1 (ro:Ro) (v0 v1:Value) (h:T Obj) (nx:Nat) (K:KV):a9 Tryz.prog ro (aN Tryz.prog ro) Tryz.f45 [v0,v1] h nx K=aAr ro v0 v1 h nx K:=by kernel_rfl
theorem aF2 {ro:Ro} {v0 v1:Value} {h:T Obj} {nx:Nat} {K:KV} (hw:aAr ro v0 v1 h nx K):aN Tryz.prog ro vN [v0,v1] h nx K:=a7 (P:=Tryz.prog) (fn:=Tryz.f45) (by kernel_rfl) (by kernel_rfl) (by kernel_rfl) (Eq.mpr (aF1 ro v0 v1 h nx K) hw)
@[irreducible] def oM (ro:Ro) (K:KV):Env→T Obj→Nat→Prop:=fun e h nx=>aA (vP (e 0)) fun t27_1=>aA (aO .geq t27_1 (Value.int IntKind.i64 1)) fun t28_2=>ifP t28_2 true h (nx+4) (fun k3=>k3 (e 0) h (nx+5)) fun t30_4 h5 n6=>ifP t28_2 true h5 n6 (fun k7=>aA (vP t30_4) fun t31_11=>k7 t31_11 h5 (n6+1)) fun t31_8 h9 n10=>ifP t28_2 true h9 n10 (fun k12=>aA (aO .leq t31_8 (Value.int IntKind.i64 32)) fun t32_16=>k12 t32_16 h9 (n10+1)) fun t32_13 h14 n15=>aA (bH t28_2 t32_13 (Value.bool false)) fun t33_17=>∃ h18,Sub h18 h14∧K t33_17 h18 (n15+2)
@[irreducible] def zK (ro:Ro):PT:=fun e h nx Q=>aA (aO .lss (e 6) (e 5)) fun t7_20=>aS t7_20 (aA (aDp (e 0) (e 6)) fun t11_21=>aN Tryz.prog ro qE [t11_21] h (nx+7) fun t12_22 h23 n24=>aA (unV .not t12_22) fun t13_25=>ifP t13_25 true h23 (n24+2) (fun k26=>k26 (e 6) h23 (n24+3)) fun t15_27 h28 n29=>ifP t13_25 true h28 n29 (fun k30=>aA (aO .eql t15_27 (Value.int IntKind.i64 0)) fun t16_34=>k30 t16_34 h28 (n29+1)) fun t16_31 h32 n33=>ifP t13_25 true h32 n33 (fun k35=>k35 t16_31 h32 (n33+1)) fun t17_36 h37 n38=>ifP t17_36 false h37 n38 (fun k39=>k39 (e 0) h37 (n38+1)) fun t18_40 h41 n42=>ifP t17_36 false h41 n42 (fun k43=>k43 (e 6) h41 (n42+1)) fun t19_44 h45 n46=>ifP t17_36 false h45 n46 (fun k47=>aA (aDp t18_40 t19_44) fun t20_51=>k47 t20_51 h45 (n46+1)) fun t20_48 h49 n50=>ifP t17_36 false h49 n50 (fun k52=>aN Tryz.prog ro sG [t20_48] h49 (n50+1) fun t21_56 h57 n58=>k52 t21_56 h57 n58) fun t21_53 h54 n55=>ifP t17_36 false h54 n55 (fun k59=>aA (unV .not t21_53) fun t22_63=>k59 t22_63 h54 (n55+1)) fun t22_60 h61 n62=>ifP t13_25 true h61 n62 (fun k64=>aA (bH t17_36 (Value.bool true) t22_60) fun t23_68=>k64 t23_68 h61 (n62+1)) fun t23_65 h66 n67=>aA (bH t13_25 t23_65 (Value.bool false)) fun t24_69=>aS t24_69 (Q .ret (puts e [(7,t7_20),(8,(e 6)),(3,(e 6)),(9,(e 0)),(10,(e 6)),(11,t11_21),(12,t12_22),(13,t13_25),(14,t13_25),(15,t15_27),(16,t16_31),(17,t17_36),(18,t18_40),(19,t19_44),(20,t20_48),(21,t21_53),(22,t22_60),(23,t23_65),(24,t24_69),(2,(Value.bool false))]) h66 (n67+2)) (aA (aO .add (e 6) (Value.int IntKind.i64 1)) fun t25_70=>Q .normal (puts e [(7,t7_20),(8,(e 6)),(3,(e 6)),(9,(e 0)),(10,(e 6)),(11,t11_21),(12,t12_22),(13,t13_25),(14,t13_25),(15,t15_27),(16,t16_31),(17,t17_36),(18,t18_40),(19,t19_44),(20,t20_48),(21,t21_53),(22,t22_60),(23,t23_65),(24,t24_69),(25,t25_70),(6,t25_70)]) h66 (n67+3))) (Q (.exit 0) (puts e [(7,t7_20)]) h (nx+1))
@[irreducible] def zJ (ro:Ro) (v0:Value) (h:T Obj) (nx:Nat) (K:KV):Prop:=aA (vP v0) fun t5_19=>dS (zK ro) (puts (gQ [v0]) [(2,(Value.bool false)),(4,v0),(5,t5_19),(6,(Value.int IntKind.i64 0))]) h (nx+4) fun x74 e71 h72 n73=>exP x74 (oM ro K e71 h72 n73) (fun i75=>cO (Nat.beq i75 0) (oM ro K e71 h72 n73) (False)) (∃ h76,Sub h76 h72∧K (e71 2) h76 n73)
theorem aEh (ro:Ro) (v0:Value) (h:T Obj) (nx:Nat) (K:KV):a9 Tryz.prog ro (aN Tryz.prog ro) Tryz.f69 [v0] h nx K=zJ ro v0 h nx K:=by kernel_rfl
theorem aEi {ro:Ro} {v0:Value} {h:T Obj} {nx:Nat} {K:KV} (hw:zJ ro v0 h nx K):aN Tryz.prog ro pA [v0] h nx K:=a7 (P:=Tryz.prog) (fn:=Tryz.f69) (by kernel_rfl) (by kernel_rfl) (by kernel_rfl) (Eq.mpr (aEh ro v0 h nx K) hw)
@[irreducible] def xX (ro:Ro) (v0 v1:Value) (h:T Obj) (nx:Nat) (K:KV):Prop:=cM h nx (.cells (Value.cells v0) cH) fun h1=>aA (loadA ro h1 260 (ptr nx)) fun t4_2=>aA (aQ 1 v1) fun t5_3=>aA (load1 ro h1 t5_3) fun t6_4=>aA (bI t6_4) fun t7_5=>aN Tryz.prog ro aAg [t4_2,t7_5] h1 (nx+7) fun t8_6 h7 n8=>aA (unV .not t8_6) fun t9_9=>∃ h10,Sub h10 h7∧K t9_9 h10 (n8+2)
theorem aDi (ro:Ro) (v0 v1:Value) (h:T Obj) (nx:Nat) (K:KV):a9 Tryz.prog ro (aN Tryz.prog ro) Tryz.f72 [v0,v1] h nx K=xX ro v0 v1 h nx K:=by kernel_rfl
theorem aDj {ro:Ro} {v0 v1:Value} {h:T Obj} {nx:Nat} {K:KV} (hw:xX ro v0 v1 h nx K):aN Tryz.prog ro tM [v0,v1] h nx K:=a7 (P:=Tryz.prog) (fn:=Tryz.f72) (by kernel_rfl) (by kernel_rfl) (by kernel_rfl) (Eq.mpr (aDi ro v0 v1 h nx K) hw)
@[irreducible] def s9 (ro:Ro) (K:KV):Env→T Obj→Nat→Prop:=fun e h nx=>aA (aQ 0 (e 2)) fun t25_2=>aA (loadA ro h 259 t25_2) fun t26_3=>aN Tryz.prog ro qS [t26_3] h (nx+3) fun t27_4 h5 n6=>aA (unV .not t27_4) fun t28_7=>aS t28_7 (∃ h8,Sub h8 h5∧K (Value.bool false) h8 (n6+2)) (aA (aQ 0 (e 2)) fun t29_9=>aA (aQ 258 t29_9) fun t30_10=>aA (load1 ro h5 t30_10) fun t31_11=>aN Tryz.prog ro dE [t31_11,(.func (.func vJ) #[] #[(e 2)])] h5 (n6+6) fun t33_12 h13 n14=>aA (unV .not t33_12) fun t34_15=>∃ h16,Sub h16 h13∧K t34_15 h16 (n14+2))
@[irreducible] def aC8 (ro:Ro):PT:=fun e h nx Q=>aA (aO .lss (e 11) (e 10)) fun t12_20=>aS t12_20 (aA (cL 1 (e 9) (e 11)) fun t13_21=>aA (load1 ro h t13_21) fun t14_22=>aA (aO .leq t14_22 (e 5)) fun t17_23=>ifP t17_23 false h (nx+8) (fun k24=>k24 t14_22 h (nx+9)) fun t19_25 h26 n27=>ifP t17_23 false h26 n27 (fun k28=>k28 (e 1) h26 (n27+1)) fun t20_29 h30 n31=>ifP t17_23 false h30 n31 (fun k32=>aA (aO .geq t19_25 t20_29) fun t21_36=>k32 t21_36 h30 (n31+1)) fun t21_33 h34 n35=>aA (bH t17_23 (Value.bool true) t21_33) fun t22_37=>aS t22_37 (Q .ret (puts e [(12,t12_20),(13,t13_21),(14,t14_22),(7,t14_22),(15,t14_22),(16,(e 5)),(17,t17_23),(18,t17_23),(19,t19_25),(20,t20_29),(21,t21_33),(22,t22_37),(4,(Value.bool false))]) h34 (n35+2)) (aA (aO .add (e 11) (Value.int IntKind.i64 1)) fun t24_38=>Q .normal (puts e [(12,t12_20),(13,t13_21),(14,t14_22),(7,t14_22),(15,t14_22),(16,(e 5)),(17,t17_23),(18,t17_23),(19,t19_25),(20,t20_29),(21,t21_33),(22,t22_37),(23,t14_22),(5,t14_22),(24,t24_38),(11,t24_38)]) h34 (n35+5))) (Q (.exit 0) (puts e [(12,t12_20)]) h (nx+1))
@[irreducible] def aDk (ro:Ro) (v0 v1:Value) (h:T Obj) (nx:Nat) (K:KV):Prop:=cM h nx (.cells (Value.cells v0) cH) fun h1=>aA (aQ 259 (ptr nx)) fun t8_17=>aA (load1 ro h1 t8_17) fun t9_18=>aA (bI t9_18) fun t10_19=>dS (aC8 ro) (puts (gQ [v0,v1]) [(2,(ptr nx)),(4,(Value.bool false)),(5,(Value.int IntKind.i64 (-1))),(8,t8_17),(9,t9_18),(10,t10_19),(11,(Value.int IntKind.i64 0))]) h1 (nx+7) fun x42 e39 h40 n41=>exP x42 (s9 ro K e39 h40 n41) (fun i43=>cO (Nat.beq i43 0) (s9 ro K e39 h40 n41) (False)) (∃ h44,Sub h44 h40∧K (e39 4) h44 n41)
theorem aHt (ro:Ro) (v0 v1:Value) (h:T Obj) (nx:Nat) (K:KV):a9 Tryz.prog ro (aN Tryz.prog ro) Tryz.f73 [v0,v1] h nx K=aDk ro v0 v1 h nx K:=by kernel_rfl
theorem aHu {ro:Ro} {v0 v1:Value} {h:T Obj} {nx:Nat} {K:KV} (hw:aDk ro v0 v1 h nx K):aN Tryz.prog ro aAg [v0,v1] h nx K:=a7 (P:=Tryz.prog) (fn:=Tryz.f73) (by kernel_rfl) (by kernel_rfl) (by kernel_rfl) (Eq.mpr (aHt ro v0 v1 h nx K) hw)
@[irreducible] def vW (ro:Ro) (v0:Value) (h:T Obj) (nx:Nat) (K:KV):Prop:=aA (aO .geq v0 (Value.int IntKind.u8 97)) fun t4_1=>ifP t4_1 true h (nx+4) (fun k2=>k2 v0 h (nx+5)) fun t6_3 h4 n5=>ifP t4_1 true h4 n5 (fun k6=>aA (aO .leq t6_3 (Value.int IntKind.u8 122)) fun t7_10=>k6 t7_10 h4 (n5+1)) fun t7_7 h8 n9=>aA (bH t4_1 t7_7 (Value.bool false)) fun t8_11=>ifP t8_11 false h8 (n9+2) (fun k12=>k12 v0 h8 (n9+3)) fun t10_13 h14 n15=>ifP t8_11 false h14 n15 (fun k16=>aA (aO .geq t10_13 (Value.int IntKind.u8 65)) fun t11_20=>k16 t11_20 h14 (n15+1)) fun t11_17 h18 n19=>ifP t8_11 false h18 n19 (fun k21=>k21 t11_17 h18 (n19+1)) fun t12_22 h23 n24=>ifP t12_22 true h23 n24 (fun k25=>k25 v0 h23 (n24+1)) fun t13_26 h27 n28=>ifP t12_22 true h27 n28 (fun k29=>aA (aO .leq t13_26 (Value.int IntKind.u8 90)) fun t14_33=>k29 t14_33 h27 (n28+1)) fun t14_30 h31 n32=>ifP t8_11 false h31 n32 (fun k34=>aA (bH t12_22 t14_30 (Value.bool false)) fun t15_38=>k34 t15_38 h31 (n32+1)) fun t15_35 h36 n37=>aA (bH t8_11 (Value.bool true) t15_35) fun t16_39=>ifP t16_39 false h36 (n37+2) (fun k40=>k40 v0 h36 (n37+3)) fun t18_41 h42 n43=>ifP t16_39 false h42 n43 (fun k44=>aA (aO .eql t18_41 (Value.int IntKind.u8 95)) fun t19_48=>k44 t19_48 h42 (n43+1)) fun t19_45 h46 n47=>aA (bH t16_39 (Value.bool true) t19_45) fun t20_49=>∃ h50,Sub h50 h46∧K t20_49 h50 (n47+2)
theorem aCw (ro:Ro) (v0:Value) (h:T Obj) (nx:Nat) (K:KV):a9 Tryz.prog ro (aN Tryz.prog ro) Tryz.f81 [v0] h nx K=vW ro v0 h nx K:=by kernel_rfl
theorem aCx {ro:Ro} {v0:Value} {h:T Obj} {nx:Nat} {K:KV} (hw:vW ro v0 h nx K):aN Tryz.prog ro sE [v0] h nx K:=a7 (P:=Tryz.prog) (fn:=Tryz.f81) (by kernel_rfl) (by kernel_rfl) (by kernel_rfl) (Eq.mpr (aCw ro v0 h nx K) hw)
@[irreducible] def yG (ro:Ro) (v0:Value) (h:T Obj) (nx:Nat) (K:KV):Prop:=aA (aO .geq v0 (Value.int IntKind.u8 48)) fun t4_1=>ifP t4_1 true h (nx+4) (fun k2=>k2 v0 h (nx+5)) fun t6_3 h4 n5=>ifP t4_1 true h4 n5 (fun k6=>aA (aO .leq t6_3 (Value.int IntKind.u8 57)) fun t7_10=>k6 t7_10 h4 (n5+1)) fun t7_7 h8 n9=>aA (bH t4_1 t7_7 (Value.bool false)) fun t8_11=>∃ h12,Sub h12 h8∧K t8_11 h12 (n9+2)
theorem aEL (ro:Ro) (v0:Value) (h:T Obj) (nx:Nat) (K:KV):a9 Tryz.prog ro (aN Tryz.prog ro) Tryz.f82 [v0] h nx K=yG ro v0 h nx K:=by kernel_rfl
theorem aEM {ro:Ro} {v0:Value} {h:T Obj} {nx:Nat} {K:KV} (hw:yG ro v0 h nx K):aN Tryz.prog ro tP [v0] h nx K:=a7 (P:=Tryz.prog) (fn:=Tryz.f82) (by kernel_rfl) (by kernel_rfl) (by kernel_rfl) (Eq.mpr (aEL ro v0 h nx K) hw)
@[irreducible] def uC (ro:Ro) (v0:Value) (h:T Obj) (nx:Nat) (K:KV):Prop:=aA (aO .geq v0 (Value.int IntKind.u8 97)) fun t4_1=>ifP t4_1 true h (nx+4) (fun k2=>k2 v0 h (nx+5)) fun t6_3 h4 n5=>ifP t4_1 true h4 n5 (fun k6=>aA (aO .leq t6_3 (Value.int IntKind.u8 122)) fun t7_10=>k6 t7_10 h4 (n5+1)) fun t7_7 h8 n9=>aA (bH t4_1 t7_7 (Value.bool false)) fun t8_11=>ifP t8_11 false h8 (n9+2) (fun k12=>k12 v0 h8 (n9+3)) fun t10_13 h14 n15=>ifP t8_11 false h14 n15 (fun k16=>aA (aO .geq t10_13 (Value.int IntKind.u8 65)) fun t11_20=>k16 t11_20 h14 (n15+1)) fun t11_17 h18 n19=>ifP t8_11 false h18 n19 (fun k21=>k21 t11_17 h18 (n19+1)) fun t12_22 h23 n24=>ifP t12_22 true h23 n24 (fun k25=>k25 v0 h23 (n24+1)) fun t13_26 h27 n28=>ifP t12_22 true h27 n28 (fun k29=>aA (aO .leq t13_26 (Value.int IntKind.u8 90)) fun t14_33=>k29 t14_33 h27 (n28+1)) fun t14_30 h31 n32=>ifP t8_11 false h31 n32 (fun k34=>aA (bH t12_22 t14_30 (Value.bool false)) fun t15_38=>k34 t15_38 h31 (n32+1)) fun t15_35 h36 n37=>aA (bH t8_11 (Value.bool true) t15_35) fun t16_39=>ifP t16_39 false h36 (n37+2) (fun k40=>k40 v0 h36 (n37+3)) fun t18_41 h42 n43=>ifP t16_39 false h42 n43 (fun k44=>aA (aO .eql t18_41 (Value.int IntKind.u8 95)) fun t19_48=>k44 t19_48 h42 (n43+1)) fun t19_45 h46 n47=>aA (bH t16_39 (Value.bool true) t19_45) fun t20_49=>∃ h50,Sub h50 h46∧K t20_49 h50 (n47+2)
theorem aCV (ro:Ro) (v0:Value) (h:T Obj) (nx:Nat) (K:KV):a9 Tryz.prog ro (aN Tryz.prog ro) Tryz.f109 [v0] h nx K=uC ro v0 h nx K:=by kernel_rfl
theorem aCW {ro:Ro} {v0:Value} {h:T Obj} {nx:Nat} {K:KV} (hw:uC ro v0 h nx K):aN Tryz.prog ro qE [v0] h nx K:=a7 (P:=Tryz.prog) (fn:=Tryz.f109) (by kernel_rfl) (by kernel_rfl) (by kernel_rfl) (Eq.mpr (aCV ro v0 h nx K) hw)
@[irreducible] def wB (ro:Ro) (v0:Value) (h:T Obj) (nx:Nat) (K:KV):Prop:=aA (aO .geq v0 (Value.int IntKind.u8 48)) fun t4_1=>ifP t4_1 true h (nx+4) (fun k2=>k2 v0 h (nx+5)) fun t6_3 h4 n5=>ifP t4_1 true h4 n5 (fun k6=>aA (aO .leq t6_3 (Value.int IntKind.u8 57)) fun t7_10=>k6 t7_10 h4 (n5+1)) fun t7_7 h8 n9=>aA (bH t4_1 t7_7 (Value.bool false)) fun t8_11=>∃ h12,Sub h12 h8∧K t8_11 h12 (n9+2)
theorem aCz (ro:Ro) (v0:Value) (h:T Obj) (nx:Nat) (K:KV):a9 Tryz.prog ro (aN Tryz.prog ro) Tryz.f110 [v0] h nx K=wB ro v0 h nx K:=by kernel_rfl
theorem aDA {ro:Ro} {v0:Value} {h:T Obj} {nx:Nat} {K:KV} (hw:wB ro v0 h nx K):aN Tryz.prog ro sG [v0] h nx K:=a7 (P:=Tryz.prog) (fn:=Tryz.f110) (by kernel_rfl) (by kernel_rfl) (by kernel_rfl) (Eq.mpr (aCz ro v0 h nx K) hw)
@[irreducible] def aAe (ro:Ro) (v0 v1:Value) (h:T Obj) (nx:Nat) (K:KV):Prop:=cM h nx (.cells (Value.cells v0) a8) fun h1=>aA (aQ 2 (ptr nx)) fun t4_2=>aA (load1 ro h1 t4_2) fun t5_3=>aN Tryz.prog ro lC [t5_3] h1 (nx+10) fun t6_4 h5 n6=>aA (aQ 259 v1) fun t7_7=>aA (load1 ro h5 t7_7) fun t8_8=>(jD t7_7 h1 h5)∧(aA (bI t8_8) fun t9_9=>aA (aO .geq t6_4 t9_9) fun t10_10=>∃ h11,Sub h11 h5∧K t10_10 h11 n6)
theorem aFH (ro:Ro) (v0 v1:Value) (h:T Obj) (nx:Nat) (K:KV):a9 Tryz.prog ro (aN Tryz.prog ro) Tryz.f113 [v0,v1] h nx K=aAe ro v0 v1 h nx K:=by kernel_rfl
theorem aFI {ro:Ro} {v0 v1:Value} {h:T Obj} {nx:Nat} {K:KV} (hw:aAe ro v0 v1 h nx K):aN Tryz.prog ro vJ [v0,v1] h nx K:=a7 (P:=Tryz.prog) (fn:=Tryz.f113) (by kernel_rfl) (by kernel_rfl) (by kernel_rfl) (Eq.mpr (aFH ro v0 v1 h nx K) hw)
end V
end Go.Proofs.YtcaccnneblghgaaGreat
namespace Go.Proofs.YtcaccnneblghgaaGreat
namespace V
attribute [local irreducible] aA ifP aS cM eQ exP cO
section
variable {ro:Ro} {h:T Obj} {nx:Nat} {K:KV}
theorem aDB {c:Nat} (hK:∀ nx',nx≤nx'→K (.bool (aGd c)) h nx'):aN Tryz.prog ro qE [.int .u8 (c:Int)] h nx K:=by
 have fin:∀ (b:Bool) n',nx≤n'→aGd c=b→∃ h',Sub h' h∧K (.bool b) h' n':=fun b n' hn hb=>⟨h,Sub.refl _,by rw [← hb]; exact hK _ hn⟩
 apply aCW
 unfold uC
 by_cases h1:97≤c
 ·by_cases h2:c≤122
  ·(repeat(first|refine aB (by simp (disch:=first|omega|exact nnN _|assumption) only [BB,B2,↓reduceIte,Nat.reduceLeDiff,Nat.reduceAdd,CC]<;>rfl) ?_|refine aD ?_|refine aE ?_|with_reducible first|refine aG ?_|refine aF ?_|refine aK ?_|refine aH ?_|refine aJ ?_|refine aI ?_|refine aL ?_|refine aC ?_))
   exact fin _ _ (by omega) (decide_eq_true (by omega))
  ·(repeat(first|refine aB (by simp (disch:=first|omega|exact nnN _|assumption) only [BB,B2,↓reduceIte,Nat.reduceLeDiff,Nat.reduceAdd,CC]<;>rfl) ?_|refine aD ?_|refine aE ?_|with_reducible first|refine aG ?_|refine aF ?_|refine aK ?_|refine aH ?_|refine aJ ?_|refine aI ?_|refine aL ?_|refine aC ?_))
   exact fin _ _ (by omega) (decide_eq_false (by omega))
 ·by_cases h3:65≤c
  ·by_cases h4:c≤90
   ·(repeat(first|refine aB (by simp (disch:=first|omega|exact nnN _|assumption) only [BB,B2,↓reduceIte,Nat.reduceLeDiff,Nat.reduceAdd,CC]<;>rfl) ?_|refine aD ?_|refine aE ?_|with_reducible first|refine aG ?_|refine aF ?_|refine aK ?_|refine aH ?_|refine aJ ?_|refine aI ?_|refine aL ?_|refine aC ?_))
    exact fin _ _ (by omega) (decide_eq_true (by omega))
   ·by_cases h5:c=95
    ·(repeat(first|refine aB (by simp (disch:=first|omega|exact nnN _|assumption) only [BB,B2,↓reduceIte,Nat.reduceLeDiff,Nat.reduceAdd,CC]<;>rfl) ?_|refine aD ?_|refine aE ?_|with_reducible first|refine aG ?_|refine aF ?_|refine aK ?_|refine aH ?_|refine aJ ?_|refine aI ?_|refine aL ?_|refine aC ?_))
     exact fin _ _ (by omega) (decide_eq_true (by omega))
    ·(repeat(first|refine aB (by simp (disch:=first|omega|exact nnN _|assumption) only [BB,B2,↓reduceIte,Nat.reduceLeDiff,Nat.reduceAdd,CC]<;>rfl) ?_|refine aD ?_|refine aE ?_|with_reducible first|refine aG ?_|refine aF ?_|refine aK ?_|refine aH ?_|refine aJ ?_|refine aI ?_|refine aL ?_|refine aC ?_))
     exact fin _ _ (by omega) (decide_eq_false (by omega))
  ·(repeat(first|refine aB (by simp (disch:=first|omega|exact nnN _|assumption) only [BB,B2,↓reduceIte,Nat.reduceLeDiff,Nat.reduceAdd,CC]<;>rfl) ?_|refine aD ?_|refine aE ?_|with_reducible first|refine aG ?_|refine aF ?_|refine aK ?_|refine aH ?_|refine aJ ?_|refine aI ?_|refine aL ?_|refine aC ?_))
   exact fin _ _ (by omega) (decide_eq_false (by omega))
theorem aEN {c:Nat} (hK:∀ nx',nx≤nx'→K (.bool (aGd c)) h nx'):aN Tryz.prog ro sE [.int .u8 (c:Int)] h nx K:=by
 have fin:∀ (b:Bool) n',nx≤n'→aGd c=b→∃ h',Sub h' h∧K (.bool b) h' n':=fun b n' hn hb=>⟨h,Sub.refl _,by rw [← hb]; exact hK _ hn⟩
 apply aCx
 unfold vW
 by_cases h1:97≤c
 ·by_cases h2:c≤122
  ·(repeat(first|refine aB (by simp (disch:=first|omega|exact nnN _|assumption) only [BB,B2,↓reduceIte,Nat.reduceLeDiff,Nat.reduceAdd,CC]<;>rfl) ?_|refine aD ?_|refine aE ?_|with_reducible first|refine aG ?_|refine aF ?_|refine aK ?_|refine aH ?_|refine aJ ?_|refine aI ?_|refine aL ?_|refine aC ?_))
   exact fin _ _ (by omega) (decide_eq_true (by omega))
  ·(repeat(first|refine aB (by simp (disch:=first|omega|exact nnN _|assumption) only [BB,B2,↓reduceIte,Nat.reduceLeDiff,Nat.reduceAdd,CC]<;>rfl) ?_|refine aD ?_|refine aE ?_|with_reducible first|refine aG ?_|refine aF ?_|refine aK ?_|refine aH ?_|refine aJ ?_|refine aI ?_|refine aL ?_|refine aC ?_))
   exact fin _ _ (by omega) (decide_eq_false (by omega))
 ·by_cases h3:65≤c
  ·by_cases h4:c≤90
   ·(repeat(first|refine aB (by simp (disch:=first|omega|exact nnN _|assumption) only [BB,B2,↓reduceIte,Nat.reduceLeDiff,Nat.reduceAdd,CC]<;>rfl) ?_|refine aD ?_|refine aE ?_|with_reducible first|refine aG ?_|refine aF ?_|refine aK ?_|refine aH ?_|refine aJ ?_|refine aI ?_|refine aL ?_|refine aC ?_))
    exact fin _ _ (by omega) (decide_eq_true (by omega))
   ·by_cases h5:c=95
    ·(repeat(first|refine aB (by simp (disch:=first|omega|exact nnN _|assumption) only [BB,B2,↓reduceIte,Nat.reduceLeDiff,Nat.reduceAdd,CC]<;>rfl) ?_|refine aD ?_|refine aE ?_|with_reducible first|refine aG ?_|refine aF ?_|refine aK ?_|refine aH ?_|refine aJ ?_|refine aI ?_|refine aL ?_|refine aC ?_))
     exact fin _ _ (by omega) (decide_eq_true (by omega))
    ·(repeat(first|refine aB (by simp (disch:=first|omega|exact nnN _|assumption) only [BB,B2,↓reduceIte,Nat.reduceLeDiff,Nat.reduceAdd,CC]<;>rfl) ?_|refine aD ?_|refine aE ?_|with_reducible first|refine aG ?_|refine aF ?_|refine aK ?_|refine aH ?_|refine aJ ?_|refine aI ?_|refine aL ?_|refine aC ?_))
     exact fin _ _ (by omega) (decide_eq_false (by omega))
  ·(repeat(first|refine aB (by simp (disch:=first|omega|exact nnN _|assumption) only [BB,B2,↓reduceIte,Nat.reduceLeDiff,Nat.reduceAdd,CC]<;>rfl) ?_|refine aD ?_|refine aE ?_|with_reducible first|refine aG ?_|refine aF ?_|refine aK ?_|refine aH ?_|refine aJ ?_|refine aI ?_|refine aL ?_|refine aC ?_))
   exact fin _ _ (by omega) (decide_eq_false (by omega))
theorem aEj {c:Nat} (hK:∀ nx',nx≤nx'→K (.bool (aGW c)) h nx'):aN Tryz.prog ro sG [.int .u8 (c:Int)] h nx K:=by
 have fin:∀ (b:Bool) n',nx≤n'→aGW c=b→∃ h',Sub h' h∧K (.bool b) h' n':=fun b n' hn hb=>⟨h,Sub.refl _,by rw [← hb]; exact hK _ hn⟩
 apply aDA
 unfold wB
 by_cases h1:48≤c
 ·by_cases h2:c≤57
  ·(repeat(first|refine aB (by simp (disch:=first|omega|exact nnN _|assumption) only [BB,B2,↓reduceIte,Nat.reduceLeDiff,Nat.reduceAdd,CC]<;>rfl) ?_|refine aD ?_|refine aE ?_|with_reducible first|refine aG ?_|refine aF ?_|refine aK ?_|refine aH ?_|refine aJ ?_|refine aI ?_|refine aL ?_|refine aC ?_))
   exact fin _ _ (by omega) (decide_eq_true (by omega))
  ·(repeat(first|refine aB (by simp (disch:=first|omega|exact nnN _|assumption) only [BB,B2,↓reduceIte,Nat.reduceLeDiff,Nat.reduceAdd,CC]<;>rfl) ?_|refine aD ?_|refine aE ?_|with_reducible first|refine aG ?_|refine aF ?_|refine aK ?_|refine aH ?_|refine aJ ?_|refine aI ?_|refine aL ?_|refine aC ?_))
   exact fin _ _ (by omega) (decide_eq_false (by omega))
 ·(repeat(first|refine aB (by simp (disch:=first|omega|exact nnN _|assumption) only [BB,B2,↓reduceIte,Nat.reduceLeDiff,Nat.reduceAdd,CC]<;>rfl) ?_|refine aD ?_|refine aE ?_|with_reducible first|refine aG ?_|refine aF ?_|refine aK ?_|refine aH ?_|refine aJ ?_|refine aI ?_|refine aL ?_|refine aC ?_))
  exact fin _ _ (by omega) (decide_eq_false (by omega))
theorem aFU {c:Nat} (hK:∀ nx',nx≤nx'→K (.bool (aGW c)) h nx'):aN Tryz.prog ro tP [.int .u8 (c:Int)] h nx K:=by
 have fin:∀ (b:Bool) n',nx≤n'→aGW c=b→∃ h',Sub h' h∧K (.bool b) h' n':=fun b n' hn hb=>⟨h,Sub.refl _,by rw [← hb]; exact hK _ hn⟩
 apply aEM
 unfold yG
 by_cases h1:48≤c
 ·by_cases h2:c≤57
  ·(repeat(first|refine aB (by simp (disch:=first|omega|exact nnN _|assumption) only [BB,B2,↓reduceIte,Nat.reduceLeDiff,Nat.reduceAdd,CC]<;>rfl) ?_|refine aD ?_|refine aE ?_|with_reducible first|refine aG ?_|refine aF ?_|refine aK ?_|refine aH ?_|refine aJ ?_|refine aI ?_|refine aL ?_|refine aC ?_))
   exact fin _ _ (by omega) (decide_eq_true (by omega))
  ·(repeat(first|refine aB (by simp (disch:=first|omega|exact nnN _|assumption) only [BB,B2,↓reduceIte,Nat.reduceLeDiff,Nat.reduceAdd,CC]<;>rfl) ?_|refine aD ?_|refine aE ?_|with_reducible first|refine aG ?_|refine aF ?_|refine aK ?_|refine aH ?_|refine aJ ?_|refine aI ?_|refine aL ?_|refine aC ?_))
   exact fin _ _ (by omega) (decide_eq_false (by omega))
 ·(repeat(first|refine aB (by simp (disch:=first|omega|exact nnN _|assumption) only [BB,B2,↓reduceIte,Nat.reduceLeDiff,Nat.reduceAdd,CC]<;>rfl) ?_|refine aD ?_|refine aE ?_|with_reducible first|refine aG ?_|refine aF ?_|refine aK ?_|refine aH ?_|refine aJ ?_|refine aI ?_|refine aL ?_|refine aC ?_))
  exact fin _ _ (by omega) (decide_eq_false (by omega))
end
end V
end Go.Proofs.YtcaccnneblghgaaGreat
namespace Go.Proofs.YtcaccnneblghgaaGreat
namespace V
attribute [local irreducible] aA ifP aS cM eQ exP cO
section
variable {ro:Ro} {h:T Obj} {nx:Nat} {K:KV}
set_option maxRecDepth 4000 in
theorem aA1 {s:ByteArray} (hs:s.size≤9223372036854775807) (hK:∀ nx',nx≤nx'→K (.bool (jM s)) h nx'):aN Tryz.prog ro pA [.string s] h nx K:=by
 have hbl:=aGQ s
 have hl:=aDr s
 rw [hbl] at hl
 apply aEi
 unfold zJ
 refine aB hl ?_
 refine bC (fun j e h' nx'=>∃ k:Nat,k+j=s.size∧nx≤nx'∧h'=h∧e 0=.string s∧e 5=.int .i64 (s.size:Nat)∧e 2=.bool false∧e 6=.int .i64 k∧oV true (bts s)=oV (decide (k=0)) ((bts s).drop k)) ?_ (n:=s.size) ⟨0,by omega,by omega,rfl,rfl,rfl, rfl,rfl,rfl⟩
 rintro j e h' nx' ⟨k,hj,hnx,rfl,e0,e5,e2,eI,hq⟩ Q' hc hx
 unfold zK
 rw [e5, e0,eI]
 refine dF (fun hk=>?_) (fun hk=>?_)
 ·have hk:k < s.size:=by omega
  have hkb:k < (bts s).length:=by omega
  have hbb:=aLs _ (List.getElem_mem hkb)
  have hix:=aFn (s:=s) (k:=.i64) hkb
  have hdr:(bts s).drop k=(bts s)[k]::(bts s).drop (k+1):=List.drop_eq_getElem_cons hkb
  rw [hdr] at hq
  generalize (bts s)[k]=b at hbb hix hq
  have hq:oV true (bts s)=((aGd b || !(decide (k=0))&&aGW b)&&oV false ((bts s).drop (k+1))):=hq
  have hcont:∀ (e':Env) n',nx≤n'→e' 0=.string s→e' 5=.int .i64 (s.size:Nat)→e' 2=.bool false→e' 6=.int .i64 ((k:Int)+1)→oV true (bts s)=oV false ((bts s).drop (k+1))→Q' .normal e' h' n':=by
   intro e' n' hn f0 f5 f2 fI hqq
   refine hc (j - 1) _ _ _ _ (by omega) ⟨k+1,by omega,hn,rfl,f0,f5,f2,by rw [fI]; rfl,?_⟩ (Sub.refl _)
   rw [hqq,decide_eq_false (by omega)]
  have hno:oV true (bts s)=false→K (.bool false) h'=K (.bool (jM s)) h':=fun hn=>by
   have:jM s=false:=by unfold jM; rw [hn]; rfl
   rw [this]
  (repeat(first|refine aB (by simp (disch:=first|omega|exact nnN _|assumption) only [BB,B2,↓reduceIte,Nat.reduceLeDiff,Nat.reduceAdd,CC,hix]<;>rfl) ?_|refine aD ?_|refine aE ?_|with_reducible first|refine aG ?_|refine aF ?_|refine aK ?_|refine aH ?_|refine aJ ?_|refine aI ?_|refine aL ?_|refine aC ?_))
  refine aDB fun n1 hn1=>?_
  cases hlt:aGd b with
  | true =>
   rw [hlt] at hq
   (repeat(first|refine aB (by simp (disch:=first|omega|exact nnN _|assumption) only [BB,B2,↓reduceIte,Nat.reduceLeDiff,Nat.reduceAdd,CC]<;>rfl) ?_|refine aD ?_|refine aE ?_|with_reducible first|refine aG ?_|refine aF ?_|refine aK ?_|refine aH ?_|refine aJ ?_|refine aI ?_|refine aL ?_|refine aC ?_))
   exact hcont _ _ (by omega) e0 e5 e2 rfl (by rw [hq]; simp)
  | false =>
   rw [hlt] at hq
   by_cases hk0:k=0
   ·(repeat(first|refine aB (by simp (disch:=first|omega|exact nnN _|assumption) only [BB,B2,↓reduceIte,Nat.reduceLeDiff,Nat.reduceAdd,CC]<;>rfl) ?_|refine aD ?_|refine aE ?_|with_reducible first|refine aG ?_|refine aF ?_|refine aK ?_|refine aH ?_|refine aJ ?_|refine aI ?_|refine aL ?_|refine aC ?_))
    refine hx _ _ _ _ (fun e=>by cases e) (eL ?_)
    refine ⟨h',Sub.refl _,?_⟩
    show K (.bool false) h' _
    rw [hno (by rw [hq,decide_eq_true hk0]; rfl)]
    exact hK _ (by omega)
   ·(repeat(first|refine aB (by simp (disch:=first|omega|exact nnN _|assumption) only [BB,B2,↓reduceIte,Nat.reduceLeDiff,Nat.reduceAdd,CC,hix]<;>rfl) ?_|refine aD ?_|refine aE ?_|with_reducible first|refine aG ?_|refine aF ?_|refine aK ?_|refine aH ?_|refine aJ ?_|refine aI ?_|refine aL ?_|refine aC ?_))
    refine aEj fun n2 hn2=>?_
    cases hdg:aGW b with
    | true =>
     rw [hdg] at hq
     (repeat(first|refine aB (by simp (disch:=first|omega|exact nnN _|assumption) only [BB,B2,↓reduceIte,Nat.reduceLeDiff,Nat.reduceAdd,CC]<;>rfl) ?_|refine aD ?_|refine aE ?_|with_reducible first|refine aG ?_|refine aF ?_|refine aK ?_|refine aH ?_|refine aJ ?_|refine aI ?_|refine aL ?_|refine aC ?_))
     exact hcont _ _ (by omega) e0 e5 e2 rfl (by rw [hq,decide_eq_false hk0]; simp)
    | false =>
     rw [hdg] at hq
     (repeat(first|refine aB (by simp (disch:=first|omega|exact nnN _|assumption) only [BB,B2,↓reduceIte,Nat.reduceLeDiff,Nat.reduceAdd,CC]<;>rfl) ?_|refine aD ?_|refine aE ?_|with_reducible first|refine aG ?_|refine aF ?_|refine aK ?_|refine aH ?_|refine aJ ?_|refine aI ?_|refine aL ?_|refine aC ?_))
     refine hx _ _ _ _ (fun e=>by cases e) (eL ?_)
     refine ⟨h',Sub.refl _,?_⟩
     show K (.bool false) h' _
     rw [hno (by rw [hq,decide_eq_false hk0]; rfl)]
     exact hK _ (by omega)
 ·have hk:k=s.size:=by omega
  have hnl:oV true (bts s)=true:=by rw [hq,List.drop_of_length_le (by omega)]; rfl
  (repeat(first|refine aB (by simp (disch:=first|omega|exact nnN _|assumption) only [BB,B2,↓reduceIte,Nat.reduceLeDiff,Nat.reduceAdd,CC]<;>rfl) ?_|refine aD ?_|refine aE ?_|with_reducible first|refine aG ?_|refine aF ?_|refine aK ?_|refine aH ?_|refine aJ ?_|refine aI ?_|refine aL ?_|refine aC ?_))
  refine hx _ _ _ _ (fun e=>by cases e) (eB (dA ?_))
  have hend:∀ (e':Env) n',nx≤n'→e' 0=.string s→oM ro K e' h' n':=by
   intro e' n' hn f0
   unfold oM
   rw [f0]
   refine aB hl ?_
   by_cases h1:1≤s.size
   ·(repeat(first|refine aB (by simp (disch:=first|omega|exact nnN _|assumption) only [BB,B2,↓reduceIte,Nat.reduceLeDiff,Nat.reduceAdd,CC]<;>rfl) ?_|refine aD ?_|refine aE ?_|with_reducible first|refine aG ?_|refine aF ?_|refine aK ?_|refine aH ?_|refine aJ ?_|refine aI ?_|refine aL ?_|refine aC ?_))
    refine aB hl ?_
    by_cases h2:s.size≤32
    ·(repeat(first|refine aB (by simp (disch:=first|omega|exact nnN _|assumption) only [BB,B2,↓reduceIte,Nat.reduceLeDiff,Nat.reduceAdd,CC]<;>rfl) ?_|refine aD ?_|refine aE ?_|with_reducible first|refine aG ?_|refine aF ?_|refine aK ?_|refine aH ?_|refine aJ ?_|refine aI ?_|refine aL ?_|refine aC ?_))
     refine ⟨h',Sub.refl _,?_⟩
     have:jM s=true:=by unfold jM; rw [hnl,decide_eq_true h1,decide_eq_true h2]; rfl
     rw [← this]; exact hK _ (by omega)
    ·(repeat(first|refine aB (by simp (disch:=first|omega|exact nnN _|assumption) only [BB,B2,↓reduceIte,Nat.reduceLeDiff,Nat.reduceAdd,CC]<;>rfl) ?_|refine aD ?_|refine aE ?_|with_reducible first|refine aG ?_|refine aF ?_|refine aK ?_|refine aH ?_|refine aJ ?_|refine aI ?_|refine aL ?_|refine aC ?_))
     refine ⟨h',Sub.refl _,?_⟩
     have:jM s=false:=by unfold jM; rw [hnl,decide_eq_true h1,decide_eq_false h2]; rfl
     rw [← this]; exact hK _ (by omega)
   ·(repeat(first|refine aB (by simp (disch:=first|omega|exact nnN _|assumption) only [BB,B2,↓reduceIte,Nat.reduceLeDiff,Nat.reduceAdd,CC]<;>rfl) ?_|refine aD ?_|refine aE ?_|with_reducible first|refine aG ?_|refine aF ?_|refine aK ?_|refine aH ?_|refine aJ ?_|refine aI ?_|refine aL ?_|refine aC ?_))
    refine ⟨h',Sub.refl _,?_⟩
    have:jM s=false:=by unfold jM; rw [hnl,decide_eq_false h1]; rfl
    rw [← this]; exact hK _ (by omega)
  exact hend _ _ (by omega) e0
set_option maxRecDepth 4000 in
theorem aBa {s:ByteArray} (hs:s.size≤9223372036854775807) (hK:∀ nx',nx≤nx'→K (.bool (jM s)) h nx'):aN Tryz.prog ro qU [.string s] h nx K:=by
 have hbl:=aGQ s
 have hl:=aDr s
 rw [hbl] at hl
 apply aFT
 unfold aAp
 skip
 refine bC (fun j e h' nx'=>∃ k:Nat,k+j=s.size∧nx≤nx'∧h'=h∧e 0=.string s∧ e 2=.bool false∧e 3=.int .i64 k∧oV true (bts s)=oV (decide (k=0)) ((bts s).drop k)) ?_ (n:=s.size) ⟨0,by omega,by omega,rfl,rfl, rfl,rfl,rfl⟩
 rintro j e h' nx' ⟨k,hj,hnx,rfl,e0, e2,eI,hq⟩ Q' hc hx
 unfold aAU
 rw [ e0,eI]
 refine aB hl ?_
 refine dF (fun hk=>?_) (fun hk=>?_)
 ·have hk:k < s.size:=by omega
  have hkb:k < (bts s).length:=by omega
  have hbb:=aLs _ (List.getElem_mem hkb)
  have hix:=aFn (s:=s) (k:=.i64) hkb
  have hdr:(bts s).drop k=(bts s)[k]::(bts s).drop (k+1):=List.drop_eq_getElem_cons hkb
  rw [hdr] at hq
  generalize (bts s)[k]=b at hbb hix hq
  have hq:oV true (bts s)=((aGd b || !(decide (k=0))&&aGW b)&&oV false ((bts s).drop (k+1))):=hq
  have hcont:∀ (e':Env) n',nx≤n'→e' 0=.string s→ e' 2=.bool false→e' 3=.int .i64 ((k:Int)+1)→oV true (bts s)=oV false ((bts s).drop (k+1))→Q' .normal e' h' n':=by
   intro e' n' hn f0  f2 fI hqq
   refine hc (j - 1) _ _ _ _ (by omega) ⟨k+1,by omega,hn,rfl,f0, f2,by rw [fI]; rfl,?_⟩ (Sub.refl _)
   rw [hqq,decide_eq_false (by omega)]
  have hno:oV true (bts s)=false→K (.bool false) h'=K (.bool (jM s)) h':=fun hn=>by
   have:jM s=false:=by unfold jM; rw [hn]; rfl
   rw [this]
  (repeat(first|refine aB (by simp (disch:=first|omega|exact nnN _|assumption) only [BB,B2,↓reduceIte,Nat.reduceLeDiff,Nat.reduceAdd,CC,hix]<;>rfl) ?_|refine aD ?_|refine aE ?_|with_reducible first|refine aG ?_|refine aF ?_|refine aK ?_|refine aH ?_|refine aJ ?_|refine aI ?_|refine aL ?_|refine aC ?_))
  refine aEN fun n1 hn1=>?_
  cases hlt:aGd b with
  | true =>
   rw [hlt] at hq
   (repeat(first|refine aB (by simp (disch:=first|omega|exact nnN _|assumption) only [BB,B2,↓reduceIte,Nat.reduceLeDiff,Nat.reduceAdd,CC]<;>rfl) ?_|refine aD ?_|refine aE ?_|with_reducible first|refine aG ?_|refine aF ?_|refine aK ?_|refine aH ?_|refine aJ ?_|refine aI ?_|refine aL ?_|refine aC ?_))
   exact hcont _ _ (by omega) e0  e2 rfl (by rw [hq]; simp)
  | false =>
   rw [hlt] at hq
   by_cases hk0:k=0
   ·(repeat(first|refine aB (by simp (disch:=first|omega|exact nnN _|assumption) only [BB,B2,↓reduceIte,Nat.reduceLeDiff,Nat.reduceAdd,CC]<;>rfl) ?_|refine aD ?_|refine aE ?_|with_reducible first|refine aG ?_|refine aF ?_|refine aK ?_|refine aH ?_|refine aJ ?_|refine aI ?_|refine aL ?_|refine aC ?_))
    refine hx _ _ _ _ (fun e=>by cases e) (eL ?_)
    refine ⟨h',Sub.refl _,?_⟩
    show K (.bool false) h' _
    rw [hno (by rw [hq,decide_eq_true hk0]; rfl)]
    exact hK _ (by omega)
   ·(repeat(first|refine aB (by simp (disch:=first|omega|exact nnN _|assumption) only [BB,B2,↓reduceIte,Nat.reduceLeDiff,Nat.reduceAdd,CC,hix]<;>rfl) ?_|refine aD ?_|refine aE ?_|with_reducible first|refine aG ?_|refine aF ?_|refine aK ?_|refine aH ?_|refine aJ ?_|refine aI ?_|refine aL ?_|refine aC ?_))
    refine aFU fun n2 hn2=>?_
    cases hdg:aGW b with
    | true =>
     rw [hdg] at hq
     (repeat(first|refine aB (by simp (disch:=first|omega|exact nnN _|assumption) only [BB,B2,↓reduceIte,Nat.reduceLeDiff,Nat.reduceAdd,CC]<;>rfl) ?_|refine aD ?_|refine aE ?_|with_reducible first|refine aG ?_|refine aF ?_|refine aK ?_|refine aH ?_|refine aJ ?_|refine aI ?_|refine aL ?_|refine aC ?_))
     exact hcont _ _ (by omega) e0  e2 rfl (by rw [hq,decide_eq_false hk0]; simp)
    | false =>
     rw [hdg] at hq
     (repeat(first|refine aB (by simp (disch:=first|omega|exact nnN _|assumption) only [BB,B2,↓reduceIte,Nat.reduceLeDiff,Nat.reduceAdd,CC]<;>rfl) ?_|refine aD ?_|refine aE ?_|with_reducible first|refine aG ?_|refine aF ?_|refine aK ?_|refine aH ?_|refine aJ ?_|refine aI ?_|refine aL ?_|refine aC ?_))
     refine hx _ _ _ _ (fun e=>by cases e) (eL ?_)
     refine ⟨h',Sub.refl _,?_⟩
     show K (.bool false) h' _
     rw [hno (by rw [hq,decide_eq_false hk0]; rfl)]
     exact hK _ (by omega)
 ·have hk:k=s.size:=by omega
  have hnl:oV true (bts s)=true:=by rw [hq,List.drop_of_length_le (by omega)]; rfl
  (repeat(first|refine aB (by simp (disch:=first|omega|exact nnN _|assumption) only [BB,B2,↓reduceIte,Nat.reduceLeDiff,Nat.reduceAdd,CC]<;>rfl) ?_|refine aD ?_|refine aE ?_|with_reducible first|refine aG ?_|refine aF ?_|refine aK ?_|refine aH ?_|refine aJ ?_|refine aI ?_|refine aL ?_|refine aC ?_))
  refine hx _ _ _ _ (fun e=>by cases e) (eB (dA ?_))
  have hend:∀ (e':Env) n',nx≤n'→e' 0=.string s→pE ro K e' h' n':=by
   intro e' n' hn f0
   unfold pE
   rw [f0]
   refine aB hl ?_
   by_cases h1:1≤s.size
   ·(repeat(first|refine aB (by simp (disch:=first|omega|exact nnN _|assumption) only [BB,B2,↓reduceIte,Nat.reduceLeDiff,Nat.reduceAdd,CC]<;>rfl) ?_|refine aD ?_|refine aE ?_|with_reducible first|refine aG ?_|refine aF ?_|refine aK ?_|refine aH ?_|refine aJ ?_|refine aI ?_|refine aL ?_|refine aC ?_))
    refine aB hl ?_
    by_cases h2:s.size≤32
    ·(repeat(first|refine aB (by simp (disch:=first|omega|exact nnN _|assumption) only [BB,B2,↓reduceIte,Nat.reduceLeDiff,Nat.reduceAdd,CC]<;>rfl) ?_|refine aD ?_|refine aE ?_|with_reducible first|refine aG ?_|refine aF ?_|refine aK ?_|refine aH ?_|refine aJ ?_|refine aI ?_|refine aL ?_|refine aC ?_))
     refine ⟨h',Sub.refl _,?_⟩
     have:jM s=true:=by unfold jM; rw [hnl,decide_eq_true h1,decide_eq_true h2]; rfl
     rw [← this]; exact hK _ (by omega)
    ·(repeat(first|refine aB (by simp (disch:=first|omega|exact nnN _|assumption) only [BB,B2,↓reduceIte,Nat.reduceLeDiff,Nat.reduceAdd,CC]<;>rfl) ?_|refine aD ?_|refine aE ?_|with_reducible first|refine aG ?_|refine aF ?_|refine aK ?_|refine aH ?_|refine aJ ?_|refine aI ?_|refine aL ?_|refine aC ?_))
     refine ⟨h',Sub.refl _,?_⟩
     have:jM s=false:=by unfold jM; rw [hnl,decide_eq_true h1,decide_eq_false h2]; rfl
     rw [← this]; exact hK _ (by omega)
   ·(repeat(first|refine aB (by simp (disch:=first|omega|exact nnN _|assumption) only [BB,B2,↓reduceIte,Nat.reduceLeDiff,Nat.reduceAdd,CC]<;>rfl) ?_|refine aD ?_|refine aE ?_|with_reducible first|refine aG ?_|refine aF ?_|refine aK ?_|refine aH ?_|refine aJ ?_|refine aI ?_|refine aL ?_|refine aC ?_))
    refine ⟨h',Sub.refl _,?_⟩
    have:jM s=false:=by unfold jM; rw [hnl,decide_eq_false h1]; rfl
    rw [← this]; exact hK _ (by omega)
  exact hend _ _ (by omega) e0
end
end V
end Go.Proofs.YtcaccnneblghgaaGreat
namespace Go.Proofs.YtcaccnneblghgaaGreat
namespace V
attribute [local irreducible] aA ifP aS cM eQ exP cO
section
variable {ro:Ro} {h:T Obj} {p a n w nx:Nat} {L:List Nat} {K:KV}
end
def Lo (h:T Obj) (L:List (Nat × List Value × TypeId)):Prop:=∀ b∈L,h.get b.1=some (.cells b.2.1.toArray b.2.2)∧b.2.2≠j9∧b.2.2≠aEp
def SW (hs:T Obj) (X:List Nat) (n0:Nat) (p:Nat) (pc:List Value) (L:List (Nat × List Value × TypeId)) (ps0:List (Nat × Nat)) (C:List (Int × Int)) (h:T Obj) (nx:Nat) (rs:List RgD) (ps:List (Nat × Nat)):Prop :=
 h.get p=some (.cells pc.toArray iK)∧Lo h L∧Sub (del hs X) h∧RsX WJ h ps C rs∧Dst ps∧mG ps=mG ps0∧(∀ q∈ps,q.1∈ps0.map (·.1)∧(q.2∈ps0.map (·.2)∨n0≤q.2))∧dU (p::jI ps0) hs h∧Fr h nx∧n0≤nx∧Fr hs n0∧∀ k∈p::jI ps0,k∈X
section
variable {ro:Ro} {hs h h':T Obj} {X:List Nat} {n0 p nx:Nat} {pc:List Value} {L:List (Nat × List Value × TypeId)} {ps0 ps:List (Nat × Nat)} {C:List (Int × Int)} {rs:List RgD} {K:KV}
theorem SW.mono {n':Nat} (hi:SW hs X n0 p pc L ps0 C h nx rs ps) (hn:nx≤n'):SW hs X n0 p pc L ps0 C h n' rs ps:=by
 obtain ⟨g1,g2,g3,g4,g5,g6,g7,g8,g9,g10,g11⟩:=hi
 exact ⟨g1,g2,g3,g4,g5,g6,g7,g8,g9.mono hn,by omega,g11⟩
theorem SW.sub {n':Nat} (hi:SW hs X n0 p pc L ps0 C h nx rs ps) (hs':Sub h h') (hf:Fr h' n') (hn:nx≤n'):SW hs X n0 p pc L ps0 C h' n' rs ps:=by
 obtain ⟨g1,g2,g3,g4,g5,g6,g7,g8,g9,g10,g11⟩:=hi
 exact ⟨hs' _ _ g1,fun b hb=>⟨hs' _ _ (g2 b hb).1,(g2 b hb).2⟩,g3.trans hs',g4.sub aDN hs',g5,g6,g7,fun k o hk hn=>hs' _ _ (g8 k o hk hn),hf,by omega,g11⟩
theorem aDI {ps:List (Nat × Nat)} {k:Nat} (h:k∈ps.map (·.1)):k∈jI ps:=by
 obtain ⟨q,hq,rfl⟩:=List.mem_map.1 h
 exact iB.2 ⟨q,hq,.inl rfl⟩
theorem aDJ {ps:List (Nat × Nat)} {k:Nat} (h:k∈ps.map (·.2)):k∈jI ps:=by
 obtain ⟨q,hq,rfl⟩:=List.mem_map.1 h
 exact iB.2 ⟨q,hq,.inr rfl⟩
theorem SW.ring {i n' a' w n:Nat} {q:Nat × Nat} {c:Int × Int} {M:List Nat} {r:RgD} (hi:SW hs X n0 p pc L ps0 C h nx rs ps) (hq:ps[i]?=some q) (hc:C[i]?=some c) (hR:WJ h q.1 q.2 n M w) (hR':WJ h' q.1 a' c.2.toNat r.1 r.2) (ha:a'=q.2∨nx≤a') (hg:∀ k,k < nx→k≠q.1→k≠q.2→h'.get k=h.get k) (hf:Fr h' n') (hn:nx≤n') :
  SW hs X n0 p pc L ps0 C h' n' (rs.set i r) (ps.set i (q.1,a')):=by
 obtain ⟨g1,g2,g3,g4,g5,g6,g7,g8,g9,g10,g11,g12⟩:=hi
 have hm:=List.mem_of_getElem? hq
 obtain ⟨m1,m2⟩:=g7 q hm
 obtain ⟨c1,t1⟩:=aDN.p hR
 obtain ⟨c2,t2⟩:=aDN.a hR
 have hlt:=g4.lt aDN g9
 have hget:∀ {k:Nat} {c:Array Value} {e:TypeId},h.get k=some (.cells c e)→e≠j9→e≠aEp→h'.get k=some (.cells c e):=fun hk h1 h2=>by
  rw [hg _ (g9.lt' hk) (jN hk t1 h1) (jN hk t2 h2)]; exact hk
 refine ⟨hget g1 (by decide) (by decide),fun b hb=>⟨hget (g2 b hb).1 (g2 b hb).2.1 (g2 b hb).2.2,(g2 b hb).2⟩,fun k o hk=>?_,g4.set aDN g5 g9 hq hc hR' hg,g5.set hq ?_,(aLZ hq).trans g6,fun r hr=>?_,fun k o hk hkn=>?_,hf,by omega,g11,g12⟩
 ·have h1:=hk
  rw [jE] at h1
  split at h1
  ·cases h1
  ·rename_i hnX
   have hk0:=g11.lt' h1
   rw [hg k (by omega) (fun e=>hnX (by rw [e]; exact g12 _ (List.mem_cons_of_mem _ (aDI m1)))) (fun e=>?_)]
   ·exact g3 k o hk
   ·rcases m2 with m2 | m2
    ·exact hnX (by rw [e]; exact g12 _ (List.mem_cons_of_mem _ (aDJ m2)))
    ·omega
 ·rcases ha with ha | ha
  ·exact .inl ha
  ·exact .inr fun s hs=>by have:=(hlt s hs).2; omega
 ·rcases List.mem_or_eq_of_mem_set hr with h1 | h1
  ·exact g7 r h1
  ·subst h1
   refine ⟨m1,?_⟩
   rcases ha with ha | ha
   ·subst ha; exact m2
   ·exact .inr (show n0≤a' by omega)
 ·have hk0:=g11.lt' hk
  rw [hg k (by omega) (fun e=>hkn (by rw [e]; exact List.mem_cons_of_mem _ (aDI m1))) (fun e=>?_)]
  ·exact g8 k o hk hkn
  ·rcases m2 with m2 | m2
   ·exact hkn (by rw [e]; exact List.mem_cons_of_mem _ (aDJ m2))
   ·omega
theorem SW.cell {pc':List Value} (hi:SW hs X n0 p pc L ps0 C h nx rs ps) (h1:h'.get p=some (.cells pc'.toArray iK)) (h2:∀ k,k≠p→h'.get k=h.get k) (hL:∀ b∈L,b.2.2≠iK):SW hs X n0 p pc' L ps0 C h' nx rs ps:=by
 obtain ⟨g1,g2,g3,g4,g5,g6,g7,g8,g9,g10,g11,g12⟩:=hi
 have hp:=g9.lt' g1
 refine ⟨h1,fun b hb=>⟨?_,(g2 b hb).2⟩,fun k o hk=>?_,g4.keep aDN fun q hq=>?_,g5,g6,g7,fun k o hk hkn=>?_,fun k hk=>by rw [h2 k (by omega)]; exact g9 k hk,g10,g11,g12⟩
 ·rw [h2 _ (jN (g2 b hb).1 g1 (hL b hb))]; exact (g2 b hb).1
 ·have h9:=hk
  rw [jE] at h9
  split at h9
  ·cases h9
  ·rename_i hnX
   rw [h2 k (fun e=>hnX (by rw [e]; exact g12 _ (List.mem_cons_self ..)))]; exact g3 k o hk
 ·obtain ⟨⟨c1,t1⟩,c2,t2⟩:=g4.ty aDN q hq
  exact ⟨h2 _ (jN t1 g1 (by decide)),h2 _ (jN t2 g1 (by decide))⟩
 ·rw [h2 k fun e=>hkn (by rw [e]; exact List.mem_cons_self ..)]
  exact g8 k o hk hkn
def X2 (X:List Nat) (ps:List (Nat × Nat)):List Nat:=ps.map (·.2)++X
end
def aAE (ro:Ro) (h:T Obj) (nx:Nat) (X:List Nat) (p:Nat) (ps:List (Nat × Nat)) (d:AutoD) (m':MacD) (h':T Obj) (nx':Nat) (X':List Nat) (ps':List (Nat × Nat)):Prop :=
 nx≤nx'∧Fr h' nx'∧dU (p::jI ps) h h'∧(∀ k∈X',k∈X∨h.get k=none)∧(∀ k∈X,k∈X')∧(∀ k∈jI ps',k∈jI ps∨nx≤k)∧MW ro h' X' p ps' d m'
section
variable {ro:Ro} {h h':T Obj} {X:List Nat} {n0 p nx n':Nat} {L:List (Nat × List Value × TypeId)} {ps ps':List (Nat × Nat)} {d:AutoD} {m m':MacD} {cv sv rv:Value} {K:KV}
theorem SW.left (hA:qI ro (del h X) (dQ d.c d.many cv sv) d) (hP:Sl ro (del h X) rv 1 (mG ps)) (hn:nx≤n0) (hi:SW h X n0 p (dT d.c d.many cv sv m'.cur rv m'.steps) L ps d.counts h' n' m'.rs ps'):aAE ro h nx X p ps d m' h' n' (X2 X ps') ps':=by
 obtain ⟨g1,g2,g3,g4,g5,g6,g7,g8,g9,g10,g11,g12⟩:=hi
 have hX:∀ k∈X2 X ps',k∈X∨h.get k=none:=fun k hk=>by
  rcases List.mem_append.1 hk with h1 | h1
  ·obtain ⟨q,hq,rfl⟩:=List.mem_map.1 h1
   rcases (g7 q hq).2 with h2 | h2
   ·exact .inl (g12 _ (List.mem_cons_of_mem _ (aDJ h2)))
   ·exact .inr (g11 _ h2)
  ·exact .inl h1
 have hre:=aNi g3 hX
 refine ⟨by omega,g9,g8,hX,fun k hk=>List.mem_append.2 (.inr hk),fun k hk=>?_,cv,sv,rv,g1,hA.sub hre,by rw [g6]; exact hP.sub hre,g4,g5,List.mem_append.2 (.inr (g12 _ (List.mem_cons_self ..))),fun k hk=>?_⟩
 ·obtain ⟨q,hq,h1⟩:=iB.1 hk
  rcases h1 with rfl | rfl
  ·exact .inl (aDI (g7 q hq).1)
  ·rcases (g7 q hq).2 with h2 | h2
   ·exact .inl (aDJ h2)
   ·exact .inr (by omega)
 obtain ⟨q,hq,h1⟩:=iB.1 hk
 rcases h1 with rfl | rfl
 ·exact List.mem_append.2 (.inr (g12 _ (List.mem_cons_of_mem _ (aDI (g7 q hq).1))))
 ·exact List.mem_append.2 (.inl (List.mem_map.2 ⟨q,hq,rfl⟩))
theorem aAE.refl (hm:MW ro h X p ps d m) (hf:Fr h nx) (hn:nx≤n'):aAE ro h nx X p ps d m h n' X ps:=⟨hn,hf.mono hn,(Sub.refl h).keepL,fun k hk=>.inl hk,fun k hk=>hk,fun k hk=>.inl hk,hm⟩
theorem MX.inX {RR:RgP} {ty:TypeId} (hm:MX RR ty ro h X p ps d m):∀ k∈p::jI ps,k∈X:=fun k hk=>by
 obtain ⟨cv,sv,rv,g1,g2,g3,g4,g5,g6,g7⟩:=hm
 rcases List.mem_cons.1 hk with rfl | hk
 ·exact g6
 ·exact g7 k hk
theorem aAE.trans {h1 h2:T Obj} {n1 n2:Nat} {X1 X2:List Nat} {ps1 ps2:List (Nat × Nat)} {m1 m2:MacD} (hf:Fr h nx) (hX:∀ k∈p::jI ps,k∈X) (a:aAE ro h nx X p ps d m1 h1 n1 X1 ps1) (b:aAE ro h1 n1 X1 p ps1 d m2 h2 n2 X2 ps2):aAE ro h nx X p ps d m2 h2 n2 X2 ps2:=by
 obtain ⟨a1,a2,a3,a4,a5,hb,a6⟩:=a
 obtain ⟨b1,b2,b3,b4,b5,hb2,b6⟩:=b
 refine ⟨by omega,b2,fun k o hk hn=>b3 k o (a3 k o hk hn) fun hm=>?_,fun k hk=>?_,fun k hk=>b5 k (a5 k hk),fun k hk=>?_,b6⟩
 ·have hlt:=hf.lt' hk
  rcases List.mem_cons.1 hm with rfl | hm
  ·exact hn (List.mem_cons_self ..)
  ·rcases hb k hm with h9 | h9
   ·exact hn (List.mem_cons_of_mem _ h9)
   ·omega
 ·rcases b4 k hk with h9 | h9
  ·exact a4 k h9
  ·by_cases hp:k∈p::jI ps
   ·exact .inl (hX k hp)
   ·cases hq:h.get k with
    | none=>exact .inr rfl
    | some o=>rw [a3 k o hq hp] at h9; cases h9
 ·rcases hb2 k hk with h9 | h9
  ·exact hb k h9
  ·exact .inr (by omega)
theorem aAE.mono {n2:Nat} {X':List Nat} (a:aAE ro h nx X p ps d m h' n' X' ps') (hn:n'≤n2):aAE ro h nx X p ps d m h' n2 X' ps':=by
 obtain ⟨a1,a2,a3⟩:=a
 exact ⟨by omega,a2.mono hn,a3⟩
end
end V
end Go.Proofs.YtcaccnneblghgaaGreat
namespace Go.Proofs.YtcaccnneblghgaaGreat
namespace V
attribute [local irreducible] aA ifP aS cM eQ exP cO
section
variable {ro:Ro} {hs h h':T Obj} {X:List Nat} {n0 p sb mb nx:Nat} {lv rv' uv nv:Value} {ps0 ps:List (Nat × Nat)} {C:List (Int × Int)} {rs:List RgD} {K:KV}
variable {cc:List Nat} {many cur:Int} {cv sv rv:Value} {steps:Nat} {to:Int} {ov nxv:Value} {ops:List Nat} {R:List Int}
end
section
variable {ro:Ro} {h:T Obj} {nx:Nat} {X:List Nat} {p:Nat} {ps:List (Nat × Nat)} {d:AutoD} {m:MacD} {K:KV}
theorem SW.lo {hs h h':T Obj} {X:List Nat} {n0 p nx n':Nat} {pc:List Value} {L L':List (Nat × List Value × TypeId)} {ps0 ps:List (Nat × Nat)} {C:List (Int × Int)} {rs:List RgD} (hi:SW hs X n0 p pc L ps0 C h nx rs ps) (hs':Sub h h') (hf:Fr h' n') (hn:nx≤n') (hL:Lo h' L'):SW hs X n0 p pc L' ps0 C h' n' rs ps:=by
 obtain ⟨g1,g2,g3⟩:=hi.sub hs' hf hn
 exact ⟨g1,hL,g3⟩
end
end V
end Go.Proofs.YtcaccnneblghgaaGreat
namespace Go.Proofs.YtcaccnneblghgaaGreat
namespace V
attribute [local irreducible] aA ifP aS cM eQ exP cO
theorem aOV {ro:Ro} {h:T Obj} {v:Value} {z:Nat} {l:List (List Value)} (hl:Sl ro h v z l):(v=.slice none 0 0∧l=[]∧slB .eql v (.slice none 0 0)=some (.bool true))∨slB .eql v (.slice none 0 0)=some (.bool false):=by
 rcases hl with ⟨rfl,rfl⟩ | ⟨a,cap,rfl,_⟩
 ·exact .inl ⟨rfl,rfl,rfl⟩
 ·exact .inr rfl
theorem rS {ro:Ro} {h:T Obj} {v:Value} {z nx:Nat} {t e:TypeId} {i:TypeInfo} {zv:Value} {m:List (List Value)} {K:KV} (hx:Sl ro h v z m) (hlit:∀ id,bU Tryz.prog t id 0 []=some (.slice (some (own id z)) 0 0,some (.cells #[] e))) (hu:und Tryz.prog t=some (.slice e)) (hi':tin Tryz.prog e=some i) (hz:i.size=z) (hz0:0 < z) (hzer:zer Tryz.prog e=some zv) (hzs:zv.cells.size=z)
  (hok:m.flatten.all cP=true) (hb:m.length*i.bytes≤big) (hb2:m.length≤big) (hf:Fr h nx)
  (hK:∀ r h' n',nx≤n'→Fr h' n'→Sub h h'→dV h' r z e m nx→K r h' n') :
  aA (slB .eql v (.slice none 0 0)) fun t4=>aS t4 (∃ h2,Sub h2 h∧K (.slice none 0 0) h2 (nx+4)) (aA (bU Tryz.prog t (nx+3) 0 []) fun r3=>eQ h (nx+3) r3.2 fun h4=>aA (cR Tryz.prog ro h4 (nx+6) #[t,t] [r3.1,v]) fun r5=>∃ h6,Sub h6 r5.2.1∧K r5.1 h6 (r5.2.2+1)):=by
 rcases aOV hx with ⟨rfl,rfl,h1⟩ | h1
 ·refine aB h1 (aG ⟨h,Sub.refl _,hK _ _ _ (by omega) (hf.mono (by omega)) (Sub.refl _) dV.nil⟩)
 ·refine aB h1 (aF (aB (hlit _) (aE ?_)))
  have hs1:Sub h (h.upd (nx+3) (some (.cells #[] e))):=(Sub.refl h).new hf (by omega)
  have hf1:Fr (h.upd (nx+3) (some (.cells #[] e))) (nx+6):=(hf.mono (by omega)).upd (Nat.le_refl _) (by omega)
  have ho:dV (h.upd (nx+3) (some (.cells #[] e))) (.slice (some (own (nx+3) z)) 0 0) z e [] nx:=.inr ⟨nx+3,by omega,rfl,(fun x hx=>by cases hx),by rw [T.get_upd_same]; rfl⟩
  obtain ⟨r,h',n',q1,q2,q3,q4,q5,q6⟩:=aJE (P:=Tryz.prog) (t:=t) (nx:=nx+6) ho (hx.sub hs1) hu hi' hz hz0 hzer hzs hok (by simpa using hb) (by simpa using hb2) (by omega) hf1
  refine aB q1 ⟨h',Sub.refl _,hK r h' (n'+1) (by omega) (q5.mono (by omega)) (fun k o hk=>q3 k o (hs1 k o hk) fun e=>?_) (by simpa using q2)⟩
  have hkk:nx+3=k:=Option.some.inj e
  have:=hf.lt' hk
  omega
theorem aM8 (id:Nat):bU Tryz.prog iL id 0 []=some (.slice (some (own id 1)) 0 0,some (.cells #[] dW)):=by kernel_rfl
theorem aNs (id:Nat):bU Tryz.prog lK id 0 []=some (.slice (some (own id 2)) 0 0,some (.cells #[] gD)):=by kernel_rfl
theorem aLI (id:Nat):bU Tryz.prog d4 id 0 []=some (.slice (some (own id 2)) 0 0,some (.cells #[] b7)):=by kernel_rfl
theorem aNt (id:Nat):bU Tryz.prog bM id 0 []=some (.slice (some (own id 1)) 0 0,some (.cells #[] cJ)):=by kernel_rfl
theorem aO6:und Tryz.prog lK=some (.slice gD):=by kernel_rfl
theorem aPi:∃ i,tin Tryz.prog gD=some i∧i.size=2∧i.bytes=16:=zL (by kernel_rfl)
theorem aO9:und Tryz.prog bM=some (.slice cJ):=by kernel_rfl
theorem aO4:∃ i,tin Tryz.prog cJ=some i∧i.size=1∧i.bytes=1:=zL (by kernel_rfl)
theorem aOh:zer Tryz.prog cJ=some (.int .u8 0):=by kernel_rfl
section
variable {ro:Ro} {h:T Obj} {v:Value} {nx:Nat} {K:KV}
theorem s5 {l:List Int} (hv:ZI ro h v l) (hl:l.length≤1000000) (hf:Fr h nx) (hK:∀ r h' n',nx≤n'→Fr h' n'→Sub h h'→dV h' r 1 dW (jV l) nx→K r h' n'):aN Tryz.prog ro eR [v] h nx K:=by
 apply uX
 unfold lH
 obtain ⟨i,g1,g2,g3⟩:=aNS
 exact rS hv aM8 aNZ g1 (by omega) (by omega) aRD rfl (by simp [jV,cP]) (by rw [d8,g3]; unfold big; omega) (by rw [d8]; unfold big; omega) hf hK
theorem aJM {l:List Nat} (hv:SlR ro h v 1 RU8 l) (hl:l.length≤1000000) (hf:Fr h nx) (hK:∀ r h' n',nx≤n'→Fr h' n'→Sub h h'→dV h' r 1 cJ (aGp l) nx→K r h' n'):aN Tryz.prog ro iA [v] h nx K:=by
 apply rD
 unfold i8
 obtain ⟨i,g1,g2,g3⟩:=aO4
 obtain ⟨cs,h1,h2,h3⟩:=hv
 have hcs:cs=aGp l:=by
  apply List.ext_getElem?
  intro k
  rcases Nat.lt_or_ge k l.length with hk | hk
  ·have e1:cs[k]?=some (cs[k]'(by omega)):=List.getElem?_eq_getElem _
   have e2:l[k]?=some l[k]:=List.getElem?_eq_getElem _
   have:=(h3 k _ _ e1 e2).1
   rw [e1,this]; simp [aGp,hk]
  ·rw [List.getElem?_eq_none (by omega),List.getElem?_eq_none (by rw [aB5]; omega)]
 subst hcs
 exact rS h1 aNt aO9 g1 (by omega) (by omega) aOh rfl (by simp [aGp,cP]) (by rw [aB5,g3]; unfold big; omega) (by rw [aB5]; unfold big; omega) hf hK
theorem aJL {l:List (Int × Int)} (hv:SlR ro h v 2 vB l) (hl:l.length≤1000000) (hf:Fr h nx) (hK:∀ r h' n',nx≤n'→Fr h' n'→Sub h h'→dV h' r 2 gD (aFC l) nx→K r h' n'):aN Tryz.prog ro hZ [v] h nx K:=by
 apply rB
 unfold i7
 obtain ⟨i,g1,g2,g3⟩:=aPi
 obtain ⟨cs,h1,h2,h3⟩:=hv
 have hcs:cs=aFC l:=by
  apply List.ext_getElem?
  intro k
  rcases Nat.lt_or_ge k l.length with hk | hk
  ·have e1:cs[k]?=some (cs[k]'(by omega)):=List.getElem?_eq_getElem _
   have e2:l[k]?=some l[k]:=List.getElem?_eq_getElem _
   have:=h3 k _ _ e1 e2
   unfold vB at this
   rw [e1,this]; simp [aFC,hk]
  ·rw [List.getElem?_eq_none (by omega),List.getElem?_eq_none (by rw [aBH]; omega)]
 subst hcs
 have hok:(aFC l).flatten.all cP=true:=by
  rw [List.all_eq_true]
  intro x hx
  obtain ⟨y,hy,hxy⟩:=List.mem_flatten.1 hx
  obtain ⟨p,_,rfl⟩:=List.mem_map.1 hy
  simp at hxy
  rcases hxy with rfl | rfl<;>rfl
 exact rS h1 aNs aO6 g1 (by omega) (by omega) aHO rfl hok (by rw [aBH,g3]; unfold big; omega) (by rw [aBH]; unfold big; omega) hf hK
theorem aGU {cs:List (List Value)} (hv:Sl ro h v 2 cs) (hok:cs.flatten.all cP=true) (hl:cs.length≤1000000) (hf:Fr h nx) (hK:∀ r h' n',nx≤n'→Fr h' n'→Sub h h'→dV h' r 2 b7 cs nx→K r h' n'):aN Tryz.prog ro fS [v] h nx K:=by
 apply nI
 unfold gF
 obtain ⟨i,g1,g2,g3⟩:=aNR
 exact rS hv aLI aLg g1 (by omega) (by omega) aEr rfl hok (by rw [g3]; unfold big; omega) (by unfold big; omega) hf hK
end
theorem aBk {ro:Ro} {h:T Obj} {v w:Value} {z n1 n2 lo:Nat} {t e:TypeId} {i:TypeInfo} {zv:Value} {l:List (List Value)} {y:List Value} {K:Value × Option Obj→T Obj→Value × T Obj × Nat→Prop} (hlit:bU Tryz.prog t n1 1 [(0,w)]=some (.slice (some (own n1 z)) 1 1,some (.cells y.toArray e))) (hy:y.length=z) (ho:dV h v z e l lo)
  (hu:und Tryz.prog t=some (.slice e)) (hi':tin Tryz.prog e=some i) (hz:i.size=z) (hz0:0 < z) (hzer:zer Tryz.prog e=some zv) (hzs:zv.cells.size=z) (hok:y.all cP=true) (hb:(l.length+1)*i.bytes≤big) (hb2:l.length+1≤big) (hf:Fr h n2) (hlo:lo≤n2) (hn:n1 < n2) (hne:iN v≠some n1)
  (hK:∀ h',dV h' (.slice (some (own n2 z)) (l++[y]).length (l++[y]).length) z e (l++[y]) lo→(∀ k o,h.get k=some o→k≠n1→iN v≠some k→h'.get k=some o)→Fr h' (n2+1)→K (.slice (some (own n1 z)) 1 1,some (.cells y.toArray e)) (h.upd n1 (some (.cells y.toArray e))) (.slice (some (own n2 z)) (l++[y]).length (l++[y]).length,h',n2+1)) :
  aA (bU Tryz.prog t n1 1 [(0,w)]) fun r=>eQ h n1 r.2 fun h'=>aA (cR Tryz.prog ro h' n2 #[t,t] [v,r.1]) (K r h'):=by
 refine aB hlit (aE ?_)
 have hkk:dU [n1] h (h.upd n1 (some (.cells y.toArray e))):=(Sub.refl h).keepL.upd (by simp)
 have ho1:dV (h.upd n1 (some (.cells y.toArray e))) v z e l lo:=ho.keepK hkk fun id hid hm=>hne (by rw [hid]; simp at hm; rw [hm])
 have hf1:Fr (h.upd n1 (some (.cells y.toArray e))) n2:=hf.upd (Nat.le_refl _) hn
 have hx1:Sl ro (h.upd n1 (some (.cells y.toArray e))) (.slice (some (own n1 z)) 1 1) z [y]:=Sl.own (l:=[y]) (e:=e) (f:=(0,0)) (by rw [T.get_upd_same]; simp) (by simpa using hy) (Nat.le_refl _)
 obtain ⟨h',q1,q2,q3,q4,q5⟩:=aKE (P:=Tryz.prog) (t:=t) (nx:=n2) ho1 hx1 hu hi' hz hz0 hzer hzs (by simp) (by simpa using hok) hb hb2 hlo hf1
 exact aB q1 (hK h' q2 (fun k o hk h1 h2=>q3 k o (hkk k o hk (by simpa using h1)) h2) q4)
section
variable {RR:RgP} {tp ta:TypeId} {h h':T Obj} {ps:List (Nat × Nat)} {C:List (Int × Int)} {rs:List RgD}
theorem RsX.snoc (hr:RsX RR h ps C rs) {q:Nat × Nat} {c:Int × Int} {r:RgD} (hn:RR h q.1 q.2 c.2.toNat r.1 r.2):RsX RR h (ps++[q]) (C++[c]) (rs++[r]):=by
 obtain ⟨r1,r2,r3⟩:=hr
 refine ⟨by simp [r1],by simp [r2],fun i p c' r' h1 h2 h3=>?_⟩
 rcases Nat.lt_or_ge i ps.length with hi | hi
 ·rw [List.getElem?_append_left hi] at h1
  rw [List.getElem?_append_left (by omega)] at h2
  rw [List.getElem?_append_left (by omega)] at h3
  exact r3 i p c' r' h1 h2 h3
 ·rw [List.getElem?_append_right hi] at h1
  rw [List.getElem?_append_right (by omega)] at h2
  rw [List.getElem?_append_right (by omega)] at h3
  have hlt:=(List.getElem?_eq_some_iff.1 h1).1
  have hi0:i=ps.length:=by simp at hlt; omega
  subst hi0
  rw [Nat.sub_self] at h1
  rw [r1,Nat.sub_self] at h2
  rw [show ps.length - rs.length=0 by omega] at h3
  cases h1; cases h2; cases h3
  exact hn
theorem Dst.snoc (hd:Dst ps) {q:Nat × Nat} (hq:∀ p∈ps,p.1≠q.1∧p.2≠q.2):Dst (ps++[q]):=by
 intro i j p p2 h1 h2 hij
 rcases Nat.lt_or_ge i ps.length with hi | hi
 ·rw [List.getElem?_append_left hi] at h1
  rcases Nat.lt_or_ge j ps.length with hj | hj
  ·rw [List.getElem?_append_left hj] at h2
   exact hd i j p p2 h1 h2 hij
  ·rw [List.getElem?_append_right hj] at h2
   have:p2=q:=by have:=List.mem_of_getElem? h2; simpa using this
   subst this
   exact hq p (List.mem_of_getElem? h1)
 ·rw [List.getElem?_append_right hi] at h1
  have hp:p=q:=by have:=List.mem_of_getElem? h1; simpa using this
  subst hp
  rcases Nat.lt_or_ge j ps.length with hj | hj
  ·rw [List.getElem?_append_left hj] at h2
   have:=hq p2 (List.mem_of_getElem? h2)
   exact ⟨Ne.symm this.1,Ne.symm this.2⟩
  ·rw [List.getElem?_append_right hj] at h2
   have h3:=(List.getElem?_eq_some_iff.1 h1).1
   have h4:=(List.getElem?_eq_some_iff.1 h2).1
   simp at h3 h4
   omega
theorem Dst.nil:Dst []:=fun i j p q h1=>by simp at h1
end
end V
end Go.Proofs.YtcaccnneblghgaaGreat
namespace Go.Proofs.YtcaccnneblghgaaGreat
namespace V
attribute [local irreducible] aA ifP aS cM eQ exP cO
def zZ (x:List Value) (s:ByteArray):Prop:=x=[.string s]∧s.size≤mF
def uF (ro:Ro) (h:T Obj) (x:List Value) (e:EntD):Prop:=∃ ax rv,x=ax++[rv]∧qI ro h ax e.a∧Sl ro h rv 1 (jV e.rules)∧e.rules.length≤mF
theorem uF.sub {ro:Ro} {h h':T Obj} (hs:Sub h h'):∀ x e,uF ro h x e→uF ro h' x e:=fun x e ⟨ax,rv,h1,h2,h3,h4⟩=>⟨ax,rv,h1,h2.sub hs,h3.sub hs,h4⟩
def aCk (ro:Ro) (h:T Obj) (x:List Value) (T:TabD):Prop:=∃ cv kv tv ev,x=[cv,kv,tv,ev]∧SlR ro h cv 1 zZ T.conds∧SlR ro h kv 1 zZ T.kinds∧Sl ro h tv 1 (jV T.to)∧SlR ro h ev 260 (uF ro h) T.entries ∧
 T.conds.length≤mF∧T.kinds.length≤mF∧T.to.length≤mF∧T.entries.length≤mF
theorem aCk.sub {ro:Ro} {h h':T Obj} {x:List Value} {T:TabD} (hd:aCk ro h x T) (hs:Sub h h'):aCk ro h' x T:=by
 obtain ⟨cv,kv,tv,ev,h1,h2,h3,h4,h5,h6⟩:=hd
 exact ⟨cv,kv,tv,ev,h1,h2.sub hs fun _ _ h=>h,h3.sub hs fun _ _ h=>h,h4.sub hs,h5.sub hs (uF.sub hs),h6⟩
def aKx:List Value:=vD++[cN]
theorem aHN:zer Tryz.prog cH=some (.agg aKx.toArray):=by kernel_rfl
theorem aD5:aKx.length=260:=by simp [aKx,rQ]
section
variable {ro:Ro} {h:T Obj} {x:List Value} {e:EntD}
theorem uF.len (hd:uF ro h x e):x.length=260:=by
 obtain ⟨ax,rv,rfl,h2,h3,_⟩:=hd
 obtain ⟨cv,sv,rfl,hc,_⟩:=h2
 simp [cK hc]
theorem uF.okL (hd:uF ro h x e):x.all cP=true:=by
 obtain ⟨ax,rv,rfl,h2,h3,_⟩:=hd
 obtain ⟨cv,sv,rfl,hc,_,h1,h4,_⟩:=h2
 have:=aDD (c:=e.a.c) (n:=e.a.many) (SlR.okC h1) (SlR.okC h4)
 rw [List.all_append,this]
 simp [h3.ok]
theorem uF.cells (hd:uF ro h x e):∃ cv sv rv,x=dQ e.a.c e.a.many cv sv++[rv]∧x[258]?=some sv∧x[259]?=some rv∧(x.take 259)=dQ e.a.c e.a.many cv sv∧qI ro h (dQ e.a.c e.a.many cv sv) e.a∧SlR ro h sv 4 (dX ro h) e.a.states∧e.a.states.length≤mF∧Sl ro h rv 1 (jV e.rules)∧e.rules.length≤mF:=by
 obtain ⟨ax,rv,rfl,h2,h3,h4⟩:=hd
 obtain ⟨cv,sv,rfl,hc,hclt,h5,h6,h7,h8⟩:=id h2
 refine ⟨cv,sv,rv,rfl,?_,?_,?_,h2,h6,h8,h3,h4⟩
 ·rw [List.getElem?_append_left (by rw [cK hc]; omega)]; exact gY hc
 ·rw [List.getElem?_append_right (by rw [cK hc]; omega),cK hc]; rfl
 ·rw [List.take_append_of_le_length (by rw [cK hc]; omega),List.take_of_length_le (by rw [cK hc]; omega)]
end
def aHn (T:TabD):Bool:=T.entries.all (fun e=>decide (e.a.states.length≤60))&&decide (T.entries.length≤8)
section
variable {ro:Ro} {h:T Obj} {nx:Nat} {K:KV}
set_option maxRecDepth 8000 in
theorem aIA {x:List Value} {T:TabD} (hf:Fr h nx) (hd:aCk ro h x T) (hK:∀ nx',nx≤nx'→K (.bool (aHn T)) h nx'):aN Tryz.prog ro xZ [.agg x.toArray] h nx K:=by
 obtain ⟨cv,kv,tv,ev,rfl,q1,q2,q3,q4,q5,q6,q7,q8⟩:=id hd
 have q8:T.entries.length≤9223372036854775807:=q8
 apply aGb
 unfold aBz
 refine dY hf (Nat.le_refl _) fun h1 hs1 hf1 g1 _=>?_
 have g1:h1.get nx=some (.cells [cv,kv,tv,ev].toArray c7):=g1
 have m3:[cv,kv,tv,ev][3]?=some ev:=rfl
 have hev:=q4.sub hs1 (uF.sub hs1)
 have hlen:=hev.len
 (repeat(first|refine aB (by simp (disch:=first|omega|exact nnN _|assumption) only [BB,B2,↓reduceIte,Nat.reduceLeDiff,Nat.reduceAdd,CC]<;>rfl) ?_|refine aD ?_|refine aE ?_|with_reducible first|refine aG ?_|refine aF ?_|refine aK ?_|refine aH ?_|refine aJ ?_|refine aI ?_|refine aL ?_|refine aC ?_))
 refine aB (aZ g1 m3) (aB hlen ?_)
 generalize hB:T.entries.all (fun e=>decide (e.a.states.length≤60))=B
 refine bC (fun j e h' nx'=>∃ (k:Nat),k+j=T.entries.length∧nx+1≤nx'∧e 1=ptr nx∧e 2=.bool false∧e 6=ev∧e 7=.int .i64 T.entries.length∧e 8=.int .i64 k∧Sub h1 h'∧Fr h' nx'∧(T.entries.drop k).all (fun e=>decide (e.a.states.length≤60))=B) ?_ (n:=T.entries.length)
  ⟨0,by omega,by omega,rfl,rfl,rfl,rfl,rfl,Sub.refl _,hf1.mono (by omega),hB⟩
 rintro j e h' nx' ⟨k,hj,hnx,e1,e2,e6,e7,e8,hs',hf',hr⟩ Q' hq hx
 unfold aBZ
 rw [e6,e7,e8]
 refine dF (fun hk=>?_) (fun hk=>?_)
 ·have hk:k < T.entries.length:=by omega
  rw [bT hk,List.all_cons] at hr
  have hev':=hev.sub hs' (uF.sub hs')
  have hix:=hev'.ix .i64 hk
  obtain ⟨y,hy1,hy2,hy3,hy4,hy5⟩:=hev'.at hk
  generalize T.entries[k]=ee at hr hy1
  obtain ⟨ecv,esv,erv,_,c258,c259,_,_,hsv,hsl,_,_⟩:=hy1.cells
  have hsl:ee.a.states.length≤9223372036854775807:=hsl
  have hsvl:=hsv.len
  (repeat(first|refine aB (by simp (disch:=first|omega|exact nnN _|assumption) only [BB,B2,↓reduceIte,Nat.reduceLeDiff,Nat.reduceAdd,CC,hix,hy3]<;>rfl) ?_|refine aD ?_|refine aE ?_|with_reducible first|refine aG ?_|refine aF ?_|refine aK ?_|refine aH ?_|refine aJ ?_|refine aI ?_|refine aL ?_|refine aC ?_))
  refine jL (x:=y) aHN (by show aKx.toArray.size=260; simp [aD5]) rfl hy1.len hy1.okL hf' (by omega) fun h2 hs2 hf2 g2 _=>?_
  (repeat(first|refine aB (by simp (disch:=first|omega|exact nnN _|assumption) only [BB,B2,↓reduceIte,Nat.reduceLeDiff,Nat.reduceAdd,CC]<;>rfl) ?_|refine aD ?_|refine aE ?_|with_reducible first|refine aG ?_|refine aF ?_|refine aK ?_|refine aH ?_|refine aJ ?_|refine aI ?_|refine aL ?_|refine aC ?_))
  refine aB (aZ g2 c258) (aB hsvl ?_)
  by_cases hb:ee.a.states.length≤60
  ·rw [decide_eq_true hb,Bool.true_and] at hr
   (repeat(first|refine aB (by simp (disch:=first|omega|exact nnN _|assumption) only [BB,B2,↓reduceIte,Nat.reduceLeDiff,Nat.reduceAdd,CC]<;>rfl) ?_|refine aD ?_|refine aE ?_|with_reducible first|refine aG ?_|refine aF ?_|refine aK ?_|refine aH ?_|refine aJ ?_|refine aI ?_|refine aL ?_|refine aC ?_))
   exact hq (j - 1) _ _ _ _ (by omega) ⟨k+1,by omega,by omega,e1,e2,e6,e7,rfl,hs'.trans hs2,hf2.mono (by omega),hr⟩ (Sub.refl _)
  ·rw [decide_eq_false hb,Bool.false_and] at hr
   (repeat(first|refine aB (by simp (disch:=first|omega|exact nnN _|assumption) only [BB,B2,↓reduceIte,Nat.reduceLeDiff,Nat.reduceAdd,CC]<;>rfl) ?_|refine aD ?_|refine aE ?_|with_reducible first|refine aG ?_|refine aF ?_|refine aK ?_|refine aH ?_|refine aJ ?_|refine aI ?_|refine aL ?_|refine aC ?_))
   refine hx _ _ _ _ (fun e=>by cases e) (eL ?_)
   refine ⟨h,hs1.trans (hs'.trans hs2),?_⟩
   have:aHn T=false:=by unfold aHn; rw [hB,← hr]; rfl
   show K (.bool false) h _
   rw [← this]; exact hK _ (by omega)
 ·have hk:k=T.entries.length:=by omega
  have hr:B=true:=by rw [← hr,List.drop_of_length_le (by omega)]; rfl
  have g1':=hs' _ _ g1
  (repeat(first|refine aB (by simp (disch:=first|omega|exact nnN _|assumption) only [BB,B2,↓reduceIte,Nat.reduceLeDiff,Nat.reduceAdd,CC]<;>rfl) ?_|refine aD ?_|refine aE ?_|with_reducible first|refine aG ?_|refine aF ?_|refine aK ?_|refine aH ?_|refine aJ ?_|refine aI ?_|refine aL ?_|refine aC ?_))
  refine hx _ _ _ _ (fun e=>by cases e) (eB (dA ?_))
  have hend:∀ (e':Env) n',nx≤n'→e' 1=ptr nx→qW ro K e' h' n':=by
   intro e' n' hn f1
   unfold qW
   rw [f1]
   (repeat(first|refine aB (by simp (disch:=first|omega|exact nnN _|assumption) only [BB,B2,↓reduceIte,Nat.reduceLeDiff,Nat.reduceAdd,CC]<;>rfl) ?_|refine aD ?_|refine aE ?_|with_reducible first|refine aG ?_|refine aF ?_|refine aK ?_|refine aH ?_|refine aJ ?_|refine aI ?_|refine aL ?_|refine aC ?_))
   refine aB (aZ g1' m3) (aB hlen ?_)
   by_cases h8:T.entries.length≤8
   ·(repeat(first|refine aB (by simp (disch:=first|omega|exact nnN _|assumption) only [BB,B2,↓reduceIte,Nat.reduceLeDiff,Nat.reduceAdd,CC]<;>rfl) ?_|refine aD ?_|refine aE ?_|with_reducible first|refine aG ?_|refine aF ?_|refine aK ?_|refine aH ?_|refine aJ ?_|refine aI ?_|refine aL ?_|refine aC ?_))
    refine ⟨h,hs1.trans hs',?_⟩
    have:aHn T=true:=by unfold aHn; rw [hB,hr,decide_eq_true h8]; rfl
    rw [← this]; exact hK _ (by omega)
   ·(repeat(first|refine aB (by simp (disch:=first|omega|exact nnN _|assumption) only [BB,B2,↓reduceIte,Nat.reduceLeDiff,Nat.reduceAdd,CC]<;>rfl) ?_|refine aD ?_|refine aE ?_|with_reducible first|refine aG ?_|refine aF ?_|refine aK ?_|refine aH ?_|refine aJ ?_|refine aI ?_|refine aL ?_|refine aC ?_))
    refine ⟨h,hs1.trans hs',?_⟩
    have:aHn T=false:=by unfold aHn; rw [hB,hr,decide_eq_false h8]; rfl
    rw [← this]; exact hK _ (by omega)
  exact hend _ _ (by omega) e1
end
end V
end Go.Proofs.YtcaccnneblghgaaGreat
set_option maxRecDepth 8000
namespace Go.Proofs.YtcaccnneblghgaaGreat
namespace V
open Go.ChangeShapes Go.WideShapes Go.ChangeAt Go.RowKit Go.Deep
set_option maxRecDepth 8000
section
variable {H:Type} {enc:TypeId × Value→H} {W:World}
def fieldsOf (P:Program) (t:TypeId):Option (List (Nat × TypeId)):=match und P t with
 | some (.struct fs)=>some (fs.toList.map fun f=>(f.offset,f.type))
 | _=>none
theorem nE {t:TypeId} {L:List (Nat × TypeId)} (hL:fieldsOf Tryz.prog t=some L) {fuel:Nat} {cs:List Value} {x:DataW H × List MemPlace} (h:DataW.trod enc Tryz.prog W 0 (fun _=>true) true fuel t cs=some x) :
  cs.length=Tryz.prog.cellsOf t∧∃ n,∀ (i o:Nat) (ty:TypeId),L[i]?=some (o,ty)→∃ y,DataW.trod enc Tryz.prog W 0 (fun _=>true) true n ty ((cs.drop o).take (Tryz.prog.cellsOf ty))=some y:=by
 unfold fieldsOf at hL
 split at hL
 ·rename_i fs hu
  cases hL
  obtain ⟨xs,n,_,_,hlen,hxs,hf⟩:=DataW.trod_struct (fE hu) h
  refine ⟨hlen,n,fun i o ty hi=>?_⟩
  rw [List.getElem?_map] at hi
  cases hq:fs.toList[i]? with
  | none=>rw [hq] at hi; cases hi
  | some f =>
   rw [hq] at hi
   cases hi
   have hfs:fs[i]?=some f:=by simpa using hq
   have hil:=(List.getElem?_eq_some_iff.1 hq).1
   have hx:xs[i]?=some (xs[i]'(by rw [hxs]; simpa using hil)):=List.getElem?_eq_getElem _
   exact ⟨_,by rw [hf i f hfs,hx]⟩
 ·cases hL
theorem aJ6 {t:TypeId} {L:List (Nat × TypeId)} (hL:fieldsOf Tryz.prog t=some L) {v:Value} {base:Nat} (hval:Value.okWide Tryz.prog W .any base t v):∃ cs,v=.agg cs:=by
 unfold fieldsOf at hL
 split at hL
 ·rename_i fs hu
  unfold Value.okWide at hval
  rw [fE hu] at hval
  obtain ⟨cs,e,_⟩:=hval
  exact ⟨cs,e⟩
 ·cases hL
theorem aBV {n:Nat} {cs:List Value} {y:DataW H × List MemPlace} (h:DataW.trod enc Tryz.prog W 0 (fun _=>true) true n dW cs=some y):∃ a:Int,cs=[.int .i64 a]:=by
 have hu:Tryz.prog.underlying dW=some (.int .i64):=by kernel_rfl
 obtain ⟨a,rfl,_⟩:=DataW.trod_int hu h
 exact ⟨a,rfl⟩
theorem aKd {n:Nat} {cs:List Value} {y:DataW H × List MemPlace} (h:DataW.trod enc Tryz.prog W 0 (fun _=>true) true n cJ cs=some y):∃ a:Nat,cs=[.int .u8 (a:Int)]∧a < 256:=by
 have hu:Tryz.prog.underlying cJ=some (.int .u8):=by kernel_rfl
 obtain ⟨a,rfl,_,hw⟩:=DataW.trod_int hu h
 have:=aQT hw
 exact ⟨a.toNat,by rw [Int.toNat_of_nonneg this.1],by omega⟩
theorem aIM {N:Nat} {v v':Value} {o:Option Addr} {l c:Nat} (hv:v=.slice o l c) (h:vS N v=some v'):bI v'=some (.int .i64 l):=by
 subst hv
 unfold vS at h
 split at h
 ·rename_i h1
  cases h
  cases h1
  rfl
 ·rename_i h1
  cases h1
  split at h
  ·cases h; rfl
  ·cases h
 ·rename_i h1; cases h1
 ·split at h
  ·cases h; rfl
  ·cases h
theorem pP {D:Type} {t e:TypeId} {z:Nat} {R:List Value→D→Prop} (ht:Tryz.prog.underlying t=some (.slice e)) (hz:Tryz.prog.cellsOf e=z) (hz0:0 < z) {fuel:Nat} {cs:List Value} {x:DataW H × List MemPlace} (h:DataW.trod enc Tryz.prog W 0 (fun _=>true) true fuel t cs=some x)
  (hel:∀ n cs' y,DataW.trod enc Tryz.prog W 0 (fun _=>true) true n e cs'=some y→∃ cs'',jO W.heap.size cs'=some cs''∧∃ d,R cs'' d):∃ v v' l,cs=[v]∧vS W.heap.size v=some v'∧SlR (oE W) .e v' z R l∧l.length≤mF:=by
 obtain ⟨v,v',hv,hn,l,hl,hall⟩:=aOJ ht hz hz0 h (El:=fun x=>∃ d,R x d) hel
 have hbound:l.length≤mF:=by
  have hlen:=hl.len
  rcases open_slice ht h with ⟨h1,_⟩ | ⟨a,len,cap,m,n,D,Pl,h1,_,hle,hm,_⟩
  ·rw [hv] at h1
   have h2:=aIM (List.cons.inj h1).1 hn
   rw [hlen] at h2
   simp only [Option.some.injEq,Value.int.injEq,true_and] at h2
   have:l.length=0:=by omega
   rw [this]; unfold mF; omega
  ·rw [hv] at h1
   have h2:=aIM (List.cons.inj h1).1 hn
   rw [hlen] at h2
   simp only [Option.some.injEq,Value.int.injEq,true_and] at h2
   unfold maxLen at hm
   unfold mF
   omega
 refine ⟨v,v',?_⟩
 have e:∃ ds:List D,l.length=ds.length∧∀ (i:Nat) x d,l[i]?=some x→ds[i]?=some d→R x d:=by
  clear hl hbound
  induction l with
  | nil=>exact ⟨[],rfl,fun i x d hx=>by simp at hx⟩
  | cons x l ih =>
   obtain ⟨ds,h1,h2⟩:=ih fun y hy=>hall y (by simp [hy])
   obtain ⟨d,hd⟩:=hall x (by simp)
   refine ⟨d::ds,by simp [h1],fun i x' d' hx hd'=>?_⟩
   cases i with
   | zero=>simp at hx hd'; subst hx; subst hd'; exact hd
   | succ i=>exact h2 i x' d' (by simpa using hx) (by simpa using hd')
 obtain ⟨ds,h1,h2⟩:=e
 exact ⟨ds,hv,hn,⟨l,hl,h1,h2⟩,by rw [← h1]; exact hbound⟩
theorem sI {n:Nat} {cs:List Value} {y:DataW H × List MemPlace} (h:DataW.trod enc Tryz.prog W 0 (fun _=>true) true n iL cs=some y):∃ v v' l,cs=[v]∧vS W.heap.size v=some v'∧ZI (oE W) .e v' l∧l.length≤mF:=by
 have hu:Tryz.prog.underlying iL=some (.slice dW):=by kernel_rfl
 have hc:Tryz.prog.cellsOf dW=1:=by kernel_rfl
 obtain ⟨v,v',l,hv,hn,⟨cs,h1,h2,h3⟩,hb⟩:=pP (R:=fun x (a:Int)=>x=[Value.int .i64 a]) hu hc (by omega) h fun n cs' y hy=>by
  obtain ⟨a,rfl⟩:=aBV hy
  exact ⟨_,rfl,a,rfl⟩
 refine ⟨v,v',l,hv,hn,?_,hb⟩
 have e:cs=jV l:=by
  refine List.ext_getElem? fun i=>?_
  unfold jV
  rw [List.getElem?_map]
  cases hi:l[i]? with
  | none =>
   have:=List.getElem?_eq_none_iff.1 hi
   rw [List.getElem?_eq_none (by omega)]; rfl
  | some a =>
   have hil:=(List.getElem?_eq_some_iff.1 hi).1
   have hx:cs[i]?=some (cs[i]'(by omega)):=List.getElem?_eq_getElem (by omega)
   rw [hx,h3 i _ a hx hi]; rfl
 unfold ZI
 rw [← e]; exact h1
theorem aIQ {W:World} {v v':Value} (hn:vS W.heap.size v=some v'):jO W.heap.size [v]=some [v']:=by
 simp only [jO,hn]; rfl
theorem aFv {n:Nat} {cs:List Value} {y:DataW H × List MemPlace} (h:DataW.trod enc Tryz.prog W 0 (fun _=>true) true n bM cs=some y):∃ v v' l,cs=[v]∧vS W.heap.size v=some v'∧SlR (oE W) .e v' 1 RU8 l∧l.length≤mF:=by
 have hu:Tryz.prog.underlying bM=some (.slice cJ):=by kernel_rfl
 have hc:Tryz.prog.cellsOf cJ=1:=by kernel_rfl
 exact pP hu hc (by omega) h fun n cs' y hy=>by
  obtain ⟨a,rfl,ha⟩:=aKd hy
  exact ⟨_,rfl,a,rfl,ha⟩
theorem aJ4 {n:Nat} {cs:List Value} {y:DataW H × List MemPlace} (h:DataW.trod enc Tryz.prog W 0 (fun _=>true) true n b7 cs=some y):∃ cs'',jO W.heap.size cs=some cs''∧∃ d,xC (oE W) .e cs'' d:=by
 have hL:fieldsOf Tryz.prog b7=some [(0,dW),(1,bM)]:=by kernel_rfl
 have c0:Tryz.prog.cellsOf b7=2:=by kernel_rfl
 have c2:Tryz.prog.cellsOf dW=1:=by kernel_rfl
 have c4:Tryz.prog.cellsOf bM=1:=by kernel_rfl
 obtain ⟨hlen,m,hf⟩:=nE hL h
 obtain ⟨_,f0⟩:=hf 0 _ _ rfl
 obtain ⟨_,f1⟩:=hf 1 _ _ rfl
 rw [c0] at hlen
 rw [c2] at f0
 rw [c4] at f1
 obtain ⟨p,g0⟩:=aBV f0
 obtain ⟨v,v',l,g1,hn,hz,hb⟩:=aFv f1
 match cs,hlen with
 | [a0,a1],_ =>
  simp at g0 g1
  subst g0 g1
  refine ⟨[.int .i64 p,v'],?_,⟨p,l⟩,v',rfl,hz,hb⟩
  simp only [jO,hn]; rfl
theorem aL2 {n:Nat} {cs:List Value} {y:DataW H × List MemPlace} (h:DataW.trod enc Tryz.prog W 0 (fun _=>true) true n d4 cs=some y):∃ cs'',jO W.heap.size cs=some cs''∧∃ d,rN (oE W) .e cs'' d:=by
 have hu:Tryz.prog.underlying d4=some (.slice b7):=by kernel_rfl
 have hc:Tryz.prog.cellsOf b7=2:=by kernel_rfl
 obtain ⟨v,v',l,rfl,hn,hl,hb⟩:=pP hu hc (by omega) h fun n cs' y hy=>aJ4 hy
 exact ⟨[v'],aIQ hn,l,v',rfl,hl,hb⟩
theorem aJm {n:Nat} {cs:List Value} {y:DataW H × List MemPlace} (h:DataW.trod enc Tryz.prog W 0 (fun _=>true) true n fX cs=some y):∃ v v' l,cs=[v]∧vS W.heap.size v=some v'∧SlR (oE W) .e v' 1 (rN (oE W) .e) l∧l.length≤mF:=by
 have hu:Tryz.prog.underlying fX=some (.slice d4):=by kernel_rfl
 have hc:Tryz.prog.cellsOf d4=1:=by kernel_rfl
 exact pP hu hc (by omega) h fun n cs' y hy=>aL2 hy
theorem aIt {n:Nat} {cs:List Value} {y:DataW H × List MemPlace} (h:DataW.trod enc Tryz.prog W 0 (fun _=>true) true n a8 cs=some y):∃ cs'',jO W.heap.size cs=some cs''∧∃ d,dX (oE W) .e cs'' d:=by
 have hL:fieldsOf Tryz.prog a8=some [(0,iL),(1,iL),(2,iL),(3,fX)]:=by kernel_rfl
 have c0:Tryz.prog.cellsOf a8=4:=by kernel_rfl
 have c2:Tryz.prog.cellsOf iL=1:=by kernel_rfl
 have c4:Tryz.prog.cellsOf fX=1:=by kernel_rfl
 obtain ⟨hlen,m,hf⟩:=nE hL h
 obtain ⟨_,f0⟩:=hf 0 _ _ rfl
 obtain ⟨_,f1⟩:=hf 1 _ _ rfl
 obtain ⟨_,f2⟩:=hf 2 _ _ rfl
 obtain ⟨_,f3⟩:=hf 3 _ _ rfl
 rw [c0] at hlen
 rw [c2] at f0 f1 f2
 rw [c4] at f3
 obtain ⟨v0,w0,l0,g0,n0,z0,b0⟩:=sI f0
 obtain ⟨v1,w1,l1,g1,n1,z1,b1⟩:=sI f1
 obtain ⟨v2,w2,l2,g2,n2,z2,b2⟩:=sI f2
 obtain ⟨v3,w3,l3,g3,n3,z3,b3⟩:=aJm f3
 match cs,hlen with
 | [a0,a1,a2,a3],_ =>
  simp at g0 g1 g2 g3
  subst g0 g1 g2 g3
  refine ⟨[w0,w1,w2,w3],?_,⟨l0,l1,l2,l3⟩,w0,w1,w2,w3,rfl,z0,z1,z2,z3,b1⟩
  simp only [jO,n0,n1,n2,n3]; rfl
theorem aH9 {n:Nat} {cs:List Value} {y:DataW H × List MemPlace} (h:DataW.trod enc Tryz.prog W 0 (fun _=>true) true n gD cs=some y):∃ cs'',jO W.heap.size cs=some cs''∧∃ d,vB cs'' d:=by
 have hu:Tryz.prog.underlying gD=some (.array 2 dW):=by kernel_rfl
 have hc:Tryz.prog.cellsOf gD=2:=by kernel_rfl
 have hc1:Tryz.prog.cellsOf dW=1:=by kernel_rfl
 obtain ⟨xs,m,_,_,hlen,hxs,hel⟩:=DataW.trod_array hu h
 rw [hc] at hlen
 have el:∀ i,i < 2→∃ a:Int,(cs.drop i).take 1=[.int .i64 a]:=by
  intro i hi
  have:=hel i hi
  rw [hc1,Nat.mul_one] at this
  have hx:xs[i]?=some xs[i]:=List.getElem?_eq_getElem (by omega)
  rw [hx] at this
  exact aBV this
 match cs,hlen with
 | [a0,a1],_ =>
  obtain ⟨x0,g0⟩:=el 0 (by omega)
  obtain ⟨x1,g1⟩:=el 1 (by omega)
  simp at g0 g1
  subst g0 g1
  exact ⟨_,rfl,(x0,x1),rfl⟩
theorem aIs {n:Nat} {cs:List Value} {y:DataW H × List MemPlace} (h:DataW.trod enc Tryz.prog W 0 (fun _=>true) true n dC cs=some y):∃ (c:List Nat) (k:Int),c.length=256∧(∀ x∈c,x < 256)∧cs=eU c k:=by
 have hL:fieldsOf Tryz.prog dC=some [(0,wD),(256,dW)]:=by kernel_rfl
 have c0:Tryz.prog.cellsOf dC=257:=by kernel_rfl
 have c2:Tryz.prog.cellsOf wD=256:=by kernel_rfl
 have c4:Tryz.prog.cellsOf dW=1:=by kernel_rfl
 have hc8:Tryz.prog.cellsOf cJ=1:=by kernel_rfl
 have hua:Tryz.prog.underlying wD=some (.array 256 cJ):=by kernel_rfl
 obtain ⟨hlen,m,hf⟩:=nE hL h
 obtain ⟨_,f0⟩:=hf 0 _ _ rfl
 obtain ⟨_,f1⟩:=hf 1 _ _ rfl
 rw [c0] at hlen
 rw [c2,List.drop_zero] at f0
 rw [c4] at f1
 obtain ⟨k,hk⟩:=aBV f1
 obtain ⟨xs,m,_,_,hl0,hxs,hel⟩:=DataW.trod_array hua f0
 have el:∀ i,i < 256→∃ a:Nat,cs[i]?=some (.int .u8 (a:Int))∧a < 256:=by
  intro i hi
  have h1:=hel i hi
  rw [hc8,Nat.mul_one,List.drop_take,List.take_take] at h1
  have hx:xs[i]?=some xs[i]:=List.getElem?_eq_getElem (by omega)
  rw [hx,show min 1 (256 - i)=1 by omega] at h1
  obtain ⟨a,h2,h3⟩:=aKd h1
  refine ⟨a,?_,h3⟩
  have h4:((cs.drop i).take 1)[0]?=some (.int .u8 (a:Int)):=by rw [h2]; rfl
  rw [List.getElem?_take] at h4
  simpa using h4
 have key:∀ i,i≤256→∃ c:List Nat,c.length=i∧(∀ x∈c,x < 256)∧cs.take i=u8s c:=by
  intro i
  induction i with
  | zero=>intro _; exact ⟨[],rfl,by simp,by simp [u8s]⟩
  | succ i ih =>
   intro hi
   obtain ⟨c,c1,c2,c3⟩:=ih (by omega)
   obtain ⟨a,h1,h2⟩:=el i (by omega)
   refine ⟨c++[a],by simp [c1],?_,?_⟩
   ·intro x hx
    rcases List.mem_append.1 hx with h | h
    ·exact c2 x h
    ·simp at h; omega
   ·have hil:i < cs.length:=by omega
    rw [List.getElem?_eq_getElem hil] at h1
    rw [List.take_succ_eq_append_getElem hil,Option.some.inj h1,c3]
    simp [u8s]
 obtain ⟨c,c1,c2,c3⟩:=key 256 (Nat.le_refl _)
 refine ⟨c,k,c1,c2,?_⟩
 unfold eU
 rw [← List.take_append_drop 256 cs,c3]
 congr 1
 rw [← hk,List.take_of_length_le (by rw [List.length_drop]; omega)]
theorem aCd {N:Nat} (k:Int) {v w v' w':Value} (h1:vS N v=some v') (h2:vS N w=some w'):∀ c:List Nat,jO N (dQ c k v w)=some (dQ c k v' w')
 | []=>by
  show jO N [.int .i64 k,v,w]=some [.int .i64 k,v',w']
  simp only [jO,h1,h2]; rfl
 | a::c=>by
  have e:∀ x y,dQ (a::c) k x y=.int .u8 (a:Int)::dQ c k x y:=fun _ _=>rfl
  rw [e,e]
  simp only [jO,aCd k h1 h2 c]; rfl
theorem aJF {n:Nat} {cs:List Value} {y:DataW H × List MemPlace} (h:DataW.trod enc Tryz.prog W 0 (fun _=>true) true n bG cs=some y):∃ cs'',jO W.heap.size cs=some cs''∧∃ d,qI (oE W) .e cs'' d:=by
 have hL:fieldsOf Tryz.prog bG=some [(0,dC),(257,lK),(258,hE)]:=by kernel_rfl
 have c0:Tryz.prog.cellsOf bG=259:=by kernel_rfl
 have c2:Tryz.prog.cellsOf dC=257:=by kernel_rfl
 have c4:Tryz.prog.cellsOf lK=1:=by kernel_rfl
 have c5:Tryz.prog.cellsOf hE=1:=by kernel_rfl
 have hu1:Tryz.prog.underlying lK=some (.slice gD):=by kernel_rfl
 have hu2:Tryz.prog.underlying hE=some (.slice a8):=by kernel_rfl
 have hc1:Tryz.prog.cellsOf gD=2:=by kernel_rfl
 have hc2:Tryz.prog.cellsOf a8=4:=by kernel_rfl
 obtain ⟨hlen,m,hf⟩:=nE hL h
 obtain ⟨_,f0⟩:=hf 0 _ _ rfl
 obtain ⟨_,f1⟩:=hf 1 _ _ rfl
 obtain ⟨_,f2⟩:=hf 2 _ _ rfl
 rw [c0] at hlen
 rw [c2,List.drop_zero] at f0
 rw [c4] at f1
 rw [c5] at f2
 obtain ⟨c,k,hc,hcl,g0⟩:=aIs f0
 obtain ⟨v,v',C,g1,n1,z1,b1⟩:=pP hu1 hc1 (by omega) f1 fun n cs' y hy=>aH9 hy
 obtain ⟨w,w',S,g2,n2,z2,b2⟩:=pP hu2 hc2 (by omega) f2 fun n cs' y hy=>aIt hy
 have hcs:cs=dQ c k v w:=by
  unfold dQ
  rw [← List.take_append_drop 257 cs,g0]
  congr 1
  have h1:cs.drop 257=(cs.drop 257).take 1++(cs.drop 257).drop 1:=(List.take_append_drop 1 _).symm
  rw [h1,g1,List.drop_drop,← List.take_of_length_le (i:=1) (l:=cs.drop (257+1)) (by rw [List.length_drop]; omega)]
  show [v]++(cs.drop 258).take 1=_
  rw [g2]; rfl
 refine ⟨dQ c k v' w',?_,⟨c,k,C,S⟩,v',w',rfl,hc,hcl,z1,z2,b1,b2⟩
 rw [hcs]
 exact aCd k n1 n2 c
theorem aNO {n:Nat} {cs:List Value} {y:DataW H × List MemPlace} (h:DataW.trod enc Tryz.prog W 0 (fun _=>true) true n oQ cs=some y):∃ a:ByteArray,zZ cs a:=by
 have hu:Tryz.prog.underlying oQ=some .string:=by kernel_rfl
 obtain ⟨a,rfl,_,hb⟩:=DataW.trod_string hu h
 exact ⟨a,rfl,by unfold maxLen at hb; unfold mF; omega⟩
theorem aEf {n:Nat} {cs:List Value} {y:DataW H × List MemPlace} (h:DataW.trod enc Tryz.prog W 0 (fun _=>true) true n jA cs=some y):∃ v v' l,cs=[v]∧vS W.heap.size v=some v'∧SlR (oE W) .e v' 1 zZ l∧l.length≤mF:=by
 have hu:Tryz.prog.underlying jA=some (.slice oQ):=by kernel_rfl
 have hc:Tryz.prog.cellsOf oQ=1:=by kernel_rfl
 exact pP hu hc (by omega) h fun n cs' y hy=>by
  obtain ⟨a,ha⟩:=aNO hy
  exact ⟨cs',by rw [ha.1]; rfl,a,ha⟩
theorem aFr {N:Nat}:∀ {l l' m m':List Value},jO N l=some l'→jO N m=some m'→jO N (l++m)=some (l'++m')
 | [],l',m,m',h1,h2=>by cases h1; exact h2
 | x::l,l',m,m',h1,h2=>by
  simp only [jO] at h1
  obtain ⟨x',e1,h1⟩:=aM h1
  obtain ⟨r',e2,h1⟩:=aM h1
  cases h1
  simp only [List.cons_append,jO,e1,aFr e2 h2]; rfl
theorem aKy {n:Nat} {cs:List Value} {y:DataW H × List MemPlace} (h:DataW.trod enc Tryz.prog W 0 (fun _=>true) true n cH cs=some y):∃ cs'',jO W.heap.size cs=some cs''∧∃ d,uF (oE W) .e cs'' d:=by
 have hL:fieldsOf Tryz.prog cH=some [(0,bG),(259,iL)]:=by kernel_rfl
 have c0:Tryz.prog.cellsOf cH=260:=by kernel_rfl
 have c2:Tryz.prog.cellsOf bG=259:=by kernel_rfl
 have c4:Tryz.prog.cellsOf iL=1:=by kernel_rfl
 obtain ⟨hlen,m,hf⟩:=nE hL h
 obtain ⟨_,f0⟩:=hf 0 _ _ rfl
 obtain ⟨_,f1⟩:=hf 1 _ _ rfl
 rw [c0] at hlen
 rw [c2,List.drop_zero] at f0
 rw [c4] at f1
 obtain ⟨cs'',n0,d,hd⟩:=aJF f0
 obtain ⟨v,v',l,g1,n1,z1,b1⟩:=sI f1
 have hcs:cs=cs.take 259++[v]:=by
  have h1:cs=cs.take 259++cs.drop 259:=(List.take_append_drop 259 _).symm
  rw [List.take_of_length_le (by rw [List.length_drop]; omega)] at g1
  rw [← g1]; exact h1
 refine ⟨cs''++[v'],?_,⟨d,l⟩,cs'',v',rfl,hd,z1,b1⟩
 rw [hcs]
 exact aFr n0 (aIQ n1)
theorem aMw {v:Value} {d:DataW H} {p:List MemPlace} (h:DataW.Trod enc Tryz.prog W 0 (fun _=>true) true c7 v d p) {base:Nat} (hval:Value.okWide Tryz.prog W .any base c7 v):∃ x T,Arg W.heap.size (.agg x.toArray) v∧aCk (oE W) .e x T:=by
 have hL:fieldsOf Tryz.prog c7=some [(0,jA),(1,jA),(2,iL),(3,gZ)]:=by kernel_rfl
 have c0:Tryz.prog.cellsOf c7=4:=by kernel_rfl
 have c1:Tryz.prog.cellsOf jA=1:=by kernel_rfl
 have c2:Tryz.prog.cellsOf iL=1:=by kernel_rfl
 have c3:Tryz.prog.cellsOf gZ=1:=by kernel_rfl
 have hu:Tryz.prog.underlying gZ=some (.slice cH):=by kernel_rfl
 have hc:Tryz.prog.cellsOf cH=260:=by kernel_rfl
 obtain ⟨cs,rfl⟩:=aJ6 hL hval
 obtain ⟨fuel,hf⟩:=h
 have ecs:(Value.agg cs).cells.toList=cs.toList:=rfl
 rw [ecs] at hf
 obtain ⟨hlen,m,hf⟩:=nE hL hf
 obtain ⟨_,f0⟩:=hf 0 _ _ rfl
 obtain ⟨_,f1⟩:=hf 1 _ _ rfl
 obtain ⟨_,f2⟩:=hf 2 _ _ rfl
 obtain ⟨_,f3⟩:=hf 3 _ _ rfl
 rw [c0] at hlen
 rw [c1] at f0 f1
 rw [c2] at f2
 rw [c3] at f3
 obtain ⟨v0,w0,l0,g0,n0,z0,b0⟩:=aEf f0
 obtain ⟨v1,w1,l1,g1,n1,z1,b1⟩:=aEf f1
 obtain ⟨v2,w2,l2,g2,n2,z2,b2⟩:=sI f2
 obtain ⟨v3,w3,l3,g3,n3,z3,b3⟩:=pP hu hc (by omega) f3 fun n cs' y hy=>aKy hy
 refine ⟨[w0,w1,w2,w3],⟨l0,l1,l2,l3⟩,.agg ?_,w0,w1,w2,w3,rfl,z0,z1,z2,z3,b0,b1,b2,b3⟩
 generalize cs.toList=cl at *
 match cl,hlen with
 | [a0,a1,a2,a3],_ =>
  simp at g0 g1 g2 g3
  subst g0 g1 g2 g3
  simp only [jO,n0,n1,n2,n3]; rfl
theorem aMx {v:Value} {d:DataW H} {p:List MemPlace} (h:DataW.Trod enc Tryz.prog W 0 (fun _=>true) true bM v d p) {base:Nat} (hval:Value.okWide Tryz.prog W .any base bM v):∃ v' l,Arg W.heap.size v' v∧SlR (oE W) .e v' 1 RU8 l:=by
 have hu:Tryz.prog.underlying bM=some (.slice cJ):=by kernel_rfl
 obtain ⟨fuel,hf⟩:=h
 obtain ⟨v1,v',l,hv,hn,hl,hb⟩:=aFv hf
 have hvv:v.cells.toList=[v1]:=hv
 have hv1:v=v1:=by
  obtain ⟨a,len,cap,rfl⟩:=okWide_slice hu hval
  simpa [Value.cells] using hvv
 subst hv1
 exact ⟨v',l,.one hn,hl⟩
end
end V
end Go.Proofs.YtcaccnneblghgaaGreat
namespace Go.Proofs.YtcaccnneblghgaaGreat
namespace V
attribute [local irreducible] aA ifP aS cM eQ exP cO
theorem aBP:∀ {mcs:List (List Value)} {k:Nat} {a b r:Value},(∀ x∈mcs,x.length=2)→mcs[k]?=some [a,b]→mcs.flatten.set (k*2+1) r=(mcs.set k [a,r]).flatten
 | [],k,a,b,r,_,h=>by simp at h
 | y::l,0,a,b,r,hz,h=>by
  simp at h; subst h; rfl
 | y::l,k+1,a,b,r,hz,h=>by
  have hy:=hz y (by simp)
  have ih:=aBP (mcs:=l) (k:=k) (a:=a) (b:=b) (r:=r) (fun x hx=>hz x (by simp [hx])) (by simpa using h)
  rw [List.set_cons_succ,List.flatten_cons,List.flatten_cons,List.set_append_right _ _ (by omega),hy,show (k+1)*2+1 - 2=k*2+1 by omega,ih]
theorem aQO {ro:Ro} {h:T Obj} {v:Value} {l:List Nat} (hs:Sl ro h v 1 (aGp l)) (hl:∀ x∈l,x < 256):SlR ro h v 1 RU8 l:=⟨aGp l,hs,aB5 l,fun i x d hx hd=>by
 simp only [aGp,List.getElem?_map] at hx
 rw [hd] at hx
 cases hx
 exact ⟨rfl,hl d (List.mem_of_getElem? hd)⟩⟩
theorem RU8.lt {ro:Ro} {h:T Obj} {v:Value} {l:List Nat} (hs:SlR ro h v 1 RU8 l):∀ x∈l,x < 256:=fun x hx=>by
 obtain ⟨cs,h1,h2,h3⟩:=hs
 obtain ⟨i,hi⟩:=List.getElem?_of_mem hx
 have hlt:=(List.getElem?_eq_some_iff.1 hi).1
 exact (h3 i _ _ (List.getElem?_eq_getElem (by omega)) hi).2
theorem aJT (mid n c k j:Nat):oY 2 (.slice (some (own mid 2)) n c) k j=at_ mid (k*2+j) 0:=by simp [oY,elt,own]
def kM (v:Value):List Nat:=(iN v).toList
theorem eV {v:Value} {k:Nat}:k∈kM v ↔ iN v=some k:=by unfold kM; cases iN v<;>simp [eq_comm]
section
variable {ro:Ro} {h:T Obj} {nx nA:Nat} {X:List Nat} {Q:KE} {e:Env}
set_option maxRecDepth 8000 in
theorem aPv {mid:Nat} {row:List MoveD} {mcs0:List (List Value)} {w2 w3 w6 w19 w20 w21 w33 w34 w35:Value} (e2:e 2=w2) (e3:e 3=w3) (e6:e 6=w6) (e19:e 19=w19) (e20:e 20=w20) (e21:e 21=w21) (e33:e 33=w33) (e34:e 34=w34) (e35:e 35=w35)
  (e9:e 9=.slice (some (own mid 2)) row.length row.length) (e41:e 41=.slice (some (own mid 2)) row.length row.length) (e42:e 42=.int .i64 row.length) (e43:e 43=.int .i64 0)
  (hg:h.get mid=some (.cells mcs0.flatten.toArray b7)) (hl:mcs0.length=row.length) (h2:∀ x∈mcs0,x.length=2) (hlen:row.length≤1000000)
  (hsrc:∀ (i:Nat) x m,mcs0[i]?=some x→row[i]?=some m→∃ ov,x=[.int .i64 m.to,ov]∧SlR ro (del h [mid]) ov 1 RU8 m.ops∧m.ops.length≤1000000) (hf:Fr h nx) (hX:∀ k∈X,k < nA) (hmid:nA≤mid) (hnA:nA≤nx)
  (hQ:∀ (e':Env) h' n',e' 2=w2→e' 3=w3→e' 6=w6→e' 9=.slice (some (own mid 2)) row.length row.length→e' 19=w19→e' 20=w20→e' 21=w21→e' 33=w33→e' 34=w34→e' 35=w35→nx≤n'→Fr h' n'→dU [mid] h h' →
   SlR ro (del h' X) (.slice (some (own mid 2)) row.length row.length) 2 (xC ro (del h' X)) row→Q (.exit 4) e' h' n'):dS (sA ro) e h nx Q:=by
 have hlt:=hf.lt' hg
 refine bC (fun j e h' nx'=>∃ (k:Nat) (mcs:List (List Value)),k+j=row.length∧nx≤nx'∧e 2=w2∧e 3=w3∧e 6=w6∧e 19=w19∧e 20=w20∧e 21=w21∧e 33=w33∧e 34=w34∧e 35=w35∧e 9=.slice (some (own mid 2)) row.length row.length∧e 41=.slice (some (own mid 2)) row.length row.length∧e 42=.int .i64 row.length∧e 43=.int .i64 k ∧
  h'.get mid=some (.cells mcs.flatten.toArray b7)∧mcs.length=row.length∧(∀ x∈mcs,x.length=2)∧(∀ i,k≤i→mcs[i]?=mcs0[i]?)∧(∀ (i:Nat) x m,i < k→mcs[i]?=some x→row[i]?=some m→∃ ov,x=[.int .i64 m.to,ov]∧SlR ro (del h' (mid::X)) ov 1 RU8 m.ops∧m.ops.length≤1000000)∧dU [mid] h h'∧Fr h' nx') ?_ (n:=row.length)
  ⟨0,mcs0,by omega,by omega,e2,e3,e6,e19,e20,e21,e33,e34,e35,e9,e41,e42,e43,hg,hl,h2,fun _ _=>rfl,fun i x m hi=>by omega,(Sub.refl h).keepL,hf⟩
 rintro j e h' nx' ⟨k,mcs,hj,hnx,e2,e3,e6,e19,e20,e21,e33,e34,e35,e9,e41,e42,e43,hg',hl',h2',hun,hpr,hk',hf'⟩ Q' hq hx
 have hsl:Sl ro h' (.slice (some (own mid 2)) row.length row.length) 2 mcs:=by rw [← hl']; exact Sl.own hg' h2' (Nat.le_refl _)
 unfold sA
 rw [e9,e41,e42,e43]
 refine dF (fun hk=>?_) (fun hk=>?_)
 ·have hk:k < row.length:=by omega
  have hmk:mcs[k]?=some (mcs[k]'(by omega)):=List.getElem?_eq_getElem _
  have hmk0:=hun k (Nat.le_refl _)
  rw [hmk] at hmk0
  have hrk:row[k]?=some row[k]:=List.getElem?_eq_getElem _
  obtain ⟨ov,hx0,hov,hol⟩:=hsrc k _ _ hmk0.symm hrk
  rw [hx0] at hmk
  have hix:=hsl.ix .i64 (i:=k) (by omega)
  have hld:=hsl.loadA hmk
  have hfw:=hsl.fwd (i:=k) (by omega) 1
  rw [aJT] at hfw
  generalize row[k]=m at hx0 hov hol hmk hrk hld
  (repeat(first|refine aB (by simp (disch:=first|omega|exact nnN _|assumption) only [BB,B2,↓reduceIte,Nat.reduceLeDiff,Nat.reduceAdd,CC]<;>rfl) ?_|refine aD ?_|refine aE ?_|with_reducible first|refine aG ?_|refine aF ?_|refine aK ?_|refine aH ?_|refine aJ ?_|refine aI ?_|refine aL ?_|refine aC ?_))
  refine aB hix (aB hld ?_)
  refine jL (x:=[.int .i64 m.to,ov]) aEr rfl rfl rfl (by simp [show cP ov=true from SlR.okC hov,show cP (Value.int .i64 m.to)=true from rfl]) hf' (by omega) fun h3 hs3 hf3 g3 _=>?_
  (repeat(first|refine aB (by simp (disch:=first|omega|exact nnN _|assumption) only [BB,B2,↓reduceIte,Nat.reduceLeDiff,Nat.reduceAdd,CC]<;>rfl) ?_|refine aD ?_|refine aE ?_|with_reducible first|refine aG ?_|refine aF ?_|refine aK ?_|refine aH ?_|refine aJ ?_|refine aI ?_|refine aL ?_|refine aC ?_))
  refine aB (aZ (l:=[.int .i64 m.to,ov]) g3 rfl) ?_
  have hD3:Sub (del h [mid]) h3:=(hk'.delS (fun k h=>h)).trans hs3
  refine aJM (hov.sub hD3 fun _ _ h=>h) hol (hf3.mono (by omega)) fun r h4 n4 hn4 hf4 hs4 ho4=>?_
  have g4:=hs4 _ _ (hs3 _ _ hg')
  refine aB hix (aB hfw ?_)
  have hfl:mcs.flatten.length=row.length*2:=by rw [(lM h2').1,hl']
  refine aB (dN (l:=mcs.flatten) g4 (by omega) ho4.ok (by rcases ho4 with ⟨rfl,_⟩ | ⟨id,_,rfl,_⟩<;>rfl)) ?_
  rw [aBP h2' hmk]
  have hk5:dU [mid] h' (h4.upd mid (some (.cells (mcs.set k [.int .i64 m.to,r]).flatten.toArray b7))):=((hs3.trans hs4).keepL).upd (by simp)
  have hk45:dU [mid] h4 (h4.upd mid (some (.cells (mcs.set k [.int .i64 m.to,r]).flatten.toArray b7))):=(Sub.refl h4).keepL.upd (by simp)
  have hf5:Fr (h4.upd mid (some (.cells (mcs.set k [.int .i64 m.to,r]).flatten.toArray b7))) n4:=hf4.upd (Nat.le_refl _) (by omega)
  have g5:(h4.upd mid (some (.cells (mcs.set k [.int .i64 m.to,r]).flatten.toArray b7))).get mid=some (.cells (mcs.set k [.int .i64 m.to,r]).flatten.toArray b7):=T.get_upd_same _ _ _
  generalize (h4.upd mid (some (.cells (mcs.set k [.int .i64 m.to,r]).flatten.toArray b7)))=h5 at hk5 hk45 hf5 g5
  have ho5:=(ho4.keepK hk45 fun id hid hm=>by have:=(ho4.blk hid).1; simp at hm; omega).del (ids:=mid::X) fun id hid hm=>by
   have:=(ho4.blk hid).1
   rcases List.mem_cons.1 hm with h9 | h9
   ·omega
   ·have:=hX id h9; omega
  have hR5:=aQO (ro:=ro) ho5.sl (RU8.lt hov)
  (repeat(first|refine aB (by simp (disch:=first|omega|exact nnN _|assumption) only [BB,B2,↓reduceIte,Nat.reduceLeDiff,Nat.reduceAdd,CC]<;>rfl) ?_|refine aD ?_|refine aE ?_|with_reducible first|refine aG ?_|refine aF ?_|refine aK ?_|refine aH ?_|refine aJ ?_|refine aI ?_|refine aL ?_|refine aC ?_))
  refine hq (j - 1) _ _ _ _ (by omega) ⟨k+1,mcs.set k [.int .i64 m.to,r],by omega,by omega,e2,e3,e6,e19,e20,e21,e33,e34,e35,e9,e41,e42,rfl,g5,by rw [List.length_set]; exact hl',fun x hx=>?_,fun i hi=>?_,fun i x m' hi hxi hmi=>?_,hk'.trans hk5,hf5.mono (by omega)⟩ (Sub.refl _)
  ·rcases List.mem_or_eq_of_mem_set hx with h9 | h9
   ·exact h2' x h9
   ·subst h9; rfl
  ·rw [List.getElem?_set_ne (by omega)]; exact hun i (by omega)
  ·by_cases hik:k=i
   ·subst hik
    rw [List.getElem?_set_self (by omega)] at hxi
    cases hxi
    rw [hrk] at hmi
    cases hmi
    exact ⟨r,rfl,hR5,hol⟩
   ·rw [List.getElem?_set_ne hik] at hxi
    obtain ⟨ov',q1,q2,q3⟩:=hpr i x m' (by omega) hxi hmi
    exact ⟨ov',q1,q2.sub (hk5.del (l:=mid::X) (l':=mid::X) (fun k hk=>by simp at hk; subst hk; exact List.mem_cons_self ..) fun k hk=>.inl hk) fun _ _ h=>h,q3⟩
 ·(repeat(first|refine aB (by simp (disch:=first|omega|exact nnN _|assumption) only [BB,B2,↓reduceIte,Nat.reduceLeDiff,Nat.reduceAdd,CC]<;>rfl) ?_|refine aD ?_|refine aE ?_|with_reducible first|refine aG ?_|refine aF ?_|refine aK ?_|refine aH ?_|refine aJ ?_|refine aI ?_|refine aL ?_|refine aC ?_))
  refine hx _ _ _ _ (fun e=>by cases e) ?_
  have hmX:mid ∉ X:=fun hm=>by have:=hX mid hm; omega
  refine hQ _ _ _ e2 e3 e6 e9 e19 e20 e21 e33 e34 e35 (by omega) (hf'.mono (by omega)) hk' ⟨mcs,?_,hl',fun i x m hx hm=>?_⟩
  ·have:(del h' X).get mid=some (.cells mcs.flatten.toArray b7):=kA hg' hmX
   rw [← hl']
   exact Sl.own this h2' (Nat.le_refl _)
  ·have hi:=(List.getElem?_eq_some_iff.1 hx).1
   obtain ⟨ov',q1,q2,q3⟩:=hpr i x m (by omega) hx hm
   exact ⟨ov',q1,q2.sub (rU fun k hk=>List.mem_cons_of_mem _ hk) fun _ _ h=>h,by unfold mF; omega⟩
end
end V
end Go.Proofs.YtcaccnneblghgaaGreat
namespace Go.Proofs.YtcaccnneblghgaaGreat
namespace V
attribute [local irreducible] aA ifP aS cM eQ exP cO
theorem aO8:und Tryz.prog fX=some (.slice d4):=by kernel_rfl
theorem aPk:∃ i,tin Tryz.prog d4=some i∧i.size=1∧i.bytes=24:=zL (by kernel_rfl)
theorem aPp:zer Tryz.prog d4=some (.slice none 0 0):=by kernel_rfl
theorem aPW (aid:Nat) (a:Option Addr) (n c:Nat):bU Tryz.prog fX aid 1 [(0,.slice a n c)]=some (.slice (some (own aid 1)) 1 1,some (.cells [Value.slice a n c].toArray d4)):=by kernel_rfl
def wsC (ws:List Value):List (List Value):=ws.map fun w=>[w]
theorem aHM (ws:List Value):(wsC ws).length=ws.length:=by simp [wsC]
theorem aPd {ro:Ro} {h:T Obj} {w:Value} {row:List MoveD} (hr:SlR ro h w 2 (xC ro h) row):∃ cs,Sl ro h w 2 cs∧cs.length=row.length∧cs.flatten.all cP=true∧(∀ x∈cs,x.length=2)∧∀ (i:Nat) x m,cs[i]?=some x→row[i]?=some m→xC ro h x m:=by
 obtain ⟨cs,h1,h2,h3⟩:=hr
 refine ⟨cs,h1,h2,?_,?_,h3⟩
 ·rw [List.all_eq_true]
  intro x hx
  obtain ⟨y,hy,hxy⟩:=List.mem_flatten.1 hx
  obtain ⟨i,hi⟩:=List.getElem?_of_mem hy
  have hlt:=(List.getElem?_eq_some_iff.1 hi).1
  obtain ⟨ov,rfl,hov,_⟩:=h3 i _ _ hi (List.getElem?_eq_getElem (by omega))
  simp at hxy
  rcases hxy with rfl | rfl
  ·rfl
  ·exact SlR.okC hov
 ·intro y hy
  obtain ⟨i,hi⟩:=List.getElem?_of_mem hy
  have hlt:=(List.getElem?_eq_some_iff.1 hi).1
  obtain ⟨ov,rfl,_⟩:=h3 i _ _ hi (List.getElem?_eq_getElem (by omega))
  rfl
section
variable {ro:Ro} {h:T Obj} {nx nA:Nat} {X:List Nat} {Q:KE} {e:Env}
set_option maxRecDepth 8000 in
set_option maxHeartbeats 1000000 in
theorem aPu {tid:Nat} {nvs R' U':Value} {rows:List (List MoveD)} {w2 w3 w19 w20 w21:Value} (e2:e 2=w2) (e3:e 3=w3) (e6:e 6=ptr tid) (e19:e 19=w19) (e20:e 20=w20) (e21:e 21=w21) (e33:e 33=nvs) (e34:e 34=.int .i64 rows.length) (e35:e 35=.int .i64 0)
  (hg:h.get tid=some (.cells [cN,R',U',cN].toArray a8)) (hlen:rows.length≤1000000) (hsrc:SlR ro (del h [tid]) nvs 1 (rN ro (del h [tid])) rows) (hrow:∀ row∈rows,row≠[]∧row.length≤1000000∧∀ m∈row,m.ops.length≤1000000)
  (hf:Fr h nx) (hX:∀ k∈X,k < nA) (htid:nA≤tid) (hnA:nA≤nx)
  (hQ:∀ (e':Env) h' n' nv,e' 2=w2→e' 3=w3→e' 6=ptr tid→e' 19=w19→e' 20=w20→e' 21=w21→nx≤n'→Fr h' n'→dU [tid] h h'→h'.get tid=some (.cells [cN,R',U',nv].toArray a8) →
   SlR ro (del h' (tid::X)) nv 1 (rN ro (del h' (tid::X))) rows→Q (.exit 2) e' h' n'):dS (rZ ro) e h nx Q:=by
 have hlt:=hf.lt' hg
 refine bC (fun j e h' nx'=>∃ (k:Nat) (ws:List Value) (nv:Value),k+j=rows.length∧nx≤nx'∧e 2=w2∧e 3=w3∧e 6=ptr tid∧e 19=w19∧e 20=w20∧e 21=w21∧e 33=nvs∧e 34=.int .i64 rows.length∧e 35=.int .i64 k ∧
  h'.get tid=some (.cells [cN,R',U',nv].toArray a8)∧dV h' nv 1 d4 (wsC ws) nx∧ws.length=k∧(∀ (i:Nat) w row,ws[i]?=some w→rows[i]?=some row→rN ro (del h' (tid::(kM nv++X))) [w] row)∧dU [tid] h h'∧Fr h' nx') ?_ (n:=rows.length)
  ⟨0,[],cN,by omega,by omega,e2,e3,e6,e19,e20,e21,e33,e34,e35,hg,dV.nil,rfl,fun i w row hw=>by simp at hw,(Sub.refl h).keepL,hf⟩
 rintro j e h' nx' ⟨k,ws,nv,hj,hnx,e2,e3,e6,e19,e20,e21,e33,e34,e35,hg',ho',hwl,hfa,hk',hf'⟩ Q' hq hx
 unfold rZ
 rw [e33,e34,e35]
 refine dF (fun hk=>?_) (fun hk=>?_)
 ·have hk:k < rows.length:=by omega
  have hD:Sub (del h [tid]) h':=hk'.delS fun k h=>h
  have hs':=hsrc.sub hD (rN.sub hD)
  have hix:=hs'.ix .i64 hk
  obtain ⟨w0,⟨w0',hw1,hw2,hw3⟩,hld⟩:=hs'.at1 hk
  simp only [List.cons.injEq,and_true] at hw1
  subst hw1
  have hrk:rows[k]?=some rows[k]:=List.getElem?_eq_getElem _
  obtain ⟨b1,b2,b3⟩:=hrow _ (List.getElem_mem hk)
  generalize rows[k]=row at hw2 hw3 hrk b1 b2 b3
  obtain ⟨cs,c1,c2,c3,c4,c5⟩:=aPd hw2
  (repeat(first|refine aB (by simp (disch:=first|omega|exact nnN _|assumption) only [BB,B2,↓reduceIte,Nat.reduceLeDiff,Nat.reduceAdd,CC]<;>rfl) ?_|refine aD ?_|refine aE ?_|with_reducible first|refine aG ?_|refine aF ?_|refine aK ?_|refine aH ?_|refine aJ ?_|refine aI ?_|refine aL ?_|refine aC ?_))
  refine aB hix (aB hld ?_)
  refine aGU c1 c3 (by omega) (hf'.mono (by omega)) fun r h1 n1 hn1 hf1 hs1 ho1=>?_
  have hlnr:=(ho1.sl (ro:=ro)).len
  rw [c2] at hlnr
  rcases ho1 with ⟨_,hnil⟩ | ⟨mid,hmid,rfl,hz1,hg1⟩
  ·exact absurd (List.length_eq_zero_iff.1 (by rw [← c2,hnil]; rfl)) b1
  rw [c2]
  refine aB rfl ?_
  have hmlt:=hf1.lt' hg1
  have hs1m:Sub h' (del h1 [mid]):=hs1.delN hf' fun i hi=>by simp at hi; omega
  refine aPv (ro:=ro) (mid:=mid) (row:=row) (mcs0:=cs) (nA:=nx'+6) (X:=tid::(kM nv++X)) e2 e3 e6 e19 e20 e21 e33 e34 e35 rfl rfl rfl rfl hg1 c2 hz1 b2 (fun i x m hxi hmi=>?_) (hf1.mono (by omega)) (fun k hk=>?_) hmid (by omega) ?_
  ·obtain ⟨ov,rfl,hov,_⟩:=c5 i x m hxi hmi
   exact ⟨ov,rfl,hov.sub hs1m fun _ _ h=>h,b3 m (List.mem_of_getElem? hmi)⟩
  ·rcases List.mem_cons.1 hk with rfl | hk
   ·have:=hf'.lt' hg'; omega
   ·rcases List.mem_append.1 hk with hk | hk
    ·have h9:=(ho'.blk (eV.1 hk)).2
     have:=hf'.lt' h9; omega
    ·have:=hX k hk; omega
  ·intro e4 h2 n2 f2 f3 f6 f9 f19 f20 f21 f33 f34 f35 hn2 hf2 hk2 hrw
   have hs2:Sub h' h2:=fun k o hk=>hk2 k o (hs1 k o hk) fun hm=>by have:=hf'.lt' hk; simp at hm; omega
   have hg2:=hs2 _ _ hg'
   have ho2:=ho'.keepS hs2
   have hj5:∀ (e5:Env) n3,e5 2=w2→e5 3=w3→e5 6=ptr tid→e5 9=.slice (some (own mid 2)) row.length row.length→e5 19=w19→e5 20=w20→e5 21=w21→e5 33=nvs→e5 34=.int .i64 rows.length→e5 35=.int .i64 k→n2≤n3→nU ro Q' e5 h2 n3:=by
    intro e5 n3 u2 u3 u6 u9 u19 u20 u21 u33 u34 u35 hn3
    unfold nU
    rw [u6,u9]
    (repeat(first|refine aB (by simp (disch:=first|omega|exact nnN _|assumption) only [BB,B2,↓reduceIte,Nat.reduceLeDiff,Nat.reduceAdd,CC]<;>rfl) ?_|refine aD ?_|refine aE ?_|with_reducible first|refine aG ?_|refine aF ?_|refine aK ?_|refine aH ?_|refine aJ ?_|refine aI ?_|refine aL ?_|refine aC ?_))
    refine aB (aZ (l:=[cN,R',U',nv]) hg2 rfl) ?_
    obtain ⟨i,t1,t2,t3⟩:=aPk
    have hn1lt:iN nv≠some (n3+3):=fun e=>by
     have h9:=(ho2.blk e).2
     have:=hf2.lt' h9; omega
    refine aBk (z:=1) (l:=wsC ws) (y:=[.slice (some (own mid 2)) row.length row.length]) (aPW _ _ _ _) rfl ho2 aO8 t1 (by omega) (by omega) aPp rfl rfl (by rw [aHM,t3]; unfold big; omega) (by rw [aHM]; unfold big; omega) (hf2.mono (by omega)) (by omega) (by omega) hn1lt fun h3 ho3 hk3 hf3=>?_
    have ewc:wsC ws++[[.slice (some (own mid 2)) row.length row.length]]=wsC (ws++[.slice (some (own mid 2)) row.length row.length]):=by simp [wsC]
    rw [ewc] at ho3 ⊢
    generalize hnv:Value.slice (some (own (n3+5) 1)) (wsC (ws++[.slice (some (own mid 2)) row.length row.length])).length (wsC (ws++[.slice (some (own mid 2)) row.length row.length])).length=nv2 at ho3
    have hsb2:iN nv2=some (n3+5):=by rw [← hnv]; rfl
    have hg3:=hk3 _ _ hg2 (by have:=hf2.lt' hg2; omega) (fun e=>(ho2.ne hg2 (by decide)) e)
    dsimp only
    (repeat(first|refine aB (by simp (disch:=first|omega|exact nnN _|assumption) only [BB,B2,↓reduceIte,Nat.reduceLeDiff,Nat.reduceAdd,CC]<;>rfl) ?_|refine aD ?_|refine aE ?_|with_reducible first|refine aG ?_|refine aF ?_|refine aK ?_|refine aH ?_|refine aJ ?_|refine aI ?_|refine aL ?_|refine aC ?_))
    refine aB (dN (l:=[cN,R',U',nv]) hg3 (by show 3 < 4; omega) ho3.ok (by rw [← hnv]; rfl)) ?_
    have hk4:dU (tid::kM nv) h2 (h3.upd tid (some (.cells ([cN,R',U',nv].set 3 nv2).toArray a8))):=fun k o hk hn=>by
     have h9:k≠tid:=fun e=>hn (by rw [e]; exact List.mem_cons_self ..)
     have h10:iN nv≠some k:=fun e=>hn (List.mem_cons_of_mem _ (eV.2 e))
     rw [T.get_upd_ne _ _ h9]
     exact hk3 k o hk (by have:=hf2.lt' hk; omega) h10
    have ho4:dV (h3.upd tid (some (.cells ([cN,R',U',nv].set 3 nv2).toArray a8))) nv2 1 d4 (wsC (ws++[.slice (some (own mid 2)) row.length row.length])) nx:=by
     have hkk:dU [tid] h3 (h3.upd tid (some (.cells ([cN,R',U',nv].set 3 nv2).toArray a8))):=(Sub.refl h3).keepL.upd (by simp)
     exact ho3.keepK hkk fun id hid hm=>by rw [hsb2] at hid; cases hid; simp at hm; have:=hf2.lt' hg2; omega
    have hf4:Fr (h3.upd tid (some (.cells ([cN,R',U',nv].set 3 nv2).toArray a8))) (n3+6):=(hf3.mono (by omega)).upd (Nat.le_refl _) (by omega)
    have g4:(h3.upd tid (some (.cells ([cN,R',U',nv].set 3 nv2).toArray a8))).get tid=some (.cells [cN,R',U',nv2].toArray a8):=T.get_upd_same _ _ _
    generalize (h3.upd tid (some (.cells ([cN,R',U',nv].set 3 nv2).toArray a8)))=h4 at hk4 ho4 hf4 g4
    have hmono:Sub (del h2 (tid::(kM nv++X))) (del h4 (tid::(kM nv2++X))):=hk4.del (fun k hk=>by
      rcases List.mem_cons.1 hk with rfl | hk
      ·exact List.mem_cons_self ..
      ·exact List.mem_cons_of_mem _ (List.mem_append.2 (.inl hk))) fun k hk=>by
     rcases List.mem_cons.1 hk with rfl | hk
     ·exact .inl (List.mem_cons_self ..)
     ·rcases List.mem_append.1 hk with hk | hk
      ·have:=eV.1 hk
       rw [hsb2] at this
       cases this
       exact .inr (hf2 _ (by omega))
      ·exact .inl (List.mem_cons_of_mem _ (List.mem_append.2 (.inr hk)))
    have hj4:∀ (e6':Env) n6,e6' 2=w2→e6' 3=w3→e6' 6=ptr tid→e6' 19=w19→e6' 20=w20→e6' 21=w21→e6' 33=nvs→e6' 34=.int .i64 rows.length→e6' 35=.int .i64 k→n3+6≤n6→nT ro Q' e6' h4 n6:=by
     intro e6' n6 v2 v3 v6 v19 v20 v21 v33 v34 v35 hn6
     unfold nT
     rw [v35]
     (repeat(first|refine aB (by simp (disch:=first|omega|exact nnN _|assumption) only [BB,B2,↓reduceIte,Nat.reduceLeDiff,Nat.reduceAdd,CC]<;>rfl) ?_|refine aD ?_|refine aE ?_|with_reducible first|refine aG ?_|refine aF ?_|refine aK ?_|refine aH ?_|refine aJ ?_|refine aI ?_|refine aL ?_|refine aC ?_))
     refine hq (j - 1) _ _ _ _ (by omega) ⟨k+1,ws++[.slice (some (own mid 2)) row.length row.length],nv2,by omega,by omega,v2,v3,v6,v19,v20,v21,v33,v34,rfl,g4,ho4,by simp [hwl],fun i w row' hwi hri=>?_,fun k' o hk9 hn9=>?_,hf4.mono (by omega)⟩ (Sub.refl _)
     ·rcases Nat.lt_or_ge i ws.length with hi | hi
      ·rw [List.getElem?_append_left hi] at hwi
       have h9:=hfa i w row' hwi hri
       have hkeep2:Sub (del h' (tid::(kM nv++X))) (del h2 (tid::(kM nv++X))):=(Sub.keepL hs2:dU [] h' h2).del (fun k hk=>by cases hk) fun k hk=>.inl hk
       exact rN.sub (hkeep2.trans hmono) _ _ h9
      ·rw [List.getElem?_append_right hi] at hwi
       have hlt9:=(List.getElem?_eq_some_iff.1 hwi).1
       have:i=k:=by simp at hlt9; omega
       subst this
       rw [hrk] at hri
       cases hri
       have:w=.slice (some (own mid 2)) row.length row.length:=by have:=List.mem_of_getElem? hwi; simpa using this
       subst this
       exact ⟨_,rfl,hrw.sub hmono (xC.sub hmono),by unfold mF; omega⟩
     ·have h10:=hs2 _ _ (hk' k' o hk9 hn9)
      have hk'lt:=hf.lt' hk9
      refine hk4 k' o h10 fun hm=>?_
      rcases List.mem_cons.1 hm with rfl | hm
      ·exact hn9 (by simp)
      ·have:=(ho2.blk (eV.1 hm)).1; omega
    exact hj4 _ _ u2 u3 u6 u19 u20 u21 u33 u34 u35 (by omega)
   refine eB (dA ?_)
   exact hj5 _ _ f2 f3 f6 f9 f19 f20 f21 f33 f34 f35 (Nat.le_refl _)
 ·(repeat(first|refine aB (by simp (disch:=first|omega|exact nnN _|assumption) only [BB,B2,↓reduceIte,Nat.reduceLeDiff,Nat.reduceAdd,CC]<;>rfl) ?_|refine aD ?_|refine aE ?_|with_reducible first|refine aG ?_|refine aF ?_|refine aK ?_|refine aH ?_|refine aJ ?_|refine aI ?_|refine aL ?_|refine aC ?_))
  refine hx _ _ _ _ (fun e=>by cases e) ?_
  have hnt:∀ id,iN nv=some id→id ∉ tid::X:=fun id hid hm=>by
   have h9:=ho'.blk hid
   rcases List.mem_cons.1 hm with rfl | hm
   ·exact (ho'.ne hg' (by decide)) hid
   ·have:=hX id hm; omega
  have hsub:Sub (del h' (tid::(kM nv++X))) (del h' (tid::X)):=rU fun k hk=>by
   rcases List.mem_cons.1 hk with rfl | hk
   ·exact List.mem_cons_self ..
   ·exact List.mem_cons_of_mem _ (List.mem_append.2 (.inr hk))
  refine hQ _ _ _ nv e2 e3 e6 e19 e20 e21 (by omega) (hf'.mono (by omega)) hk' hg' ⟨wsC ws,(ho'.del hnt).sl,by rw [aHM]; omega,fun i x row hxi hri=>?_⟩
  simp only [wsC,List.getElem?_map] at hxi
  cases hw:ws[i]? with
  | none=>rw [hw] at hxi; cases hxi
  | some w =>
   rw [hw] at hxi
   cases hxi
   exact rN.sub hsub _ _ (hfa i w row hw hri)
end
end V
end Go.Proofs.YtcaccnneblghgaaGreat
namespace Go.Proofs.YtcaccnneblghgaaGreat
namespace V
attribute [local irreducible] aA ifP aS cM eQ exP cO
def erS (s:StateD):StateD:=⟨[],s.r,s.rule,s.next⟩
def er (d:AutoD):AutoD:=⟨d.c,d.many,d.counts,d.states.map erS⟩
theorem aBl {P:Program} {t:TypeId} {z:Array Value} {fs:Array Field} {pl:List (Nat × Nat)} {parts:List (Nat × Value)} {l:List Value} (h1:zer P t=some (.agg z)) (h2:und P t=some (.struct fs)) (h3:nW P fs.toList=some pl) (h4:mZ (pl[·]?) z.toList parts=some l):eX P t parts=some (.agg l.toArray):=by
 unfold eX
 rw [h1]
 simp only [Option.bind,h2,h3,Value.cells_agg,h4]
theorem aNL {P:Program} {t:TypeId} {pl:List (Nat × Nat)} (h:((und P t).bind fun d=>match d with
  | .struct fs=>nW P fs.toList
  | _=>none)=some pl):∃ fs,und P t=some (.struct fs)∧nW P fs.toList=some pl:=by
 obtain ⟨d,h2,h3⟩:=aM h
 cases d<;>try (cases h3; done)
 exact ⟨_,h2,h3⟩
theorem aIW {a b c:List Value} (h:c.length=a.length):over (a++b) 0 c=c++b:=by
 unfold over
 rw [List.take_zero,List.nil_append,Nat.zero_add,h,List.drop_left]
theorem aHZ {c:List Nat} {n:Int} {cv:Value} (hc:c.length=256) (hcv:cv.cells=#[cv]):eX Tryz.prog bG [(0,mB c n),(1,cv)]=some (.agg (dQ c n cv cN).toArray):=by
 obtain ⟨fs,h1,h2⟩:=aNL (P:=Tryz.prog) (t:=bG) (pl:=[(0,257),(257,1),(258,1)]) (by kernel_rfl)
 refine aBl aEq h1 h2 ?_
 have hs:(eU (List.replicate 256 0) 0).length=257:=dZ List.length_replicate
 have hs2:(eU c n).length=257:=dZ hc
 have e1:Nat.beq (mB c n).cells.size 257=true:=by rw [lR]; simp [hs2]
 have e2:Nat.ble (0+257) vD.length=true:=by rw [rQ]; rfl
 have o1:over vD 0 (mB c n).cells.toList=dQ c n cN cN:=by
  rw [lR]
  exact aIW (by rw [hs,hs2])
 have e3:Nat.beq cv.cells.size 1=true:=by rw [hcv]; rfl
 have e4:Nat.ble (257+1) (dQ c n cN cN).length=true:=by rw [cK hc]; rfl
 have o2:over (dQ c n cN cN) 257 cv.cells.toList=dQ c n cv cN:=by
  rw [hcv]
  show over _ 257 [cv]=_
  rw [aED _ (by rw [cK hc]; omega),aHU hc]
 show mZ _ vD _=_
 simp only [mZ,List.getElem?_cons_zero,List.getElem?_cons_succ,Option.bind,e1,e2,o1,e3,e4,o2]
theorem aIC {P:Program} {h:T Obj} {a n:Nat} {ty:TypeId} {zv v:Value} {x:List Value} {K:T Obj→Prop} (hz:zer P ty=some zv) (hzs:zv.cells.size=n) (hv:v.cells=x.toArray) (hx:x.length=n) (hok:x.all cP=true)
  (hK:∀ h',h'.get a=some (.cells x.toArray ty)→(∀ k,k≠a→h'.get k=h.get k)→K h') :
  aA (zer P ty) fun z=>cM h a (.cells z.cells ty) fun h1=>aA (bV n h1 (ptr a) v) K:=by
 refine aB hz (aD (aB (lJ (l:=zv.cells.toList) (vs:=x) (e:=ty) (f:=(0,0)) (by rw [T.get_upd_same]) hv hx (by simpa using hzs) hok) ?_))
 exact hK _ (by rw [T.get_upd_same]) fun k hk=>by rw [T.get_upd_ne _ _ hk,T.get_upd_ne _ _ hk]
theorem aGS (a b:Value) (h1:a.cells=#[a]) (h2:b.cells=#[b]):eX Tryz.prog a8 [(1,a),(2,b)]=some (.agg #[cN,a,b,cN]):=by
 obtain ⟨fs,g1,g2⟩:=aNL (P:=Tryz.prog) (t:=a8) (pl:=[(0,1),(1,1),(2,1),(3,1)]) (by kernel_rfl)
 refine aBl rK g1 g2 ?_
 simp only [mZ,List.getElem?_cons_zero,List.getElem?_cons_succ,Option.bind,h1,h2]
 rfl
theorem dV.cells {h:T Obj} {v:Value} {z:Nat} {e:TypeId} {l:List (List Value)} {lo:Nat} (ho:dV h v z e l lo):v.cells=#[v]:=by
 rcases ho with ⟨rfl,_⟩ | ⟨id,_,rfl,_⟩<;>rfl
def Fit (d:AutoD):Prop:=d.counts.length≤1000000∧d.states.length≤1000000∧∀ s∈d.states,s.r.length≤1000000∧s.rule.length≤1000000∧s.next.length≤1000000∧∀ row∈s.next,row≠[]∧row.length≤1000000∧∀ m∈row,m.ops.length≤1000000
section
variable {ro:Ro} {h:T Obj} {nx:Nat} {Q:KE} {e:Env}
set_option maxRecDepth 8000 in
set_option maxHeartbeats 2000000 in
theorem aPt {X:List Nat} {rid oid:Nat} {c:List Nat} {n:Int} {cv svs:Value} {S:List StateD} (hc:c.length=256) (e2:e 2=ptr rid) (e3:e 3=ptr oid) (e19:e 19=svs) (e20:e 20=.int .i64 S.length) (e21:e 21=.int .i64 0)
  (hg:h.get oid=some (.cells (dQ c n cv cN).toArray bG)) (hgr:h.get rid=some (.cells vD.toArray bG)) (hro:rid≠oid) (hsrc:SlR ro (del h [oid]) svs 4 (dX ro (del h [oid])) S) (hlen:S.length≤1000000)
  (hfit:∀ s∈S,s.r.length≤1000000∧s.rule.length≤1000000∧s.next.length≤1000000∧∀ row∈s.next,row≠[]∧row.length≤1000000∧∀ m∈row,m.ops.length≤1000000) (hf:Fr h nx) (hX:∀ k∈X,k < nx)
  (hQ:∀ (e':Env) h' n' sv,e' 2=ptr rid→e' 3=ptr oid→nx≤n'→Fr h' n'→dU [oid] h h'→h'.get oid=some (.cells (dQ c n cv sv).toArray bG)→cP sv=true →
   SlR ro (del h' (oid::X)) sv 4 (dX ro (del h' (oid::X))) (S.map erS)→Q (.exit 0) e' h' n'):dS (rY ro) e h nx Q:=by
 have hlt:=hf.lt' hg
 have hltr:=hf.lt' hgr
 refine bC (fun j e h' nx'=>∃ (k:Nat) (cs:List (List Value)) (sv:Value),k+j=S.length∧nx≤nx'∧e 2=ptr rid∧e 3=ptr oid∧e 19=svs∧e 20=.int .i64 S.length∧e 21=.int .i64 k ∧
  h'.get oid=some (.cells (dQ c n cv sv).toArray bG)∧dV h' sv 4 a8 cs nx∧cs.length=k∧(∀ (i:Nat) x s,cs[i]?=some x→S[i]?=some s→dX ro (del h' (oid::(kM sv++X))) x (erS s))∧dU [oid] h h'∧Fr h' nx') ?_ (n:=S.length)
  ⟨0,[],cN,by omega,by omega,e2,e3,e19,e20,e21,hg,dV.nil,rfl,fun i x s hx=>by simp at hx,(Sub.refl h).keepL,hf⟩
 rintro j e h' nx' ⟨k,cs,sv,hj,hnx,e2,e3,e19,e20,e21,hg',ho',hcl,hfa,hk',hf'⟩ Q' hq hx
 unfold rY
 rw [e19,e20,e21]
 refine dF (fun hk=>?_) (fun hk=>?_)
 ·have hk:k < S.length:=by omega
  have hD:Sub (del h [oid]) h':=hk'.delS fun k h=>h
  have hs':=hsrc.sub hD (dX.sub hD)
  have hix:=hs'.ix .i64 hk
  have hsk:S[k]?=some S[k]:=List.getElem?_eq_getElem _
  obtain ⟨x,⟨lv,rv,uv,nv,rfl,y1,y2,y3,y4,y5⟩,hx2,hx3,hx4,hx5⟩:=hs'.at hk
  obtain ⟨b1,b2,b3,b4⟩:=hfit _ (List.getElem_mem hk)
  generalize S[k]=s at y1 y2 y3 y4 y5 b1 b2 b3 b4 hsk
  have hlt':=hf'.lt' hg'
  (repeat(first|refine aB (by simp (disch:=first|omega|exact nnN _|assumption) only [BB,B2,↓reduceIte,Nat.reduceLeDiff,Nat.reduceAdd,CC]<;>rfl) ?_|refine aD ?_|refine aE ?_|with_reducible first|refine aG ?_|refine aF ?_|refine aK ?_|refine aH ?_|refine aJ ?_|refine aI ?_|refine aL ?_|refine aC ?_))
  refine aB hix (aB hx3 ?_)
  refine jL (x:=[lv,rv,uv,nv]) rK rfl rfl rfl (by simp [y1.ok,y2.ok,y3.ok,SlR.okC y4]) hf' (by omega) fun h1 hs1 hf1 g1 _=>?_
  (repeat(first|refine aB (by simp (disch:=first|omega|exact nnN _|assumption) only [BB,B2,↓reduceIte,Nat.reduceLeDiff,Nat.reduceAdd,CC]<;>rfl) ?_|refine aD ?_|refine aE ?_|with_reducible first|refine aG ?_|refine aF ?_|refine aK ?_|refine aH ?_|refine aJ ?_|refine aI ?_|refine aL ?_|refine aC ?_))
  refine aB (aZ (l:=[lv,rv,uv,nv]) g1 rfl) ?_
  refine s5 (y2.sub hs1) b1 (hf1.mono (by omega)) fun R' h2 n2 hn2 hf2 hs2 ho2=>?_
  (repeat(first|refine aB (by simp (disch:=first|omega|exact nnN _|assumption) only [BB,B2,↓reduceIte,Nat.reduceLeDiff,Nat.reduceAdd,CC]<;>rfl) ?_|refine aD ?_|refine aE ?_|with_reducible first|refine aG ?_|refine aF ?_|refine aK ?_|refine aH ?_|refine aJ ?_|refine aI ?_|refine aL ?_|refine aC ?_))
  refine aB (aZ (l:=[lv,rv,uv,nv]) (hs2 _ _ g1) rfl) ?_
  refine ⟨fK g1 (hs2 _ _ g1),?_⟩
  refine s5 (y3.sub (hs1.trans hs2)) b2 hf2 fun U' h3 n3 hn3 hf3 hs3 ho3=>?_
  refine aB (aGS _ _ ho2.cells ho3.cells) ?_
  refine aIC (x:=[cN,R',U',cN]) rK rfl rfl rfl (by simp [show cP cN=true from rfl,ho2.ok,ho3.ok]) fun h4 g4 ho4=>?_
  have hs13:Sub h' h3:=(hs1.trans hs2).trans hs3
  have hs4:Sub h' h4:=fun k o hk=>by rw [ho4 k (by have:=hf'.lt' hk; omega)]; exact hs13 k o hk
  have hs4t:Sub h' (del h4 [nx'+12]):=fun k o hk=>kA (hs4 k o hk) (by have:=hf'.lt' hk; simp; omega)
  have hf4:Fr h4 n3:=fun k hk=>by rw [ho4 k (by omega)]; exact hf3 k hk
  have g14:h4.get (nx'+3)=some (.cells [lv,rv,uv,nv].toArray a8):=by rw [ho4 _ (by omega)]; exact hs3 _ _ (hs2 _ _ g1)
  have hnl:=(y4.sub hs4 (rN.sub hs4)).len
  (repeat(first|refine aB (by simp (disch:=first|omega|exact nnN _|assumption) only [BB,B2,↓reduceIte,Nat.reduceLeDiff,Nat.reduceAdd,CC]<;>rfl) ?_|refine aD ?_|refine aE ?_|with_reducible first|refine aG ?_|refine aF ?_|refine aK ?_|refine aH ?_|refine aJ ?_|refine aI ?_|refine aL ?_|refine aC ?_))
  refine aB (aZ (l:=[lv,rv,uv,nv]) g14 rfl) ?_
  refine aB hnl ?_
  refine aPu (ro:=ro) (tid:=nx'+12) (rows:=s.next) (R':=R') (U':=U') (X:=oid::(kM sv++X)) (nA:=nx') e2 e3 rfl e19 e20 e21 rfl rfl rfl g4 b3 (y4.sub hs4t (rN.sub hs4t)) b4 (hf4.mono (by omega)) (fun k hk=>?_) (by omega) (by omega) ?_
  ·rcases List.mem_cons.1 hk with rfl | hk
   ·exact hlt'
   ·rcases List.mem_append.1 hk with hk | hk
    ·exact hf'.lt' (ho'.blk (eV.1 hk)).2
    ·have:=hX k hk; omega
  ·intro e5 h5 n5 nv5 f2 f3 f6 f19 f20 f21 hn5 hf5 hk5 g5 hnx5
   have hs5:Sub h' h5:=fun k o hk=>hk5 k o (hs4 k o hk) (by have:=hf'.lt' hk; simp; omega)
   have hg5:=hs5 _ _ hg'
   have ho5:=ho'.keepS hs5
   have hR5:dV h5 R' 1 dW (jV s.r) (nx'+14):=((ho2.keepS hs3).keepK (ids:=[nx'+12]) (h':=h4) (fun k o hk hn=>by rw [ho4 k (by simpa using hn)]; exact hk) fun id hid hm=>by have:=(ho2.blk hid).1; simp at hm; omega).keepK hk5 fun id hid hm=>by have:=(ho2.blk hid).1; simp at hm; omega
   have hU5:dV h5 U' 1 dW (jV s.rule) n2:=(ho3.keepK (ids:=[nx'+12]) (h':=h4) (fun k o hk hn=>by rw [ho4 k (by simpa using hn)]; exact hk) fun id hid hm=>by have:=(ho3.blk hid).1; simp at hm; omega).keepK hk5 fun id hid hm=>by have:=(ho3.blk hid).1; simp at hm; omega
   have hXlt:∀ k∈oid::(kM sv++X),k < nx':=fun k hk=>by
    rcases List.mem_cons.1 hk with rfl | hk
    ·exact hlt'
    ·rcases List.mem_append.1 hk with hk | hk
     ·exact hf'.lt' (ho'.blk (eV.1 hk)).2
     ·have:=hX k hk; omega
   have hst:dX ro (del h5 (oid::(kM sv++X))) [cN,R',U',nv5] (erS s):=by
    refine ⟨cN,R',U',nv5,rfl,Sl.nil,(hR5.del fun id hid hm=>?_).sl,(hU5.del fun id hid hm=>?_).sl,hnx5.sub (rU fun k hk=>List.mem_cons_of_mem _ hk) (rN.sub (rU fun k hk=>List.mem_cons_of_mem _ hk)),y5⟩
    ·have:=(hR5.blk hid).1; have:=hXlt id hm; omega
    ·have:=(hU5.blk hid).1; have:=hXlt id hm; omega
   have hnv5:cP nv5=true:=SlR.okC hnx5
   have hj3:∀ (e6:Env) n6,e6 2=ptr rid→e6 3=ptr oid→e6 6=ptr (nx'+12)→e6 19=svs→e6 20=.int .i64 S.length→e6 21=.int .i64 k→n5≤n6→nS ro Q' e6 h5 n6:=by
    intro e6 n6 u2 u3 u6 u19 u20 u21 hn6
    unfold nS
    rw [u3,u6]
    (repeat(first|refine aB (by simp (disch:=first|omega|exact nnN _|assumption) only [BB,B2,↓reduceIte,Nat.reduceLeDiff,Nat.reduceAdd,CC]<;>rfl) ?_|refine aD ?_|refine aE ?_|with_reducible first|refine aG ?_|refine aF ?_|refine aK ?_|refine aH ?_|refine aJ ?_|refine aI ?_|refine aL ?_|refine aC ?_))
    refine aB (aZ hg5 (gY hc)) ?_
    refine aB (c8 (l:=[cN,R',U',nv5]) g5 rfl) ?_
    obtain ⟨i,t1,t2,t3⟩:=aLb
    have hn1lt:iN sv≠some (n6+3):=fun e=>by
     have h9:=(ho5.blk e).2
     have:=hf5.lt' h9; omega
    refine aBk (z:=4) (l:=cs) (y:=[cN,R',U',nv5]) (aLJ _ _ _ _ _) rfl ho5 aKA t1 (by omega) (by omega) rK rfl (by simp [show cP cN=true from rfl,hR5.ok,hU5.ok,hnv5]) (by rw [t3]; unfold big; omega) (by unfold big; omega) (hf5.mono (by omega)) (by omega) (by omega) hn1lt fun h7 ho7 hk7 hf7=>?_
    generalize hnv:Value.slice (some (own (n6+5) 4)) (cs++[[cN,R',U',nv5]]).length (cs++[[cN,R',U',nv5]]).length=sv2 at ho7
    have hsb2:iN sv2=some (n6+5):=by rw [← hnv]; rfl
    have hg7:=hk7 _ _ hg5 (by have:=hf5.lt' hg5; omega) (fun e=>(ho5.ne hg5 (by decide)) e)
    dsimp only
    (repeat(first|refine aB (by simp (disch:=first|omega|exact nnN _|assumption) only [BB,B2,↓reduceIte,Nat.reduceLeDiff,Nat.reduceAdd,CC]<;>rfl) ?_|refine aD ?_|refine aE ?_|with_reducible first|refine aG ?_|refine aF ?_|refine aK ?_|refine aH ?_|refine aJ ?_|refine aI ?_|refine aL ?_|refine aC ?_))
    refine aB (dN hg7 (by rw [cK hc]; omega) ho7.ok (by rw [← hnv]; rfl)) ?_
    rw [aLo hc]
    have hk8:dU (oid::kM sv) h5 (h7.upd oid (some (.cells (dQ c n cv sv2).toArray bG))):=fun k o hk hn=>by
     have h9:k≠oid:=fun e=>hn (by rw [e]; exact List.mem_cons_self ..)
     have h10:iN sv≠some k:=fun e=>hn (List.mem_cons_of_mem _ (eV.2 e))
     rw [T.get_upd_ne _ _ h9]
     exact hk7 k o hk (by have:=hf5.lt' hk; omega) h10
    have ho8:dV (h7.upd oid (some (.cells (dQ c n cv sv2).toArray bG))) sv2 4 a8 (cs++[[cN,R',U',nv5]]) nx:=by
     have hkk:dU [oid] h7 (h7.upd oid (some (.cells (dQ c n cv sv2).toArray bG))):=(Sub.refl h7).keepL.upd (by simp)
     exact ho7.keepK hkk fun id hid hm=>by rw [hsb2] at hid; cases hid; simp at hm; have:=hf5.lt' hg5; omega
    have hf8:Fr (h7.upd oid (some (.cells (dQ c n cv sv2).toArray bG))) (n6+6):=(hf7.mono (by omega)).upd (Nat.le_refl _) (by omega)
    have g8:(h7.upd oid (some (.cells (dQ c n cv sv2).toArray bG))).get oid=some (.cells (dQ c n cv sv2).toArray bG):=T.get_upd_same _ _ _
    generalize (h7.upd oid (some (.cells (dQ c n cv sv2).toArray bG)))=h8 at hk8 ho8 hf8 g8
    have hmono:Sub (del h5 (oid::(kM sv++X))) (del h8 (oid::(kM sv2++X))):=hk8.del (fun k hk=>by
      rcases List.mem_cons.1 hk with rfl | hk
      ·exact List.mem_cons_self ..
      ·exact List.mem_cons_of_mem _ (List.mem_append.2 (.inl hk))) fun k hk=>by
     rcases List.mem_cons.1 hk with rfl | hk
     ·exact .inl (List.mem_cons_self ..)
     ·rcases List.mem_append.1 hk with hk | hk
      ·have:=eV.1 hk
       rw [hsb2] at this
       cases this
       exact .inr (hf5 _ (by omega))
      ·exact .inl (List.mem_cons_of_mem _ (List.mem_append.2 (.inr hk)))
    have hj2:∀ (e9:Env) n9,e9 2=ptr rid→e9 3=ptr oid→e9 19=svs→e9 20=.int .i64 S.length→e9 21=.int .i64 k→n6+6≤n9→nR ro Q' e9 h8 n9:=by
     intro e9 n9 v2 v3 v19 v20 v21 hn9
     unfold nR
     rw [v21]
     (repeat(first|refine aB (by simp (disch:=first|omega|exact nnN _|assumption) only [BB,B2,↓reduceIte,Nat.reduceLeDiff,Nat.reduceAdd,CC]<;>rfl) ?_|refine aD ?_|refine aE ?_|with_reducible first|refine aG ?_|refine aF ?_|refine aK ?_|refine aH ?_|refine aJ ?_|refine aI ?_|refine aL ?_|refine aC ?_))
     refine hq (j - 1) _ _ _ _ (by omega) ⟨k+1,cs++[[cN,R',U',nv5]],sv2,by omega,by omega,v2,v3,v19,v20,rfl,g8,ho8,by simp [hcl],fun i x s' hxi hsi=>?_,fun k' o hk9 hn9=>?_,hf8.mono (by omega)⟩ (Sub.refl _)
     ·rcases Nat.lt_or_ge i cs.length with hi | hi
      ·rw [List.getElem?_append_left hi] at hxi
       have h9:=hfa i x s' hxi hsi
       have hkeep2:Sub (del h' (oid::(kM sv++X))) (del h5 (oid::(kM sv++X))):=(Sub.keepL hs5:dU [] h' h5).del (fun k hk=>by cases hk) fun k hk=>.inl hk
       exact dX.sub (hkeep2.trans hmono) _ _ h9
      ·rw [List.getElem?_append_right hi] at hxi
       have hlt9:=(List.getElem?_eq_some_iff.1 hxi).1
       have:i=k:=by simp at hlt9; omega
       subst this
       rw [hsk] at hsi
       cases hsi
       have:x=[cN,R',U',nv5]:=by have:=List.mem_of_getElem? hxi; simpa using this
       subst this
       exact dX.sub hmono _ _ hst
     ·have h10:=hs5 _ _ (hk' k' o hk9 hn9)
      have hk'lt:=hf.lt' hk9
      refine hk8 k' o h10 fun hm=>?_
      rcases List.mem_cons.1 hm with rfl | hm
      ·exact hn9 (by simp)
      ·have:=(ho5.blk (eV.1 hm)).1; omega
    exact hj2 _ _ u2 u3 u19 u20 u21 (by omega)
   refine eB (dA ?_)
   exact hj3 _ _ f2 f3 f6 f19 f20 f21 (Nat.le_refl _)
 ·(repeat(first|refine aB (by simp (disch:=first|omega|exact nnN _|assumption) only [BB,B2,↓reduceIte,Nat.reduceLeDiff,Nat.reduceAdd,CC]<;>rfl) ?_|refine aD ?_|refine aE ?_|with_reducible first|refine aG ?_|refine aF ?_|refine aK ?_|refine aH ?_|refine aJ ?_|refine aI ?_|refine aL ?_|refine aC ?_))
  refine hx _ _ _ _ (fun e=>by cases e) ?_
  have hnt:∀ id,iN sv=some id→id ∉ oid::X:=fun id hid hm=>by
   have h9:=ho'.blk hid
   rcases List.mem_cons.1 hm with rfl | hm
   ·exact (ho'.ne hg' (by decide)) hid
   ·have:=hX id hm; omega
  have hsub:Sub (del h' (oid::(kM sv++X))) (del h' (oid::X)):=rU fun k hk=>by
   rcases List.mem_cons.1 hk with rfl | hk
   ·exact List.mem_cons_self ..
   ·exact List.mem_cons_of_mem _ (List.mem_append.2 (.inr hk))
  refine hQ _ _ _ sv e2 e3 (by omega) (hf'.mono (by omega)) hk' hg' ho'.ok ⟨cs,(ho'.del hnt).sl,by rw [List.length_map]; omega,fun i x s hxi hsi=>?_⟩
  rw [List.getElem?_map] at hsi
  cases hs:S[i]? with
  | none=>rw [hs] at hsi; cases hsi
  | some s0 =>
   rw [hs] at hsi
   cases hsi
   exact dX.sub hsub _ _ (hfa i x s0 hxi hs)
end
end V
end Go.Proofs.YtcaccnneblghgaaGreat
namespace Go.Proofs.YtcaccnneblghgaaGreat
namespace V
attribute [local irreducible] aA ifP aS cM eQ exP cO
theorem aP5 {d:AutoD} (ha:eW d=true) (hcl:d.c.length=256):Fit d:=by
 obtain ⟨h1,h2,h3,h4,h5,h6⟩:=fN ha
 have hm0:=aId hcl h1 0 (by omega)
 have hm:=aAs h1
 refine ⟨by omega,by omega,fun s hs=>?_⟩
 have hk:=h6 s hs
 obtain ⟨k1,k2,k3,k4,k5⟩:=p9 hk
 have hc:=aBJ (s.r.length:Int)
 refine ⟨by omega,by omega,by omega,fun row hrow=>?_⟩
 obtain ⟨i,hi⟩:=List.getElem?_of_mem hrow
 have hlt:=(List.getElem?_eq_some_iff.1 hi).1
 have hro:=aHG k5 (by omega) i row _ hi (List.getElem?_eq_getElem (by omega))
 unfold wM at hro
 simp only [Bool.and_eq_true,decide_eq_true_eq] at hro
 obtain ⟨_,_,r3,r4⟩:=hro
 refine ⟨fun e=>by rw [e] at r3; simp at r3; omega,by omega,fun m hm=>?_⟩
 have:=aGr (S:=[]) ha (List.all_eq_true.1 r4 m hm)
 omega
theorem aBT (S:List StateD) (i:Nat):(S.map erS).getD i noS=erS (S.getD i noS):=by
 rw [List.getD_eq_getElem?_getD,List.getD_eq_getElem?_getD,List.getElem?_map]
 cases S[i]?<;>rfl
theorem aHK (d:AutoD) (m:MacD):f8 (er d) m=erS (f8 d m):=aBT _ _
theorem aNG (d:AutoD) (m:MacD):qL (er d) m=qL d m:=by unfold qL; rw [aHK]; rfl
theorem aIL (d:AutoD) (m:MacD) (b:Nat):pM (er d) m b=pM d m b:=by unfold pM; rw [aHK]; rfl
theorem aMk (d:AutoD) (t:Int):pO (er d) t=pO d t:=by
 unfold pO
 show (if t=-1 then [] else ((d.states.map erS).getD t.toNat noS).r)=_
 rw [aBT]; rfl
theorem aP6 (d:AutoD) (m:MacD) (b:Nat):onM (er d) m b=onM d m b:=by unfold onM; rw [aIL]
theorem aNM (d:AutoD) (m:MacD) (b:Nat):lU (er d) m b=lU d m b:=by unfold lU; rw [aIL,aMk,aHK]; rfl
theorem aLM {S:List StateD} {R:List Int} (m:MoveD):gT (S.map erS) R m=gT S R m:=by
 unfold gT
 rw [aBT,List.length_map]; rfl
theorem aGC {S:List StateD} {R:List Int} {n:Int}:∀ (us:List Int) (rows:List (List MoveD)),oF (S.map erS) R n us rows=oF S R n us rows
 | [],_=>rfl
 | u::us,[]=>by rw [v7,v7]
 | u::us,row::rows=>by
  rw [pR,pR,aGC us rows]
  unfold wM
  have:row.all (gT (S.map erS) R)=row.all (gT S R):=by congr 1; funext m; exact aLM m
  rw [this]
theorem aKh {d:AutoD} (ha:eW d=true):eW (er d)=true:=by
 unfold eW at ha ⊢
 simp only [Bool.and_eq_true,decide_eq_true_eq] at ha ⊢
 obtain ⟨h1,h2,h3,h4,h5,h6,h7⟩:=ha
 refine ⟨h1,h2,by show 1≤(d.states.map erS).length; rw [List.length_map]; exact h3,by show (d.states.map erS).length≤256; rw [List.length_map]; exact h4,?_,h6,?_⟩
 ·unfold zS at h5 ⊢
  simp only [Bool.and_eq_true,decide_eq_true_eq] at h5 ⊢
  refine ⟨?_,?_⟩
  ·show ((d.states.map erS).getD 0 noS).l.length=0
   rw [aBT]; rfl
  ·show ((d.states.map erS).getD 0 noS).r.length=0
   rw [aBT]; exact h5.2
 ·show (d.states.map erS).all _=true
  rw [List.all_map,List.all_eq_true]
  intro s hs
  have:=List.all_eq_true.1 h7 s hs
  show gJ (d.states.map erS) d.many d.counts.length (erS s)=true
  unfold gJ at this ⊢
  simp only [Bool.and_eq_true,decide_eq_true_eq] at this ⊢
  obtain ⟨k1,k2,k3,k4,k5,k6⟩:=this
  refine ⟨k1,k2,k3,rfl,k5,?_⟩
  show oF (d.states.map erS) s.r d.many s.rule s.next=true
  rw [aGC]; exact k6
theorem aJB {d:AutoD} {m:MacD} (h:MOk d m):MOk (er d) m:=⟨by have:=h.1; show m.cur=-1∨0≤m.cur∧m.cur < ((d.states.map erS).length:Int); rw [List.length_map]; exact this,h.2⟩
section
variable {ro:Ro} {h:T Obj} {nx:Nat} {K:KV}
set_option maxRecDepth 8000 in
set_option maxHeartbeats 1000000 in
theorem aFF {X0:List Nat} {x:List Value} {d:AutoD} (hf:Fr h nx) (hX0:∀ k∈X0,k < nx) (hd:qI ro h x d) (hfit:Fit d) (hK:∀ cv sv h' nx',nx≤nx'→Fr h' nx'→Sub h h'→qI ro (del h' X0) (dQ d.c d.many cv sv) (er d)→K (.agg (dQ d.c d.many cv sv).toArray) h' nx'):aN Tryz.prog ro tL [.agg x.toArray] h nx K:=by
 obtain ⟨cv,sv,rfl,hc,hclt,hcv,hS,hb1,hb2⟩:=hd
 obtain ⟨f1,f2,f3⟩:=hfit
 have m7:=kS (n:=d.many) (cv:=cv) (sv:=sv) hc
 have m8:=gY (n:=d.many) (cv:=cv) (sv:=sv) hc
 apply aDd
 unfold xU
 refine dY hf (Nat.le_refl _) fun h1 hs1 hf1 g1 _=>?_
 have g1:h1.get nx=some (.cells (dQ d.c d.many cv sv).toArray bG):=g1
 refine aB aEq ?_
 refine aGm hf1 (Nat.le_refl _) fun h2 hs2 hf2 g2 _=>?_
 have g2:h2.get (nx+1)=some (.cells vD.toArray bG):=g2
 have g12:=hs2 _ _ g1
 (repeat(first|refine aB (by simp (disch:=first|omega|exact nnN _|assumption) only [BB,B2,↓reduceIte,Nat.reduceLeDiff,Nat.reduceAdd,CC]<;>rfl) ?_|refine aD ?_|refine aE ?_|with_reducible first|refine aG ?_|refine aF ?_|refine aK ?_|refine aH ?_|refine aJ ?_|refine aI ?_|refine aL ?_|refine aC ?_))
 refine aB (aMe g12 hc) ?_
 (repeat(first|refine aB (by simp (disch:=first|omega|exact nnN _|assumption) only [BB,B2,↓reduceIte,Nat.reduceLeDiff,Nat.reduceAdd,CC]<;>rfl) ?_|refine aD ?_|refine aE ?_|with_reducible first|refine aG ?_|refine aF ?_|refine aK ?_|refine aH ?_|refine aJ ?_|refine aI ?_|refine aL ?_|refine aC ?_))
 refine aB (aZ g12 m7) ?_
 refine aJL (hcv.sub (hs1.trans hs2) fun _ _ h=>h) f1 (hf2.mono (by omega)) fun cv' h3 n3 hn3 hf3 hs3 ho3=>?_
 have g13:=hs3 _ _ g12
 have g23:=hs3 _ _ g2
 refine ⟨fK g12 g13,?_⟩
 refine aB (aHZ hc ho3.cells) ?_
 refine aIC (x:=dQ d.c d.many cv' cN) aEq (by show vD.toArray.size=259; simp [rQ]) rfl (cK hc) (aDD ho3.ok rfl) fun h4 g4 hk4=>?_
 have g14:h4.get nx=some (.cells (dQ d.c d.many cv sv).toArray bG):=by rw [hk4 _ (by omega)]; exact g13
 have g24:h4.get (nx+1)=some (.cells vD.toArray bG):=by rw [hk4 _ (by omega)]; exact g23
 have hs13:Sub h h3:=(hs1.trans hs2).trans hs3
 have hs4:Sub h h4:=fun k o hk=>by rw [hk4 k (by have:=hf.lt' hk; omega)]; exact hs13 k o hk
 have hs4o:Sub h (del h4 [nx+8]):=fun k o hk=>kA (hs4 k o hk) (by have:=hf.lt' hk; simp; omega)
 have hf4:Fr h4 n3:=fun k hk=>by rw [hk4 k (by omega)]; exact hf3 k hk
 have hsl:=(hS.sub hs4 (dX.sub hs4)).len
 (repeat(first|refine aB (by simp (disch:=first|omega|exact nnN _|assumption) only [BB,B2,↓reduceIte,Nat.reduceLeDiff,Nat.reduceAdd,CC]<;>rfl) ?_|refine aD ?_|refine aE ?_|with_reducible first|refine aG ?_|refine aF ?_|refine aK ?_|refine aH ?_|refine aJ ?_|refine aI ?_|refine aL ?_|refine aC ?_))
 refine aB (aZ g14 m8) ?_
 refine aB hsl ?_
 refine aPt (ro:=ro) (X:=(nx+1)::X0) (rid:=nx+1) (oid:=nx+8) (S:=d.states) hc rfl rfl rfl rfl rfl g4 g24 (by omega) (hS.sub hs4o (dX.sub hs4o)) f2 f3 (hf4.mono (by omega)) (fun k hk=>by
  rcases List.mem_cons.1 hk with rfl | hk
  ·omega
  ·have:=hX0 k hk; omega) fun e5 h5 n5 sv5 u2 u3 hn5 hf5 hk5 g5 hsv5 hS5=>?_
 refine eB (dA ?_)
 have g25:=hk5 _ _ g24 (by simp)
 have hj1:∀ (e6:Env),e6 2=ptr (nx+1)→e6 3=ptr (nx+8)→nQ ro K e6 h5 n5:=by
  intro e6 v2 v3
  unfold nQ
  rw [v2,v3]
  refine aB (c8 g5 (cK hc)) ?_
  refine aB (lJ (l:=vD) (vs:=dQ d.c d.many cv' sv5) g25 rfl (cK hc) rQ (aDD ho3.ok hsv5)) ?_
  refine aB (c8 (l:=dQ d.c d.many cv' sv5) (by rw [T.get_upd_same]) (cK hc)) ?_
  have hk6:dU [nx+1] h5 (h5.upd (nx+1) (some (.cells (dQ d.c d.many cv' sv5).toArray bG))):=(Sub.refl h5).keepL.upd (by simp)
  have hf6:Fr (h5.upd (nx+1) (some (.cells (dQ d.c d.many cv' sv5).toArray bG))) n5:=hf5.upd (Nat.le_refl _) (by have:=hf5.lt' g25; omega)
  generalize h5.upd (nx+1) (some (.cells (dQ d.c d.many cv' sv5).toArray bG))=h6 at hk6 hf6
  have hd6:Sub (del h5 ((nx+8)::(nx+1)::X0)) (del h6 X0):=fun k o hk=>by
   have h9:=(hk6.delS (l:=(nx+8)::(nx+1)::X0) fun k hk=>by simp at hk; simp [hk]) k o hk
   rw [jE] at hk
   split at hk
   ·cases hk
   ·rename_i hn; exact kA h9 fun hm=>hn (by simp [hm])
  have ho6:dV h6 cv' 2 gD (aFC d.counts) (nx+10):=((ho3.keepK (ids:=[nx+8]) (h':=h4) (fun k o hk hn=>by rw [hk4 k (by simpa using hn)]; exact hk) fun id hid hm=>by have:=(ho3.blk hid).1; simp at hm; omega).keepK hk5 fun id hid hm=>by have:=(ho3.blk hid).1; simp at hm; omega).keepK hk6 fun id hid hm=>by have:=(ho3.blk hid).1; simp at hm; omega
  refine ⟨h6,Sub.refl _,hK cv' sv5 h6 _ (by omega) (hf6.mono (by omega)) (fun k o hk=>?_) ⟨cv',sv5,rfl,hc,hclt,aPs (ho6.del fun id hid hm=>by have:=(ho6.blk hid).1; have:=hX0 id hm; omega),hS5.sub hd6 (dX.sub hd6),hb1,by show (d.states.map erS).length≤_; rw [List.length_map]; exact hb2⟩⟩
  have:=hf.lt' hk
  exact hk6 k o (hk5 k o (hs4 k o hk) (by simp; omega)) (by simp; omega)
 exact hj1 _ u2 u3
end
def aN4:List Value:=dT (List.replicate 256 0) 0 cN cN 0 cN 0
theorem aN5:zer Tryz.prog bF=some (.agg aN4.toArray):=by kernel_rfl
theorem aMQ {c:List Nat} {n:Int} {cv sv:Value} {pl:List (Nat × Nat)} (hp:pl[0]?=some (0,259)) (hc:c.length=256):mZ (pl[·]?) aN4 [(0,.agg (dQ c n cv sv).toArray)]=some (dT c n cv sv 0 cN 0):=by
 have h0:aN4.length=262:=uS List.length_replicate
 have e1:Nat.beq (Value.agg (dQ c n cv sv).toArray).cells.size 259=true:=by rw [Value.cells_agg]; simp [cK hc]
 have e2:Nat.ble (0+259) aN4.length=true:=by rw [h0]; rfl
 have o1:over aN4 0 (Value.agg (dQ c n cv sv).toArray).cells.toList=dT c n cv sv 0 cN 0:=by
  rw [Value.cells_agg]
  exact aIW (by rw [cK hc,cK List.length_replicate])
 simp only [mZ,hp,Option.bind,e1,e2,o1]
theorem aJH {c:List Nat} {n:Int} {cv sv:Value} (hc:c.length=256):eX Tryz.prog bF [(0,.agg (dQ c n cv sv).toArray)]=some (.agg (dT c n cv sv 0 cN 0).toArray):=by
 obtain ⟨fs,h1,h2⟩:=aNL (P:=Tryz.prog) (t:=bF) (pl:=[(0,259),(259,1),(260,1),(261,1)]) (by kernel_rfl)
 exact aBl aN5 h1 h2 (aMQ rfl hc)
theorem aPV (aid q:Nat):bU Tryz.prog kC aid 1 [(0,ptr q)]=some (.slice (some (own aid 1)) 1 1,some (.cells [ptr q].toArray kE)):=by kernel_rfl
theorem aO7:und Tryz.prog kC=some (.slice kE):=by kernel_rfl
theorem aPj:∃ i,tin Tryz.prog kE=some i∧i.size=1∧i.bytes=8:=zL (by kernel_rfl)
theorem aPo:zer Tryz.prog kE=some (.pointer none):=by kernel_rfl
theorem aJd (ps:List (Nat × Nat)) (q:Nat × Nat):mG (ps++[q])=mG ps++[[ptr q.1]]:=by simp [mG]
end V
end Go.Proofs.YtcaccnneblghgaaGreat
namespace Go.Proofs.YtcaccnneblghgaaGreat
namespace V
attribute [local irreducible] a9 aN aA
abbrev gV:FuncId:=22
abbrev lB:FuncId:=23
abbrev lY:FuncId:=24
abbrev lZ:FuncId:=25
abbrev fR:FuncId:=41
abbrev iI:FuncId:=43
abbrev l5:FuncId:=79
abbrev mT:FuncId:=80
abbrev iY:FuncId:=122
@[irreducible] def tD (ro:Ro) (K:KV):Env→T Obj→Nat→Prop:=fun e h nx=>∃ h39,Sub h39 h∧K (.tuple #[(e 6),(Value.int IntKind.i64 0)]) h39 (nx+3)
@[irreducible] def aCi (ro:Ro):PT:=fun e h nx Q=>aA (aO .lss (e 35) (e 34)) fun t36_43=>aS t36_43 (aA (cL 260 (e 33) (e 35)) fun t37_44=>aA (loadA ro h 260 t37_44) fun t38_45=>aA (zer Tryz.prog cH) fun z46=>cM h (nx+3) (.cells z46.cells cH) fun h47=>aA (bV 260 h47 (ptr (nx+3)) t38_45) fun h48=>aA (aQ 0 (ptr (nx+3))) fun t40_49=>aA (loadA ro h48 259 t40_49) fun t41_50=>aN Tryz.prog ro aAf [t41_50] h48 (nx+8) fun t42_51 h52 n53=>aA (nth 0 t42_51) fun t43_54=>aA (nth 1 t42_51) fun t44_55=>aA (aO .neq t44_55 (Value.int IntKind.i64 0)) fun t46_56=>aS t46_56 (Q .ret (puts e [(36,t36_43),(37,t37_44),(38,t38_45),(8,(ptr (nx+3))),(40,t40_49),(41,t41_50),(42,t42_51),(39,t42_51),(43,t43_54),(44,t44_55),(9,t43_54),(10,t44_55),(45,t44_55),(46,t46_56),(47,t44_55),(4,(Value.pointer none)),(5,t44_55)]) h52 (n53+10)) (aA (bK (e 6)) fun t50_57=>aA (aQ 4 t50_57) fun t51_58=>aA (load1 ro h52 t51_58) fun t52_59=>aA (bU Tryz.prog iF (n53+13) 1 [(0,t43_54)]) fun r60=>eQ h52 (n53+13) r60.2 fun h61=>aA (cR Tryz.prog ro h61 (n53+15) #[iF,iF] [t52_59,r60.1]) fun r62=>aA (bK (e 6)) fun t56_63=>aA (aQ 4 t56_63) fun t57_64=>aA (bV 1 r62.2.1 t57_64 r62.1) fun h65=>aA (bK (e 6)) fun t60_66=>aA (aQ 0 t60_66) fun t61_67=>aA (aQ 3 t61_67) fun t62_68=>aA (load1 ro h65 t62_68) fun t63_69=>aA (aQ 259 (ptr (nx+3))) fun t64_70=>aA (load1 ro h65 t64_70) fun t65_71=>aN Tryz.prog ro eR [t65_71] h65 (r62.2.2+19) fun t66_72 h73 n74=>(jD t62_68 h65 h73)∧(aA (eX Tryz.prog cH [(1,t66_72)]) fun t67_75=>aA (bU Tryz.prog gZ (r62.2.2+13) 1 [(0,t67_75)]) fun r76=>eQ h73 (r62.2.2+13) r76.2 fun h77=>aA (cR Tryz.prog ro h77 n74 #[gZ,gZ] [t63_69,r76.1]) fun r78=>aA (bK (e 6)) fun t70_79=>aA (aQ 0 t70_79) fun t71_80=>aA (aQ 3 t71_80) fun t72_81=>aA (bV 1 r78.2.1 t72_81 r78.1) fun h82=>aA (aO .add (e 35) (Value.int IntKind.i64 1)) fun t73_83=>Q .normal (puts e [(36,t36_43),(37,t37_44),(38,t38_45),(8,(ptr (nx+3))),(40,t40_49),(41,t41_50),(42,t42_51),(39,t42_51),(43,t43_54),(44,t44_55),(9,t43_54),(10,t44_55),(45,t44_55),(46,t46_56),(48,(e 6)),(49,(e 6)),(50,t50_57),(51,t51_58),(52,t52_59),(53,t43_54),(54,r60.1),(55,r62.1),(56,t56_63),(57,t57_64),(58,(e 6)),(59,(e 6)),(60,t60_66),(61,t61_67),(62,t62_68),(63,t63_69),(64,t64_70),(65,t65_71),(66,t66_72),(67,t67_75),(68,r76.1),(69,r78.1),(70,t70_79),(71,t71_80),(72,t72_81),(73,t73_83),(35,t73_83)]) h82 (r78.2.2+2)))) (Q (.exit 0) (puts e [(36,t36_43)]) h (nx+1))
@[irreducible] def aE7 (ro:Ro) (v0 v1:Value) (h:T Obj) (nx:Nat) (K:KV):Prop:=cM h nx (.cells (Value.cells v0) c7) fun h1=>aA (aO .lss v1 (Value.int IntKind.i64 1)) fun t12_2=>ifP t12_2 false h1 (nx+6) (fun k3=>aA (loadA ro h1 4 (ptr nx)) fun t14_7=>k3 t14_7 h1 (nx+7)) fun t14_4 h5 n6=>ifP t12_2 false h5 n6 (fun k8=>aN Tryz.prog ro xY [t14_4] h5 (n6+1) fun t15_12 h13 n14=>k8 t15_12 h13 n14) fun t15_9 h10 n11=>ifP t12_2 false h10 n11 (fun k15=>aA (unV .not t15_9) fun t16_19=>k15 t16_19 h10 (n11+1)) fun t16_16 h17 n18=>aA (bH t12_2 (Value.bool true) t16_16) fun t17_20=>aS t17_20 (∃ h21,Sub h21 h17∧K (.tuple #[(Value.pointer none),(Value.int IntKind.i64 1)]) h21 (n18+3)) (aA (eX Tryz.prog jS [(2,(Value.int IntKind.i64 (-1)))]) fun t19_22=>aA (eX Tryz.prog aR [(2,v1),(5,(Value.bool true)),(7,t19_22)]) fun t20_23=>cM h17 (n18+4) (.cells (Value.cells t20_23) aR) fun h24=>aA (aQ 1 (ptr nx)) fun t23_25=>aA (load1 ro h24 t23_25) fun t24_26=>aN Tryz.prog ro gR [t24_26] h24 (n18+17) fun t25_27 h28 n29=>aA (aQ 2 (ptr nx)) fun t26_30=>aA (load1 ro h28 t26_30) fun t27_31=>(jD t26_30 h24 h28)∧(aN Tryz.prog ro eR [t27_31] h28 n29 fun t28_32 h33 n34=>aA (eX Tryz.prog c7 [(1,t25_27),(2,t28_32)]) fun t29_35=>aA (bK (ptr (n18+4))) fun t30_36=>aA (aQ 0 t30_36) fun t31_37=>aA (bV 4 h33 t31_37 t29_35) fun h38=>aA (aQ 3 (ptr nx)) fun t32_40=>aA (load1 ro h38 t32_40) fun t33_41=>aA (bI t33_41) fun t34_42=>dS (aCi ro) (puts (gQ [v0,v1]) [(2,(ptr nx)),(4,(Value.pointer none)),(5,(Value.int IntKind.i64 0)),(11,v1),(12,t12_2),(13,t12_2),(14,t14_4),(15,t15_9),(16,t16_16),(17,t17_20),(18,v1),(19,t19_22),(20,t20_23),(21,(ptr (n18+4))),(6,(ptr (n18+4))),(22,(ptr (n18+4))),(23,t23_25),(24,t24_26),(25,t25_27),(26,t26_30),(27,t27_31),(28,t28_32),(29,t29_35),(30,t30_36),(31,t31_37),(32,t32_40),(33,t33_41),(34,t34_42),(35,(Value.int IntKind.i64 0))]) h38 (n34+4) fun x87 e84 h85 n86=>exP x87 (tD ro K e84 h85 n86) (fun i88=>cO (Nat.beq i88 0) (tD ro K e84 h85 n86) (False)) (∃ h89,Sub h89 h85∧K (.tuple #[(e84 4),(e84 5)]) h89 n86)))
theorem aIk (ro:Ro) (v0 v1:Value) (h:T Obj) (nx:Nat) (K:KV):a9 Tryz.prog ro (aN Tryz.prog ro) Tryz.f13 [v0,v1] h nx K=aE7 ro v0 v1 h nx K:=by kernel_rfl
theorem aIl {ro:Ro} {v0 v1:Value} {h:T Obj} {nx:Nat} {K:KV} (hw:aE7 ro v0 v1 h nx K):aN Tryz.prog ro sF [v0,v1] h nx K:=a7 (P:=Tryz.prog) (fn:=Tryz.f13) (by kernel_rfl) (by kernel_rfl) (by kernel_rfl) (Eq.mpr (aIk ro v0 v1 h nx K) hw)
@[irreducible] def pT (ro:Ro) (K:KV):Env→T Obj→Nat→Prop:=fun e h nx=>aA (bK (e 0)) fun t40_20=>aA (aQ 13 t40_20) fun t41_21=>aA (load1 ro h t41_21) fun t42_22=>∃ h23,Sub h23 h∧K (.tuple #[(e 7),t42_22]) h23 (nx+7)
@[irreducible] def kK (ro:Ro) (v0 v1:Value) (h:T Obj) (nx:Nat) (K:KV):Prop:=aN Tryz.prog ro fR [v0] h (nx+4) fun t9_1 h2 n3=>aA (aO .neq t9_1 (Value.int IntKind.i64 0)) fun t11_4=>aS t11_4 (∃ h5,Sub h5 h2∧K (.tuple #[(Value.slice none 0 0),t9_1]) h5 (n3+6)) (aA (bK v0) fun t15_6=>aA (aQ 6 t15_6) fun t16_7=>aA (load1 ro h2 t16_7) fun t17_8=>aA (bU Tryz.prog aIy (n3+9) 2 [(0,t17_8),(1,v1)]) fun r9=>eQ h2 (n3+9) r9.2 fun h10=>aN Tryz.prog ro s3 [r9.1] h10 (n3+11) fun t20_11 h12 n13=>aA (bK v0) fun t21_14=>aA (aQ 6 t21_14) fun t22_15=>aA (bV 1 h12 t22_15 t20_11) fun h16=>aN Tryz.prog ro iI [v0] h16 (n13+5) fun t24_17 h18 n19=>aA (bK v0) fun t26_24=>aA (aQ 6 t26_24) fun t27_25=>aA (load1 ro h18 t27_25) fun t28_26=>aA (bI t28_26) fun t29_27=>aA (bK v0) fun t31_28=>aA (aQ 5 t31_28) fun t32_29=>aA (load1 ro h18 t32_29) fun t33_30=>aA (aO .gtr t29_27 t33_30) fun t34_31=>aS t34_31 (aA (bK v0) fun t36_32=>aA (aQ 13 t36_32) fun t37_33=>aA (bV 1 h18 t37_33 (Value.int IntKind.i64 180)) fun h34=>pT ro K (puts (gQ [v0,v1]) [(4,(Value.slice none 0 0)),(5,(Value.int IntKind.i64 0)),(8,v0),(9,t9_1),(6,t9_1),(10,t9_1),(11,t11_4),(13,v0),(14,v0),(15,t15_6),(16,t16_7),(17,t17_8),(18,v1),(19,r9.1),(20,t20_11),(21,t21_14),(22,t22_15),(23,v0),(24,t24_17),(7,t24_17),(25,v0),(26,t26_24),(27,t27_25),(28,t28_26),(29,t29_27),(30,v0),(31,t31_28),(32,t32_29),(33,t33_30),(34,t34_31),(35,v0),(36,t36_32),(37,t37_33)]) h34 (n19+15)) (pT ro K (puts (gQ [v0,v1]) [(4,(Value.slice none 0 0)),(5,(Value.int IntKind.i64 0)),(8,v0),(9,t9_1),(6,t9_1),(10,t9_1),(11,t11_4),(13,v0),(14,v0),(15,t15_6),(16,t16_7),(17,t17_8),(18,v1),(19,r9.1),(20,t20_11),(21,t21_14),(22,t22_15),(23,v0),(24,t24_17),(7,t24_17),(25,v0),(26,t26_24),(27,t27_25),(28,t28_26),(29,t29_27),(30,v0),(31,t31_28),(32,t32_29),(33,t33_30),(34,t34_31)]) h18 (n19+11)))
theorem y6 (ro:Ro) (v0 v1:Value) (h:T Obj) (nx:Nat) (K:KV):a9 Tryz.prog ro (aN Tryz.prog ro) Tryz.f18 [v0,v1] h nx K=kK ro v0 v1 h nx K:=by kernel_rfl
theorem pU {ro:Ro} {v0 v1:Value} {h:T Obj} {nx:Nat} {K:KV} (hw:kK ro v0 v1 h nx K):aN Tryz.prog ro gU [v0,v1] h nx K:=a7 (P:=Tryz.prog) (fn:=Tryz.f18) (by kernel_rfl) (by kernel_rfl) (by kernel_rfl) (Eq.mpr (y6 ro v0 v1 h nx K) hw)
@[irreducible] def iC (ro:Ro) (v0:Value) (h:T Obj) (nx:Nat) (K:KV):Prop:=aN Tryz.prog ro fR [v0] h (nx+4) fun t6_1 h2 n3=>aA (aO .neq t6_1 (Value.int IntKind.i64 0)) fun t8_4=>aS t8_4 (∃ h5,Sub h5 h2∧K (.tuple #[(Value.slice none 0 0),t6_1]) h5 (n3+6)) (aA (bK v0) fun t11_6=>aA (aQ 14 t11_6) fun t12_7=>aA (bV 1 h2 t12_7 (Value.bool true)) fun h8=>aN Tryz.prog ro iI [v0] h8 (n3+9) fun t14_9 h10 n11=>∃ h12,Sub h12 h10∧K (.tuple #[t14_9,(Value.int IntKind.i64 0)]) h12 (n11+2))
theorem wW (ro:Ro) (v0:Value) (h:T Obj) (nx:Nat) (K:KV):a9 Tryz.prog ro (aN Tryz.prog ro) Tryz.f19 [v0] h nx K=iC ro v0 h nx K:=by kernel_rfl
theorem kG {ro:Ro} {v0:Value} {h:T Obj} {nx:Nat} {K:KV} (hw:iC ro v0 h nx K):aN Tryz.prog ro eM [v0] h nx K:=a7 (P:=Tryz.prog) (fn:=Tryz.f19) (by kernel_rfl) (by kernel_rfl) (by kernel_rfl) (Eq.mpr (wW ro v0 h nx K) hw)
@[irreducible] def kL (ro:Ro) (v0:Value) (h:T Obj) (nx:Nat) (K:KV):Prop:=aA (vU .eql v0 (Value.pointer none)) fun t4_1=>aS t4_1 (∃ h2,Sub h2 h∧K (Value.int IntKind.i64 0) h2 (nx+4)) (aA (bK v0) fun t6_3=>aA (aQ 6 t6_3) fun t7_4=>aA (load1 ro h t7_4) fun t8_5=>aA (bI t8_5) fun t9_6=>∃ h7,Sub h7 h∧K t9_6 h7 (nx+9))
theorem y7 (ro:Ro) (v0:Value) (h:T Obj) (nx:Nat) (K:KV):a9 Tryz.prog ro (aN Tryz.prog ro) Tryz.f22 [v0] h nx K=kL ro v0 h nx K:=by kernel_rfl
theorem pV {ro:Ro} {v0:Value} {h:T Obj} {nx:Nat} {K:KV} (hw:kL ro v0 h nx K):aN Tryz.prog ro gV [v0] h nx K:=a7 (P:=Tryz.prog) (fn:=Tryz.f22) (by kernel_rfl) (by kernel_rfl) (by kernel_rfl) (Eq.mpr (y7 ro v0 h nx K) hw)
@[irreducible] def mV (ro:Ro) (v0:Value) (h:T Obj) (nx:Nat) (K:KV):Prop:=aA (vU .eql v0 (Value.pointer none)) fun t4_1=>aS t4_1 (∃ h2,Sub h2 h∧K (Value.int IntKind.i64 0) h2 (nx+4)) (aA (bK v0) fun t6_3=>aA (aQ 15 t6_3) fun t7_4=>aA (load1 ro h t7_4) fun t8_5=>∃ h6,Sub h6 h∧K t8_5 h6 (nx+8))
theorem wX (ro:Ro) (v0:Value) (h:T Obj) (nx:Nat) (K:KV):a9 Tryz.prog ro (aN Tryz.prog ro) Tryz.f23 [v0] h nx K=mV ro v0 h nx K:=by kernel_rfl
theorem wY {ro:Ro} {v0:Value} {h:T Obj} {nx:Nat} {K:KV} (hw:mV ro v0 h nx K):aN Tryz.prog ro lB [v0] h nx K:=a7 (P:=Tryz.prog) (fn:=Tryz.f23) (by kernel_rfl) (by kernel_rfl) (by kernel_rfl) (Eq.mpr (wX ro v0 h nx K) hw)
@[irreducible] def oG (ro:Ro) (v0:Value) (h:T Obj) (nx:Nat) (K:KV):Prop:=aA (vU .eql v0 (Value.pointer none)) fun t4_1=>aS t4_1 (∃ h2,Sub h2 h∧K (Value.int IntKind.i64 0) h2 (nx+4)) (aA (bK v0) fun t6_3=>aA (aQ 9 t6_3) fun t7_4=>aA (load1 ro h t7_4) fun t8_5=>∃ h6,Sub h6 h∧K t8_5 h6 (nx+8))
theorem yZ (ro:Ro) (v0:Value) (h:T Obj) (nx:Nat) (K:KV):a9 Tryz.prog ro (aN Tryz.prog ro) Tryz.f24 [v0] h nx K=oG ro v0 h nx K:=by kernel_rfl
theorem y0 {ro:Ro} {v0:Value} {h:T Obj} {nx:Nat} {K:KV} (hw:oG ro v0 h nx K):aN Tryz.prog ro lY [v0] h nx K:=a7 (P:=Tryz.prog) (fn:=Tryz.f24) (by kernel_rfl) (by kernel_rfl) (by kernel_rfl) (Eq.mpr (yZ ro v0 h nx K) hw)
@[irreducible] def pW (ro:Ro) (K:KV):Env→T Obj→Nat→Prop:=fun e h nx=>∃ h3,Sub h3 h∧K (e 3) h3 (nx+2)
@[irreducible] def y8 (ro:Ro):PT:=fun e h nx Q=>aA (aO .lss (e 13) (e 12)) fun t14_8=>aS t14_8 (aA (cL 1 (e 11) (e 13)) fun t15_9=>aA (load1 ro h t15_9) fun t16_10=>aN Tryz.prog ro z8 [t16_10] h (nx+7) fun t19_11 h12 n13=>aA (aO .add (e 3) t19_11) fun t20_14=>aA (aO .add (e 13) (Value.int IntKind.i64 1)) fun t21_15=>Q .normal (puts e [(14,t14_8),(15,t15_9),(16,t16_10),(5,t16_10),(17,(e 3)),(18,t16_10),(19,t19_11),(20,t20_14),(3,t20_14),(21,t21_15),(13,t21_15)]) h12 (n13+4)) (Q (.exit 0) (puts e [(14,t14_8)]) h (nx+1))
@[irreducible] def oH (ro:Ro) (v0:Value) (h:T Obj) (nx:Nat) (K:KV):Prop:=aA (vU .eql v0 (Value.pointer none)) fun t7_1=>aS t7_1 (∃ h2,Sub h2 h∧K (Value.int IntKind.i64 0) h2 (nx+4)) (aA (bK v0) fun t9_4=>aA (aQ 4 t9_4) fun t10_5=>aA (load1 ro h t10_5) fun t11_6=>aA (bI t11_6) fun t12_7=>dS (y8 ro) (puts (gQ [v0]) [(2,(Value.int IntKind.i64 0)),(6,v0),(7,t7_1),(3,(Value.int IntKind.i64 0)),(8,v0),(9,t9_4),(10,t10_5),(11,t11_6),(12,t12_7),(13,(Value.int IntKind.i64 0))]) h (nx+10) fun x19 e16 h17 n18=>exP x19 (pW ro K e16 h17 n18) (fun i20=>cO (Nat.beq i20 0) (pW ro K e16 h17 n18) (False)) (∃ h21,Sub h21 h17∧K (e16 2) h21 n18))
theorem y9 (ro:Ro) (v0:Value) (h:T Obj) (nx:Nat) (K:KV):a9 Tryz.prog ro (aN Tryz.prog ro) Tryz.f25 [v0] h nx K=oH ro v0 h nx K:=by kernel_rfl
theorem zA {ro:Ro} {v0:Value} {h:T Obj} {nx:Nat} {K:KV} (hw:oH ro v0 h nx K):aN Tryz.prog ro lZ [v0] h nx K:=a7 (P:=Tryz.prog) (fn:=Tryz.f25) (by kernel_rfl) (by kernel_rfl) (by kernel_rfl) (Eq.mpr (y9 ro v0 h nx K) hw)
@[irreducible] def i4 (ro:Ro) (v0:Value) (h:T Obj) (nx:Nat) (K:KV):Prop:=aA (vU .eql v0 (Value.pointer none)) fun t5_1=>aS t5_1 (∃ h2,Sub h2 h∧K (Value.int IntKind.i64 2) h2 (nx+5)) (aA (bK v0) fun t8_3=>aA (aQ 13 t8_3) fun t9_4=>aA (load1 ro h t9_4) fun t10_5=>aA (aO .eql t10_5 (Value.int IntKind.i64 0)) fun t11_6=>ifP t11_6 true h (nx+10) (fun k7=>k7 v0 h (nx+11)) fun t13_8 h9 n10=>ifP t11_6 true h9 n10 (fun k11=>aA (bK t13_8) fun t14_15=>k11 t14_15 h9 (n10+1)) fun t14_12 h13 n14=>ifP t11_6 true h13 n14 (fun k16=>aA (aQ 14 t14_12) fun t15_20=>k16 t15_20 h13 (n14+1)) fun t15_17 h18 n19=>ifP t11_6 true h18 n19 (fun k21=>aA (load1 ro h18 t15_17) fun t16_25=>k21 t16_25 h18 (n19+1)) fun t16_22 h23 n24=>aA (bH t11_6 t16_22 (Value.bool false)) fun t17_26=>aS t17_26 (∃ h27,Sub h27 h23∧K (Value.int IntKind.i64 181) h27 (n24+3)) (aA (bK v0) fun t19_28=>aA (aQ 13 t19_28) fun t20_29=>aA (load1 ro h23 t20_29) fun t21_30=>∃ h31,Sub h31 h23∧K t21_30 h31 (n24+7)))
theorem uU (ro:Ro) (v0:Value) (h:T Obj) (nx:Nat) (K:KV):a9 Tryz.prog ro (aN Tryz.prog ro) Tryz.f41 [v0] h nx K=i4 ro v0 h nx K:=by kernel_rfl
theorem nB {ro:Ro} {v0:Value} {h:T Obj} {nx:Nat} {K:KV} (hw:i4 ro v0 h nx K):aN Tryz.prog ro fR [v0] h nx K:=a7 (P:=Tryz.prog) (fn:=Tryz.f41) (by kernel_rfl) (by kernel_rfl) (by kernel_rfl) (Eq.mpr (uU ro v0 h nx K) hw)
@[irreducible] def gX (ro:Ro) (K:KV):Env→T Obj→Nat→Prop:=fun e h nx=>∃ h1,Sub h1 h∧K (e 3) h1 (nx+2)
@[irreducible] def oJ (ro:Ro):PT:=fun e h nx Q=>aA (bK (e 0)) fun t6_2=>aA (aQ 6 t6_2) fun t7_3=>aA (load1 ro h t7_3) fun t8_4=>aA (bI t8_4) fun t9_5=>aA (aO .gtr t9_5 (Value.int IntKind.i64 0)) fun t10_6=>ifP t10_6 true h (nx+7) (fun k7=>k7 (e 0) h (nx+8)) fun t12_8 h9 n10=>ifP t10_6 true h9 n10 (fun k11=>aN Tryz.prog ro l5 [t12_8] h9 (n10+1) fun t13_15 h16 n17=>k11 t13_15 h16 n17) fun t13_12 h13 n14=>aA (bH t10_6 t13_12 (Value.bool false)) fun t14_18=>aS t14_18 (aN Tryz.prog ro mT [(e 0)] h13 (n14+3) fun t16_19 h20 n21=>aA (zer Tryz.prog bQ) fun z22=>cM h20 n21 (.cells z22.cells bQ) fun h23=>aA (bV 3 h23 (ptr n21) t16_19) fun h24=>aA (aQ 0 (ptr n21)) fun t17_25=>aA (load1 ro h24 t17_25) fun t18_26=>aA (aO .eql t18_26 (Value.int IntKind.i64 (-1))) fun t19_27=>ifP t19_27 false h24 (n21+17) (fun k28=>k28 (e 0) h24 (n21+17)) fun t21_29 h30 n31=>ifP t19_27 false h30 n31 (fun k32=>aA (bK t21_29) fun t22_36=>k32 t22_36 h30 n31) fun t22_33 h34 n35=>ifP t19_27 false h34 n35 (fun k37=>aA (aQ 0 t22_33) fun t23_41=>k37 t23_41 h34 n35) fun t23_38 h39 n40=>ifP t19_27 false h39 n40 (fun k42=>aA (aQ 1 t23_38) fun t24_46=>k42 t24_46 h39 n40) fun t24_43 h44 n45=>ifP t19_27 false h44 n45 (fun k47=>aA (load1 ro h44 t24_43) fun t25_51=>k47 t25_51 h44 n45) fun t25_48 h49 n50=>ifP t19_27 false h49 n50 (fun k52=>aA (aQ 0 (ptr n21)) fun t26_56=>k52 t26_56 h49 n50) fun t26_53 h54 n55=>ifP t19_27 false h54 n55 (fun k57=>aA (load1 ro h54 t26_53) fun t27_61=>k57 t27_61 h54 n55) fun t27_58 h59 n60=>ifP t19_27 false h59 n60 (fun k62=>aA (cL 1 t25_48 t27_58) fun t28_66=>k62 t28_66 h59 n60) fun t28_63 h64 n65=>ifP t19_27 false h64 n65 (fun k67=>aA (load1 ro h64 t28_63) fun t29_71=>k67 t29_71 h64 n65) fun t29_68 h69 n70=>ifP t19_27 false h69 n70 (fun k72=>aA (aEe .neq t29_68 (Value.string { data:=#[] })) fun t30_76=>k72 t30_76 h69 n70) fun t30_73 h74 n75=>aA (bH t19_27 (Value.bool true) t30_73) fun t31_77=>aS t31_77 (aA (loadA ro h74 3 (ptr n21)) fun t33_78=>aA (bU Tryz.prog hG (n75+2) 1 [(0,t33_78)]) fun r79=>eQ h74 (n75+2) r79.2 fun h80=>aA (cR Tryz.prog ro h80 (n75+4) #[hG,hG] [(e 3),r79.1]) fun r81=>Q .normal (puts e [(5,(e 0)),(6,t6_2),(7,t7_3),(8,t8_4),(9,t9_5),(10,t10_6),(11,t10_6),(12,t12_8),(13,t13_12),(14,t14_18),(15,(e 0)),(16,t16_19),(4,(ptr n21)),(17,t17_25),(18,t18_26),(19,t19_27),(20,t19_27),(21,t21_29),(22,t22_33),(23,t23_38),(24,t24_43),(25,t25_48),(26,t26_53),(27,t27_58),(28,t28_63),(29,t29_68),(30,t30_73),(31,t31_77),(32,(e 3)),(33,t33_78),(34,r79.1),(35,r81.1),(3,r81.1)]) r81.2.1 (r81.2.2+1)) (Q .normal (puts e [(5,(e 0)),(6,t6_2),(7,t7_3),(8,t8_4),(9,t9_5),(10,t10_6),(11,t10_6),(12,t12_8),(13,t13_12),(14,t14_18),(15,(e 0)),(16,t16_19),(4,(ptr n21)),(17,t17_25),(18,t18_26),(19,t19_27),(20,t19_27),(21,t21_29),(22,t22_33),(23,t23_38),(24,t24_43),(25,t25_48),(26,t26_53),(27,t27_58),(28,t28_63),(29,t29_68),(30,t30_73),(31,t31_77)]) h74 n75)) (Q (.exit 0) (puts e [(5,(e 0)),(6,t6_2),(7,t7_3),(8,t8_4),(9,t9_5),(10,t10_6),(11,t10_6),(12,t12_8),(13,t13_12),(14,t14_18)]) h13 (n14+1))
@[irreducible] def mA (ro:Ro) (v0:Value) (h:T Obj) (nx:Nat) (K:KV):Prop:=dS (oJ ro) (puts (gQ [v0]) [(2,(Value.slice none 0 0)),(3,(Value.slice none 0 0))]) h (nx+2) fun x85 e82 h83 n84=>exP x85 (gX ro K e82 h83 n84) (fun i86=>cO (Nat.beq i86 0) (gX ro K e82 h83 n84) (False)) (∃ h87,Sub h87 h83∧K (e82 2) h87 n84)
theorem v8 (ro:Ro) (v0:Value) (h:T Obj) (nx:Nat) (K:KV):a9 Tryz.prog ro (aN Tryz.prog ro) Tryz.f43 [v0] h nx K=mA ro v0 h nx K:=by kernel_rfl
theorem v9 {ro:Ro} {v0:Value} {h:T Obj} {nx:Nat} {K:KV} (hw:mA ro v0 h nx K):aN Tryz.prog ro iI [v0] h nx K:=a7 (P:=Tryz.prog) (fn:=Tryz.f43) (by kernel_rfl) (by kernel_rfl) (by kernel_rfl) (Eq.mpr (v8 ro v0 h nx K) hw)
@[irreducible] def i0 (ro:Ro) (K:KV):Env→T Obj→Nat→Prop:=fun e h nx=>aA (bK (e 0)) fun t78_9=>aA (aQ 14 t78_9) fun t79_10=>aA (load1 ro h t79_10) fun t80_11=>∃ h12,Sub h12 h∧K t80_11 h12 (nx+5)
@[irreducible] def i3 (ro:Ro) (Q:KE):Env→T Obj→Nat→Prop:=fun e h nx=>aA (aO .add (e 34) (Value.int IntKind.i64 1)) fun t76_23=>Q .normal (puts e [(76,t76_23),(34,t76_23)]) h (nx+2)
@[irreducible] def pX (ro:Ro):PT:=fun e h nx Q=>aA (aO .lss (e 34) (e 33)) fun t35_22=>aS t35_22 (aA (cL 1 (e 32) (e 34)) fun t36_24=>aA (load1 ro h t36_24) fun t37_25=>aA (bK (e 0)) fun t39_26=>aA (aQ 10 t39_26) fun t40_27=>aA (aQ 0 t40_27) fun t41_28=>aA (load1 ro h t41_28) fun t42_29=>aA (aO .add t42_29 (Value.int IntKind.i64 1)) fun t43_30=>aA (bK (e 0)) fun t44_31=>aA (aQ 10 t44_31) fun t45_32=>aA (aQ 0 t45_32) fun t46_33=>aA (bV 1 h t46_33 t43_30) fun h34=>aA (bK (e 0)) fun t48_35=>aA (aQ 15 t48_35) fun t49_36=>aA (load1 ro h34 t49_36) fun t50_37=>aA (aO .add t50_37 (Value.int IntKind.i64 1)) fun t51_38=>aA (bK (e 0)) fun t52_39=>aA (aQ 15 t52_39) fun t53_40=>aA (bV 1 h34 t53_40 t51_38) fun h41=>aN Tryz.prog ro lX [(e 3),t37_25] h41 (nx+25) fun t56_42 h43 n44=>aA (unV .not t56_42) fun t57_45=>aS t57_45 (Q .ret (puts e [(35,t35_22),(36,t36_24),(37,t37_25),(5,t37_25),(38,(e 0)),(39,t39_26),(40,t40_27),(41,t41_28),(42,t42_29),(43,t43_30),(44,t44_31),(45,t45_32),(46,t46_33),(47,(e 0)),(48,t48_35),(49,t49_36),(50,t50_37),(51,t51_38),(52,t52_39),(53,t53_40),(54,(e 3)),(55,t37_25),(56,t56_42),(57,t57_45),(2,(Value.bool true))]) h43 (n44+2)) (aN Tryz.prog ro lW [(e 3)] h43 (n44+3) fun t59_46 h47 n48=>aA (aO .neq t59_46 (Value.int IntKind.i64 (-1))) fun t61_49=>aS t61_49 (aA (bK (e 0)) fun t65_50=>aA (aQ 10 t65_50) fun t66_51=>aA (aQ 0 t66_51) fun t67_52=>aA (load1 ro h47 t67_52) fun t68_53=>aA (bK (e 0)) fun t70_54=>aA (aQ 10 t70_54) fun t71_55=>aA (aQ 1 t71_55) fun t72_56=>aA (bV 1 h47 t72_56 t68_53) fun h57=>aA (bK (e 0)) fun t73_58=>aA (aQ 10 t73_58) fun t74_59=>aA (aQ 2 t74_59) fun t75_60=>aA (bV 1 h57 t75_60 t59_46) fun h61=>i3 ro Q (puts e [(35,t35_22),(36,t36_24),(37,t37_25),(5,t37_25),(38,(e 0)),(39,t39_26),(40,t40_27),(41,t41_28),(42,t42_29),(43,t43_30),(44,t44_31),(45,t45_32),(46,t46_33),(47,(e 0)),(48,t48_35),(49,t49_36),(50,t50_37),(51,t51_38),(52,t52_39),(53,t53_40),(54,(e 3)),(55,t37_25),(56,t56_42),(57,t57_45),(58,(e 3)),(59,t59_46),(6,t59_46),(60,t59_46),(61,t61_49),(62,(e 0)),(63,(e 0)),(64,(e 0)),(65,t65_50),(66,t66_51),(67,t67_52),(68,t68_53),(69,t59_46),(70,t70_54),(71,t71_55),(72,t72_56),(73,t73_58),(74,t74_59),(75,t75_60)]) h61 (n48+19)) (i3 ro Q (puts e [(35,t35_22),(36,t36_24),(37,t37_25),(5,t37_25),(38,(e 0)),(39,t39_26),(40,t40_27),(41,t41_28),(42,t42_29),(43,t43_30),(44,t44_31),(45,t45_32),(46,t46_33),(47,(e 0)),(48,t48_35),(49,t49_36),(50,t50_37),(51,t51_38),(52,t52_39),(53,t53_40),(54,(e 3)),(55,t37_25),(56,t56_42),(57,t57_45),(58,(e 3)),(59,t59_46),(6,t59_46),(60,t59_46),(61,t61_49)]) h47 (n48+3)))) (Q (.exit 0) (puts e [(35,t35_22)]) h (nx+1))
@[irreducible] def iZ (ro:Ro) (K:KV):Env→T Obj→Nat→Prop:=fun e h nx=>aA (bK (e 0)) fun t24_13=>aA (aQ 6 t24_13) fun t25_14=>aA (load1 ro h t25_14) fun t26_15=>aA (bK (e 0)) fun t28_16=>aA (aQ 10 t28_16) fun t29_17=>aA (aQ 0 t29_17) fun t30_18=>aA (load1 ro h t30_18) fun t31_19=>aA (oK Tryz.prog bM t26_15 (some t31_19) none none) fun t32_20=>aA (bI t32_20) fun t33_21=>dS (pX ro) (puts e [(23,(e 0)),(24,t24_13),(25,t25_14),(26,t26_15),(27,(e 0)),(28,t28_16),(29,t29_17),(30,t30_18),(31,t31_19),(32,t32_20),(33,t33_21),(34,(Value.int IntKind.i64 0))]) h (nx+12) fun x65 e62 h63 n64=>exP x65 (i0 ro K e62 h63 n64) (fun i66=>cO (Nat.beq i66 0) (i0 ro K e62 h63 n64) (False)) (∃ h67,Sub h67 h63∧K (e62 2) h67 n64)
@[irreducible] def oI (ro:Ro) (v0:Value) (h:T Obj) (nx:Nat) (K:KV):Prop:=aA (bK v0) fun t8_1=>aA (aQ 4 t8_1) fun t9_2=>aA (load1 ro h t9_2) fun t10_3=>aN Tryz.prog ro iY [v0] h (nx+10) fun t12_4 h5 n6=>(jD t9_2 h h5)∧(aA (cL 1 t10_3 t12_4) fun t13_7=>aA (load1 ro h5 t13_7) fun t14_8=>aA (bK v0) fun t16_68=>aA (aQ 10 t16_68) fun t17_69=>aA (loadA ro h5 3 t17_69) fun t18_70=>aA (eX Tryz.prog jS [(2,(Value.int IntKind.i64 (-1)))]) fun t19_71=>aA (dO Tryz.prog 20 jS) fun ks72=>aA (aJC ks72 .eql t18_70 t19_71) fun t20_73=>aS t20_73 (aN Tryz.prog ro k9 [t14_8] h5 (n6+8) fun t22_74 h75 n76=>iZ ro K (puts (gQ [v0]) [(2,(Value.bool false)),(7,v0),(8,t8_1),(9,t9_2),(10,t10_3),(11,v0),(12,t12_4),(13,t13_7),(14,t14_8),(3,t14_8),(15,v0),(16,t16_68),(17,t17_69),(18,t18_70),(19,t19_71),(20,t20_73),(21,t14_8),(22,t22_74)]) h75 n76) (iZ ro K (puts (gQ [v0]) [(2,(Value.bool false)),(7,v0),(8,t8_1),(9,t9_2),(10,t10_3),(11,v0),(12,t12_4),(13,t13_7),(14,t14_8),(3,t14_8),(15,v0),(16,t16_68),(17,t17_69),(18,t18_70),(19,t19_71),(20,t20_73)]) h5 (n6+6)))
theorem zB (ro:Ro) (v0:Value) (h:T Obj) (nx:Nat) (K:KV):a9 Tryz.prog ro (aN Tryz.prog ro) Tryz.f79 [v0] h nx K=oI ro v0 h nx K:=by kernel_rfl
theorem zC {ro:Ro} {v0:Value} {h:T Obj} {nx:Nat} {K:KV} (hw:oI ro v0 h nx K):aN Tryz.prog ro l5 [v0] h nx K:=a7 (P:=Tryz.prog) (fn:=Tryz.f79) (by kernel_rfl) (by kernel_rfl) (by kernel_rfl) (Eq.mpr (zB ro v0 h nx K) hw)
@[irreducible] def jH (ro:Ro) (K:KV):Env→T Obj→Nat→Prop:=fun e h nx=>aA (loadA ro h 3 (e 3)) fun t112_45=>aA (bV 3 h (e 2) t112_45) fun h46=>aA (loadA ro h46 3 (e 2)) fun r47=>∃ h48,Sub h48 h46∧K r47 h48 (nx+2)
@[irreducible] def jG (ro:Ro) (K:KV):Env→T Obj→Nat→Prop:=fun e h nx=>aA (aQ 2 (e 3)) fun t50_14=>aA (load1 ro h t50_14) fun t51_15=>aA (aQ 1 (e 3)) fun t52_16=>aA (load1 ro h t52_16) fun t53_17=>aA (aO .sub t51_15 t53_17) fun t54_18=>aA (bK (e 0)) fun t57_19=>aA (aQ 6 t57_19) fun t58_20=>aA (load1 ro h t58_20) fun t59_21=>aA (aO .sub t54_18 (Value.int IntKind.i64 1)) fun t61_22=>aA (cL 1 t59_21 t61_22) fun t62_23=>aA (load1 ro h t62_23) fun t63_24=>aA (aO .eql t63_24 (Value.int IntKind.u8 10)) fun t64_25=>aA (bK (e 0)) fun t65_26=>aA (aQ 8 t65_26) fun t66_27=>aA (bV 1 h t66_27 t64_25) fun h28=>aA (bK (e 0)) fun t70_29=>aA (aQ 6 t70_29) fun t71_30=>aA (load1 ro h28 t71_30) fun t72_31=>aA (oK Tryz.prog bM t72_31 (some t54_18) none none) fun t74_32=>aA (aQ 2 (e 3)) fun t75_33=>aA (load1 ro h28 t75_33) fun t76_34=>aA (bK (e 0)) fun t77_35=>aA (aQ 6 t77_35) fun t78_36=>aA (bV 1 h28 t78_36 t74_32) fun h37=>(jD t75_33 h28 h37)∧(aA (bK (e 0)) fun t79_38=>aA (aQ 7 t79_38) fun t80_39=>aA (bV 1 h37 t80_39 t76_34) fun h40=>aA (eX Tryz.prog jS [(2,(Value.int IntKind.i64 (-1)))]) fun t82_41=>aA (bK (e 0)) fun t83_42=>aA (aQ 10 t83_42) fun t84_43=>aA (bV 3 h40 t84_43 t82_41) fun h44=>aA (aQ 0 (e 3)) fun t85_49=>aA (load1 ro h44 t85_49) fun t86_50=>aA (aO .neq t86_50 (Value.int IntKind.i64 (-1))) fun t87_51=>ifP t87_51 true h44 (nx+55) (fun k52=>k52 (e 0) h44 (nx+55)) fun t89_53 h54 n55=>ifP t87_51 true h54 n55 (fun k56=>aA (bK t89_53) fun t90_60=>k56 t90_60 h54 n55) fun t90_57 h58 n59=>ifP t87_51 true h58 n59 (fun k61=>aA (aQ 0 t90_57) fun t91_65=>k61 t91_65 h58 n59) fun t91_62 h63 n64=>ifP t87_51 true h63 n64 (fun k66=>aA (aQ 2 t91_62) fun t92_70=>k66 t92_70 h63 n64) fun t92_67 h68 n69=>ifP t87_51 true h68 n69 (fun k71=>aA (load1 ro h68 t92_67) fun t93_75=>k71 t93_75 h68 n69) fun t93_72 h73 n74=>ifP t87_51 true h73 n74 (fun k76=>aA (aQ 0 (e 3)) fun t94_80=>k76 t94_80 h73 n74) fun t94_77 h78 n79=>ifP t87_51 true h78 n79 (fun k81=>aA (load1 ro h78 t94_77) fun t95_85=>k81 t95_85 h78 n79) fun t95_82 h83 n84=>ifP t87_51 true h83 n84 (fun k86=>aA (cL 1 t93_72 t95_82) fun t96_90=>k86 t96_90 h83 n84) fun t96_87 h88 n89=>ifP t87_51 true h88 n89 (fun k91=>aA (load1 ro h88 t96_87) fun t97_95=>k91 t97_95 h88 n89) fun t97_92 h93 n94=>ifP t87_51 true h93 n94 (fun k96=>aA (aO .geq t97_92 (Value.int IntKind.i64 0)) fun t98_100=>k96 t98_100 h93 n94) fun t98_97 h98 n99=>aA (bH t87_51 t98_97 (Value.bool false)) fun t99_101=>aS t99_101 (aA (bK (e 0)) fun t102_102=>aA (aQ 0 t102_102) fun t103_103=>aA (aQ 2 t103_103) fun t104_104=>aA (load1 ro h98 t104_104) fun t105_105=>aA (aQ 0 (e 3)) fun t106_106=>aA (load1 ro h98 t106_106) fun t107_107=>aA (cL 1 t105_105 t107_107) fun t108_108=>aA (load1 ro h98 t108_108) fun t109_109=>aA (bK (e 0)) fun t110_110=>aA (aQ 9 t110_110) fun t111_111=>aA (bV 1 h98 t111_111 t109_109) fun h112=>jH ro K (puts e [(50,t50_14),(51,t51_15),(52,t52_16),(53,t53_17),(54,t54_18),(4,t54_18),(55,(e 0)),(56,(e 0)),(57,t57_19),(58,t58_20),(59,t59_21),(60,t54_18),(61,t61_22),(62,t62_23),(63,t63_24),(64,t64_25),(65,t65_26),(66,t66_27),(67,(e 0)),(68,(e 0)),(69,(e 0)),(70,t70_29),(71,t71_30),(72,t72_31),(73,t54_18),(74,t74_32),(75,t75_33),(76,t76_34),(77,t77_35),(78,t78_36),(79,t79_38),(80,t80_39),(81,(e 0)),(82,t82_41),(83,t83_42),(84,t84_43),(85,t85_49),(86,t86_50),(87,t87_51),(88,t87_51),(89,t89_53),(90,t90_57),(91,t91_62),(92,t92_67),(93,t93_72),(94,t94_77),(95,t95_82),(96,t96_87),(97,t97_92),(98,t98_97),(99,t99_101),(100,(e 0)),(101,(e 0)),(102,t102_102),(103,t103_103),(104,t104_104),(105,t105_105),(106,t106_106),(107,t107_107),(108,t108_108),(109,t109_109),(110,t110_110),(111,t111_111)]) h112 (n99+13)) (jH ro K (puts e [(50,t50_14),(51,t51_15),(52,t52_16),(53,t53_17),(54,t54_18),(4,t54_18),(55,(e 0)),(56,(e 0)),(57,t57_19),(58,t58_20),(59,t59_21),(60,t54_18),(61,t61_22),(62,t62_23),(63,t63_24),(64,t64_25),(65,t65_26),(66,t66_27),(67,(e 0)),(68,(e 0)),(69,(e 0)),(70,t70_29),(71,t71_30),(72,t72_31),(73,t54_18),(74,t74_32),(75,t75_33),(76,t76_34),(77,t77_35),(78,t78_36),(79,t79_38),(80,t80_39),(81,(e 0)),(82,t82_41),(83,t83_42),(84,t84_43),(85,t85_49),(86,t86_50),(87,t87_51),(88,t87_51),(89,t89_53),(90,t90_57),(91,t91_62),(92,t92_67),(93,t93_72),(94,t94_77),(95,t95_82),(96,t96_87),(97,t97_92),(98,t98_97),(99,t99_101)]) h98 n99))
@[irreducible] def o6 (ro:Ro) (v0:Value) (h:T Obj) (nx:Nat) (K:KV):Prop:=aA (zer Tryz.prog bQ) fun z1=>cM h nx (.cells z1.cells bQ) fun h2=>aA (bK v0) fun t6_3=>aA (aQ 7 t6_3) fun t7_4=>aA (load1 ro h2 t7_4) fun t8_5=>aA (bK v0) fun t10_6=>aA (aQ 7 t10_6) fun t11_7=>aA (load1 ro h2 t11_7) fun t12_8=>aA (aO .add t12_8 (Value.int IntKind.i64 1)) fun t13_9=>aA (eX Tryz.prog bQ [(0,(Value.int IntKind.i64 (-1))),(1,t8_5),(2,t13_9)]) fun t14_10=>aA (zer Tryz.prog bQ) fun z11=>cM h2 (nx+11) (.cells z11.cells bQ) fun h12=>aA (bV 3 h12 (ptr (nx+11)) t14_10) fun h13=>aA (bK v0) fun t16_113=>aA (aQ 10 t16_113) fun t17_114=>aA (aQ 2 t17_114) fun t18_115=>aA (load1 ro h13 t18_115) fun t19_116=>aA (aO .neq t19_116 (Value.int IntKind.i64 (-1))) fun t20_117=>aS t20_117 (aA (bK v0) fun t22_118=>aA (aQ 0 t22_118) fun t23_119=>aA (aQ 3 t23_119) fun t24_120=>aA (load1 ro h13 t24_120) fun t25_121=>aN Tryz.prog ro iY [v0] h13 (nx+50) fun t27_122 h123 n124=>(jD t24_120 h13 h123)∧(aA (cL 260 t25_121 t27_122) fun t28_125=>aA (aQ 259 t28_125) fun t29_126=>aA (load1 ro h123 t29_126) fun t30_127=>aA (bK v0) fun t32_128=>aA (aQ 10 t32_128) fun t33_129=>aA (aQ 2 t33_129) fun t34_130=>aA (load1 ro h123 t34_130) fun t35_131=>(jD t34_130 h13 h123)∧(aA (cL 1 t30_127 t35_131) fun t36_132=>aA (load1 ro h123 t36_132) fun t37_133=>aA (bK v0) fun t39_134=>aA (aQ 7 t39_134) fun t40_135=>aA (load1 ro h123 t40_135) fun t41_136=>(jD t40_135 h13 h123)∧(aA (bK v0) fun t43_137=>aA (aQ 10 t43_137) fun t44_138=>aA (aQ 1 t44_138) fun t45_139=>aA (load1 ro h123 t45_139) fun t46_140=>(jD t45_139 h13 h123)∧(aA (aO .add t41_136 t46_140) fun t47_141=>aA (aQ 0 (ptr (nx+11))) fun t48_142=>aA (bV 1 h123 t48_142 t37_133) fun h143=>(jD t45_139 h123 h143)∧((jD t40_135 h123 h143)∧(aA (aQ 2 (ptr (nx+11))) fun t49_144=>aA (bV 1 h143 t49_144 t47_141) fun h145=>jG ro K (puts (gQ [v0]) [(2,(ptr nx)),(5,v0),(6,t6_3),(7,t7_4),(8,t8_5),(9,v0),(10,t10_6),(11,t11_7),(12,t12_8),(13,t13_9),(14,t14_10),(3,(ptr (nx+11))),(15,v0),(16,t16_113),(17,t17_114),(18,t18_115),(19,t19_116),(20,t20_117),(21,v0),(22,t22_118),(23,t23_119),(24,t24_120),(25,t25_121),(26,v0),(27,t27_122),(28,t28_125),(29,t29_126),(30,t30_127),(31,v0),(32,t32_128),(33,t33_129),(34,t34_130),(35,t35_131),(36,t36_132),(37,t37_133),(38,v0),(39,t39_134),(40,t40_135),(41,t41_136),(42,v0),(43,t43_137),(44,t44_138),(45,t45_139),(46,t46_140),(47,t47_141),(48,t48_142),(49,t49_144)]) h145 n124))))))) (jG ro K (puts (gQ [v0]) [(2,(ptr nx)),(5,v0),(6,t6_3),(7,t7_4),(8,t8_5),(9,v0),(10,t10_6),(11,t11_7),(12,t12_8),(13,t13_9),(14,t14_10),(3,(ptr (nx+11))),(15,v0),(16,t16_113),(17,t17_114),(18,t18_115),(19,t19_116),(20,t20_117)]) h13 (nx+19))
theorem aAB (ro:Ro) (v0:Value) (h:T Obj) (nx:Nat) (K:KV):a9 Tryz.prog ro (aN Tryz.prog ro) Tryz.f80 [v0] h nx K=o6 ro v0 h nx K:=by kernel_rfl
theorem aAC {ro:Ro} {v0:Value} {h:T Obj} {nx:Nat} {K:KV} (hw:o6 ro v0 h nx K):aN Tryz.prog ro mT [v0] h nx K:=a7 (P:=Tryz.prog) (fn:=Tryz.f80) (by kernel_rfl) (by kernel_rfl) (by kernel_rfl) (Eq.mpr (aAB ro v0 h nx K) hw)
@[irreducible] def mW (ro:Ro) (v0:Value) (h:T Obj) (nx:Nat) (K:KV):Prop:=aA (bK v0) fun t4_1=>aA (aQ 8 t4_1) fun t5_2=>aA (load1 ro h t5_2) fun t6_3=>aS t6_3 (aA (bK v0) fun t8_4=>aA (aQ 9 t8_4) fun t9_5=>aA (load1 ro h t9_5) fun t10_6=>aA (aO .mul (Value.int IntKind.i64 2) t10_6) fun t11_7=>aA (aO .add t11_7 (Value.int IntKind.i64 1)) fun t12_8=>∃ h9,Sub h9 h∧K t12_8 h9 (nx+12)) (aA (bK v0) fun t14_10=>aA (aQ 9 t14_10) fun t15_11=>aA (load1 ro h t15_11) fun t16_12=>aA (aO .mul (Value.int IntKind.i64 2) t16_12) fun t17_13=>∃ h14,Sub h14 h∧K t17_13 h14 (nx+11))
theorem wZ (ro:Ro) (v0:Value) (h:T Obj) (nx:Nat) (K:KV):a9 Tryz.prog ro (aN Tryz.prog ro) Tryz.f122 [v0] h nx K=mW ro v0 h nx K:=by kernel_rfl
theorem w7 {ro:Ro} {v0:Value} {h:T Obj} {nx:Nat} {K:KV} (hw:mW ro v0 h nx K):aN Tryz.prog ro iY [v0] h nx K:=a7 (P:=Tryz.prog) (fn:=Tryz.f122) (by kernel_rfl) (by kernel_rfl) (by kernel_rfl) (Eq.mpr (wZ ro v0 h nx K) hw)
end V
end Go.Proofs.YtcaccnneblghgaaGreat