/- Texts laid one behind the other: XB, XF, XS, XQ, XK, GE, XR, XA, SA, SB, XC, XD, XE.
   No condition. -/
import Derived.Test.YtcaccnneblghgaaGreatRows
import Derived.OpenShut
import Derived.ChangeMaps5
import Derived.KernelRfl
import Derived.Test.YtcaccnneblghgaaGreatQ73
set_option linter.unusedVariables false
set_option linter.unusedSimpArgs false
namespace Go.Proofs.YtcaccnneblghgaaGreat
namespace V
attribute [local irreducible] aB bA aW dM eR gI dH
def sP (m i:Nat):Nat:=m / 2 ^ (64*i) % 2 ^ 64
theorem aOO (m i:Nat):sP m i < 18446744073709551616:=by unfold sP; exact Nat.mod_lt _ (by decide)
theorem sO (m i j:Nat):(sP m i).testBit j=(decide (j < 64)&&m.testBit (64*i+j)):=by
 unfold sP
 rw[Nat.testBit_mod_two_pow,Nat.testBit_div_two_pow,Nat.add_comm]
theorem aRG (m b:Nat):(sP m (b / 64) / 2 ^ (b % 64) % 2=1) ↔ m.testBit b=true:=by
 have h:=sO m (b / 64) (b % 64)
 rw[Nat.testBit_eq_decide_div_mod_eq] at h
 have h1:b % 64 < 64:=Nat.mod_lt _ (by decide)
 rw[Nat.div_add_mod] at h
 simp only[h1,decide_true,Bool.true_and] at h
 rw[← h]; simp
section
variable {α β:Type} [DecidableEq α] [DecidableEq β]
def aTx (s:List α) (p:α):List α:=if p∈s then s else s++[p]
def dd (l:List α):List α:=l.foldl aTx []
def pos (s:List α) (p:α):Nat:=s.idxOf p
def ix (l:List α) (p:α):Nat:=pos (dd l) p
end
@[irreducible] def bs:List Nat:=List.range 256
def sig (l:List Nat) (b:Nat):List Bool:=l.map fun s=>s.testBit b
def aUd (l:List Nat):List (List Bool):=bs.map (sig l)
def many (l:List Nat):Nat:=(dd (aUd l)).length
def qU (m:Nat):List Value:=[.int .u64 (sP m 0),.int .u64 (sP m 1),.int .u64 (sP m 2),.int .u64 (sP m 3)]
def aEU (m:Nat):Value:=.agg #[.int .u64 (sP m 0),.int .u64 (sP m 1),.int .u64 (sP m 2),.int .u64 (sP m 3)]
theorem iR (m:Nat):Value.cells (aEU m)=(qU m).toArray:=rfl
theorem aMN {m i:Nat} (hi:i < 4):(qU m)[i]?=some (.int .u64 (sP m i)):=by
 match i,hi with
 | 0,_=>rfl
 | 1,_=>rfl
 | 2,_=>rfl
 | 3,_=>rfl
theorem aNd {q:Nat} (h:q < 18446744073709551616):(q:Int)≤18446744073709551615:=by omega
theorem aFR {ro:Ro}{m b:Nat} (hb:b < 256) {h:T Obj}{nx:Nat}{K:KV} (hf:Fr h nx) (hK:∀ nx',nx≤nx'→K (.bool (m.testBit b)) h nx'):aO Tryz.prog ro yD [aEU m,.int .u8 b] h nx K:=by
 apply aJn
 unfold aIr
 have h1:((b:Int) / 64).toNat=b / 64:=by omega
 have h2:((b:Int) % 64).toNat=b % 64:=by omega
 have h3:=aOO m (b / 64)
 have h4:b / 64 < 4:=by omega
 have h5:=aMN (m:=m) h4
 have h6:sP m (b / 64) / 2 ^ (b % 64)≤sP m (b / 64):=Nat.div_le_self _ _
 have h7:((sP m (b / 64) / 2 ^ (b % 64):Nat):Int)≤18446744073709551615:=aNd (Nat.lt_of_le_of_lt h6 h3)
 simp (disch:=first | omega | exact Int.natCast_nonneg _ | assumption) only [eG,iR,bY,dP,dQ,bT,bD,gT,fA,fC,dR,cV,T.get_upd_same,bP,Option.bind,h1,h2,Nat.zero_add,Nat.mul_one,h5]
 refine⟨h,(aZ.refl h).new hf (Nat.le_refl _),?_⟩
 have e:(decide ((((sP m (b / 64) / 2 ^ (b % 64):Nat):Int) % 2)=1))=m.testBit b:=by
  have h9:=aRG m b
  cases hm:m.testBit b with
  | true=>rw[hm] at h9; have:=h9.2 rfl; apply decide_eq_true; omega
  | false =>
   rw[hm] at h9
   have:¬ (sP m (b / 64) / 2 ^ (b % 64) % 2=1):=fun e=>by have:=h9.1 e; cases this
   apply decide_eq_false; omega
 rw[e]
 exact hK _ (by omega)
def rz (last many:Int):List Int→Bool
 | []=>true
 | x::r=>decide (last < x)&&(decide (x < many)&&rz x many r)
theorem aFz (a m x:Int) (r:List Int):rz a m (x::r)=(decide (a < x)&&(decide (x < m)&&rz x m r)):=rfl
theorem aNS:∀ {l:List Int}{a m:Int},rz a m l=true→∀ x∈l,a < x∧x < m
 | [],a,m,h,x,hx=>by cases hx
 | y::r,a,m,h,x,hx=>by
  simp only[rz,Bool.and_eq_true,decide_eq_true_eq] at h
  rcases List.mem_cons.1 hx with rfl | hx
  ·exact⟨h.1,h.2.1⟩
  ·have:=aNS h.2.2 x hx; omega
def sU {D:Type} (q:D→Bool) (k:Int):List D→Int
 | []=>-1
 | x::r=>if q x then k else sU q (k+1) r
theorem qK {D:Type} (q:D→Bool) (k:Int) (x:D) (r:List D):sU q k (x::r)=if q x then k else sU q (k+1) r:=rfl
theorem aCQ {D:Type} (q:D→Bool):∀ (l:List D) (k:Int),0≤k→decide (0≤sU q k l)=l.any q
 | [],k,hk=>rfl
 | x::r,k,hk=>by
  rw[qK,List.any_cons]
  by_cases h:q x=true
  ·rw[if_pos h,h]; simp[hk]
  ·rw[if_neg h,aCQ q r (k+1) (by omega)]; simp[h]
theorem aJG {D:Type} (q:D→Bool) (l:List D):(!(l.any fun x=>!q x))=l.all q:=by
 induction l with
 | nil=>rfl
 | cons x r ih=>rw[List.any_cons,List.all_cons,Bool.not_or,ih,Bool.not_not]
def u8s (l:List Nat):List Value:=l.map fun b:Nat=>Value.int .u8 (b:Int)
theorem aC1 (l:List Nat):(u8s l).length=l.length:=by simp[u8s]
def gF (c:List Nat) (n:Int):List Value:=u8s c++[.int .i64 n]
def pZ (c:List Nat) (n:Int):Value:=.agg (gF c n).toArray
theorem pN (c:List Nat) (n:Int):(pZ c n).cells=(gF c n).toArray:=rfl
theorem fM {c:List Nat}{n:Int} (hc:c.length=256):(gF c n).length=257:=by simp[gF,aC1,hc]
theorem aNZ (c:List Nat) (n:Int):(gF c n).all eA=true:=by simp[gF,u8s,eA]
theorem aCD {c:List Nat}{n:Int}{i:Nat} (hi:i < c.length):(gF c n)[i]?=some (.int .u8 (c[i]:Nat)):=by
 unfold gF
 rw[List.getElem?_append_left (by rw[aC1]; exact hi)]
 simp[u8s,hi]
theorem vW {c:List Nat}{n:Int} (hc:c.length=256):(gF c n)[256]?=some (.int .i64 n):=by
 unfold gF
 rw[List.getElem?_append_right (by rw[aC1]; omega)]
 simp[aC1,hc]
theorem aQS {ro:Ro}{h:T Obj}{id z n:Nat}{c:List Nat}{m:Int}{e:TypeId}{f:Nat × Nat} (hg:h.get id=some (.cells (gF c m).toArray e f)) (hc:c.length=256):loadA ro h 256 (at_ id 0 z)=some (.agg (u8s c).toArray):=by
 rw[cJ,hg,bP]
 simp only[Option.bind_some,tl]
 rw[if_pos (by rw[fM hc]; omega),List.drop_zero]
 unfold gF
 rw[List.take_append_of_le_length (by rw[aC1]; omega),List.take_of_length_le (by rw[aC1]; omega)]
theorem aQE {c:List Nat}{i:Nat} (k:IntKind) (hi:i < c.length) (hc:c.length=256):aR7 256 1 (.agg (u8s c).toArray) (.int k (i:Int))=some (.int .u8 (c[i]:Nat)):=by
 have hn:pL (.int k (i:Int))=some i:=by simp[pL]
 have hb:Nat.blt i 256=true:=by simp[Nat.blt]; omega
 unfold aR7
 rw[hn]
 simp only[Option.bind_some,asAgg,hb,Nat.mul_one,List.getElem?_toArray]
 simp[u8s,hi]
def rt (c:List Nat):Nat→Option Nat
 | 0=>some 0
 | i+1=>(rt c i).bind fun m=>if m < c.getD i 0 then none else if c.getD i 0=m then some (m+1) else some m
def sH (c:List Nat) (n:Int):Bool:=match rt c 256 with
 | some m=>decide ((m:Int)=n)
 | none=>false
theorem aOE {c:List Nat}:∀ {i m:Nat},rt c i=some m→m≤i
 | 0,m,h=>by cases h; exact Nat.le_refl _
 | i+1,m,h=>by
  obtain⟨m0,h1,h2⟩:=aP h
  have:=aOE h1
  split at h2
  ·cases h2
  ·split at h2<;>cases h2<;>omega
theorem aOF {c:List Nat}{i:Nat} (h:rt c i=none):∀ j,i≤j→rt c j=none:=by
 intro j hj
 induction hj with
 | refl=>exact h
 | step _ ih=>simp only[rt,ih,Option.bind]
theorem zzI{A B:Prop}(k:B)(h:B→A:=by first|exact aA (by simp (disch:=first|omega|exact nnN _|assumption) only [BB,B2,↓reduceIte,Nat.reduceLeDiff,Nat.reduceAdd,bD,bI,bL,bK,bJ,bH]<;>rfl)|exact aE|exact aF|with_reducible first|exact aH|exact aG|exact aL|exact aI|exact aK|exact aJ|exact aM|exact aC):A:=h k
theorem zzIz{A B:Prop}(k:B)(h:B→A:=by first|exact aA (by simp (disch:=first|omega|exact nnN _|assumption) only [BB,B2,↓reduceIte,Nat.reduceLeDiff,Nat.reduceAdd,bD,bI,bL,bK,bJ,bH,zz]<;>rfl)|exact aE|exact aF|with_reducible first|exact aH|exact aG|exact aL|exact aI|exact aK|exact aJ|exact aM|exact aC):A:=h k
set_option maxRecDepth 4000 in
theorem aIO {ro:Ro}{c:List Nat}{n:Int} (hc:c.length=256) (hcl:∀ x∈c,x < 256) {h:T Obj}{nx:Nat}{K:KV} (hf:Fr h nx) (hK:∀ nx',nx≤nx'→K (.bool (sH c n)) h nx'):aO Tryz.prog ro zA [pZ c n] h nx K:=by
 apply aH1
 unfold aF5
 refine aE ?_
 (repeat refine zzI ?_)
 refine aA (aQS (n:=0) (c:=c) (m:=n) (e:=eM) (f:=(0,0)) (by simp (disch:=first | omega | exact Int.natCast_nonneg _ | assumption) only [BB,B2,↓reduceIte,Nat.reduceLeDiff,Nat.reduceAdd,bD,bI,bL,bK,bJ,bH,pN]) hc) ?_
 refine bM (fun j e h' nx'=>∃ (i m:Nat),i+j=256∧nx+1≤nx'∧e 1=ptr nx∧e 3=.int .i64 m∧e 7=.agg (u8s c).toArray∧e 8=.int .i64 i∧aZ h h'∧Fr h' nx' ∧
  h'.get nx=some (.cells (gF c n).toArray eM)∧rt c i=some m) ?_ (n:=256) ⟨0,0,by omega,by omega,rfl,rfl,rfl,rfl,?_,?_,?_,rfl⟩
 ·rintro j e h' nx' ⟨i,m,hij,hnx,e1,e3,e7,e8,hs,hf',g0,hr⟩ Q' hq hx
  have hm:=aOE hr
  unfold aCE
  rw[e3,e7,e8]
  (repeat refine zzI ?_)
  by_cases hi:i < 256
  ·refine iG (by simp; omega) ?_
   have hic:i < c.length:=by omega
   refine aA (aQE _ hic hc) ?_
   have hci:=hcl _ (List.getElem_mem hic)
   have hgd:c.getD i 0=c[i]:=by rw[List.getD_eq_getElem?_getD,List.getElem?_eq_getElem hic]; rfl
   have hrs:rt c (i+1)=if m < c[i] then none else if c[i]=m then some (m+1) else some m:=by simp only[rt,hr,Option.bind_some,hgd]
   (repeat refine zzI ?_)
   by_cases h1:m < c[i]
   ·refine iG (by simp; omega) ?_
    refine hx _ _ _ _ (fun e=>by cases e) (fP ?_)
    refine⟨h,hs,?_⟩
    have hn:rt c 256=none:=aOF (i:=i+1) (by rw[hrs,if_pos h1]) 256 (by omega)
    have:=hK (nx'+9) (by omega)
    unfold sH at this
    rw[hn] at this
    exact this
   ·refine iF (by simp; omega) ?_
    rw[if_neg h1] at hrs
    (repeat refine zzI ?_)
    have hj2:∀ (e:dL) (n2 m':Nat),nx'≤n2→e 1=ptr nx→e 3=.int .i64 m'→e 7=.agg (u8s c).toArray→e 8=.int .i64 i→rt c (i+1)=some m'→sM ro Q' e h' n2:=by
     intro e n2 m' hn2 e1 e3 e7 e8 hr'
     unfold sM
     rw[e8]
     (repeat refine zzI ?_)
     exact hq (j - 1) _ _ _ _ (by omega) ⟨i+1,m',by omega,by omega,e1,e3,e7,rfl,hs,hf'.mono (by omega),g0,hr'⟩ (aZ.refl _)
    by_cases h2:c[i]=m
    ·refine iG (by simp; omega) ?_
     (repeat refine zzI ?_)
     rw[if_pos h2] at hrs
     exact hj2 _ _ (m+1) (by omega) e1 rfl e7 e8 hrs
    ·refine iF (by simp; omega) ?_
     rw[if_neg h2] at hrs
     exact hj2 _ _ m (by omega) e1 e3 e7 e8 hrs
  ·refine iF (by simp; omega) ?_
   refine hx _ _ _ _ (fun e=>by cases e) (eE (dG ?_))
   have hi2:i=256:=by omega
   subst hi2
   unfold xT
   have f1:∀ a,dL.put e 9 a 1=ptr nx:=fun a=>e1
   have f3:∀ a,dL.put e 9 a 3=.int .i64 m:=fun a=>e3
   simp only[puts,f1,f3]
   have hg:=vW (n:=n) hc
   (have zz:=And.intro g0 hg;repeat refine zzIz ?_)
   refine⟨h,hs,?_⟩
   have:=hK (nx'+1+5) (by omega)
   unfold sH at this
   rw[hr] at this
   exact this
 ·exact (aZ.refl h).new hf (Nat.le_refl _)
 ·exact hf.upd (m:=nx+6) (by omega) (by omega)
 ·simp (disch:=first | omega | exact Int.natCast_nonneg _ | assumption) only [BB,B2,↓reduceIte,Nat.reduceLeDiff,Nat.reduceAdd,bD,bI,bL,bK,bJ,bH,pN]
set_option maxRecDepth 4000 in
theorem aIB {ro:Ro}{c:List Nat}{n:Int} (hc:c.length=256) (hcl:∀ x∈c,x < 256) {h:T Obj}{nx:Nat}{K:KV} (hf:Fr h nx) (hK:∀ nx',nx≤nx'→K (.bool (sH c n)) h nx'):aO Tryz.prog ro y0 [pZ c n] h nx K:=by
 apply aHG
 unfold aFU
 refine aE ?_
 refine bM (fun j e h' nx'=>∃ (i m:Nat),i+j=256∧nx+1≤nx'∧e 1=ptr nx∧e 3=.int .i64 m∧e 4=.int .i64 i∧aZ h h'∧Fr h' nx' ∧
  h'.get nx=some (.cells (gF c n).toArray eM)∧rt c i=some m) ?_ (n:=256) ⟨0,0,by omega,by omega,rfl,rfl,rfl,?_,?_,?_,rfl⟩
 ·rintro j e h' nx' ⟨i,m,hij,hnx,e1,e3,e4,hs,hf',g0,hr⟩ Q' hq hx
  have hm:=aOE hr
  unfold aBf
  rw[e1,e3,e4]
  (repeat refine zzI ?_)
  by_cases hi:i < 256
  ·refine iG (by simp; omega) ?_
   have hic:i < c.length:=by omega
   have hci:=hcl _ (List.getElem_mem hic)
   have hg:=aCD (n:=n) hic
   have hgd:c.getD i 0=c[i]:=by rw[List.getD_eq_getElem?_getD,List.getElem?_eq_getElem hic]; rfl
   have hrs:rt c (i+1)=if m < c[i] then none else if c[i]=m then some (m+1) else some m:=by simp only[rt,hr,Option.bind_some,hgd]
   (have zz:=And.intro g0 hg;repeat refine zzIz ?_)
   by_cases h1:m < c[i]
   ·refine iG (by simp; omega) ?_
    refine hx _ _ _ _ (fun e=>by cases e) (fP ?_)
    refine⟨h,hs,?_⟩
    have hn:rt c 256=none:=aOF (i:=i+1) (by rw[hrs,if_pos h1]) 256 (by omega)
    have:=hK (nx'+10) (by omega)
    unfold sH at this
    rw[hn] at this
    exact this
   ·refine iF (by simp; omega) ?_
    rw[if_neg h1] at hrs
    (have zz:=And.intro g0 hg;repeat refine zzIz ?_)
    have hj2:∀ (e:dL) (n2 m':Nat),nx'≤n2→e 1=ptr nx→e 3=.int .i64 m'→e 4=.int .i64 i→rt c (i+1)=some m'→rX ro Q' e h' n2:=by
     intro e n2 m' hn2 e1 e3 e4 hr'
     unfold rX
     rw[e4]
     (repeat refine zzI ?_)
     exact hq (j - 1) _ _ _ _ (by omega) ⟨i+1,m',by omega,by omega,e1,e3,rfl,hs,hf'.mono (by omega),g0,hr'⟩ (aZ.refl _)
    by_cases h2:c[i]=m
    ·refine iG (by simp; omega) ?_
     (repeat refine zzI ?_)
     rw[if_pos h2] at hrs
     exact hj2 _ _ (m+1) (by omega) e1 rfl e4 hrs
    ·refine iF (by simp; omega) ?_
     rw[if_neg h2] at hrs
     exact hj2 _ _ m (by omega) e1 e3 e4 hrs
  ·refine iF (by simp; omega) ?_
   refine hx _ _ _ _ (fun e=>by cases e) (eE (dG ?_))
   have hi2:i=256:=by omega
   subst hi2
   unfold w8
   have f1:∀ a b,dL.put (dL.put e 5 a) 6 b 1=ptr nx:=fun a b=>e1
   have f3:∀ a b,dL.put (dL.put e 5 a) 6 b 3=.int .i64 m:=fun a b=>e3
   simp only[puts,f1,f3]
   have hg:=vW (n:=n) hc
   (have zz:=And.intro g0 hg;repeat refine zzIz ?_)
   refine⟨h,hs,?_⟩
   have:=hK (nx'+2+5) (by omega)
   unfold sH at this
   rw[hr] at this
   exact this
 ·exact (aZ.refl h).new hf (Nat.le_refl _)
 ·exact hf.upd (m:=nx+4) (by omega) (by omega)
 ·simp (disch:=first | omega | exact Int.natCast_nonneg _ | assumption) only [BB,B2,↓reduceIte,Nat.reduceLeDiff,Nat.reduceAdd,bD,bI,bL,bK,bJ,bH,pN]
def mD (m:Int):Int:=if m=0 then 1 else if m=1 then 3 else if m=2 then 9 else if m=3 then 27 else 0
theorem aKc {m p:Int} (h:m=0∧p=1∨m=1∧p=3∨m=2∧p=9∨m=3∧p=27):mD m=p:=by
 unfold mD
 rcases h with ⟨h,rfl⟩ | ⟨h,rfl⟩ | ⟨h,rfl⟩ | ⟨h,rfl⟩<;>subst h<;>rfl
theorem zO {m:Int} (h:m < 0∨3 < m):mD m=0:=by
 unfold mD
 rw[if_neg (by omega),if_neg (by omega),if_neg (by omega),if_neg (by omega)]
theorem aBO (m:Int):0≤mD m∧mD m≤27:=by
 unfold mD
 repeat' split
 all_goals omega
theorem aE6 {m:Int} (h:mD m≠0):0≤m∧m≤3:=by
 rcases Int.lt_or_le m 0 with h1 | h1
 ·exact absurd (zO (.inl h1)) h
 ·rcases Int.lt_or_le 3 m with h2 | h2
  ·exact absurd (zO (.inr h2)) h
  ·exact⟨h1,h2⟩
theorem zzC{A B:Prop}(k:B)(h:B→A:=by first|exact aA (by simp (disch:=first|omega|exact nnN _|assumption) only [BB,B2,↓reduceIte,Nat.reduceLeDiff,Nat.reduceAdd,CC]<;>rfl)|exact aE|exact aF|with_reducible first|exact aH|exact aG|exact aL|exact aI|exact aK|exact aJ|exact aM|exact aC):A:=h k
set_option maxRecDepth 4000 in
theorem aJJ {ro:Ro}{m:Int}{h:T Obj}{nx:Nat}{K:KV} (hK:∀ nx',nx≤nx'→K (.int .i64 (mD m)) h nx'):aO Tryz.prog ro aAO [.int .i64 m] h nx K:=by
 apply aHi
 unfold aGH
 refine dS (fun h1=>?_) (fun h1=>?_)
 ·(repeat refine zzC ?_)
  exact⟨_,aZ.refl _,ki hK (zO (.inl h1)) (by omega)⟩
 ·(repeat refine zzC ?_)
  refine nH (fun h2=>?_) (fun h2=>?_)
  ·(repeat refine zzC ?_)
   exact⟨_,aZ.refl _,ki hK (zO (.inr h2)) (by omega)⟩
  ·(repeat refine zzC ?_)
   refine bM (fun j e h' nx'=>∃ (k:Nat) (p:Int),(k:Int)+j=m∧nx≤nx'∧h'=h∧e 3=.int .i64 p∧e 10=.int .i64 m∧e 11=.int .i64 k∧(k=0∧p=1∨k=1∧p=3∨k=2∧p=9∨k=3∧p=27)) ?_ (n:=m.toNat) ⟨0,1,by omega,by omega,rfl,rfl,rfl,rfl,by omega⟩
   rintro j e h' nx' ⟨k,p,hj,hnx,rfl,e3,e10,e11,hp⟩ Q' hq hx
   unfold aC6
   rw[e3,e10,e11]
   refine dS (fun hk=>?_) (fun hk=>?_)
   ·(repeat refine zzC ?_)
    exact hq (j - 1) _ _ _ _ (by omega) ⟨k+1,p*3,by omega,by omega,rfl,rfl,e10,rfl,by omega⟩ (aZ.refl _)
   ·(repeat refine zzC ?_)
    refine hx _ _ _ _ (fun e=>by cases e) (eE (dG ?_))
    unfold yS
    have f3:∀ (e':dL) n,e' 3=.int .i64 p→nx≤n→∃ h13,aZ h13 h'∧K (e' 3) h13 n:=fun e' n h3 hn=>by
     rw[h3]
     exact⟨_,aZ.refl _,ki hK (aKc (by omega)) hn⟩
    exact f3 _ _ e3 (by omega)
set_option maxRecDepth 4000 in
theorem aIF {ro:Ro}{m:Int}{h:T Obj}{nx:Nat}{K:KV} (hK:∀ nx',nx≤nx'→K (.int .i64 (mD m)) h nx'):aO Tryz.prog ro y7 [.int .i64 m] h nx K:=by
 apply aHK
 unfold aFW
 refine dS (fun h1=>?_) (fun h1=>?_)
 ·(repeat refine zzC ?_)
  exact⟨_,aZ.refl _,ki hK (zO (.inl h1)) (by omega)⟩
 ·(repeat refine zzC ?_)
  refine nH (fun h2=>?_) (fun h2=>?_)
  ·(repeat refine zzC ?_)
   exact⟨_,aZ.refl _,ki hK (zO (.inr h2)) (by omega)⟩
  ·(repeat refine zzC ?_)
   refine bM (fun j e h' nx'=>∃ (k:Nat) (p:Int),(k:Int)+j=m∧nx≤nx'∧h'=h∧e 3=.int .i64 p∧e 0=.int .i64 m∧e 4=.int .i64 k∧(k=0∧p=1∨k=1∧p=3∨k=2∧p=9∨k=3∧p=27)) ?_ (n:=m.toNat) ⟨0,1,by omega,by omega,rfl,rfl,rfl,rfl,by omega⟩
   rintro j e h' nx' ⟨k,p,hj,hnx,rfl,e3,e10,e11,hp⟩ Q' hq hx
   unfold aBi
   rw[e3,e10,e11]
   refine dS (fun hk=>?_) (fun hk=>?_)
   ·(repeat refine zzC ?_)
    exact hq (j - 1) _ _ _ _ (by omega) ⟨k+1,p*3,by omega,by omega,rfl,rfl,e10,rfl,by omega⟩ (aZ.refl _)
   ·(repeat refine zzC ?_)
    refine hx _ _ _ _ (fun e=>by cases e) (eE (dG ?_))
    unfold xB
    have f3:∀ (e':dL) n,e' 3=.int .i64 p→nx≤n→∃ h13,aZ h13 h'∧K (e' 3) h13 n:=fun e' n h3 hn=>by
     rw[h3]
     exact⟨_,aZ.refl _,ki hK (aKc (by omega)) hn⟩
    exact f3 _ _ e3 (by omega)
structure MoveD where
 to:Int
 ops:List Nat
structure StateD where
 l:List Int
 r:List Int
 rule:List Int
 next:List (List MoveD)
structure AutoD where
 c:List Nat
 many:Int
 counts:List (Int × Int)
 states:List StateD
def noS:StateD:=⟨[],[],[],[]⟩
def aJh (R:List Int) (o:Nat) (r:Int):Bool:=decide (1≤o)&&(decide (o≤3)&&(decide (o=3) || R.contains r))
def aBb (R:List Int):List Nat→List Int→Bool
 | o::os,r::rs=>aJh R o r&&aBb R os rs
 | _,_=>true
def jC (S:List StateD) (R:List Int) (m:MoveD):Bool :=
 if m.to=-1 then decide (m.ops.length=0) else decide (1≤m.to)&&(decide (m.to < S.length)&&(decide (m.ops.length=(S.getD m.to.toNat noS).r.length)&&aBb R m.ops (S.getD m.to.toNat noS).r))
def nJ:Nat:=9223372036854775807
def RU8 (x:List Value) (d:Nat):Prop:=x=[.int .u8 (d:Int)]∧d < 256
def aAg (ro:Ro) (h:T Obj) (x:List Value) (d:MoveD):Prop:=∃ ov,x=[.int .i64 d.to,ov]∧iO ro h ov 1 RU8 d.ops∧d.ops.length≤nJ
def vC (ro:Ro) (h:T Obj) (x:List Value) (d:List MoveD):Prop:=∃ w,x=[w]∧iO ro h w 2 (aAg ro h) d∧d.length≤nJ
def eT (ro:Ro) (h:T Obj) (x:List Value) (d:StateD):Prop:=∃ lv rv uv nv,x=[lv,rv,uv,nv]∧ZI ro h lv d.l∧ZI ro h rv d.r∧ZI ro h uv d.rule∧iO ro h nv 1 (vC ro h) d.next∧d.r.length≤nJ
def aAG (x:List Value) (d:Int × Int):Prop:=x=[.int .i64 d.1,.int .i64 d.2]
theorem aAg.sub {ro:Ro}{h h':T Obj} (hs:aZ h h'):∀ x d,aAg ro h x d→aAg ro h' x d:=fun x d ⟨ov,h1,h2,h3⟩=>⟨ov,h1,h2.sub hs fun _ _ h=>h,h3⟩
theorem vC.sub {ro:Ro}{h h':T Obj} (hs:aZ h h'):∀ x d,vC ro h x d→vC ro h' x d:=fun x d ⟨ov,h1,h2,h3⟩=>⟨ov,h1,h2.sub hs (aAg.sub hs),h3⟩
theorem eT.sub {ro:Ro}{h h':T Obj} (hs:aZ h h'):∀ x d,eT ro h x d→eT ro h' x d:=fun x d ⟨lv,rv,uv,nv,h1,h2,h3,h4,h5,h6⟩=>⟨lv,rv,uv,nv,h1,h2.sub hs,h3.sub hs,h4.sub hs,h5.sub hs (vC.sub hs),h6⟩
def eU (c:List Nat) (n:Int) (cv sv:Value):List Value:=gF c n++[cv,sv]
section
variable {c:List Nat}{n:Int}{cv sv:Value}
theorem d5 (hc:c.length=256):(eU c n cv sv).length=259:=by simp[eU,fM hc]
theorem aIU (hc:c.length=256):(eU c n cv sv)[256]?=some (.int .i64 n):=by
 unfold eU
 rw[List.getElem?_append_left (by rw[fM hc]; omega)]
 exact vW hc
theorem mQ (hc:c.length=256):(eU c n cv sv)[257]?=some cv:=by
 unfold eU
 rw[List.getElem?_append_right (by rw[fM hc]; omega),fM hc]; rfl
theorem jW (hc:c.length=256):(eU c n cv sv)[258]?=some sv:=by
 unfold eU
 rw[List.getElem?_append_right (by rw[fM hc]; omega),fM hc]; rfl
theorem aFq (h1:eA cv=true) (h2:eA sv=true):(eU c n cv sv).all eA=true:=by
 unfold eU
 rw[List.all_append,aNZ,Bool.true_and]
 simp[h1,h2]
theorem aQV {ro:Ro}{h:T Obj}{id z:Nat}{e:TypeId}{f:Nat × Nat} (hg:h.get id=some (.cells (eU c n cv sv).toArray e f)) (hc:c.length=256):loadA ro h 257 (at_ id 0 z)=some (pZ c n):=by
 rw[cJ,hg,bP]
 simp only[Option.bind_some,tl]
 rw[if_pos (by rw[d5 hc]; omega),List.drop_zero]
 unfold eU
 rw[List.take_append_of_le_length (by rw[fM hc]; omega),List.take_of_length_le (by rw[fM hc]; omega)]
 rfl
end
def sR (ro:Ro) (h:T Obj) (x:List Value) (d:AutoD):Prop:=∃ cv sv,x=eU d.c d.many cv sv∧d.c.length=256∧(∀ x∈d.c,x < 256)∧iO ro h cv 2 aAG d.counts∧iO ro h sv 4 (eT ro h) d.states∧d.counts.length≤nJ∧d.states.length≤nJ
theorem aDW (R:List Int) (o:Nat) (os:List Nat) (r:Int) (rs:List Int):aBb R (o::os) (r::rs)=(aJh R o r&&aBb R os rs):=rfl
theorem aIl (R:List Int) (rs:List Int):aBb R [] rs=true:=by cases rs<;>rfl
set_option maxRecDepth 4000 in
theorem aDd {ro:Ro}{v:Value}{l:List Int}{many:Int} (hm:many≤1000000) {h:T Obj}{nx:Nat}{K:KV} (hv:ZI ro h v l) (hK:∀ nx',nx≤nx'→K (.bool (rz (-1) many l)) h nx'):aO Tryz.prog ro vJ [v,.int .i64 many] h nx K:=by
 apply aHk
 unfold aGK
 generalize hR:rz (-1) many l=R at hK
 refine aA hv.len ?_
 refine bM (fun j e h' nx'=>∃ (k:Nat) (last:Int),k+j=l.length∧nx≤nx'∧h'=h∧e 1=.int .i64 many∧e 5=.int .i64 last∧e 8=v∧e 9=.int .i64 l.length∧e 10=.int .i64 k∧(k:Int)≤last+1∧rz last many (l.drop k)=R) ?_ (n:=l.length) ⟨0,-1,by omega,by omega,rfl,rfl,rfl,rfl,rfl,rfl,by omega,hR⟩
 rintro j e h' nx' ⟨k,last,hj,hnx,rfl,e1,e5,e8,e9,e10,hk1,hr⟩ Q' hq hx
 unfold aC7
 rw[e1,e5,e8,e9,e10]
 (repeat refine zzI ?_)
 refine aRW (fun hk=>?_) (fun hk=>?_)
 ·have hk:k < l.length:=by omega
  rw[cU hk,aFz] at hr
  refine aA (hv.ix _ hk) (aA (hv.load hk) ?_)
  generalize l[k]=x at hr
  (repeat refine zzI ?_)
  by_cases h1:x≤last
  ·rw[decide_eq_true h1]
   (repeat refine zzI ?_)
   refine hx _ _ _ _ (fun e=>by cases e) (fP ?_)
   refine⟨_,aZ.refl _,kb hK ?_ (by omega)⟩
   rw[← hr,decide_eq_false (by omega)]; rfl
  ·rw[decide_eq_false h1]
   (repeat refine zzI ?_)
   by_cases h2:many≤x
   ·rw[decide_eq_true h2]
    (repeat refine zzI ?_)
    refine hx _ _ _ _ (fun e=>by cases e) (fP ?_)
    refine⟨_,aZ.refl _,kb hK ?_ (by omega)⟩
    rw[← hr,decide_eq_false (show ¬ x < many by omega)]; simp
   ·rw[decide_eq_false h2]
    (repeat refine zzI ?_)
    refine hq (j - 1) _ _ _ _ (by omega) ⟨k+1,x,by omega,by omega,rfl,e1,rfl,e8,e9,rfl,by omega,?_⟩ (aZ.refl _)
    rw[← hr,decide_eq_true (show last < x by omega),decide_eq_true (show x < many by omega)]; rfl
 ·refine hx _ _ _ _ (fun e=>by cases e) (eE (dG ?_))
  unfold yU
  rw[gG (by omega)] at hr
  exact⟨_,aZ.refl _,kb hK hr.symm (by omega)⟩
set_option maxRecDepth 4000 in
theorem aCp {ro:Ro}{v:Value}{l:List Int}{many:Int} (hm:many≤1000000) {h:T Obj}{nx:Nat}{K:KV} (hv:ZI ro h v l) (hK:∀ nx',nx≤nx'→K (.bool (rz (-1) many l)) h nx'):aO Tryz.prog ro tS [v,.int .i64 many] h nx K:=by
 apply aHN
 unfold aFZ
 generalize hR:rz (-1) many l=R at hK
 refine bM (fun j e h' nx'=>∃ (k:Nat) (last:Int),k+j=l.length∧nx≤nx'∧h'=h∧e 0=v∧e 1=.int .i64 many∧e 5=.int .i64 k∧(k:Int)≤last+1∧last≤1000000∧(k=0→last=-1)∧(∀ q,q+1=k→l[q]?=some last)∧rz last many (l.drop k)=R) ?_ (n:=l.length) ⟨0,-1,by omega,by omega,rfl,rfl,rfl,rfl,by omega,by omega,fun _=>rfl,fun q hq=>by omega,hR⟩
 rintro j e h' nx' ⟨k,last,hj,hnx,rfl,e0,e1,e5,hk1,hk2,hk0,hkp,hr⟩ Q' hq hx
 unfold aBm
 rw[e0,e1,e5]
 refine aA hv.len ?_
 refine dS (fun hk=>?_) (fun hk=>?_)
 ·have hk:k < l.length:=by omega
  have hxk:l[k]?=some l[k]:=List.getElem?_eq_getElem hk
  rw[cU hk,aFz] at hr
  (repeat refine zzC ?_)
  refine aA (hv.ix _ hk) (aA (hv.load hk) ?_)
  generalize l[k]=x at hr hxk
  have hfin:∀ (e':dL) n,e' 4=.bool false→(¬ last < x∨¬ x < many)→nx≤n→Q' .ret e' h' n:=fun e' n h4 hc hn=>by
   refine hx _ _ _ _ (fun e=>by cases e) (fP ?_)
   rw[h4]
   refine⟨_,aZ.refl _,kb hK ?_ hn⟩
   rw[← hr]
   rcases hc with hc | hc
   ·rw[decide_eq_false hc]; rfl
   ·rw[decide_eq_false hc]; simp
  have hok:∀ (e':dL) n,e' 0=v→e' 1=.int .i64 many→e' 5=.int .i64 ((k:Int)+1)→last < x→x < many→nx≤n→Q' .normal e' h' n:=fun e' n g0 g1 g5 hc1 hc2 hn=>by
   refine hq (j - 1) _ _ _ _ (by omega) ⟨k+1,x,by omega,hn,rfl,g0,g1,g5,by omega,by omega,fun h=>by omega,fun q hq=>?_,?_⟩ (aZ.refl _)
   ·have:q=k:=by omega
    subst this; exact hxk
   ·rw[← hr,decide_eq_true hc1,decide_eq_true hc2]; rfl
  (first | refine dS (fun hb=>?_) (fun hb=>?_) | refine aGn (fun hb=>?_) (fun hb=>?_) | refine nH (fun hb=>?_) (fun hb=>?_) | refine yB (fun hb=>?_) (fun hb=>?_) | refine uY (fun hb=>?_) (fun hb=>?_) | refine uF (fun hb=>?_) (fun hb=>?_))
  ·(repeat refine zzC ?_)
   exact hfin _ _ rfl (.inl (by omega)) (by omega)
  ·(repeat refine zzC ?_)
   refine aA (hv.ix _ hk) ?_
   (repeat refine zzC ?_)
   refine aA (hv.load' hxk) ?_
   (repeat refine zzC ?_)
   (first | refine dS (fun hb=>?_) (fun hb=>?_) | refine aGn (fun hb=>?_) (fun hb=>?_) | refine nH (fun hb=>?_) (fun hb=>?_) | refine yB (fun hb=>?_) (fun hb=>?_) | refine uY (fun hb=>?_) (fun hb=>?_) | refine uF (fun hb=>?_) (fun hb=>?_))
   ·(repeat refine zzC ?_)
    exact hfin _ _ rfl (.inr (by omega)) (by omega)
   ·(repeat refine zzC ?_)
    (first | refine dS (fun hb=>?_) (fun hb=>?_) | refine aGn (fun hb=>?_) (fun hb=>?_) | refine nH (fun hb=>?_) (fun hb=>?_) | refine yB (fun hb=>?_) (fun hb=>?_) | refine uY (fun hb=>?_) (fun hb=>?_) | refine uF (fun hb=>?_) (fun hb=>?_))
    ·have h2:=hkp (k - 1) (by omega)
     have h3:=(List.getElem?_eq_some_iff.1 h2).1
     have h4:((k:Int) - 1).toNat=k - 1:=by omega
     (repeat refine zzC ?_)
     refine aA (hv.ixI _ (by omega) (by omega)) ?_
     rw[h4]
     (repeat refine zzC ?_)
     refine aA (hv.load' h2) ?_
     (repeat refine zzC ?_)
     refine aA (hv.ix _ hk) ?_
     (repeat refine zzC ?_)
     refine aA (hv.load' hxk) ?_
     (repeat refine zzC ?_)
     (first | refine dS (fun hb=>?_) (fun hb=>?_) | refine aGn (fun hb=>?_) (fun hb=>?_) | refine nH (fun hb=>?_) (fun hb=>?_) | refine yB (fun hb=>?_) (fun hb=>?_) | refine uY (fun hb=>?_) (fun hb=>?_) | refine uF (fun hb=>?_) (fun hb=>?_))
     ·(repeat refine zzC ?_)
      exact hfin _ _ rfl (.inl (by omega)) (by omega)
     ·(repeat refine zzC ?_)
      exact hok _ _ e0 e1 rfl (by omega) (by omega) (by omega)
    ·(repeat refine zzC ?_)
     exact hok _ _ e0 e1 rfl (by omega) (by omega) (by omega)
 ·(repeat refine zzC ?_)
  refine hx _ _ _ _ (fun e=>by cases e) (eE (dG ?_))
  unfold xE
  rw[gG (by omega)] at hr
  exact⟨_,aZ.refl _,kb hK hr.symm (by omega)⟩
theorem aNI {ro:Ro}{v:Value}{l:List Int}{p:Int} (hlen:l.length≤1000000) {h:T Obj}{nx:Nat}{K:KV} (hv:ZI ro h v l) (hK:∀ nx',nx≤nx'→K (.bool (l.contains p)) h nx'):aO Tryz.prog ro aDQ [v,.int .i64 p] h nx K:=by
 apply aLo
 unfold aLn
 generalize hR:l.contains p=R at hK
 refine bM (fun j e h' nx'=>∃ (k:Nat),k+j=l.length∧nx≤nx'∧h'=h∧e 0=v∧e 1=.int .i64 p∧e 5=.int .i64 k∧(l.drop k).contains p=R) ?_ (n:=l.length) ⟨0,by omega,by omega,rfl,rfl,rfl,rfl,hR⟩
 rintro j e h' nx' ⟨k,hj,hnx,rfl,e0,e1,e5,hr⟩ Q' hq hx
 unfold aFY
 rw[e0,e1,e5]
 refine aA hv.len ?_
 refine dS (fun hk=>?_) (fun hk=>?_)
 ·have hk:k < l.length:=by omega
  rw[cU hk] at hr
  (repeat refine zzC ?_)
  refine aA (hv.ix _ hk) (aA (hv.load hk) ?_)
  generalize l[k]=x at hr
  refine uY (fun he=>?_) (fun he=>?_)
  ·(repeat refine zzC ?_)
   refine hx _ _ _ _ (fun e=>by cases e) (fP ?_)
   exact⟨_,aZ.refl _,kb hK (by rw[← hr,he]; simp) (by omega)⟩
  ·(repeat refine zzC ?_)
   refine hq (j - 1) _ _ _ _ (by omega) ⟨k+1,by omega,by omega,rfl,e0,e1,rfl,?_⟩ (aZ.refl _)
   rw[← hr,List.contains_cons,beq_eq_false_iff_ne.2 (Ne.symm he),Bool.false_or]
 ·(repeat refine zzC ?_)
  refine hx _ _ _ _ (fun e=>by cases e) (eE (dG ?_))
  unfold aBl
  rw[gG (by omega)] at hr
  exact⟨_,aZ.refl _,kb hK hr.symm (by omega)⟩
theorem yO {ro:Ro}{v:Value}{l:List Int}{p:Int} (hlen:l.length≤1000000) {h:T Obj}{nx:Nat}{K:KV} (hv:ZI ro h v l) (hK:∀ nx',nx≤nx'→K (.bool (l.contains p)) h nx'):aO Tryz.prog ro iC [v,.int .i64 p] h nx K:=by
 apply xR
 unfold rC
 apply aAC
 unfold uN
 refine aA hv.len ?_
 have hyes:∀ (k:Nat) n,p∈l→nx≤n→aB (aQ .geq (.int .i64 (k:Int)) (.int .i64 0)) fun t8_4=>∃ h5,aZ h5 h∧K t8_4 h5 (n+2):=fun k n hp hn=>by
  refine yB (fun hg=>?_) (fun hg=>by omega)
  exact⟨_,aZ.refl _,kb hK (by simpa using hp) (by omega)⟩
 generalize hR:l.contains p=R at hK
 refine bM (fun j e h' nx'=>∃ (k:Nat),k+j=l.length∧nx≤nx'∧h'=h∧e 0=v∧e 1=.int .i64 p∧e 7=.int .i64 l.length∧e 8=.int .i64 k∧(l.drop k).contains p=R) ?_ (n:=l.length) ⟨0,by omega,by omega,rfl,rfl,rfl,rfl,rfl,hR⟩
 rintro j e h' nx' ⟨k,hj,hnx,rfl,e0,e1,e7,e8,hr⟩ Q' hq hx
 unfold rD
 rw[e0,e1,e7,e8]
 refine dS (fun hk=>?_) (fun hk=>?_)
 ·have hk:k < l.length:=by omega
  have hmem:l[k]∈l:=List.getElem_mem hk
  rw[cU hk] at hr
  (repeat refine zzC ?_)
  refine aA (hv.ix _ hk) (aA (hv.load hk) ?_)
  generalize l[k]=x at hr hmem
  refine uY (fun he=>?_) (fun he=>?_)
  ·(repeat refine zzC ?_)
   refine hx _ _ _ _ (fun e=>by cases e) (fP ?_)
   refine⟨_,aZ.refl _,hyes _ _ (by rw[he]; exact hmem) (by omega)⟩
  ·(repeat refine zzC ?_)
   refine hq (j - 1) _ _ _ _ (by omega) ⟨k+1,by omega,by omega,rfl,e0,e1,e7,rfl,?_⟩ (aZ.refl _)
   rw[← hr,List.contains_cons,beq_eq_false_iff_ne.2 he,Bool.false_or]
 ·(repeat refine zzC ?_)
  refine hx _ _ _ _ (fun e=>by cases e) (eE (dG ?_))
  unfold mM
  rw[gG (by omega)] at hr
  refine⟨_,aZ.refl _,?_⟩
  refine yB (fun hg=>by omega) (fun hg=>?_)
  exact⟨_,aZ.refl _,kb hK hr.symm (by omega)⟩
theorem zzCz{A B:Prop}(k:B)(h:B→A:=by first|exact aA (by simp (disch:=first|omega|exact nnN _|assumption) only [BB,B2,↓reduceIte,Nat.reduceLeDiff,Nat.reduceAdd,CC,zz]<;>rfl)|exact aE|exact aF|with_reducible first|exact aH|exact aG|exact aL|exact aI|exact aK|exact aJ|exact aM|exact aC):A:=h k
set_option maxRecDepth 8000 in
set_option maxHeartbeats 1000000 in
theorem aGS {ro:Ro}{c:List Nat}{n:Int}{cv sv lv rv uv nv ov:Value}{S:List StateD}{R:List Int}{m:MoveD} (hc:c.length=256) (hSl:S.length≤256) (hR:R.length≤3) (hmo:m.ops.length≤nJ) {h:T Obj}{nx:Nat}{K:KV} (hf:Fr h nx)
  (hS:iO ro h sv 4 (eT ro h) S) (hrv:ZI ro h rv R) (hov:iO ro h ov 1 RU8 m.ops) (hK:∀ nx',nx≤nx'→K (.bool (jC S R m)) h nx'):aO Tryz.prog ro pP [.agg (eU c n cv sv).toArray,.agg #[lv,rv,uv,nv],.agg #[.int .i64 m.to,ov]] h nx K:=by
 apply aBJ
 unfold xW
 refine eZ hf (Nat.le_refl _) fun h1 hs1 hf1 g1 _=>?_
 refine eZ hf1 (Nat.le_refl _) fun h2 hs2 hf2 g2 _=>?_
 refine eZ hf2 (Nat.le_refl _) fun h3 hs3 hf3 g3 _=>?_
 have g1:h3.get nx=some (.cells (eU c n cv sv).toArray eX):=hs3 _ _ (hs2 _ _ g1)
 have g2:h3.get (nx+1)=some (.cells #[lv,rv,uv,nv] bG):=hs3 _ _ g2
 have g3:h3.get (nx+2)=some (.cells #[.int .i64 m.to,ov] bR):=g3
 have hs:=(hs1.trans hs2).trans hs3
 have hS:=hS.sub hs (eT.sub hs)
 have hrv:=hrv.sub hs
 have hov:=hov.sub hs fun _ _ h=>h
 have hsg:=jW (n:=n) (cv:=cv) (sv:=sv) hc
 have hol:=hov.len
 have hsl:=hS.len
 have hmb:m.ops.length≤9223372036854775807:=hmo
 have hno:∀ n,jC S R m=false→nx≤n→∃ h',aZ h' h3∧K (.bool false) h' n:=fun n e hn=>⟨h,hs,kb hK e hn⟩
 (have zz:=g3;repeat refine zzCz ?_)
 refine uY (fun ht=>?_) (fun ht=>?_)
 ·(have zz:=And.intro g3 hol;repeat refine zzCz ?_)
  refine aA (bD _ _ _) ?_
  refine⟨h,hs,kb hK ?_ (by omega)⟩
  unfold jC
  rw[if_pos ht,decide_eq_decide]
  omega
 ·unfold jC at hno hK
  rw[if_neg ht] at hno hK
  (have zz:=g3;repeat refine zzCz ?_)
  refine dS (fun h1=>?_) (fun h1=>?_)
  ·(repeat refine zzC ?_)
   exact hno _ (by rw[decide_eq_false (by omega)]; rfl) (by omega)
  ·rw[decide_eq_true h1,Bool.true_and] at hno hK
   (have zz:=And.intro g1 (And.intro g3 (And.intro hsg hsl));repeat refine zzCz ?_)
   refine yB (fun h2=>?_) (fun h2=>?_)
   ·(repeat refine zzC ?_)
    exact hno _ (by rw[decide_eq_false (by omega)]; rfl) (by omega)
   ·rw[decide_eq_true h2,Bool.true_and] at hno hK
    have hti:m.to.toNat < S.length:=by omega
    have hgd:S.getD m.to.toNat noS=S[m.to.toNat]:=by rw[List.getD_eq_getElem?_getD,List.getElem?_eq_getElem hti]; rfl
    rw[hgd] at hno hK
    have hix:=hS.ixI .i64 (i:=m.to) (by omega) h2
    obtain⟨x,⟨lv',rv',uv',nv',rfl,y1,y2,y3,y4,y5⟩,hx2,hx3,hx4,hx5⟩:=hS.at hti
    have hx1:=hx5 1 rv' rfl
    have hrl:=y2.len
    generalize S[m.to.toNat]=s at hno hK y1 y2 y3 y4 y5 hrl
    have y5:s.r.length≤9223372036854775807:=y5
    (have zz:=And.intro g1 (And.intro g3 (And.intro hsg (And.intro hol (And.intro hix (And.intro hx4 (And.intro hx1 hrl))))));repeat refine zzCz ?_)
    refine uF (fun u9=>?_) (fun u9=>?_)
    ·(repeat refine zzC ?_)
     exact hno _ (by rw[decide_eq_false (by omega)]; rfl) (by omega)
    ·have u9:m.ops.length=s.r.length:=by omega
     rw[decide_eq_true u9,Bool.true_and] at hno hK
     (have zz:=And.intro g3 hol;repeat refine zzCz ?_)
     generalize hB:aBb R m.ops s.r=B at hno hK
     refine bM (fun j e h' nx'=>∃ (k:Nat),k+j=m.ops.length∧nx≤nx'∧h'=h3∧e 3=ptr nx∧e 4=ptr (nx+1)∧e 5=ptr (nx+2)∧e 44=ov∧e 45=.int .i64 m.ops.length∧e 46=.int .i64 k∧aBb R (m.ops.drop k) (s.r.drop k)=B) ?_ (n:=m.ops.length) ⟨0,by omega,by omega,rfl,rfl,rfl,rfl,rfl,rfl,rfl,hB⟩
     rintro j e h' nx' ⟨k,hj,hnx,rfl,e3,e4,e5,e44,e45,e46,hr⟩ Q' hq hx
     unfold t5
     rw[e3,e4,e5,e44,e45,e46]
     refine dS (fun hk=>?_) (fun hk=>?_)
     ·have hk:k < m.ops.length:=by omega
      have hk2:k < s.r.length:=by omega
      rw[cU hk,cU hk2,aDW] at hr
      have oix:=hov.ix .i64 hk
      obtain⟨w,⟨ow,olt⟩,o1⟩:=hov.at1 hk
      simp only[List.cons.injEq,and_true] at ow
      subst ow
      have rix:=y2.ix .i64 hk2
      have rld:=y2.load hk2
      generalize m.ops[k]=o at hr o1 olt
      generalize s.r[k]=r at hr rld
      have hfin:∀ (e':dL) n,e' 6=.bool false→aJh R o r=false→nx≤n→Q' .ret e' h' n:=fun e' n h6 hc hn=>by
       refine hx _ _ _ _ (fun e=>by cases e) (fP ?_)
       rw[h6]
       refine⟨h,hs,kb hK ?_ hn⟩
       rw[← hr,hc]; rfl
      have hok:∀ (e':dL) n,e' 3=ptr nx→e' 4=ptr (nx+1)→e' 5=ptr (nx+2)→e' 44=ov→e' 45=.int .i64 m.ops.length→e' 46=.int .i64 ((k:Int)+1)→aJh R o r=true→nx≤n→Q' .normal e' h' n:=fun e' n f3 f4 f5 f44 f45 f46 hc hn =>
       hq (j - 1) _ _ _ _ (by omega) ⟨k+1,by omega,hn,rfl,f3,f4,f5,f44,f45,f46,by rw[← hr,hc]; rfl⟩ (aZ.refl _)
      unfold aJh at hfin hok
      (have zz:=And.intro oix o1;repeat refine zzCz ?_)
      refine dS (fun u1=>?_) (fun u1=>?_)
      ·(repeat refine zzC ?_)
       exact hfin _ _ rfl (by rw[decide_eq_false (by omega)]; rfl) (by omega)
      ·rw[decide_eq_true (by omega),Bool.true_and] at hfin hok
       (repeat refine zzC ?_)
       refine nH (fun u2=>?_) (fun u2=>?_)
       ·(repeat refine zzC ?_)
        exact hfin _ _ rfl (by rw[decide_eq_false (by omega)]; rfl) (by omega)
       ·rw[decide_eq_true (by omega),Bool.true_and] at hfin hok
        (repeat refine zzC ?_)
        refine uF (fun u3=>?_) (fun u3=>?_)
        ·rw[decide_eq_false (by omega),Bool.false_or] at hfin hok
         (have zz:=And.intro g1 (And.intro g2 (And.intro g3 (And.intro hsg (And.intro hix (And.intro hx4 (And.intro hx1 (And.intro rix rld)))))));repeat refine zzCz ?_)
         refine yO (by omega) hrv fun n9 hn9=>?_
         cases hcn:R.contains r with
         | true =>
          rw[hcn] at hok
          (repeat refine zzC ?_)
          exact hok _ _ e3 e4 e5 e44 e45 rfl rfl (by omega)
         | false =>
          rw[hcn] at hfin
          (repeat refine zzC ?_)
          exact hfin _ _ rfl rfl (by omega)
        ·rw[decide_eq_true (by omega),Bool.true_or] at hfin hok
         (repeat refine zzC ?_)
         exact hok _ _ e3 e4 e5 e44 e45 rfl rfl (by omega)
     ·(repeat refine zzC ?_)
      refine hx _ _ _ _ (fun e=>by cases e) (eE (dG ?_))
      unfold oJ
      rw[gG (by omega),aIl] at hr
      exact⟨h,hs,kb hK hr.symm (by omega)⟩
set_option maxRecDepth 8000 in
set_option maxHeartbeats 1000000 in
theorem aJt {ro:Ro}{c:List Nat}{n:Int}{cv sv lv rv uv nv ov:Value}{S:List StateD}{R:List Int}{m:MoveD} (hc:c.length=256) (hSl:S.length≤256) (hR:R.length≤3) (hmo:m.ops.length≤nJ) {h:T Obj}{nx:Nat}{K:KV} (hf:Fr h nx)
  (hS:iO ro h sv 4 (eT ro h) S) (hrv:ZI ro h rv R) (hov:iO ro h ov 1 RU8 m.ops) (hK:∀ nx',nx≤nx'→K (.bool (jC S R m)) h nx'):aO Tryz.prog ro aAS [.agg (eU c n cv sv).toArray,.agg #[lv,rv,uv,nv],.agg #[.int .i64 m.to,ov]] h nx K:=by
 apply aIG
 unfold aHM
 refine eZ hf (Nat.le_refl _) fun h1 hs1 hf1 g1 _=>?_
 refine eZ hf1 (Nat.le_refl _) fun h2 hs2 hf2 g2 _=>?_
 refine eZ hf2 (Nat.le_refl _) fun h3 hs3 hf3 g3 _=>?_
 have g1:h3.get nx=some (.cells (eU c n cv sv).toArray cD):=hs3 _ _ (hs2 _ _ g1)
 have g2:h3.get (nx+1)=some (.cells #[lv,rv,uv,nv] bG):=hs3 _ _ g2
 have g3:h3.get (nx+2)=some (.cells #[.int .i64 m.to,ov] bR):=g3
 have hs:=(hs1.trans hs2).trans hs3
 have hS:=hS.sub hs (eT.sub hs)
 have hrv:=hrv.sub hs
 have hov:=hov.sub hs fun _ _ h=>h
 have hsg:=jW (n:=n) (cv:=cv) (sv:=sv) hc
 have hol:=hov.len
 have hsl:=hS.len
 have hmb:m.ops.length≤9223372036854775807:=hmo
 have hno:∀ n,jC S R m=false→nx≤n→∃ h',aZ h' h3∧K (.bool false) h' n:=fun n e hn=>⟨h,hs,kb hK e hn⟩
 (have zz:=g3;repeat refine zzCz ?_)
 refine uY (fun ht=>?_) (fun ht=>?_)
 ·(have zz:=And.intro g3 hol;repeat refine zzCz ?_)
  refine aA (bD _ _ _) ?_
  refine⟨h,hs,kb hK ?_ (by omega)⟩
  unfold jC
  rw[if_pos ht,decide_eq_decide]
  omega
 ·unfold jC at hno hK
  rw[if_neg ht] at hno hK
  (have zz:=g3;repeat refine zzCz ?_)
  refine dS (fun h1=>?_) (fun h1=>?_)
  ·(repeat refine zzC ?_)
   exact hno _ (by rw[decide_eq_false (by omega)]; rfl) (by omega)
  ·rw[decide_eq_true h1,Bool.true_and] at hno hK
   (have zz:=And.intro g1 (And.intro g3 (And.intro hsg hsl));repeat refine zzCz ?_)
   refine yB (fun h2=>?_) (fun h2=>?_)
   ·(repeat refine zzC ?_)
    exact hno _ (by rw[decide_eq_false (by omega)]; rfl) (by omega)
   ·rw[decide_eq_true h2,Bool.true_and] at hno hK
    have hti:m.to.toNat < S.length:=by omega
    have hgd:S.getD m.to.toNat noS=S[m.to.toNat]:=by rw[List.getD_eq_getElem?_getD,List.getElem?_eq_getElem hti]; rfl
    rw[hgd] at hno hK
    have hix:=hS.ixI .i64 (i:=m.to) (by omega) h2
    obtain⟨x,⟨lv',rv',uv',nv',rfl,y1,y2,y3,y4,y5⟩,hx2,hx3,hx4,hx5⟩:=hS.at hti
    have hx1:=hx5 1 rv' rfl
    have hrl:=y2.len
    generalize S[m.to.toNat]=s at hno hK y1 y2 y3 y4 y5 hrl
    have y5:s.r.length≤9223372036854775807:=y5
    (have zz:=And.intro g1 (And.intro g3 (And.intro hsg (And.intro hol (And.intro hix (And.intro hx4 (And.intro hx1 hrl))))));repeat refine zzCz ?_)
    refine uF (fun u9=>?_) (fun u9=>?_)
    ·(repeat refine zzC ?_)
     exact hno _ (by rw[decide_eq_false (by omega)]; rfl) (by omega)
    ·have u9:m.ops.length=s.r.length:=by omega
     rw[decide_eq_true u9,Bool.true_and] at hno hK
     (have zz:=And.intro g3 hol;repeat refine zzCz ?_)
     generalize hB:aBb R m.ops s.r=B at hno hK
     refine bM (fun j e h' nx'=>∃ (k:Nat),k+j=m.ops.length∧nx≤nx'∧h'=h3∧e 3=ptr nx∧e 4=ptr (nx+1)∧e 5=ptr (nx+2)∧e 7=.int .i64 k∧aBb R (m.ops.drop k) (s.r.drop k)=B) ?_ (n:=m.ops.length) ⟨0,by omega,by omega,rfl,rfl,rfl,rfl,rfl,hB⟩
     rintro j e h' nx' ⟨k,hj,hnx,rfl,e3,e4,e5,e7,hr⟩ Q' hq hx
     unfold aCo
     rw[e3,e4,e5,e7]
     (have zz:=And.intro g3 hol;repeat refine zzCz ?_)
     refine dS (fun hk=>?_) (fun hk=>?_)
     ·have hk:k < m.ops.length:=by omega
      have hk2:k < s.r.length:=by omega
      rw[cU hk,cU hk2,aDW] at hr
      have oix:=hov.ix .i64 hk
      obtain⟨w,⟨ow,olt⟩,o1⟩:=hov.at1 hk
      simp only[List.cons.injEq,and_true] at ow
      subst ow
      have rix:=y2.ix .i64 hk2
      have rld:=y2.load hk2
      generalize m.ops[k]=o at hr o1 olt
      generalize s.r[k]=r at hr rld
      have hfin:∀ (e':dL) n,e' 6=.bool false→aJh R o r=false→nx≤n→Q' .ret e' h' n:=fun e' n h6 hc hn=>by
       refine hx _ _ _ _ (fun e=>by cases e) (fP ?_)
       rw[h6]
       refine⟨h,hs,kb hK ?_ hn⟩
       rw[← hr,hc]; rfl
      have hok:∀ (e':dL) n,e' 3=ptr nx→e' 4=ptr (nx+1)→e' 5=ptr (nx+2)→e' 7=.int .i64 ((k:Int)+1)→aJh R o r=true→nx≤n→Q' .normal e' h' n:=fun e' n f3 f4 f5 f7 hc hn =>
       hq (j - 1) _ _ _ _ (by omega) ⟨k+1,by omega,hn,rfl,f3,f4,f5,f7,by rw[← hr,hc]; rfl⟩ (aZ.refl _)
      unfold aJh at hfin hok
      (have zz:=And.intro g3 (And.intro oix o1);repeat refine zzCz ?_)
      refine dS (fun u1=>?_) (fun u1=>?_)
      ·(have zz:=And.intro g3 (And.intro oix o1);repeat refine zzCz ?_)
       exact hfin _ _ rfl (by rw[decide_eq_false (by omega)]; rfl) (by omega)
      ·rw[decide_eq_true (by omega),Bool.true_and] at hfin hok
       (have zz:=And.intro g3 (And.intro oix o1);repeat refine zzCz ?_)
       refine nH (fun u2=>?_) (fun u2=>?_)
       ·(have zz:=And.intro g3 (And.intro oix o1);repeat refine zzCz ?_)
        exact hfin _ _ rfl (by rw[decide_eq_false (by omega)]; rfl) (by omega)
       ·rw[decide_eq_true (by omega),Bool.true_and] at hfin hok
        (have zz:=And.intro g3 (And.intro oix o1);repeat refine zzCz ?_)
        refine uF (fun u3=>?_) (fun u3=>?_)
        ·rw[decide_eq_false (by omega),Bool.false_or] at hfin hok
         (have zz:=And.intro g1 (And.intro g2 (And.intro g3 (And.intro hsg (And.intro hix (And.intro hx4 (And.intro hx1 (And.intro rix rld)))))));repeat refine zzCz ?_)
         refine aNI (by omega) hrv fun n9 hn9=>?_
         cases hcn:R.contains r with
         | true =>
          rw[hcn] at hok
          (repeat refine zzC ?_)
          exact hok _ _ e3 e4 e5 rfl rfl (by omega)
         | false =>
          rw[hcn] at hfin
          (repeat refine zzC ?_)
          exact hfin _ _ rfl rfl (by omega)
        ·rw[decide_eq_true (by omega),Bool.true_or] at hfin hok
         (repeat refine zzC ?_)
         exact hok _ _ e3 e4 e5 rfl rfl (by omega)
     ·(repeat refine zzC ?_)
      refine hx _ _ _ _ (fun e=>by cases e) (eE (dG ?_))
      unfold zE
      rw[gG (by omega),aIl] at hr
      exact⟨h,hs,kb hK hr.symm (by omega)⟩
def aAp (S:List StateD) (R:List Int) (many ru:Int) (row:List MoveD):Bool:=decide (-1≤ru)&&(decide (ru < 512)&&(decide ((row.length:Int)=many)&&row.all (jC S R)))
def sI (S:List StateD) (R:List Int) (many:Int):List Int→List (List MoveD)→Bool
 | ru::rus,row::rows=>aAp S R many ru row&&sI S R many rus rows
 | _,_=>true
def iZ (S:List StateD) (many:Int) (cn:Nat) (s:StateD):Bool:=decide (mD s.r.length≠0)&&(decide ((s.rule.length:Int)=mD s.r.length)&&(decide ((s.next.length:Int)=mD s.r.length)&&(rz (-1) 512 s.l&&(rz (-1) cn s.r&&sI S s.r many s.rule s.next))))
theorem uG (S:List StateD) (R:List Int) (many ru:Int) (row:List MoveD) (rus:List Int) (rows:List (List MoveD)):sI S R many (ru::rus) (row::rows)=(aAp S R many ru row&&sI S R many rus rows):=rfl
theorem aAa (S:List StateD) (R:List Int) (many:Int) (l:List Int):sI S R many l []=true:=by cases l<;>rfl
theorem aEh {ro:Ro}{v f:Value}{D:Type}{l:List D}{R:List Value→D→Prop}{q:D→Bool} (hlen:l.length≤1000000) {h:T Obj}{nx:Nat}{K:KV} (hv:iO ro h v 2 R l)
  (hf:∀ (i:Nat) (hi:i < l.length) x n K',R x l[i]→nx≤n→(∀ n',n≤n'→K' (.bool (q l[i])) h n')→aBK (aO Tryz.prog ro) f [.agg x.toArray] h n K')
  (hK:∀ nx',nx≤nx'→K (.int .i64 (sU q 0 l)) h nx'):aO Tryz.prog ro gJ [v,f] h nx K:=by
 apply pM
 unfold kD
 generalize hR:sU q 0 l=r at hK
 refine aA hv.len ?_
 refine bM (fun j e h' nx'=>∃ (k:Nat),k+j=l.length∧nx≤nx'∧h'=h∧e 0=v∧e 1=f∧e 7=.int .i64 l.length∧e 8=.int .i64 k∧sU q k (l.drop k)=r) ?_ (n:=l.length) ⟨0,by omega,by omega,rfl,rfl,rfl,rfl,rfl,hR⟩
 rintro j e h' nx' ⟨k,hj,hnx,rfl,e0,e1,e7,e8,hr⟩ Q' hq hx
 unfold jH
 rw[e0,e1,e7,e8]
 refine dS (fun hk=>?_) (fun hk=>?_)
 ·have hk:k < l.length:=by omega
  rw[cU hk,qK] at hr
  obtain⟨x,hx1,hx2,hx3,hx4,hx5⟩:=hv.at hk
  (repeat refine zzC ?_)
  refine aA (hv.ix _ hk) (aA hx3 ?_)
  refine hf k hk x _ _ hx1 (by omega) fun n hn=>?_
  cases hc:q l[k] with
  | true =>
   rw[hc,if_pos rfl] at hr
   (repeat refine zzC ?_)
   refine hx _ _ _ _ (fun e=>by cases e) (fP ?_)
   exact⟨_,aZ.refl _,ki hK hr.symm (by omega)⟩
  | false =>
   rw[hc,if_neg (by decide)] at hr
   (repeat refine zzC ?_)
   exact hq (j - 1) _ _ _ _ (by omega) ⟨k+1,by omega,by omega,rfl,e0,e1,e7,rfl,hr⟩ (aZ.refl _)
 ·(repeat refine zzC ?_)
  refine hx _ _ _ _ (fun e=>by cases e) (eE (dG ?_))
  unfold gE
  rw[gG (by omega)] at hr
  exact⟨_,aZ.refl _,ki hK hr.symm (by omega)⟩
theorem aC2 {ro:Ro}{v f:Value}{D:Type}{l:List D}{R:List Value→D→Prop}{q:D→Bool} (hlen:l.length≤1000000) {h:T Obj}{nx:Nat}{K:KV} (hv:iO ro h v 2 R l)
  (hf:∀ (i:Nat) (hi:i < l.length) x n K',R x l[i]→nx≤n→(∀ n',n≤n'→K' (.bool (q l[i])) h n')→aBK (aO Tryz.prog ro) f [.agg x.toArray] h n K')
  (hK:∀ nx',nx≤nx'→K (.bool (l.any q)) h nx'):aO Tryz.prog ro fU [v,f] h nx K:=by
 apply nY
 unfold jG
 refine aEh hlen hv (fun i hi x n K' hx hn hk=>hf i hi x n K' hx (by omega) hk) fun n hn=>?_
 rw[← aCQ q l 0 (by omega)] at hK
 (first | refine dS (fun hb=>?_) (fun hb=>?_) | refine aGn (fun hb=>?_) (fun hb=>?_) | refine nH (fun hb=>?_) (fun hb=>?_) | refine yB (fun hb=>?_) (fun hb=>?_) | refine uY (fun hb=>?_) (fun hb=>?_) | refine uF (fun hb=>?_) (fun hb=>?_))
 ·exact⟨_,aZ.refl _,kb hK (decide_eq_true hb) (by omega)⟩
 ·exact⟨_,aZ.refl _,kb hK (decide_eq_false (by omega)) (by omega)⟩
theorem aEX {ro:Ro}{v f:Value}{D:Type}{l:List D}{R:List Value→D→Prop}{q:D→Bool} (hlen:l.length≤1000000) {h:T Obj}{nx:Nat}{K:KV} (hv:iO ro h v 4 R l)
  (hf:∀ (i:Nat) (hi:i < l.length) x n K',R x l[i]→nx≤n→(∀ n',n≤n'→K' (.bool (q l[i])) h n')→aBK (aO Tryz.prog ro) f [.agg x.toArray] h n K')
  (hK:∀ nx',nx≤nx'→K (.int .i64 (sU q 0 l)) h nx'):aO Tryz.prog ro gB [v,f] h nx K:=by
 apply oF
 unfold jP
 generalize hR:sU q 0 l=r at hK
 refine aA hv.len ?_
 refine bM (fun j e h' nx'=>∃ (k:Nat),k+j=l.length∧nx≤nx'∧h'=h∧e 0=v∧e 1=f∧e 7=.int .i64 l.length∧e 8=.int .i64 k∧sU q k (l.drop k)=r) ?_ (n:=l.length) ⟨0,by omega,by omega,rfl,rfl,rfl,rfl,rfl,hR⟩
 rintro j e h' nx' ⟨k,hj,hnx,rfl,e0,e1,e7,e8,hr⟩ Q' hq hx
 unfold iW
 rw[e0,e1,e7,e8]
 refine dS (fun hk=>?_) (fun hk=>?_)
 ·have hk:k < l.length:=by omega
  rw[cU hk,qK] at hr
  obtain⟨x,hx1,hx2,hx3,hx4,hx5⟩:=hv.at hk
  (repeat refine zzC ?_)
  refine aA (hv.ix _ hk) (aA hx3 ?_)
  refine hf k hk x _ _ hx1 (by omega) fun n hn=>?_
  cases hc:q l[k] with
  | true =>
   rw[hc,if_pos rfl] at hr
   (repeat refine zzC ?_)
   refine hx _ _ _ _ (fun e=>by cases e) (fP ?_)
   exact⟨_,aZ.refl _,ki hK hr.symm (by omega)⟩
  | false =>
   rw[hc,if_neg (by decide)] at hr
   (repeat refine zzC ?_)
   exact hq (j - 1) _ _ _ _ (by omega) ⟨k+1,by omega,by omega,rfl,e0,e1,e7,rfl,hr⟩ (aZ.refl _)
 ·(repeat refine zzC ?_)
  refine hx _ _ _ _ (fun e=>by cases e) (eE (dG ?_))
  unfold fW
  rw[gG (by omega)] at hr
  exact⟨_,aZ.refl _,ki hK hr.symm (by omega)⟩
theorem uP {ro:Ro}{v f:Value}{D:Type}{l:List D}{R:List Value→D→Prop}{q:D→Bool} (hlen:l.length≤1000000) {h:T Obj}{nx:Nat}{K:KV} (hv:iO ro h v 4 R l)
  (hf:∀ (i:Nat) (hi:i < l.length) x n K',R x l[i]→nx≤n→(∀ n',n≤n'→K' (.bool (q l[i])) h n')→aBK (aO Tryz.prog ro) f [.agg x.toArray] h n K')
  (hK:∀ nx',nx≤nx'→K (.bool (l.any q)) h nx'):aO Tryz.prog ro eP [v,f] h nx K:=by
 apply nB
 unfold iU
 refine aEX hlen hv (fun i hi x n K' hx hn hk=>hf i hi x n K' hx (by omega) hk) fun n hn=>?_
 rw[← aCQ q l 0 (by omega)] at hK
 (first | refine dS (fun hb=>?_) (fun hb=>?_) | refine aGn (fun hb=>?_) (fun hb=>?_) | refine nH (fun hb=>?_) (fun hb=>?_) | refine yB (fun hb=>?_) (fun hb=>?_) | refine uY (fun hb=>?_) (fun hb=>?_) | refine uF (fun hb=>?_) (fun hb=>?_))
 ·exact⟨_,aZ.refl _,kb hK (decide_eq_true hb) (by omega)⟩
 ·exact⟨_,aZ.refl _,kb hK (decide_eq_false (by omega)) (by omega)⟩
set_option maxRecDepth 8000 in
theorem aDf {ro:Ro}{c:List Nat}{n:Int}{cv sv lv rv uv nv ov:Value}{S:List StateD}{R:List Int}{m:MoveD}{i1 i2:Nat} (hc:c.length=256) (hSl:S.length≤256) (hR:R.length≤3) (hmo:m.ops.length≤nJ) {h:T Obj}{nx:Nat}{K:KV} (hf:Fr h nx)
  (g1:h.get i1=some (.cells (eU c n cv sv).toArray eX)) (g2:h.get i2=some (.cells #[lv,rv,uv,nv] bG)) (hS:iO ro h sv 4 (eT ro h) S) (hrv:ZI ro h rv R) (hov:iO ro h ov 1 RU8 m.ops) (hK:∀ nx',nx≤nx'→K (.bool (!jC S R m)) h nx'):aO Tryz.prog ro gW [.agg #[.int .i64 m.to,ov],ptr i1,ptr i2] h nx K:=by
 apply zM
 unfold t6
 refine eZ hf (Nat.le_refl _) fun h1 hs1 hf1 g3 _=>?_
 have g3:h1.get nx=some (.cells #[.int .i64 m.to,ov] bR):=g3
 refine aA (dW (hs1 _ _ g1) (d5 hc)) ?_
 refine aA (dW (l:=[lv,rv,uv,nv]) (hs1 _ _ g2) rfl) ?_
 refine aA (dW (l:=[.int .i64 m.to,ov]) g3 rfl) ?_
 refine aGS hc hSl hR hmo (hf1.mono (by omega)) (hS.sub hs1 (eT.sub hs1)) (hrv.sub hs1) (hov.sub hs1 fun _ _ h=>h) fun n hn=>?_
 (repeat refine zzC ?_)
 exact⟨h,hs1,hK _ (by omega)⟩
set_option maxRecDepth 8000 in
set_option maxHeartbeats 1000000 in
theorem aFb {ro:Ro}{c:List Nat}{n:Int}{cv sv lv rv uv nv:Value}{S:List StateD}{C:List (Int × Int)}{s:StateD} (hc:c.length=256) (hn:n≤256) (hSl:S.length≤256) (hC:C.length≤512) (hsr:s.r.length≤nJ) {h:T Obj}{nx:Nat}{K:KV} (hf:Fr h nx)
  (hcv:iO ro h cv 2 aAG C) (hS:iO ro h sv 4 (eT ro h) S) (h1:ZI ro h lv s.l) (h2:ZI ro h rv s.r) (h3:ZI ro h uv s.rule) (h4:iO ro h nv 1 (vC ro h) s.next)
  (hK:∀ nx',nx≤nx'→K (.bool (iZ S n C.length s)) h nx'):aO Tryz.prog ro oR [.agg (eU c n cv sv).toArray,.agg #[lv,rv,uv,nv]] h nx K:=by
 apply aAq
 unfold wG
 refine eZ hf (Nat.le_refl _) fun p1 hs1 hf1 g1 _=>?_
 refine eZ hf1 (Nat.le_refl _) fun p2 hs2 hf2 g2 _=>?_
 have g1:p2.get nx=some (.cells (eU c n cv sv).toArray eX):=hs2 _ _ g1
 have g2:p2.get (nx+1)=some (.cells #[lv,rv,uv,nv] bG):=g2
 have hs:=hs1.trans hs2
 have hS:=hS.sub hs (eT.sub hs)
 have hcv:=hcv.sub hs fun _ _ h=>h
 have h1:=h1.sub hs
 have h2:=h2.sub hs
 have h3:=h3.sub hs
 have h4:=h4.sub hs (vC.sub hs)
 have hsg:=jW (n:=n) (cv:=cv) (sv:=sv) hc
 have hcg:=mQ (n:=n) (cv:=cv) (sv:=sv) hc
 have hmg:=aIU (n:=n) (cv:=cv) (sv:=sv) hc
 have l1:=h1.len
 have l2:=h2.len
 have l3:=h3.len
 have l4:=h4.len
 have lc:=hcv.len
 have hno:∀ n',iZ S n C.length s=false→nx≤n'→∃ h',aZ h' p2∧K (.bool false) h' n':=fun n' e hn=>⟨h,hs,kb hK e hn⟩
 unfold iZ at hno hK
 (have zz:=And.intro g2 l2;repeat refine zzCz ?_)
 refine aJJ fun n1 hn1=>?_
 have hcl:=aBO s.r.length
 have hcf:=aE6 (m:=s.r.length)
 generalize mD s.r.length=cd at hno hK hcl hcf
 refine uY (fun u1=>?_) (fun u1=>?_)
 ·(repeat refine zzC ?_)
  exact hno _ (by rw[decide_eq_false (by omega)]; rfl) (by omega)
 ·rw[decide_eq_true u1,Bool.true_and] at hno hK
  have hcf:=hcf u1
  (have zz:=And.intro g2 l3;repeat refine zzCz ?_)
  refine uF (fun u2=>?_) (fun u2=>?_)
  ·(repeat refine zzC ?_)
   exact hno _ (by rw[decide_eq_false (by omega)]; rfl) (by omega)
  ·rw[decide_eq_true u2,Bool.true_and] at hno hK
   (have zz:=And.intro g2 l4;repeat refine zzCz ?_)
   refine uF (fun u3=>?_) (fun u3=>?_)
   ·(repeat refine zzC ?_)
    exact hno _ (by rw[decide_eq_false (by omega)]; rfl) (by omega)
   ·rw[decide_eq_true u3,Bool.true_and] at hno hK
    (have zz:=g2;repeat refine zzCz ?_)
    refine aDd (by omega) h1 fun n2 hn2=>?_
    cases u4:rz (-1) 512 s.l with
    | false =>
     (repeat refine zzC ?_)
     exact hno _ (by rw[u4]; rfl) (by omega)
    | true =>
     rw[u4,Bool.true_and] at hno hK
     (have zz:=And.intro g1 (And.intro g2 (And.intro hcg lc));repeat refine zzCz ?_)
     refine aDd (by omega) h2 fun n3 hn3=>?_
     cases u5:rz (-1) C.length s.r with
     | false =>
      (repeat refine zzC ?_)
      exact hno _ (by rw[u5]; rfl) (by omega)
     | true =>
      rw[u5,Bool.true_and] at hno hK
      (have zz:=And.intro g2 l4;repeat refine zzCz ?_)
      generalize hB:sI S s.r n s.rule s.next=B at hno hK
      refine bM (fun j e h' nx'=>∃ (k:Nat),k+j=s.next.length∧n3≤nx'∧h'=p2∧e 2=ptr nx∧e 3=ptr (nx+1)∧e 45=nv∧e 46=.int .i64 s.next.length∧e 47=.int .i64 k∧sI S s.r n (s.rule.drop k) (s.next.drop k)=B) ?_ (n:=s.next.length) ⟨0,by omega,by omega,rfl,rfl,rfl,rfl,rfl,rfl,hB⟩
      rintro j e h' nx' ⟨k,hj,hnx,rfl,e2,e3,e45,e46,e47,hr⟩ Q' hq hx
      unfold sS
      rw[e2,e3,e45,e46,e47]
      refine dS (fun hk=>?_) (fun hk=>?_)
      ·have hk:k < s.next.length:=by omega
       have hk2:k < s.rule.length:=by omega
       rw[cU hk,cU hk2,uG] at hr
       have nix:=h4.ix .i64 hk
       obtain⟨w,⟨w',ow,orow,olen⟩,o1⟩:=h4.at1 hk
       simp only[List.cons.injEq,and_true] at ow
       subst ow
       have uix:=h3.ix .i64 hk2
       have uld:=h3.load hk2
       generalize s.next[k]=row at hr o1 orow olen
       generalize s.rule[k]=ru at hr uld
       have rl:=orow.len
       have hfin:∀ (e':dL) n',e' 4=.bool false→aAp S s.r n ru row=false→nx≤n'→Q' .ret e' h' n':=fun e' n' h6 hc hn=>by
        refine hx _ _ _ _ (fun e=>by cases e) (fP ?_)
        rw[h6]
        refine⟨h,hs,kb hK ?_ hn⟩
        rw[← hr,hc]; rfl
       have hok:∀ (e':dL) n',e' 2=ptr nx→e' 3=ptr (nx+1)→e' 45=nv→e' 46=.int .i64 s.next.length→e' 47=.int .i64 ((k:Int)+1)→aAp S s.r n ru row=true→n3≤n'→Q' .normal e' h' n':=fun e' n' f2 f3 f45 f46 f47 hc hn =>
        hq (j - 1) _ _ _ _ (by omega) ⟨k+1,by omega,hn,rfl,f2,f3,f45,f46,f47,by rw[← hr,hc]; rfl⟩ (aZ.refl _)
       unfold aAp at hfin hok
       (have zz:=And.intro g2 (And.intro nix (And.intro o1 (And.intro uix uld)));repeat refine zzCz ?_)
       refine dS (fun v1=>?_) (fun v1=>?_)
       ·(repeat refine zzC ?_)
        exact hfin _ _ rfl (by rw[decide_eq_false (by omega)]; rfl) (by omega)
       ·rw[decide_eq_true v1,Bool.true_and] at hfin hok
        (have zz:=And.intro g2 (And.intro uix uld);repeat refine zzCz ?_)
        refine yB (fun v2=>?_) (fun v2=>?_)
        ·(repeat refine zzC ?_)
         exact hfin _ _ rfl (by rw[decide_eq_false (by omega)]; rfl) (by omega)
        ·rw[decide_eq_true v2,Bool.true_and] at hfin hok
         (have zz:=And.intro g1 (And.intro rl hmg);repeat refine zzCz ?_)
         refine uF (fun v3=>?_) (fun v3=>?_)
         ·(repeat refine zzC ?_)
          exact hfin _ _ rfl (by rw[decide_eq_false (by omega)]; rfl) (by omega)
         ·rw[decide_eq_true (by omega),Bool.true_and] at hfin hok
          (repeat refine zzC ?_)
          refine aC2 (q:=fun m=>!jC S s.r m) (by omega) orow (fun i hi x n' K' hx hn' hk'=>?_) fun n' hn'=>?_
          ·obtain⟨ov,rfl,y1,y2⟩:=hx
           exact aDf hc hSl (by omega) y2 (hf2.mono (by omega)) g1 g2 hS h2 y1 hk'
          ·rw[← aJG] at hfin hok
           cases hany:row.any fun m=>!jC S s.r m with
           | true =>
            rw[hany] at hfin
            (repeat refine zzC ?_)
            exact hfin _ _ rfl rfl (by omega)
           | false =>
            rw[hany] at hok
            (repeat refine zzC ?_)
            exact hok _ _ e2 e3 e45 e46 rfl rfl (by omega)
      ·(repeat refine zzC ?_)
       refine hx _ _ _ _ (fun e=>by cases e) (eE (dG ?_))
       unfold nR
       rw[gG (l:=s.next) (by omega),aAa] at hr
       exact⟨h,hs,kb hK hr.symm (by omega)⟩
set_option maxRecDepth 8000 in
set_option maxHeartbeats 2000000 in
theorem aIH {ro:Ro}{c:List Nat}{n:Int}{cv sv lv rv uv nv:Value}{S:List StateD}{C:List (Int × Int)}{s:StateD} (hc:c.length=256) (hn:n≤256) (hSl:S.length≤256) (hC:C.length≤512) (hsr:s.r.length≤nJ) {h:T Obj}{nx:Nat}{K:KV} (hf:Fr h nx)
  (hcv:iO ro h cv 2 aAG C) (hS:iO ro h sv 4 (eT ro h) S) (h1:ZI ro h lv s.l) (h2:ZI ro h rv s.r) (h3:ZI ro h uv s.rule) (h4:iO ro h nv 1 (vC ro h) s.next)
  (hK:∀ nx',nx≤nx'→K (.bool (iZ S n C.length s)) h nx'):aO Tryz.prog ro y8 [.agg (eU c n cv sv).toArray,.agg #[lv,rv,uv,nv]] h nx K:=by
 apply aHO
 unfold aF0
 refine eZ hf (Nat.le_refl _) fun p1 hs1 hf1 g1 _=>?_
 refine eZ hf1 (Nat.le_refl _) fun p2 hs2 hf2 g2 _=>?_
 have g1:p2.get nx=some (.cells (eU c n cv sv).toArray cD):=hs2 _ _ g1
 have g2:p2.get (nx+1)=some (.cells #[lv,rv,uv,nv] bG):=g2
 have hs:=hs1.trans hs2
 have hS:=hS.sub hs (eT.sub hs)
 have hcv:=hcv.sub hs fun _ _ h=>h
 have h1:=h1.sub hs
 have h2:=h2.sub hs
 have h3:=h3.sub hs
 have h4:=h4.sub hs (vC.sub hs)
 have hsg:=jW (n:=n) (cv:=cv) (sv:=sv) hc
 have hcg:=mQ (n:=n) (cv:=cv) (sv:=sv) hc
 have hmg:=aIU (n:=n) (cv:=cv) (sv:=sv) hc
 have LA:=dW (ro:=ro) (z:=0) (n:=259) (l:=eU c n cv sv) g1 (d5 hc)
 have LS:=dW (ro:=ro) (z:=0) (n:=4) (l:=[lv,rv,uv,nv]) g2 rfl
 have l1:=h1.len
 have l2:=h2.len
 have l3:=h3.len
 have l4:=h4.len
 have lc:=hcv.len
 have hno:∀ n',iZ S n C.length s=false→nx≤n'→∃ h',aZ h' p2∧K (.bool false) h' n':=fun n' e hn=>⟨h,hs,kb hK e hn⟩
 unfold iZ at hno hK
 (have zz:=And.intro g2 l2;repeat refine zzCz ?_)
 refine aIF fun n1 hn1=>?_
 have hcl:=aBO s.r.length
 have hcf:=aE6 (m:=s.r.length)
 generalize mD s.r.length=cd at hno hK hcl hcf
 refine uY (fun u1=>?_) (fun u1=>?_)
 ·(repeat refine zzC ?_)
  exact hno _ (by rw[decide_eq_false (by omega)]; rfl) (by omega)
 ·rw[decide_eq_true u1,Bool.true_and] at hno hK
  have hcf:=hcf u1
  (have zz:=g2;repeat refine zzCz ?_)
  refine aCp (by omega) h1 fun n2 hn2=>?_
  cases u4:rz (-1) 512 s.l with
  | false =>
   (repeat refine zzC ?_)
   exact hno _ (by rw[u4]; simp) (by omega)
  | true =>
   rw[u4,Bool.true_and] at hno hK
   (have zz:=And.intro g1 (And.intro g2 (And.intro hcg lc));repeat refine zzCz ?_)
   refine aCp (by omega) h2 fun n3 hn3=>?_
   cases u5:rz (-1) C.length s.r with
   | false =>
    (repeat refine zzC ?_)
    exact hno _ (by rw[u5]; simp) (by omega)
   | true =>
    rw[u5,Bool.true_and] at hno hK
    (have zz:=And.intro g2 l3;repeat refine zzCz ?_)
    refine uF (fun u2=>?_) (fun u2=>?_)
    ·(repeat refine zzC ?_)
     exact hno _ (by rw[decide_eq_false (by omega)]; rfl) (by omega)
    ·rw[decide_eq_true u2,Bool.true_and] at hno hK
     (have zz:=And.intro g2 l4;repeat refine zzCz ?_)
     refine uF (fun u3=>?_) (fun u3=>?_)
     ·(repeat refine zzC ?_)
      exact hno _ (by rw[decide_eq_false (by omega)]; rfl) (by omega)
     ·rw[decide_eq_true u3,Bool.true_and] at hno hK
      (repeat refine zzC ?_)
      generalize hB:sI S s.r n s.rule s.next=B at hno hK
      refine bM (fun j e h' nx'=>∃ (k:Nat),k+j=s.next.length∧n3≤nx'∧h'=p2∧e 2=ptr nx∧e 3=ptr (nx+1)∧e 5=.int .i64 cd∧e 6=.int .i64 k∧sI S s.r n (s.rule.drop k) (s.next.drop k)=B) ?_ (n:=s.next.length) ⟨0,by omega,by omega,rfl,rfl,rfl,rfl,rfl,hB⟩
      rintro j e h' nx' ⟨k,hj,hnx,rfl,e2,e3,e5,e6,hr⟩ Q' hq hx
      unfold aBn
      rw[e2,e3,e5,e6]
      refine dS (fun hk=>?_) (fun hk=>?_)
      ·have hk:k < s.next.length:=by omega
       have hk2:k < s.rule.length:=by omega
       rw[cU hk,cU hk2,uG] at hr
       have nix:=h4.ix .i64 hk
       obtain⟨w,⟨w',ow,orow,olen⟩,o1⟩:=h4.at1 hk
       simp only[List.cons.injEq,and_true] at ow
       subst ow
       have uix:=h3.ix .i64 hk2
       have uld:=h3.load hk2
       generalize s.next[k]=row at hr o1 orow olen
       generalize s.rule[k]=ru at hr uld
       have rl:=orow.len
       have hfin:∀ (e':dL) n',e' 4=.bool false→aAp S s.r n ru row=false→nx≤n'→Q' .ret e' h' n':=fun e' n' h6 hc hn=>by
        refine hx _ _ _ _ (fun e=>by cases e) (fP ?_)
        rw[h6]
        refine⟨h,hs,kb hK ?_ hn⟩
        rw[← hr,hc]; rfl
       have hok:∀ (e':dL) n',e' 2=ptr nx→e' 3=ptr (nx+1)→e' 5=.int .i64 cd→e' 6=.int .i64 ((k:Int)+1)→aAp S s.r n ru row=true→n3≤n'→Q' .normal e' h' n':=fun e' n' f2 f3 f5 f6 hc hn =>
        hq (j - 1) _ _ _ _ (by omega) ⟨k+1,by omega,hn,rfl,f2,f3,f5,f6,by rw[← hr,hc]; rfl⟩ (aZ.refl _)
       unfold aAp at hfin hok
       (have zz:=And.intro g2 (And.intro uix uld);repeat refine zzCz ?_)
       refine dS (fun v1=>?_) (fun v1=>?_)
       ·(repeat refine zzC ?_)
        exact hfin _ _ rfl (by rw[decide_eq_false (by omega)]; rfl) (by omega)
       ·rw[decide_eq_true v1,Bool.true_and] at hfin hok
        (have zz:=And.intro g2 (And.intro uix uld);repeat refine zzCz ?_)
        refine yB (fun v2=>?_) (fun v2=>?_)
        ·(repeat refine zzC ?_)
         exact hfin _ _ rfl (by rw[decide_eq_false (by omega)]; rfl) (by omega)
        ·rw[decide_eq_true v2,Bool.true_and] at hfin hok
         (have zz:=And.intro g1 (And.intro g2 (And.intro nix (And.intro o1 (And.intro rl hmg))));repeat refine zzCz ?_)
         refine uF (fun v3=>?_) (fun v3=>?_)
         ·(repeat refine zzC ?_)
          exact hfin _ _ rfl (by rw[decide_eq_false (by omega)]; rfl) (by omega)
         ·rw[decide_eq_true (by omega),Bool.true_and] at hfin hok
          (repeat refine zzC ?_)
          generalize hA:row.all (jC S s.r)=A at hfin hok
          refine bM (fun j e h'' nx'=>∃ (q:Nat),q+j=row.length∧n3≤nx'∧h''=h'∧e 2=ptr nx∧e 3=ptr (nx+1)∧e 5=.int .i64 cd∧e 6=.int .i64 k∧e 7=.int .i64 q∧(row.drop q).all (jC S s.r)=A) ?_ (n:=row.length) ⟨0,by omega,by omega,rfl,e2,e3,e5,e6,rfl,hA⟩
          rintro j2 e' h'' nx2 ⟨q,hj2,hnx2,rfl,f2,f3,f5,f6,f7,hr2⟩ Q2 hq2 hx
          unfold aBo
          rw[f2,f3,f6,f7]
          (have zz:=And.intro g2 (And.intro nix (And.intro o1 rl));repeat refine zzCz ?_)
          refine dS (fun hk3=>?_) (fun hk3=>?_)
          ·have hk3:q < row.length:=by omega
           rw[cU hk3,List.all_cons] at hr2
           have qix:=orow.ix .i64 hk3
           obtain⟨x,⟨ov,rfl,y1,y2⟩,hx2,hx3,hx4,hx5⟩:=orow.at hk3
           generalize row[q]=m at hr2 y1 y2 hx3 hx5
           (have zz:=And.intro LA (And.intro LS (And.intro g2 (And.intro nix (And.intro o1 (And.intro qix hx3)))));repeat refine zzCz ?_)
           refine aJt hc hSl (by omega) y2 (hf2.mono (by omega)) hS h2 y1 fun n4 hn4=>?_
           cases hm:jC S s.r m with
           | true =>
            rw[hm,Bool.true_and] at hr2
            have hok2:∀ (e':dL) n',e' 2=ptr nx→e' 3=ptr (nx+1)→e' 5=.int .i64 cd→e' 6=.int .i64 k→e' 7=.int .i64 ((q:Int)+1)→n3≤n'→Q2 .normal e' h'' n':=fun e' n' z2 z3 z5 z6 z7 hn =>
             hq2 (j2 - 1) _ _ _ _ (by omega) ⟨q+1,by omega,hn,rfl,z2,z3,z5,z6,z7,hr2⟩ (aZ.refl _)
            (repeat refine zzC ?_)
            exact hok2 _ _ f2 f3 f5 f6 rfl (by omega)
           | false =>
            rw[hm,Bool.false_and] at hr2
            subst hr2
            (repeat refine zzC ?_)
            refine hx _ _ _ _ (fun e=>by cases e) (fP ?_)
            exact hfin _ _ rfl rfl (by omega)
          ·rw[gG (by omega)] at hr2
           have hr2:true=A:=hr2
           subst hr2
           (repeat refine zzC ?_)
           refine hx _ _ _ _ (fun e=>by cases e) (eE (dG ?_))
           have hend:∀ (e':dL) n',e' 2=ptr nx→e' 3=ptr (nx+1)→e' 5=.int .i64 cd→e' 6=.int .i64 k→n3≤n'→o8 ro Q' e' h'' n':=fun e' n' z2 z3 z5 z6 hn=>by
            unfold o8
            rw[z6]
            (repeat refine zzC ?_)
            exact hok _ _ z2 z3 z5 rfl rfl (by omega)
           exact hend _ _ f2 f3 f5 f6 (by omega)
      ·(repeat refine zzC ?_)
       refine hx _ _ _ _ (fun e=>by cases e) (eE (dG ?_))
       unfold xF
       rw[gG (l:=s.next) (by omega),aAa] at hr
       exact⟨h,hs,kb hK hr.symm (by omega)⟩
theorem iO.okC {D:Type}{ro:Ro}{h:T Obj}{v:Value}{z:Nat}{R:List Value→D→Prop}{l:List D} (hl:iO ro h v z R l):eA v=true:=by obtain⟨cs,h9,_⟩:=hl; exact h9.ok
def qD (p:Int × Int):Bool:=decide (1≤p.1)&&(decide (p.1≤p.2)&&(decide (2≤p.2)&&decide (p.2≤4096)))
def aCR (S:List StateD):Bool:=decide ((S.getD 0 noS).l.length=0)&&decide ((S.getD 0 noS).r.length=0)
def fF (d:AutoD):Bool:=sH d.c d.many&&(decide (d.counts.length≤512)&&(decide (1≤d.states.length)&&(decide (d.states.length≤256)&&(aCR d.states&&(d.counts.all qD&&d.states.all (iZ d.states d.many d.counts.length))))))
theorem aDZ {c:List Nat}{n:Int} (h:sH c n=true):n≤256:=by
 unfold sH at h
 split at h
 ·rename_i m hm
  have:=aOE hm
  simp only[decide_eq_true_eq] at h
  omega
 ·cases h
theorem aOH:∀ {l:List Int}{a m:Int},rz a m l=true→(l.length:Int)≤max 0 (m - a - 1)
 | [],a,m,_=>by simp only[List.length_nil]; omega
 | x::r,a,m,h=>by
  rw[aFz] at h
  simp only[Bool.and_eq_true,decide_eq_true_eq] at h
  have:=aOH h.2.2
  rw[List.length_cons]
  omega
theorem aIy {S:List StateD}{n:Int}{cn:Nat}{s:StateD} (h:iZ S n cn s=true):s.l.length≤512∧s.r.length≤3:=by
 unfold iZ at h
 simp only[Bool.and_eq_true,decide_eq_true_eq] at h
 have h1:=aOH h.2.2.2.1
 have h2:=aE6 h.1
 omega
theorem aT5 {a b:Nat} (h:wr .i64 ((a:Int)+b)≤0):a+b=0∨9223372036854775807 < a+b:=by
 rcases Nat.lt_or_ge 9223372036854775807 (a+b) with h1 | h1
 ·exact .inr h1
 ·rw[dT (by omega) (by omega)] at h
  exact .inl (by omega)
theorem aSW {a b:Nat} (h:0 < wr .i64 ((a:Int)+b)):a≠0∨b≠0:=by
 rcases Nat.eq_zero_or_pos (a+b) with h1 | h1
 ·rw[show (a:Int)+b=0 by omega] at h
  exact absurd h (by decide)
 ·omega
theorem aHm {c:List Nat}{n:Int}{cv sv:Value} (hc:c.length=256):fG Tryz.prog eX [(0,.agg (eU c n cv sv).toArray)]=some (.agg (eU c n cv sv).toArray):=by
 have h1:((nF Tryz.prog eX).bind fun z=>match z with
  | .agg a=>if a.size=259 then some true else none
  | _=>none)=some true:=by kernel_rfl
 have h2:((iM Tryz.prog eX).bind fun d=>match d with
  | .struct fs=>rV Tryz.prog fs.toList
  | _=>none)=some [(0,259)]:=by kernel_rfl
 obtain⟨z,h1,h4⟩:=aP h1
 cases z<;>try (cases h4; done)
 rename_i z
 simp only at h4
 split at h4
 ·rename_i h5
  obtain⟨d,h2,h3⟩:=aP h2
  cases d<;>try (cases h3; done)
  rename_i fs
  simp only at h3
  unfold fG
  rw[h1]
  simp only[Option.bind,h2,h3]
  have hl:=d5 (n:=n) (cv:=cv) (sv:=sv) hc
  have hz:z.toList.length=259:=by simpa using h5
  have e1:Nat.beq (eU c n cv sv).toArray.size 259=true:=by simp[hl]
  have e2:Nat.ble (0+259) z.toList.length=true:=by rw[hz]; rfl
  simp only[qX,List.getElem?_cons_zero,Option.bind,Value.cells_agg,e1,e2]
  rw[aL3 (by rw[hz]; simpa using hl)]
 ·cases h4
theorem aM0:∃ z,nF Tryz.prog eX=some z∧z.cells.size=259:=by
 have h1:((nF Tryz.prog eX).bind fun z=>if z.cells.size=259 then some true else none)=some true:=by kernel_rfl
 obtain⟨z,h1,h4⟩:=aP h1
 split at h4
 ·exact⟨z,h1,by assumption⟩
 ·cases h4
theorem aKQ:nF Tryz.prog iN=some (.agg #[.int .i64 0,.int .i64 0]):=by kernel_rfl
set_option maxRecDepth 8000 in
theorem aGJ {ro:Ro}{c:List Nat}{n:Int}{cv sv lv rv uv nv:Value}{S:List StateD}{C:List (Int × Int)}{s:StateD}{i1:Nat} (hc:c.length=256) (hn:n≤256) (hSl:S.length≤256) (hC:C.length≤512) (hsr:s.r.length≤nJ) {h:T Obj}{nx:Nat}{K:KV} (hf:Fr h nx)
  (g1:h.get i1=some (.cells (eU c n cv sv).toArray eX)) (hcv:iO ro h cv 2 aAG C) (hS:iO ro h sv 4 (eT ro h) S) (h1:ZI ro h lv s.l) (h2:ZI ro h rv s.r) (h3:ZI ro h uv s.rule) (h4:iO ro h nv 1 (vC ro h) s.next)
  (hK:∀ nx',nx≤nx'→K (.bool (!iZ S n C.length s)) h nx'):aO Tryz.prog ro wQ [.agg #[lv,rv,uv,nv],ptr i1] h nx K:=by
 apply aFa
 unfold aDb
 refine eZ hf (Nat.le_refl _) fun p1 hs1 hf1 g3 _=>?_
 have g3:p1.get nx=some (.cells #[lv,rv,uv,nv] bG):=g3
 refine aA (dW (hs1 _ _ g1) (d5 hc)) ?_
 refine aA (dW (l:=[lv,rv,uv,nv]) g3 rfl) ?_
 refine aFb hc hn hSl hC hsr (hf1.mono (by omega)) (hcv.sub hs1 fun _ _ h=>h) (hS.sub hs1 (eT.sub hs1)) (h1.sub hs1) (h2.sub hs1) (h3.sub hs1) (h4.sub hs1 (vC.sub hs1)) fun n hn=>?_
 (repeat refine zzC ?_)
 exact⟨h,hs1,hK _ (by omega)⟩
set_option maxRecDepth 8000 in
set_option maxHeartbeats 2000000 in
theorem aDc {ro:Ro}{x:List Value}{d:AutoD}{h:T Obj}{nx:Nat}{K:KV} (hf:Fr h nx) (hd:sR ro h x d) (hK:∀ nx',nx≤nx'→K (.bool (fF d)) h nx'):aO Tryz.prog ro vI [.agg x.toArray] h nx K:=by
 obtain⟨cv,sv,rfl,hc,hcl,hcv,hS,hb1,hb2⟩:=hd
 obtain⟨c,n,C,S⟩:=d
 simp only at hc hcl hcv hS hb1 hb2
 dsimp only
 apply aHj
 unfold aGI
 refine eZ hf (Nat.le_refl _) fun p1 hs hf1 g1 _=>?_
 have g1:p1.get nx=some (.cells (eU c n cv sv).toArray cD):=g1
 have hS:=hS.sub hs (eT.sub hs)
 have hcv:=hcv.sub hs fun _ _ h=>h
 have hsg:=jW (n:=n) (cv:=cv) (sv:=sv) hc
 have hcg:=mQ (n:=n) (cv:=cv) (sv:=sv) hc
 have lc:=hcv.len
 have ls:=hS.len
 have hno:∀ n',fF ⟨c,n,C,S⟩=false→nx≤n'→∃ h',aZ h' p1∧K (.bool false) h' n':=fun n' e hn=>⟨h,hs,kb hK e hn⟩
 unfold fF at hno hK
 dsimp only at hno hK
 (repeat refine zzC ?_)
 refine aA (aQV g1 hc) ?_
 refine aIO hc hcl (hf1.mono (by omega)) fun n1 hn1=>?_
 cases hr:sH c n with
 | false =>
  (repeat refine zzC ?_)
  exact hno _ (by rw[hr]; rfl) (by omega)
 | true =>
  have hn:=aDZ hr
  rw[hr,Bool.true_and] at hno hK
  (have zz:=And.intro g1 (And.intro hcg lc);repeat refine zzCz ?_)
  refine nH (fun u1=>?_) (fun u1=>?_)
  ·(repeat refine zzC ?_)
   exact hno _ (by rw[decide_eq_false (by omega)]; rfl) (by omega)
  ·have u1:C.length≤512:=by omega
   rw[decide_eq_true u1,Bool.true_and] at hno hK
   (have zz:=And.intro g1 (And.intro hsg ls);repeat refine zzCz ?_)
   refine dS (fun u2=>?_) (fun u2=>?_)
   ·(repeat refine zzC ?_)
    exact hno _ (by rw[decide_eq_false (by omega)]; rfl) (by omega)
   ·have u2:1≤S.length:=by omega
    rw[decide_eq_true u2,Bool.true_and] at hno hK
    (have zz:=And.intro g1 (And.intro hsg ls);repeat refine zzCz ?_)
    refine nH (fun u3=>?_) (fun u3=>?_)
    ·(repeat refine zzC ?_)
     exact hno _ (by rw[decide_eq_false (by omega)]; rfl) (by omega)
    ·have u3:S.length≤256:=by omega
     rw[decide_eq_true u3,Bool.true_and] at hno hK
     have h0:0 < S.length:=by omega
     have six:cQ 4 sv (.int .i64 0)=some (i3 4 sv 0):=hS.ix .i64 (i:=0) h0
     obtain⟨x,⟨lv,rv,uv,nv,rfl,y1,y2,y3,y4,y5⟩,hx2,hx3,hx4,hx5⟩:=hS.at h0
     have q0:=hx5 0 lv rfl
     have q1:=hx5 1 rv rfl
     have ll:=y1.len
     have lr:=y2.len
     have hgd:S.getD 0 noS=S[0]:=by rw[List.getD_eq_getElem?_getD,List.getElem?_eq_getElem h0]; rfl
     have hfst:aCR S=(decide (S[0].l.length=0)&&decide (S[0].r.length=0)):=by unfold aCR; rw[hgd]
     have hall:S.all (iZ S n C.length)=true→S[0].l.length≤512∧S[0].r.length≤3:=fun h=>aIy (List.all_eq_true.1 h _ (List.getElem_mem h0))
     (have zz:=And.intro g1 (And.intro hsg (And.intro six (And.intro hx4 (And.intro q0 (And.intro q1 (And.intro ll @lr))))));repeat refine zzCz ?_)
     first
     | refine aA (cH _ _ _) ?_
     | skip
     (repeat refine zzC ?_)
     have hrest:(S[0].l.length=0∧S[0].r.length=0∨9223372036854775807 < S[0].l.length+S[0].r.length)→∀ (e':dL) n',e' 1=ptr nx→e' 2=.bool false→e' 45=cv→e' 46=.int .i64 C.length→e' 47=.int .i64 0→nx+1≤n' →
       dZ (yT ro) e' p1 n' fun x229 e226 h227 n228=>gI x229 (nN ro K e226 h227 n228) (fun i230=>dH (Nat.beq i230 0) (nN ro K e226 h227 n228) (False)) (∃ h231,aZ h231 h227∧K (e226 2) h231 n228):=by
      intro hlen e' n' f1 f2 f45 f46 f47 hn'
      generalize hB:C.all qD=B at hno hK
      refine bM (fun j e h' nx'=>∃ (k:Nat),k+j=C.length∧nx+1≤nx'∧h'=p1∧e 1=ptr nx∧e 2=.bool false∧e 45=cv∧e 46=.int .i64 C.length∧e 47=.int .i64 k∧(C.drop k).all qD=B) ?_ (n:=C.length) ⟨0,by omega,hn',rfl,f1,f2,f45,f46,f47,hB⟩
      rintro j e h' nx' ⟨k,hj,hnx,rfl,e1,e2,e45,e46,e47,hr2⟩ Q' hq hx
      unfold yT
      rw[e45,e46,e47]
      refine dS (fun hk=>?_) (fun hk=>?_)
      ·have hk:k < C.length:=by omega
       rw[cU hk,List.all_cons] at hr2
       have cix:=hcv.ix .i64 hk
       obtain⟨x,hx1,hx2,hx3,hx4,hx5⟩:=hcv.at hk
       generalize C[k]=p at hr2 hx1
       obtain rfl:x=[.int .i64 p.1,.int .i64 p.2]:=hx1
       (have zz:=And.intro cix hx3;repeat refine zzCz ?_)
       refine jB (x:=[.int .i64 p.1,.int .i64 p.2]) aKQ rfl rfl rfl rfl hf1 (by omega) fun h6 hs6 hf6 g6 _=>?_
       have hfin:∀ (e':dL) n',e' 2=.bool false→qD p=false→nx≤n'→Q' .ret e' h6 n':=fun e' n' h6 hc hn=>by
        refine hx _ _ _ _ (fun e=>by cases e) (fP ?_)
        rw[h6]
        rw[hc,Bool.false_and] at hr2
        subst hr2
        obtain⟨h9,z1,z2⟩:=hno n' (by simp) hn
        exact⟨h9,z1.trans hs6,z2⟩
       have hok:∀ (e':dL) n',e' 1=ptr nx→e' 2=.bool false→e' 45=cv→e' 46=.int .i64 C.length→e' 47=.int .i64 ((k:Int)+1)→qD p=true→nx+1≤n'→Q' .normal e' h6 n':=fun e' n' f1 f2 f45 f46 f47 hc hn =>
        hq (j - 1) _ h' _ _ (by omega) ⟨k+1,by omega,hn,rfl,f1,f2,f45,f46,f47,by rw[← hr2,hc]; rfl⟩ hs6
       unfold qD at hfin hok
       (have zz:=g6;repeat refine zzCz ?_)
       refine dS (fun v1=>?_) (fun v1=>?_)
       ·(repeat refine zzC ?_)
        exact hfin _ _ rfl (by rw[decide_eq_false (by omega)]; rfl) (by omega)
       ·rw[decide_eq_true v1,Bool.true_and] at hfin hok
        (have zz:=g6;repeat refine zzCz ?_)
        refine nH (fun v2=>?_) (fun v2=>?_)
        ·(repeat refine zzC ?_)
         exact hfin _ _ rfl (by rw[decide_eq_false (by omega)]; rfl) (by omega)
        ·rw[decide_eq_true v2,Bool.true_and] at hfin hok
         (have zz:=g6;repeat refine zzCz ?_)
         refine dS (fun v3=>?_) (fun v3=>?_)
         ·(repeat refine zzC ?_)
          exact hfin _ _ rfl (by rw[decide_eq_false (by omega)]; rfl) (by omega)
         ·rw[decide_eq_true v3,Bool.true_and] at hfin hok
          (have zz:=g6;repeat refine zzCz ?_)
          refine nH (fun v4=>?_) (fun v4=>?_)
          ·(repeat refine zzC ?_)
           exact hfin _ _ rfl (by rw[decide_eq_false (by omega)]) (by omega)
          ·rw[decide_eq_true v4] at hok
           (repeat refine zzC ?_)
           exact hok _ _ e1 e2 e45 e46 rfl rfl (by omega)
      ·rw[gG (by omega)] at hr2
       have hr2:true=B:=hr2
       subst hr2
       rw[Bool.true_and] at hno hK
       (repeat refine zzC ?_)
       refine hx _ _ _ _ (fun e=>by cases e) (eE (dG ?_))
       have hend:∀ (e':dL) n',e' 1=ptr nx→nx+1≤n'→nN ro K e' h' n':=by
        intro e' n' z1 hn'
        unfold nN
        rw[z1]
        refine aA (dW g1 (d5 hc)) ?_
        refine aA (aHm hc) ?_
        obtain⟨z,hz,hzs⟩:=aM0
        refine jB (x:=eU c n cv sv) hz hzs rfl (d5 hc) (aFq (iO.okC hcv) (iO.okC hS)) hf1 (by omega) fun h6 hs6 hf6 g6 _=>?_
        have g16:=hs6 _ _ g1
        (have zz:=And.intro g16 hsg;repeat refine zzCz ?_)
        refine uP (q:=fun s=>!iZ S n C.length s) (by omega) (hS.sub hs6 (eT.sub hs6)) (fun i hi x n' K' hx hn' hk'=>?_) fun n' hn'=>?_
        ·obtain⟨lv,rv,uv,nv,rfl,w1,w2,w3,w4,w5⟩:=hx
         exact aGJ hc hn u3 u1 w5 (hf6.mono (by omega)) g6 (hcv.sub hs6 fun _ _ h=>h) (hS.sub hs6 (eT.sub hs6)) w1 w2 w3 w4 hk'
        ·(repeat refine zzC ?_)
         refine⟨h,hs.trans hs6,kb hK ?_ (by omega)⟩
         rw[aJG]
         rcases hlen with hlen | hlen
         ·rw[hfst,decide_eq_true hlen.1,decide_eq_true hlen.2]; rfl
         ·cases ha:S.all (iZ S n C.length) with
          | false=>simp
          | true=>have:=hall ha; omega
       exact hend _ _ e1 (by omega)
     refine nH (fun u4=>?_) (fun u4=>?_)
     ·(repeat refine zzC ?_)
      have:=aSW u4
      refine hno _ ?_ (by omega)
      rw[hfst]
      rcases this with h | h
      ·rw[decide_eq_false h]; simp
      ·rw[decide_eq_false h]; simp
     ·(have zz:=And.intro g1 (And.intro hcg lc);repeat refine zzCz ?_)
      exact hrest (by rcases aT5 u4 with h | h<;>omega) _ _ rfl rfl rfl rfl rfl (by omega)
set_option maxRecDepth 8000 in
set_option maxHeartbeats 2000000 in
theorem aCn {ro:Ro}{x:List Value}{d:AutoD}{h:T Obj}{nx:Nat}{K:KV} (hf:Fr h nx) (hd:sR ro h x d) (hK:∀ nx',nx≤nx'→K (.bool (fF d)) h nx'):aO Tryz.prog ro tR [.agg x.toArray] h nx K:=by
 obtain⟨cv,sv,rfl,hc,hcl,hcv,hS,hb1,hb2⟩:=hd
 obtain⟨c,n,C,S⟩:=d
 simp only at hc hcl hcv hS hb1 hb2
 dsimp only
 apply aHL
 unfold aFX
 refine eZ hf (Nat.le_refl _) fun p1 hs hf1 g1 _=>?_
 have g1:p1.get nx=some (.cells (eU c n cv sv).toArray cD):=g1
 have hS:=hS.sub hs (eT.sub hs)
 have hcv:=hcv.sub hs fun _ _ h=>h
 have hsg:=jW (n:=n) (cv:=cv) (sv:=sv) hc
 have hcg:=mQ (n:=n) (cv:=cv) (sv:=sv) hc
 have lc:=hcv.len
 have ls:=hS.len
 have hno:∀ n',fF ⟨c,n,C,S⟩=false→nx≤n'→∃ h',aZ h' p1∧K (.bool false) h' n':=fun n' e hn=>⟨h,hs,kb hK e hn⟩
 unfold fF at hno hK
 dsimp only at hno hK
 (repeat refine zzC ?_)
 refine aA (aQV g1 hc) ?_
 refine aIB hc hcl (hf1.mono (by omega)) fun n1 hn1=>?_
 cases hr:sH c n with
 | false =>
  (repeat refine zzC ?_)
  exact hno _ (by rw[hr]; rfl) (by omega)
 | true =>
  have hn:=aDZ hr
  rw[hr,Bool.true_and] at hno hK
  (have zz:=And.intro g1 (And.intro hcg lc);repeat refine zzCz ?_)
  refine nH (fun u1=>?_) (fun u1=>?_)
  ·(repeat refine zzC ?_)
   exact hno _ (by rw[decide_eq_false (by omega)]; rfl) (by omega)
  ·have u1:C.length≤512:=by omega
   rw[decide_eq_true u1,Bool.true_and] at hno hK
   (have zz:=And.intro g1 (And.intro hsg ls);repeat refine zzCz ?_)
   refine dS (fun u2=>?_) (fun u2=>?_)
   ·(repeat refine zzC ?_)
    exact hno _ (by rw[decide_eq_false (by omega)]; rfl) (by omega)
   ·have u2:1≤S.length:=by omega
    rw[decide_eq_true u2,Bool.true_and] at hno hK
    (have zz:=And.intro g1 (And.intro hsg ls);repeat refine zzCz ?_)
    refine nH (fun u3=>?_) (fun u3=>?_)
    ·(repeat refine zzC ?_)
     exact hno _ (by rw[decide_eq_false (by omega)]; rfl) (by omega)
    ·have u3:S.length≤256:=by omega
     rw[decide_eq_true u3,Bool.true_and] at hno hK
     have h0:0 < S.length:=by omega
     have six:cQ 4 sv (.int .i64 0)=some (i3 4 sv 0):=hS.ix .i64 (i:=0) h0
     obtain⟨x,⟨lv,rv,uv,nv,rfl,y1,y2,y3,y4,y5⟩,hx2,hx3,hx4,hx5⟩:=hS.at h0
     have q0:=hx5 0 lv rfl
     have q1:=hx5 1 rv rfl
     have ll:=y1.len
     have lr:=y2.len
     have hgd:S.getD 0 noS=S[0]:=by rw[List.getD_eq_getElem?_getD,List.getElem?_eq_getElem h0]; rfl
     have hfst:aCR S=(decide (S[0].l.length=0)&&decide (S[0].r.length=0)):=by unfold aCR; rw[hgd]
     rw[hfst] at hno hK
     (have zz:=And.intro g1 (And.intro hsg (And.intro six (And.intro hx4 (And.intro q0 ll))));repeat refine zzCz ?_)
     refine nH (fun u4=>?_) (fun u4=>?_)
     ·(repeat refine zzC ?_)
      exact hno _ (by rw[decide_eq_false (by omega)]; rfl) (by omega)
     ·rw[decide_eq_true (show S[0].l.length=0 by omega),Bool.true_and] at hno hK
      (have zz:=And.intro g1 (And.intro hsg (And.intro six (And.intro hx4 (And.intro q1 @lr))));repeat refine zzCz ?_)
      refine nH (fun u5=>?_) (fun u5=>?_)
      ·(repeat refine zzC ?_)
       exact hno _ (by rw[decide_eq_false (by omega)]; rfl) (by omega)
      ·rw[decide_eq_true (show S[0].r.length=0 by omega),Bool.true_and] at hno hK
       (repeat refine zzC ?_)
       generalize hB:C.all qD=B at hno hK
       refine bM (fun j e h' nx'=>∃ (k:Nat),k+j=C.length∧nx+1≤nx'∧h'=p1∧e 1=ptr nx∧e 3=.int .i64 k∧(C.drop k).all qD=B) ?_ (n:=C.length) ⟨0,by omega,by omega,rfl,rfl,rfl,hB⟩
       rintro j e h' nx' ⟨k,hj,hnx,rfl,e1,e3,hr2⟩ Q' hq hx
       unfold aBk
       rw[e1,e3]
       (have zz:=And.intro g1 (And.intro hcg lc);repeat refine zzCz ?_)
       refine dS (fun hk=>?_) (fun hk=>?_)
       ·have hk:k < C.length:=by omega
        rw[cU hk,List.all_cons] at hr2
        have cix:=hcv.ix .i64 hk
        obtain⟨x,hx1,hx2,hx3,hx4,hx5⟩:=hcv.at hk
        generalize C[k]=p at hr2 hx1
        obtain rfl:x=[.int .i64 p.1,.int .i64 p.2]:=hx1
        (have zz:=And.intro g1 (And.intro hcg (And.intro cix hx3));repeat refine zzCz ?_)
        refine jB (x:=[.int .i64 p.1,.int .i64 p.2]) aKQ rfl rfl rfl rfl hf1 (by omega) fun h6 hs6 hf6 g6 _=>?_
        have hfin:∀ (e':dL) n',e' 2=.bool false→qD p=false→nx≤n'→Q' .ret e' h6 n':=fun e' n' h6 hc hn=>by
         refine hx _ _ _ _ (fun e=>by cases e) (fP ?_)
         rw[h6]
         rw[hc,Bool.false_and] at hr2
         subst hr2
         obtain⟨h9,z1,z2⟩:=hno n' (by simp) hn
         exact⟨h9,z1.trans hs6,z2⟩
        have hok:∀ (e':dL) n',e' 1=ptr nx→e' 3=.int .i64 ((k:Int)+1)→qD p=true→nx+1≤n'→Q' .normal e' h6 n':=fun e' n' f1 f3 hc hn =>
         hq (j - 1) _ h' _ _ (by omega) ⟨k+1,by omega,hn,rfl,f1,f3,by rw[← hr2,hc]; rfl⟩ hs6
        unfold qD at hfin hok
        (have zz:=g6;repeat refine zzCz ?_)
        refine dS (fun v1=>?_) (fun v1=>?_)
        ·(repeat refine zzC ?_)
         exact hfin _ _ rfl (by rw[decide_eq_false (by omega)]; rfl) (by omega)
        ·rw[decide_eq_true v1,Bool.true_and] at hfin hok
         (have zz:=g6;repeat refine zzCz ?_)
         refine nH (fun v2=>?_) (fun v2=>?_)
         ·(repeat refine zzC ?_)
          exact hfin _ _ rfl (by rw[decide_eq_false (by omega)]; rfl) (by omega)
         ·rw[decide_eq_true v2,Bool.true_and] at hfin hok
          (have zz:=g6;repeat refine zzCz ?_)
          refine dS (fun v3=>?_) (fun v3=>?_)
          ·(repeat refine zzC ?_)
           exact hfin _ _ rfl (by rw[decide_eq_false (by omega)]; rfl) (by omega)
          ·rw[decide_eq_true v3,Bool.true_and] at hfin hok
           (have zz:=g6;repeat refine zzCz ?_)
           refine nH (fun v4=>?_) (fun v4=>?_)
           ·(repeat refine zzC ?_)
            exact hfin _ _ rfl (by rw[decide_eq_false (by omega)]) (by omega)
           ·rw[decide_eq_true v4] at hok
            (repeat refine zzC ?_)
            exact hok _ _ e1 rfl rfl (by omega)
       ·rw[gG (by omega)] at hr2
        have hr2:true=B:=hr2
        subst hr2
        rw[Bool.true_and] at hno hK
        (repeat refine zzC ?_)
        refine hx _ _ _ _ (fun e=>by cases e) (eE (dG ?_))
        have LA:=dW (ro:=ro) (z:=0) (n:=259) (l:=eU c n cv sv) g1 (d5 hc)
        have hend:∀ (e':dL) n',e' 1=ptr nx→nx+1≤n'→rZ ro K e' h' n':=by
         intro e' n' z1 hn'
         unfold rZ
         generalize hA:S.all (iZ S n C.length)=A at hno hK
         refine bM (fun j e h'' nx'=>∃ (k:Nat),k+j=S.length∧nx+1≤nx'∧h''=h'∧e 1=ptr nx∧e 5=.int .i64 k∧(S.drop k).all (iZ S n C.length)=A) ?_ (n:=S.length) ⟨0,by omega,by omega,rfl,z1,rfl,hA⟩
         rintro j e h'' nx' ⟨k,hj,hnx,rfl,e1,e5,hr2⟩ Q2 hq hx
         unfold aBj
         rw[e1,e5]
         (have zz:=And.intro g1 (And.intro hsg ls);repeat refine zzCz ?_)
         refine dS (fun hk=>?_) (fun hk=>?_)
         ·have hk:k < S.length:=by omega
          rw[cU hk,List.all_cons] at hr2
          have kix:=hS.ix .i64 hk
          obtain⟨x,⟨lv,rv,uv,nv,rfl,w1,w2,w3,w4,w5⟩,hx2,hx3,hx4,hx5⟩:=hS.at hk
          generalize S[k]=s at hr2 w1 w2 w3 w4 w5
          (have zz:=And.intro LA (And.intro g1 (And.intro hsg (And.intro kix hx3)));repeat refine zzCz ?_)
          refine aIH hc hn u3 u1 w5 (hf1.mono (by omega)) hcv hS w1 w2 w3 w4 fun n4 hn4=>?_
          cases hm:iZ S n C.length s with
          | true =>
           rw[hm,Bool.true_and] at hr2
           have hok2:∀ (e':dL) n',e' 1=ptr nx→e' 5=.int .i64 ((k:Int)+1)→nx+1≤n'→Q2 .normal e' h'' n':=fun e' n' z1 z5 hn =>
            hq (j - 1) _ _ _ _ (by omega) ⟨k+1,by omega,hn,rfl,z1,z5,hr2⟩ (aZ.refl _)
           (repeat refine zzC ?_)
           exact hok2 _ _ e1 rfl (by omega)
          | false =>
           rw[hm,Bool.false_and] at hr2
           subst hr2
           (repeat refine zzC ?_)
           refine hx _ _ _ _ (fun e=>by cases e) (fP ?_)
           exact hno _ rfl (by omega)
         ·rw[gG (by omega)] at hr2
          have hr2:true=A:=hr2
          subst hr2
          (repeat refine zzC ?_)
          refine hx _ _ _ _ (fun e=>by cases e) (eE (dG ?_))
          unfold xC
          exact⟨h,hs,hK _ (by omega)⟩
        exact hend _ _ e1 (by omega)
end V
end Go.Proofs.YtcaccnneblghgaaGreat
namespace Go.Proofs.YtcaccnneblghgaaGreat
namespace V
theorem aGA (m b i:Nat):sP (m ||| 2 ^ b) i=if i=b / 64 then sP m i ||| 2 ^ (b % 64) else sP m i:=by
 apply Nat.eq_of_testBit_eq
 intro j
 rw[sO,Nat.testBit_or,Nat.testBit_two_pow]
 by_cases h:i=b / 64
 ·rw[if_pos h,Nat.testBit_or,sO,Nat.testBit_two_pow]
  subst h
  by_cases hj:j < 64
  ·have:(b=64*(b / 64)+j) ↔ (b % 64=j):=by omega
   simp[hj,this]
  ·have:¬ (b % 64=j):=by have:=Nat.mod_lt b (show 64 > 0 by decide); omega
   simp[hj,this]
 ·rw[if_neg h,sO]
  by_cases hj:j < 64
  ·have:¬ (b=64*i+j):=by omega
   simp[hj,this]
  ·simp[hj]
theorem aNE (k a b:Nat):2 ^ k*(a ||| b)=2 ^ k*a ||| 2 ^ k*b:=by
 apply Nat.eq_of_testBit_eq
 intro j
 simp only[Nat.testBit_or,Nat.testBit_two_pow_mul]
 cases decide (j ≥ k)<;>simp
theorem aKk {a:Nat} (h:a % 2=0):a ||| 1=a+1:=by
 have h2:a=2 ^ 1*(a / 2):=by omega
 have:=Nat.two_pow_add_eq_or_of_lt (show 1 < 2 ^ 1 by decide) (a / 2)
 rw[← h2] at this; exact this.symm
theorem aRO {x k:Nat} (h:x.testBit k=false):x+2 ^ k=x ||| 2 ^ k:=by
 have hr:x % 2 ^ k < 2 ^ k:=Nat.mod_lt _ (Nat.two_pow_pos k)
 have ha:(x / 2 ^ k) % 2=0:=by
  rw[Nat.testBit_eq_decide_div_mod_eq] at h
  have:¬ (x / 2 ^ k % 2=1):=by simpa using h
  omega
 have e1:=Nat.two_pow_add_eq_or_of_lt hr (x / 2 ^ k)
 have e2:=Nat.two_pow_add_eq_or_of_lt hr (x / 2 ^ k+1)
 have e0:2 ^ k*(x / 2 ^ k)+x % 2 ^ k=x:=Nat.div_add_mod _ _
 have e3:x+2 ^ k=2 ^ k*(x / 2 ^ k+1)+x % 2 ^ k:=by rw[Nat.mul_add,Nat.mul_one]; omega
 have e4:2 ^ k*(x / 2 ^ k+1)=2 ^ k*(x / 2 ^ k) ||| 2 ^ k:=by
  rw[← aKk ha,aNE,Nat.mul_one]
 have hx:x ||| 2 ^ k=(2 ^ k*(x / 2 ^ k) ||| x % 2 ^ k) ||| 2 ^ k:=by rw[← e1,e0]
 rw[e3,e2,e4,hx,Nat.or_assoc,Nat.or_comm (2 ^ k) (x % 2 ^ k),← Nat.or_assoc]
theorem aL2 {x k:Nat} (h:x.testBit k=true):x ||| 2 ^ k=x:=by
 apply Nat.eq_of_testBit_eq
 intro j
 rw[Nat.testBit_or,Nat.testBit_two_pow]
 by_cases e:k=j
 ·subst e; simp[h]
 ·simp[e]
theorem aSX:nF Tryz.prog eY=some (aEU 0):=by kernel_rfl
set_option maxRecDepth 20000
theorem aHY (m:Nat):(qU m).length=4:=rfl
theorem aSB (m:Nat):(qU m).all eA=true:=rfl
theorem aOI (m:Nat):List.take 4 (List.drop 0 (qU m))=qU m:=rfl
theorem aAf {K:Value→Prop} (k:K (aEU 0)):aB (nF Tryz.prog eY) K:=by rw[aSX]; exact k
theorem aQa (m n:Nat):over (qU m) 0 (qU n)=qU n:=rfl
theorem aPC (m:Nat):(aEU m).cells.size=4:=rfl
theorem aMO (m:Nat):Value.agg (qU m).toArray=aEU m:=rfl
theorem aQo {m b:Nat} (hb:b < 256):(qU m).set (b / 64) (.int .u64 ((sP m (b / 64) ||| 2 ^ (b % 64):Nat):Int))=qU (m ||| 2 ^ b):=by
 have h0:=aGA m b 0
 have h1:=aGA m b 1
 have h2:=aGA m b 2
 have h3:=aGA m b 3
 have hq:b / 64=0∨b / 64=1∨b / 64=2∨b / 64=3:=by omega
 unfold qU
 rcases hq with hq | hq | hq | hq<;>rw[hq] at h0 h1 h2 h3 ⊢<;>simp at h0 h1 h2 h3<;>simp[h0,h1,h2,h3]
theorem aBd {ro:Ro}{m w:Nat}{e:dL}{h h0:T Obj}{id nx nx0:Nat}{K:KV} (h2:e 2=at_ id 0 0) (h4:e 4=at_ (id+1) 0 0) (g1:h.get id=some (.cells (qU m).toArray eY)) (g2:h.get (id+1)=some (.cells (qU w).toArray eY))
  (hf:Fr h0 nx0) (hs:aZ h0 h) (hid:nx0≤id) (hK:K (aEU m) h0 (nx+2)):tW ro K e h nx:=by
 unfold tW
 (have zz:=And.intro @iR (And.intro @aHY (And.intro @aOI (And.intro @aMO (And.intro h2 (And.intro h4 (And.intro g1 (And.intro g2 (And.intro @aPC (And.intro @aSB @aQa)))))))));repeat refine zzIz ?_)
 exact⟨h0,hs.new hf (by omega),hK⟩
section
theorem aJp {ro:Ro}{m b:Nat} (hb:b < 256) {h:T Obj}{nx:Nat}{K:KV} (hf:Fr h nx) (hK:∀ nx',nx≤nx'→K (aEU (m ||| 2 ^ b)) h nx'):aO Tryz.prog ro aAR [aEU m,.int .u8 b] h nx K:=by
 apply aHz
 unfold aHE
 refine aE (aAf ?_)
 (have zz:=And.intro @iR (And.intro @aHY (And.intro @aOI @aMO));repeat refine zzIz ?_)
 refine aFR hb ((hf.mono (Nat.le_add_right nx 5)).upd (n:=nx+5) (Nat.le_refl _) (by omega) |>.upd (Nat.le_refl _) (by omega)) fun n hn=>?_
 (repeat refine zzI ?_)
 have h1:((b:Int) / 64).toNat=b / 64:=by omega
 have h2:((b:Int) % 64).toNat=b % 64:=by omega
 have h3:=aOO m (b / 64)
 have h4:b / 64 < 4:=by omega
 have h5:=aMN (m:=m) h4
 cases hm:m.testBit b with
 | true =>
  simp only[Bool.not_true]
  (repeat refine zzI ?_)
  refine aBd (m:=m) (w:=0) (id:=nx) rfl rfl ?_ ?_ hf ?_ (Nat.le_refl _) ?_
  ·simp (disch:=first | omega | exact Int.natCast_nonneg _ | assumption) only [BB,B2,↓reduceIte,Nat.reduceLeDiff,Nat.reduceAdd,bD,bI,bL,bK,bJ,bH,iR]
  ·simp (disch:=first | omega | exact Int.natCast_nonneg _ | assumption) only [BB,B2,↓reduceIte,Nat.reduceLeDiff,Nat.reduceAdd,bD,bI,bL,bK,bJ,bH,iR]
  ·exact ((aZ.refl h).new hf (Nat.le_refl _)).new hf (by omega)
  ·have:=hK (n+1+2) (by omega)
   rw[aL2 hm] at this; exact this
 | false =>
  simp only[Bool.not_false]
  have h6:(sP m (b / 64)).testBit (b % 64)=false:=by
   rw[sO,Nat.div_add_mod,hm]; simp
  have h7:=aRO h6
  have h8:sP m (b / 64)+2 ^ (b % 64) < 18446744073709551616:=by
   rw[h7]; exact Nat.or_lt_two_pow (n:=64) h3 (Nat.pow_lt_pow_right (by decide) (by omega))
  have h9:((sP m (b / 64):Nat):Int)+((2 ^ (b % 64):Nat):Int)=((sP m (b / 64) ||| 2 ^ (b % 64):Nat):Int):=by rw[← h7]; exact (Int.natCast_add _ _).symm
  have h10:((sP m (b / 64) ||| 2 ^ (b % 64):Nat):Int)≤18446744073709551615:=aNd (by rw[← h7]; exact h8)
  have h11:=aGz (.int .u64 ((sP m (b / 64) ||| 2 ^ (b % 64):Nat):Int)) (l:=qU m) (off:=b / 64) (by rw[aHY]; omega)
  (have zz:=And.intro @iR (And.intro h1 (And.intro h2 (And.intro h5 h9)));repeat refine zzIz ?_)
  refine aA (bX (l:=qU m) (by simp (disch:=first | omega | exact Int.natCast_nonneg _ | assumption) only [BB,B2,↓reduceIte,Nat.reduceLeDiff,Nat.reduceAdd,bD,bI,bL,bK,bJ,bH,iR]<;>rfl) h4 rfl rfl) ?_
  rw[aQo hb]
  refine aBd (m:=m ||| 2 ^ b) (w:=0) (id:=nx) rfl rfl ?_ ?_ hf ?_ (Nat.le_refl _) (hK _ (by omega))
  ·simp (disch:=first | omega | exact Int.natCast_nonneg _ | assumption) only [BB,B2,↓reduceIte,Nat.reduceLeDiff,Nat.reduceAdd,bD,bI,bL,bK,bJ,bH,iR]
  ·simp (disch:=first | omega | exact Int.natCast_nonneg _ | assumption) only [BB,B2,↓reduceIte,Nat.reduceLeDiff,Nat.reduceAdd,bD,bI,bL,bK,bJ,bH,iR]
  ·exact (((aZ.refl h).new hf (Nat.le_refl _)).new hf (by omega)).new hf (Nat.le_refl _)
end
set_option maxRecDepth 20000
def tU (m:Nat) (l:List Nat):Nat:=l.foldl (fun m b=>m ||| 2 ^ b) m
def cC (l:List Nat):List (List Value):=l.map fun b:Nat=>[Value.int .u8 (b:Int)]
theorem dJ (l:List Nat):(cC l).length=l.length:=by simp[cC]
theorem qI {l:List Nat}{i:Nat} (hi:i < l.length):(cC l)[i]?=some [.int .u8 (l[i]:Nat)]:=by simp[cC,hi]
theorem aM4:fG Tryz.prog eY []=some (aEU 0):=by kernel_rfl
theorem aHl {K:Value→Prop} (k:K (aEU 0)):aB (fG Tryz.prog eY []) K:=by rw[aM4]; exact k
theorem aJe {m:Nat}{l:List Nat}{i:Nat} (hi:i < l.length):tU m (l.take (i+1))=tU m (l.take i) ||| 2 ^ l[i]:=by
 rw[List.take_succ_eq_append_getElem hi,tU,List.foldl_append]; rfl
theorem aNH {ro:Ro}{v:Value}{l:List Nat} (hl:∀ b∈l,b < 256) (hlen:l.length≤1000000) {h:T Obj}{nx:Nat}{K:KV} (hf:Fr h nx) (hv:Sl ro h v 1 (cC l)) (hK:∀ nx',nx≤nx'→K (aEU (tU 0 l)) h nx'):aO Tryz.prog ro aDP [v] h nx K:=by
 apply aLi
 unfold aLh
 refine aAf (aE (aHl (aAf (aE ?_))))
 refine aA (nD (l:=qU 0) (vs:=qU 0) (by simp (disch:=first | omega | exact Int.natCast_nonneg _ | assumption) only [BB,B2,↓reduceIte,Nat.reduceLeDiff,Nat.reduceAdd,bD,bI,bL,bK,bJ,bH,iR]<;>rfl) rfl rfl rfl rfl) ?_
 refine bM (fun n e h' nx'=>∃ i:Nat,i+n=l.length∧nx+3≤nx'∧e 0=v∧e 2=ptr nx∧e 3=ptr (nx+2)∧e 4=.int .i64 i∧aZ h h'∧Fr h' nx' ∧
  h'.get nx=some (.cells (qU 0).toArray eY)∧h'.get (nx+2)=some (.cells (qU (tU 0 (l.take i))).toArray eY)) ?_ (n:=l.length) ⟨0,by omega,by omega,rfl,rfl,rfl,rfl,?_,?_,?_,?_⟩
 ·rintro n e h' nx' ⟨i,hin,hnx,e0,e2,e3,e4,hs,hf',g1,g2⟩ Q' hc hx
  unfold aFS
  rw[e0,e3,e4]
  have hlenv:=(hv.sub hs).len
  rw[dJ] at hlenv
  refine aA hlenv ?_
  (repeat refine zzI ?_)
  by_cases hi:i < l.length
  ·refine iG (by simp; omega) ?_
   refine aA (dW g2 rfl) ?_
   refine aA ((hv.sub hs).ix _ (by rw[dJ]; exact hi)) ?_
   refine aA ((hv.sub hs).load1 (qI hi)) ?_
   refine aJp (hl _ (List.getElem_mem hi)) (hf'.mono (by omega)) fun n1 hn1=>?_
   refine aA (nD (l:=qU _) (vs:=qU _) g2 rfl rfl rfl rfl) ?_
   (repeat refine zzI ?_)
   refine hc (n - 1) _ _ _ _ (by omega) ⟨i+1,by omega,?_,e0,e2,e3,rfl,hs.new hf (by omega),(hf'.mono (by omega)).upd (Nat.le_refl _) (by omega),?_,?_⟩ (aZ.refl _)
   ·omega
   ·simp (disch:=first | omega | exact Int.natCast_nonneg _ | assumption) only [BB,B2,↓reduceIte,Nat.reduceLeDiff,Nat.reduceAdd,bD,bI,bL,bK,bJ,bH,g1]
   ·rw[T.get_upd_same,aJe hi]
  ·refine iF (by simp; omega) ?_
   refine hx _ _ _ _ (fun e=>by cases e) ?_
   show gI _ _ _ _
   rw[dO]
   show yG ro K _ _ _
   unfold yG
   show aB (loadA ro h' 4 (e 3)) _
   rw[e3]
   refine aA (dW g2 rfl) ?_
   show aB (bU 4 h' (e 2) _) _
   rw[e2]
   refine aA (nD (l:=qU _) (vs:=qU _) g1 rfl rfl rfl rfl) ?_
   show aB (loadA ro _ 4 (e 2)) _
   rw[e2]
   refine aA (dW (by rw[T.get_upd_same]) rfl) ?_
   refine⟨h,hs.new hf (Nat.le_refl _),?_⟩
   have:l.take i=l:=List.take_of_length_le (by omega)
   rw[this]
   exact hK _ (by omega)
 ·exact (((aZ.refl h).new hf (Nat.le_refl _)).new hf (by omega)).new hf (by omega)
 ·exact ((hf.upd (m:=nx+5) (by omega) (by omega)).upd (Nat.le_refl _) (by omega)).upd (Nat.le_refl _) (by omega)
 ·simp (disch:=first | omega | exact Int.natCast_nonneg _ | assumption) only [BB,B2,↓reduceIte,Nat.reduceLeDiff,Nat.reduceAdd,bD,bI,bL,bK,bJ,bH,iR]
 ·rw[T.get_upd_same]; rfl
set_option maxRecDepth 20000
set_option maxRecDepth 20000
set_option maxRecDepth 20000
set_option maxRecDepth 20000
theorem aTC (aid:Nat) (b:Int):b7 Tryz.prog bO aid 1 [(0,.int .u8 b)]=some (.slice (some (own aid 1)) 1 1,some (.cells #[.int .u8 b] cI)):=by kernel_rfl
theorem nE:iM Tryz.prog bO=some (.slice cI):=by kernel_rfl
theorem aEx:∃ i,tin Tryz.prog cI=some i∧i.size=1∧i.bytes=1:=by
 have h:(tin Tryz.prog cI).map (fun i=>(i.size,i.bytes))=some (1,1):=by kernel_rfl
 cases hi:tin Tryz.prog cI with
 | none=>rw[hi] at h; cases h
 | some i=>rw[hi] at h; simp at h; exact⟨i,rfl,h.1,h.2⟩
theorem aKR:nF Tryz.prog cI=some (.int .u8 0):=by kernel_rfl
theorem aOS {ro:Ro}{h:T Obj}{v x:Value}{nx lo hi:Nat}{l:List Nat}{b:Nat} (ho:Own h v 1 cI (cC l) lo hi) (hx:Sl ro h x 1 (cC [b])) (hb:l.length≤1000000) (hlo:lo≤nx) (hnx:hi≤nx) :
  ∃ h' r,cZ Tryz.prog ro h nx #[bO,bO] [v,x]=some (r,h',nx+1)∧Own h' r 1 cI (cC (l++[b])) lo (nx+1)∧(∀ k,(k < lo∨hi≤k)→k≠nx→h'.get k=h.get k)∧(∀ k,k≠nx→h'.get k=h.get k∨h'.get k=none):=by
 obtain⟨i,h1,h2,h3⟩:=aEx
 have hcat:cC l++cC [b]=cC (l++[b]):=by simp[cC]
 have hl1:(cC l).length=l.length:=dJ l
 have hl2:(cC [b]).length=1:=rfl
 obtain⟨h',q1,q2,q3,q4⟩:=aAI (P:=Tryz.prog) (t:=bO) ho hx nE h1 h2 (by omega) aKR rfl (by simp[cC]) rfl (by rw[hl1,hl2,h3]; unfold oG; omega) (by rw[hl1,hl2]; unfold oG; omega) hlo hnx
 rw[hcat] at q1 q2
 exact⟨h',_,q1,q2,q3,q4⟩
set_option maxRecDepth 20000
set_option maxRecDepth 20000
theorem aFn (m:Nat) (l:List Nat) (b:Nat):(tU m l).testBit b=(m.testBit b || decide (b∈l)):=by
 induction l generalizing m with
 | nil=>simp[tU]
 | cons a l ih =>
  have:tU m (a::l)=tU (m ||| 2 ^ a) l:=rfl
  rw[this,ih,Nat.testBit_or,Nat.testBit_two_pow]
  by_cases e:a=b
  ·subst e; simp
  ·have:¬ b=a:=fun h=>e h.symm
   simp[e,this]
def mem (c:List Nat) (k:Int) (i:Nat):List Nat:=(List.range i).filter fun b=>decide (((c.getD b 0:Nat):Int)=k)
def aRU (c:List Nat) (k:Int):Nat:=tU 0 (mem c k 256)
theorem aG7 (p:Nat→Bool) (i:Nat):[i].filter p=if p i=true then [i] else []:=by
 cases h:p i<;>simp[h]
theorem aLU (c:List Nat) (k:Int) (i:Nat):mem c k (i+1)=mem c k i++(if ((c.getD i 0:Nat):Int)=k then [i] else []):=by
 unfold mem
 rw[List.range_succ,List.filter_append,aG7]
 simp only[decide_eq_true_eq]
theorem aTD {c:List Nat}{k:Int}{i b:Nat} (h:b∈mem c k i):b < i:=by
 unfold mem at h
 exact List.mem_range.1 (List.mem_filter.1 h).1
theorem aNw (c:List Nat) (k:Int) (i:Nat):(mem c k i).length≤i:=by
 unfold mem
 refine Nat.le_trans (List.length_filter_le _ _) ?_
 simp
theorem xV {ro:Ro}{h h0:T Obj}{v:Value}{n1 lo hi nx nx0:Nat}{l:List Nat}{b:Nat}{K:Value × T Obj × Nat→Prop} (ho:Own h v 1 cI (cC l) lo hi) (hl:l.length≤1000000) (hf:Fr h nx) (hs:aZ h0 h) (hf0:Fr h0 nx0) (hlo0:nx0≤lo) (hlo:lo≤hi) (hn:hi≤n1) (hnx:nx≤n1) (h2:n1+1≤nx+1000)
  {n2:Nat} (hn2:n1 < n2)
  (hK:∀ h' r,Own h' r 1 cI (cC (l++[b])) lo (n2+1)→aZ h0 h'→Fr h' (n2+1)→(∀ k,(k < lo∨hi≤k)→k≠n2→k≠n1→h'.get k=h.get k)→K (r,h',n2+1)) :
  aB (b7 Tryz.prog bO n1 1 [(0,.int .u8 (b:Int))]) fun r=>eR h n1 r.2 fun h'=>aB (cZ Tryz.prog ro h' n2 #[bO,bO] [v,r.1]) K:=by
 refine aA (aTC _ _) (aF ?_)
 have ho2:Own (h.upd n1 (some (.cells #[.int .u8 (b:Int)] cI))) v 1 cI (cC l) lo hi:=ho.keep (Nat.le_refl _) fun id h1 h2 o hg=>by rw[T.get_upd_ne _ _ (by omega)]; exact hg
 have hx1:Sl ro (h.upd n1 (some (.cells #[.int .u8 (b:Int)] cI))) (.slice (some (own n1 1)) 1 1) 1 (cC [b]):=Sl.own (l:=cC [b]) (by rw[T.get_upd_same]; rfl) (by simp[cC]) (Nat.le_refl _)
 obtain⟨h2,r,q1,q2,q3,q4⟩:=aOS (nx:=n2) ho2 hx1 hl (by omega) (by omega)
 refine aA q1 (hK h2 r q2 ?_ ?_ ?_)
 ·intro k o hk
  have hkn:k < nx0:=by
   rcases Nat.lt_or_ge k nx0 with h9 | h9
   ·exact h9
   ·rw[hf0 k h9] at hk; cases hk
  rw[q3 k (.inl (by omega)) (by omega),T.get_upd_ne _ _ (by omega)]
  exact hs k o hk
 ·intro k hk
  rw[q3 k (.inr (by omega)) (by omega),T.get_upd_ne _ _ (by omega)]
  exact hf k (by omega)
 ·intro k hk h3 h4
  rw[q3 k hk h3,T.get_upd_ne _ _ h4]
set_option maxRecDepth 20000
set_option maxRecDepth 4000 in
theorem aLj {ro:Ro}{c:List Nat}{n k:Int} (hc:c.length=256) (hcl:∀ x∈c,x < 256) {h:T Obj}{nx:Nat}{K:KV} (hf:Fr h nx) (hK:∀ nx',nx≤nx'→K (aEU (aRU c k)) h nx'):aO Tryz.prog ro aB1 [pZ c n,.int .i64 k] h nx K:=by
 apply aJq
 unfold aIs
 refine aE (aAf (aE ?_))
 refine bM (fun j e h' nx'=>∃ (i:Nat) (lv:Value),i+j=256∧nx+2≤nx'∧e 1=.int .i64 k∧e 2=ptr nx∧e 4=ptr (nx+1)∧e 5=lv∧e 6=.int .i64 i∧aZ h h'∧Fr h' nx' ∧
  h'.get nx=some (.cells (gF c n).toArray eM)∧h'.get (nx+1)=some (.cells (qU 0).toArray eY)∧Own h' lv 1 cI (cC (mem c k i)) (nx+2) nx') ?_ (n:=256) ⟨0,_,by omega,by omega,rfl,rfl,rfl,rfl,rfl,?_,?_,?_,?_,Own.nil⟩
 ·rintro j e h' nx' ⟨i,lv,hij,hnx,e1,e2,e4,e5,e6,hs,hf',g0,g1,ho⟩ Q' hq hx
  unfold aEH
  rw[e1,e2,e5,e6]
  (repeat refine zzI ?_)
  by_cases hi:i < 256
  ·refine iG (by simp; omega) ?_
   have hic:i < c.length:=by omega
   have hci:=hcl _ (List.getElem_mem hic)
   have hg:=aCD (n:=n) hic
   have hgd:c.getD i 0=c[i]:=by rw[List.getD_eq_getElem?_getD,List.getElem?_eq_getElem hic]; rfl
   (have zz:=And.intro g0 hg;repeat refine zzIz ?_)
   have hj2:∀ (e:dL) (h1:T Obj) (n2:Nat) (lv:Value),nx'≤n2→e 1=.int .i64 k→e 2=ptr nx→e 4=ptr (nx+1)→e 5=lv→e 6=.int .i64 i→aZ h h1→Fr h1 n2→h1.get nx=some (.cells (gF c n).toArray eM)→h1.get (nx+1)=some (.cells (qU 0).toArray eY) →
     Own h1 lv 1 cI (cC (mem c k (i+1))) (nx+2) n2→vR ro Q' e h1 n2:=by
    intro e h1 n2 lv hn2 e1 e2 e4 e5 e6 hs1 hf1 g0 g1 ho1
    unfold vR
    rw[e6]
    (repeat refine zzI ?_)
    exact hq (j - 1) _ _ _ _ (by omega) ⟨i+1,lv,by omega,by omega,e1,e2,e4,e5,rfl,hs1,hf1.mono (by omega),g0,g1,ho1.keep (by omega) fun _ _ _ _ hg=>hg⟩ (aZ.refl _)
   by_cases hk:((c[i]:Nat):Int)=k
   ·refine iG (by simp[hk]) ?_
    (repeat refine zzI ?_)
    refine xV (h0:=h) (nx0:=nx) (nx:=nx') (lo:=nx+2) (hi:=nx') ho (Nat.le_trans (aNw _ _ _) (by omega)) hf' hs hf (by omega) (by omega) (by omega) (by omega) (by omega) (by omega) fun h2 r q1 q2 q3 q4=>?_
    dsimp only
    refine hj2 _ _ _ r (by omega) e1 e2 e4 rfl e6 q2 (q3.mono (by omega)) ?_ ?_ ?_
    ·rw[q4 _ (.inl (by omega)) (by omega) (by omega)]; exact g0
    ·rw[q4 _ (.inl (by omega)) (by omega) (by omega)]; exact g1
    ·rw[aLU,hgd,if_pos hk]; exact q1.keep (by omega) fun _ _ _ _ hg=>hg
   ·refine iF (by simp[hk]) ?_
    refine hj2 _ _ _ lv (by omega) e1 e2 e4 e5 e6 hs (hf'.mono (by omega)) g0 g1 ?_
    rw[aLU,hgd,if_neg hk,List.append_nil]; exact ho.keep (by omega) fun _ _ _ _ hg=>hg
  ·refine iF (by simp; omega) ?_
   refine hx _ _ _ _ (fun e=>by cases e) (eE (dG ?_))
   have hi2:i=256:=by omega
   subst hi2
   unfold aA3
   have f4:∀ a b,dL.put (dL.put e 7 a) 8 b 4=ptr (nx+1):=fun a b=>e4
   have f5:∀ a b,dL.put (dL.put e 7 a) 8 b 5=lv:=fun a b=>e5
   simp only[puts,f4,f5]
   refine aNH (fun b hb=>aTD hb) (Nat.le_trans (aNw c k 256) (by omega)) (hf'.mono (by omega)) ho.sl fun n2 hn2=>?_
   refine aA (nD (l:=qU 0) (vs:=qU (aRU c k)) g1 rfl rfl rfl rfl) ?_
   refine aA (dW (by rw[T.get_upd_same]) rfl) ?_
   exact⟨h,hs.new hf (by omega),hK _ (by omega)⟩
 ·exact ((aZ.refl h).new hf (Nat.le_refl _)).new hf (by omega)
 ·exact (hf.upd (m:=nx+4) (by omega) (by omega)).upd (Nat.le_refl _) (by omega)
 ·simp (disch:=first | omega | exact Int.natCast_nonneg _ | assumption) only [BB,B2,↓reduceIte,Nat.reduceLeDiff,Nat.reduceAdd,bD,bI,bL,bK,bJ,bH,pN]
 ·simp (disch:=first | omega | exact Int.natCast_nonneg _ | assumption) only [BB,B2,↓reduceIte,Nat.reduceLeDiff,Nat.reduceAdd,bD,bI,bL,bK,bJ,bH,iR]
def lst (m i:Nat):List Nat:=(List.range i).filter fun b=>m.testBit b
def aQO (m:Nat):List Nat:=lst m 256
theorem aLQ (m i:Nat):lst m (i+1)=lst m i++(if m.testBit i=true then [i] else []):=by
 unfold lst
 rw[List.range_succ,List.filter_append,aG7]
theorem aRd (m i:Nat):(lst m i).length≤i:=by
 unfold lst
 refine Nat.le_trans (List.length_filter_le _ _) ?_
 simp
set_option maxRecDepth 4000 in
theorem aJo {ro:Ro}{m:Nat}{h:T Obj}{nx:Nat}{K:KV} (hf:Fr h nx) (hK:∀ r h' nx',nx≤nx'→aZ h h'→Fr h' nx'→Own h' r 1 cI (cC (aQO m)) nx nx'→K r h' nx'):aO Tryz.prog ro aAQ [aEU m] h nx K:=by
 apply aHy
 unfold aHD
 refine aE ?_
 refine bM (fun j e h' nx'=>∃ (i:Nat) (lv:Value),i+j=256∧nx+1≤nx'∧e 1=ptr nx∧e 3=lv∧e 4=.int .i64 i∧aZ h h'∧Fr h' nx' ∧
  h'.get nx=some (.cells (qU m).toArray eY)∧Own h' lv 1 cI (cC (lst m i)) (nx+1) nx') ?_ (n:=256) ⟨0,_,by omega,by omega,rfl,rfl,rfl,?_,?_,?_,Own.nil⟩
 ·rintro j e h' nx' ⟨i,lv,hij,hnx,e1,e3,e4,hs,hf',g0,ho⟩ Q' hq hx
  unfold aCl
  rw[e1,e3,e4]
  (repeat refine zzI ?_)
  by_cases hi:i < 256
  ·refine iG (by simp; omega) ?_
   refine aA (dW g0 rfl) ?_
   (repeat refine zzI ?_)
   refine aFR hi (hf'.mono (by omega)) fun n1 hn1=>?_
   have hj2:∀ (e:dL) (h1:T Obj) (n2:Nat) (lv:Value),nx'≤n2→e 1=ptr nx→e 3=lv→e 4=.int .i64 i→aZ h h1→Fr h1 n2→h1.get nx=some (.cells (qU m).toArray eY) →
     Own h1 lv 1 cI (cC (lst m (i+1))) (nx+1) n2→tV ro Q' e h1 n2:=by
    intro e h1 n2 lv hn2 e1 e3 e4 hs1 hf1 g0 ho1
    unfold tV
    rw[e4]
    (repeat refine zzI ?_)
    exact hq (j - 1) _ _ _ _ (by omega) ⟨i+1,lv,by omega,by omega,e1,e3,rfl,hs1,hf1.mono (by omega),g0,ho1.keep (by omega) fun _ _ _ _ hg=>hg⟩ (aZ.refl _)
   cases hb:m.testBit i with
   | true =>
    refine iG rfl ?_
    (repeat refine zzI ?_)
    refine xV (h0:=h) (nx0:=nx) (nx:=n1) (lo:=nx+1) (hi:=nx') ho (Nat.le_trans (aRd _ _) (by omega)) (hf'.mono (by omega)) hs hf (by omega) (by omega) (by omega) (by omega) (by omega) (by omega) fun h2 r q1 q2 q3 q4=>?_
    dsimp only
    refine hj2 _ _ _ r (by omega) e1 rfl e4 q2 (q3.mono (by omega)) ?_ ?_
    ·rw[q4 _ (.inl (by omega)) (by omega) (by omega)]; exact g0
    ·rw[aLQ,hb,if_pos rfl]; exact q1.keep (by omega) fun _ _ _ _ hg=>hg
   | false =>
    refine iF rfl ?_
    refine hj2 _ _ _ lv (by omega) e1 e3 e4 hs (hf'.mono (by omega)) g0 ?_
    rw[aLQ,hb,if_neg (by simp),List.append_nil]; exact ho.keep (by omega) fun _ _ _ _ hg=>hg
  ·refine iF (by simp; omega) ?_
   refine hx _ _ _ _ (fun e=>by cases e) (eE (dG ?_))
   have hi2:i=256:=by omega
   subst hi2
   unfold zD
   have f3:∀ a b,dL.put (dL.put e 5 a) 6 b 3=lv:=fun a b=>e3
   simp only[puts,f3]
   refine⟨h',aZ.refl _,hK _ _ _ (by omega) hs (hf'.mono (by omega)) ?_⟩
   rcases ho with ho | ⟨id,h1,h2,h3⟩
   ·exact .inl ho
   ·exact .inr ⟨id,by omega,by omega,h3⟩
 ·exact (aZ.refl h).new hf (Nat.le_refl _)
 ·exact hf.upd (m:=nx+4) (by omega) (by omega)
 ·simp (disch:=first | omega | exact Int.natCast_nonneg _ | assumption) only [BB,B2,↓reduceIte,Nat.reduceLeDiff,Nat.reduceAdd,bD,bI,bL,bK,bJ,bH,iR]
set_option maxRecDepth 20000
def lb (c:List Nat) (k i:Nat):Nat:=((List.range' i (256 - i)).find? fun b=>decide (c.getD b 0=k)).getD 0
def aBX (c:List Nat) (n:Int):List Nat:=if n < 1∨256 < n then [] else (List.range n.toNat).map fun k=>lb c k 0
theorem aOi {c:List Nat}{k:Int}:aQO (aRU c k)=mem c k 256:=by
 unfold aQO lst mem
 apply List.filter_congr
 intro b hb
 have hb:=List.mem_range.1 hb
 unfold aRU
 rw[aFn]
 simp[mem,hb]
theorem aQX {c:List Nat}{k:Nat}:(mem c (k:Int) 256).head?.getD 0=lb c k 0:=by
 unfold mem lb
 rw[List.head?_filter]
 have:(fun b=>decide (((c.getD b 0:Nat):Int)=(k:Int)))=fun b=>decide (c.getD b 0=k):=by
  funext b
  by_cases h:c.getD b 0=k
  ·rw[decide_eq_true h,decide_eq_true (by rw[h])]
  ·rw[decide_eq_false h,decide_eq_false (by omega)]
 rw[this,← List.range_eq_range']
set_option maxRecDepth 4000 in
theorem aIA {ro:Ro}{c:List Nat}{n:Int} (hc:c.length=256) (hcl:∀ x∈c,x < 256) {h:T Obj}{nx:Nat}{K:KV} (hf:Fr h nx) (hK:∀ r h' nx',nx≤nx'→aZ h h'→Fr h' nx'→Own h' r 1 cI (cC (aBX c n)) nx nx'→K r h' nx'):aO Tryz.prog ro tQ [pZ c n] h nx K:=by
 apply aHF
 unfold aFT
 refine aE ?_
 have hg:=vW (n:=n) hc
 have g0:(h.upd nx (some (.cells (Value.cells (pZ c n)) eM))).get nx=some (.cells (gF c n).toArray eM):=by rw[T.get_upd_same]; rfl
 have hs0:aZ h (h.upd nx (some (.cells (Value.cells (pZ c n)) eM))):=(aZ.refl h).new hf (Nat.le_refl _)
 have hf0:Fr (h.upd nx (some (.cells (Value.cells (pZ c n)) eM))) (nx+1):=(hf.mono (Nat.le_succ _)).upd (Nat.le_refl _) (by omega)
 generalize (h.upd nx (some (.cells (Value.cells (pZ c n)) eM)))=h0 at g0 hs0 hf0
 (have zz:=And.intro g0 hg;repeat refine zzIz ?_)
 by_cases h1:n < 1
 ·rw[decide_eq_true h1]
  (have zz:=And.intro g0 hg;repeat refine zzIz ?_)
  exact⟨h0,aZ.refl _,hK _ _ _ (by omega) hs0 (hf0.mono (by omega)) (by unfold aBX; rw[if_pos (.inl h1)]; exact Own.nil)⟩
 rw[decide_eq_false h1]
 (have zz:=And.intro g0 hg;repeat refine zzIz ?_)
 by_cases h2:256 < n
 ·rw[decide_eq_true h2]
  (have zz:=And.intro g0 hg;repeat refine zzIz ?_)
  exact⟨h0,aZ.refl _,hK _ _ _ (by omega) hs0 (hf0.mono (by omega)) (by unfold aBX; rw[if_pos (.inr h2)]; exact Own.nil)⟩
 rw[decide_eq_false h2]
 obtain⟨k0,rfl⟩:∃ k0:Nat,n=(k0:Int):=⟨n.toNat,by omega⟩
 (have zz:=And.intro g0 hg;repeat refine zzIz ?_)
 refine bM (fun j e h' nx'=>∃ (i:Nat) (lv:Value),i+j=k0∧nx+1≤nx'∧e 1=ptr nx∧e 3=lv∧e 4=.int .i64 (i:Int)∧aZ h h'∧Fr h' nx' ∧
  h'.get nx=some (.cells (gF c k0).toArray eM)∧Own h' lv 1 cI (cC ((List.range i).map fun k=>lb c k 0)) (nx+1) nx') ?_ (n:=k0) ⟨0,_,by omega,by omega,rfl,rfl,rfl,hs0,hf0.mono (by omega),g0,Own.nil⟩
 rintro j e h' nx' ⟨i,lv,hij,hnx,e1,e3,e4,hs,hf',g0,ho⟩ Q' hq hx
 unfold aBe
 rw[e1,e3,e4]
 (have zz:=And.intro g0 hg;repeat refine zzIz ?_)
 by_cases hi:i < k0
 ·refine iG (by simp; omega) ?_
  refine aA (dW g0 (fM hc)) ?_
  refine aLj (n:=(k0:Int)) hc hcl (hf'.mono (by omega)) fun n1 hn1=>?_
  refine aJo (hf'.mono (by omega)) fun r h2 n2 hn2 hs2 hf2 hr=>?_
  rw[aOi] at hr
  have hlen:=(hr.sl (ro:=ro)).len
  rw[dJ] at hlen
  refine aA hlen ?_
  (repeat refine zzI ?_)
  have hrange:(List.range (i+1)).map (fun k=>lb c k 0)=(List.range i).map (fun k=>lb c k 0)++[lb c i 0]:=by rw[List.range_succ,List.map_append]; rfl
  have hol:((List.range i).map fun k=>lb c k 0).length≤1000000:=by rw[List.length_map,List.length_range]; omega
  have ho2:Own h2 lv 1 cI (cC ((List.range i).map fun k=>lb c k 0)) (nx+1) nx':=ho.keep (Nat.le_refl _) fun id _ _ o hg=>hs2 _ _ hg
  have hj2:∀ (e:dL) (h3:T Obj) (n3:Nat) (lv:Value),nx'≤n3→e 1=ptr nx→e 3=lv→e 4=.int .i64 (i:Int)→aZ h h3→Fr h3 n3→h3.get nx=some (.cells (gF c k0).toArray eM) →
    Own h3 lv 1 cI (cC ((List.range (i+1)).map fun k=>lb c k 0)) (nx+1) n3→rW ro Q' e h3 n3:=by
   intro e h3 n3 lv hn3 e1 e3 e4 hs3 hf3 g0 ho3
   unfold rW
   rw[e4]
   (repeat refine zzI ?_)
   exact hq (j - 1) _ _ _ _ (by omega) ⟨i+1,lv,by omega,by omega,e1,e3,rfl,hs3,hf3.mono (by omega),g0,ho3.keep (by omega) fun _ _ _ _ hg=>hg⟩ (aZ.refl _)
  have hhd:=aQX (c:=c) (k:=i)
  by_cases hm:(mem c (i:Int) 256)=[]
  ·refine iG (by rw[hm]; rfl) ?_
   have hl0:lb c i 0=0:=by rw[← hhd,hm]; rfl
   refine xV (b:=0) (h0:=h) (nx0:=nx) (nx:=n2) (lo:=nx+1) (hi:=nx') ho2 hol hf2 (hs.trans hs2) hf (by omega) (by omega) (by omega) (by omega) (by omega) (by omega) fun h3 r3 q1 q2 q3 q4=>?_
   dsimp only
   refine hj2 _ _ _ r3 (by omega) e1 rfl e4 q2 (q3.mono (by omega)) ?_ ?_
   ·rw[q4 _ (.inl (by omega)) (by omega) (by omega)]; exact hs2 _ _ g0
   ·rw[hrange,hl0]; exact q1.keep (by omega) fun _ _ _ _ hg=>hg
  ·have hpos:0 < (mem c (i:Int) 256).length:=List.length_pos_iff.2 hm
   refine iF (by simp; exact hm) ?_
   have hix:=(hr.sl (ro:=ro)).ix .i64 (i:=0) (by rw[dJ]; exact hpos)
   refine aA hix ?_
   refine aA ((hr.sl (ro:=ro)).load1 (qI hpos)) ?_
   have hl0:(mem c (i:Int) 256)[0]=lb c i 0:=by rw[← hhd,List.head?_eq_getElem?,List.getElem?_eq_getElem hpos]; rfl
   rw[hl0]
   refine xV (h0:=h) (nx0:=nx) (nx:=n2) (lo:=nx+1) (hi:=nx') ho2 hol hf2 (hs.trans hs2) hf (by omega) (by omega) (by omega) (by omega) (by omega) (by omega) fun h3 r3 q1 q2 q3 q4=>?_
   dsimp only
   refine hj2 _ _ _ r3 (by omega) e1 rfl e4 q2 (q3.mono (by omega)) ?_ ?_
   ·rw[q4 _ (.inl (by omega)) (by omega) (by omega)]; exact hs2 _ _ g0
   ·rw[hrange]; exact q1.keep (by omega) fun _ _ _ _ hg=>hg
 ·refine iF (by simp; omega) ?_
  refine hx _ _ _ _ (fun e=>by cases e) (eE (dG ?_))
  have hi2:i=k0:=by omega
  subst hi2
  unfold w7
  have f3:∀ a b c d,dL.put (dL.put (dL.put (dL.put e 14 a) 15 b) 16 c) 17 d 3=lv:=fun a b c d=>e3
  simp only[puts,f3]
  have hfz:aBX c (i:Int)=(List.range i).map fun k=>lb c k 0:=by unfold aBX; rw[if_neg (by omega)]; simp
  refine⟨h',aZ.refl _,hK _ _ _ (by omega) hs (hf'.mono (by omega)) ?_⟩
  rw[hfz]
  rcases ho with ho | ⟨id,q1,q2,q3⟩
  ·exact .inl ho
  ·exact .inr ⟨id,by omega,by omega,q3⟩
end V
end Go.Proofs.YtcaccnneblghgaaGreat
namespace Go.Proofs.YtcaccnneblghgaaGreat
namespace V
attribute [local irreducible] aB bA aW dM eR gI dH
theorem okZ:hY Tryz.prog=true:=by kernel_rfl
theorem okN:pK Tryz.prog=true:=by kernel_rfl
theorem okM:Tryz.prog.follows .mixedOrders=true:=by kernel_rfl
def aO6:Nat→List Value→Option (List Nat × Int)
 | 0,[.int .i64 n]=>some ([],n)
 | k+1,.int .u8 x::r=>match decide (0≤x),decide (x < 256) with
  | true,true=>(aO6 k r).bind fun p=>some (x.toNat::p.1,p.2)
  | _,_=>none
 | _,_=>none
theorem aO7 (k:Nat) (x:Int) (r:List Value):aO6 (k+1) (.int .u8 x::r)=match decide (0≤x),decide (x < 256) with
  | true,true=>(aO6 k r).bind fun p=>some (x.toNat::p.1,p.2)
  | _,_=>none:=rfl
theorem aRX:∀ {k:Nat}{l:List Value}{c:List Nat}{n:Int},aO6 k l=some (c,n)→l=gF c n∧c.length=k∧∀ x∈c,x < 256:=by
 intro k
 induction k with
 | zero =>
  intro l c n h
  unfold aO6 at h
  split at h<;>first
   | (cases h; exact⟨rfl,rfl,by simp⟩)
   | (cases h; done)
   | contradiction
 | succ k ih =>
  intro l c n h
  cases l with
  | nil=>cases h
  | cons v r =>
   have hv:∃ x,v=.int .u8 x:=by
    cases v with
    | int kd x =>
     cases kd with
     | u8=>exact⟨x,rfl⟩
     | _=>cases (show (none:Option (List Nat × Int))=some (c,n) from h)
    | _=>cases (show (none:Option (List Nat × Int))=some (c,n) from h)
   obtain⟨x,rfl⟩:=hv
   rw[aO7] at h
   split at h
   ·rename_i h1 h2
    obtain⟨p,h3,h4⟩:=aP h
    obtain⟨p1,p2⟩:=p
    simp only[Option.some.injEq,Prod.mk.injEq] at h4
    obtain⟨rfl,rfl⟩:=h4
    obtain⟨h5,h6,h7⟩:=ih h3
    simp only[decide_eq_true_eq] at h1 h2
    refine⟨?_,by simp[h6],fun y hy=>?_⟩
    ·rw[h5]
     simp only[gF,u8s,List.map_cons,List.cons_append]
     rw[Int.toNat_of_nonneg h1]
    ·rcases List.mem_cons.1 hy with rfl | hy
     ·omega
     ·exact h7 y hy
   ·cases h
def aTu:aOR:=fun f args=>match Nat.beq f tQ,args with
 | true,[.agg cs]=>match aO6 256 cs.toList with
  | some (c,n)=>match aBX c n with
   | []=>none
   | x::r=>some (1,(x::r).length,(x::r).length,cI,(x::r).map fun b:Nat=>Value.int .u8 (b:Int))
  | none=>none
 | _,_=>none
theorem aCe:∀ l:List Nat,(cC l).flatten=l.map fun b:Nat=>Value.int .u8 (b:Int)
 | []=>rfl
 | x::r=>by
  have:=aCe r
  simp only[cC,List.map_cons,List.flatten_cons] at this ⊢
  rw[this]; rfl
theorem mY:∀ f args z l c e cs,aTu f args=some (z,l,c,e,cs)→aKT Tryz.prog f args z l c cs:=by
 intro f args z l c e cs h
 unfold aTu at h
 split at h
 ·rename_i cells hf
  split at h
  ·rename_i c' n hd
   obtain⟨h1,h2,h3⟩:=aRX hd
   split at h
   ·cases h
   ·rename_i x r hx
    have hne:aBX c' n≠[]:=by rw[hx]; simp
    rw[← hx] at h
    simp only[Option.some.injEq,Prod.mk.injEq] at h
    obtain⟨rfl,rfl,rfl,rfl,rfl⟩:=h
    have hfe:f=tQ:=Nat.eq_of_beq_eq_true hf
    subst hfe
    have hc:(Value.agg cells)=pZ c' n:=by
     unfold pZ
     rw[← h1]
    rw[hc]
    have hlen:0 < (aBX c' n).length:=List.length_pos_iff.2 hne
    refine aRs okZ okN okM ?_ ?_ (by kernel_rfl) (Nat.le_refl _) (by simp) hlen fun ro=>?_
    ·simp[rigid,pZ,gF,u8s,V.flat]
    ·simp[V.flat]
    ·refine aIA h2 h3 Fr.e fun r h' nx' hn hs hf' ho=>?_
     rcases ho with ⟨_,he⟩ | ⟨id,_,_,rfl,_,hg⟩
     ·exact absurd (List.map_eq_nil_iff.1 he) hne
     ·refine⟨id,cI,?_,?_⟩
      ·rw[dJ]; rfl
      ·rw[hg,aCe]
  ·cases h
 ·cases h
end V
end Go.Proofs.YtcaccnneblghgaaGreat
set_option maxRecDepth 8000
namespace Go.Proofs.YtcaccnneblghgaaGreat
namespace V
open Go.ChangeShapes Go.WideShapes Go.ChangeAt Go.RowKit
set_option maxRecDepth 8000
theorem aTr:ownKnob Tryz.prog.godebug=none:=by kernel_rfl
theorem aTI:laidOutB Tryz.prog=true:=by kernel_rfl
section
variable {H:Type}{enc:TypeId × Value→H}{W:World}
theorem aS8 {n:Int} (h:(Lit.int .u8 n).wf=true):0≤n∧n≤255:=by
 simp only[Lit.wf,Bool.and_eq_true,decide_eq_true_eq] at h
 have h1:IntKind.u8.min=0:=rfl
 have h2:IntKind.u8.max=255:=rfl
 rw[h1,h2] at h; exact h
theorem aRr {v:Value}{d:DataW H}{p:List MemPlace} (h:DataW.Trod enc Tryz.prog W 0 (fun _=>true) true cI v d p) {base:Nat} (hval:Value.okWide Tryz.prog W .any base cI v):∃ b:Nat,b < 256∧Arg W.heap.size (.int .u8 (b:Int)) v:=by
 have hu:Tryz.prog.underlying cI=some (.int .u8):=by kernel_rfl
 obtain⟨x,rfl,_,_,hw⟩:=open_int hu hval h
 have:=aS8 hw
 refine⟨x.toNat,by omega,.one ?_⟩
 rw[Int.toNat_of_nonneg this.1]; rfl
theorem aQ8 {v:Value}{d:DataW H}{p:List MemPlace} (h:DataW.Trod enc Tryz.prog W 0 (fun _=>true) true dY v d p) {base:Nat} (hval:Value.okWide Tryz.prog W .any base dY v):∃ x:Int,Arg W.heap.size (.int .i64 x) v:=by
 have hu:Tryz.prog.underlying dY=some (.int .i64):=by kernel_rfl
 obtain⟨x,rfl,_,_,hw⟩:=open_int hu hval h
 exact⟨x,.one rfl⟩
end
end V
end Go.Proofs.YtcaccnneblghgaaGreat
namespace Go.Proofs.YtcaccnneblghgaaGreat
namespace V
attribute [local irreducible] aB bA aW dM eR gI dH
theorem aGs (a b:Value):nth 0 (.tuple #[a,b])=some a:=rfl
theorem aGt (a b:Value):nth 1 (.tuple #[a,b])=some b:=rfl
theorem yP {t:TypeId}{s b:Nat} (h:(tin Tryz.prog t).map (fun i=>(i.size,i.bytes))=some (s,b)):∃ i,tin Tryz.prog t=some i∧i.size=s∧i.bytes=b:=by
 cases hi:tin Tryz.prog t with
 | none=>rw[hi] at h; cases h
 | some i=>rw[hi] at h; simp at h; exact⟨i,rfl,h.1,h.2⟩
theorem aUe:nF Tryz.prog dY=some (.int .i64 0):=by kernel_rfl
section
variable {av bv nv fv:Value}{c:List Nat}{n:Int}{cv sv kv ev yv:Value}
theorem aP2 (hc:c.length=256) (v:Value):(eU c n cv sv).set 258 v=eU c n cv v:=by
 unfold eU
 rw[List.set_append_right _ _ (by rw[fM hc]; omega),fM hc]; rfl
theorem aKY (hc:c.length=256) (v:Value):(eU c n cv sv).set 257 v=eU c n v sv:=by
 unfold eU
 rw[List.set_append_right _ _ (by rw[fM hc]; omega),fM hc]; rfl
end
def eB (ids:List Nat) (h h':T Obj):Prop:=∀ k o,h.get k=some o→k ∉ ids→h'.get k=some o
theorem aZ.keepL {ids:List Nat}{h h':T Obj} (hs:aZ h h'):eB ids h h':=fun k o hk _=>hs k o hk
theorem eB.trans {ids:List Nat}{a b c:T Obj} (h1:eB ids a b) (h2:eB ids b c):eB ids a c:=fun k o hk hi=>h2 k o (h1 k o hk hi) hi
theorem eB.mono {ids ids':List Nat}{a b:T Obj} (h1:eB ids a b) (h2:∀ k,k∈ids→k∈ids'):eB ids' a b:=fun k o hk hi=>h1 k o hk fun h=>hi (h2 k h)
theorem eB.upd {ids:List Nat}{a b:T Obj}{i:Nat}{o:Option Obj} (h1:eB ids a b) (hi:i∈ids):eB ids a (b.upd i o):=fun k x hk hn=>by
 rw[T.get_upd_ne _ _ (fun e=>hn (by rw[e]; exact hi))]; exact h1 k x hk hn
def del (h:T Obj):List Nat→T Obj
 | []=>h
 | i::l=>(del h l).upd i none
theorem lD {h:T Obj}:∀ {l:List Nat}{k:Nat},(del h l).get k=if k∈l then none else h.get k
 | [],k=>by simp[del]
 | i::l,k=>by
  show ((del h l).upd i none).get k=_
  by_cases hk:k=i
  ·subst hk; rw[T.get_upd_same]; simp
  ·rw[T.get_upd_ne _ _ hk,lD]; simp[hk]
theorem cX (h:T Obj) (l:List Nat):aZ (del h l) h:=fun k o hk=>by
 rw[lD] at hk
 split at hk
 ·cases hk
 ·exact hk
theorem jL {h:T Obj}{l:List Nat}{k:Nat}{o:Obj} (hk:h.get k=some o) (hn:k ∉ l):(del h l).get k=some o:=by rw[lD,if_neg hn]; exact hk
theorem eB.del {ids l l':List Nat}{h h':T Obj} (hk:eB ids h h') (h1:∀ k,k∈ids→k∈l) (h2:∀ k,k∈l'→k∈l∨h.get k=none):aZ (del h l) (del h' l'):=fun k o hg=>by
 rw[lD] at hg
 split at hg
 ·cases hg
 ·rename_i hn
  refine jL (hk k o hg fun h=>hn (h1 k h)) fun hm=>?_
  rcases h2 k hm with h3 | h3
  ·exact hn h3
  ·rw[h3] at hg; cases hg
theorem eD.keepK {ids:List Nat}{h h':T Obj}{v:Value}{z:Nat}{e:TypeId}{l:List (List Value)}{lo:Nat} (ho:eD h v z e l lo) (hk:eB ids h h') (hne:∀ id,jU v=some id→id ∉ ids):eD h' v z e l lo:=by
 rcases ho with ho | ⟨id,h1,rfl,h4,h5⟩
 ·exact .inl ho
 ·exact .inr ⟨id,h1,rfl,h4,hk id _ h5 (hne id rfl)⟩
theorem eD.del {h:T Obj}{v:Value}{z:Nat}{e:TypeId}{l:List (List Value)}{lo:Nat}{ids:List Nat} (ho:eD h v z e l lo) (hne:∀ id,jU v=some id→id ∉ ids):eD (del h ids) v z e l lo:=by
 rcases ho with ho | ⟨id,h1,rfl,h4,h5⟩
 ·exact .inl ho
 ·exact .inr ⟨id,h1,rfl,h4,jL h5 (hne id rfl)⟩
theorem eD.blk {h:T Obj}{v:Value}{z:Nat}{e:TypeId}{l:List (List Value)}{lo id:Nat} (ho:eD h v z e l lo) (hb:jU v=some id):lo≤id∧h.get id=some (.cells l.flatten.toArray e):=by
 rcases ho with ⟨rfl,_⟩ | ⟨i,h1,rfl,h4,h5⟩
 ·cases hb
 ·have:i=id:=Option.some.inj hb
  subst this; exact⟨h1,h5⟩
theorem eD.ok {h:T Obj}{v:Value}{z:Nat}{e:TypeId}{l:List (List Value)}{lo:Nat} (ho:eD h v z e l lo):eA v=true:=(ho.sl (ro:=fun _=>none)).ok
abbrev dU:Value:=.slice none 0 0
theorem aRA:iM Tryz.prog fY=some (.slice dY):=by kernel_rfl
theorem aQv:∃ i,tin Tryz.prog dY=some i∧i.size=1∧i.bytes=8:=yP (by kernel_rfl)
theorem tN:nF Tryz.prog bG=some (.agg #[dU,dU,dU,dU]):=by kernel_rfl
theorem aOl (aid:Nat) (a b c d:Value):b7 Tryz.prog j5 aid 1 [(0,.agg #[a,b,c,d])]=some (.slice (some (own aid 4)) 1 1,some (.cells [a,b,c,d].toArray bG)):=by kernel_rfl
theorem aN5:iM Tryz.prog j5=some (.slice bG):=by kernel_rfl
theorem aPK:∃ i,tin Tryz.prog bG=some i∧i.size=4∧i.bytes=96:=yP (by kernel_rfl)
def aJi (l:List Nat):List (List Value):=l.map fun b:Nat=>[Value.int .u8 (b:Int)]
theorem aEE (l:List Nat):(aJi l).length=l.length:=by simp[aJi]
theorem aE0:nF Tryz.prog bR=some (.agg #[.int .i64 0,dU]):=by kernel_rfl
theorem aPQ:iM Tryz.prog fN=some (.slice bR):=by kernel_rfl
theorem aQt:∃ i,tin Tryz.prog bR=some i∧i.size=2∧i.bytes=32:=yP (by kernel_rfl)
theorem t7 {h:T Obj}{l l':List Nat} (hl:∀ k,k∈l→k∈l'):aZ (del h l') (del h l):=fun k o hk=>by
 rw[lD] at hk
 split at hk
 ·cases hk
 ·rename_i hn
  exact jL hk fun h=>hn (hl k h)
theorem eB.delS {ids l:List Nat}{h h':T Obj} (hk:eB ids h h') (hl:∀ k,k∈ids→k∈l):aZ (V.del h l) h':=fun k o hg=>by
 rw[lD] at hg
 split at hg
 ·cases hg
 ·rename_i hn; exact hk k o hg fun h=>hn (hl k h)
def aAK:List Value:=eU (List.replicate 256 0) 0 dU dU
theorem aHe:nF Tryz.prog cD=some (.agg aAK.toArray):=by kernel_rfl
theorem wF:aAK.length=259:=d5 List.length_replicate
theorem aZ.delN {h h':T Obj}{ids:List Nat}{n:Nat} (hs:aZ h h') (hf:Fr h n) (hi:∀ i∈ids,n≤i):aZ h (V.del h' ids):=fun k o hk=>jL (hs k o hk) fun hm=>by
 have:=hf.lt' hk
 have:=hi k hm
 omega
def aHo (l:List (Int × Int)):List (List Value):=l.map fun p=>[.int .i64 p.1,.int .i64 p.2]
theorem aDg (l:List (Int × Int)):(aHo l).length=l.length:=by simp[aHo]
theorem aTc {ro:Ro}{h:T Obj}{v:Value}{l:List (Int × Int)}{lo:Nat} (ho:eD h v 2 iN (aHo l) lo):iO ro h v 2 aAG l:=⟨aHo l,ho.sl,aDg l,fun i x d hx hd=>by
 unfold aHo at hx
 rw[List.getElem?_map,hd] at hx
 exact (Option.some.inj hx).symm⟩
end V
end Go.Proofs.YtcaccnneblghgaaGreat
namespace Go.Proofs.YtcaccnneblghgaaGreat
namespace V
attribute [local irreducible] tP aO aB
abbrev jM:FuncId:=18
abbrev jA:FuncId:=19
abbrev pS:FuncId:=46
abbrev oW:FuncId:=50
abbrev tF:FuncId:=84
abbrev oS:FuncId:=123
abbrev pR:FuncId:=124
abbrev pQ:FuncId:=125
abbrev nS:FuncId:=129
abbrev oV:FuncId:=130
abbrev oU:FuncId:=131
abbrev nI:FuncId:=160
abbrev lJ:FuncId:=161
abbrev lG:FuncId:=162
abbrev mA:FuncId:=163
abbrev lH:FuncId:=168
abbrev iP:FuncId:=169
abbrev lI:FuncId:=170
abbrev pH:FuncId:=172
abbrev pI:FuncId:=173
abbrev oT:FuncId:=186
abbrev qF:FuncId:=188
abbrev qE:FuncId:=189
abbrev uT:FuncId:=194
abbrev uS:FuncId:=195
abbrev gX:FuncId:=196
@[irreducible] def x8 (ro:Ro) (K:KV):dL→T Obj→Nat→Prop:=fun e h nx=>∃ h14,aZ h14 h∧K (.tuple #[(e 4),(Value.int IntKind.i64 0)]) h14 (nx+3)
@[irreducible] def aFG (ro:Ro):PT:=fun e h nx Q=>aB (aQ .lss (e 19) (e 18)) fun d'=>aW d' (aB (cQ 2 (e 17) (e 19)) fun g'=>aB (loadA ro h 2 g') fun h'=>aB (nF Tryz.prog iN) fun u'=>dM h (nx+3) (.cells u'.cells iN) fun v'=>aB (bU 2 v' (ptr (nx+3)) h') fun n'=>aB (ixArr 2 1 (ptr (nx+3)) (Value.int IntKind.i64 1)) fun i'=>aB (load1 ro n' i') fun j'=>aO Tryz.prog ro aDS [j'] n' (nx+8) fun b' k' e'=>aB (nth 0 b') fun c'=>aB (nth 1 b') fun a'=>aB (aQ .neq a' (Value.int IntKind.i64 0)) fun l'=>aW l' (Q .ret (puts e [(20,d'),(21,g'),(22,h'),(6,(ptr (nx+3))),(24,i'),(25,j'),(26,b'),(23,b'),(27,c'),(28,a'),(7,c'),(8,a'),(29,a'),(30,l'),(31,a'),(2,(Value.pointer none)),(3,a')]) k' (e'+10)) (aB (bF (e 4)) fun o'=>aB (aT 260 o') fun p'=>aB (load1 ro k' p') fun q'=>aB (b7 Tryz.prog nM (e'+13) 1 [(0,c')]) fun m'=>eR k' (e'+13) m'.2 fun w'=>aB (cZ Tryz.prog ro w' (e'+15) #[nM,nM] [q',m'.1]) fun f'=>aB (bF (e 4)) fun r'=>aB (aT 260 r') fun s'=>aB (bU 1 f'.2.1 s' f'.1) fun x'=>aB (aQ .add (e 19) (Value.int IntKind.i64 1)) fun t'=>Q .normal (puts e [(20,d'),(21,g'),(22,h'),(6,(ptr (nx+3))),(24,i'),(25,j'),(26,b'),(23,b'),(27,c'),(28,a'),(7,c'),(8,a'),(29,a'),(30,l'),(32,(e 4)),(33,(e 4)),(34,o'),(35,p'),(36,q'),(37,c'),(38,m'.1),(39,f'.1),(40,r'),(41,s'),(42,t'),(19,t')]) x' (f'.2.2+5))) (Q (.exit 0) (puts e [(20,d')]) h (nx+1))
@[irreducible] def aKn (ro:Ro) (v0:Value) (h:T Obj) (nx:Nat) (K:KV):Prop:=dM h nx (.cells (Value.cells v0) cD) fun h1=>aB (loadA ro h1 259 (ptr nx)) fun e'=>aO Tryz.prog ro vI [e'] h1 (nx+5) fun f' h4 n5=>aB (unV .not f') fun g'=>aW g' (∃ h7,aZ h7 h4∧K (.tuple #[(Value.pointer none),(Value.int IntKind.i64 1)]) h7 (n5+3)) (aB (loadA ro h4 259 (ptr nx)) fun h'=>aO Tryz.prog ro yW [h'] h4 (n5+3) fun i' o' a'=>aB (fG Tryz.prog cE [(0,i')]) fun j'=>dM o' (a'+1) (.cells (Value.cells j') cE) fun k'=>aB (aT 257 (ptr nx)) fun l'=>aB (load1 ro k' l') fun m'=>aB (bS m') fun p'=>dZ (aFG ro) (puts (fT [v0]) [(1,(ptr nx)),(2,(Value.pointer none)),(3,(Value.int IntKind.i64 0)),(9,e'),(10,f'),(11,g'),(12,h'),(13,i'),(14,j'),(15,(ptr (a'+1))),(4,(ptr (a'+1))),(16,l'),(17,m'),(18,p'),(19,(Value.int IntKind.i64 0))]) k' (a'+7) fun q' b' c' d'=>gI q' (x8 ro K b' c' d') (fun r'=>dH (Nat.beq r' 0) (x8 ro K b' c' d') (False)) (∃ n',aZ n' c'∧K (.tuple #[(b' 2),(b' 3)]) n' d'))
theorem aKo {ro:Ro}{v0:Value}{h:T Obj}{nx:Nat}{K:KV} (hw:aKn ro v0 h nx K):aO Tryz.prog ro aDN [v0] h nx K:=zzO (fn:=Tryz.f39) hw
@[irreducible] def oO (ro:Ro) (K:KV):dL→T Obj→Nat→Prop:=fun e h nx=>∃ h6,aZ h6 h∧K (e 3) h6 (nx+2)
@[irreducible] def uD (ro:Ro):PT:=fun e h nx Q=>aB (aQ .lss (e 17) (e 16)) fun b'=>aW b' (aB (cQ 1 (e 15) (e 17)) fun c'=>aB (load1 ro h c') fun a'=>aO Tryz.prog ro tF [a'] h (nx+7) fun d' g' h'=>aB (aQ .add (e 3) d') fun e'=>aB (aQ .add (e 17) (Value.int IntKind.i64 1)) fun f'=>Q .normal (puts e [(18,b'),(19,c'),(20,a'),(5,a'),(21,(e 3)),(22,a'),(23,d'),(24,e'),(3,e'),(25,f'),(17,f')]) g' (h'+4)) (Q (.exit 0) (puts e [(18,b')]) h (nx+1))
@[irreducible] def x6 (ro:Ro) (v0:Value) (h:T Obj) (nx:Nat) (K:KV):Prop:=aB (xU .eql v0 (Value.pointer none)) fun d'=>aW d' (∃ h2,aZ h2 h∧K (Value.int IntKind.i64 0) h2 (nx+4)) (aB (bF v0) fun e'=>aB (aT 261 e') fun f'=>aB (load1 ro h f') fun g'=>aB (bF v0) fun h'=>aB (aT 260 h') fun i'=>aB (load1 ro h i') fun j'=>aB (bS j') fun l'=>dZ (uD ro) (puts (fT [v0]) [(2,(Value.int IntKind.i64 0)),(6,v0),(7,d'),(8,v0),(9,e'),(10,f'),(11,g'),(3,g'),(12,v0),(13,h'),(14,i'),(15,j'),(16,l'),(17,(Value.int IntKind.i64 0))]) h (nx+14) fun m' a' b' c'=>gI m' (oO ro K a' b' c') (fun n'=>dH (Nat.beq n' 0) (oO ro K a' b' c') (False)) (∃ k',aZ k' b'∧K (a' 2) k' c'))
theorem aBV {ro:Ro}{v0:Value}{h:T Obj}{nx:Nat}{K:KV} (hw:x6 ro v0 h nx K):aO Tryz.prog ro pS [v0] h nx K:=zzO (fn:=Tryz.f46) hw
@[irreducible] def vS (ro:Ro) (K:KV):dL→T Obj→Nat→Prop:=fun e h nx=>∃ h11,aZ h11 h∧K (.tuple #[(e 4),(Value.int IntKind.i64 0)]) h11 (nx+3)
@[irreducible] def aEM (ro:Ro):PT:=fun e h nx Q=>aB (aT 257 (e 1)) fun b'=>aB (load1 ro h b') fun c'=>aB (bS c') fun d'=>aB (aQ .lss (e 5) d') fun e'=>aW e' (aB (bF (e 4)) fun h'=>aB (aT 260 h') fun f'=>aB (load1 ro h f') fun i'=>aB (aT 257 (e 1)) fun j'=>aB (load1 ro h j') fun k'=>aB (cQ 2 k' (e 5)) fun l'=>aB (ixArr 2 1 l' (Value.int IntKind.i64 1)) fun m'=>aB (load1 ro h m') fun n'=>aO Tryz.prog ro aB2 [n'] h (nx+22) fun o' p' t'=>(gZ f' h p')∧(aB (b7 Tryz.prog hN (nx+17) 1 [(0,o')]) fun g'=>eR p' (nx+17) g'.2 fun u'=>aB (cZ Tryz.prog ro u' t' #[hN,hN] [i',g'.1]) fun a'=>aB (bF (e 4)) fun q'=>aB (aT 260 q') fun r'=>aB (bU 1 a'.2.1 r' a'.1) fun v'=>aB (aQ .add (e 5) (Value.int IntKind.i64 1)) fun s'=>Q .normal (puts e [(12,(e 5)),(13,b'),(14,c'),(15,d'),(16,e'),(19,(e 4)),(20,(e 4)),(21,h'),(22,f'),(23,i'),(24,j'),(25,k'),(26,(e 5)),(27,l'),(28,m'),(29,n'),(30,o'),(31,g'.1),(32,a'.1),(33,q'),(34,r'),(17,(e 5)),(18,s'),(5,s')]) v' (a'.2.2+3))) (Q (.exit 0) (puts e [(12,(e 5)),(13,b'),(14,c'),(15,d'),(16,e')]) h (nx+5))
@[irreducible] def aIu (ro:Ro) (v0:Value) (h:T Obj) (nx:Nat) (K:KV):Prop:=dM h nx (.cells (Value.cells v0) cD) fun h1=>aB (loadA ro h1 259 (ptr nx)) fun d'=>aO Tryz.prog ro tR [d'] h1 (nx+5) fun e' h4 n5=>aB (unV .not e') fun f'=>aW f' (∃ h7,aZ h7 h4∧K (.tuple #[(Value.pointer none),(Value.int IntKind.i64 1)]) h7 (n5+3)) (aB (loadA ro h4 259 (ptr nx)) fun g'=>aB (fG Tryz.prog bN [(0,g')]) fun h'=>dM h4 (n5+3) (.cells (Value.cells h') bN) fun j'=>dZ (aEM ro) (puts (fT [v0]) [(1,(ptr nx)),(2,(Value.pointer none)),(3,(Value.int IntKind.i64 0)),(6,d'),(7,e'),(8,f'),(9,g'),(10,h'),(11,(ptr (n5+3))),(4,(ptr (n5+3))),(5,(Value.int IntKind.i64 0))]) j' (n5+6) fun k' a' b' c'=>gI k' (vS ro K a' b' c') (fun l'=>dH (Nat.beq l' 0) (vS ro K a' b' c') (False)) (∃ i',aZ i' b'∧K (.tuple #[(a' 2),(a' 3)]) i' c'))
theorem aJu {ro:Ro}{v0:Value}{h:T Obj}{nx:Nat}{K:KV} (hw:aIu ro v0 h nx K):aO Tryz.prog ro aB3 [v0] h nx K:=zzO (fn:=Tryz.f47) hw
@[irreducible] def nT (ro:Ro) (K:KV):dL→T Obj→Nat→Prop:=fun e h nx=>∃ h4,aZ h4 h∧K (e 3) h4 (nx+2)
@[irreducible] def sY (ro:Ro):PT:=fun e h nx Q=>aB (bF (e 0)) fun a'=>aB (aT 260 a') fun b'=>aB (load1 ro h b') fun c'=>aB (bS c') fun d'=>aB (aQ .lss (e 4) d') fun e'=>aW e' (aB (bF (e 0)) fun f'=>aB (aT 260 f') fun g'=>aB (load1 ro h g') fun h'=>aB (cQ 1 h' (e 4)) fun i'=>aB (load1 ro h i') fun j'=>aB (bF j') fun k'=>aB (aT 1 k') fun l'=>aB (load1 ro h l') fun m'=>aB (aQ .add (e 3) m') fun n'=>aB (aQ .add (e 4) (Value.int IntKind.i64 1)) fun o'=>Q .normal (puts e [(9,(e 4)),(10,(e 0)),(11,a'),(12,b'),(13,c'),(14,d'),(15,e'),(18,(e 3)),(19,(e 0)),(20,f'),(21,g'),(22,h'),(23,(e 4)),(24,i'),(25,j'),(26,k'),(27,l'),(28,m'),(29,n'),(3,n'),(16,(e 4)),(17,o'),(4,o')]) h (nx+23)) (Q (.exit 0) (puts e [(9,(e 4)),(10,(e 0)),(11,a'),(12,b'),(13,c'),(14,d'),(15,e')]) h (nx+7))
@[irreducible] def xI (ro:Ro) (v0:Value) (h:T Obj) (nx:Nat) (K:KV):Prop:=aB (bF v0) fun d'=>aB (aT 261 d') fun e'=>aB (load1 ro h e') fun f'=>dZ (sY ro) (puts (fT [v0]) [(2,(Value.int IntKind.i64 0)),(5,v0),(6,d'),(7,e'),(8,f'),(3,f'),(4,(Value.int IntKind.i64 0))]) h (nx+7) fun h' a' b' c'=>gI h' (nT ro K a' b' c') (fun i'=>dH (Nat.beq i' 0) (nT ro K a' b' c') (False)) (∃ g',aZ g' b'∧K (a' 2) g' c')
theorem aAz {ro:Ro}{v0:Value}{h:T Obj}{nx:Nat}{K:KV} (hw:xI ro v0 h nx K):aO Tryz.prog ro oW [v0] h nx K:=zzO (fn:=Tryz.f50) hw
@[irreducible] def rL (ro:Ro) (K:KV):dL→T Obj→Nat→Prop:=fun e h nx=>aB (loadA ro h 259 (e 3)) fun c'=>aB (bU 259 h (e 2) c') fun a'=>aB (loadA ro a' 259 (e 2)) fun d'=>∃ b',aZ b' a'∧K d' b' (nx+2)
@[irreducible] def rM (ro:Ro) (Q:KE):dL→T Obj→Nat→Prop:=fun e h nx=>aB (aQ .add (e 21) (Value.int IntKind.i64 1)) fun a'=>Q .normal (puts e [(69,a'),(21,a')]) h (nx+2)
@[irreducible] def rN (ro:Ro) (Q:KE):dL→T Obj→Nat→Prop:=fun e h nx=>aB (aT 258 (e 3)) fun c'=>aB (load1 ro h c') fun d'=>aB (loadA ro h 4 (e 6)) fun e'=>aB (b7 Tryz.prog j5 (nx+3) 1 [(0,e')]) fun b'=>eR h (nx+3) b'.2 fun g'=>aB (cZ Tryz.prog ro g' (nx+5) #[j5,j5] [d',b'.1]) fun a'=>aB (aT 258 (e 3)) fun f'=>aB (bU 1 a'.2.1 f' a'.1) fun h'=>rM ro Q (puts e [(63,c'),(64,d'),(65,e'),(66,b'.1),(67,a'.1),(68,f')]) h' (a'.2.2+2)
@[irreducible] def rO (ro:Ro) (Q:KE):dL→T Obj→Nat→Prop:=fun e h nx=>aB (aQ .add (e 35) (Value.int IntKind.i64 1)) fun a'=>Q .normal (puts e [(62,a'),(35,a')]) h (nx+2)
@[irreducible] def rP (ro:Ro) (Q:KE):dL→T Obj→Nat→Prop:=fun e h nx=>aB (aT 3 (e 6)) fun c'=>aB (load1 ro h c') fun d'=>aB (b7 Tryz.prog hU (nx+3) 1 [(0,(e 9))]) fun b'=>eR h (nx+3) b'.2 fun f'=>aB (cZ Tryz.prog ro f' (nx+5) #[hU,hU] [d',b'.1]) fun a'=>aB (aT 3 (e 6)) fun e'=>aB (bU 1 a'.2.1 e' a'.1) fun g'=>rO ro Q (puts e [(56,c'),(57,d'),(58,(e 9)),(59,b'.1),(60,a'.1),(61,e')]) g' (a'.2.2+2)
@[irreducible] def wO (ro:Ro):PT:=fun e h nx Q=>aB (aQ .lss (e 43) (e 42)) fun a'=>aW a' (aB (cQ 2 (e 41) (e 43)) fun b'=>aB (loadA ro h 2 b') fun c'=>aB (nF Tryz.prog bR) fun k'=>dM h (nx+4) (.cells k'.cells bR) fun l'=>aB (bU 2 l' (ptr (nx+4)) c') fun d'=>aB (aT 1 (ptr (nx+4))) fun e'=>aB (load1 ro d' e') fun f'=>aO Tryz.prog ro j9 [f'] d' (nx+12) fun g' m' n'=>aB (cQ 2 (e 9) (e 43)) fun h'=>aB (aT 1 h') fun i'=>aB (bU 1 m' i' g') fun o'=>aB (aQ .add (e 43) (Value.int IntKind.i64 1)) fun j'=>Q .normal (puts e [(44,a'),(45,(e 43)),(46,b'),(47,c'),(11,(ptr (nx+4))),(10,(e 43)),(48,(e 9)),(49,(e 43)),(50,e'),(51,f'),(52,g'),(53,h'),(54,i'),(55,j'),(43,j')]) o' (n'+5)) (Q (.exit 4) (puts e [(44,a')]) h (nx+1))
@[irreducible] def wN (ro:Ro):PT:=fun e h nx Q=>aB (aQ .lss (e 35) (e 34)) fun f'=>aW f' (aB (cQ 1 (e 33) (e 35)) fun h'=>aB (load1 ro h h') fun d'=>aO Tryz.prog ro gY [d'] h (nx+6) fun e' i' j'=>aB (bS e') fun k'=>dZ (wO ro) (puts e [(36,f'),(37,h'),(38,d'),(8,d'),(39,d'),(40,e'),(9,e'),(41,e'),(42,k'),(43,(Value.int IntKind.i64 0))]) i' (j'+4) fun l' a' b' c'=>gI l' (rP ro Q a' b' c') (fun g'=>dH (Nat.beq g' 4) (rP ro Q a' b' c') (dH (Nat.beq g' 3) (rO ro Q a' b' c') (Q (.exit g') a' b' c'))) (Q .ret a' b' c')) (Q (.exit 2) (puts e [(36,f')]) h (nx+1))
@[irreducible] def wM (ro:Ro):PT:=fun e h nx Q=>aB (aQ .lss (e 21) (e 20)) fun d'=>aW d' (aB (cQ 4 (e 19) (e 21)) fun i'=>aB (loadA ro h 4 i') fun j'=>aB (nF Tryz.prog bG) fun t'=>dM h (nx+3) (.cells t'.cells bG) fun u'=>aB (bU 4 u' (ptr (nx+3)) j') fun e'=>aB (aT 1 (ptr (nx+3))) fun k'=>aB (load1 ro e' k') fun l'=>aO Tryz.prog ro gD [l'] e' (nx+14) fun m' f' v'=>aB (aT 2 (ptr (nx+3))) fun g'=>aB (load1 ro f' g') fun n'=>(gZ g' e' f')∧(aO Tryz.prog ro gD [n'] f' v' fun o' w' x'=>aB (fG Tryz.prog bG [(1,m'),(2,o')]) fun p'=>aB (nF Tryz.prog bG) fun y'=>dM w' (nx+12) (.cells y'.cells bG) fun z'=>aB (bU 4 z' (ptr (nx+12)) p') fun q'=>aB (aT 3 (ptr (nx+3))) fun r'=>aB (load1 ro q' r') fun s'=>aB (bS s') fun A'=>dZ (wN ro) (puts e [(22,d'),(23,i'),(24,j'),(5,(ptr (nx+3))),(25,k'),(26,l'),(27,m'),(28,g'),(29,n'),(30,o'),(31,p'),(6,(ptr (nx+12))),(32,r'),(33,s'),(34,A'),(35,(Value.int IntKind.i64 0))]) q' (x'+4) fun B' a' b' c'=>gI B' (rN ro Q a' b' c') (fun h'=>dH (Nat.beq h' 2) (rN ro Q a' b' c') (dH (Nat.beq h' 1) (rM ro Q a' b' c') (Q (.exit h') a' b' c'))) (Q .ret a' b' c'))) (Q (.exit 0) (puts e [(22,d')]) h (nx+1))
@[irreducible] def aFJ (ro:Ro) (v0:Value) (h:T Obj) (nx:Nat) (K:KV):Prop:=dM h nx (.cells (Value.cells v0) cD) fun h1=>aB (nF Tryz.prog cD) fun z2=>dM h1 (nx+1) (.cells z2.cells cD) fun h3=>aB (aT 0 (ptr nx)) fun b'=>aB (loadA ro h3 257 b') fun e'=>aB (aT 257 (ptr nx)) fun f'=>aB (load1 ro h3 f') fun g'=>aO Tryz.prog ro j8 [g'] h3 (nx+10) fun h' h9 n'=>(gZ b' h3 h9)∧(aB (fG Tryz.prog cD [(0,e'),(1,h')]) fun i'=>aB (nF Tryz.prog cD) fun o'=>dM h9 (nx+8) (.cells o'.cells cD) fun p'=>aB (bU 259 p' (ptr (nx+8)) i') fun j'=>aB (aT 258 (ptr nx)) fun k'=>aB (load1 ro j' k') fun l'=>aB (bS l') fun q'=>dZ (wM ro) (puts (fT [v0]) [(1,(ptr nx)),(2,(ptr (nx+1))),(12,b'),(13,e'),(14,f'),(15,g'),(16,h'),(17,i'),(3,(ptr (nx+8))),(18,k'),(19,l'),(20,q'),(21,(Value.int IntKind.i64 0))]) j' (n'+4) fun r' c' a' d'=>gI r' (rL ro K c' a' d') (fun s'=>dH (Nat.beq s' 0) (rL ro K c' a' d') (False)) (aB (loadA ro a' 259 (c' 2)) fun t'=>∃ m',aZ m' a'∧K t' m' d'))
theorem aG6 {ro:Ro}{v0:Value}{h:T Obj}{nx:Nat}{K:KV} (hw:aFJ ro v0 h nx K):aO Tryz.prog ro yW [v0] h nx K:=zzO (fn:=Tryz.f75) hw
@[irreducible] def aLx (ro:Ro) (v0:Value) (h:T Obj) (nx:Nat) (K:KV):Prop:=aB (aQ .lss v0 (Value.int IntKind.i64 1)) fun a'=>bA a' false h (nx+5) (fun k2=>k2 v0 h (nx+6)) fun e' h4 n5=>bA a' false h4 n5 (fun k6=>aB (aQ .gtr e' (Value.int IntKind.i64 4096)) fun f'=>k6 f' h4 (n5+1)) fun g' h8 n9=>aB (cS a' (Value.bool true) g') fun h'=>aW h' (∃ b',aZ b' h8∧K (.tuple #[(Value.pointer none),(Value.int IntKind.i64 1)]) b' (n9+3)) (aB (aAl Tryz.prog fY (n9+2) v0 v0) fun c'=>eR h8 (n9+2) c'.2 fun i'=>aB (fG Tryz.prog cT [(0,c'.1)]) fun j'=>dM i' (n9+4) (.cells (Value.cells j') cT) fun k'=>∃ d',aZ d' k'∧K (.tuple #[(ptr (n9+4)),(Value.int IntKind.i64 0)]) d' (n9+7))
theorem aLy {ro:Ro}{v0:Value}{h:T Obj}{nx:Nat}{K:KV} (hw:aLx ro v0 h nx K):aO Tryz.prog ro aDS [v0] h nx K:=zzO (fn:=Tryz.f76) hw
@[irreducible] def aBw (ro:Ro) (v0:Value) (h:T Obj) (nx:Nat) (K:KV):Prop:=aB (xU .eql v0 (Value.pointer none)) fun a'=>aW a' (∃ h2,aZ h2 h∧K (Value.int IntKind.i64 0) h2 (nx+4)) (aB (bF v0) fun b'=>aB (aT 4 b') fun c'=>aB (load1 ro h c') fun d'=>∃ h6,aZ h6 h∧K d' h6 (nx+8))
theorem aER {ro:Ro}{v0:Value}{h:T Obj}{nx:Nat}{K:KV} (hw:aBw ro v0 h nx K):aO Tryz.prog ro tF [v0] h nx K:=zzO (fn:=Tryz.f84) hw
@[irreducible] def aIt (ro:Ro) (v0:Value) (h:T Obj) (nx:Nat) (K:KV):Prop:=aB (aQ .add v0 (Value.int IntKind.i64 1)) fun a'=>aB (aAl Tryz.prog aCJ (nx+3) a' a') fun r2=>eR h (nx+3) r2.2 fun h3=>aB (fG Tryz.prog cG [(0,r2.1)]) fun b'=>dM h3 (nx+5) (.cells (Value.cells b') cG) fun h5=>∃ h6,aZ h6 h5∧K (ptr (nx+5)) h6 (nx+7)
theorem aJs {ro:Ro}{v0:Value}{h:T Obj}{nx:Nat}{K:KV} (hw:aIt ro v0 h nx K):aO Tryz.prog ro aB2 [v0] h nx K:=zzO (fn:=Tryz.f85) hw
@[irreducible] def kG (ro:Ro) (Q:KE):dL→T Obj→Nat→Prop:=fun e h nx=>aB (aQ .add (e 14) (Value.int IntKind.i64 1)) fun a'=>Q .normal (puts e [(23,a'),(14,a')]) h (nx+2)
@[irreducible] def sT (ro:Ro):PT:=fun e h nx Q=>aB (aQ .lss (e 14) (e 13)) fun b'=>aW b' (aB (cQ 1 (e 12) (e 14)) fun c'=>aB (load1 ro h c') fun a'=>aO Tryz.prog ro nI [a'] h (nx+6) fun d' f' g'=>aB (aQ .gtr d' (Value.int IntKind.i64 0)) fun e'=>aW e' (aO Tryz.prog ro lJ [a'] f' (g'+3) fun h' i' j'=>kG ro Q (puts e [(15,b'),(16,c'),(17,a'),(3,a'),(18,a'),(19,d'),(20,e'),(21,a'),(22,h')]) i' j') (kG ro Q (puts e [(15,b'),(16,c'),(17,a'),(3,a'),(18,a'),(19,d'),(20,e')]) f' (g'+1))) (Q (.exit 0) (puts e [(15,b')]) h (nx+1))
@[irreducible] def wJ (ro:Ro) (v0:Value) (h:T Obj) (nx:Nat) (K:KV):Prop:=aB (xU .eql v0 (Value.pointer none)) fun c'=>aW c' (∃ h2,aZ h2 h∧K (.tuple #[]) h2 (nx+2)) (aB (bF v0) fun d'=>aB (aT 259 d') fun e'=>aB (bU 1 h e' (Value.int IntKind.i64 0)) fun h5=>aB (bF v0) fun f'=>aB (aT 260 f') fun g'=>aB (load1 ro h5 g') fun h'=>aB (bS h') fun l'=>dZ (sT ro) (puts (fT [v0]) [(4,v0),(5,c'),(6,v0),(7,d'),(8,e'),(9,v0),(10,f'),(11,g'),(12,h'),(13,l'),(14,(Value.int IntKind.i64 0))]) h5 (nx+12) fun m' o' a' b'=>gI m' (∃ i',aZ i' a'∧K (.tuple #[]) i' b') (fun n'=>dH (Nat.beq n' 0) (∃ j',aZ j' a'∧K (.tuple #[]) j' b') (False)) (∃ k',aZ k' a'∧K (.tuple #[]) k' b'))
theorem aAt {ro:Ro}{v0:Value}{h:T Obj}{nx:Nat}{K:KV} (hw:wJ ro v0 h nx K):aO Tryz.prog ro oS [v0] h nx K:=zzO (fn:=Tryz.f123) hw
@[irreducible] def lE (ro:Ro) (K:KV):dL→T Obj→Nat→Prop:=fun e h nx=>aB (aT 0 (e 6)) fun b'=>aB (load1 ro h b') fun c'=>aB (aQ .neq c' (Value.int IntKind.i64 (-1))) fun d'=>∃ a',aZ a' h∧K d' a' (nx+4)
@[irreducible] def uB (ro:Ro):PT:=fun e h nx Q=>aB (aQ .lss (e 94) (e 93)) fun b'=>aW b' (aB (cQ 1 (e 92) (e 94)) fun c'=>aB (load1 ro h c') fun a'=>aB (bF (e 0)) fun d'=>aB (aT 260 d') fun e'=>aB (load1 ro h e') fun f'=>aB (cQ 1 f' a') fun g'=>aB (load1 ro h g') fun h'=>aB (aT 1 (e 6)) fun i'=>aB (load1 ro h i') fun j'=>aB (cQ 1 j' (e 94)) fun k'=>aB (load1 ro h k') fun l'=>aO Tryz.prog ro yV [h',l'] h (nx+19) fun n' o' p'=>aB (aQ .add (e 94) (Value.int IntKind.i64 1)) fun m'=>Q .normal (puts e [(95,b'),(96,(e 94)),(97,c'),(98,a'),(10,(e 94)),(11,a'),(99,(e 0)),(100,d'),(101,e'),(102,f'),(103,a'),(104,g'),(105,h'),(106,i'),(107,j'),(108,(e 94)),(109,k'),(110,l'),(111,n'),(112,m'),(94,m')]) o' (p'+2)) (Q (.exit 2) (puts e [(95,b')]) h (nx+1))
@[irreducible] def i7 (ro:Ro) (K:KV):dL→T Obj→Nat→Prop:=fun e h nx=>aB (bS (e 7)) fun e'=>dZ (uB ro) (puts e [(92,(e 7)),(93,e'),(94,(Value.int IntKind.i64 0))]) h (nx+3) fun f' a' b' c'=>gI f' (lE ro K a' b' c') (fun g'=>dH (Nat.beq g' 2) (lE ro K a' b' c') (False)) (∃ d',aZ d' b'∧K (a' 4) d' c')
@[irreducible] def lF (ro:Ro) (Q:KE):dL→T Obj→Nat→Prop:=fun e h nx=>aB (aQ .add (e 75) (Value.int IntKind.i64 1)) fun a'=>Q .normal (puts e [(91,a'),(75,a')]) h (nx+2)
@[irreducible] def uC (ro:Ro):PT:=fun e h nx Q=>aB (aQ .lss (e 75) (e 74)) fun b'=>aW b' (aB (cQ 1 (e 73) (e 75)) fun d'=>aB (load1 ro h d') fun a'=>aO Tryz.prog ro iC [(e 7),a'] h (nx+7) fun e' c' g'=>aB (unV .not e') fun f'=>aW f' (aB (bF (e 0)) fun h'=>aB (aT 260 h') fun i'=>aB (load1 ro c' i') fun j'=>aB (cQ 1 j' a') fun k'=>aB (load1 ro c' k') fun l'=>aO Tryz.prog ro lJ [l'] c' (g'+9) fun m' n' o'=>lF ro Q (puts e [(76,b'),(77,d'),(78,a'),(9,a'),(79,(e 7)),(80,a'),(81,e'),(82,f'),(83,(e 0)),(84,h'),(85,i'),(86,j'),(87,a'),(88,k'),(89,l'),(90,m')]) n' o') (lF ro Q (puts e [(76,b'),(77,d'),(78,a'),(9,a'),(79,(e 7)),(80,a'),(81,e'),(82,f')]) c' (g'+1))) (Q (.exit 0) (puts e [(76,b')]) h (nx+1))
@[irreducible] def i6 (ro:Ro) (K:KV):dL→T Obj→Nat→Prop:=fun e h nx=>aB (aT 1 (e 5)) fun d'=>aB (load1 ro h d') fun e'=>aB (bS e') fun g'=>dZ (uC ro) (puts e [(72,d'),(73,e'),(74,g'),(75,(Value.int IntKind.i64 0))]) h (nx+4) fun h' a' b' c'=>gI h' (i7 ro K a' b' c') (fun i'=>dH (Nat.beq i' 0) (i7 ro K a' b' c') (False)) (∃ f',aZ f' b'∧K (a' 4) f' c')
@[irreducible] def x5 (ro:Ro) (v0 v1:Value) (h:T Obj) (nx:Nat) (K:KV):Prop:=aO Tryz.prog ro lG [v0] h (nx+3) fun f' h2 n3=>aB (aQ .eql f' (Value.int IntKind.i64 (-1))) fun g'=>aW g' (∃ h5,aZ h5 h2∧K (Value.bool false) h5 (n3+2)) (aB (bF v0) fun h'=>aB (aT 0 h') fun i'=>aB (aT 258 i') fun j'=>aB (load1 ro h2 j') fun k'=>aB (bF v0) fun l'=>aB (aT 259 l') fun m'=>aB (load1 ro h2 m') fun n'=>aB (cQ 4 k' n') fun o'=>aB (loadA ro h2 4 o') fun p'=>aB (nF Tryz.prog bG) fun af'=>dM h2 (n3+12) (.cells af'.cells bG) fun ag'=>aB (bU 4 ag' (ptr (n3+12)) p') fun c'=>aB (aT 3 (ptr (n3+12))) fun d'=>aB (load1 ro c' d') fun q'=>aB (loadA ro c' 4 (ptr (n3+12))) fun r'=>aO Tryz.prog ro mA [v0,r'] c' (n3+33) fun s' a' U'=>(gZ d' c' a')∧(aB (cQ 1 q' s') fun t'=>aB (load1 ro a' t') fun u'=>aB (bF v0) fun v'=>aB (aT 0 v') fun w'=>aB (aT 0 w') fun x'=>aB (aT 0 x') fun y'=>aB (ixArr 256 1 y' v1) fun e'=>aB (load1 ro a' e') fun z'=>(gZ e' c' a')∧(aB (cQ 2 u' z') fun A'=>aB (loadA ro a' 2 A') fun B'=>aB (nF Tryz.prog bR) fun ah'=>dM a' (n3+31) (.cells ah'.cells bR) fun ai'=>aB (bU 2 ai' (ptr (n3+31)) B') fun C'=>aB (bF v0) fun D'=>aB (aT 261 D') fun E'=>aB (load1 ro C' E') fun F'=>aB (aT 1 (ptr (n3+12))) fun G'=>aB (load1 ro C' G') fun H'=>aB (bS H') fun I'=>aB (aQ .add (Value.int IntKind.i64 1) I') fun J'=>aB (aQ .add F' J') fun K'=>aB (bF v0) fun L'=>aB (aT 261 L') fun M'=>aB (bU 1 C' M' K') fun V'=>aB (aT 0 (ptr (n3+31))) fun N'=>aB (load1 ro V' N') fun O'=>aB (bF v0) fun P'=>aB (aT 259 P') fun Q'=>aB (bU 1 V' Q' O') fun b'=>aB (aT 0 (ptr (n3+31))) fun R'=>aB (load1 ro b' R') fun S'=>aB (aQ .neq S' (Value.int IntKind.i64 (-1))) fun T'=>aW T' (aB (bF v0) fun W'=>aB (aT 0 W') fun X'=>aB (aT 258 X') fun Y'=>aB (load1 ro b' Y') fun Z'=>aB (aT 0 (ptr (n3+31))) fun aa'=>aB (load1 ro b' aa') fun ab'=>aB (cQ 4 Z' ab') fun ac'=>aB (aT 1 ac') fun ad'=>aB (load1 ro b' ad') fun ae'=>i6 ro K (puts (fT [v0,v1]) [(4,(Value.bool false)),(12,v0),(13,f'),(14,g'),(15,v0),(16,h'),(17,i'),(18,j'),(19,k'),(20,v0),(21,l'),(22,m'),(23,n'),(24,o'),(25,p'),(5,(ptr (n3+12))),(26,d'),(27,q'),(28,v0),(29,r'),(30,s'),(31,t'),(32,u'),(33,v0),(34,v1),(35,v'),(36,w'),(37,x'),(38,y'),(39,e'),(40,z'),(41,A'),(42,B'),(6,(ptr (n3+31))),(43,v0),(44,D'),(45,E'),(46,F'),(47,G'),(48,H'),(49,I'),(50,J'),(51,K'),(52,L'),(53,M'),(54,v0),(55,N'),(56,O'),(57,P'),(58,Q'),(7,(Value.slice none 0 0)),(59,R'),(60,S'),(61,T'),(62,v0),(63,W'),(64,X'),(65,Y'),(66,Z'),(67,aa'),(68,ab'),(69,ac'),(70,ad'),(71,ae'),(7,ae')]) b' (U'+33)) (i6 ro K (puts (fT [v0,v1]) [(4,(Value.bool false)),(12,v0),(13,f'),(14,g'),(15,v0),(16,h'),(17,i'),(18,j'),(19,k'),(20,v0),(21,l'),(22,m'),(23,n'),(24,o'),(25,p'),(5,(ptr (n3+12))),(26,d'),(27,q'),(28,v0),(29,r'),(30,s'),(31,t'),(32,u'),(33,v0),(34,v1),(35,v'),(36,w'),(37,x'),(38,y'),(39,e'),(40,z'),(41,A'),(42,B'),(6,(ptr (n3+31))),(43,v0),(44,D'),(45,E'),(46,F'),(47,G'),(48,H'),(49,I'),(50,J'),(51,K'),(52,L'),(53,M'),(54,v0),(55,N'),(56,O'),(57,P'),(58,Q'),(7,(Value.slice none 0 0)),(59,R'),(60,S'),(61,T')]) b' (U'+22)))))
theorem aBU {ro:Ro}{v0 v1:Value}{h:T Obj}{nx:Nat}{K:KV} (hw:x5 ro v0 v1 h nx K):aO Tryz.prog ro pR [v0,v1] h nx K:=zzO (fn:=Tryz.f124) hw
@[irreducible] def x4 (ro:Ro) (v0:Value) (h:T Obj) (nx:Nat) (K:KV):Prop:=aO Tryz.prog ro lG [v0] h (nx+3) fun e' h2 n3=>aB (aQ .eql e' (Value.int IntKind.i64 (-1))) fun f'=>aW f' (∃ h5,aZ h5 h2∧K (Value.int IntKind.i64 (-1)) h5 (n3+2)) (aB (bF v0) fun g'=>aB (aT 0 g') fun h'=>aB (aT 258 h') fun i'=>aB (load1 ro h2 i') fun j'=>aB (bF v0) fun k'=>aB (aT 259 k') fun l'=>aB (load1 ro h2 l') fun m'=>aB (cQ 4 j' m') fun n'=>aB (loadA ro h2 4 n') fun o'=>aB (nF Tryz.prog bG) fun p'=>dM h2 (n3+12) (.cells p'.cells bG) fun q'=>aB (bU 4 q' (ptr (n3+12)) o') fun a'=>aB (aT 2 (ptr (n3+12))) fun c'=>aB (load1 ro a' c') fun r'=>aB (loadA ro a' 4 (ptr (n3+12))) fun s'=>aO Tryz.prog ro mA [v0,s'] a' (n3+22) fun t' b' u'=>(gZ c' a' b')∧(aB (cQ 1 r' t') fun v'=>aB (load1 ro b' v') fun w'=>∃ d',aZ d' b'∧K w' d' u'))
theorem aBT {ro:Ro}{v0:Value}{h:T Obj}{nx:Nat}{K:KV} (hw:x4 ro v0 h nx K):aO Tryz.prog ro pQ [v0] h nx K:=zzO (fn:=Tryz.f125) hw
@[irreducible] def jS (ro:Ro) (Q:KE):dL→T Obj→Nat→Prop:=fun e h nx=>aB (aQ .add (e 2) (Value.int IntKind.i64 1)) fun a'=>Q .normal (puts e [(13,(e 2)),(14,a'),(2,a')]) h (nx+3)
@[irreducible] def sA (ro:Ro):PT:=fun e h nx Q=>aB (bF (e 0)) fun a'=>aB (aT 260 a') fun b'=>aB (load1 ro h b') fun c'=>aB (bS c') fun d'=>aB (aQ .lss (e 2) d') fun e'=>aW e' (aB (bF (e 0)) fun g'=>aB (aT 260 g') fun h'=>aB (load1 ro h h') fun i'=>aB (cQ 1 i' (e 2)) fun j'=>aB (load1 ro h j') fun k'=>aO Tryz.prog ro lH [k'] h (nx+15) fun l' f' o'=>aB (bS l') fun m'=>aB (aQ .gtr m' (Value.int IntKind.i64 0)) fun n'=>aW n' (aB (bF (e 0)) fun p'=>aB (aT 260 p') fun q'=>aB (load1 ro f' q') fun r'=>aB (cQ 1 r' (e 2)) fun s'=>aB (load1 ro f' s') fun t'=>aO Tryz.prog ro iP [t'] f' (o'+10) fun u' v' w'=>jS ro Q (puts e [(6,(e 2)),(7,(e 0)),(8,a'),(9,b'),(10,c'),(11,d'),(12,e'),(15,(e 0)),(16,g'),(17,h'),(18,i'),(19,(e 2)),(20,j'),(21,k'),(22,l'),(23,m'),(24,n'),(25,(e 0)),(26,p'),(27,q'),(28,r'),(29,(e 2)),(30,s'),(31,t'),(32,u')]) v' w') (jS ro Q (puts e [(6,(e 2)),(7,(e 0)),(8,a'),(9,b'),(10,c'),(11,d'),(12,e'),(15,(e 0)),(16,g'),(17,h'),(18,i'),(19,(e 2)),(20,j'),(21,k'),(22,l'),(23,m'),(24,n')]) f' (o'+2))) (Q (.exit 0) (puts e [(6,(e 2)),(7,(e 0)),(8,a'),(9,b'),(10,c'),(11,d'),(12,e')]) h (nx+7))
@[irreducible] def uZ (ro:Ro) (v0:Value) (h:T Obj) (nx:Nat) (K:KV):Prop:=aB (bF v0) fun c'=>aB (aT 259 c') fun d'=>aB (bU 1 h d' (Value.int IntKind.i64 0)) fun h3=>dZ (sA ro) (puts (fT [v0]) [(3,v0),(4,c'),(5,d'),(2,(Value.int IntKind.i64 0))]) h3 (nx+5) fun h' j' a' b'=>gI h' (∃ e',aZ e' a'∧K (.tuple #[]) e' b') (fun i'=>dH (Nat.beq i' 0) (∃ f',aZ f' a'∧K (.tuple #[]) f' b') (False)) (∃ g',aZ g' a'∧K (.tuple #[]) g' b')
theorem aA4 {ro:Ro}{v0:Value}{h:T Obj}{nx:Nat}{K:KV} (hw:uZ ro v0 h nx K):aO Tryz.prog ro nS [v0] h nx K:=zzO (fn:=Tryz.f129) hw
@[irreducible] def kK (ro:Ro) (K:KV):dL→T Obj→Nat→Prop:=fun e h nx=>aB (aT 0 (e 6)) fun c'=>aB (load1 ro h c') fun d'=>aB (bF (e 0)) fun e'=>aB (aT 259 e') fun f'=>aB (bU 1 h f' d') fun a'=>aB (bF (e 0)) fun g'=>aB (aT 259 g') fun h'=>aB (load1 ro a' h') fun i'=>aB (aQ .geq i' (Value.int IntKind.i64 0)) fun j'=>∃ b',aZ b' a'∧K j' b' (nx+12)
@[irreducible] def kM (ro:Ro) (Q:KE):dL→T Obj→Nat→Prop:=fun e h nx=>aB (aQ .add (e 9) (Value.int IntKind.i64 1)) fun a'=>Q .normal (puts e [(99,(e 9)),(100,a'),(9,a')]) h (nx+3)
@[irreducible] def kN (ro:Ro) (Q:KE):dL→T Obj→Nat→Prop:=fun e h nx=>aB (aT 1 (e 6)) fun a'=>aB (load1 ro h a') fun b'=>aB (cQ 1 b' (e 9)) fun c'=>aB (load1 ro h c') fun d'=>aB (aQ .neq d' (Value.int IntKind.u8 1)) fun e'=>aW e' (aO Tryz.prog ro pI [(e 10)] h (nx+8) fun f' g' h'=>kM ro Q (puts e [(121,a'),(122,b'),(123,(e 9)),(124,c'),(125,d'),(126,e'),(127,(e 10)),(128,f')]) g' h') (kM ro Q (puts e [(121,a'),(122,b'),(123,(e 9)),(124,c'),(125,d'),(126,e')]) h (nx+6))
@[irreducible] def sW (ro:Ro):PT:=fun e h nx Q=>aB (bS (e 7)) fun b'=>aB (aQ .lss (e 9) b') fun c'=>aW c' (aB (bF (e 0)) fun d'=>aB (aT 260 d') fun e'=>aB (load1 ro h e') fun f'=>aB (cQ 1 (e 7) (e 9)) fun g'=>aB (load1 ro h g') fun h'=>aB (cQ 1 f' h') fun i'=>aB (load1 ro h i') fun a'=>aB (aT 1 (e 6)) fun j'=>aB (load1 ro h j') fun k'=>aB (cQ 1 k' (e 9)) fun l'=>aB (load1 ro h l') fun m'=>aB (aQ .eql m' (Value.int IntKind.u8 3)) fun n'=>aW n' (aO Tryz.prog ro iP [a'] h (nx+23) fun o' p' q'=>kN ro Q (puts e [(95,(e 9)),(96,(e 7)),(97,b'),(98,c'),(101,(e 0)),(102,d'),(103,e'),(104,f'),(105,(e 7)),(106,(e 9)),(107,g'),(108,h'),(109,i'),(110,a'),(10,a'),(111,j'),(112,k'),(113,(e 9)),(114,l'),(115,m'),(116,n'),(117,a'),(118,o')]) p' q') (aO Tryz.prog ro pH [a'] h (nx+23) fun r' s' t'=>kN ro Q (puts e [(95,(e 9)),(96,(e 7)),(97,b'),(98,c'),(101,(e 0)),(102,d'),(103,e'),(104,f'),(105,(e 7)),(106,(e 9)),(107,g'),(108,h'),(109,i'),(110,a'),(10,a'),(111,j'),(112,k'),(113,(e 9)),(114,l'),(115,m'),(116,n'),(119,a'),(120,r')]) s' t')) (Q (.exit 2) (puts e [(95,(e 9)),(96,(e 7)),(97,b'),(98,c')]) h (nx+4))
@[irreducible] def iK (ro:Ro) (K:KV):dL→T Obj→Nat→Prop:=fun e h nx=>dZ (sW ro) (puts e [(9,(Value.int IntKind.i64 0))]) h (nx+1) fun x89 e86 h87 n88=>gI x89 (kK ro K e86 h87 n88) (fun i90=>dH (Nat.beq i90 2) (kK ro K e86 h87 n88) (False)) (∃ h91,aZ h91 h87∧K (e86 4) h91 n88)
@[irreducible] def kO (ro:Ro) (Q:KE):dL→T Obj→Nat→Prop:=fun e h nx=>aB (aQ .add (e 8) (Value.int IntKind.i64 1)) fun a'=>Q .normal (puts e [(73,(e 8)),(74,a'),(8,a')]) h (nx+3)
@[irreducible] def sX (ro:Ro):PT:=fun e h nx Q=>aB (aT 1 (e 5)) fun b'=>aB (load1 ro h b') fun c'=>aB (bS c') fun d'=>aB (aQ .lss (e 8) d') fun e'=>aW e' (aB (aT 1 (e 5)) fun f'=>aB (load1 ro h f') fun g'=>aB (cQ 1 g' (e 8)) fun h'=>aB (load1 ro h h') fun i'=>aO Tryz.prog ro aDR [(e 7),i'] h (nx+12) fun j' a' l'=>aB (unV .not j') fun k'=>aW k' (aB (bF (e 0)) fun m'=>aB (aT 260 m') fun n'=>aB (load1 ro a' n') fun o'=>aB (aT 1 (e 5)) fun p'=>aB (load1 ro a' p') fun q'=>aB (cQ 1 q' (e 8)) fun r'=>aB (load1 ro a' r') fun s'=>aB (cQ 1 o' s') fun t'=>aB (load1 ro a' t') fun u'=>aO Tryz.prog ro iP [u'] a' (l'+13) fun v' w' x'=>kO ro Q (puts e [(68,(e 8)),(69,b'),(70,c'),(71,d'),(72,e'),(75,(e 7)),(76,f'),(77,g'),(78,(e 8)),(79,h'),(80,i'),(81,j'),(82,k'),(83,(e 0)),(84,m'),(85,n'),(86,o'),(87,p'),(88,q'),(89,(e 8)),(90,r'),(91,s'),(92,t'),(93,u'),(94,v')]) w' x') (kO ro Q (puts e [(68,(e 8)),(69,b'),(70,c'),(71,d'),(72,e'),(75,(e 7)),(76,f'),(77,g'),(78,(e 8)),(79,h'),(80,i'),(81,j'),(82,k')]) a' (l'+1))) (Q (.exit 0) (puts e [(68,(e 8)),(69,b'),(70,c'),(71,d'),(72,e')]) h (nx+5))
@[irreducible] def iJ (ro:Ro) (K:KV):dL→T Obj→Nat→Prop:=fun e h nx=>dZ (sX ro) (puts e [(8,(Value.int IntKind.i64 0))]) h (nx+1) fun x120 e117 h118 n119=>gI x120 (iK ro K e117 h118 n119) (fun i121=>dH (Nat.beq i121 0) (iK ro K e117 h118 n119) (False)) (∃ h122,aZ h122 h118∧K (e117 4) h122 n119)
@[irreducible] def xH (ro:Ro) (v0 v1:Value) (h:T Obj) (nx:Nat) (K:KV):Prop:=aB (bF v0) fun f'=>aB (aT 259 f') fun g'=>aB (load1 ro h g') fun h'=>aB (aQ .lss h' (Value.int IntKind.i64 0)) fun i'=>aW i' (∃ h5,aZ h5 h∧K (Value.bool false) h5 (nx+7)) (aB (bF v0) fun j'=>aB (aT 0 j') fun k'=>aB (aT 258 k') fun l'=>aB (load1 ro h l') fun m'=>aB (bF v0) fun n'=>aB (aT 259 n') fun o'=>aB (load1 ro h o') fun p'=>aB (cQ 4 m' p') fun q'=>aB (loadA ro h 4 q') fun r'=>aB (nF Tryz.prog bG) fun ab'=>dM h (nx+17) (.cells ab'.cells bG) fun ac'=>aB (bU 4 ac' (ptr (nx+17)) r') fun c'=>aB (aT 3 (ptr (nx+17))) fun d'=>aB (load1 ro c' d') fun s'=>aO Tryz.prog ro lI [v0] c' (nx+37) fun t' a' R'=>(gZ d' c' a')∧(aB (cQ 1 s' t') fun u'=>aB (load1 ro a' u') fun v'=>aB (bF v0) fun w'=>aB (aT 0 w') fun x'=>aB (aT 0 x') fun y'=>aB (aT 0 y') fun z'=>aB (ixArr 256 1 z' v1) fun e'=>aB (load1 ro a' e') fun A'=>(gZ e' c' a')∧(aB (cQ 2 v' A') fun B'=>aB (loadA ro a' 2 B') fun C'=>aB (nF Tryz.prog bR) fun ad'=>dM a' (nx+35) (.cells ad'.cells bR) fun ae'=>aB (bU 2 ae' (ptr (nx+35)) C') fun D'=>aB (bF v0) fun E'=>aB (aT 261 E') fun F'=>aB (load1 ro D' F') fun G'=>aB (aQ .add G' (Value.int IntKind.i64 1)) fun H'=>aB (aT 1 (ptr (nx+17))) fun I'=>aB (load1 ro D' I') fun J'=>aB (bS J') fun K'=>aB (aQ .add H' K') fun L'=>aB (bF v0) fun M'=>aB (aT 261 M') fun N'=>aB (bU 1 D' N' L') fun b'=>aB (aT 0 (ptr (nx+35))) fun O'=>aB (load1 ro b' O') fun P'=>aB (aQ .geq P' (Value.int IntKind.i64 0)) fun Q'=>aW Q' (aB (bF v0) fun S'=>aB (aT 0 S') fun T'=>aB (aT 258 T') fun U'=>aB (load1 ro b' U') fun V'=>aB (aT 0 (ptr (nx+35))) fun W'=>aB (load1 ro b' W') fun X'=>aB (cQ 4 V' X') fun Y'=>aB (aT 1 Y') fun Z'=>aB (load1 ro b' Z') fun aa'=>iJ ro K (puts (fT [v0,v1]) [(4,(Value.bool false)),(11,v0),(12,f'),(13,g'),(14,h'),(15,i'),(16,v0),(17,j'),(18,k'),(19,l'),(20,m'),(21,v0),(22,n'),(23,o'),(24,p'),(25,q'),(26,r'),(5,(ptr (nx+17))),(27,d'),(28,s'),(29,v0),(30,t'),(31,u'),(32,v'),(33,v0),(34,v1),(35,w'),(36,x'),(37,y'),(38,z'),(39,e'),(40,A'),(41,B'),(42,C'),(6,(ptr (nx+35))),(43,v0),(44,v0),(45,E'),(46,F'),(47,G'),(48,H'),(49,I'),(50,J'),(51,K'),(52,L'),(53,M'),(54,N'),(7,(Value.slice none 0 0)),(55,O'),(56,P'),(57,Q'),(58,v0),(59,S'),(60,T'),(61,U'),(62,V'),(63,W'),(64,X'),(65,Y'),(66,Z'),(67,aa'),(7,aa')]) b' (R'+28)) (iJ ro K (puts (fT [v0,v1]) [(4,(Value.bool false)),(11,v0),(12,f'),(13,g'),(14,h'),(15,i'),(16,v0),(17,j'),(18,k'),(19,l'),(20,m'),(21,v0),(22,n'),(23,o'),(24,p'),(25,q'),(26,r'),(5,(ptr (nx+17))),(27,d'),(28,s'),(29,v0),(30,t'),(31,u'),(32,v'),(33,v0),(34,v1),(35,w'),(36,x'),(37,y'),(38,z'),(39,e'),(40,A'),(41,B'),(42,C'),(6,(ptr (nx+35))),(43,v0),(44,v0),(45,E'),(46,F'),(47,G'),(48,H'),(49,I'),(50,J'),(51,K'),(52,L'),(53,M'),(54,N'),(7,(Value.slice none 0 0)),(55,O'),(56,P'),(57,Q')]) b' (R'+17)))))
theorem aAy {ro:Ro}{v0 v1:Value}{h:T Obj}{nx:Nat}{K:KV} (hw:xH ro v0 v1 h nx K):aO Tryz.prog ro oV [v0,v1] h nx K:=zzO (fn:=Tryz.f130) hw
@[irreducible] def xG (ro:Ro) (v0:Value) (h:T Obj) (nx:Nat) (K:KV):Prop:=aB (bF v0) fun f'=>aB (aT 259 f') fun g'=>aB (load1 ro h g') fun h'=>aB (aQ .lss h' (Value.int IntKind.i64 0)) fun i'=>aW i' (∃ h5,aZ h5 h∧K (Value.int IntKind.i64 (-1)) h5 (nx+7)) (aB (bF v0) fun j'=>aB (aT 0 j') fun k'=>aB (aT 258 k') fun b'=>aB (load1 ro h b') fun l'=>aB (bF v0) fun m'=>aB (aT 259 m') fun c'=>aB (load1 ro h c') fun n'=>aB (cQ 4 l' n') fun o'=>aB (aT 2 o') fun d'=>aB (load1 ro h d') fun p'=>aO Tryz.prog ro lI [v0] h (nx+23) fun q' a' r'=>(gZ d' h a')∧((gZ c' h a')∧((gZ b' h a')∧(aB (cQ 1 p' q') fun s'=>aB (load1 ro a' s') fun t'=>∃ e',aZ e' a'∧K t' e' r'))))
theorem aAx {ro:Ro}{v0:Value}{h:T Obj}{nx:Nat}{K:KV} (hw:xG ro v0 h nx K):aO Tryz.prog ro oU [v0] h nx K:=zzO (fn:=Tryz.f131) hw
@[irreducible] def aCx (ro:Ro) (v0:Value) (h:T Obj) (nx:Nat) (K:KV):Prop:=aB (xU .eql v0 (Value.pointer none)) fun a'=>aW a' (∃ h2,aZ h2 h∧K (Value.int IntKind.i64 0) h2 (nx+4)) (aB (bF v0) fun b'=>aB (aT 2 b') fun c'=>aB (load1 ro h c') fun d'=>∃ h6,aZ h6 h∧K d' h6 (nx+8))
theorem aEo {ro:Ro}{v0:Value}{h:T Obj}{nx:Nat}{K:KV} (hw:aCx ro v0 h nx K):aO Tryz.prog ro nI [v0] h nx K:=zzO (fn:=Tryz.f160) hw
@[irreducible] def aAo (ro:Ro) (v0:Value) (h:T Obj) (nx:Nat) (K:KV):Prop:=aB (xU .neq v0 (Value.pointer none)) fun c'=>aW c' (aB (bF v0) fun d'=>aB (aT 1 d') fun e'=>aB (bU 1 h e' (Value.int IntKind.i64 0)) fun h4=>aB (bF v0) fun f'=>aB (aT 2 f') fun g'=>aB (bU 1 h4 g' (Value.int IntKind.i64 0)) fun h7=>aB (bF v0) fun h'=>aB (aT 4 h') fun i'=>aB (load1 ro h7 i') fun j'=>aB (aQ .add j' (Value.int IntKind.i64 1)) fun k'=>aB (bF v0) fun l'=>aB (aT 4 l') fun m'=>aB (bU 1 h7 m' k') fun n'=>∃ a',aZ a' n'∧K (.tuple #[]) a' (nx+18)) (∃ b',aZ b' h∧K (.tuple #[]) b' (nx+2))
theorem aD1 {ro:Ro}{v0:Value}{h:T Obj}{nx:Nat}{K:KV} (hw:aAo ro v0 h nx K):aO Tryz.prog ro lJ [v0] h nx K:=zzO (fn:=Tryz.f161) hw
@[irreducible] def wK (ro:Ro) (v0:Value) (h:T Obj) (nx:Nat) (K:KV):Prop:=aB (xU .eql v0 (Value.pointer none)) fun a'=>aW a' (∃ h2,aZ h2 h∧K (Value.int IntKind.i64 (-1)) h2 (nx+4)) (aB (bF v0) fun b'=>aB (aT 259 b') fun c'=>aB (load1 ro h c') fun d'=>∃ h6,aZ h6 h∧K d' h6 (nx+8))
theorem aAu {ro:Ro}{v0:Value}{h:T Obj}{nx:Nat}{K:KV} (hw:wK ro v0 h nx K):aO Tryz.prog ro lG [v0] h nx K:=zzO (fn:=Tryz.f162) hw
@[irreducible] def oP (ro:Ro) (K:KV):dL→T Obj→Nat→Prop:=fun e h nx=>∃ h2,aZ h2 h∧K (e 5) h2 (nx+2)
@[irreducible] def uE (ro:Ro):PT:=fun e h nx Q=>aB (aQ .lss (e 12) (e 11)) fun b'=>aW b' (aB (cQ 1 (e 10) (e 12)) fun c'=>aB (load1 ro h c') fun a'=>aO Tryz.prog ro oT [(e 0),a'] h (nx+9) fun d' i' j'=>aB (aQ .mul (e 6) d') fun e'=>aB (aQ .add (e 5) e') fun f'=>aB (aQ .mul (e 6) (Value.int IntKind.i64 3)) fun g'=>aB (aQ .add (e 12) (Value.int IntKind.i64 1)) fun h'=>Q .normal (puts e [(13,b'),(14,c'),(15,a'),(8,a'),(16,(e 5)),(17,(e 6)),(18,(e 0)),(19,a'),(20,d'),(21,e'),(22,f'),(5,f'),(23,(e 6)),(24,g'),(6,g'),(25,h'),(12,h')]) i' (j'+8)) (Q (.exit 0) (puts e [(13,b')]) h (nx+1))
@[irreducible] def x7 (ro:Ro) (v0 v1:Value) (h:T Obj) (nx:Nat) (K:KV):Prop:=dM h nx (.cells (Value.cells v1) bG) fun h1=>aB (aT 1 (ptr nx)) fun d'=>aB (load1 ro h1 d') fun e'=>aB (bS e') fun g'=>dZ (uE ro) (puts (fT [v0,v1]) [(3,(ptr nx)),(4,(Value.int IntKind.i64 0)),(5,(Value.int IntKind.i64 0)),(6,(Value.int IntKind.i64 1)),(9,d'),(10,e'),(11,g'),(12,(Value.int IntKind.i64 0))]) h1 (nx+8) fun h' a' b' c'=>gI h' (oP ro K a' b' c') (fun i'=>dH (Nat.beq i' 0) (oP ro K a' b' c') (False)) (∃ f',aZ f' b'∧K (a' 4) f' c')
theorem aBW {ro:Ro}{v0 v1:Value}{h:T Obj}{nx:Nat}{K:KV} (hw:x7 ro v0 v1 h nx K):aO Tryz.prog ro mA [v0,v1] h nx K:=zzO (fn:=Tryz.f163) hw
@[irreducible] def aFH (ro:Ro) (v0 v1:Value) (h:T Obj) (nx:Nat) (K:KV):Prop:=aB (aQ .eql v1 (Value.int IntKind.u8 3)) fun d'=>aW d' (aO Tryz.prog ro lJ [v0] h (nx+5) fun m' h3 n4=>aO Tryz.prog ro qF [v0] h3 (n4+2) fun n' h6 n7=>∃ h8,aZ h8 h6∧K (.tuple #[]) h8 n7) (aB (aQ .eql v1 (Value.int IntKind.u8 2)) fun e'=>aW e' (aO Tryz.prog ro qE [v0] h (nx+7) fun o' f' g'=>aO Tryz.prog ro qF [v0] f' (g'+2) fun p' h' i'=>∃ a',aZ a' h'∧K (.tuple #[]) a' i') (aB (aQ .eql v1 (Value.int IntKind.u8 1)) fun j'=>aW j' (aO Tryz.prog ro qE [v0] h (nx+9) fun q' k' l'=>∃ b',aZ b' k'∧K (.tuple #[]) b' l') (∃ c',aZ c' h∧K (.tuple #[]) c' (nx+7))))
theorem aG5 {ro:Ro}{v0 v1:Value}{h:T Obj}{nx:Nat}{K:KV} (hw:aFH ro v0 v1 h nx K):aO Tryz.prog ro yV [v0,v1] h nx K:=zzO (fn:=Tryz.f165) hw
@[irreducible] def qQ (ro:Ro) (K:KV):dL→T Obj→Nat→Prop:=fun e h nx=>∃ h1,aZ h1 h∧K (e 3) h1 (nx+2)
@[irreducible] def mZ (ro:Ro) (Q:KE):dL→T Obj→Nat→Prop:=fun e h nx=>aB (aQ .add (e 4) (Value.int IntKind.i64 1)) fun a'=>Q .normal (puts e [(12,(e 4)),(13,a'),(4,a')]) h (nx+3)
@[irreducible] def xA (ro:Ro):PT:=fun e h nx Q=>aB (bF (e 0)) fun a'=>aB (aT 0 a') fun b'=>aB (load1 ro h b') fun c'=>aB (bS c') fun d'=>aB (aQ .lss (e 4) d') fun e'=>aW e' (aB (bF (e 0)) fun g'=>aB (aT 0 g') fun h'=>aB (load1 ro h h') fun i'=>aB (cQ 1 i' (e 4)) fun j'=>aB (load1 ro h j') fun k'=>aW k' (aB (b7 Tryz.prog fY (nx+16) 1 [(0,(e 4))]) fun l'=>eR h (nx+16) l'.2 fun m'=>aB (cZ Tryz.prog ro m' (nx+18) #[fY,fY] [(e 3),l'.1]) fun f'=>mZ ro Q (puts e [(5,(e 4)),(6,(e 0)),(7,a'),(8,b'),(9,c'),(10,d'),(11,e'),(14,(e 0)),(15,g'),(16,h'),(17,i'),(18,(e 4)),(19,j'),(20,k'),(21,(e 3)),(22,(e 4)),(23,l'.1),(24,f'.1),(3,f'.1)]) f'.2.1 (f'.2.2+1)) (mZ ro Q (puts e [(5,(e 4)),(6,(e 0)),(7,a'),(8,b'),(9,c'),(10,d'),(11,e'),(14,(e 0)),(15,g'),(16,h'),(17,i'),(18,(e 4)),(19,j'),(20,k')]) h (nx+14))) (Q (.exit 0) (puts e [(5,(e 4)),(6,(e 0)),(7,a'),(8,b'),(9,c'),(10,d'),(11,e')]) h (nx+7))
@[irreducible] def aAn (ro:Ro) (v0:Value) (h:T Obj) (nx:Nat) (K:KV):Prop:=dZ (xA ro) (puts (fT [v0]) [(2,(Value.slice none 0 0)),(3,(Value.slice none 0 0)),(4,(Value.int IntKind.i64 1))]) h (nx+3) fun x19 e16 h17 n18=>gI x19 (qQ ro K e16 h17 n18) (fun i20=>dH (Nat.beq i20 0) (qQ ro K e16 h17 n18) (False)) (∃ h21,aZ h21 h17∧K (e16 2) h21 n18)
theorem aDY {ro:Ro}{v0:Value}{h:T Obj}{nx:Nat}{K:KV} (hw:aAn ro v0 h nx K):aO Tryz.prog ro lH [v0] h nx K:=zzO (fn:=Tryz.f168) hw
@[irreducible] def zZ (ro:Ro) (v0:Value) (h:T Obj) (nx:Nat) (K:KV):Prop:=aB (bF v0) fun c'=>aB (aT 0 c') fun d'=>aB (load1 ro h d') fun e'=>aB (bS e') fun a'=>aB (aAl Tryz.prog aCJ (nx+6) a' a') fun r5=>eR h (nx+6) r5.2 fun h6=>aB (bF v0) fun f'=>aB (aT 0 f') fun g'=>aB (bU 1 h6 g' r5.1) fun h9=>aB (bF v0) fun h'=>aB (aT 1 h') fun i'=>aB (load1 ro h9 i') fun j'=>aB (aQ .add j' (Value.int IntKind.i64 1)) fun k'=>aB (bF v0) fun l'=>aB (aT 1 l') fun m'=>aB (bU 1 h9 m' k') fun n'=>∃ b',aZ b' n'∧K (.tuple #[]) b' (nx+18)
theorem aC4 {ro:Ro}{v0:Value}{h:T Obj}{nx:Nat}{K:KV} (hw:zZ ro v0 h nx K):aO Tryz.prog ro iP [v0] h nx K:=zzO (fn:=Tryz.f169) hw
@[irreducible] def nU (ro:Ro) (K:KV):dL→T Obj→Nat→Prop:=fun e h nx=>∃ h11,aZ h11 h∧K (e 3) h11 (nx+2)
@[irreducible] def nV (ro:Ro) (Q:KE):dL→T Obj→Nat→Prop:=fun e h nx=>aB (aQ .add (e 6) (Value.int IntKind.i64 1)) fun a'=>Q .normal (puts e [(24,(e 6)),(25,a'),(6,a')]) h (nx+3)
@[irreducible] def iL (ro:Ro) (Q:KE):dL→T Obj→Nat→Prop:=fun e h nx=>aB (aQ .mul (e 4) (Value.int IntKind.i64 3)) fun a'=>nV ro Q (puts e [(84,(e 4)),(85,a'),(4,a')]) h (nx+3)
@[irreducible] def sZ (ro:Ro):PT:=fun e h nx Q=>aB (bS (e 5)) fun d'=>aB (aQ .lss (e 6) d') fun e'=>aW e' (aB (bF (e 0)) fun f'=>aB (aT 260 f') fun g'=>aB (load1 ro h g') fun h'=>aB (cQ 1 (e 5) (e 6)) fun i'=>aB (load1 ro h i') fun j'=>aB (cQ 1 h' j') fun k'=>aB (load1 ro h k') fun l'=>aO Tryz.prog ro lH [l'] h (nx+16) fun b' Y' Z'=>aB (bS b') fun m'=>aB (aQ .gtr m' (Value.int IntKind.i64 0)) fun a'=>bA a' true Y' (Z'+24) (fun aJ'=>aJ' b' Y' (Z'+24)) fun n' aa' ab'=>bA a' true aa' ab' (fun aK'=>aK' b' aa' ab') fun o' ac' ad'=>bA a' true ac' ad' (fun aL'=>aB (bS o') fun aM'=>aL' aM' ac' ad') fun p' ae' af'=>bA a' true ae' af' (fun aN'=>aB (aQ .sub p' (Value.int IntKind.i64 1)) fun aO'=>aN' aO' ae' af') fun q' ag' ah'=>bA a' true ag' ah' (fun aP'=>aB (cQ 1 n' q') fun aQ'=>aP' aQ' ag' ah') fun r' H' ai'=>bA a' true H' ai' (fun aR'=>aB (load1 ro H' r') fun aS'=>aR' aS' H' ai') fun s' aj' ak'=>bA a' true aj' ak' (fun aT'=>aT' (e 0) aj' ak') fun t' al' am'=>bA a' true al' am' (fun aU'=>aB (bF t') fun aV'=>aU' aV' al' am') fun u' an' ao'=>bA a' true an' ao' (fun aW'=>aB (aT 0 u') fun aX'=>aW' aX' an' ao') fun v' ap' aq'=>bA a' true ap' aq' (fun aY'=>aB (aT 257 v') fun aZ'=>aY' aZ' ap' aq') fun w' I' ar'=>bA a' true I' ar' (fun a0'=>aB (load1 ro I' w') fun a1'=>a0' a1' I' ar') fun x' as' at'=>bA a' true as' at' (fun a2'=>a2' (e 5) as' at') fun y' au' av'=>bA a' true au' av' (fun a3'=>a3' (e 6) au' av') fun z' aw' ax'=>bA a' true aw' ax' (fun a4'=>aB (cQ 1 y' z') fun a5'=>a4' a5' aw' ax') fun A' J' ay'=>bA a' true J' ay' (fun a6'=>aB (load1 ro J' A') fun a7'=>a6' a7' J' ay') fun B' az' aA'=>bA a' true az' aA' (fun a8'=>aB (cQ 2 x' B') fun a9'=>a8' a9' az' aA') fun C' aB' aC'=>bA a' true aB' aC' (fun ba'=>aB (ixArr 2 1 C' (Value.int IntKind.i64 0)) fun bb'=>ba' bb' aB' aC') fun D' K' aD'=>bA a' true K' aD' (fun bc'=>aB (load1 ro K' D') fun bd'=>bc' bd' K' aD') fun E' aE' aF'=>bA a' true aE' aF' (fun be'=>aB (aQ .geq s' E') fun bf'=>be' bf' aE' aF') fun F' c' L'=>aB (cS a' F' (Value.bool false)) fun G'=>aW G' (aB (cQ 1 b' (Value.int IntKind.i64 0)) fun M'=>aB (load1 ro c' M') fun N'=>aB (bF (e 0)) fun O'=>aB (aT 0 O') fun P'=>aB (aT 257 P') fun Q'=>aB (load1 ro c' Q') fun R'=>aB (cQ 1 (e 5) (e 6)) fun S'=>aB (load1 ro c' S') fun T'=>aB (cQ 2 R' T') fun U'=>aB (ixArr 2 1 U' (Value.int IntKind.i64 1)) fun V'=>aB (load1 ro c' V') fun W'=>aB (aQ .lss N' W') fun X'=>aW X' (aB (aQ .mul (Value.int IntKind.i64 2) (e 4)) fun aG'=>aB (aQ .add (e 3) aG') fun aH'=>iL ro Q (puts e [(20,(e 6)),(21,(e 5)),(22,d'),(23,e'),(26,(e 0)),(27,f'),(28,g'),(29,h'),(30,(e 5)),(31,(e 6)),(32,i'),(33,j'),(34,k'),(35,l'),(36,b'),(7,b'),(37,b'),(38,m'),(39,a'),(40,a'),(41,n'),(42,o'),(43,p'),(44,q'),(45,r'),(46,s'),(47,t'),(48,u'),(49,v'),(50,w'),(51,x'),(52,y'),(53,z'),(54,A'),(55,B'),(56,C'),(57,D'),(58,E'),(59,F'),(60,G'),(61,b'),(62,M'),(63,N'),(64,(e 0)),(65,O'),(66,P'),(67,Q'),(68,R'),(69,(e 5)),(70,(e 6)),(71,S'),(72,T'),(73,U'),(74,V'),(75,W'),(76,X'),(77,(e 3)),(78,(e 4)),(79,aG'),(80,aH'),(3,aH')]) c' (L'+21)) (aB (aQ .add (e 3) (e 4)) fun aI'=>iL ro Q (puts e [(20,(e 6)),(21,(e 5)),(22,d'),(23,e'),(26,(e 0)),(27,f'),(28,g'),(29,h'),(30,(e 5)),(31,(e 6)),(32,i'),(33,j'),(34,k'),(35,l'),(36,b'),(7,b'),(37,b'),(38,m'),(39,a'),(40,a'),(41,n'),(42,o'),(43,p'),(44,q'),(45,r'),(46,s'),(47,t'),(48,u'),(49,v'),(50,w'),(51,x'),(52,y'),(53,z'),(54,A'),(55,B'),(56,C'),(57,D'),(58,E'),(59,F'),(60,G'),(61,b'),(62,M'),(63,N'),(64,(e 0)),(65,O'),(66,P'),(67,Q'),(68,R'),(69,(e 5)),(70,(e 6)),(71,S'),(72,T'),(73,U'),(74,V'),(75,W'),(76,X'),(81,(e 3)),(82,(e 4)),(83,aI'),(3,aI')]) c' (L'+20))) (iL ro Q (puts e [(20,(e 6)),(21,(e 5)),(22,d'),(23,e'),(26,(e 0)),(27,f'),(28,g'),(29,h'),(30,(e 5)),(31,(e 6)),(32,i'),(33,j'),(34,k'),(35,l'),(36,b'),(7,b'),(37,b'),(38,m'),(39,a'),(40,a'),(41,n'),(42,o'),(43,p'),(44,q'),(45,r'),(46,s'),(47,t'),(48,u'),(49,v'),(50,w'),(51,x'),(52,y'),(53,z'),(54,A'),(55,B'),(56,C'),(57,D'),(58,E'),(59,F'),(60,G')]) c' L')) (Q (.exit 0) (puts e [(20,(e 6)),(21,(e 5)),(22,d'),(23,e')]) h (nx+4))
@[irreducible] def xJ (ro:Ro) (v0:Value) (h:T Obj) (nx:Nat) (K:KV):Prop:=aB (bF v0) fun d'=>aB (aT 0 d') fun e'=>aB (aT 258 e') fun f'=>aB (load1 ro h f') fun g'=>aB (bF v0) fun h'=>aB (aT 259 h') fun i'=>aB (load1 ro h i') fun j'=>aB (cQ 4 g' j') fun k'=>aB (aT 1 k') fun l'=>aB (load1 ro h l') fun m'=>dZ (sZ ro) (puts (fT [v0]) [(2,(Value.int IntKind.i64 0)),(3,(Value.int IntKind.i64 0)),(4,(Value.int IntKind.i64 1)),(8,v0),(9,d'),(10,e'),(11,f'),(12,g'),(13,v0),(14,h'),(15,i'),(16,j'),(17,k'),(18,l'),(19,m'),(5,m'),(6,(Value.int IntKind.i64 0))]) h (nx+17) fun o' a' b' c'=>gI o' (nU ro K a' b' c') (fun p'=>dH (Nat.beq p' 0) (nU ro K a' b' c') (False)) (∃ n',aZ n' b'∧K (a' 2) n' c')
theorem aBA {ro:Ro}{v0:Value}{h:T Obj}{nx:Nat}{K:KV} (hw:xJ ro v0 h nx K):aO Tryz.prog ro lI [v0] h nx K:=zzO (fn:=Tryz.f170) hw
@[irreducible] def aBp (ro:Ro) (K:KV):dL→T Obj→Nat→Prop:=fun e h nx=>∃ h1,aZ h1 h∧K (Value.bool false) h1 (nx+1)
@[irreducible] def aF1 (ro:Ro):PT:=fun e h nx Q=>aB (bS (e 0)) fun a'=>aB (aQ .lss (e 5) a') fun b'=>aW b' (aB (cQ 1 (e 0) (e 5)) fun c'=>aB (load1 ro h c') fun d'=>aB (aQ .eql d' (e 1)) fun e'=>aW e' (Q .ret (puts e [(6,(e 5)),(7,(e 0)),(8,a'),(9,b'),(12,(e 0)),(13,(e 5)),(14,c'),(15,d'),(16,(e 1)),(17,e'),(4,(Value.bool true))]) h (nx+11)) (aB (aQ .add (e 5) (Value.int IntKind.i64 1)) fun f'=>Q .normal (puts e [(6,(e 5)),(7,(e 0)),(8,a'),(9,b'),(12,(e 0)),(13,(e 5)),(14,c'),(15,d'),(16,(e 1)),(17,e'),(10,(e 5)),(11,f'),(5,f')]) h (nx+13))) (Q (.exit 0) (puts e [(6,(e 5)),(7,(e 0)),(8,a'),(9,b')]) h (nx+4))
@[irreducible] def aLq (ro:Ro) (v0 v1:Value) (h:T Obj) (nx:Nat) (K:KV):Prop:=dZ (aF1 ro) (puts (fT [v0,v1]) [(4,(Value.bool false)),(5,(Value.int IntKind.i64 0))]) h (nx+2) fun x11 e8 h9 n10=>gI x11 (aBp ro K e8 h9 n10) (fun i12=>dH (Nat.beq i12 0) (aBp ro K e8 h9 n10) (False)) (∃ h13,aZ h13 h9∧K (e8 4) h13 n10)
theorem aLr {ro:Ro}{v0 v1:Value}{h:T Obj}{nx:Nat}{K:KV} (hw:aLq ro v0 v1 h nx K):aO Tryz.prog ro aDR [v0,v1] h nx K:=zzO (fn:=Tryz.f171) hw
@[irreducible] def rY (ro:Ro) (K:KV):dL→T Obj→Nat→Prop:=fun e h nx=>aB (bF (e 0)) fun b'=>aB (aT 0 b') fun c'=>aB (bU 1 h c' (e 2)) fun h9=>aB (bF (e 0)) fun d'=>aB (aT 1 d') fun e'=>aB (load1 ro h9 e') fun f'=>aB (aQ .add f' (Value.int IntKind.i64 1)) fun g'=>aB (bF (e 0)) fun h'=>aB (aT 1 h') fun i'=>aB (bU 1 h9 i' g') fun j'=>∃ a',aZ a' j'∧K (.tuple #[]) a' (nx+13)
@[irreducible] def yH (ro:Ro):PT:=fun e h nx Q=>aB (aQ .add (e 3) (Value.int IntKind.i64 1)) fun a'=>aB (bF (e 0)) fun b'=>aB (aT 0 b') fun c'=>aB (load1 ro h c') fun d'=>aB (bS d') fun e'=>aB (aQ .lss a' e') fun f'=>aW f' (aB (aQ .add (e 3) (Value.int IntKind.i64 1)) fun g'=>aB (bF (e 0)) fun h'=>aB (aT 0 h') fun i'=>aB (load1 ro h i') fun j'=>aB (cQ 1 j' (e 3)) fun k'=>aB (load1 ro h k') fun l'=>aB (cQ 1 (e 2) g') fun m'=>aB (bU 1 h m' l') fun o'=>aB (aQ .add (e 3) (Value.int IntKind.i64 1)) fun n'=>Q .normal (puts e [(10,(e 3)),(11,a'),(12,(e 0)),(13,b'),(14,c'),(15,d'),(16,e'),(17,f'),(20,(e 2)),(21,(e 3)),(22,g'),(23,(e 0)),(24,h'),(25,i'),(26,j'),(27,(e 3)),(28,k'),(29,l'),(30,m'),(18,(e 3)),(19,n'),(3,n')]) o' (nx+23)) (Q (.exit 0) (puts e [(10,(e 3)),(11,a'),(12,(e 0)),(13,b'),(14,c'),(15,d'),(16,e'),(17,f')]) h (nx+8))
@[irreducible] def aBg (ro:Ro) (v0:Value) (h:T Obj) (nx:Nat) (K:KV):Prop:=aB (bF v0) fun d'=>aB (aT 0 d') fun e'=>aB (load1 ro h e') fun f'=>aB (bS f') fun a'=>aB (aAl Tryz.prog aCJ (nx+5) a' a') fun r5=>eR h (nx+5) r5.2 fun h6=>dZ (yH ro) (puts (fT [v0]) [(4,v0),(5,d'),(6,e'),(7,f'),(8,a'),(9,r5.1),(2,r5.1),(3,(Value.int IntKind.i64 1))]) h6 (nx+8) fun i' g' b' c'=>gI i' (rY ro K g' b' c') (fun j'=>dH (Nat.beq j' 0) (rY ro K g' b' c') (False)) (∃ h',aZ h' b'∧K (.tuple #[]) h' c')
theorem aEI {ro:Ro}{v0:Value}{h:T Obj}{nx:Nat}{K:KV} (hw:aBg ro v0 h nx K):aO Tryz.prog ro pH [v0] h nx K:=zzO (fn:=Tryz.f172) hw
@[irreducible] def aBh (ro:Ro) (v0:Value) (h:T Obj) (nx:Nat) (K:KV):Prop:=aB (bF v0) fun b'=>aB (aT 0 b') fun c'=>aB (load1 ro h c') fun d'=>aB (cQ 1 d' (Value.int IntKind.i64 1)) fun e'=>aB (bU 1 h e' (Value.bool true)) fun h5=>aB (bF v0) fun f'=>aB (aT 1 f') fun g'=>aB (load1 ro h5 g') fun h'=>aB (aQ .add h' (Value.int IntKind.i64 1)) fun i'=>aB (bF v0) fun j'=>aB (aT 1 j') fun k'=>aB (bU 1 h5 k' i') fun l'=>∃ a',aZ a' l'∧K (.tuple #[]) a' (nx+14)
theorem aEJ {ro:Ro}{v0:Value}{h:T Obj}{nx:Nat}{K:KV} (hw:aBh ro v0 h nx K):aO Tryz.prog ro pI [v0] h nx K:=zzO (fn:=Tryz.f173) hw
@[irreducible] def wL (ro:Ro) (v0 v1:Value) (h:T Obj) (nx:Nat) (K:KV):Prop:=aB (bF v0) fun E'=>aB (aT 260 E') fun F'=>aB (load1 ro h F') fun G'=>aB (cQ 1 G' v1) fun H'=>aB (load1 ro h H') fun I'=>aO Tryz.prog ro uT [I'] h (nx+9) fun f' h7 n8=>aB (nth 0 f') fun J'=>aB (nth 1 f') fun aE'=>aB (bF v0) fun K'=>aB (aT 260 K') fun L'=>aB (load1 ro h7 L') fun M'=>aB (cQ 1 M' v1) fun N'=>aB (load1 ro h7 N') fun O'=>aO Tryz.prog ro uS [O'] h7 (n8+13) fun g' h' i'=>aB (nth 0 g') fun P'=>aB (nth 1 g') fun Q'=>aB (unV .not Q') fun a'=>bA a' false h' (i'+8) (fun R'=>R' P' h' (i'+9)) fun S' j' k'=>bA a' false j' k' (fun T'=>T' v0 j' (k'+1)) fun U' l' m'=>bA a' false l' m' (fun V'=>aB (bF U') fun W'=>V' W' l' (m'+1)) fun X' n' o'=>bA a' false n' o' (fun Y'=>aB (aT 0 X') fun Z'=>Y' Z' n' (o'+1)) fun aa' p' q'=>bA a' false p' q' (fun ab'=>aB (aT 257 aa') fun ac'=>ab' ac' p' (q'+1)) fun ad' c' r'=>bA a' false c' r' (fun ae'=>aB (load1 ro c' ad') fun af'=>ae' af' c' (r'+1)) fun ag' s' t'=>bA a' false s' t' (fun ah'=>ah' v1 s' (t'+1)) fun ai' u' v'=>bA a' false u' v' (fun aj'=>aB (cQ 2 ag' ai') fun ak'=>aj' ak' u' (v'+1)) fun al' w' x'=>bA a' false w' x' (fun am'=>aB (ixArr 2 1 al' (Value.int IntKind.i64 0)) fun an'=>am' an' w' (x'+1)) fun ao' d' y'=>bA a' false d' y' (fun ap'=>aB (load1 ro d' ao') fun aq'=>ap' aq' d' (y'+1)) fun ar' z' A'=>bA a' false z' A' (fun as'=>aB (aQ .lss S' ar') fun at'=>as' at' z' (A'+1)) fun au' b' e'=>aB (cS a' (Value.bool true) au') fun av'=>aW av' (∃ B',aZ B' b'∧K (Value.int IntKind.i64 0) B' (e'+3)) (aB (bF v0) fun aw'=>aB (aT 0 aw') fun ax'=>aB (aT 257 ax') fun ay'=>aB (load1 ro b' ay') fun az'=>aB (cQ 2 az' v1) fun aA'=>aB (ixArr 2 1 aA' (Value.int IntKind.i64 1)) fun aB'=>aB (load1 ro b' aB') fun aC'=>aB (aQ .lss J' aC') fun aD'=>aW aD' (∃ C',aZ C' b'∧K (Value.int IntKind.i64 2) C' (e'+15)) (∃ D',aZ D' b'∧K (Value.int IntKind.i64 1) D' (e'+15)))
theorem aAv {ro:Ro}{v0 v1:Value}{h:T Obj}{nx:Nat}{K:KV} (hw:wL ro v0 v1 h nx K):aO Tryz.prog ro oT [v0,v1] h nx K:=zzO (fn:=Tryz.f186) hw
@[irreducible] def aDA (ro:Ro) (v0:Value) (h:T Obj) (nx:Nat) (K:KV):Prop:=aB (xU .eql v0 (Value.pointer none)) fun u'=>aW u' (∃ h2,aZ h2 h∧K (.tuple #[]) h2 (nx+2)) (aB (bF v0) fun v'=>aB (aT 4 v') fun w'=>aB (load1 ro h w') fun x'=>aB (aQ .add x' (Value.int IntKind.i64 1)) fun y'=>aB (bF v0) fun z'=>aB (aT 4 z') fun A'=>aB (bU 1 h A' y') fun h9=>aB (bF v0) fun B'=>aB (aT 2 B') fun C'=>aB (load1 ro h9 C') fun D'=>aB (aQ .gtr D' (Value.int IntKind.i64 0)) fun a'=>bA a' true h9 (nx+16) (fun E'=>E' v0 h9 (nx+17)) fun F' d' e'=>bA a' true d' e' (fun G'=>G' v0 d' (e'+1)) fun H' f' g'=>bA a' true f' g' (fun I'=>aB (bF H') fun J'=>I' J' f' (g'+1)) fun K' h' i'=>bA a' true h' i' (fun L'=>aB (aT 2 K') fun M'=>L' M' h' (i'+1)) fun N' c' j'=>bA a' true c' j' (fun O'=>aB (load1 ro c' N') fun P'=>O' P' c' (j'+1)) fun Q' k' l'=>bA a' true k' l' (fun R'=>aB (aQ .sub Q' (Value.int IntKind.i64 1)) fun S'=>R' S' k' (l'+1)) fun T' m' n'=>bA a' true m' n' (fun U'=>aO Tryz.prog ro gX [F',T'] m' (n'+1) fun V' W' X'=>U' V' W' X') fun Y' o' p'=>bA a' true o' p' (fun Z'=>aB (aQ .eql Y' (Value.int IntKind.i64 1)) fun aa'=>Z' aa' o' (p'+1)) fun ab' b' q'=>aB (cS a' ab' (Value.bool false)) fun ac'=>aW ac' (∃ r',aZ r' b'∧K (.tuple #[]) r' (q'+1)) (aB (bF v0) fun ad'=>aB (aT 0 ad') fun ae'=>aB (load1 ro b' ae') fun af'=>aB (bF v0) fun ag'=>aB (aT 1 ag') fun ah'=>aB (load1 ro b' ah') fun ai'=>aB (bF v0) fun aj'=>aB (aT 2 aj') fun ak'=>aB (load1 ro b' ak') fun al'=>aB (aQ .add ai' al') fun am'=>aB (bF v0) fun an'=>aB (aT 0 an') fun ao'=>aB (load1 ro b' ao') fun ap'=>aB (bS ap') fun aq'=>aB (aQ .rem am' aq') fun ar'=>aB (bF v0) fun as'=>aB (aT 3 as') fun at'=>aB (load1 ro b' at') fun au'=>aB (cQ 1 af' ar') fun av'=>aB (bU 1 b' av' au') fun s'=>aB (bF v0) fun aw'=>aB (aT 2 aw') fun ax'=>aB (load1 ro s' ax') fun ay'=>aB (aQ .add ay' (Value.int IntKind.i64 1)) fun az'=>aB (bF v0) fun aA'=>aB (aT 2 aA') fun aB'=>aB (bU 1 s' aB' az') fun aC'=>∃ t',aZ t' aC'∧K (.tuple #[]) t' (q'+34)))
theorem aEr {ro:Ro}{v0:Value}{h:T Obj}{nx:Nat}{K:KV} (hw:aDA ro v0 h nx K):aO Tryz.prog ro qF [v0] h nx K:=zzO (fn:=Tryz.f188) hw
@[irreducible] def aCw (ro:Ro) (v0:Value) (h:T Obj) (nx:Nat) (K:KV):Prop:=aB (xU .eql v0 (Value.pointer none)) fun w'=>aW w' (∃ h2,aZ h2 h∧K (.tuple #[]) h2 (nx+2)) (aB (bF v0) fun x'=>aB (aT 4 x') fun y'=>aB (load1 ro h y') fun z'=>aB (aQ .add z' (Value.int IntKind.i64 1)) fun A'=>aB (bF v0) fun B'=>aB (aT 4 B') fun C'=>aB (bU 1 h C' A') fun h9=>aB (bF v0) fun D'=>aB (aT 3 D') fun E'=>aB (load1 ro h9 E') fun F'=>aB (aQ .add F' (Value.int IntKind.i64 1)) fun G'=>aB (bF v0) fun H'=>aB (aT 3 H') fun I'=>aB (bU 1 h9 I' G') fun c'=>aB (bF v0) fun J'=>aB (aT 2 J') fun K'=>aB (load1 ro c' K') fun L'=>aB (aQ .gtr L' (Value.int IntKind.i64 0)) fun a'=>bA a' true c' (nx+33) (fun M'=>M' v0 c' (nx+33)) fun N' d' g'=>bA a' true d' g' (fun O'=>aO Tryz.prog ro gX [N',(Value.int IntKind.i64 0)] d' g' fun P' Q' R'=>O' P' Q' R') fun S' e' h'=>bA a' true e' h' (fun T'=>T' v0 e' h') fun U' i' j'=>bA a' true i' j' (fun V'=>aB (bF U') fun W'=>V' W' i' j') fun X' k' l'=>bA a' true k' l' (fun Y'=>aB (aT 0 X') fun Z'=>Y' Z' k' l') fun m' f' n'=>bA a' true f' n' (fun aa'=>aB (load1 ro f' m') fun ab'=>(onP (some (a',true)) (gZ m' d' e'))∧(aa' ab' f' n')) fun ac' o' p'=>bA a' true o' p' (fun ad'=>aB (bS ac') fun ae'=>ad' ae' o' p') fun af' q' r'=>bA a' true q' r' (fun ag'=>aB (aQ .gtr S' af') fun ah'=>ag' ah' q' r') fun ai' b' s'=>aB (cS a' ai' (Value.bool false)) fun aj'=>aW aj' (aB (bF v0) fun ak'=>aB (aT 1 ak') fun al'=>aB (load1 ro b' al') fun am'=>aB (aQ .add am' (Value.int IntKind.i64 1)) fun an'=>aB (bF v0) fun ao'=>aB (aT 0 ao') fun ap'=>aB (load1 ro b' ap') fun aq'=>aB (bS aq') fun ar'=>aB (aQ .rem an' ar') fun as'=>aB (bF v0) fun at'=>aB (aT 1 at') fun au'=>aB (bU 1 b' au' as') fun t'=>aB (bF v0) fun av'=>aB (aT 2 av') fun aw'=>aB (load1 ro t' aw') fun ax'=>aB (aQ .sub ax' (Value.int IntKind.i64 1)) fun ay'=>aB (bF v0) fun az'=>aB (aT 2 az') fun aA'=>aB (bU 1 t' aA' ay') fun aB'=>∃ u',aZ u' aB'∧K (.tuple #[]) u' (s'+23)) (∃ v',aZ v' b'∧K (.tuple #[]) v' s'))
theorem aEn {ro:Ro}{v0:Value}{h:T Obj}{nx:Nat}{K:KV} (hw:aCw ro v0 h nx K):aO Tryz.prog ro qE [v0] h nx K:=zzO (fn:=Tryz.f189) hw
@[irreducible] def aCz (ro:Ro) (v0:Value) (h:T Obj) (nx:Nat) (K:KV):Prop:=aO Tryz.prog ro nI [v0] h (nx+4) fun b' h2 n3=>aB (aQ .eql b' (Value.int IntKind.i64 0)) fun c'=>aW c' (∃ h5,aZ h5 h2∧K (.tuple #[(Value.int IntKind.i64 0),(Value.bool false)]) h5 (n3+3)) (aB (bF v0) fun d'=>aB (aT 2 d') fun e'=>aB (load1 ro h2 e') fun f'=>aB (aQ .sub f' (Value.int IntKind.i64 1)) fun g'=>aO Tryz.prog ro gX [v0,g'] h2 (n3+8) fun h' i' j'=>∃ a',aZ a' i'∧K (.tuple #[h',(Value.bool true)]) a' (j'+2))
theorem aEq {ro:Ro}{v0:Value}{h:T Obj}{nx:Nat}{K:KV} (hw:aCz ro v0 h nx K):aO Tryz.prog ro uT [v0] h nx K:=zzO (fn:=Tryz.f194) hw
@[irreducible] def aCy (ro:Ro) (v0:Value) (h:T Obj) (nx:Nat) (K:KV):Prop:=aO Tryz.prog ro nI [v0] h (nx+4) fun a' h2 n3=>aB (aQ .eql a' (Value.int IntKind.i64 0)) fun b'=>aW b' (∃ h5,aZ h5 h2∧K (.tuple #[(Value.int IntKind.i64 0),(Value.bool false)]) h5 (n3+3)) (aO Tryz.prog ro gX [v0,(Value.int IntKind.i64 0)] h2 (n3+3) fun c' h7 n8=>∃ h9,aZ h9 h7∧K (.tuple #[c',(Value.bool true)]) h9 (n8+2))
theorem aEp {ro:Ro}{v0:Value}{h:T Obj}{nx:Nat}{K:KV} (hw:aCy ro v0 h nx K):aO Tryz.prog ro uS [v0] h nx K:=zzO (fn:=Tryz.f195) hw
@[irreducible] def uV (ro:Ro) (v0 v1:Value) (h:T Obj) (nx:Nat) (K:KV):Prop:=aB (bF v0) fun b'=>aB (aT 3 b') fun c'=>aB (load1 ro h c') fun d'=>aB (bF v0) fun e'=>aB (aT 0 e') fun f'=>aB (load1 ro h f') fun g'=>aB (bF v0) fun h'=>aB (aT 1 h') fun i'=>aB (load1 ro h i') fun j'=>aB (aQ .add j' v1) fun k'=>aB (bF v0) fun l'=>aB (aT 0 l') fun m'=>aB (load1 ro h m') fun n'=>aB (bS n') fun o'=>aB (aQ .rem k' o') fun p'=>aB (cQ 1 g' p') fun q'=>aB (load1 ro h q') fun r'=>aB (aQ .sub d' r') fun s'=>aB (aQ .add s' (Value.int IntKind.i64 1)) fun t'=>∃ a',aZ a' h∧K t' a' (nx+26)
theorem xM {ro:Ro}{v0 v1:Value}{h:T Obj}{nx:Nat}{K:KV} (hw:uV ro v0 v1 h nx K):aO Tryz.prog ro gX [v0,v1] h nx K:=zzO (fn:=Tryz.f196) hw
end V
end Go.Proofs.YtcaccnneblghgaaGreat
namespace Go.Proofs.YtcaccnneblghgaaGreat
set_option maxRecDepth 20000
namespace V
theorem o6 (id off z:Nat):xU .eql (at_ id off z) (.pointer none)=some (.bool false):=rfl
theorem aLa (id off z:Nat):xU .neq (at_ id off z) (.pointer none)=some (.bool true):=rfl
theorem aR (id off z:Nat):bF (at_ id off z)=some (at_ id off z):=rfl
theorem aGB (a b n:Nat):((a:Int)+(b:Int)) % (n:Int)=(((a+b) % n:Nat):Int):=by rw[Int.natCast_emod,Int.natCast_add]
theorem yE (a n c:Nat) (k:IntKind) {i:Nat} (hi:i < n):cQ 1 (.slice (some (V.own a 1)) n c) (.int k (i:Int))=some (at_ a i 0):=by
 have h1:pL (Value.int k (i:Int))=some i:=by simp[pL]
 have h2:Nat.blt i n=true:=by simpa using hi
 simp[cQ,h1,h2,V.own,elt]
def pA (a n first many now w:Nat):List Value:=[.slice (some (V.own a 1)) n n,.int .i64 first,.int .i64 many,.int .i64 now,.int .i64 w]
def tI (put:List Nat):List Value:=put.map fun (x:Nat)=>.int .i64 (x:Int)
theorem aLd (put:List Nat):(tI put).length=put.length:=by simp[tI]
theorem aLc {put:List Nat}{k:Nat} (hk:k < put.length):(tI put)[k]?=some (.int .i64 (put.getD k 0:Nat)):=by
 simp[tI,hk]
theorem aLe (put:List Nat) (k x:Nat):(tI put).set k (.int .i64 (x:Int))=tI (put.set k x):=by
 simp[tI,List.map_set]
def RI (h:T Obj) (p a n:Nat) (L:List Nat) (w:Nat):Prop:=∃ (put:List Nat) (first now:Nat),
 h.get p=some (.cells (pA a n first L.length now w).toArray cT)∧h.get a=some (.cells (tI put).toArray dY)∧p≠a∧put.length=n∧1≤n∧n≤4096∧first < n∧now≤w∧w≤1000000 ∧
 (∀ i,i < L.length→put.getD ((first+i) % n) 0+L.getD i 0=now+1)∧L.Pairwise (fun x y=>y < x)∧(∀ x∈L,1≤x∧x≤n)
def zL (h h':T Obj) (p a:Nat):Prop:=∀ k,k≠p→k≠a→h'.get k=h.get k
theorem Fr.lt {h:T Obj}{nx k:Nat}{o:Obj} (hf:Fr h nx) (hg:h.get k=some o):k < nx:=by
 rcases Nat.lt_or_ge k nx with h9 | h9
 ·exact h9
 ·rw[hf k h9] at hg; cases hg
theorem aFs {L:List Nat}:∀ {lo hi:Nat},1≤lo→L.Pairwise (fun x y=>y < x)→(∀ x∈L,lo≤x∧x≤hi)→L.length+lo≤hi+1∨L=[]:=by
 induction L with
 | nil=>intro lo hi _ _ _; exact .inr rfl
 | cons x r ih =>
  intro lo hi hlo hp hb
  left
  have hx:=hb x (List.mem_cons_self ..)
  rw[List.pairwise_cons] at hp
  rcases ih (lo:=lo) (hi:=x - 1) hlo hp.2 fun y hy=>⟨(hb y (List.mem_cons_of_mem _ hy)).1,by have:=hp.1 y hy; omega⟩ with h1 | h1
  ·rw[List.length_cons]; omega
  ·subst h1; simp; omega
theorem RI.len {h:T Obj}{p a n w:Nat}{L:List Nat} (hR:RI h p a n L w):L.length≤n:=by
 obtain⟨put,first,now,_,_,_,_,h1,_,_,_,_,_,hp,hb⟩:=hR
 rcases aFs (Nat.le_refl 1) hp hb with h9 | h9
 ·omega
 ·subst h9; simp
theorem zzXz{A B:Prop}(k:B)(h:B→A:=by first|exact aA (by simp (disch:=first|omega|exact nnN _|assumption) only [decide_true,decide_false,Bool.not_true,Bool.not_false,eG,dF,dE,bY,cM,b8,fL,fH,fK,fJ,cN,dO,eH,c8,cK,Option.bind_some,Value.cells_agg,cY,cL,cH,dK,dI,dP,dQ,bD,bI,bL,bK,bJ,bH,bT,bQ,cO,dD,cP,dT,gT,fA,dC,eK,dA,dB,cR,cB,cA,fC,eJ,dR,cV,cJ,cF,T.get_upd_same,T.get_upd_ne,bP,bW,tl,ts,if_pos,Nat.zero_add,Nat.mul_one,Nat.add_zero,Int.toNat_natCast,↓reduceIte,Nat.reduceLeDiff,Nat.reduceAdd,Nat.le_refl,zz]<;>rfl)|exact aE|exact aF|with_reducible first|exact aH|exact aG|exact aL|exact aI|exact aK|exact aJ|exact aM|exact aC):A:=h k
theorem aA8 {ro:Ro}{h:T Obj}{p a n w i nx:Nat}{L:List Nat}{K:KV} (hR:RI h p a n L w) (hi:i < L.length) (hK:∀ nx',nx≤nx'→K (.int .i64 (L.getD i 0:Nat)) h nx'):aO Tryz.prog ro gX [ptr p,.int .i64 (i:Int)] h nx K:=by
 have hln:=hR.len
 obtain⟨put,first,now,gp,ga,hne,hpl,h1,h2,h3,h4,h5,hrel,hpw,hb⟩:=hR
 apply xM
 unfold uV
 have hm:(first+i) % n < n:=Nat.mod_lt _ (by omega)
 have hm2:(first+i) % n < put.length:=by omega
 have hr:=hrel i hi
 (have zz:=And.intro @aR (And.intro gp (And.intro ga (And.intro @aGB (And.intro @yE @aLc))));repeat refine zzXz ?_)
 refine⟨h,aZ.refl _,?_⟩
 have e:(now:Int) - (put.getD ((first+i) % n) 0:Nat)+1=(L.getD i 0:Nat):=by omega
 rw[e]
 exact hK _ (by omega)
theorem aD0 {ro:Ro}{h:T Obj}{p a n w nx:Nat}{L:List Nat}{K:KV} (hR:RI h p a n L w) (hK:∀ nx',nx≤nx'→K (.int .i64 (L.length:Nat)) h nx'):aO Tryz.prog ro nI [ptr p] h nx K:=by
 obtain⟨put,first,now,gp,ga,hne,hpl,h1,h2,h3,h4,h5,hrel,hpw,hb⟩:=hR
 apply aEo
 unfold aCx
 (have zz:=And.intro @o6 (And.intro @aR (And.intro gp ga));repeat refine zzXz ?_)
 exact⟨h,aZ.refl _,hK _ (by omega)⟩
theorem aLz {ro:Ro}{h:T Obj}{p a n w nx:Nat}{L:List Nat}{K:KV} (hR:RI h p a n L w) (hK:∀ nx',nx≤nx'→K (.int .i64 (w:Nat)) h nx'):aO Tryz.prog ro tF [ptr p] h nx K:=by
 obtain⟨put,first,now,gp,ga,hne,hpl,h1,h2,h3,h4,h5,hrel,hpw,hb⟩:=hR
 apply aER
 unfold aBw
 (have zz:=And.intro @o6 (And.intro @aR (And.intro gp ga));repeat refine zzXz ?_)
 exact⟨h,aZ.refl _,hK _ (by omega)⟩
def aE8 (L:List Nat):Value:=if L.length=0 then .tuple #[.int .i64 0,.bool false] else .tuple #[.int .i64 (L.getD 0 0:Nat),.bool true]
def aEf (L:List Nat):Value:=if L.length=0 then .tuple #[.int .i64 0,.bool false] else .tuple #[.int .i64 (L.getD (L.length - 1) 0:Nat),.bool true]
theorem zzX{A B:Prop}(k:B)(h:B→A:=by first|exact aA (by simp (disch:=first|omega|exact nnN _|assumption) only [decide_true,decide_false,Bool.not_true,Bool.not_false,eG,dF,dE,bY,cM,b8,fL,fH,fK,fJ,cN,dO,eH,c8,cK,Option.bind_some,Value.cells_agg,cY,cL,cH,dK,dI,dP,dQ,bD,bI,bL,bK,bJ,bH,bT,bQ,cO,dD,cP,dT,gT,fA,dC,eK,dA,dB,cR,cB,cA,fC,eJ,dR,cV,cJ,cF,T.get_upd_same,T.get_upd_ne,bP,bW,tl,ts,if_pos,Nat.zero_add,Nat.mul_one,Nat.add_zero,Int.toNat_natCast,↓reduceIte,Nat.reduceLeDiff,Nat.reduceAdd,Nat.le_refl]<;>rfl)|exact aE|exact aF|with_reducible first|exact aH|exact aG|exact aL|exact aI|exact aK|exact aJ|exact aM|exact aC):A:=h k
theorem aNN {ro:Ro}{h:T Obj}{p a n w nx:Nat}{L:List Nat}{K:KV} (hR:RI h p a n L w) (hK:∀ nx',nx≤nx'→K (aE8 L) h nx'):aO Tryz.prog ro uS [ptr p] h nx K:=by
 apply aEp
 unfold aCy
 refine aD0 hR fun n2 hn2=>?_
 (repeat refine zzX ?_)
 unfold aE8 at hK
 by_cases h0:L.length=0
 ·refine iG (by simp[h0]) ?_
  rw[if_pos h0] at hK
  exact⟨h,aZ.refl _,hK _ (by omega)⟩
 ·refine iF (decide_eq_false (by omega)) ?_
  rw[if_neg h0] at hK
  refine aA8 (i:=0) hR (by omega) fun n3 hn3=>?_
  exact⟨h,aZ.refl _,hK _ (by omega)⟩
theorem aNO {ro:Ro}{h:T Obj}{p a n w nx:Nat}{L:List Nat}{K:KV} (hR:RI h p a n L w) (hK:∀ nx',nx≤nx'→K (aEf L) h nx'):aO Tryz.prog ro uT [ptr p] h nx K:=by
 apply aEq
 unfold aCz
 refine aD0 hR fun n2 hn2=>?_
 (repeat refine zzX ?_)
 unfold aEf at hK
 by_cases h0:L.length=0
 ·refine iG (by simp[h0]) ?_
  rw[if_pos h0] at hK
  exact⟨h,aZ.refl _,hK _ (by omega)⟩
 ·refine iF (decide_eq_false (by omega)) ?_
  rw[if_neg h0] at hK
  have hR':=hR
  have hln:=hR.len
  obtain⟨put,first,now,gp,ga,hne,hpl,h1,h2,h3,h4,h5,hrel,hpw,hb⟩:=hR
  (have zz:=And.intro @aR gp;repeat refine zzXz ?_)
  have e:(L.length:Int) - 1=((L.length - 1:Nat):Int):=by omega
  rw[e]
  refine aA8 (i:=L.length - 1) hR' (by omega) fun n3 hn3=>?_
  exact⟨h,aZ.refl _,hK _ (by omega)⟩
def aEi (L:List Nat):List Nat:=if L.getD (L.length - 1) 0=1 then L else L++[1]
theorem aEj {L:List Nat} (h:L.getD (L.length - 1) 0≠1):aEi L=L++[1]:=if_neg h
theorem aQM {L:List Nat}{x:Nat} (hx:x∈L) (hp:L.Pairwise (fun x y=>y < x)):L.getD (L.length - 1) 0≤x:=by
 obtain⟨i,hi,rfl⟩:=List.getElem_of_mem hx
 have h1:L.getD (L.length - 1) 0=L[L.length - 1]:=by simp[List.getD,List.getElem?_eq_getElem (show L.length - 1 < L.length by omega)]
 rw[h1]
 rcases Nat.lt_or_ge i (L.length - 1) with h2 | h2
 ·exact Nat.le_of_lt (List.pairwise_iff_getElem.1 hp i (L.length - 1) hi (by omega) h2)
 ·have:i=L.length - 1:=by omega
  subst this; exact Nat.le_refl _
theorem aOC {L:List Nat}{n:Nat} (h:L.getD (L.length - 1) 0≠1) (hp:L.Pairwise (fun x y=>y < x)) (hb:∀ x∈L,1≤x∧x≤n):∀ x∈L,2≤x∧x≤n:=fun x hx=>by
 have h1:=aQM hx hp
 have h2:=hb x hx
 have h3:L.getD (L.length - 1) 0∈L:=by
  obtain⟨i,hi,_⟩:=List.getElem_of_mem hx
  have h1:L.getD (L.length - 1) 0=L[L.length - 1]:=by simp[List.getD,List.getElem?_eq_getElem (show L.length - 1 < L.length by omega)]
  rw[h1]; exact List.getElem_mem _
 have:=hb _ h3
 omega
theorem aLg {L:List Nat}{n:Nat} (hn:1≤n) (h:L.getD (L.length - 1) 0≠1) (hp:L.Pairwise (fun x y=>y < x)) (hb:∀ x∈L,1≤x∧x≤n):L.length < n:=by
 rcases aFs (lo:=2) (by omega) hp (aOC h hp hb) with h9 | h9
 ·omega
 ·subst h9; exact hn
theorem aJm {L:List Nat}{n:Nat} (h:L.getD (L.length - 1) 0≠1) (hp:L.Pairwise (fun x y=>y < x)) (hb:∀ x∈L,1≤x∧x≤n):(L++[1]).Pairwise (fun x y=>y < x):=by
 rw[List.pairwise_append]
 refine⟨hp,List.pairwise_singleton ..,fun x hx y hy=>?_⟩
 have:=aOC h hp hb x hx
 rw[List.mem_singleton] at hy
 omega
theorem aNG {L:List Nat}{n:Nat} (hn:1≤n) (hb:∀ x∈L,1≤x∧x≤n):∀ x∈L++[1],1≤x∧x≤n:=fun x hx=>by
 rw[List.mem_append,List.mem_singleton] at hx
 rcases hx with hx | rfl
 ·exact hb x hx
 ·omega
theorem aRh {f i j n:Nat} (hi:i < n) (hj:j < n) (he:(f+i) % n=(f+j) % n):i=j:=by
 have h1:=Nat.div_add_mod (f+i) n
 have h2:=Nat.div_add_mod (f+j) n
 rcases Nat.lt_trichotomy ((f+i) / n) ((f+j) / n) with h | h | h
 ·have:=Nat.mul_le_mul_left n (show (f+i) / n+1≤(f+j) / n from h)
  rw[Nat.mul_add] at this; omega
 ·rw[h] at h1; omega
 ·have:=Nat.mul_le_mul_left n (show (f+j) / n+1≤(f+i) / n from h)
  rw[Nat.mul_add] at this; omega
theorem aOB {L put:List Nat}{n first now:Nat} (hpl:put.length=n) (hf:first < n) (hr:L.length < n) (hrel:∀ i,i < L.length→put.getD ((first+i) % n) 0+L.getD i 0=now+1) :
  ∀ i,i < (L++[1]).length→(put.set ((first+L.length) % n) now).getD ((first+i) % n) 0+(L++[1]).getD i 0=now+1:=fun i hi=>by
 have hm:(first+i) % n < n:=Nat.mod_lt _ (by omega)
 rw[List.length_append,List.length_singleton] at hi
 rcases Nat.lt_or_ge i L.length with h1 | h1
 ·have hne:(first+L.length) % n≠(first+i) % n:=fun e=>by have:=aRh hr (by omega) e; omega
  have e1:(put.set ((first+L.length) % n) now).getD ((first+i) % n) 0=put.getD ((first+i) % n) 0:=by simp[List.getD,List.getElem?_set_ne hne]
  have e2:(L++[1]).getD i 0=L.getD i 0:=by simp[List.getD,List.getElem?_append_left h1]
  rw[e1,e2]; exact hrel i h1
 ·have:i=L.length:=by omega
  subst this
  have e1:(put.set ((first+L.length) % n) now).getD ((first+L.length) % n) 0=now:=by simp[List.getD,List.getElem?_set_self,hpl,hm]
  have e2:(L++[1]).getD L.length 0=1:=by simp[List.getD]
  rw[e1,e2]
set_option maxRecDepth 4000 in
theorem aHT {ro:Ro}{h:T Obj}{p a n w nx:Nat}{L:List Nat}{K:KV} (hR:RI h p a n L w) (hw:w+1≤1000000) (hK:∀ h' nx',nx≤nx'→RI h' p a n (aEi L) (w+1)→zL h h' p a→K (.tuple #[]) h' nx'):aO Tryz.prog ro qF [ptr p] h nx K:=by
 have hln:=hR.len
 obtain⟨put,first,now,gp,ga,hne,hpl,b1,b2,b3,b4,b5,hrel,hpw,hb⟩:=hR
 apply aEr
 unfold aDA
 (have zz:=And.intro @o6 (And.intro @aR (And.intro gp ga));repeat refine zzXz ?_)
 have gp1:(h.upd p (some (.cells (over (pA a n first L.length now w).toArray.toList 4 [.int .i64 ((w:Int)+1)]).toArray cT))).get p=some (.cells (pA a n first L.length now (w+1)).toArray cT):=by
  rw[T.get_upd_same]; rfl
 have ga1:(h.upd p (some (.cells (over (pA a n first L.length now w).toArray.toList 4 [.int .i64 ((w:Int)+1)]).toArray cT))).get a=some (.cells (tI put).toArray dY):=by rw[T.get_upd_ne _ _ (Ne.symm hne)]; exact ga
 have ho1:zL h (h.upd p (some (.cells (over (pA a n first L.length now w).toArray.toList 4 [.int .i64 ((w:Int)+1)]).toArray cT))) p a:=fun k k1 k2=>by rw[T.get_upd_ne _ _ k1]
 generalize (h.upd p (some (.cells (over (pA a n first L.length now w).toArray.toList 4 [.int .i64 ((w:Int)+1)]).toArray cT)))=h1 at gp1 ga1 ho1
 have hR1:RI h1 p a n L (w+1):=⟨put,first,now,gp1,ga1,hne,hpl,b1,b2,b3,by omega,hw,hrel,hpw,hb⟩
 (have zz:=And.intro @aR gp1;repeat refine zzXz ?_)
 rcases Nat.eq_zero_or_pos L.length with hm | hm
 ·have d:decide ((0:Int) < (L.length:Int))=false:=decide_eq_false (by omega)
  rw[d]
  have hlast:L.getD (L.length - 1) 0≠1:=by
   have:L=[]:=List.length_eq_zero_iff.1 hm
   subst this; decide
  (repeat refine zzX ?_)
  (have zz:=And.intro @aR (And.intro gp1 @aGB);repeat refine zzXz ?_)
  have hcase:(first+L.length) % n < n:=Nat.mod_lt _ (by omega)
  refine aA (yE _ _ _ _ hcase) ?_
  refine aA (bX (v:=.int .i64 _) (l:=tI put) ga1 (by rw[aLd]; omega) rfl rfl) ?_
  rw[aLe]
  have gp2:(h1.upd a (some (.cells (tI (put.set ((first+L.length) % n) now)).toArray dY))).get p=some (.cells (pA a n first L.length now (w+1)).toArray cT):=by rw[T.get_upd_ne _ _ hne]; exact gp1
  have ga2:(h1.upd a (some (.cells (tI (put.set ((first+L.length) % n) now)).toArray dY))).get a=some (.cells (tI (put.set ((first+L.length) % n) now)).toArray dY):=T.get_upd_same _ _ _
  have ho2:zL h (h1.upd a (some (.cells (tI (put.set ((first+L.length) % n) now)).toArray dY))) p a:=fun k k1 k2=>by rw[T.get_upd_ne _ _ k2]; exact ho1 k k1 k2
  generalize (h1.upd a (some (.cells (tI (put.set ((first+L.length) % n) now)).toArray dY)))=h2 at gp2 ga2 ho2
  (have zz:=And.intro @aR gp2;repeat refine zzXz ?_)
  have gp3:(h2.upd p (some (.cells (over (pA a n first L.length now (w+1)).toArray.toList 2 [.int .i64 ((L.length:Int)+1)]).toArray cT))).get p=some (.cells (pA a n first (L++[1]).length now (w+1)).toArray cT):=by
   rw[T.get_upd_same,List.length_append]; rfl
  refine⟨_,aZ.refl _,hK _ _ (by omega) ?_ ?_⟩
  ·rw[aEj hlast]
   exact⟨put.set ((first+L.length) % n) now,first,now,gp3,by rw[T.get_upd_ne _ _ (Ne.symm hne)]; exact ga2,hne,by rw[List.length_set]; exact hpl,b1,b2,b3,by omega,hw,aOB hpl b3 (aLg b1 hlast hpw hb) hrel,aJm hlast hpw hb,aNG b1 hb⟩
  ·exact fun k k1 k2=>by rw[T.get_upd_ne _ _ k1]; exact ho2 k k1 k2
 ·have d:decide ((0:Int) < (L.length:Int))=true:=decide_eq_true (by omega)
  rw[d]
  (have zz:=And.intro @aR gp1;repeat refine zzXz ?_)
  have e:(L.length:Int) - 1=((L.length - 1:Nat):Int):=by omega
  rw[e]
  refine aA8 (i:=L.length - 1) hR1 (by omega) fun n4 hn4=>?_
  (repeat refine zzX ?_)
  by_cases hlast:L.getD (L.length - 1) 0=1
  ·rw[decide_eq_true (show ((L.getD (L.length - 1) 0:Nat):Int)=1 by omega)]
   (repeat refine zzX ?_)
   refine⟨_,aZ.refl _,hK _ _ (by omega) ?_ ho1⟩
   unfold aEi
   rw[if_pos hlast]
   exact hR1
  rw[decide_eq_false (show ¬ ((L.getD (L.length - 1) 0:Nat):Int)=1 by omega)]
  (repeat refine zzX ?_)
  (have zz:=And.intro @aR (And.intro gp1 @aGB);repeat refine zzXz ?_)
  have hcase:(first+L.length) % n < n:=Nat.mod_lt _ (by omega)
  refine aA (yE _ _ _ _ hcase) ?_
  refine aA (bX (v:=.int .i64 _) (l:=tI put) ga1 (by rw[aLd]; omega) rfl rfl) ?_
  rw[aLe]
  have gp2:(h1.upd a (some (.cells (tI (put.set ((first+L.length) % n) now)).toArray dY))).get p=some (.cells (pA a n first L.length now (w+1)).toArray cT):=by rw[T.get_upd_ne _ _ hne]; exact gp1
  have ga2:(h1.upd a (some (.cells (tI (put.set ((first+L.length) % n) now)).toArray dY))).get a=some (.cells (tI (put.set ((first+L.length) % n) now)).toArray dY):=T.get_upd_same _ _ _
  have ho2:zL h (h1.upd a (some (.cells (tI (put.set ((first+L.length) % n) now)).toArray dY))) p a:=fun k k1 k2=>by rw[T.get_upd_ne _ _ k2]; exact ho1 k k1 k2
  generalize (h1.upd a (some (.cells (tI (put.set ((first+L.length) % n) now)).toArray dY)))=h2 at gp2 ga2 ho2
  (have zz:=And.intro @aR gp2;repeat refine zzXz ?_)
  have gp3:(h2.upd p (some (.cells (over (pA a n first L.length now (w+1)).toArray.toList 2 [.int .i64 ((L.length:Int)+1)]).toArray cT))).get p=some (.cells (pA a n first (L++[1]).length now (w+1)).toArray cT):=by
   rw[T.get_upd_same,List.length_append]; rfl
  refine⟨_,aZ.refl _,hK _ _ (by omega) ?_ ?_⟩
  ·rw[aEj hlast]
   exact⟨put.set ((first+L.length) % n) now,first,now,gp3,by rw[T.get_upd_ne _ _ (Ne.symm hne)]; exact ga2,hne,by rw[List.length_set]; exact hpl,b1,b2,b3,by omega,hw,aOB hpl b3 (aLg b1 hlast hpw hb) hrel,aJm hlast hpw hb,aNG b1 hb⟩
  ·exact fun k k1 k2=>by rw[T.get_upd_ne _ _ k1]; exact ho2 k k1 k2
def oA (l:List Nat):List (List Value):=l.map fun b:Nat=>[Value.int .i64 (b:Int)]
theorem zV (l:List Nat):(oA l).length=l.length:=by simp[oA]
theorem aRc (aid:Nat) (b:Int):b7 Tryz.prog fY aid 1 [(0,.int .i64 b)]=some (.slice (some (own aid 1)) 1 1,some (.cells #[.int .i64 b] dY)):=by kernel_rfl
theorem aMX:iM Tryz.prog fY=some (.slice dY):=by kernel_rfl
theorem aOM:∃ i,tin Tryz.prog dY=some i∧i.size=1∧i.bytes=8:=by
 have h:(tin Tryz.prog dY).map (fun i=>(i.size,i.bytes))=some (1,8):=by kernel_rfl
 cases hi:tin Tryz.prog dY with
 | none=>rw[hi] at h; cases h
 | some i=>rw[hi] at h; simp at h; exact⟨i,rfl,h.1,h.2⟩
theorem aOQ:nF Tryz.prog dY=some (.int .i64 0):=by kernel_rfl
theorem aM2 {ro:Ro}{h:T Obj}{v x:Value}{nx lo hi:Nat}{l:List Nat}{b:Nat} (ho:Own h v 1 dY (oA l) lo hi) (hx:Sl ro h x 1 (oA [b])) (hb:l.length≤1000000) (hlo:lo≤nx) (hnx:hi≤nx) :
  ∃ h' r,cZ Tryz.prog ro h nx #[fY,fY] [v,x]=some (r,h',nx+1)∧Own h' r 1 dY (oA (l++[b])) lo (nx+1)∧(∀ k,(k < lo∨hi≤k)→k≠nx→h'.get k=h.get k)∧(∀ k,k≠nx→h'.get k=h.get k∨h'.get k=none):=by
 obtain⟨i,h1,h2,h3⟩:=aOM
 have hcat:oA l++oA [b]=oA (l++[b]):=by simp[oA]
 have hl1:(oA l).length=l.length:=zV l
 have hl2:(oA [b]).length=1:=rfl
 obtain⟨h',q1,q2,q3,q4⟩:=aAI (P:=Tryz.prog) (t:=fY) ho hx aMX h1 h2 (by omega) aOQ rfl (by simp[oA]) rfl (by rw[hl1,hl2,h3]; unfold oG; omega) (by rw[hl1,hl2]; unfold oG; omega) hlo hnx
 rw[hcat] at q1 q2
 exact⟨h',_,q1,q2,q3,q4⟩
theorem aKE {ro:Ro}{h:T Obj}{p a n first m now w i x nx:Nat}{put:List Nat}{K:KV} (gp:h.get p=some (.cells (pA a n first m now w).toArray cT)) (ga:h.get a=some (.cells (tI put).toArray dY)) (hpl:put.length=n) (h1:1≤n) (h2:n≤4096) (h3:first < n) (h4:now≤2000000) (hi:i≤4096) (hr:put.getD ((first+i) % n) 0+x=now+1) (hK:∀ nx',nx≤nx'→K (.int .i64 (x:Nat)) h nx'):aO Tryz.prog ro gX [ptr p,.int .i64 (i:Int)] h nx K:=by
 apply xM
 unfold uV
 have hm:(first+i) % n < n:=Nat.mod_lt _ (by omega)
 have hm2:(first+i) % n < put.length:=by omega
 (have zz:=And.intro @aR (And.intro gp (And.intro ga (And.intro @aGB (And.intro @yE @aLc))));repeat refine zzXz ?_)
 refine⟨h,aZ.refl _,?_⟩
 have e:(now:Int) - (put.getD ((first+i) % n) 0:Nat)+1=(x:Nat):=by omega
 rw[e]
 exact hK _ (by omega)
def aAV (n:Nat) (L:List Nat):List Nat:=if n≤L.getD 0 0 then (L.map (·+1)).tail else L.map (·+1)
theorem aOe {L:List Nat}{i:Nat} (hi:i < L.length):(L.map (·+1)).getD i 0=L.getD i 0+1:=by
 simp[List.getD,hi]
theorem aMm {L:List Nat}{i:Nat} (hi:i+1 < L.length):(L.map (·+1)).tail.getD i 0=L.getD (i+1) 0+1:=by
 simp[List.getD,hi]
theorem aNi {L:List Nat} (hp:L.Pairwise (fun x y=>y < x)):(L.map (·+1)).Pairwise (fun x y=>y < x):=by
 rw[List.pairwise_map]
 exact hp.imp fun h=>by omega
theorem aI6 {L:List Nat}{x:Nat} (hp:L.Pairwise (fun x y=>y < x)) (hx:x∈L):x≤L.getD 0 0:=by
 cases L with
 | nil=>cases hx
 | cons y r =>
  rw[List.pairwise_cons] at hp
  rcases List.mem_cons.1 hx with rfl | h
  ·exact Nat.le_refl _
  ·exact Nat.le_of_lt (hp.1 x h)
theorem aMn {L:List Nat}{n:Nat} (hp:L.Pairwise (fun x y=>y < x)) (hb:∀ x∈L,1≤x∧x≤n):∀ x∈aAV n L,1≤x∧x≤n:=fun x hx=>by
 unfold aAV at hx
 by_cases h:n≤L.getD 0 0
 ·rw[if_pos h] at hx
  cases L with
  | nil=>cases hx
  | cons y r =>
   rw[List.map_cons,List.tail_cons,List.mem_map] at hx
   obtain⟨z,hz,rfl⟩:=hx
   rw[List.pairwise_cons] at hp
   have h1:=hp.1 z hz
   have h2:=hb y (List.mem_cons_self ..)
   omega
 ·rw[if_neg h,List.mem_map] at hx
  obtain⟨z,hz,rfl⟩:=hx
  have:=aI6 hp hz
  omega
theorem aJ3 {L:List Nat}{n:Nat} (hp:L.Pairwise (fun x y=>y < x)):(aAV n L).Pairwise (fun x y=>y < x):=by
 unfold aAV
 by_cases h:n≤L.getD 0 0
 ·rw[if_pos h]; exact (aNi hp).sublist (List.tail_sublist _)
 ·rw[if_neg h]; exact aNi hp
theorem aQ0 {f i n:Nat}:((f+1) % n+i) % n=(f+(i+1)) % n:=by
 rw[Nat.add_mod,Nat.mod_mod,← Nat.add_mod]; congr 1; omega
set_option maxRecDepth 4000 in
theorem aHS {ro:Ro}{h:T Obj}{p a n w nx:Nat}{L:List Nat}{K:KV} (hR:RI h p a n L w) (hw:w+1≤1000000) (hK:∀ h' nx',nx≤nx'→RI h' p a n (aAV n L) (w+1)→zL h h' p a→K (.tuple #[]) h' nx'):aO Tryz.prog ro qE [ptr p] h nx K:=by
 have hln:=hR.len
 obtain⟨put,first,now,gp,ga,hne,hpl,b1,b2,b3,b4,b5,hrel,hpw,hb⟩:=hR
 apply aEn
 unfold aCw
 (have zz:=And.intro @o6 (And.intro @aR (And.intro gp ga));repeat refine zzXz ?_)
 have gp1:((h.upd p (some (.cells (over (pA a n first L.length now w).toArray.toList 4 [.int .i64 ((w:Int)+1)]).toArray cT))).upd p (some (.cells (over (over (pA a n first L.length now w).toArray.toList 4 [.int .i64 ((w:Int)+1)]).toArray.toList 3 [.int .i64 ((now:Int)+1)]).toArray cT))).get p=some (.cells (pA a n first L.length (now+1) (w+1)).toArray cT):=by
  rw[T.get_upd_same]; rfl
 have ga1:((h.upd p (some (.cells (over (pA a n first L.length now w).toArray.toList 4 [.int .i64 ((w:Int)+1)]).toArray cT))).upd p (some (.cells (over (over (pA a n first L.length now w).toArray.toList 4 [.int .i64 ((w:Int)+1)]).toArray.toList 3 [.int .i64 ((now:Int)+1)]).toArray cT))).get a=some (.cells (tI put).toArray dY):=by rw[T.get_upd_ne _ _ (Ne.symm hne),T.get_upd_ne _ _ (Ne.symm hne)]; exact ga
 have ho1:zL h ((h.upd p (some (.cells (over (pA a n first L.length now w).toArray.toList 4 [.int .i64 ((w:Int)+1)]).toArray cT))).upd p (some (.cells (over (over (pA a n first L.length now w).toArray.toList 4 [.int .i64 ((w:Int)+1)]).toArray.toList 3 [.int .i64 ((now:Int)+1)]).toArray cT))) p a:=fun k k1 k2=>by rw[T.get_upd_ne _ _ k1,T.get_upd_ne _ _ k1]
 generalize ((h.upd p (some (.cells (over (pA a n first L.length now w).toArray.toList 4 [.int .i64 ((w:Int)+1)]).toArray cT))).upd p (some (.cells (over (over (pA a n first L.length now w).toArray.toList 4 [.int .i64 ((w:Int)+1)]).toArray.toList 3 [.int .i64 ((now:Int)+1)]).toArray cT)))=h1 at gp1 ga1 ho1
 rcases Nat.eq_zero_or_pos L.length with hm | hm
 ·have d:decide ((0:Int) < (L.length:Int))=false:=decide_eq_false (by omega)
  rw[d]
  (repeat refine zzX ?_)
  refine⟨_,aZ.refl _,hK _ _ (by omega) ?_ ho1⟩
  have hL:L=[]:=List.length_eq_zero_iff.1 hm
  subst hL
  have hi:aAV n []=[]:=by unfold aAV; rw[if_neg (show ¬ n≤([]:List Nat).getD 0 0 by simp; omega)]; rfl
  rw[hi]
  exact⟨put,first,now+1,gp1,ga1,hne,hpl,b1,b2,b3,by omega,hw,fun i hi=>(by cases hi),List.Pairwise.nil,fun x hx=>(by cases hx)⟩
 ·have d:decide ((0:Int) < (L.length:Int))=true:=decide_eq_true (by omega)
  rw[d]
  (repeat refine zzX ?_)
  refine aKE (i:=0) (x:=L.getD 0 0+1) gp1 ga1 hpl b1 b2 b3 (by omega) (by omega) (by have:=hrel 0 hm; omega) fun n4 hn4=>?_
  (have zz:=And.intro @aR gp1;repeat refine zzXz ?_)
  refine⟨fun _=>eL gp1 gp1,?_⟩
  (repeat refine zzX ?_)
  by_cases hx:n≤L.getD 0 0
  ·rw[decide_eq_true (show (n:Int) < ((L.getD 0 0+1:Nat):Int) by omega)]
   have hmod:((first:Int)+1) % (n:Int)=(((first+1) % n:Nat):Int):=aGB first 1 n
   have hml:(first+1) % n < n:=Nat.mod_lt _ (by omega)
   (have zz:=And.intro @aR (And.intro gp1 hmod);repeat refine zzXz ?_)
   refine⟨_,aZ.refl _,hK _ _ (by omega) ?_ ?_⟩
   ·have hi:aAV n L=(L.map (·+1)).tail:=if_pos hx
    have hlen:(aAV n L).length=L.length - 1:=by rw[hi]; simp
    refine⟨put,(first+1) % n,now+1,?_,?_,hne,hpl,b1,b2,hml,by omega,hw,?_,aJ3 hpw,aMn hpw hb⟩
    ·rw[T.get_upd_same,hlen]
     have e:(L.length:Int) - 1=((L.length - 1:Nat):Int):=by omega
     rw[e]; rfl
    ·rw[T.get_upd_ne _ _ (Ne.symm hne),T.get_upd_ne _ _ (Ne.symm hne)]; exact ga1
    ·intro i hil
     rw[hlen] at hil
     rw[hi,aMm (by omega),aQ0]
     have:=hrel (i+1) (by omega)
     omega
   ·exact fun k k1 k2=>by rw[T.get_upd_ne _ _ k1,T.get_upd_ne _ _ k1]; exact ho1 k k1 k2
  ·rw[decide_eq_false (show ¬ (n:Int) < ((L.getD 0 0+1:Nat):Int) by omega)]
   (repeat refine zzX ?_)
   refine⟨_,aZ.refl _,hK _ _ (by omega) ?_ ho1⟩
   have hi:aAV n L=L.map (·+1):=if_neg hx
   have hlen:(aAV n L).length=L.length:=by rw[hi]; simp
   refine⟨put,first,now+1,by rw[hlen]; exact gp1,ga1,hne,hpl,b1,b2,b3,by omega,hw,?_,aJ3 hpw,aMn hpw hb⟩
   intro i hil
   rw[hlen] at hil
   rw[hi,aOe hil]
   have:=hrel i hil
   omega
set_option maxRecDepth 4000 in
theorem aA7 {ro:Ro}{h:T Obj}{p a n w nx:Nat}{L:List Nat}{K:KV} (hR:RI h p a n L w) (hw:w+1≤1000000) (hK:∀ h' nx',nx≤nx'→RI h' p a n [] (w+1)→zL h h' p a→K (.tuple #[]) h' nx'):aO Tryz.prog ro lJ [ptr p] h nx K:=by
 obtain⟨put,first,now,gp,ga,hne,hpl,b1,b2,b3,b4,b5,hrel,hpw,hb⟩:=hR
 apply aD1
 unfold aAo
 (have zz:=And.intro @aLa (And.intro @aR (And.intro gp ga));repeat refine zzXz ?_)
 refine⟨_,aZ.refl _,hK _ _ (by omega) ?_ ?_⟩
 ·refine⟨put,0,now,?_,?_,hne,hpl,b1,b2,by omega,by omega,hw,fun i hi=>(by cases hi),List.Pairwise.nil,fun x hx=>(by cases hx)⟩
  ·rw[T.get_upd_same]; rfl
  ·rw[T.get_upd_ne _ _ (Ne.symm hne),T.get_upd_ne _ _ (Ne.symm hne),T.get_upd_ne _ _ (Ne.symm hne)]; exact ga
 ·exact fun k k1 k2=>by rw[T.get_upd_ne _ _ k1,T.get_upd_ne _ _ k1,T.get_upd_ne _ _ k1]
theorem aHf:∀ n:Nat,tO [.int .i64 0] n=tI (List.replicate n 0)
 | 0=>rfl
 | n+1=>by
  have:=aHf n
  simp only[tO,this,tI,List.replicate_succ,List.map_cons]; rfl
theorem aQW {aid n:Nat} (h0:1≤n) (h1:n≤1000000):aAl Tryz.prog fY aid (.int .i64 (n:Int)) (.int .i64 (n:Int))=some (.slice (some (own aid 1)) n n,some (.cells (tI (List.replicate n 0)).toArray dY)):=by
 obtain⟨i,g1,g2,g3⟩:=aOM
 have hb:Nat.ble (n*8) oG=true:=Nat.ble_eq_true_of_le (by unfold oG; omega)
 have e1:decide ((0:Int)≤(n:Int))=true:=by simp
 have e2:decide ((n:Int)≤(n:Int))=true:=by simp
 have e3:decide ((n:Int)≤70368744177664)=true:=by simp; omega
 have hz:aFo Tryz.prog dY n=some (tI (List.replicate n 0)):=by
  obtain⟨m,rfl⟩:∃ m,n=m+1:=⟨n - 1,by omega⟩
  have hs:p6 Tryz.prog dY=some 1:=by kernel_rfl
  unfold aFo
  simp only[aOQ,hs,Option.bind_some]
  have h3:Nat.beq (Value.cells (.int .i64 0)).size 1=true:=rfl
  have h4:Nat.blt 0 1=true:=rfl
  rw[h3,h4]
  simp only
  rw[← aHf]; rfl
 unfold aAl
 simp only[aMX,e1,e2,g1,Option.bind_some,g3,Int.toNat_natCast,hb,e3,hz,g2]
theorem aK2 (a n:Nat):fG Tryz.prog cT [(0,.slice (some (own a 1)) n n)]=some (.agg (pA a n 0 0 0 0).toArray):=by kernel_rfl
set_option maxRecDepth 4000 in
theorem aNP {ro:Ro}{h:T Obj}{n nx:Nat}{K:KV} (hf:Fr h nx) (h1:1≤n) (h2:n≤4096) (hK:∀ p a h' nx',nx≤p→nx≤a→nx≤nx'→aZ h h'→Fr h' nx'→RI h' p a n [] 0→K (.tuple #[ptr p,.int .i64 0]) h' nx'):aO Tryz.prog ro aDS [.int .i64 (n:Int)] h nx K:=by
 apply aLy
 unfold aLx
 (repeat refine zzX ?_)
 rw[decide_eq_false (show ¬ (n:Int) < 1 by omega)]
 (repeat refine zzX ?_)
 rw[decide_eq_false (show ¬ (4096:Int) < (n:Int) by omega)]
 (repeat refine zzX ?_)
 refine aA (aQW h1 (by omega)) (aF ?_)
 refine aA (aK2 _ _) (aE ?_)
 refine⟨_,aZ.refl _,hK _ (nx+6+1+2) _ _ (by omega) (by omega) (by omega) (((aZ.refl h).new hf (by omega)).new hf (by omega)) ((hf.upd (m:=nx+6+1+7) (by omega) (by omega)).upd (Nat.le_refl _) (by omega)) ?_⟩
 exact⟨List.replicate n 0,0,0,by rw[T.get_upd_same]; rfl,by rw[T.get_upd_ne _ _ (by omega),T.get_upd_same],by omega,List.length_replicate,h1,h2,by omega,Nat.le_refl _,by omega,fun i hi=>(by cases hi),List.Pairwise.nil,fun x hx=>(by cases hx)⟩
def aR5 (L:List Nat):Nat:=if L.length=0 then 0 else L.getD 0 0
theorem aSj (L:List Nat):nth 0 (aE8 L)=some (.int .i64 (aR5 L:Nat)):=by
 unfold aE8 aR5
 by_cases h:L.length=0
 ·rw[if_pos h,if_pos h]; rfl
 ·rw[if_neg h,if_neg h]; rfl
theorem aSk (L:List Nat):nth 1 (aE8 L)=some (.bool (!decide (L.length=0))):=by
 unfold aE8
 by_cases h:L.length=0
 ·rw[if_pos h,decide_eq_true h]; rfl
 ·rw[if_neg h,decide_eq_false h]; rfl
section
attribute [local irreducible] aB bA aW dM eR gI dH
theorem aQu:∃ i,tin Tryz.prog jK=some i∧i.size=1∧i.bytes=1:=by
 have h:(tin Tryz.prog jK).map (fun i=>(i.size,i.bytes))=some (1,1):=by kernel_rfl
 cases hi:tin Tryz.prog jK with
 | none=>rw[hi] at h; cases h
 | some i=>rw[hi] at h; simp at h; exact⟨i,rfl,h.1,h.2⟩
theorem aPO:iM Tryz.prog aCJ=some (.slice jK):=by kernel_rfl
theorem aRK:nF Tryz.prog jK=some (.bool false):=by kernel_rfl
theorem aF8:∀ n:Nat,tO [.bool false] n=List.replicate n (Value.bool false)
 | 0=>rfl
 | n+1=>by
  have:=aF8 n
  simp only[tO,this,List.replicate_succ]; rfl
theorem aEg {aid n:Nat} (h0:1≤n) (h1:n≤1000000):aAl Tryz.prog aCJ aid (.int .i64 (n:Int)) (.int .i64 (n:Int))=some (.slice (some (own aid 1)) n n,some (.cells (List.replicate n (Value.bool false)).toArray jK)):=by
 obtain⟨i,g1,g2,g3⟩:=aQu
 have hb:Nat.ble (n*1) oG=true:=Nat.ble_eq_true_of_le (by unfold oG; omega)
 have e1:decide ((0:Int)≤(n:Int))=true:=by simp
 have e2:decide ((n:Int)≤(n:Int))=true:=by simp
 have e3:decide ((n:Int)≤70368744177664)=true:=by simp; omega
 have hz:aFo Tryz.prog jK n=some (List.replicate n (Value.bool false)):=by
  obtain⟨m,rfl⟩:∃ m,n=m+1:=⟨n - 1,by omega⟩
  have hs:p6 Tryz.prog jK=some 1:=by kernel_rfl
  unfold aFo
  simp only[aRK,hs,Option.bind_some]
  have h3:Nat.beq (Value.cells (.bool false)).size 1=true:=rfl
  have h4:Nat.blt 0 1=true:=rfl
  rw[h3,h4]
  simp only
  rw[← aF8]; rfl
 unfold aAl
 simp only[aPO,e1,e2,g1,Option.bind_some,g3,Int.toNat_natCast,hb,e3,hz,g2]
def isC (n:Nat) (L:List Nat):List Value:=(List.range (n+1)).map fun i=>.bool (decide (i∈L))
theorem aCU (n:Nat) (L:List Nat):(isC n L).length=n+1:=by simp[isC]
theorem aCT {n i:Nat}{L:List Nat} (hi:i≤n):(isC n L)[i]?=some (.bool (decide (i∈L))):=by
 simp[isC,List.getElem?_range (show i < n+1 by omega)]
theorem aJ6 (n:Nat):isC n []=List.replicate (n+1) (Value.bool false):=by
 apply List.ext_getElem?
 intro i
 by_cases hi:i < n+1
 ·rw[aCT (by omega),List.getElem?_replicate,if_pos hi]; simp
 ·rw[List.getElem?_eq_none (by rw[aCU]; omega),List.getElem?_eq_none (by simp; omega)]
theorem aNs {n:Nat}{L:List Nat}{l:List Value} (hl:l.length=n+1) (h:∀ i,i≤n→l[i]?=some (.bool (decide (i∈L)))):l=isC n L:=by
 apply List.ext_getElem?
 intro i
 by_cases hi:i < n+1
 ·rw[aCT (by omega),h i (by omega)]
 ·rw[List.getElem?_eq_none (by omega),List.getElem?_eq_none (by rw[aCU]; omega)]
def WI (h:T Obj) (p a n:Nat) (L:List Nat) (w:Nat):Prop:=h.get p=some (.cells #[.slice (some (V.own a 1)) (n+1) (n+1),.int .i64 w] cG)∧h.get a=some (.cells (isC n L).toArray jK)∧p≠a∧1≤n∧n≤4096∧w≤1000000
theorem aM5 (a n:Nat):fG Tryz.prog cG [(0,.slice (some (own a 1)) n n)]=some (.agg #[.slice (some (own a 1)) n n,.int .i64 0]):=by kernel_rfl
theorem aLl {ro:Ro}{h:T Obj}{n nx:Nat}{K:KV} (hf:Fr h nx) (h1:1≤n) (h2:n≤4096) (hK:∀ p a h' nx',nx≤p→nx≤a→nx≤nx'→aZ h h'→Fr h' nx'→WI h' p a n [] 0→K (ptr p) h' nx'):aO Tryz.prog ro aB2 [.int .i64 (n:Int)] h nx K:=by
 apply aJs
 unfold aIt
 have e:aQ .add (.int .i64 (n:Int)) (.int .i64 1)=some (.int .i64 ((n+1:Nat):Int)):=by rw[cH,dT (by omega) (by omega)]; rfl
 refine aA e ?_
 refine aA (aEg (by omega) (by omega)) (aF ?_)
 refine aA (aM5 _ _) (aE ?_)
 refine⟨_,aZ.refl _,hK (nx+5) (nx+3) _ _ (by omega) (by omega) (by omega) (((aZ.refl h).new hf (by omega)).new hf (by omega)) ((hf.upd (m:=nx+7) (by omega) (by omega)).upd (by omega) (by omega)) ?_⟩
 exact⟨by rw[T.get_upd_same]; rfl,by rw[T.get_upd_ne _ _ (by omega),T.get_upd_same,aJ6],by omega,h1,h2,by omega⟩
theorem aGr {L:List Nat}{i:Nat}:i∈aEi L ↔ i=1∨i∈L:=by
 unfold aEi
 by_cases h:L.getD (L.length - 1) 0=1
 ·rw[if_pos h]
  refine⟨fun h=>.inr h,fun h2=>?_⟩
  rcases h2 with rfl | h2
  ·have hl:L.length≠0:=fun h0=>by rw[List.length_eq_zero_iff.1 h0] at h; simp at h
   have h1:L.getD (L.length - 1) 0=L[L.length - 1]:=by simp[List.getD,List.getElem?_eq_getElem (show L.length - 1 < L.length by omega)]
   rw[h1] at h; rw[← h]; exact List.getElem_mem _
  ·exact h2
 ·rw[if_neg h]; simp[or_comm]
theorem aLT {L:List Nat}{n i:Nat} (hp:L.Pairwise (fun x y=>y < x)) (hb:∀ x∈L,1≤x∧x≤n):i∈aAV n L ↔ 2≤i∧i≤n∧i - 1∈L:=by
 have hm:i∈L.map (·+1) ↔ 2≤i∧i - 1∈L:=by
  rw[List.mem_map]
  refine⟨fun ⟨x,hx,e⟩=>?_,fun ⟨h1,h2⟩=>⟨i - 1,h2,by omega⟩⟩
  have:=hb x hx
  exact⟨by omega,by rw[show i - 1=x by omega]; exact hx⟩
 unfold aAV
 by_cases h:n≤L.getD 0 0
 ·rw[if_pos h]
  cases L with
  | nil=>simp
  | cons y r =>
   rw[List.map_cons,List.tail_cons]
   rw[List.pairwise_cons] at hp
   have hy:=hb y (List.mem_cons_self ..)
   have h:n≤y:=by simpa using h
   rw[List.mem_map]
   refine⟨fun ⟨x,hx,e⟩=>?_,fun ⟨h1,h2,h3⟩=>?_⟩
   ·have h8:=hp.1 x hx
    have h9:=hb x (List.mem_cons_of_mem _ hx)
    exact⟨by omega,by omega,by rw[show i - 1=x by omega]; exact List.mem_cons_of_mem _ hx⟩
   ·rcases List.mem_cons.1 h3 with h4 | h4
    ·omega
    ·exact⟨i - 1,h4,by omega⟩
 ·rw[if_neg h,hm]
  refine⟨fun ⟨h1,h2⟩=>⟨h1,?_,h2⟩,fun ⟨h1,_,h2⟩=>⟨h1,h2⟩⟩
  have:=aI6 hp h2
  omega
set_option maxRecDepth 4000 in
theorem aLm {ro:Ro}{h:T Obj}{p a n w nx:Nat}{L:List Nat}{K:KV} (hR:WI h p a n L w) (hf:Fr h nx) (hw:w+1≤1000000) (hK:∀ h' nx',nx≤nx'→Fr h' nx'→WI h' p a n (aEi L) (w+1)→(∀ k,k < nx→k≠p→k≠a→h'.get k=h.get k)→K (.tuple #[]) h' nx'):aO Tryz.prog ro pI [ptr p] h nx K:=by
 obtain⟨gp,ga,hne,b1,b2,b3⟩:=hR
 have hlp:=hf.lt gp
 have hla:=hf.lt ga
 apply aEJ
 unfold aBh
 (have zz:=And.intro @aR gp;repeat refine zzXz ?_)
 refine aA (yE (i:=1) _ _ _ _ (by omega)) ?_
 refine aA (bX (v:=.bool true) (l:=isC n L) ga (by rw[aCU]; omega) rfl rfl) ?_
 have e:(isC n L).set 1 (.bool true)=isC n (aEi L):=by
  apply aNs (by rw[List.length_set,aCU])
  intro i hi
  by_cases h1:i=1
  ·subst h1
   rw[List.getElem?_set_self (by rw[aCU]; omega),decide_eq_true (aGr.2 (.inl rfl))]
  ·rw[List.getElem?_set_ne (fun e=>h1 e.symm),aCT hi]
   congr 3
   exact propext ⟨fun h=>aGr.2 (.inr h),fun h=>(aGr.1 h).resolve_left h1⟩
 rw[e]
 have gp2:(h.upd a (some (.cells (isC n (aEi L)).toArray jK))).get p=some (.cells #[.slice (some (V.own a 1)) (n+1) (n+1),.int .i64 w] cG):=by rw[T.get_upd_ne _ _ hne]; exact gp
 (have zz:=And.intro @aR gp2;repeat refine zzXz ?_)
 refine⟨_,aZ.refl _,hK _ _ (by omega) ((hf.upd (m:=nx+14) (by omega) (by omega)).upd (m:=nx+14) (by omega) (by omega)) ⟨?_,?_,hne,b1,b2,hw⟩ fun k h1 h2 h3=>by rw[T.get_upd_ne _ _ h2,T.get_upd_ne _ _ h3]⟩
 ·rw[T.get_upd_same]; rfl
 ·rw[T.get_upd_ne _ _ (Ne.symm hne),T.get_upd_same]
set_option maxRecDepth 4000 in
theorem aIC {ro:Ro}{h:T Obj}{p a n w nx:Nat}{L:List Nat}{K:KV} (hR:WI h p a n L w) (hf:Fr h nx) (hw:w+1≤1000000) (hK:∀ a' h' nx',nx≤a'→nx≤nx'→Fr h' nx'→WI h' p a' n [] (w+1)→(∀ k,k < nx→k≠p→k≠a→h'.get k=h.get k)→K (.tuple #[]) h' nx'):aO Tryz.prog ro iP [ptr p] h nx K:=by
 obtain⟨gp,ga,hne,b1,b2,b3⟩:=hR
 have hlp:=hf.lt gp
 have hla:=hf.lt ga
 apply aC4
 unfold zZ
 (have zz:=And.intro @aR gp;repeat refine zzXz ?_)
 refine aA (aEg (by omega) (by omega)) (aF ?_)
 rw[← aJ6]
 have gp2:(h.upd (nx+6) (some (.cells (isC n []).toArray jK))).get p=some (.cells #[.slice (some (V.own a 1)) (n+1) (n+1),.int .i64 w] cG):=by rw[T.get_upd_ne _ _ (by omega)]; exact gp
 (have zz:=And.intro @aR gp2;repeat refine zzXz ?_)
 refine⟨_,aZ.refl _,hK (nx+6) _ _ (by omega) (by omega) (((hf.upd (m:=nx+18) (by omega) (by omega)).upd (m:=nx+18) (by omega) (by omega)).upd (m:=nx+18) (by omega) (by omega)) ⟨?_,?_,by omega,b1,b2,hw⟩ fun k h1 h2 h3=>by rw[T.get_upd_ne _ _ h2,T.get_upd_ne _ _ h2,T.get_upd_ne _ _ (by omega)]⟩
 ·rw[T.get_upd_same]; rfl
 ·rw[T.get_upd_ne _ _ (by omega),T.get_upd_ne _ _ (by omega),T.get_upd_same]
set_option maxRecDepth 4000 in
theorem aLk {ro:Ro}{h:T Obj}{p a n w nx:Nat}{L:List Nat}{K:KV} (hR:WI h p a n L w) (hp:L.Pairwise (fun x y=>y < x)) (hb:∀ x∈L,1≤x∧x≤n) (hf:Fr h nx) (hw:w+1≤1000000) (hK:∀ a' h' nx',nx≤a'→nx≤nx'→Fr h' nx'→WI h' p a' n (aAV n L) (w+1)→(∀ k,k < nx→k≠p→k≠a→h'.get k=h.get k)→K (.tuple #[]) h' nx'):aO Tryz.prog ro pH [ptr p] h nx K:=by
 obtain⟨gp,ga,hne,b1,b2,b3⟩:=hR
 have hlp:=hf.lt gp
 have hla:=hf.lt ga
 apply aEI
 unfold aBg
 (have zz:=And.intro @aR gp;repeat refine zzXz ?_)
 refine aA (aEg (by omega) (by omega)) (aF ?_)
 rw[← aJ6]
 refine bM (fun j e h' nx'=>∃ (k:Nat) (l:List Value),k+j=n∧1≤k∧nx+8≤nx'∧e 0=ptr p∧e 2=.slice (some (own (nx+5) 1)) (n+1) (n+1)∧e 3=.int .i64 (k:Nat)∧h'.get (nx+5)=some (.cells l.toArray jK)∧l.length=n+1∧(∀ i,i≤n→l[i]?=some (.bool (decide (i≤k∧i∈aAV n L)))) ∧
  (∀ i,i≠nx+5→h'.get i=h.get i)) ?_ (n:=n - 1)
  ⟨1,isC n [],by omega,by omega,by omega,rfl,rfl,rfl,by rw[T.get_upd_same],aCU _ _,fun i hi=>by
   rw[aCT hi]
   have:¬ (i≤1∧i∈aAV n L):=fun ⟨h1,h2⟩=>by have:=(aLT hp hb).1 h2; omega
   rw[decide_eq_false this]; simp,fun i hi=>T.get_upd_ne _ _ hi⟩
 rintro j e h' nx' ⟨k,l,hkj,hk1,hnx,e0,e2,e3,g5,hll,hl,hrest⟩ Q' hc hx
 have gp':h'.get p=some (.cells #[.slice (some (V.own a 1)) (n+1) (n+1),.int .i64 w] cG):=by rw[hrest _ (by omega)]; exact gp
 have ga':h'.get a=some (.cells (isC n L).toArray jK):=by rw[hrest _ (by omega)]; exact ga
 unfold yH
 rw[e0,e2,e3]
 have st:aQ .add (.int .i64 (k:Int)) (.int .i64 1)=some (.int .i64 ((k+1:Nat):Int)):=by rw[cH,dT (by omega) (by omega)]; rfl
 refine aA st ?_
 (have zz:=And.intro @aR gp';repeat refine zzXz ?_)
 by_cases hk:k < n
 ·refine iG (decide_eq_true (by omega)) ?_
  refine aA st ?_
  (have zz:=And.intro @aR gp';repeat refine zzXz ?_)
  refine aA (yE (i:=k) _ _ _ _ (by omega)) ?_
  have hgk:load1 ro h' (at_ a k 0)=some (.bool (decide (k∈L))):=by
   rw[cV,ga',bP,Option.bind_some]; exact aCT (by omega)
  refine aA hgk ?_
  refine aA (yE (i:=k+1) _ _ _ _ (by omega)) ?_
  refine aA (bX (v:=.bool (decide (k∈L))) (l:=l) g5 (by rw[hll]; omega) rfl rfl) ?_
  refine aA st ?_
  refine hc (j - 1) _ _ _ _ (by omega) ⟨k+1,l.set (k+1) (.bool (decide (k∈L))),by omega,by omega,by omega,e0,e2,rfl,by rw[T.get_upd_same],by rw[List.length_set]; exact hll,?_,fun i hi=>by rw[T.get_upd_ne _ _ hi]; exact hrest i hi⟩ (aZ.refl _)
  intro i hi
  by_cases h1:i=k+1
  ·subst h1
   rw[List.getElem?_set_self (by omega)]
   congr 3
   have:=aLT (i:=k+1) hp hb
   exact propext ⟨fun h=>⟨by omega,this.2 ⟨by omega,by omega,h⟩⟩,fun ⟨_,h⟩=>(this.1 h).2.2⟩
  ·rw[List.getElem?_set_ne (fun e=>h1 e.symm),hl i hi]
   congr 3
   exact propext ⟨fun ⟨h2,h3⟩=>⟨by omega,h3⟩,fun ⟨h2,h3⟩=>⟨by omega,h3⟩⟩
 ·refine iF (decide_eq_false (by omega)) ?_
  refine hx _ _ _ _ (fun e=>by cases e) (eE (dG ?_))
  have hl2:l=isC n (aAV n L):=aNs hll fun i hi=>by
   rw[hl i hi]
   congr 3
   exact propext ⟨fun ⟨_,h⟩=>h,fun h=>⟨by omega,h⟩⟩
  unfold rY
  have f0:∀ a1 a2 a3 a4 a5 a6 a7 a8,(puts e [(10,a1),(11,a2),(12,a3),(13,a4),(14,a5),(15,a6),(16,a7),(17,a8)]) 0=ptr p:=fun _ _ _ _ _ _ _ _=>e0
  have f2:∀ a1 a2 a3 a4 a5 a6 a7 a8,(puts e [(10,a1),(11,a2),(12,a3),(13,a4),(14,a5),(15,a6),(16,a7),(17,a8)]) 2=.slice (some (own (nx+5) 1)) (n+1) (n+1):=fun _ _ _ _ _ _ _ _=>e2
  rw[f0,f2]
  (have zz:=And.intro @aR gp';repeat refine zzXz ?_)
  refine⟨_,aZ.refl _,hK (nx+5) _ _ (by omega) (by omega) ?_ ⟨?_,?_,by omega,b1,b2,hw⟩ fun k h1 h2 h3=>by rw[T.get_upd_ne _ _ h2,T.get_upd_ne _ _ h2,hrest _ (by omega)]⟩
  ·intro i hi
   rw[T.get_upd_ne _ _ (by omega),T.get_upd_ne _ _ (by omega),hrest _ (by omega)]
   exact hf i (by omega)
  ·rw[T.get_upd_same]; rfl
  ·rw[T.get_upd_ne _ _ (by omega),T.get_upd_ne _ _ (by omega),g5,hl2]
theorem aGG {k:Nat}:∀ {R:List Nat},R.Pairwise (· < ·)→R.filter (fun x=>decide (x≤k+1))=R.filter (fun x=>decide (x≤k))++(if k+1∈R then [k+1] else [])
 | [],_=>rfl
 | x::r,hp=>by
  rw[List.pairwise_cons] at hp
  have ih:=aGG (k:=k) hp.2
  have hnone:k < x→r.filter (fun x=>decide (x≤k+1))=[]:=fun hx=>List.filter_eq_nil_iff.2 fun y hy=>by have:=hp.1 y hy; simp; omega
  have hnone2:k < x→r.filter (fun x=>decide (x≤k))=[]:=fun hx=>List.filter_eq_nil_iff.2 fun y hy=>by have:=hp.1 y hy; simp; omega
  by_cases h1:x≤k
  ·have hne:k+1≠x:=by omega
   rw[List.filter_cons_of_pos (by simp; omega),List.filter_cons_of_pos (by simp; omega),ih,List.cons_append]
   simp[List.mem_cons,hne]
  ·by_cases h2:x=k+1
   ·subst h2
    rw[List.filter_cons_of_pos (by simp),List.filter_cons_of_neg (by simp),hnone (by omega),hnone2 (by omega),if_pos (List.mem_cons_self ..)]; rfl
   ·have hnm:k+1 ∉ x::r:=fun h=>by
     rcases List.mem_cons.1 h with h | h
     ·omega
     ·have:=hp.1 _ h; omega
    rw[List.filter_cons_of_neg (by simp; omega),List.filter_cons_of_neg (by simp; omega),hnone (by omega),hnone2 (by omega),if_neg hnm]; rfl
theorem aHh {ro:Ro}{h h0:T Obj}{v:Value}{n1 lo hi nx nx0:Nat}{l:List Nat}{b:Nat}{K:Value × Option Obj→Value × T Obj × Nat→Prop} (ho:Own h v 1 dY (oA l) lo hi) (hl:l.length≤1000000) (hf:Fr h nx) (hs:aZ h0 h) (hf0:Fr h0 nx0) (hlo0:nx0≤lo) (hlo:lo≤hi) (hn:hi≤n1) (hnx:nx≤n1)
  {n2:Nat} (hn2:n1 < n2)
  (hK:∀ h' r,Own h' r 1 dY (oA (l++[b])) lo (n2+1)→aZ h0 h'→Fr h' (n2+1)→(∀ k,(k < lo∨hi≤k)→k≠n2→k≠n1→h'.get k=h.get k)→K (.slice (some (own n1 1)) 1 1,some (.cells #[.int .i64 b] dY)) (r,h',n2+1)) :
  aB (b7 Tryz.prog fY n1 1 [(0,.int .i64 (b:Int))]) fun r=>eR h n1 r.2 fun h'=>aB (cZ Tryz.prog ro h' n2 #[fY,fY] [v,r.1]) (K r):=by
 refine aA (aRc _ _) (aF ?_)
 have ho2:Own (h.upd n1 (some (.cells #[.int .i64 (b:Int)] dY))) v 1 dY (oA l) lo hi:=ho.keep (Nat.le_refl _) fun id h1 h2 o hg=>by rw[T.get_upd_ne _ _ (by omega)]; exact hg
 have hx1:Sl ro (h.upd n1 (some (.cells #[.int .i64 (b:Int)] dY))) (.slice (some (own n1 1)) 1 1) 1 (oA [b]):=Sl.own (l:=oA [b]) (by rw[T.get_upd_same]; rfl) (by simp[oA]) (Nat.le_refl _)
 obtain⟨h2,r,q1,q2,q3,q4⟩:=aM2 (nx:=n2) ho2 hx1 hl (by omega) (by omega)
 refine aA q1 (hK h2 r q2 ?_ ?_ ?_)
 ·intro k o hk
  have hkn:=hf0.lt hk
  rw[q3 k (.inl (by omega)) (by omega),T.get_upd_ne _ _ (by omega)]
  exact hs k o hk
 ·intro k hk
  rw[q3 k (.inr (by omega)) (by omega),T.get_upd_ne _ _ (by omega)]
  exact hf k (by omega)
 ·intro k hk h3 h4
  rw[q3 k hk h3,T.get_upd_ne _ _ h4]
set_option maxRecDepth 4000 in
theorem aJr {ro:Ro}{h:T Obj}{p a n w nx:Nat}{L:List Nat}{K:KV} (hR:WI h p a n L w) (hp:L.Pairwise (fun x y=>y < x)) (hb:∀ x∈L,1≤x∧x≤n) (hf:Fr h nx) (hK:∀ r h' nx',nx≤nx'→aZ h h'→Fr h' nx'→Own h' r 1 dY (oA L.reverse) nx nx'→K r h' nx'):aO Tryz.prog ro lH [ptr p] h nx K:=by
 obtain⟨gp,ga,hne,b1,b2,b3⟩:=hR
 have hpr:L.reverse.Pairwise (· < ·):=by rw[List.pairwise_reverse]; exact hp
 have hir:∀ y∈L.reverse,1≤y∧y≤n:=fun y hy=>hb y (List.mem_reverse.1 hy)
 have hmem:∀ i,i∈L ↔ i∈L.reverse:=fun i=>List.mem_reverse.symm
 have hll:L.length≤n:=by
  rcases aFs (Nat.le_refl 1) hp hb with h9 | h9
  ·omega
  ·subst h9; simp
 have hrl:L.reverse.length=L.length:=List.length_reverse
 generalize L.reverse=R at hpr hir hmem hK hrl
 apply aDY
 unfold aAn
 refine bM (fun j e h' nx'=>∃ (k:Nat) (lv:Value),k+j=n∧nx≤nx'∧e 0=ptr p∧e 3=lv∧e 4=.int .i64 ((k:Int)+1)∧aZ h h'∧Fr h' nx' ∧
  Own h' lv 1 dY (oA (R.filter fun x=>decide (x≤k))) nx nx') ?_ (n:=n) ⟨0,_,by omega,by omega,rfl,rfl,rfl,aZ.refl _,hf.mono (by omega),?_⟩
 ·rintro j e h' nx' ⟨k,lv,hj,hnx,e0,e3,e4,hs,hf',ho⟩ Q' hq hx
  have gp':=hs _ _ gp
  have ga':=hs _ _ ga
  unfold xA
  rw[e0,e3,e4]
  (have zz:=And.intro @aR gp';repeat refine zzXz ?_)
  have hfl:(R.filter fun x=>decide (x≤k)).length≤1000000:=by have:=List.length_filter_le (fun x=>decide (x≤k)) R; omega
  have hj2:∀ (e9:dL) (h9:T Obj) (n9:Nat) (v9:Value),nx'≤n9→e9 0=ptr p→e9 3=v9→e9 4=.int .i64 ((k:Int)+1)→aZ h h9→Fr h9 n9→Own h9 v9 1 dY (oA (R.filter fun x=>decide (x≤k+1))) nx n9→k < n→mZ ro Q' e9 h9 n9:=by
   intro e9 h9 n9 v9 hn9 f0 f3 f4 hs9 hf9 ho9 hkn
   unfold mZ
   rw[f4]
   refine aA (cH _ _ _) ?_
   rw[dT (by omega) (by omega)]
   exact hq (j - 1) _ _ _ _ (by omega) ⟨k+1,v9,by omega,by omega,f0,f3,rfl,hs9,hf9.mono (by omega),ho9.keep (by omega) fun _ _ _ _ hg=>hg⟩ (aZ.refl _)
  by_cases h0:k < n
  ·refine iG (decide_eq_true (by omega)) ?_
   (have zz:=And.intro @aR gp';repeat refine zzXz ?_)
   have e:(k:Int)+1=((k+1:Nat):Int):=by omega
   have hgk:load1 ro h' (at_ a (k+1) 0)=some (.bool (decide (k+1∈L))):=by
    rw[cV,ga',bP,Option.bind_some]; exact aCT (by omega)
   rw[e]
   refine aA (yE (i:=k+1) _ _ _ _ (by omega)) ?_
   refine aA hgk ?_
   have hfil:=aGG (k:=k) hpr
   by_cases hm:k+1∈L
   ·rw[if_pos ((hmem _).1 hm)] at hfil
    refine iG (decide_eq_true hm) ?_
    refine aHh (ro:=ro) (b:=k+1) (n1:=nx'+16) (n2:=nx'+18) (h0:=h) (nx0:=nx) (nx:=nx') (lo:=nx) (hi:=nx') ho hfl hf' hs hf (by omega) (by omega) (by omega) (by omega) (by omega) fun h2 r q1 q2 q3 q4=>?_
    dsimp only
    exact hj2 _ _ (nx'+18+1+1) r (by omega) e0 rfl e4 q2 (q3.mono (by omega)) (by rw[hfil]; exact q1.keep (by omega) fun _ _ _ _ hg=>hg) h0
   ·rw[if_neg (fun h9=>hm ((hmem _).2 h9)),List.append_nil] at hfil
    refine iF (decide_eq_false hm) ?_
    exact hj2 _ _ _ lv (by omega) e0 e3 e4 hs (hf'.mono (by omega)) (by rw[hfil]; exact ho.keep (by omega) fun _ _ _ _ hg=>hg) h0
  ·refine iF (decide_eq_false (by omega)) ?_
   refine hx _ _ _ _ (fun e=>by cases e) (eE (dG ?_))
   unfold qQ
   have f3:∀ a1 a2 a3 a4 a5 a6 a7,(puts e [(5,a1),(6,a2),(7,a3),(8,a4),(9,a5),(10,a6),(11,a7)]) 3=lv:=fun _ _ _ _ _ _ _=>e3
   rw[f3]
   have hall:(R.filter fun x=>decide (x≤k))=R:=List.filter_eq_self.2 fun y hy=>by have:=hir y hy; simp; omega
   rw[hall] at ho
   exact⟨h',aZ.refl _,hK _ _ _ (by omega) hs (hf'.mono (by omega)) (ho.keep (by omega) fun _ _ _ _ hg=>hg)⟩
 ·have:(R.filter fun x=>decide (x≤0))=[]:=List.filter_eq_nil_iff.2 fun y hy=>by have:=hir y hy; simp; omega
  rw[this]
  exact Own.nil
end
theorem WI.sub {h h':T Obj}{p a n w:Nat}{L:List Nat} (hW:WI h p a n L w) (hs:aZ h h'):WI h' p a n L w:=⟨hs _ _ hW.1,hs _ _ hW.2.1,hW.2.2⟩
theorem mG {h:T Obj}{i j:Nat}{c d:Array Value}{e f:TypeId} (hi:h.get i=some (.cells c e)) (hj:h.get j=some (.cells d f)) (hef:e≠f):i≠j:=fun e9=>by
 subst e9; rw[hi] at hj; cases hj; exact hef rfl
def low (L:List Nat):Nat:=if L.length=0 then 0 else L.getD (L.length - 1) 0
theorem aSv (L:List Nat):nth 0 (aEf L)=some (.int .i64 (low L:Nat)):=by
 unfold aEf low
 by_cases h:L.length=0
 ·rw[if_pos h,if_pos h]; rfl
 ·rw[if_neg h,if_neg h]; rfl
theorem aSw (L:List Nat):nth 1 (aEf L)=some (.bool (!decide (L.length=0))):=by
 unfold aEf
 by_cases h:L.length=0
 ·rw[if_pos h,decide_eq_true h]; rfl
 ·rw[if_neg h,decide_eq_false h]; rfl
theorem RI.in {h:T Obj}{p a n w:Nat}{L:List Nat} (hR:RI h p a n L w):L.Pairwise (fun x y=>y < x)∧(∀ x∈L,1≤x∧x≤n)∧1≤n∧n≤4096:=by
 obtain⟨put,first,now,gp,ga,hne,hpl,b1,b2,b3,b4,b5,hrel,hpw,hb⟩:=hR
 exact⟨hpw,hb,b1,b2⟩
end V
end Go.Proofs.YtcaccnneblghgaaGreat
namespace Go.Proofs.YtcaccnneblghgaaGreat
namespace V
attribute [local irreducible] aB bA aW dM eR gI dH
abbrev RgD:=List Nat × Nat
def noR:RgD:=([],0)
def aDM (r:RgD):RgD:=([],r.2+1)
def aQh (r:RgD):RgD:=(aEi r.1,r.2+1)
def aQB (n:Nat) (r:RgD):RgD:=(aAV n r.1,r.2+1)
def aEl (n o:Nat) (r:RgD):RgD:=if o=3 then aQh (aDM r) else if o=2 then aQh (aQB n r) else aQB n r
structure MacD where
 cur:Int
 rs:List RgD
 steps:Nat
def iE (C:List (Int × Int)) (c:Int):Int × Int:=C.getD c.toNat (0,0)
def kW (rs:List RgD) (c:Int):RgD:=rs.getD c.toNat noR
def aGZ (C:List (Int × Int)) (rs:List RgD) (c:Int):Nat :=
 if (kW rs c).1.length=0 then 0 else if (((kW rs c).1.getD 0 0:Nat):Int) < (iE C c).1 then 0 else if (((kW rs c).1.getD ((kW rs c).1.length - 1) 0:Nat):Int) < (iE C c).2 then 2 else 1
def gP (C:List (Int × Int)) (rs:List RgD):List Int→Nat
 | []=>0
 | c::r=>aGZ C rs c+3*gP C rs r
def aRl:MoveD:=⟨-1,[]⟩
def eS (d:AutoD) (m:MacD):StateD:=d.states.getD m.cur.toNat noS
def nL (d:AutoD) (m:MacD):Int:=if m.cur=-1 then -1 else (eS d m).rule.getD (gP d.counts m.rs (eS d m).r) 0
def qZ (d:AutoD) (m:MacD) (b:Nat):MoveD:=((eS d m).next.getD (gP d.counts m.rs (eS d m).r) []).getD (d.c.getD b 0) aRl
def oB (d:AutoD) (t:Int):List Int:=if t=-1 then [] else (d.states.getD t.toNat noS).r
def rJ (nx:List Int):List Int→List RgD→List RgD
 | [],rs=>rs
 | c::r,rs=>rJ nx r (if nx.contains c then rs else rs.set c.toNat (aDM (kW rs c)))
def vP (C:List (Int × Int)):List Int→List Nat→List RgD→List RgD
 | c::r,o::os,rs=>vP C r os (rs.set c.toNat (aEl (iE C c).2.toNat o (kW rs c)))
 | _,_,rs=>rs
def onM (d:AutoD) (m:MacD) (b:Nat):Bool:=!decide (m.cur=-1)&&!decide ((qZ d m b).to=-1)
def jX (d:AutoD) (m:MacD) (b:Nat):MacD :=
 if m.cur=-1 then m else ⟨(qZ d m b).to,vP d.counts (oB d (qZ d m b).to) (qZ d m b).ops (rJ (oB d (qZ d m b).to) (eS d m).r m.rs),m.steps+1+(eS d m).r.length⟩
def kA (r:RgD):RgD:=if r.1.length=0 then r else aDM r
def aBv (m:MacD):MacD:=⟨0,m.rs.map kA,m.steps⟩
def aAw (d:AutoD):MacD:=⟨0,d.counts.map fun _=>noR,0⟩
def jY (m:MacD):Nat:=m.steps+(m.rs.map (·.2)).sum
def MOk (d:AutoD) (m:MacD):Prop:=(m.cur=-1∨0≤m.cur∧m.cur < d.states.length)∧m.rs.length=d.counts.length
theorem eV {d:AutoD} (h:fF d=true):sH d.c d.many=true∧d.counts.length≤512∧1≤d.states.length∧d.states.length≤256∧(∀ c∈d.counts,1≤c.1∧c.1≤c.2∧2≤c.2∧c.2≤4096)∧∀ s∈d.states,iZ d.states d.many d.counts.length s=true:=by
 unfold fF at h
 simp only[Bool.and_eq_true,decide_eq_true_eq] at h
 obtain⟨h1,h2,h3,h4,h5,h6,h7⟩:=h
 refine⟨h1,h2,h3,h4,fun c hc=>?_,fun s hs=>List.all_eq_true.1 h7 s hs⟩
 have:=List.all_eq_true.1 h6 c hc
 unfold qD at this
 simp only[Bool.and_eq_true,decide_eq_true_eq] at this
 exact this
theorem uQ {S:List StateD}{n:Int}{cn:Nat}{s:StateD} (h:iZ S n cn s=true):s.r.length≤3∧(s.rule.length:Int)=mD s.r.length∧(s.next.length:Int)=mD s.r.length∧(∀ c∈s.r,0≤c∧c < cn)∧sI S s.r n s.rule s.next=true:=by
 have h3:=(aIy h).2
 unfold iZ at h
 simp only[Bool.and_eq_true,decide_eq_true_eq] at h
 obtain⟨h1,h2,h4,h5,h6,h7⟩:=h
 refine⟨h3,h2,h4,fun c hc=>?_,h7⟩
 have:=aNS h6 c hc
 omega
theorem aJR (C:List (Int × Int)) (rs:List RgD) (c:Int):aGZ C rs c < 3:=by
 unfold aGZ
 repeat' split
 all_goals omega
theorem aKb (C:List (Int × Int)) (rs:List RgD):∀ r:List Int,gP C rs r < 3 ^ r.length
 | []=>by show 0 < 1; omega
 | c::r=>by
  have:=aKb C rs r
  have:=aJR C rs c
  rw[List.length_cons,Nat.pow_succ]
  unfold gP
  omega
theorem aBN {C:List (Int × Int)}{rs:List RgD}{r:List Int} (h:r.length≤3):(gP C rs r:Int) < mD r.length:=by
 have h1:=aKb C rs r
 generalize r.length=n at h h1
 match n,h with
 | 0,_=>have h2:gP C rs r < 1:=h1; show (gP C rs r:Int) < 1; omega
 | 1,_=>have h2:gP C rs r < 3:=h1; show (gP C rs r:Int) < 3; omega
 | 2,_=>have h2:gP C rs r < 9:=h1; show (gP C rs r:Int) < 9; omega
 | 3,_=>have h2:gP C rs r < 27:=h1; show (gP C rs r:Int) < 27; omega
theorem aKF {S:List StateD}{R:List Int}{n:Int}:∀ {us:List Int}{rows:List (List MoveD)},sI S R n us rows=true→us.length=rows.length→∀ (i:Nat) row u,rows[i]?=some row→us[i]?=some u→aAp S R n u row=true
 | [],[],_,_,i,row,u,hr,hu=>by simp at hr
 | u::us,row::rows,h,hl,i,row',u',hr,hu=>by
  rw[uG,Bool.and_eq_true] at h
  cases i with
  | zero=>simp at hr hu; subst hr hu; exact h.1
  | succ i=>exact aKF h.2 (by simpa using hl) i row' u' (by simpa using hr) (by simpa using hu)
 | [],_::_,_,hl,_,_,_,_,_=>by simp at hl
 | _::_,[],_,hl,_,_,_,_,_=>by simp at hl
theorem aLw {c:List Nat}{n:Int} (hc:c.length=256) (h:sH c n=true):∀ b,b < 256→((c.getD b 0:Nat):Int) < n:=by
 unfold sH at h
 split at h
 ·rename_i m hm
  simp only[decide_eq_true_eq] at h
  subst h
  have key:∀ i m,rt c i=some m→∀ b,b < i→c.getD b 0 < m:=by
   intro i
   induction i with
   | zero=>intro m _ b hb; omega
   | succ i ih =>
    intro m h b hb
    obtain⟨k,h1,h2⟩:=aP h
    have:=ih k h1
    split at h2
    ·cases h2
    ·split at h2
     ·cases h2
      rcases Nat.lt_or_ge b i with h4 | h4
      ·have:=this b h4; omega
      ·have:b=i:=by omega
       subst this; omega
     ·cases h2
      rcases Nat.lt_or_ge b i with h4 | h4
      ·exact this b h4
      ·have:b=i:=by omega
       subst this; omega
  intro b hb
  exact_mod_cast key 256 m hm b hb
 ·cases h
structure StF (d:AutoD) (s:StateD) (k:Nat):Prop where
 r3:s.r.length≤3
 rl:∀ c∈s.r,0≤c∧c < d.counts.length
 kr:k < s.rule.length
 kn:k < s.next.length
 row:((s.next.getD k []).length:Int)=d.many
 mv:∀ m∈s.next.getD k [],jC d.states s.r m=true
 ru:-1≤s.rule.getD k 0∧s.rule.getD k 0 < 512
theorem aEW {d:AutoD}{m:MacD} (ha:fF d=true) (hm:MOk d m) (hc:m.cur≠-1):StF d (eS d m) (gP d.counts m.rs (eS d m).r):=by
 obtain⟨h1,h2,h3,h4,h5,h6⟩:=eV ha
 have hcur:0≤m.cur∧m.cur < d.states.length:=by rcases hm.1 with h | h<;>omega
 have hi:m.cur.toNat < d.states.length:=by omega
 have hs:eS d m=d.states[m.cur.toNat]:=by unfold eS; rw[List.getD_eq_getElem?_getD,List.getElem?_eq_getElem hi]; rfl
 have hk:=h6 _ (List.getElem_mem hi)
 rw[← hs] at hk
 generalize eS d m=s at hk
 obtain⟨k1,k2,k3,k4,k5⟩:=uQ hk
 have hlt:=aBN (C:=d.counts) (rs:=m.rs) k1
 generalize gP d.counts m.rs s.r=k at hlt
 have kr:k < s.rule.length:=by omega
 have kn:k < s.next.length:=by omega
 have e1:s.next[k]?=some s.next[k]:=List.getElem?_eq_getElem kn
 have e2:s.rule[k]?=some s.rule[k]:=List.getElem?_eq_getElem kr
 have hro:=aKF k5 (by omega) k _ _ e1 e2
 unfold aAp at hro
 simp only[Bool.and_eq_true,decide_eq_true_eq] at hro
 refine⟨k1,k4,kr,kn,?_,?_,?_⟩
 ·rw[List.getD_eq_getElem?_getD,e1]; exact hro.2.2.1
 ·rw[List.getD_eq_getElem?_getD,e1]; exact fun m hm=>List.all_eq_true.1 hro.2.2.2 m hm
 ·rw[List.getD_eq_getElem?_getD,e2]; exact⟨hro.1,hro.2.1⟩
theorem aFx {d:AutoD}{m:MacD}{b:Nat} (ha:fF d=true) (hm:MOk d m) (hc:m.cur≠-1) (hl:d.c.length=256) (hb:b < 256):d.c.getD b 0 < ((eS d m).next.getD (gP d.counts m.rs (eS d m).r) []).length∧jC d.states (eS d m).r (qZ d m b)=true:=by
 have hs:=aEW ha hm hc
 have h1:=aLw hl (eV ha).1 b hb
 have h2:d.c.getD b 0 < ((eS d m).next.getD (gP d.counts m.rs (eS d m).r) []).length:=by have:=hs.row; omega
 refine⟨h2,hs.mv _ ?_⟩
 unfold qZ
 rw[List.getD_eq_getElem?_getD (a:=aRl),List.getElem?_eq_getElem h2]
 exact List.getElem_mem h2
theorem wW {S:List StateD}{R:List Int}{m:MoveD} (h:jC S R m=true):(m.to=-1∧m.ops=[])∨(1≤m.to∧m.to < S.length∧m.ops.length=(S.getD m.to.toNat noS).r.length∧aBb R m.ops (S.getD m.to.toNat noS).r=true):=by
 unfold jC at h
 split at h
 ·rename_i ht
  exact .inl ⟨ht,List.length_eq_zero_iff.1 (by simpa using h)⟩
 ·simp only[Bool.and_eq_true,decide_eq_true_eq] at h
  exact .inr ⟨h.1,h.2.1,h.2.2.1,h.2.2.2⟩
theorem aIn {R:List Int}:∀ {os:List Nat}{rs:List Int},aBb R os rs=true→os.length=rs.length→∀ o∈os,1≤o∧o≤3
 | [],_,_,_,o,ho=>by cases ho
 | o::os,[],_,hl,_,_=>by simp at hl
 | o::os,r::rs,h,hl,x,hx=>by
  rw[aDW,Bool.and_eq_true] at h
  rcases List.mem_cons.1 hx with rfl | hx
  ·have:=h.1
   unfold aJh at this
   simp only[Bool.and_eq_true,decide_eq_true_eq] at this
   exact⟨this.1,this.2.1⟩
  ·exact aIn h.2 (by simpa using hl) x hx
theorem aK8 (nx:List Int):∀ (r:List Int) (rs:List RgD),(rJ nx r rs).length=rs.length
 | [],rs=>rfl
 | c::r,rs=>by
  unfold rJ
  rw[aK8 nx r]
  split<;>simp
theorem aL1 (C:List (Int × Int)):∀ (r:List Int) (os:List Nat) (rs:List RgD),(vP C r os rs).length=rs.length
 | [],_,rs=>by simp[vP]
 | _::_,[],rs=>by simp[vP]
 | c::r,o::os,rs=>by
  unfold vP
  rw[aL1 C r os]; simp
theorem aSG {d:AutoD}{m:MacD}{b:Nat} (ha:fF d=true) (hm:MOk d m) (hl:d.c.length=256) (hb:b < 256):MOk d (jX d m b):=by
 unfold jX
 by_cases hc:m.cur=-1
 ·rw[if_pos hc]; exact hm
 ·rw[if_neg hc]
  have h1:=wW (aFx ha hm hc hl hb).2
  refine⟨?_,?_⟩
  ·rcases h1 with ⟨h1,_⟩ | ⟨h1,h2,_⟩
   ·exact .inl h1
   ·exact .inr ⟨by show (0:Int)≤(qZ d m b).to; omega,h2⟩
  ·show (vP _ _ _ _).length=_
   rw[aL1,aK8]; exact hm.2
theorem aQj {d:AutoD}{m:MacD} (ha:fF d=true) (hm:MOk d m):MOk d (aBv m):=⟨.inr ⟨Int.le_refl _,by have:=(eV ha).2.2.1; show (0:Int) < _; omega⟩,by show (m.rs.map kA).length=_; rw[List.length_map]; exact hm.2⟩
theorem aTE {d:AutoD} (ha:fF d=true):MOk d (aAw d):=⟨.inr ⟨Int.le_refl _,by have:=(eV ha).2.2.1; show (0:Int) < _; omega⟩,by show (d.counts.map _).length=_; rw[List.length_map]⟩
def WLe (B:Nat) (rs:List RgD):Prop:=∀ r∈rs,r.2≤B
theorem WLe.mono {B B':Nat}{rs:List RgD} (h:WLe B rs) (hb:B≤B'):WLe B' rs:=fun r hr=>Nat.le_trans (h r hr) hb
theorem WLe.set {B:Nat}{rs:List RgD}{i:Nat}{x:RgD} (h:WLe B rs) (hx:x.2≤B):WLe B (rs.set i x):=fun r hr=>by
 rcases List.mem_or_eq_of_mem_set hr with h1 | h1
 ·exact h r h1
 ·rw[h1]; exact hx
theorem WLe.at {B:Nat}{rs:List RgD} (h:WLe B rs) (c:Int):(kW rs c).2≤B:=by
 unfold kW
 rw[List.getD_eq_getElem?_getD]
 cases hq:rs[c.toNat]? with
 | none=>exact Nat.zero_le _
 | some r=>exact h r (List.mem_of_getElem? hq)
theorem aNM (n o:Nat) (r:RgD):(aEl n o r).2≤r.2+2:=by
 unfold aEl
 repeat' split
 all_goals simp[aQh,aDM,aQB]
end V
end Go.Proofs.YtcaccnneblghgaaGreat
namespace Go.Proofs.YtcaccnneblghgaaGreat
namespace V
structure EntD where
 a:AutoD
 rules:List Int
structure TabD where
 conds:List ByteArray
 kinds:List ByteArray
 to:List Int
 entries:List EntD
structure TokD where
 rule:Int
 from_:Nat
 to:Nat
deriving DecidableEq
structure ScD where
 ms:List MacD
 kept:List Nat
 at_:Nat
 line:Bool
 cond:Nat
 took:Nat
 held:Nat
 rule:Int
 closed:Bool
 steps:Nat
structure TryD where
 took:Nat
 held:Nat
 rule:Int
 steps:Nat
 m:MacD
def noE:EntD:=⟨⟨[],0,[],[]⟩,[]⟩
def aTG:MacD:=⟨0,[],0⟩
def nG (s:ScD):Nat:=2*s.cond+(if s.line then 1 else 0)
def oN (T:TabD) (s:ScD):EntD:=T.entries.getD (nG s) noE
def tk0 (d:AutoD) (t:TryD) (b:Nat):TryD:=⟨t.took+1,t.held,t.rule,t.steps+1,jX d t.m b⟩
def tk1 (d:AutoD) (t:TryD) (b:Nat):TryD:=if nL d (jX d t.m b)=-1 then tk0 d t b else ⟨t.took+1,t.took+1,nL d (jX d t.m b),t.steps+1,jX d t.m b⟩
def aAr (d:AutoD):List Nat→TryD→Bool × TryD
 | [],t=>(false,t)
 | b::r,t=>if onM d t.m b=true then aAr d r (tk1 d t b) else (true,tk0 d t b)
theorem aCO (d:AutoD) (b:Nat) (r:List Nat) (t:TryD):aAr d (b::r) t=if onM d t.m b=true then aAr d r (tk1 d t b) else (true,tk0 d t b):=rfl
def tM (s:ScD):TryD:=⟨s.took,s.held,s.rule,s.steps,if s.took=0 then aBv (s.ms.getD (nG s) aTG) else s.ms.getD (nG s) aTG⟩
def bZ (s:ScD) (t:TryD):ScD:={ s with ms:=s.ms.set (nG s) t.m,took:=t.took,held:=t.held,rule:=t.rule,steps:=t.steps }
def oM (T:TabD) (s:ScD):Bool × TryD:=aAr (oN T s).a (s.kept.drop s.took) (tM s)
def dN (T:TabD) (s:ScD):Bool × ScD:=((oM T s).1 || s.closed,bZ s (oM T s).2)
def gR (T:TabD) (s:ScD):Int:=if s.rule=-1 then -1 else (oN T s).rules.getD s.rule.toNat 0
def eC (s:ScD):Nat:=if s.rule=-1 then 1 else s.held
def aCa (T:TabD) (c:Nat) (r:Int):Nat:=if r≠-1∧0≤T.to.getD r.toNat 0 then (T.to.getD r.toNat 0).toNat else c
def jQ (T:TabD) (s:ScD):TokD:=⟨gR T s,s.at_,s.at_+eC s⟩
def kY (T:TabD) (s:ScD):ScD:={ s with kept:=s.kept.drop (eC s),at_:=s.at_+eC s,line:=decide (s.kept.getD (eC s - 1) 0=10),cond:=aCa T s.cond (gR T s),took:=0,held:=0,rule:=-1 }
def wV (T:TabD) (t:TokD):Bool:=decide (t.rule=-1) || decide ((T.kinds.getD t.rule.toNat .empty).size≠0)
def aJg (T:TabD) (t:TokD):List TokD:=if wV T t then [t] else []
def hJ (T:TabD):Nat→ScD→List TokD × ScD
 | 0,s=>([],s)
 | n+1,s=>if s.kept=[] then ([],s) else if (dN T s).1=true then (aJg T (jQ T (dN T s).2)++(hJ T n (kY T (dN T s).2)).1,(hJ T n (kY T (dN T s).2)).2) else ([],(dN T s).2)
theorem tL (T:TabD) (n:Nat) (s:ScD):hJ T (n+1) s=if s.kept=[] then ([],s) else if (dN T s).1=true then (aJg T (jQ T (dN T s).2)++(hJ T n (kY T (dN T s).2)).1,(hJ T n (kY T (dN T s).2)).2) else ([],(dN T s).2):=rfl
def qV (s:ScD) (b:List Nat):ScD:={ s with kept:=s.kept++b }
def fR (T:TabD) (s:ScD) (b:List Nat):List TokD × ScD:=hJ T (s.kept.length+b.length) (qV s b)
def oK (T:TabD) (s:ScD):List TokD × ScD:=hJ T s.kept.length { s with closed:=true }
def nK (T:TabD):ScD:=⟨T.entries.map fun e=>aAw e.a,[],0,true,0,0,0,-1,false,0⟩
structure ScOk (T:TabD) (s:ScD):Prop where
 lt:nG s < s.ms.length
 len:s.ms.length=T.entries.length
 took:s.took≤s.kept.length
 held:s.held≤s.took
 none:s.rule=-1→s.held=0
 some:s.rule≠-1→1≤s.held
def aKU (T:TabD):Prop:=∀ c:Nat,∀ r:Int,2*c+1 < T.entries.length→2*aCa T c r+1 < T.entries.length
section
variable {T:TabD}
theorem aHa (d:AutoD) (t:TryD) (b:Nat):(tk1 d t b).took=t.took+1:=by unfold tk1; split<;>rfl
theorem aEy (d:AutoD) (t:TryD) (b:Nat):(tk1 d t b).steps=t.steps+1:=by unfold tk1; split<;>rfl
structure TryOk (t:TryD):Prop where
 held:t.held≤t.took
 none:t.rule=-1→t.held=0
 some:t.rule≠-1→1≤t.held
theorem aQw {d:AutoD}{t:TryD} (b:Nat) (h:TryOk t):TryOk (tk0 d t b):=⟨Nat.le_succ_of_le h.held,h.none,h.some⟩
theorem aT1 {d:AutoD}{t:TryD} (b:Nat) (h:TryOk t):TryOk (tk1 d t b):=by
 unfold tk1
 split
 ·exact aQw b h
 ·rename_i hr
  exact⟨Nat.le_refl _,fun e=>absurd e hr,fun _=>Nat.succ_le_succ (Nat.zero_le _)⟩
theorem zS (d:AutoD):∀ (l:List Nat) (t:TryD),TryOk t→TryOk (aAr d l t).2∧t.took≤(aAr d l t).2.took∧(aAr d l t).2.took≤t.took+l.length∧((aAr d l t).1=false→(aAr d l t).2.took=t.took+l.length)∧(aAr d l t).2.steps+t.took=t.steps+(aAr d l t).2.took∧(l≠[]→t.took < (aAr d l t).2.took)
 | [],t,h=>⟨h,Nat.le_refl _,Nat.le_refl _,fun _=>rfl,rfl,fun e=>absurd rfl e⟩
 | b::r,t,h=>by
  rw[aCO]
  by_cases hb:onM d t.m b=true
  ·rw[if_pos hb]
   obtain⟨h1,h2,h3,h4,h5,h6⟩:=zS d r (tk1 d t b) (aT1 b h)
   rw[aHa] at h2 h3 h4 h5
   rw[aEy] at h5
   rw[List.length_cons]
   exact⟨h1,by omega,by omega,fun e=>by rw[h4 e]; omega,by omega,fun _=>by omega⟩
  ·rw[if_neg hb]
   refine⟨aQw b h,Nat.le_succ _,?_,(fun e=>by cases e),?_,fun _=>Nat.lt_succ_self _⟩
   ·show t.took+1≤t.took+(b::r).length
    rw[List.length_cons]; omega
   ·show t.steps+1+t.took=t.steps+(t.took+1)
    omega
theorem ScOk.tr {s:ScD} (h:ScOk T s):TryOk (tM s):=⟨h.held,h.none,h.some⟩
theorem aNm {s:ScD} (h:ScOk T s):ScOk T (dN T s).2∧(s.kept≠[]→s.took < s.kept.length→(dN T s).2.took≠0):=by
 obtain⟨h1,h2,h3,h4,h5,h6⟩:=zS (oN T s).a (s.kept.drop s.took) (tM s) h.tr
 have ht:=h.took
 rw[List.length_drop] at h3
 have e:(tM s).took=s.took:=rfl
 rw[e] at h2 h3 h4 h6
 refine⟨⟨?_,?_,?_,h1.held,h1.none,h1.some⟩,fun hk hlt=>?_⟩
 ·show nG s < (s.ms.set _ _).length
  rw[List.length_set]; exact h.lt
 ·show (s.ms.set _ _).length=_
  rw[List.length_set]; exact h.len
 ·show (oM T s).2.took≤s.kept.length
  unfold oM
  omega
 ·have:s.kept.drop s.took≠[]:=by
   intro e9
   have:=congrArg List.length e9
   rw[List.length_drop,List.length_nil] at this
   omega
  have:=h6 this
  show (oM T s).2.took≠0
  unfold oM
  omega
theorem aAY {s:ScD} (h:ScOk T s) (hk:s.kept≠[]):1≤eC s∧eC s≤s.kept.length:=by
 have hl:0 < s.kept.length:=List.length_pos_iff.2 hk
 unfold eC
 split
 ·omega
 ·rename_i hr
  exact⟨h.some hr,Nat.le_trans h.held h.took⟩
end
end V
end Go.Proofs.YtcaccnneblghgaaGreat
namespace Go.Proofs.YtcaccnneblghgaaGreat
namespace V
section
variable {T:TabD}
theorem aPm {s:ScD} (hT:aKU T) (he:2*s.cond+1 < T.entries.length) (h:ScOk T s):ScOk T (kY T s)∧2*(kY T s).cond+1 < T.entries.length:=by
 have h2:=hT s.cond (gR T s) he
 refine⟨⟨?_,h.len,Nat.zero_le _,Nat.le_refl _,fun _=>rfl,fun e=>absurd rfl e⟩,h2⟩
 show 2*aCa T s.cond (gR T s)+(if decide _=true then 1 else 0) < s.ms.length
 rw[h.len]
 split<;>omega
theorem aDi {s:ScD}:(kY T s).kept.length=s.kept.length - eC s:=List.length_drop
theorem aCI (n:Nat) {s:ScD} (h:s.kept=[]):hJ T n s=([],s):=by
 cases n with
 | zero=>rfl
 | succ n=>rw[tL,if_pos h]
theorem tE (s:ScD):(dN T s).2.kept=s.kept:=rfl
theorem set_set {s:ScD} (t u:TryD) (b:List Nat):bZ (qV (bZ s t) b) u=bZ (qV s b) u:=by
 show (⟨(s.ms.set (nG s) t.m).set (nG s) u.m,_,_,_,_,_,_,_,_,_⟩:ScD)=_
 rw[List.set_set]; rfl
theorem aKM (hT:aKU T):∀ (n:Nat) (s:ScD),ScOk T s→2*s.cond+1 < T.entries.length→s.kept.length≤n→ScOk T (hJ T n s).2∧2*(hJ T n s).2.cond+1 < T.entries.length∧(hJ T n s).2.closed=s.closed∧(hJ T n s).2.kept.length≤s.kept.length∧(hJ T n s).2.at_+(hJ T n s).2.kept.length=s.at_+s.kept.length∧((hJ T n s).2.kept=[]∨s.closed=false∧(hJ T n s).2.took=(hJ T n s).2.kept.length)
 | 0,s,h,hc,hn=>⟨h,hc,rfl,Nat.le_refl _,rfl,.inl (List.length_eq_zero_iff.1 (show s.kept.length=0 by omega))⟩
 | n+1,s,h,hc,hn=>by
  by_cases hk:s.kept=[]
  ·rw[aCI _ hk]
   exact⟨h,hc,rfl,Nat.le_refl _,rfl,.inl hk⟩
  ·obtain⟨e1,_⟩:=aNm h
   rw[tL,if_neg hk]
   by_cases he:(dN T s).1=true
   ·rw[if_pos he]
    obtain⟨c1,c2⟩:=aPm hT (s:=(dN T s).2) hc e1
    have hp:=aAY e1 (by rw[tE]; exact hk)
    have hlen:=aDi (T:=T) (s:=(dN T s).2)
    rw[tE] at hlen hp
    obtain⟨q1,q2,q3,q4,q5,q6⟩:=aKM hT n _ c1 c2 (by omega)
    have ha:(kY T (dN T s).2).at_=s.at_+eC (dN T s).2:=rfl
    refine⟨q1,q2,q3,?_,?_,q6⟩
    ·show (hJ T n (kY T (dN T s).2)).2.kept.length≤_
     omega
    ·show (hJ T n (kY T (dN T s).2)).2.at_+(hJ T n (kY T (dN T s).2)).2.kept.length=_
     omega
   ·rw[if_neg he]
    have hf:(oM T s).1=false∧s.closed=false:=by
     have:((oM T s).1 || s.closed)≠true:=he
     cases h1:(oM T s).1<;>cases h2:s.closed<;>rw[h1,h2] at this<;>simp at this ⊢
    obtain⟨_,_,_,h4,_,_⟩:=zS (oN T s).a (s.kept.drop s.took) (tM s) h.tr
    have htk:(oM T s).2.took=s.kept.length:=by
     have:=h4 hf.1
     show (aAr _ _ _).2.took=_
     rw[this,List.length_drop]
     show s.took+(s.kept.length - s.took)=_
     have:=h.took
     omega
    exact⟨e1,hc,rfl,Nat.le_refl _,rfl,.inr ⟨hf.2,htk⟩⟩
def aTa (s:ScD):Prop:=s.kept=[]∨s.took=s.kept.length
theorem aPX {s:ScD} (h:ScOk T s) (b:List Nat):ScOk T (qV s b):=⟨h.lt,h.len,by show s.took≤(s.kept++b).length; rw[List.length_append]; have:=h.took; omega,h.held,h.none,h.some⟩
theorem aFp (s:ScD) (b:List Nat):(qV s b).kept.length=s.kept.length+b.length:=List.length_append
theorem aR2 (hT:aKU T) {s:ScD} (h:ScOk T s) (hc:2*s.cond+1 < T.entries.length) (hcl:s.closed=false) (b:List Nat):ScOk T (fR T s b).2∧2*(fR T s b).2.cond+1 < T.entries.length∧(fR T s b).2.closed=false∧aTa (fR T s b).2∧(fR T s b).2.kept.length≤s.kept.length+b.length∧(fR T s b).2.at_+(fR T s b).2.kept.length=s.at_+(s.kept.length+b.length):=by
 obtain⟨q1,q2,q3,q4,q5,q6⟩:=aKM hT (s.kept.length+b.length) (qV s b) (aPX h b) hc (by rw[aFp]; exact Nat.le_refl _)
 rw[aFp] at q4 q5
 exact⟨q1,q2,q3.trans hcl,q6.imp_right And.right,q4,q5⟩
theorem aTF (hT:2≤T.entries.length):ScOk T (nK T)∧2*(nK T).cond+1 < T.entries.length∧(nK T).closed=false∧aTa (nK T):=by
 have e:(nK T).ms.length=T.entries.length:=List.length_map _
 exact⟨⟨by rw[e]; show 1 < _; omega,e,Nat.le_refl _,Nat.le_refl _,fun _=>rfl,fun e=>absurd rfl e⟩,by show 1 < _; omega,rfl,.inl rfl⟩
theorem aMd (hT:aKU T) {s:ScD} (h:ScOk T s) (hc:2*s.cond+1 < T.entries.length):(oK T s).2.kept=[]∧(oK T s).2.at_=s.at_+s.kept.length:=by
 obtain⟨q1,q2,q3,q4,q5,q6⟩:=aKM hT s.kept.length { s with closed:=true } ⟨h.lt,h.len,h.took,h.held,h.none,h.some⟩ hc (Nat.le_refl _)
 have hk:(oK T s).2.kept=[]:=q6.resolve_right fun e=>by cases e.1
 refine⟨hk,?_⟩
 have:(oK T s).2.at_+(oK T s).2.kept.length=s.at_+s.kept.length:=q5
 rw[hk] at this
 exact this
end
end V
end Go.Proofs.YtcaccnneblghgaaGreat
namespace Go.Proofs.YtcaccnneblghgaaGreat
namespace V
attribute [local irreducible] aB bA aW dM eR gI dH
def dV (c:List Nat) (n:Int) (cv sv:Value) (cur:Int) (rv:Value) (steps:Nat):List Value:=eU c n cv sv++[.int .i64 cur,rv,.int .i64 (steps:Int)]
section
variable {c:List Nat}{n cur:Int}{cv sv rv:Value}{steps:Nat}
theorem pJ (hc:c.length=256):(dV c n cv sv cur rv steps).length=262:=by simp[dV,d5 hc]
theorem aGq {i:Nat} (hc:c.length=256) (hi:i < 259):(dV c n cv sv cur rv steps)[i]?=(eU c n cv sv)[i]?:=by
 unfold dV
 rw[List.getElem?_append_left (by rw[d5 hc]; exact hi)]
theorem aGp (i:Nat) (hc:c.length=256):(dV c n cv sv cur rv steps)[i+259]?=[Value.int .i64 cur,rv,.int .i64 (steps:Int)][i]?:=by
 unfold dV
 rw[List.getElem?_append_right (by rw[d5 hc]; omega),d5 hc,Nat.add_sub_cancel]
theorem aIf (hc:c.length=256):(dV c n cv sv cur rv steps)[257]?=some cv:=by rw[aGq hc (by omega),mQ hc]
theorem tG (hc:c.length=256):(dV c n cv sv cur rv steps)[258]?=some sv:=by rw[aGq hc (by omega),jW hc]
theorem tH (hc:c.length=256):(dV c n cv sv cur rv steps)[259]?=some (.int .i64 cur):=aGp 0 hc
theorem lB (hc:c.length=256):(dV c n cv sv cur rv steps)[260]?=some rv:=aGp 1 hc
theorem aCV (hc:c.length=256):(dV c n cv sv cur rv steps)[261]?=some (.int .i64 (steps:Int)):=aGp 2 hc
theorem aNv {b:Nat} (hc:c.length=256) (hb:b < 256):(dV c n cv sv cur rv steps)[b]?=some (.int .u8 (c.getD b 0:Nat)):=by
 rw[aGq hc (by omega)]
 unfold eU
 rw[List.getElem?_append_left (by rw[fM hc]; omega),aCD (by omega)]
 rw[List.getD_eq_getElem?_getD,List.getElem?_eq_getElem (show b < c.length by omega)]; rfl
theorem vO (hc:c.length=256) (k:Int):(dV c n cv sv cur rv steps).set 259 (.int .i64 k)=dV c n cv sv k rv steps:=by
 unfold dV
 rw[List.set_append_right _ _ (by rw[d5 hc]; omega),d5 hc]; rfl
theorem aDy (hc:c.length=256) (w:Value):(dV c n cv sv cur rv steps).set 260 w=dV c n cv sv cur w steps:=by
 unfold dV
 rw[List.set_append_right _ _ (by rw[d5 hc]; omega),d5 hc]; rfl
theorem aDz (hc:c.length=256) (k:Nat):(dV c n cv sv cur rv steps).set 261 (.int .i64 (k:Int))=dV c n cv sv cur rv k:=by
 unfold dV
 rw[List.set_append_right _ _ (by rw[d5 hc]; omega),d5 hc]; rfl
end
theorem Sl.ixArr {ro:Ro}{h:T Obj}{v:Value}{z:Nat}{cs:List (List Value)} (hl:Sl ro h v z cs) {i:Nat} (hi:i < cs.length) (n w:Nat) (k:IntKind) {j:Int} (h0:0≤j) (h1:j < n):V.ixArr n w (i3 z v i) (.int k j)=some (mT z v i (j.toNat*w)):=by
 have hn:pL (.int k j)=some j.toNat:=by simp[pL,h0]
 have hb:Nat.blt j.toNat n=true:=by simp[Nat.blt]; omega
 rcases hl with ⟨rfl,rfl⟩ | ⟨a,cap,rfl,h2,h3,h4⟩
 ·simp at hi
 ·simp only[V.ixArr,hn,i3,asP,Option.bind,hb,mT,aNj]
def mJ (ps:List (Nat × Nat)):List (List Value):=ps.map fun p=>[ptr p.1]
theorem gN (ps:List (Nat × Nat)):(mJ ps).length=ps.length:=by simp[mJ]
abbrev RgP:=T Obj→Nat→Nat→Nat→List Nat→Nat→Prop
structure RgOk (RR:RgP) (tp ta:TypeId):Prop where
 keep:∀ {h h':T Obj} {p a n w:Nat} {L:List Nat},RR h p a n L w→h'.get p=h.get p→h'.get a=h.get a→RR h' p a n L w
 p:∀ {h:T Obj} {p a n w:Nat} {L:List Nat},RR h p a n L w→∃ c,h.get p=some (.cells c tp)
 a:∀ {h:T Obj} {p a n w:Nat} {L:List Nat},RR h p a n L w→∃ c,h.get a=some (.cells c ta)
 ne:tp≠ta
 L:∀ {h:T Obj} {p a n w:Nat} {L:List Nat},RR h p a n L w→L.Pairwise (fun x y=>y < x)∧(∀ x∈L,1≤x∧x≤n)∧1≤n∧n≤4096
theorem lY:RgOk RI cT dY where
 keep:=fun ⟨put,first,now,gp,ga,hr⟩ h1 h2=>⟨put,first,now,by rw[h1]; exact gp,by rw[h2]; exact ga,hr⟩
 p:=fun ⟨put,first,now,gp,ga,hr⟩=>⟨_,gp⟩
 a:=fun ⟨put,first,now,gp,ga,hr⟩=>⟨_,ga⟩
 ne:=by decide
 L:=fun h=>h.in
def WJ:RgP:=fun h p a n L w=>WI h p a n L w∧L.Pairwise (fun x y=>y < x)∧∀ x∈L,1≤x∧x≤n
theorem rH:RgOk WJ cG jK where
 keep:=fun ⟨hw,hr⟩ h1 h2=>⟨⟨by rw[h1]; exact hw.1,by rw[h2]; exact hw.2.1,hw.2.2⟩,hr⟩
 p:=fun ⟨hw,hr⟩=>⟨_,hw.1⟩
 a:=fun ⟨hw,hr⟩=>⟨_,hw.2.1⟩
 ne:=by decide
 L:=fun ⟨hw,hr⟩=>⟨hr.1,hr.2,hw.2.2.2.1,hw.2.2.2.2.1⟩
def RsX (RR:RgP) (h:T Obj) (ps:List (Nat × Nat)) (C:List (Int × Int)) (rs:List RgD):Prop:=ps.length=C.length∧rs.length=C.length∧∀ (i:Nat) p c r,ps[i]?=some p→C[i]?=some c→rs[i]?=some r→RR h p.1 p.2 c.2.toNat r.1 r.2
def Dst (ps:List (Nat × Nat)):Prop:=∀ (i j:Nat) p q,ps[i]?=some p→ps[j]?=some q→i≠j→p.1≠q.1∧p.2≠q.2
section
variable {RR:RgP}{tp ta:TypeId}{h h':T Obj}{ps:List (Nat × Nat)}{C:List (Int × Int)}{rs:List RgD}
theorem RsX.at (hr:RsX RR h ps C rs) {c:Int} (h0:0≤c) (h1:c < C.length):∃ q,ps[c.toNat]?=some q∧RR h q.1 q.2 (iE C c).2.toNat (kW rs c).1 (kW rs c).2:=by
 obtain⟨r1,r2,r3⟩:=hr
 have hi:c.toNat < C.length:=by omega
 have e1:ps[c.toNat]?=some (ps[c.toNat]'(by omega)):=List.getElem?_eq_getElem _
 have e2:C[c.toNat]?=some C[c.toNat]:=List.getElem?_eq_getElem _
 have e3:rs[c.toNat]?=some (rs[c.toNat]'(by omega)):=List.getElem?_eq_getElem _
 refine⟨_,e1,?_⟩
 have:=r3 _ _ _ _ e1 e2 e3
 unfold iE kW
 rw[List.getD_eq_getElem?_getD,List.getD_eq_getElem?_getD,e2,e3]
 exact this
theorem RsX.lt (hk:RgOk RR tp ta) (hr:RsX RR h ps C rs) {nx:Nat} (hf:Fr h nx):∀ q∈ps,q.1 < nx∧q.2 < nx:=fun q hq=>by
 obtain⟨i,hi⟩:=List.getElem?_of_mem hq
 obtain⟨r1,r2,r3⟩:=hr
 have hl:=(List.getElem?_eq_some_iff.1 hi).1
 have:=r3 i q _ _ hi (List.getElem?_eq_getElem (by omega)) (List.getElem?_eq_getElem (by omega))
 obtain⟨c1,h1⟩:=hk.p this
 obtain⟨c2,h2⟩:=hk.a this
 exact⟨hf.lt' h1,hf.lt' h2⟩
theorem RsX.ty (hk:RgOk RR tp ta) (hr:RsX RR h ps C rs):∀ q∈ps,(∃ c,h.get q.1=some (.cells c tp))∧∃ c,h.get q.2=some (.cells c ta):=fun q hq=>by
 obtain⟨i,hi⟩:=List.getElem?_of_mem hq
 obtain⟨r1,r2,r3⟩:=hr
 have hl:=(List.getElem?_eq_some_iff.1 hi).1
 have:=r3 i q _ _ hi (List.getElem?_eq_getElem (by omega)) (List.getElem?_eq_getElem (by omega))
 exact⟨hk.p this,hk.a this⟩
theorem RsX.keep (hk:RgOk RR tp ta) (hr:RsX RR h ps C rs) (hg:∀ q∈ps,h'.get q.1=h.get q.1∧h'.get q.2=h.get q.2):RsX RR h' ps C rs :=
 ⟨hr.1,hr.2.1,fun i p c r h1 h2 h3=>hk.keep (hr.2.2 i p c r h1 h2 h3) (hg p (List.mem_of_getElem? h1)).1 (hg p (List.mem_of_getElem? h1)).2⟩
theorem RsX.sub (hk:RgOk RR tp ta) (hr:RsX RR h ps C rs) (hs:aZ h h'):RsX RR h' ps C rs:=hr.keep hk fun q hq=>by
 obtain⟨⟨c1,h1⟩,c2,h2⟩:=hr.ty hk q hq
 rw[h1,h2,hs _ _ h1,hs _ _ h2]; exact⟨rfl,rfl⟩
theorem RsX.set (hk:RgOk RR tp ta) (hr:RsX RR h ps C rs) (hd:Dst ps) {nx:Nat} (hf:Fr h nx) {i a':Nat}{q:Nat × Nat}{r:RgD}{c:Int × Int} (hq:ps[i]?=some q) (hc:C[i]?=some c) (hn:RR h' q.1 a' c.2.toNat r.1 r.2) (hg:∀ k,k < nx→k≠q.1→k≠q.2→h'.get k=h.get k) :
  RsX RR h' (ps.set i (q.1,a')) C (rs.set i r):=by
 have hlt:=hr.lt hk hf
 have hty:=hr.ty hk
 refine⟨by rw[List.length_set]; exact hr.1,by rw[List.length_set]; exact hr.2.1,fun j p c2 r2 h1 h2 h3=>?_⟩
 by_cases hij:i=j
 ·subst hij
  have hl:=(List.getElem?_eq_some_iff.1 hq).1
  have hl2:i < rs.length:=by have:=hr.1; have:=hr.2.1; omega
  rw[List.getElem?_set_self hl] at h1
  rw[List.getElem?_set_self hl2] at h3
  rw[hc] at h2
  cases h1; cases h2; cases h3
  exact hn
 ·rw[List.getElem?_set_ne hij] at h1
  rw[List.getElem?_set_ne hij] at h3
  have hd2:=hd i j q p hq h1 hij
  have hm:=List.mem_of_getElem? h1
  have hm2:=List.mem_of_getElem? hq
  obtain⟨⟨c3,t1⟩,c4,t2⟩:=hty p hm
  obtain⟨⟨c5,t3⟩,c6,t4⟩:=hty q hm2
  have n1:p.1≠q.2:=fun e=>by rw[e,t4] at t1; simp only[Option.some.injEq,Obj.cells.injEq] at t1; exact hk.ne t1.2.1.symm
  have n2:p.2≠q.1:=fun e=>by rw[e,t3] at t2; simp only[Option.some.injEq,Obj.cells.injEq] at t2; exact hk.ne t2.2.1
  exact hk.keep (hr.2.2 j p c2 r2 h1 h2 h3) (hg _ (hlt p hm).1 (Ne.symm hd2.1) n1) (hg _ (hlt p hm).2 n2 (Ne.symm hd2.2))
theorem Dst.set (hd:Dst ps) {i a':Nat}{q:Nat × Nat} (hq:ps[i]?=some q) (ha:a'=q.2∨∀ p∈ps,p.2 < a'):Dst (ps.set i (q.1,a')):=by
 intro j k p p2 h1 h2 hjk
 have hl:=(List.getElem?_eq_some_iff.1 hq).1
 by_cases hj:i=j
 ·subst hj
  rw[List.getElem?_set_self hl] at h1
  cases h1
  rw[List.getElem?_set_ne hjk] at h2
  have h3:=hd i k q p2 hq h2 hjk
  refine⟨h3.1,?_⟩
  rcases ha with rfl | ha
  ·exact h3.2
  ·have:=ha p2 (List.mem_of_getElem? h2); show a'≠p2.2; omega
 ·rw[List.getElem?_set_ne hj] at h1
  by_cases hk:i=k
  ·subst hk
   rw[List.getElem?_set_self hl] at h2
   cases h2
   have h3:=hd j i p q h1 hq hjk
   refine⟨h3.1,?_⟩
   rcases ha with rfl | ha
   ·exact h3.2
   ·have:=ha p (List.mem_of_getElem? h1); show p.2≠a'; omega
  ·rw[List.getElem?_set_ne hk] at h2
   exact hd j k p p2 h1 h2 hjk
theorem aMQ {i:Nat}{q:Nat × Nat} (hq:ps[i]?=some q):ps.set i (q.1,q.2)=ps:=by
 apply List.ext_getElem?
 intro j
 by_cases hj:i=j
 ·subst hj
  rw[List.getElem?_set_self (List.getElem?_eq_some_iff.1 hq).1,hq]
 ·rw[List.getElem?_set_ne hj]
theorem aOy {i a':Nat}{q:Nat × Nat} (hq:ps[i]?=some q):mJ (ps.set i (q.1,a'))=mJ ps:=by
 unfold mJ
 apply List.ext_getElem?
 intro j
 rw[List.getElem?_map,List.getElem?_map]
 by_cases hj:i=j
 ·subst hj
  rw[List.getElem?_set_self (List.getElem?_eq_some_iff.1 hq).1,hq]; rfl
 ·rw[List.getElem?_set_ne hj]
end
def iD (ps:List (Nat × Nat)):List Nat:=ps.flatMap fun q=>[q.1,q.2]
theorem jN {ps:List (Nat × Nat)}{k:Nat}:k∈iD ps ↔ ∃ q∈ps,k=q.1∨k=q.2:=by simp[iD]
def MX (RR:RgP) (ty:TypeId) (ro:Ro) (h:T Obj) (X:List Nat) (p:Nat) (ps:List (Nat × Nat)) (d:AutoD) (m:MacD):Prop:=∃ cv sv rv,h.get p=some (.cells (dV d.c d.many cv sv m.cur rv m.steps).toArray ty)∧sR ro (del h X) (eU d.c d.many cv sv) d ∧
 Sl ro (del h X) rv 1 (mJ ps)∧RsX RR h ps d.counts m.rs∧Dst ps∧p∈X∧∀ k∈iD ps,k∈X
abbrev MI:=MX RI cE
abbrev MW:=MX WJ bN
theorem aPn {h h':T Obj}{X:List Nat} (hs:aZ (del h X) h'):aZ (del h X) (del h' X):=fun k o hk=>by
 have h1:=hk
 rw[lD] at h1
 split at h1
 ·cases h1
 ·rename_i hn; exact jL (hs k o hk) hn
theorem aRY {h h':T Obj}{X X':List Nat} (hs:aZ (del h X) h') (hx:∀ k∈X',k∈X∨h.get k=none):aZ (del h X) (del h' X'):=fun k o hk=>by
 have h1:=hk
 rw[lD] at h1
 split at h1
 ·cases h1
 ·rename_i hn
  refine jL (hs k o hk) fun hm=>?_
  rcases hx k hm with h2 | h2
  ·exact hn h2
  ·rw[h2] at h1; cases h1
section
variable {RR:RgP}{tp ta ty:TypeId}{ro:Ro}{h h':T Obj}{X X':List Nat}{p:Nat}{ps:List (Nat × Nat)}{d:AutoD}{m:MacD}
theorem sR.sub {x:List Value} (hd:sR ro h x d) (hs:aZ h h'):sR ro h' x d:=by
 obtain⟨cv,sv,h1,h2,h3,h4,h5,h6⟩:=hd
 exact⟨cv,sv,h1,h2,h3,h4.sub hs fun _ _ h=>h,h5.sub hs (eT.sub hs),h6⟩
theorem MX.keep {ids:List Nat} (hk:RgOk RR tp ta) (hm:MX RR ty ro h X p ps d m) (hs:eB ids h h') (h1:∀ k∈ids,k∈X) (h2:∀ k∈ids,k≠p∧k ∉ iD ps) (h3:∀ k∈X',k∈X∨h.get k=none) (h4:∀ k∈X,k∈X'):MX RR ty ro h' X' p ps d m:=by
 obtain⟨cv,sv,rv,g1,g2,g3,g4,g5,g6,g7⟩:=hm
 have hD:=hs.del h1 h3
 refine⟨cv,sv,rv,hs p _ g1 fun hp=>(h2 p hp).1 rfl,g2.sub hD,g3.sub hD,g4.keep hk fun q hq=>?_,g5,h4 p g6,fun k hk=>h4 k (g7 k hk)⟩
 obtain⟨⟨c1,t1⟩,c2,t2⟩:=g4.ty hk q hq
 rw[t1,t2,hs _ _ t1 fun hm=>(h2 _ hm).2 (jN.2 ⟨q,hq,.inl rfl⟩),hs _ _ t2 fun hm=>(h2 _ hm).2 (jN.2 ⟨q,hq,.inr rfl⟩)]
 exact⟨rfl,rfl⟩
theorem MX.sub (hk:RgOk RR tp ta) (hm:MX RR ty ro h X p ps d m) (hs:aZ h h') (h3:∀ k∈X',k∈X∨h.get k=none) (h4:∀ k∈X,k∈X'):MX RR ty ro h' X' p ps d m:=hm.keep (ids:=[]) hk hs.keepL (fun k hk=>by cases hk) (fun k hk=>by cases hk) h3 h4
theorem MX.subX (hk:RgOk RR tp ta) (hm:MX RR ty ro h X p ps d m) (hs:aZ h h'):MX RR ty ro h' X p ps d m:=hm.sub hk hs (fun k hk=>.inl hk) fun k hk=>hk
theorem MX.lt (hk:RgOk RR tp ta) (hm:MX RR ty ro h X p ps d m) {nx:Nat} (hf:Fr h nx):p < nx∧∀ k∈iD ps,k < nx:=by
 obtain⟨cv,sv,rv,g1,g2,g3,g4,g5,g6,g7⟩:=hm
 refine⟨hf.lt' g1,fun k hk2=>?_⟩
 obtain⟨q,hq,h1⟩:=jN.1 hk2
 have:=g4.lt hk hf q hq
 omega
end
end V
end Go.Proofs.YtcaccnneblghgaaGreat
namespace Go.Proofs.YtcaccnneblghgaaGreat
namespace V
attribute [local irreducible] aB bA aW dM eR gI dH
theorem sR.parts {ro:Ro}{h:T Obj}{d:AutoD}{cv sv:Value} (hd:sR ro h (eU d.c d.many cv sv) d):d.c.length=256∧(∀ x∈d.c,x < 256)∧iO ro h cv 2 aAG d.counts∧iO ro h sv 4 (eT ro h) d.states:=by
 obtain⟨cv',sv',h1,h2,h3,h4,h5,h6⟩:=hd
 unfold eU at h1
 have:=List.append_cancel_left h1
 simp only[List.cons.injEq,and_true] at this
 obtain⟨rfl,rfl⟩:=this
 exact⟨h2,h3,h4,h5⟩
theorem Sl.ixI {ro:Ro}{h:T Obj}{v:Value}{z:Nat}{l:List (List Value)} (hl:Sl ro h v z l) (k:IntKind) {i:Int} (h0:0≤i) (hi:i < l.length):cQ z v (.int k i)=some (i3 z v i.toNat):=by
 have:=hl.ix k (i:=i.toNat) (by omega)
 rwa [Int.toNat_of_nonneg h0] at this
theorem iO.sl' {D:Type}{ro:Ro}{h:T Obj}{v:Value}{z:Nat}{R:List Value→D→Prop}{l:List D} (hl:iO ro h v z R l) {i:Nat} (hi:i < l.length) (n w:Nat) (k:IntKind) {j:Int} (h0:0≤j) (h1:j < n):ixArr n w (i3 z v i) (.int k j)=some (mT z v i (j.toNat*w)):=by
 obtain⟨cs,g1,g2,g3⟩:=hl
 exact g1.ixArr (by omega) n w k h0 h1
theorem p9 {ps:List (Nat × Nat)}{i:Nat}{q:Nat × Nat} (hq:ps[i]?=some q):(mJ ps)[i]?=some [ptr q.1]:=by simp[mJ,hq]
theorem xY {C:List (Int × Int)}{c:Int} (h0:0≤c) (h1:c < C.length):C[c.toNat]'(by omega)=iE C c:=by
 unfold iE
 rw[List.getD_eq_getElem?_getD,List.getElem?_eq_getElem (by omega)]; rfl
section
variable {ro:Ro}{h:T Obj}{nx:Nat}{X:List Nat}{p:Nat}{ps:List (Nat × Nat)}{d:AutoD}{m:MacD}{K:KV}
theorem aDl (hm:MI ro h X p ps d m) (hK:∀ nx',nx≤nx'→K (.int .i64 m.cur) h nx'):aO Tryz.prog ro lG [ptr p] h nx K:=by
 obtain⟨cv,sv,rv,gp,hA,_⟩:=hm
 have m9:=tH (n:=d.many) (cv:=cv) (sv:=sv) (cur:=m.cur) (rv:=rv) (steps:=m.steps) hA.parts.1
 apply aAu
 unfold wK
 (have zz:=And.intro @o6 (And.intro @aR (And.intro gp m9));repeat refine zzCz ?_)
 exact⟨h,aZ.refl _,hK _ (by omega)⟩
set_option maxRecDepth 8000 in
theorem aJW {c:Int} (hm:MI ro h X p ps d m) (hc0:0≤c) (hc:c < d.counts.length) (hK:∀ nx',nx≤nx'→K (.int .i64 (aGZ d.counts m.rs c:Nat)) h nx'):aO Tryz.prog ro oT [ptr p,.int .i64 c] h nx K:=by
 obtain⟨cv,sv,rv,gp,hA,hP,hR,hD,hpX,hbX⟩:=hm
 obtain⟨hcl,hclt,hcv,hsv⟩:=hA.parts
 have hP:=hP.sub (cX h X)
 have hcv:=hcv.sub (cX h X) fun _ _ h=>h
 have m0:=lB (n:=d.many) (cv:=cv) (sv:=sv) (cur:=m.cur) (rv:=rv) (steps:=m.steps) hcl
 have m7:=aIf (n:=d.many) (cv:=cv) (sv:=sv) (cur:=m.cur) (rv:=rv) (steps:=m.steps) hcl
 obtain⟨q,hq,hri⟩:=hR.at hc0 hc
 have hi:c.toNat < d.counts.length:=by omega
 have hpi:=hP.ixI .i64 hc0 (by rw[gN,hR.1]; exact hc)
 have hp1:=hP.load1 (p9 hq)
 have hci:=hcv.ixI .i64 hc0 hc
 obtain⟨x,hx1,hx2,hx3,hx4,hx5⟩:=hcv.at hi
 rw[xY hc0 hc] at hx1
 have ha0:V.ixArr 2 1 (i3 2 cv c.toNat) (.int .i64 0)=some (mT 2 cv c.toNat 0):=hcv.sl' hi 2 1 .i64 (j:=0) (by omega) (by omega)
 have ha1:V.ixArr 2 1 (i3 2 cv c.toNat) (.int .i64 1)=some (mT 2 cv c.toNat 1):=hcv.sl' hi 2 1 .i64 (j:=1) (by omega) (by omega)
 obtain rfl:x=[.int .i64 (iE d.counts c).1,.int .i64 (iE d.counts c).2]:=hx1
 have hl0:=hx5 0 _ rfl
 have hl1:=hx5 1 _ rfl
 have hL:=lY.L hri
 apply aAv
 unfold wL
 unfold aGZ at hK
 generalize (iE d.counts c)=ct at hri hl0 hl1 hL hK
 generalize (kW m.rs c)=r at hri hL hK
 (have zz:=And.intro @aR (And.intro gp (And.intro m0 (And.intro hpi hp1)));repeat refine zzCz ?_)
 refine aNO hri fun n1 hn1=>?_
 refine aA (aSv _) (aA (aSw _) ?_)
 (have zz:=And.intro @aR (And.intro gp (And.intro m0 (And.intro hpi hp1)));repeat refine zzCz ?_)
 refine aNN hri fun n2 hn2=>?_
 refine aA (aSj _) (aA (aSk _) ?_)
 have hend:∀ (k:Nat) n,nx≤n→(if r.1.length=0 then 0 else if ((r.1.getD 0 0:Nat):Int) < ct.1 then 0 else if ((r.1.getD (r.1.length - 1) 0:Nat):Int) < ct.2 then 2 else 1)=k→∃ h',aZ h' h∧K (.int .i64 (k:Int)) h' n:=fun k n hn e=>by
  subst e; exact⟨h,aZ.refl _,hK _ hn⟩
 by_cases h0:r.1.length=0
 ·rw[decide_eq_true h0]
  (repeat refine zzC ?_)
  exact hend 0 _ (by omega) (by rw[if_pos h0])
 ·rw[decide_eq_false h0]
  have e1:aR5 r.1=r.1.getD 0 0:=by unfold aR5; rw[if_neg h0]
  have e2:low r.1=r.1.getD (r.1.length - 1) 0:=by unfold low; rw[if_neg h0]
  rw[e1,e2]
  simp only[if_neg h0] at hend
  (have zz:=And.intro @aR (And.intro gp (And.intro m7 (And.intro hci (And.intro ha0 hl0))));repeat refine zzCz ?_)
  refine dS (fun h1=>?_) (fun h1=>?_)
  ·(repeat refine zzC ?_)
   exact hend 0 _ (by omega) (by rw[if_pos h1])
  ·simp only[if_neg (show ¬ ((r.1.getD 0 0:Nat):Int) < ct.1 by omega)] at hend
   (have zz:=And.intro @aR (And.intro gp (And.intro m7 (And.intro hci (And.intro ha1 hl1))));repeat refine zzCz ?_)
   refine dS (fun h2=>?_) (fun h2=>?_)
   ·(repeat refine zzC ?_)
    exact hend 2 _ (by omega) (by rw[if_pos h2])
   ·(repeat refine zzC ?_)
    exact hend 1 _ (by omega) (by rw[if_neg (by omega)])
set_option maxRecDepth 8000 in
theorem aFI {lv rv' uv nv:Value}{R:List Int} (hm:MI ro h X p ps d m) (hf:Fr h nx) (hR3:R.length≤3) (hRl:∀ c∈R,0≤c∧c < d.counts.length) (hr:ZI ro h rv' R) (hK:∀ nx',nx≤nx'→K (.int .i64 (gP d.counts m.rs R:Nat)) h nx'):aO Tryz.prog ro mA [ptr p,.agg #[lv,rv',uv,nv]] h nx K:=by
 apply aBW
 unfold x7
 refine eZ hf (Nat.le_refl _) fun h1 hs1 hf1 g1 _=>?_
 have g1:h1.get nx=some (.cells #[lv,rv',uv,nv] bG):=g1
 have hr:=hr.sub hs1
 have hrl:=hr.len
 have hm1:=hm.subX lY hs1
 have htot:gP d.counts m.rs R≤26:=by
  have h9:=aBN (C:=d.counts) (rs:=m.rs) hR3
  have h10:=aBO (R.length:Int)
  omega
 (have zz:=And.intro g1 hrl;repeat refine zzCz ?_)
 generalize hT:gP d.counts m.rs R=tot at hK htot
 refine bM (fun j e h' nx'=>∃ (k n w:Nat),k+j=R.length∧nx≤nx'∧h'=h1∧e 0=ptr p∧e 5=.int .i64 (n:Int)∧e 6=.int .i64 (w:Int)∧e 10=rv'∧e 11=.int .i64 R.length∧e 12=.int .i64 k∧n+w*gP d.counts m.rs (R.drop k)=tot∧(k=0∧w=1∨k=1∧w=3∨k=2∧w=9∨k=3∧w=27)) ?_ (n:=R.length) ⟨0,0,1,by omega,by omega,rfl,rfl,rfl,rfl,rfl,rfl,rfl,by rw[List.drop_zero,hT]; omega,by omega⟩
 rintro j e h' nx' ⟨k,n,w,hj,hnx,rfl,e0,e5,e6,e10,e11,e12,ht,hw⟩ Q' hq hx
 unfold uE
 rw[e0,e5,e6,e10,e11,e12]
 refine dS (fun hk=>?_) (fun hk=>?_)
 ·have hk:k < R.length:=by omega
  rw[cU hk] at ht
  have hcm:=hRl _ (List.getElem_mem hk)
  (repeat refine zzC ?_)
  refine aA (hr.ix _ hk) (aA (hr.load hk) ?_)
  generalize R[k]=c at ht hcm
  refine aJW hm1 hcm.1 hcm.2 fun n2 hn2=>?_
  change n+w*(aGZ d.counts m.rs c+3*gP d.counts m.rs (R.drop (k+1)))=tot at ht
  have hdl:=aJR d.counts m.rs c
  generalize aGZ d.counts m.rs c=g at ht hdl
  have hw27:w≤27:=by omega
  have hwg:w*g≤54:=Nat.mul_le_mul hw27 (show g≤2 by omega)
  have hmul:aQ .mul (.int .i64 (w:Int)) (.int .i64 (g:Int))=some (.int .i64 ((w*g:Nat):Int)):=by
   rw[dI,← Int.natCast_mul,dT (by omega) (by omega)]
  rw[Nat.mul_add,← Nat.mul_assoc] at ht
  have hadd:aQ .add (.int .i64 (n:Int)) (.int .i64 ((w*g:Nat):Int))=some (.int .i64 ((n+w*g:Nat):Int)):=by
   rw[cH,← Int.natCast_add,dT (by omega) (by omega)]
  have hmul3:aQ .mul (.int .i64 (w:Int)) (.int .i64 3)=some (.int .i64 ((w*3:Nat):Int)):=by
   rw[dI,dT (by omega) (by omega)]; simp
  refine aA hmul (aA hadd (aA hmul3 ?_))
  (repeat refine zzC ?_)
  exact hq (j - 1) _ _ _ _ (by omega) ⟨k+1,n+w*g,w*3,by omega,by omega,rfl,e0,rfl,rfl,e10,e11,rfl,by omega,by omega⟩ (aZ.refl _)
 ·(repeat refine zzC ?_)
  refine hx _ _ _ _ (fun e=>by cases e) (eE (dG ?_))
  unfold oP
  rw[gG (by omega)] at ht
  have ht:n+w*0=tot:=ht
  have f5:∀ (e':dL) n',e' 5=.int .i64 (n:Int)→nx≤n'→∃ h2,aZ h2 h'∧K (e' 5) h2 n':=fun e' n' h5 hn=>by
   rw[h5]
   exact⟨h,hs1,ki hK (by omega) hn⟩
  exact f5 _ _ e5 (by omega)
set_option maxRecDepth 8000 in
theorem aKp (hm:MI ro h X p ps d m) (ha:fF d=true) (ho:MOk d m) (hf:Fr h nx) (hK:∀ nx',nx≤nx'→K (.int .i64 (nL d m)) h nx'):aO Tryz.prog ro pQ [ptr p] h nx K:=by
 apply aBT
 unfold x4
 refine aDl hm fun n1 hn1=>?_
 unfold nL at hK
 by_cases hc:m.cur=-1
 ·rw[if_pos hc] at hK
  refine aI5 hc ?_
  (repeat refine zzC ?_)
  exact⟨h,aZ.refl _,hK _ (by omega)⟩
 ·rw[if_neg hc] at hK
  have hst:=aEW ha ho hc
  obtain⟨cv,sv,rv,gp,hA,hP,hR,hD,hpX,hbX⟩:=id hm
  obtain⟨hcl,hclt,hcv,hsv⟩:=hA.parts
  have hsv:=hsv.sub (cX h X) (eT.sub (cX h X))
  have m8:=tG (n:=d.many) (cv:=cv) (sv:=sv) (cur:=m.cur) (rv:=rv) (steps:=m.steps) hcl
  have m9:=tH (n:=d.many) (cv:=cv) (sv:=sv) (cur:=m.cur) (rv:=rv) (steps:=m.steps) hcl
  have hcur:0≤m.cur∧m.cur < d.states.length:=by rcases ho.1 with h | h<;>omega
  have hi:m.cur.toNat < d.states.length:=by omega
  have hs:d.states[m.cur.toNat]=eS d m:=by unfold eS; rw[List.getD_eq_getElem?_getD,List.getElem?_eq_getElem hi]; rfl
  have hsi:=hsv.ixI .i64 hcur.1 hcur.2
  obtain⟨x,⟨lv,rv',uv,nv,rfl,y1,y2,y3,y4,y5⟩,hx2,hx3,hx4,hx5⟩:=hsv.at hi
  rw[hs] at y1 y2 y3 y4 y5
  generalize eS d m=s at hst y1 y2 y3 y4 y5 hK
  refine aI3 hc ?_
  (have zz:=And.intro @aR (And.intro gp (And.intro m8 (And.intro m9 (And.intro hsi hx3))));repeat refine zzCz ?_)
  refine jB (x:=[lv,rv',uv,nv]) tN rfl rfl rfl (by simp[y1.ok,y2.ok,y3.ok,iO.okC y4]) hf (by omega) fun h2 hs2 hf2 g2 _=>?_
  (have zz:=g2;repeat refine zzCz ?_)
  refine aFI (hm.subX lY hs2) (hf2.mono (by omega)) hst.r3 hst.rl (y2.sub hs2) fun n3 hn3=>?_
  refine⟨eL g2 g2,?_⟩
  have hkr:=hst.kr
  have y3:=y3.sub hs2
  refine aA (y3.ix _ hkr) (aA (y3.load hkr) ?_)
  refine⟨h,hs2,?_⟩
  rw[List.getD_eq_getElem?_getD,List.getElem?_eq_getElem hkr] at hK
  exact hK _ (by omega)
end
end V
end Go.Proofs.YtcaccnneblghgaaGreat
namespace Go.Proofs.YtcaccnneblghgaaGreat
namespace V
attribute [local irreducible] aB bA aW dM eR gI dH
theorem zL.trans {a b c:T Obj}{p q:Nat} (h1:zL a b p q) (h2:zL b c p q):zL a c p q:=fun k k1 k2=>by rw[h2 k k1 k2,h1 k k1 k2]
theorem zL.get {h h':T Obj}{p a n w k:Nat}{L:List Nat}{c:Array Value}{e:TypeId} (ho:zL h h' p a) (hR:RI h p a n L w) (hg:h.get k=some (.cells c e)) (h1:e≠cT) (h2:e≠dY):h'.get k=some (.cells c e):=by
 obtain⟨c1,t1⟩:=lY.p hR
 obtain⟨c2,t2⟩:=lY.a hR
 rw[ho k (mG hg t1 h1) (mG hg t2 h2)]; exact hg
theorem zL.frR {h h':T Obj}{p a n w nx:Nat}{L:List Nat} (ho:zL h h' p a) (hR:RI h p a n L w) (hf:Fr h nx):Fr h' nx:=fun k hk=>by
 obtain⟨c1,t1⟩:=lY.p hR
 obtain⟨c2,t2⟩:=lY.a hR
 have:=hf.lt' t1
 have:=hf.lt' t2
 rw[ho k (by omega) (by omega)]; exact hf k hk
theorem aHq {ro:Ro}{h:T Obj}{p a n w o nx:Nat}{L:List Nat}{K:KV} (hR:RI h p a n L w) (ho:1≤o∧o≤3) (hw:w+2≤1000000) (hK:∀ h' nx',nx≤nx'→RI h' p a n (aEl n o (L,w)).1 (aEl n o (L,w)).2→zL h h' p a→K (.tuple #[]) h' nx'):aO Tryz.prog ro yV [ptr p,.int .u8 (o:Int)] h nx K:=by
 apply aG5
 unfold aFH
 unfold aEl at hK
 refine uY (fun h3=>?_) (fun h3=>?_)
 ·rw[if_pos (by omega)] at hK
  (repeat refine zzC ?_)
  refine aA7 hR (by omega) fun h1 n1 hn1 hR1 ho1=>?_
  refine aHT hR1 (by omega) fun h2 n2 hn2 hR2 ho2=>?_
  exact⟨_,aZ.refl _,hK _ _ (by omega) hR2 (ho1.trans ho2)⟩
 ·rw[if_neg (by omega)] at hK
  (repeat refine zzC ?_)
  refine uY (fun h2=>?_) (fun h2=>?_)
  ·rw[if_pos (by omega)] at hK
   (repeat refine zzC ?_)
   refine aHS hR (by omega) fun h1 n1 hn1 hR1 ho1=>?_
   refine aHT hR1 (by omega) fun h2 n2 hn2 hR2 ho2=>?_
   exact⟨_,aZ.refl _,hK _ _ (by omega) hR2 (ho1.trans ho2)⟩
  ·rw[if_neg (by omega)] at hK
   (repeat refine zzC ?_)
   refine aHS hR (by omega) fun h1 n1 hn1 hR1 ho1=>?_
   exact⟨_,aZ.refl _,hK _ _ (by omega) hR1 ho1⟩
def SIn (D hs:T Obj) (p sb mb:Nat) (pc sc mc:List Value) (ps:List (Nat × Nat)) (C:List (Int × Int)) (h:T Obj) (nx:Nat) (rs:List RgD):Prop :=
 h.get p=some (.cells pc.toArray cE)∧h.get sb=some (.cells sc.toArray bG)∧h.get mb=some (.cells mc.toArray bR)∧aZ D h∧RsX RI h ps C rs∧eB (p::iD ps) hs h∧Fr h nx
theorem zL.subD {h0 h h':T Obj}{p a:Nat}{X:List Nat} (ho:zL h h' p a) (hp:p∈X) (ha:a∈X) (hs:aZ (del h0 X) h):aZ (del h0 X) h':=fun k o hk=>by
 have h1:=hk
 rw[lD] at h1
 split at h1
 ·cases h1
 ·rename_i hn
  rw[ho k (fun e=>hn (by rw[e]; exact hp)) (fun e=>hn (by rw[e]; exact ha))]
  exact hs k o hk
section
variable {ro:Ro}{h0 hs h h':T Obj}{X:List Nat}{p sb mb nx:Nat}{pc sc mc:List Value}{ps:List (Nat × Nat)}{C:List (Int × Int)}{rs:List RgD}{K:KV}
theorem SIn.mono {n':Nat} (hi:SIn (del h0 X) hs p sb mb pc sc mc ps C h nx rs) (hn:nx≤n'):SIn (del h0 X) hs p sb mb pc sc mc ps C h n' rs:=by
 obtain⟨g1,g2,g3,g4,g5,g6,g7⟩:=hi
 exact⟨g1,g2,g3,g4,g5,g6,g7.mono hn⟩
theorem SIn.ring {i n':Nat}{q:Nat × Nat}{c:Int × Int}{L:List Nat}{w n:Nat}{r:RgD} (hi:SIn (del h0 X) hs p sb mb pc sc mc ps C h nx rs) (hd:Dst ps) (hX:∀ k∈iD ps,k∈X) (hq:ps[i]?=some q) (hc:C[i]?=some c) (hR:RI h q.1 q.2 n L w) (hR':RI h' q.1 q.2 c.2.toNat r.1 r.2) (ho:zL h h' q.1 q.2) (hn:nx≤n') :
  SIn (del h0 X) hs p sb mb pc sc mc ps C h' n' (rs.set i r):=by
 obtain⟨g1,g2,g3,g4,g5,g6,g7⟩:=hi
 have hm:=List.mem_of_getElem? hq
 have m1:q.1∈iD ps:=jN.2 ⟨q,hm,.inl rfl⟩
 have m2:q.2∈iD ps:=jN.2 ⟨q,hm,.inr rfl⟩
 have hr:=g5.set lY hd g7 hq hc hR' fun k _ k1 k2=>ho k k1 k2
 rw[aMQ hq] at hr
 refine⟨ho.get hR g1 (by decide) (by decide),ho.get hR g2 (by decide) (by decide),ho.get hR g3 (by decide) (by decide),ho.subD (hX _ m1) (hX _ m2) g4,hr,fun k o hk hn=>?_,(ho.frR hR g7).mono hn⟩
 rw[ho k (fun e=>hn (List.mem_cons_of_mem _ (by rw[e]; exact m1))) (fun e=>hn (List.mem_cons_of_mem _ (by rw[e]; exact m2)))]
 exact g6 k o hk hn
variable {cc:List Nat}{many cur:Int}{cv sv rv:Value}{steps:Nat}{to:Int}{ov nxv:Value}{ops:List Nat}{R:List Int}
set_option maxRecDepth 8000 in
theorem aPH {e:dL}{B:Nat} (hcl:cc.length=256) (e0:e 0=ptr p) (e6:e 6=ptr mb) (e7:e 7=nxv) (hi:SIn (del h0 X) hs p sb mb (dV cc many cv sv cur rv steps) sc [.int .i64 to,ov] ps C h nx rs) (hd:Dst ps) (hX:∀ k∈iD ps,k∈X) (hP:Sl ro (del h0 X) rv 1 (mJ ps))
  (hR:ZI ro (del h0 X) nxv R) (ho:iO ro (del h0 X) ov 1 RU8 ops) (hl:ops.length=R.length) (hor:∀ o∈ops,1≤o∧o≤3) (hRl:∀ c∈R,0≤c∧c < C.length) (hR3:R.length≤3) (hB:WLe B rs) (hB2:B+8≤1000000)
  (fin:∀ h' n',nx≤n'→SIn (del h0 X) hs p sb mb (dV cc many cv sv cur rv steps) sc [.int .i64 to,ov] ps C h' n' (vP C R ops rs)→K (.bool (!decide (to=-1))) h' n'):i7 ro K e h nx:=by
 unfold i7
 rw[e7]
 refine aA hR.len ?_
 have m0:=lB (n:=many) (cv:=cv) (sv:=sv) (cur:=cur) (rv:=rv) (steps:=steps) hcl
 generalize hF:vP C R ops rs=fin0 at fin
 refine bM (fun j e h' nx'=>∃ (k:Nat) (rs':List RgD),k+j=R.length∧nx≤nx'∧e 0=ptr p∧e 6=ptr mb∧e 7=nxv∧e 92=nxv∧e 93=.int .i64 R.length∧e 94=.int .i64 k ∧
  SIn (del h0 X) hs p sb mb (dV cc many cv sv cur rv steps) sc [.int .i64 to,ov] ps C h' nx' rs'∧WLe (B+2*k) rs'∧vP C (R.drop k) (ops.drop k) rs'=fin0) ?_ (n:=R.length) ⟨0,rs,by omega,by omega,e0,e6,e7,rfl,rfl,rfl,hi.mono (by omega),hB.mono (by omega),hF⟩
 rintro j e h' nx' ⟨k,rs',hj,hnx,e0,e6,e7,e92,e93,e94,hi,hw,hF⟩ Q' hq hx
 obtain⟨g1,g2,g3,g4,g5,g6,g7⟩:=id hi
 unfold uB
 rw[e0,e6,e92,e93,e94]
 refine dS (fun hk=>?_) (fun hk=>?_)
 ·have hk:k < R.length:=by omega
  have hko:k < ops.length:=by omega
  rw[cU hk,cU hko] at hF
  have hcm:=hRl _ (List.getElem_mem hk)
  have hom:=hor _ (List.getElem_mem hko)
  have hR':=hR.sub g4
  have hP':=hP.sub g4
  have ho':=ho.sub g4 fun _ _ h=>h
  have rix:=hR'.ix .i64 hk
  have rld:=hR'.load hk
  have oix:=ho'.ix .i64 hko
  obtain⟨w,⟨ow,olt⟩,o1⟩:=ho'.at1 hko
  simp only[List.cons.injEq,and_true] at ow
  subst ow
  generalize R[k]=c at hF hcm rld
  generalize ops[k]=o at hF hom o1 olt
  change vP C _ _ (rs'.set c.toNat (aEl (iE C c).2.toNat o (kW rs' c)))=fin0 at hF
  obtain⟨q,hq',hri⟩:=g5.at hcm.1 hcm.2
  have hpi:=hP'.ixI .i64 hcm.1 (by rw[gN,g5.1]; exact hcm.2)
  have hp1:=hP'.load1 (p9 hq')
  have hwc:=hw.at c
  have hci:C[c.toNat]?=some (iE C c):=by rw[← xY hcm.1 hcm.2]; exact List.getElem?_eq_getElem _
  (have zz:=And.intro @aR (And.intro rix (And.intro rld (And.intro g1 (And.intro m0 (And.intro hpi (And.intro hp1 (And.intro g3 (And.intro oix o1))))))));repeat refine zzCz ?_)
  refine aHq hri hom (by omega) fun h2 n2 hn2 hR2 ho2=>?_
  have hwo:=aNM (iE C c).2.toNat o (kW rs' c)
  (repeat refine zzC ?_)
  exact hq (j - 1) _ _ _ _ (by omega) ⟨k+1,_,by omega,by omega,e0,e6,e7,e92,e93,rfl,hi.ring (r:=aEl (iE C c).2.toNat o (kW rs' c)) hd hX hq' hci hri hR2 ho2 (by omega),(hw.mono (by omega)).set (by omega),hF⟩ (aZ.refl _)
 ·(repeat refine zzC ?_)
  refine hx _ _ _ _ (fun e=>by cases e) (eE (dG ?_))
  rw[gG (by omega)] at hF
  have hF:rs'=fin0:=hF
  subst hF
  have hj3:∀ (e':dL) n',e' 6=ptr mb→nx'≤n'→lE ro K e' h' n':=by
   intro e' n' f6 hn
   unfold lE
   rw[f6]
   (have zz:=g3;repeat refine zzCz ?_)
   refine aA (bI _ _ _) ?_
   exact⟨h',aZ.refl _,fin _ _ (by omega) (hi.mono (by omega))⟩
  exact hj3 _ _ e6 (by omega)
set_option maxRecDepth 8000 in
theorem aPG {e:dL}{B:Nat}{lv rv' uv nv:Value}{S:List Int} (hcl:cc.length=256) (e0:e 0=ptr p) (e5:e 5=ptr sb) (e6:e 6=ptr mb) (e7:e 7=nxv) (hi:SIn (del h0 X) hs p sb mb (dV cc many cv sv cur rv steps) [lv,rv',uv,nv] [.int .i64 to,ov] ps C h nx rs) (hd:Dst ps) (hX:∀ k∈iD ps,k∈X) (hP:Sl ro (del h0 X) rv 1 (mJ ps))
  (hS:ZI ro (del h0 X) rv' S) (hSl:∀ c∈S,0≤c∧c < C.length) (hS3:S.length≤3)
  (hR:ZI ro (del h0 X) nxv R) (ho:iO ro (del h0 X) ov 1 RU8 ops) (hl:ops.length=R.length) (hor:∀ o∈ops,1≤o∧o≤3) (hRl:∀ c∈R,0≤c∧c < C.length) (hR3:R.length≤3) (hB:WLe B rs) (hB2:B+20≤1000000)
  (fin:∀ h' n',nx≤n'→SIn (del h0 X) hs p sb mb (dV cc many cv sv cur rv steps) [lv,rv',uv,nv] [.int .i64 to,ov] ps C h' n' (vP C R ops (rJ R S rs))→K (.bool (!decide (to=-1))) h' n'):i6 ro K e h nx:=by
 unfold i6
 rw[e5]
 have g2:=hi.2.1
 have hSh:=(hS.sub hi.2.2.2.1).len
 (have zz:=And.intro g2 hSh;repeat refine zzCz ?_)
 have m0:=lB (n:=many) (cv:=cv) (sv:=sv) (cur:=cur) (rv:=rv) (steps:=steps) hcl
 generalize hF:rJ R S rs=fin0 at fin
 refine bM (fun j e h' nx'=>∃ (k:Nat) (rs':List RgD),k+j=S.length∧nx≤nx'∧e 0=ptr p∧e 6=ptr mb∧e 7=nxv∧e 73=rv'∧e 74=.int .i64 S.length∧e 75=.int .i64 k ∧
  SIn (del h0 X) hs p sb mb (dV cc many cv sv cur rv steps) [lv,rv',uv,nv] [.int .i64 to,ov] ps C h' nx' rs'∧WLe (B+2*k) rs'∧rJ R (S.drop k) rs'=fin0) ?_ (n:=S.length) ⟨0,rs,by omega,by omega,e0,e6,e7,rfl,rfl,rfl,hi.mono (by omega),hB.mono (by omega),hF⟩
 rintro j e h' nx' ⟨k,rs',hj,hnx,e0,e6,e7,e73,e74,e75,hi,hw,hF⟩ Q' hq hx
 obtain⟨g1,g2,g3,g4,g5,g6,g7⟩:=id hi
 unfold uC
 rw[e0,e7,e73,e74,e75]
 refine dS (fun hk=>?_) (fun hk=>?_)
 ·have hk:k < S.length:=by omega
  rw[cU hk] at hF
  have hcm:=hSl _ (List.getElem_mem hk)
  have hS':=hS.sub g4
  have hR':=hR.sub g4
  have hP':=hP.sub g4
  have six:=hS'.ix .i64 hk
  have sld:=hS'.load hk
  generalize S[k]=c at hF hcm sld
  change rJ R _ (if R.contains c then rs' else rs'.set c.toNat (aDM (kW rs' c)))=fin0 at hF
  obtain⟨q,hq',hri⟩:=g5.at hcm.1 hcm.2
  have hpi:=hP'.ixI .i64 hcm.1 (by rw[gN,g5.1]; exact hcm.2)
  have hp1:=hP'.load1 (p9 hq')
  have hwc:=hw.at c
  have hci:C[c.toNat]?=some (iE C c):=by rw[← xY hcm.1 hcm.2]; exact List.getElem?_eq_getElem _
  have hj4:∀ (e':dL) h2 n2 rs2,e' 0=ptr p→e' 6=ptr mb→e' 7=nxv→e' 73=rv'→e' 74=.int .i64 S.length→e' 75=.int .i64 k→nx≤n2→SIn (del h0 X) hs p sb mb (dV cc many cv sv cur rv steps) [lv,rv',uv,nv] [.int .i64 to,ov] ps C h2 n2 rs2→WLe (B+2*(k+1)) rs2→rJ R (S.drop (k+1)) rs2=fin0→lF ro Q' e' h2 n2:=by
   intro e' h2 n2 rs2 f0 f6 f7 f73 f74 f75 hn hi2 hw2 hF2
   unfold lF
   rw[f75]
   (repeat refine zzC ?_)
   exact hq (j - 1) _ _ _ _ (by omega) ⟨k+1,rs2,by omega,by omega,f0,f6,f7,f73,f74,rfl,hi2.mono (by omega),hw2,hF2⟩ (aZ.refl _)
  (have zz:=And.intro six sld;repeat refine zzCz ?_)
  refine yO (by omega) hR' fun n2 hn2=>?_
  cases hcn:R.contains c with
  | true =>
   rw[hcn,if_pos rfl] at hF
   (repeat refine zzC ?_)
   exact hj4 _ _ _ rs' e0 e6 e7 e73 e74 e75 (by omega) (hi.mono (by omega)) (hw.mono (by omega)) hF
  | false =>
   rw[hcn,if_neg (by decide)] at hF
   (have zz:=And.intro @aR (And.intro g1 (And.intro m0 (And.intro hpi hp1)));repeat refine zzCz ?_)
   refine aA7 hri (by omega) fun h2 n3 hn3 hR2 ho2=>?_
   exact hj4 _ _ _ _ e0 e6 e7 e73 e74 e75 (by omega) (hi.ring (r:=aDM (kW rs' c)) hd hX hq' hci hri hR2 ho2 (by omega)) ((hw.mono (by omega)).set (by show (kW rs' c).2+1≤_; omega)) hF
 ·(repeat refine zzC ?_)
  refine hx _ _ _ _ (fun e=>by cases e) (eE (dG ?_))
  rw[gG (by omega)] at hF
  have hF:rs'=fin0:=hF
  subst hF
  have hj2:∀ (e':dL) n',e' 0=ptr p→e' 6=ptr mb→e' 7=nxv→nx'≤n'→i7 ro K e' h' n':=fun e' n' f0 f6 f7 hn =>
   aPH hcl f0 f6 f7 (hi.mono hn) hd hX hP hR ho hl hor hRl hR3 hw (by omega) fun h2 n2 hn2 hi2=>fin h2 n2 (by omega) hi2
  exact hj2 _ _ e0 e6 e7 (by omega)
end
end V
end Go.Proofs.YtcaccnneblghgaaGreat